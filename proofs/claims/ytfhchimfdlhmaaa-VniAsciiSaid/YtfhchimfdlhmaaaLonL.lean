/- What is proved here: what an append does in the model. Conditions: those that each theorem names, and no others. -/
import Derived.Test.YtfhchimfdlhmaaaLonK
/-! append is sound. -/
set_option linter.unusedSimpArgs false
set_option linter.unusedVariables false
namespace Lon
open Go

section
variable {P : Program} {σ : Sig} {nt base : Nat} {e : Env} {a : Act} {o : Oper} {H H' : AHeap} {w : World}

theorem cells_rel (hh : HR P σ base H w) {sz : Nat} {p : Option Addr} {n c : Nat} {cs : List Value} {v' : Value} (hc : cellsOf H sz (.slice p n c) = some cs) (hv : VR σ (.slice p n c) v') :
    ∃ A c' ds, v' = .slice A n c' ∧ VRs σ cs ds ∧ cs.length = n * sz ∧ (A = none → n = 0 ∧ p = none) ∧ (p = none → A = none ∧ n = 0 ∧ c' = 0) ∧ ∀ ad, A = some ad → ∀ j v, ds[j]? = some v → w.cell? (ad.add j) = some v := by
  unfold cellsOf at hc
  split at hc
  · injection hc with hc
    rename_i heq
    injection heq with h1 h2 h3
    subst h1 h2 h3 hc
    cases hv
    exact ⟨none, 0, [], rfl, .nil, (by simp), (fun _ => ⟨rfl, rfl⟩), (fun _ => ⟨rfl, rfl, rfl⟩), (fun ad h => by cases h)⟩
  · rename_i i off n0 c0 heq
    injection heq with h1 h2 h3
    subst h1 h2 h3
    obtain ⟨l, f', c', hl, rfl, hf', hnc, hcc, hc0, htot⟩ := VR.slice_inv hv
    split at hc
    · rename_i hn0
      injection hc with hc
      subst hc hn0
      exact ⟨some ⟨l.b, f', none⟩, c', [], rfl, .nil, (by simp), (fun h => by cases h), (fun h => by cases h), (fun ad _ j v hj => by simp at hj)⟩
    · rename_i hn0
      split at hc
      · rename_i blk hg
        split at hc
        · rename_i hm
          injection hc with hc
          subst hc
          obtain ⟨ds, h1, h2⟩ := hh.rowOf hg hm.1 hl off (n * sz) hm.2
          refine ⟨some ⟨l.b, f', none⟩, c', ds, rfl, h1, (by simp; omega), (fun h => by cases h), (fun h => by cases h), (fun ad had j v hj => ?_)⟩
          injection had with had
          subst had
          rw [add_addr, hf' (by omega), Nat.add_assoc]
          exact h2 j v hj
        · cases hc
      · cases hc
  · injection hc with hc
    rename_i heq
    injection heq with h1 h2 h3
    subst h1 h2 h3 hc
    cases hv
    exact ⟨some _, 0, [], rfl, .nil, (by simp), (fun h => by cases h), (fun h => by cases h), (fun ad _ j v hj => by simp at hj)⟩
  · cases hc

theorem run_exec_append {args : Array Operand} {ts : Array TypeId} {s x : Operand} {t : TypeId} {v u r : Value} {w' : World} (ho : o.op = .call ⟨.builtin .append, args, ts⟩) (ha : args.toList = [s, x]) (ht : ts.toList = [t, t]) (hs : a.eval s = v) (hx : a.eval x = u)
    (hr : (Builtin.append_ #[t, t] o.type #[v, u]).run P w = .ok r w') : (execOp a.eval o).run P w = .ok (.value r) w' := by
  obtain ⟨args⟩ := args
  obtain ⟨ts⟩ := ts
  simp only at ha ht
  subst ha ht
  unfold execOp
  simp only [ho, resolve, invoke, builtin, Sem.run_bind, Sem.run_pure, Result.andThen_ok, List.map_toArray, List.map_cons, List.map_nil, hs, hx, hr]

/-- Nothing is appended. -/
theorem run_append_zero {t ty el : TypeId} {i : TypeInfo} (hu : P.underlying t = some (.slice el)) (hi : P.info? el = some i) (A A' : Option Addr) (n c c' : Nat) (hnc : n ≤ c) :
    (Builtin.append_ #[t, t] ty #[.slice A n c, .slice A' 0 c']).run P w = .ok (.slice A n c) w := by
  cases A <;> cases A' <;> simp [Builtin.append_, run_und hu, Go.sizeOf, typeInfo, hi, Builtin.lenOf, hnc, Builtin.firstCells, loadCells, loadCellsFrom, storeCells]

/-- There is room. -/
theorem run_append_room' {t ty el : TypeId} {i : TypeInfo} (hu : P.underlying t = some (.slice el)) (hi : P.info? el = some i) (g f n c : Nat) {cur : Array Value} {e0 : TypeId} (hg : w.heap[g]? = some (.cells cur e0 (0, 0)))
    (ad : Addr) (m c' : Nat) {news : List Value} (hl : news.length = m * i.size) (hnews : ∀ j u, news[j]? = some u → w.cell? (ad.add j) = some u) (h1 : ∀ u ∈ news, u.oneCell' = true) (hroom : n + m ≤ c) (hfit : f + n * i.size + news.length ≤ cur.size) :
    (Builtin.append_ #[t, t] ty #[.slice (some ⟨g, f, none⟩) n c, .slice (some ad) m c']).run P w =
      .ok (.slice (some ⟨g, f, none⟩) (n + m) c) (w.setRow g (cur.toList.take (f + n * i.size) ++ news ++ cur.toList.drop (f + n * i.size + news.length)).toArray) := by
  have hf := run_firstCells_some (P := P) w i.size m ad m c' news hl hnews
  have hst := run_storeCells_at P g (f + n * i.size) e0 news 0 cur w hg (by simpa using hfit) h1
  simp only [Nat.add_zero] at hst
  simp [Builtin.append_, run_und hu, Go.sizeOf, typeInfo, hi, Builtin.lenOf, hroom, hf, add_addr, hst]

theorem grown_fits {w : World} {n m sz zs old : Nat} {el : TypeId} (hz : zs = sz) : (n + m) * sz + (grownCap w (n + m) old el - (n + m)) * zs = grownCap w (n + m) old el * sz := by
  subst hz
  have := grownCap_ge w (n + m) old el
  rw [← Nat.add_mul]
  congr 1
  omega

/-- A new row is laid. -/
theorem StepOK.grown {H1 : AHeap} (hh : HR P σ base H w) (hb : base ≤ w.heap.size) (h1 : HR P σ base H1 w) (hf1 : Fr σ σ H H1 w w) {A : List Nat} (hA : ∀ i ∈ A, i < H1.n ∧ ∀ bi, H1.get i = some bi → bi.st.own = true → bi.st = .ret)
    {cells : List Value} {ds : List Value} (hc : VRs σ cells ds) {el : TypeId} {i : TypeInfo} {z : Value} (hi : P.info? el = some i) (hzs : z.cells.size = i.size) {n m old : Nat} (hlen : ds.length = (n + m) * i.size) (h0 : 0 < n + m)
    (hr : (execOp a.eval o).run P w = .ok (.value (.slice (some ⟨w.heap.size, 0, none⟩) (n + m) (grownCap w (n + m) old el))) (w.drew.alloc (.cells (ds.toArray ++ Builtin.zeroCells z.cells (grownCap w (n + m) old el - (n + m))) el))) :
    StepOK P base σ H w o a (.slice (some ⟨H1.n, 0, none⟩) (n + m) (n + m + 1)) (H1.push ⟨cells, el, .tip, 0, A⟩) := by
  have hd := h1.drewN (w.drawn + 1)
  have hcs : VRs σ cells ((ds.toArray ++ Builtin.zeroCells z.cells (grownCap w (n + m) old el - (n + m))).toList.take cells.length) := by
    have : (ds.toArray ++ Builtin.zeroCells z.cells (grownCap w (n + m) old el - (n + m))).toList.take cells.length = ds := by
      simp only [Array.toList_append]
      rw [← hc.length, List.take_left']
      simp
    rw [this]; exact hc
  have hsize : (ds.toArray ++ Builtin.zeroCells z.cells (grownCap w (n + m) old el - (n + m))).size = grownCap w (n + m) old el * i.size := by
    have := grown_fits (w := w) (n := n) (m := m) (old := old) (el := el) hzs
    simp only [Array.size_append, List.size_toArray, size_zeroCells, hlen]
    exact this
  have hp := hd.pushBig (by simpa using hb) hcs (by rw [hsize, ← hc.length, hlen]; exact Nat.mul_le_mul_right _ (grownCap_ge w (n + m) old el)) (elem := el) (sz := i.size) (by simp [hi]) A hA
  refine StepOK.value hr ?_ hp ((hf1.trans (Fr.drewN σ H1 w (w.drawn + 1))).trans (Fr.push hd _ _ _ rfl))
  refine .slice _ _ _ _ _ _ _ (ext_new _ _ _) (fun _ => by simp) (grownCap_ge _ _ _ _) (by have := grownCap_ge w (n + m) old el; omega) (fun h => by omega) ?_
  simp only [hsize, Nat.zero_add]
  exact Nat.le_refl _
end
end Lon
