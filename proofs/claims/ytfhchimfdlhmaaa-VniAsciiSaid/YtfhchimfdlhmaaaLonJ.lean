/- What is proved here: that new blocks, stores and calls are sound. Conditions: those that each theorem names, and no others. -/
import Derived.Test.YtfhchimfdlhmaaaLonI
/-! The operations that make and write memory, and calls. -/
set_option linter.unusedSimpArgs false
set_option linter.unusedVariables false
namespace Lon
open Go

theorem zeroOf_inv {P : Program} {t : TypeId} {z : List Value} (h : zeroOf P t = some z) : ∃ i v, P.info? t = some i ∧ i.zero = some v ∧ v.cells.toList = z := by
  unfold zeroOf at h
  cases hi : P.info? t with
  | none => rw [hi] at h; cases h
  | some i =>
    rw [hi] at h
    simp only [Option.bind_some] at h
    cases hz : i.zero with
    | none => rw [hz] at h; cases h
    | some v =>
      rw [hz] at h
      simp only [Option.map_some, Option.some.injEq] at h
      exact ⟨i, v, rfl, hz, h⟩
theorem range_cells (z : Array Value) : ∀ n, ((Array.range (n * z.size)).map (fun k => z[k % z.size]!)).toList = (List.replicate n z.toList).flatten
  | 0 => by simp
  | n + 1 => by
    have ih := range_cells z n
    simp only [Array.toList_map, Array.toList_range] at ih ⊢
    rw [List.replicate_succ', List.flatten_append, ← ih, Nat.succ_mul, List.range_add, List.map_append]
    congr 1
    simp only [List.map_map, List.flatten_cons, List.flatten_nil, List.append_nil]
    apply List.ext_getElem?
    intro k
    simp only [List.getElem?_map]
    by_cases hk : k < z.size
    · rw [List.getElem?_range hk]
      simp only [Option.map_some, Function.comp]
      rw [Nat.mul_comm n, Nat.mul_add_mod, Nat.mod_eq_of_lt hk]
      simp [hk]
    · rw [List.getElem?_eq_none (by simp; omega), List.getElem?_eq_none (by simp; omega)]
      rfl

def Enters (P : Program) (g : FuncId) : Prop := ∃ fn, P.funcs[g]? = some fn ∧ fn.body.isNone = false ∧ (fn.name == "runtime.NumGoroutine") = false
/-- A call comes to what the interpreter says. -/
def Sim (P : Program) (base : Nat) (g : FuncId) (args : List Value) (H : AHeap) (v : Value) (H' : AHeap) : Prop :=
  Enters P g ∧ VerLe H H' ∧ ∀ σ w args', VRs σ args args' → HR P σ base H w → base ≤ w.heap.size →
    Calls P g ⟨args'⟩ w fun e w' => ∃ σ' v', e = .returned v' ∧ VR σ' v v' ∧ HR P σ' base H' w' ∧ Fr σ σ' H H' w w'

section
variable {P : Program} {σ : Sig} {nt base : Nat} {e : Env} {a : Act} {o : Oper} {H H' : AHeap} {w : World}

/-- A new block: what the model lays, and what leads to it. -/
def NewOK (P : Program) (σ : Sig) (o : Oper) (a : Act) (i : Nat) (blk : ABlk) (v : Value) : Prop :=
  blk.st = .tip ∧ blk.ver = 0 ∧ blk.anc = [] ∧ ∃ (cs : Array Value) (sz : Nat), VRs σ blk.cells cs.toList ∧ szOf P blk.elem = some sz ∧
    ∀ w : World, ∃ v', (execOp a.eval o).run P w = .ok (.value v') (w.alloc (.cells cs blk.elem)) ∧ ∀ σ' : Sig, σ' i = some ⟨w.heap.size, 0, cs.size, sz⟩ → VR σ' v v'
theorem ext_new (σ : Sig) (i : Nat) (l : Loc) : ext σ i l i = some l := by simp [ext]
theorem StepOK.new (hh : HR P σ base H w) (hb : base ≤ w.heap.size) {blk : ABlk} {v : Value} (h : NewOK P σ o a H.n blk v) : StepOK P base σ H w o a v (H.push blk) := by
  obtain ⟨h1, h2, h3, cs, sz, hc, hs, hr⟩ := h
  obtain ⟨v', hr1, hr2⟩ := hr w
  obtain ⟨cells, elem, st, ver, anc⟩ := blk
  simp only at h1 h2 h3
  subst h1 h2 h3
  exact .value hr1 (hr2 _ (ext_new _ _ _)) (hh.push hb hc hs [] (fun _ h => absurd h (by simp))) (Fr.push hh _ _ _ rfl)

theorem sound_alloc (her : ER σ nt e a) {el : TypeId} {z : List Value} (ho : o.op = .alloc el) (hz : zeroOf P el = some z) (ha : z.all atom = true) (i : Nat) :
    NewOK P σ o a i ⟨z, el, .tip, 0, []⟩ (.pointer (some ⟨i, 0, none⟩)) := by
  obtain ⟨ti, v, hi, hv, rfl⟩ := zeroOf_inv hz
  refine ⟨rfl, rfl, rfl, v.cells, ti.size, VRs.of_atoms ha, by simp [szOf, hi], fun w => ⟨.pointer (some ⟨w.heap.size, 0, none⟩), ?_, fun σ' h => .ptr _ 0 _ h⟩⟩
  simp [execOp, ho, Instr.alloc, zeroValue, typeInfo, hi, hv, newVar, newRow]
theorem sound_box (her : ER σ nt e a) {el : TypeId} {x : Operand} {s : Nat} (ho : o.op = .box el x) (hs : szOf P el = some s) (hx : solid (ev e x) = true) (i : Nat) :
    NewOK P σ o a i ⟨(ev e x).cells.toList, el, .tip, 0, []⟩ (.pointer (some ⟨i, 0, none⟩)) := by
  refine ⟨rfl, rfl, rfl, (a.eval x).cells, s, VR.solid_cells hx (ev_rel her x), hs, fun w => ⟨.pointer (some ⟨w.heap.size, 0, none⟩), ?_, fun σ' h => .ptr _ 0 _ h⟩⟩
  simp [execOp, ho, Instr.box, newVar, newRow]
theorem PR.partsA (her : ER σ nt e a) (s : Nat) : ∀ l : List (Nat × Operand), PR σ (fun i => some (i * s, s)) (evParts e (Lon.partsA s l)) (l.map fun p => (p.1, a.eval p.2))
  | [] => .nil
  | (i, x) :: r => .cons i (i * s) s _ _ _ _ rfl (ev_rel her x) (PR.partsA her s r)
theorem sound_bslice (her : ER σ nt e a) {t el : TypeId} {n s : Nat} {z : List Value} {parts : Array (Nat × Operand)} (ho : o.op = .buildSlice t n parts) (hu : P.underlying t = some (.slice el))
    (hs : szOf P el = some s) (hz : zeroOf P el = some z) (ha : z.all atom = true) (hl : z.length = s) (hn : n * s ≤ 16777216) (hk : okParts (n * s) (evParts e (Lon.partsA s parts.toList)) = true) (j : Nat) :
    NewOK P σ o a j ⟨lay ((List.replicate n z).flatten) (dropSz (evParts e (Lon.partsA s parts.toList))), el, .tip, 0, []⟩ (.slice (some ⟨j, 0, none⟩) n (n + 1)) := by
  obtain ⟨i, v, hi, hv, rfl⟩ := zeroOf_inv hz
  have hvs : v.cells.size = s := by simpa using hl
  have hflat : ∀ m, ((List.replicate m v.cells.toList).flatten).length = m * s := by intro m; simp [hvs]
  have h0 : VRs σ ((List.replicate n v.cells.toList).flatten) ((Array.range (n * s)).map (fun k => (if n * s = 0 then (#[] : Array Value) else v.cells)[k % (if n * s = 0 then (#[] : Array Value) else v.cells).size]!)).toList := by
    by_cases h00 : n * s = 0
    · have : (List.replicate n v.cells.toList).flatten = [] := List.eq_nil_of_length_eq_zero (by rw [hflat]; exact h00)
      rw [this, h00]
      simp
      exact .nil
    · simp only [h00, if_false]
      have hr := range_cells v.cells n
      rw [hvs] at hr
      simp only [hvs]
      rw [hr]
      refine VRs.of_atoms ?_
      rw [List.all_eq_true]
      intro x hx
      simp only [List.mem_flatten, List.mem_replicate] at hx
      obtain ⟨l, ⟨_, rfl⟩, hx⟩ := hx
      exact List.all_eq_true.1 ha x hx
  obtain ⟨ds, hf, hd⟩ := fill_rel (PR.partsA her s parts.toList) h0 (by rw [hflat]; exact hk)
  have hds : ds.size = n * s := by
    have h1 := hd.length
    rw [lay_length _ _ (by rw [hflat]; exact hk), hflat] at h1
    simpa using h1
  refine ⟨rfl, rfl, rfl, ds, s, hd, hs, fun w => ⟨.slice (some ⟨w.heap.size, 0, none⟩) n n, ?_, fun σ' h => ?_⟩⟩
  · have hf' := hf
    by_cases h00 : n * s = 0
    · simp only [h00, if_true] at hf'
      simp at hf'
      simp [execOp, ho, Instr.buildSlice, run_und hu, run_szOf hs, h00, hf', newRow]
    · simp only [h00, if_false] at hf'
      have hn2 : ¬ (16777216 < n * s) := by omega
      simp only [execOp, ho, Instr.buildSlice, Sem.run_bind, run_und hu, Result.andThen_ok, run_szOf hs, Sem.run_ite, if_neg h00]
      rw [if_neg (by simpa using hn2)]
      simp [zeroValue, typeInfo, hi, hv, hf', newRow]
  · refine .slice _ _ _ _ _ _ _ h (fun _ => by simp) (Nat.le_refl _) (Nat.le_refl _) (fun h => by omega) ?_
    simp [hds]

theorem killAll_elem : ∀ (l : List Nat) {H : AHeap} {j : Nat} {b : ABlk}, (killAll H l).get j = some b → ∃ b0, H.get j = some b0 ∧ b.elem = b0.elem
  | [], _, _, b, h => ⟨b, h, rfl⟩
  | i :: r, H, j, b, h => by
    simp only [killAll] at h
    obtain ⟨b1, h1, h2⟩ := killAll_elem r h
    obtain ⟨b2, h3, h4, _⟩ := kill1_sub H i j b1 h1
    exact ⟨b2, h3, h2.trans h4⟩
theorem storeA_inv {p v : Value} {n : Nat} (h : storeA H p v n = some H') : ∃ i off blk, p = .pointer (some ⟨i, off, none⟩) ∧ H.get i = some blk ∧ blk.st = .tip ∧ v.cells.toList.length = n ∧ v.cells.toList.all one = true ∧ off + n ≤ blk.cells.length ∧
    H' = (killAll H blk.anc).upd i ⟨blk.cells.take off ++ v.cells.toList ++ blk.cells.drop (off + n), blk.elem, .tip, blk.ver + 1, []⟩ := by
  unfold storeA at h
  split at h
  · rename_i i off
    split at h
    · rename_i blk hg
      split at h
      · rename_i hc
        injection h with h
        exact ⟨i, off, blk, rfl, hg, hc.1, hc.2.1, hc.2.2.1, hc.2.2.2, h.symm⟩
      · cases h
    · cases h
  · cases h
theorem solid_of_one {v : Value} (h : v.cells.toList.all one = true) : solid v = true := by
  cases v <;> first | rfl | (simp [Value.cells, one] at h; done)
theorem one_rel {u u' : Value} (h : one u = true) (r : VR σ u u') : u'.oneCell' = true := by
  cases r <;> first | rfl | (simp [one] at h; done)
theorem ones_rel {xs ys : List Value} (h : xs.all one = true) (r : VRs σ xs ys) : ∀ u ∈ ys, u.oneCell' = true := by
  intro u hu
  obtain ⟨k, hk⟩ := List.mem_iff_getElem?.1 hu
  have hlt : k < ys.length := (List.getElem?_eq_some_iff.1 hk).1
  rw [r.length] at hlt
  obtain ⟨u', h1, h2⟩ := r.get (List.getElem?_eq_getElem hlt)
  rw [hk] at h1
  injection h1 with h1
  subst h1
  exact one_rel (List.all_eq_true.1 h _ (List.getElem_mem hlt)) h2

theorem Fr.stored (hh : HR P σ base H w) {i : Nat} {b b' : ABlk} {l : Loc} (hg : H.get i = some b) (ht : b.st = .tip) (hl : σ i = some l) (ht' : b'.st = .tip) (he : b'.elem = b.elem) (hv : b.ver < b'.ver) (cur' : Array Value) :
    Fr σ σ H ((killAll H b.anc).upd i b') w (w.setRow l.b cur') := by
  have hni : i ∉ b.anc := fun hm => by
    have := hh.anc hg hg (by rw [ht]; rfl) (by rw [ht]; rfl) hm
    rw [ht] at this; cases this
  have hgk : (killAll H b.anc).get i = some b := by rw [killAll_get_not _ _ _ hni]; exact hg
  refine ⟨Sub.refl _, fun _ _ => rfl, by simp [killAll_n], rfl, rfl, rfl, by simp [World.setRow], ?_, ?_, ?_⟩
  · intro k hk hno
    have := hno i b l hg (by rw [ht]; rfl) hl
    simp only [World.setRow, Array.getElem?_modify]
    rw [if_neg this]
  · intro j bj lj hj ha hlj
    rw [AHeap.get_upd hgk] at hj
    split at hj
    · rename_i e1
      subst e1
      exact .inr ⟨j, b, lj, hg, by rw [ht]; rfl, hlj, rfl⟩
    · obtain ⟨h1, h2⟩ := killAll_alive hj (own_ne_dead (act_own ha))
      exact .inr ⟨j, bj, lj, h2, ha, hlj, rfl⟩
  · intro j bj hj
    by_cases e1 : j = i
    · subst e1
      rw [hg] at hj
      injection hj with hj
      subst hj
      exact ⟨b', by rw [AHeap.get_upd hgk, if_pos rfl], by omega, he, fun e => by omega⟩
    · obtain ⟨b2, h1, h2, h3⟩ := killAll_get_ex b.anc H j bj hj
      refine ⟨b2, by rw [AHeap.get_upd hgk, if_neg e1]; exact h1, h2, ?_, fun e => ?_⟩
      · obtain ⟨b3, h4, h5⟩ := killAll_elem b.anc h1
        rw [hj] at h4
        injection h4 with h4
        subst h4
        exact h5
      · have := h3 e
        subst this
        exact ⟨rfl, id, id⟩

theorem sound_store (her : ER σ nt e a) (hh : HR P σ base H w) {t : TypeId} {p x : Operand} {n : Nat} (ho : o.op = .store t p x) (hs : szOf P t = some n)
    (h : storeA H (ev e p) (ev e x) n = some H') : StepOK P base σ H w o a (.tuple ⟨[]⟩) H' := by
  obtain ⟨i, off, blk, hp, hg, ht, hlen, hone, hle, rfl⟩ := storeA_inv h
  obtain ⟨l, hl, hp'⟩ := VR.ptr_inv (hp ▸ ev_rel her p)
  have hvc := VR.solid_cells (solid_of_one hone) (ev_rel her x)
  have h1 := ones_rel hone hvc
  have hlen' : (a.eval x).cells.toList.length = n := by rw [hvc.length]; exact hlen
  obtain ⟨cur, e0, hw, htot⟩ := hh.row hg (by rw [ht]; rfl) hl
  -- the block's cells are there
  have hin : l.f + blk.cells.length ≤ cur.size := by
    have := hh.fits hg (by rw [ht]; rfl) hl
    omega
  have hrun := run_storeCells_at P l.b (l.f + off) e0 (a.eval x).cells.toList 0 cur w hw (by rw [hlen']; omega) h1
  simp only [Nat.add_zero] at hrun
  have hstep : (execOp a.eval o).run P w = .ok .skip (w.setRow l.b (cur.toList.take (l.f + off) ++ (a.eval x).cells.toList ++ cur.toList.drop (l.f + off + (a.eval x).cells.toList.length)).toArray) := by
    have hsz : (a.eval x).cells.size = n := by simpa using hlen'
    simp only [execOp, ho, hp', Instr.storeAt, Instr.sureAddr, Sem.run_bind, Sem.run_pure, Result.andThen_ok, storeVar, run_szOf hs, Sem.run_ite]
    rw [if_neg (by simp [hsz])]
    simp only [Sem.run_pure, Result.andThen_ok, hrun]
  have hcurl : cur.toList.length = cur.size := by simp
  refine StepOK.skip hstep (hh.stored hg ht hl hw ?_ ?_ ?_) ?_
  rotate_left 3
  · refine Fr.stored hh hg ht hl ?_ ?_ ?_ _ <;> simp
  · simp [hlen']; omega
  · simp [hlen]; omega
  · intro k v hk
    simp only [List.getElem?_toArray]
    by_cases c1 : k < off
    · rw [List.append_assoc, List.getElem?_append_left (by simp; omega), List.getElem?_take, if_pos c1] at hk
      obtain ⟨v', hc, hv⟩ := hh.cells hg (by rw [ht]; rfl) hl hk
      refine ⟨v', ?_, hv⟩
      rw [List.append_assoc, List.getElem?_append_left (by simp; omega), List.getElem?_take, if_pos (by omega)]
      simp only [World.cell?, hw] at hc
      simpa using hc
    · by_cases c2 : k < off + n
      · rw [List.getElem?_append_left (by simp [hlen]; omega), List.getElem?_append_right (by simp; omega)] at hk
        have e1 : (blk.cells.take off).length = off := by simp; omega
        rw [e1] at hk
        obtain ⟨v', h3, h4⟩ := hvc.get hk
        refine ⟨v', ?_, h4⟩
        have e2 : (cur.toList.take (l.f + off)).length = l.f + off := by simp; omega
        rw [List.getElem?_append_left (by simp [hlen']; omega), List.getElem?_append_right (by rw [e2]; omega), e2]
        rw [show l.f + k - (l.f + off) = k - off by omega]
        exact h3
      · rw [List.getElem?_append_right (by simp [hlen]; omega), List.getElem?_drop] at hk
        have e1 : (blk.cells.take off ++ (ev e x).cells.toList).length = off + n := by simp [hlen]; omega
        rw [e1] at hk
        rw [show off + n + (k - (off + n)) = k by omega] at hk
        obtain ⟨v', hc, hv⟩ := hh.cells hg (by rw [ht]; rfl) hl hk
        refine ⟨v', ?_, hv⟩
        have e2 : (cur.toList.take (l.f + off) ++ (a.eval x).cells.toList).length = l.f + off + n := by simp [hlen']; omega
        rw [List.getElem?_append_right (by rw [e2]; omega), e2, List.getElem?_drop, hlen']
        rw [show l.f + off + n + (l.f + k - (l.f + off + n)) = l.f + k by omega]
        simp only [World.cell?, hw] at hc
        simpa using hc

theorem sound_call {cf : CallF} (hcf : ∀ g args H v H', cf g args H = some (v, H') → Sim P base g args H v H') (her : ER σ nt e a) (hh : HR P σ base H w) (hb : base ≤ w.heap.size) {f : Operand} {args : Array Operand} {ts : Array TypeId}
    (ho : o.op = .call ⟨.value f, args, ts⟩) {v : Value} (h : stepA P cf e H (.call f args.toList) = some (v, H')) : StepOK P base σ H w o a v H' := by
  simp only [stepA] at h
  split at h
  · rename_i g first captured hf
    obtain ⟨first', captured', hf', h1, h2⟩ := VR.func_inv (hf ▸ ev_rel her f)
    obtain ⟨⟨fn, hfn, hbody, hname⟩, _, hcalls⟩ := hcf _ _ _ _ _ h
    have hargs : VRs σ (first.toList ++ args.toList.map (ev e) ++ captured.toList) (first'.toList ++ args.toList.map a.eval ++ captured'.toList) := (h1.append (VRs.map her args.toList)).append h2
    have hc := hcalls σ w _ hargs hh hb
    intro next Q hnext
    unfold Oper.wp
    have hrun : (execOp a.eval o).run P w = .ok (.enter g (first' ++ args.map a.eval ++ captured')) w := by
      have hn' : ¬ fn.name = "runtime.NumGoroutine" := by simpa using hname
      have hb' : ¬ fn.body = none := by intro e; rw [e] at hbody; cases hbody
      simp [execOp, ho, resolve, hf', Deferred.ofValue, invoke, callFunc, hfn, hn', hb']
    rw [hrun]
    have he : (first' ++ args.map a.eval ++ captured') = ⟨first'.toList ++ args.toList.map a.eval ++ captured'.toList⟩ := by
      apply Array.toList_inj.1
      simp
    simp only [Oper.upon]
    rw [he]
    refine Calls.mono hc fun e w' hq => ?_
    obtain ⟨σ', v', rfl, q1, q2, q3⟩ := hq
    exact hnext σ' w' v' q1 q2 q3
  · cases h
end
end Lon
