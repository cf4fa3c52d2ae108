/- What is proved here: that the interpreter's heap may grow. Conditions: those that each theorem names, and no others. -/
import Derived.Test.YtfhchimfdlhmaaaLonF
/-! Memory: reading rows, new blocks. -/
set_option linter.unusedSimpArgs false
set_option linter.unusedVariables false
namespace Lon
open Go

def ext (σ : Sig) (i : Nat) (l : Loc) : Sig := fun j => if j = i then some l else σ j
theorem Sub.ext {σ : Sig} {i : Nat} (h : σ i = none) (l : Loc) : Sub σ (ext σ i l) := fun j l' e => by
  unfold Lon.ext
  by_cases hj : j = i
  · subst hj; rw [h] at e; cases e
  · rw [if_neg hj]; exact e
theorem mem_ne_dead {s : St} (h : s.mem = true) : s ≠ .dead := by cases s <;> first | (intro e; cases e; done) | simp [St.mem] at h
theorem own_ne_dead {s : St} (h : s.own = true) : s ≠ .dead := by cases s <;> first | (intro e; cases e; done) | simp [St.own] at h
theorem act_own {s : St} (h : s.act = true) : s.own = true := by cases s <;> first | rfl | simp [St.act] at h
theorem row_mem {s : St} (h : s.row = true) : s.mem = true := by cases s <;> first | rfl | simp [St.row] at h
theorem row_own {s : St} (h : s.row = true) : s.own = true := by cases s <;> first | rfl | simp [St.row] at h

section
variable {P : Program} {σ : Sig} {base : Nat} {H : AHeap} {w : World}

theorem HR.sig_lt (h : HR P σ base H w) {i : Nat} {l : Loc} (e : σ i = some l) : i < H.n := by
  rcases Nat.lt_or_ge i H.n with h1 | h1
  · exact h1
  · rw [h.out i h1] at e; cases e

/-- A row of a block's cells, as the world has it. -/
theorem HR.rowOf (h : HR P σ base H w) {i : Nat} {blk : ABlk} {l : Loc} (hg : H.get i = some blk) (hm : blk.st.mem = true) (hl : σ i = some l) (o : Nat) :
    ∀ n, o + n ≤ blk.cells.length → ∃ ds : List Value, VRs σ ((blk.cells.drop o).take n) ds ∧ ∀ j v, ds[j]? = some v → w.cell? ⟨l.b, l.f + (o + j), none⟩ = some v
  | 0, _ => ⟨[], by simpa using VRs.nil, fun j v hj => by simp at hj⟩
  | n + 1, hn => by
    obtain ⟨ds, h1, h2⟩ := h.rowOf hg hm hl o n (by omega)
    have hlt : o + n < blk.cells.length := by omega
    obtain ⟨v', hc, hv⟩ := h.cells hg hm hl (List.getElem?_eq_getElem hlt)
    have hdl : ds.length = n := by have := h1.length; simp at this; omega
    refine ⟨ds ++ [v'], ?_, fun j v hj => ?_⟩
    · have e : (blk.cells.drop o).take (n + 1) = (blk.cells.drop o).take n ++ [blk.cells[o + n]] := by
        rw [List.take_succ_eq_append_getElem (by simp; omega)]
        simp
      rw [e]
      exact h1.append (.cons _ _ _ _ hv .nil)
    · by_cases hj2 : j < n
      · exact h2 j v (by rwa [List.getElem?_append_left (by omega)] at hj)
      · rw [List.getElem?_append_right (by omega), hdl] at hj
        have hj3 : j = n := by
          rcases Nat.lt_or_ge (j - n) 1 with h3 | h3
          · omega
          · rw [List.getElem?_eq_none (by simpa using h3)] at hj; cases hj
        subst hj3
        simp at hj
        subst hj
        exact hc

theorem HR.pushBig (h : HR P σ base H w) (hb : base ≤ w.heap.size) {cells : List Value} {cs : Array Value} (hc : VRs σ cells (cs.toList.take cells.length)) (hle : cells.length ≤ cs.size) {elem : TypeId} {sz : Nat} (hs : (P.info? elem).map (·.size) = some sz) (A : List Nat) (hA : ∀ i ∈ A, i < H.n ∧ ∀ bi, H.get i = some bi → bi.st.own = true → bi.st = .ret) :
    HR P (ext σ H.n ⟨w.heap.size, 0, cs.size, sz⟩) base (H.push ⟨cells, elem, .tip, 0, A⟩) (w.alloc (.cells cs elem)) := by
  have hn : σ H.n = none := h.out _ (Nat.le_refl _)
  have hsub := Sub.ext hn ⟨w.heap.size, 0, cs.size, sz⟩
  have hold : ∀ j, j ≠ H.n → ext σ H.n ⟨w.heap.size, 0, cs.size, sz⟩ j = σ j := fun j hj => by simp [ext, hj]
  have hnew : ext σ H.n ⟨w.heap.size, 0, cs.size, sz⟩ H.n = some ⟨w.heap.size, 0, cs.size, sz⟩ := by simp [ext]
  have hget : ∀ i, (H.push ⟨cells, elem, .tip, 0, A⟩).get i = if i = H.n then some ⟨cells, elem, .tip, 0, A⟩ else H.get i := AHeap.get_push H _
  have hne : ∀ {i blk}, H.get i = some blk → i ≠ H.n := fun hi e => by have := AHeap.lt_of_get hi; omega
  constructor
  · intro i blk l hg hl
    rw [hget] at hg
    by_cases hi : i = H.n
    · subst hi
      rw [if_pos rfl] at hg
      injection hg with hg
      subst hg
      rw [hnew] at hl
      injection hl with hl
      subst hl
      exact hs
    · rw [if_neg hi] at hg
      rw [hold i hi] at hl
      exact h.elem hg hl
  · intro i hi
    simp at hi
    rw [hold i (by omega)]
    exact h.out i (by omega)
  · intro i blk l hg hst hl
    rw [hget] at hg
    by_cases hi : i = H.n
    · subst hi
      rw [hnew] at hl
      injection hl with hl
      subst hl
      simp
    · rw [if_neg hi] at hg
      rw [hold i hi] at hl
      have := h.lt hg hst hl
      simp; omega
  · intro i blk l hg hst hl k v hk
    rw [hget] at hg
    by_cases hi : i = H.n
    · subst hi
      rw [if_pos rfl] at hg
      injection hg with hg
      subst hg
      rw [hnew] at hl
      injection hl with hl
      subst hl
      obtain ⟨v', h1, h2⟩ := hc.get hk
      rw [List.getElem?_take] at h1
      split at h1
      · exact ⟨v', by simpa using h1, h2.mono hsub⟩
      · cases h1
    · rw [if_neg hi] at hg
      rw [hold i hi] at hl
      obtain ⟨v', h1, h2⟩ := h.cells hg hst hl hk
      exact ⟨v', by rw [World.cell?_alloc_lt _ _ _ (h.lt hg (mem_ne_dead hst) hl)]; exact h1, h2.mono hsub⟩
  · intro i blk l hg hst hl
    rw [hget] at hg
    by_cases hi : i = H.n
    · subst hi
      rw [if_pos rfl] at hg
      injection hg with hg
      subst hg
      cases hst
    · rw [if_neg hi] at hg
      rw [hold i hi] at hl
      exact h.ro hg hst hl
  · intro i blk l hg hst hl
    rw [hget] at hg
    by_cases hi : i = H.n
    · subst hi
      rw [hnew] at hl
      injection hl with hl
      subst hl
      exact hb
    · rw [if_neg hi] at hg
      rw [hold i hi] at hl
      exact h.own hg hst hl
  · intro i blk l hg hst hl
    rw [hget] at hg
    by_cases hi : i = H.n
    · subst hi
      rw [hnew] at hl
      injection hl with hl
      subst hl
      exact ⟨cs, elem, heap_alloc_new w _, rfl⟩
    · rw [if_neg hi] at hg
      rw [hold i hi] at hl
      obtain ⟨cur, e, h1, h2⟩ := h.row hg hst hl
      exact ⟨cur, e, by rw [heap_alloc_old w _ _ (h.lt hg (mem_ne_dead (row_mem hst)) hl)]; exact h1, h2⟩
  · intro i blk l hg hst hl
    rw [hget] at hg
    by_cases hi : i = H.n
    · subst hi
      rw [if_pos rfl] at hg
      injection hg with hg
      subst hg
      rw [hnew] at hl
      injection hl with hl
      subst hl
      simp
      omega
    · rw [if_neg hi] at hg
      rw [hold i hi] at hl
      exact h.fits hg hst hl
  · intro i blk l hg hst hl
    rw [hget] at hg
    by_cases hi : i = H.n
    · subst hi
      rw [if_pos rfl] at hg
      injection hg with hg
      subst hg
      cases hst
    · rw [if_neg hi] at hg
      rw [hold i hi] at hl
      obtain ⟨es, clock, h1, h2⟩ := h.map hg hst hl
      exact ⟨es, clock, by rw [heap_alloc_old w _ _ (h.lt hg (by rw [hst]; intro e; cases e) hl)]; exact h1, h2.mono hsub⟩
  · intro i j bi bj li lj hij hi hj si sj hli hlj hb
    rw [hget] at hi hj
    by_cases h1 : i = H.n
    · subst h1
      by_cases h2 : j = H.n
      · exact absurd h2.symm hij
      · rw [if_neg h2] at hj
        rw [hold j h2] at hlj
        rw [hnew] at hli
        injection hli with hli
        subst hli
        have := h.lt hj (own_ne_dead sj) hlj
        simp at hb
        omega
    · rw [if_neg h1] at hi
      rw [hold i h1] at hli
      by_cases h2 : j = H.n
      · subst h2
        rw [hnew] at hlj
        injection hlj with hlj
        subst hlj
        have := h.lt hi (own_ne_dead si) hli
        simp at hb
        omega
      · rw [if_neg h2] at hj
        rw [hold j h2] at hlj
        exact h.sep hij hi hj si sj hli hlj hb
  · intro i j bi bj hi hj si sj hm
    rw [hget] at hi hj
    by_cases h2 : j = H.n
    · subst h2
      rw [if_pos rfl] at hj
      injection hj with hj
      subst hj
      have := hA i hm
      rw [if_neg (by omega)] at hi
      exact this.2 bi hi si
    · rw [if_neg h2] at hj
      have := h.ancLt hj i hm
      rw [if_neg (by omega)] at hi
      exact h.anc hi hj si sj hm
  · intro i j bi bj li lj hi hj si sj hm hli hlj hb
    rw [hget] at hi hj
    by_cases h2 : j = H.n
    · subst h2
      rw [if_pos rfl] at hj
      injection hj with hj
      subst hj
      have hlt := (hA i hm).1
      rw [if_neg (by omega)] at hi
      rw [hold i (by omega)] at hli
      rw [hnew] at hlj
      injection hlj with hlj
      subst hlj
      have := h.lt hi (own_ne_dead si) hli
      simp at hb
      omega
    · rw [if_neg h2] at hj
      have hlt := h.ancLt hj i hm
      rw [if_neg (by omega)] at hi
      rw [hold j h2] at hlj
      rw [hold i (by omega)] at hli
      exact h.ends hi hj si sj hm hli hlj hb
  · intro j bj hj i hm
    rw [hget] at hj
    by_cases h2 : j = H.n
    · subst h2
      rw [if_pos rfl] at hj
      injection hj with hj
      subst hj
      exact (hA i hm).1
    · rw [if_neg h2] at hj
      exact h.ancJ hj i hm
theorem HR.push (h : HR P σ base H w) (hb : base ≤ w.heap.size) {cells : List Value} {cs : Array Value} (hc : VRs σ cells cs.toList) {elem : TypeId} {sz : Nat} (hs : (P.info? elem).map (·.size) = some sz) (A : List Nat) (hA : ∀ i ∈ A, i < H.n ∧ ∀ bi, H.get i = some bi → bi.st.own = true → bi.st = .ret) :
    HR P (ext σ H.n ⟨w.heap.size, 0, cs.size, sz⟩) base (H.push ⟨cells, elem, .tip, 0, A⟩) (w.alloc (.cells cs elem)) :=
  h.pushBig hb (by rw [← hc.length, List.take_length]; exact hc) (by have := hc.length; simp at this; omega) hs A hA

theorem Fr.push (h : HR P σ base H w) (b : ABlk) (o : Obj) (l : Loc) (hl : l.b = w.heap.size) :
    Fr σ (ext σ H.n l) H (H.push b) w (w.alloc o) where
  sub := Sub.ext (h.out _ (Nat.le_refl _)) l
  old i hi := by simp [ext]; intro e; omega
  mono := by simp
  os := rfl
  tape := rfl
  output := rfl
  size := by simp
  keep k hk _ := heap_alloc_old w o k hk
  tips j blk lj hj ha hlj := by
    rw [AHeap.get_push] at hj
    by_cases e : j = H.n
    · subst e
      simp only [ext, if_true] at hlj
      injection hlj with hlj
      subst hlj
      exact .inl (by omega)
    · rw [if_neg e] at hj
      simp only [ext, if_neg e] at hlj
      exact .inr ⟨j, blk, lj, hj, ha, hlj, rfl⟩
  ver i bi hi := by
    refine ⟨bi, ?_, Nat.le_refl _, rfl, fun _ => ⟨rfl, id, id⟩⟩
    rw [AHeap.get_push, if_neg (by have := AHeap.lt_of_get hi; omega)]
    exact hi
/-- A draw turns nothing. -/
theorem HR.drewN (h : HR P σ base H w) (d : Nat) : HR P σ base H { w with drawn := d } := ⟨h.elem, h.out, h.lt, h.cells, h.ro, h.own, h.row, h.fits, h.map, h.sep, h.anc, h.ends, h.ancJ⟩
theorem Fr.drewN (σ : Sig) (H : AHeap) (w : World) (d : Nat) : Fr σ σ H H w { w with drawn := d } :=
  ⟨Sub.refl _, fun _ _ => rfl, Nat.le_refl _, rfl, rfl, rfl, Nat.le_refl _, fun _ _ _ => rfl, fun j blk l h1 h2 h3 => .inr ⟨j, blk, l, h1, h2, h3, rfl⟩, fun _ b h => ⟨b, h, Nat.le_refl _, rfl, fun _ => ⟨rfl, id, id⟩⟩⟩
end
end Lon
