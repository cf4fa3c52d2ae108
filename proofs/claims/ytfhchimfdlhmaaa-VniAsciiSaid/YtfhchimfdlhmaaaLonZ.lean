/- What is proved here: that a closed call comes to the same in every world. Conditions: those that each theorem names, and no others. -/
import Derived.Test.YtfhchimfdlhmaaaLonY
/-! A closed call's outcome, in every world. -/
set_option linter.unusedSimpArgs false
set_option linter.unusedVariables false
namespace Lon
open Go Go.RowKit

/-- Values without addresses, rows of atoms in a tuple among them. -/
def flat : Value → Bool
  | .tuple ⟨xs⟩ => xs.all fun x => match x with
    | .agg ⟨ys⟩ => ys.all atom
    | x => atom x
  | v => ground v
section
variable {P : Program} {σ σ' : Sig} {base : Nat} {H : AHeap} {w w' : World}
theorem VRs.eq_flat : ∀ {xs ys : List Value}, (xs.all fun x => match x with | .agg ⟨ys⟩ => ys.all atom | x => atom x) = true → VRs σ xs ys → ys = xs
  | [], ys, _, h => by cases h; rfl
  | x :: xs, [], _, h => by cases h
  | x :: xs, y :: ys, h, rs0 => by
    cases rs0 with | cons _ _ _ _ r rs =>
    simp only [List.all_cons, Bool.and_eq_true] at h
    rw [VRs.eq_flat h.2 rs]
    congr 1
    have h1 := h.1
    split at h1
    · exact VR.eq_ground (by simpa [ground] using h1) r
    · exact VR.eq_atom h1 r
theorem VRs.of_flat : ∀ {xs : List Value}, (xs.all fun x => match x with | .agg ⟨ys⟩ => ys.all atom | x => atom x) = true → VRs σ xs xs
  | [], _ => .nil
  | x :: xs, h => by
    simp only [List.all_cons, Bool.and_eq_true] at h
    refine .cons _ _ _ _ ?_ (VRs.of_flat h.2)
    have h1 := h.1
    split at h1
    · exact VR.of_ground (by simpa [ground] using h1)
    · exact VR.of_atom h1
theorem VR.eq_flat {v v' : Value} (h : flat v = true) (r : VR σ v v') : v' = v := by
  unfold flat at h
  split at h
  · cases r with | tuple _ _ hs => rw [VRs.eq_flat h hs]
  · exact VR.eq_ground h r
theorem VR.of_flat {v : Value} (h : flat v = true) : VR σ v v := by
  unfold flat at h
  split at h
  · exact .tuple _ _ (VRs.of_flat h)
  · exact VR.of_ground h
theorem VRs.eq_grounds : ∀ {xs ys : List Value}, xs.all ground = true → VRs σ xs ys → ys = xs
  | [], ys, _, h => by cases h; rfl
  | x :: xs, [], _, h => by cases h
  | x :: xs, y :: ys, h, rs0 => by
    cases rs0 with | cons _ _ _ _ r rs =>
    simp only [List.all_cons, Bool.and_eq_true] at h
    rw [VRs.eq_grounds h.2 rs, VR.eq_ground h.1 r]
theorem VRs.of_grounds : ∀ {xs : List Value}, xs.all ground = true → VRs σ xs xs
  | [], _ => .nil
  | x :: xs, h => by
    simp only [List.all_cons, Bool.and_eq_true] at h
    exact .cons _ _ _ _ (VR.of_ground h.1) (VRs.of_grounds h.2)

theorem HR.world (h : HR P σ base H w) (hs : w.heap.size ≤ w'.heap.size) (hk : ∀ k, k < w.heap.size → w'.heap[k]? = w.heap[k]?) : HR P σ base H w' where
  elem := h.elem
  out := h.out
  lt hg hd hl := Nat.lt_of_lt_of_le (h.lt hg hd hl) hs
  cells hg hm hl k v hv := by
    obtain ⟨v', h1, h2⟩ := h.cells hg hm hl hv
    refine ⟨v', ?_, h2⟩
    have hlt := h.lt hg (mem_ne_dead hm) hl
    simp only [World.cell?, hk _ hlt] at h1 ⊢
    exact h1
  ro := h.ro
  own := h.own
  row hg hm hl := by
    obtain ⟨cur, e, h1, h2⟩ := h.row hg hm hl
    exact ⟨cur, e, by rw [hk _ (h.lt hg (own_ne_dead (row_own hm)) hl)]; exact h1, h2⟩
  fits := h.fits
  map hg hm hl := by
    obtain ⟨es, clock, h1, h2⟩ := h.map hg hm hl
    exact ⟨es, clock, by rw [hk _ (h.lt hg (by rw [hm]; intro e; cases e) hl)]; exact h1, h2⟩
  sep := h.sep
  anc := h.anc
  ends := h.ends
  ancJ := h.ancJ

/-- A closed call, from nothing, says what it comes to from everything. -/
theorem sim_closed {g : FuncId} {args : List Value} {v : Value} {H' : AHeap} (h : ∀ base, Sim P base g args AHeap.empty v H') (hg : args.all ground = true) (hv : flat v = true) (base : Nat) (H : AHeap) : Sim P base g args H v H := by
  refine ⟨(h 0).1, VerLe.refl _, fun σ w args' hargs hh hb => ?_⟩
  have := VRs.eq_grounds hg hargs
  subst this
  refine ((h w.heap.size).2.2 sig0 w args' (VRs.of_grounds hg) (HR.empty _ _) (Nat.le_refl _)).mono fun e w' hq => ?_
  obtain ⟨σ', v', rfl, q1, q2, q3⟩ := hq
  have hk : ∀ k, k < w.heap.size → w'.heap[k]? = w.heap[k]? := fun k hk => q3.keep k hk (fun i blk l hi _ _ => by rw [empty_get] at hi; cases hi)
  refine ⟨σ, v', rfl, ?_, hh.world q3.size hk, ?_⟩
  · rw [VR.eq_flat hv q1]; exact VR.of_flat hv
  · exact ⟨Sub.refl _, fun _ _ => rfl, Nat.le_refl _, q3.os, q3.tape, q3.output, q3.size, fun k hk' _ => hk k hk', fun j blk l h1 h2 h3 => .inr ⟨j, blk, l, h1, h2, h3, rfl⟩, fun i b hb => ⟨b, hb, Nat.le_refl _, rfl, fun _ => ⟨rfl, id, id⟩⟩⟩
mutual
theorem VR.back (s : Sub σ σ') : ∀ {v u u' : Value}, VR σ v u → VR σ' v u' → VR σ v u'
  | _, _, _, .poison _, _ => .poison _
  | _, _, _, .bool b, h => by cases h; exact .bool b
  | _, _, _, .int k n, h => by cases h; exact .int k n
  | _, _, _, .float k n, h => by cases h; exact .float k n
  | _, _, _, .complex k a b, h => by cases h; exact .complex k a b
  | _, _, _, .string x, h => by cases h; exact .string x
  | _, _, _, .nilPtr, h => by cases h; exact .nilPtr
  | _, _, _, .ptr i o l hl, h => by
    cases h with | ptr _ _ l' hl' =>
    have := s _ _ hl
    rw [hl'] at this
    injection this with this
    subst this
    exact .ptr i o _ hl
  | _, _, _, .nilSlice, h => by cases h; exact .nilSlice
  | _, _, _, .nilAt a, h => by cases h; exact .nilAt _
  | _, _, _, .slice i o n c f' c' l hl _ _ _ _ _, h => by
    cases h with | slice _ _ _ _ f2 c2 l' hl' h1 h2 h3 h4 h5 =>
    have := s _ _ hl
    rw [hl'] at this
    injection this with this
    subst this
    exact .slice i o n c f2 c2 _ hl h1 h2 h3 h4 h5
  | _, _, _, .nilMap, h => by cases h; exact .nilMap
  | _, _, _, .map i l hl, h => by
    cases h with | map _ l' hl' =>
    have := s _ _ hl
    rw [hl'] at this
    injection this with this
    subst this
    exact .map i _ hl
  | _, _, _, .func fn xs ys xs' ys' hx hy, h => by
    cases h with | func _ _ _ _ _ hx' hy' =>
    exact .func _ _ _ _ _ (VRs.back s hx hx') (VRs.back s hy hy')
  | _, _, _, .nilFunc, h => by cases h; exact .nilFunc
  | _, _, _, .nilIface, h => by cases h; exact .nilIface
  | _, _, _, .iface t v v' hv, h => by
    cases h with | iface _ _ _ hv' =>
    exact .iface _ _ _ (VR.back s hv hv')
  | _, _, _, .agg xs xs' hx, h => by
    cases h with | agg _ _ hx' =>
    exact .agg _ _ (VRs.back s hx hx')
  | _, _, _, .tuple xs xs' hx, h => by
    cases h with | tuple _ _ hx' =>
    exact .tuple _ _ (VRs.back s hx hx')
theorem VRs.back (s : Sub σ σ') : ∀ {v u u' : List Value}, VRs σ v u → VRs σ' v u' → VRs σ v u'
  | _, _, _, .nil, h => by cases h; exact .nil
  | _, _, _, .cons v v' vs vs' hv hs, h => by
    cases h with | cons _ _ _ _ hv' hs' =>
    exact .cons _ _ _ _ (VR.back s hv hv') (VRs.back s hs hs')
end
/-- What a call has laid besides may be forgotten. -/
theorem HR.drop {H' : AHeap} (h0 : HR P σ base H w) (h : HR P σ' base H' w') (hf : Fr σ σ' H H' w w') (hx : Ext H H') : HR P σ base H w' := by
  have key : ∀ {i blk l}, H.get i = some blk → σ i = some l → H'.get i = some blk ∧ σ' i = some l := fun {i blk l} hg hl => ⟨hx.get hg, by rw [hf.old _ (AHeap.lt_of_get hg)]; exact hl⟩
  constructor
  · intro i blk l hg hl; exact h.elem (key hg hl).1 (key hg hl).2
  · exact h0.out
  · intro i blk l hg hd hl; exact h.lt (key hg hl).1 hd (key hg hl).2
  · intro i blk l hg hm hl k v hv
    obtain ⟨v', h1, h2⟩ := h.cells (key hg hl).1 hm (key hg hl).2 hv
    obtain ⟨v0, _, h4⟩ := h0.cells hg hm hl hv
    exact ⟨v', h1, VR.back hf.sub h4 h2⟩
  · intro i blk l hg hm hl; exact h.ro (key hg hl).1 hm (key hg hl).2
  · intro i blk l hg hm hl; exact h.own (key hg hl).1 hm (key hg hl).2
  · intro i blk l hg hm hl; exact h.row (key hg hl).1 hm (key hg hl).2
  · intro i blk l hg hm hl; exact h.fits (key hg hl).1 hm (key hg hl).2
  · intro i blk l hg hm hl
    obtain ⟨es, clock, h1, h2⟩ := h.map (key hg hl).1 hm (key hg hl).2
    obtain ⟨es0, clock0, h3, h4⟩ := h0.map hg hm hl
    exact ⟨es, clock, h1, VRs.back hf.sub h4 h2⟩
  · intro i j bi bj li lj hij gi gj oi oj ei ej he
    exact h.sep hij (key gi ei).1 (key gj ej).1 oi oj (key gi ei).2 (key gj ej).2 he
  · intro i j bi bj gi gj oi oj hm; exact h.anc (hx.get gi) (hx.get gj) oi oj hm
  · intro i j bi bj li lj gi gj oi oj hm ei ej he
    exact h.ends (key gi ei).1 (key gj ej).1 oi oj hm (key gi ei).2 (key gj ej).2 he
  · exact h0.ancJ
theorem sim_drop {g : FuncId} {args : List Value} {v : Value} {H' : AHeap} (h : Sim P base g args H v H') (hx : Ext H H') (hv : flat v = true) : Sim P base g args H v H := by
  refine ⟨h.1, VerLe.refl _, fun σ w args' hargs hh hb => ?_⟩
  refine (h.2.2 σ w args' hargs hh hb).mono fun e w' hq => ?_
  obtain ⟨σ', v', rfl, q1, q2, q3⟩ := hq
  refine ⟨σ, v', rfl, ?_, hh.drop q2 q3 hx, ?_⟩
  · rw [VR.eq_flat hv q1]; exact VR.of_flat hv
  · exact ⟨Sub.refl _, fun _ _ => rfl, Nat.le_refl _, q3.os, q3.tape, q3.output, q3.size, q3.keep, fun j blk l h1 h2 h3 => .inr ⟨j, blk, l, h1, h2, h3, rfl⟩, fun i b hb => ⟨b, hb, Nat.le_refl _, rfl, fun _ => ⟨rfl, id, id⟩⟩⟩
end
end Lon
