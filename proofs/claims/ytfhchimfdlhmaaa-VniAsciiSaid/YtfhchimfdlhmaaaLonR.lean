/- What is proved here: that single rows are sound. Conditions: those that each theorem names, and no others. -/
import Derived.Test.YtfhchimfdlhmaaaLonQ
/-! Regions that draw their order. -/
set_option linter.unusedSimpArgs false
set_option linter.unusedVariables false
namespace Lon
open Go

theorem eget_forget : ∀ (ks : List Nat) (e : Env) (t : Nat), eget (forget ks e) t = if t ∈ ks then eget e t else poison
  | [], e, t => by simp [forget, eget_nil]
  | k :: ks, e, t => by
    have ih := eget_forget ks e t
    simp only [forget, List.map_cons, eget_cons] at ih ⊢
    by_cases h : k = t
    · subst h
      simp
    · rw [if_neg h]
      have : t ≠ k := fun e => h e.symm
      rw [ih]
      simp [this]

section
variable {P : Program} {σ σ0 : Sig} {nt base : Nat} {e : Env} {a : Act} {o : Oper} {H H' H0 : AHeap} {w w0 : World} {ops : Array Oper} {cf : CallF}

theorem rowV_sound (hcf : ∀ g args H v H', cf g args H = some (v, H') → Sim P base g args H v H') (her : ER σ nt e a) (hh : HR P σ base H w) (hb : base ≤ w.heap.size) {r : ARow} (hp : prepRow P nt ops o = some r) {v : Value}
    (h : rowV P cf r e H = some (v, H')) {next : Act → World → Prop} {Q : Exit → Act → World → Prop}
    (hnext : ∀ σ' v' w', VR σ' v v' → HR P σ' base H' w' → Fr σ σ' H H' w w' → next (a.put o.dst v') w') :
    if Region.wanted o (yielded ops a.tmps) then o.wp P a w next Q else next (a.put o.dst undef) w := by
  obtain ⟨h1, h2, h3, h4⟩ := prepRow_inv hp
  unfold rowV at h
  split at h
  · rename_i hg
    rw [guard_rel her h4 hg, if_pos rfl]
    exact step_sound hcf her hh hb h1 h next Q fun σ' w' v' q1 q2 q3 => hnext σ' v' w' q1 q2 q3
  · rename_i hg
    rw [guard_rel her h4 hg]
    simp only [Bool.false_eq_true, if_false]
    injection h with h
    injection h with he1 he2
    subst he1 he2
    exact hnext σ undef w (.tuple _ _ .nil) hh (Fr.refl _ _ _)
  · cases h

theorem readA_later {e : Env} {H H2 : AHeap} {r : ARow} {v : Value} (hv : VerLe H H2) (hs : ∀ p ∈ stamps H e r, ∃ b, H2.get p.1 = some b ∧ b.ver = p.2) (h : readA P e H r.op = some v) : readA P e H2 r.op = some v := by
  revert h hs
  unfold stamps
  cases r.op <;> intro hs h <;> first | (simp [readA] at h; done) | skip
  case load x k =>
    simp only [readA] at h ⊢
    split at h
    · rename_i i off hx
      split at h
      · rename_i blk hg
        simp only [hx, hg] at hs
        obtain ⟨b, hb, hver⟩ := hs (i, blk.ver) (by simp)
        obtain ⟨b', hb', h1, h2, h3⟩ := hv.2 i blk hg
        simp only at hb hver
        rw [hb] at hb'
        injection hb' with hb'
        subst hb'
        obtain ⟨hc, hm, _⟩ := h3 hver
        simp only [hb]
        split at h
        · rename_i hmem
          rw [if_pos (hm hmem), hc]
          exact h
        · cases h
      · cases h
    · cases h
  case slice x lo hi s =>
    simp only [readA] at h ⊢
    split at h
    · rename_i i off n c hx
      split at h
      · rename_i hv1 lv s' e1 e2 e3
        cases hg : H.get i with
        | none => rw [hg] at e3; cases e3
        | some blk =>
          obtain ⟨b', hb', _, hel, _⟩ := hv.2 i blk hg
          rw [hg] at e3
          simp only [Option.map_some] at e3
          simp only [hx, e1, e2, hb', Option.map_some, hel, e3]
          exact h
      · cases h
    · rename_i hx
      first
        | exact h
        | (rw [hx]; exact h)
        | (simp only [hx]; exact h)
    · rename_i hx
      first
        | exact h
        | (rw [hx]; exact h)
        | (simp only [hx]; exact h)
    · cases h
  case slice0 x => exact h

theorem rowV_quiet {e : Env} {H H' : AHeap} {r : ARow} {v : Value} (hl : r.op.loud = false) (h : rowV P cf r e H = some (v, H')) :
    (H' = H ∧ ∀ H2, VerLe H H2 → (∀ p ∈ stamps H e r, ∃ b, H2.get p.1 = some b ∧ b.ver = p.2) → rowV P cf r e H2 = some (v, H2)) ∨
    (guardA e r.guard = some true ∧ r.op.fresh = true ∧ ∃ b, newA e H.n r.op = some (b, v) ∧ H' = H.push b) := by
  unfold rowV at h
  split at h
  · rename_i hg
    by_cases hf : r.op.fresh = true
    · right
      refine ⟨hg, hf, ?_⟩
      revert h hf
      unfold stepA
      cases r.op <;> intro h hf <;> first | (cases hf; done) | skip
      all_goals
        simp only [Option.map_eq_some_iff] at h
        obtain ⟨⟨b, v1⟩, hn, he⟩ := h
        injection he with he1 he2
        simp only at he1 he2
        subst he1
        exact ⟨b, hn, he2.symm⟩
    · left
      have key : H' = H ∧ ∀ H2, VerLe H H2 → (∀ p ∈ stamps H e r, ∃ b, H2.get p.1 = some b ∧ b.ver = p.2) → stepA P cf e H2 r.op = some (v, H2) := by
        have hread : (∃ x k, r.op = .load x k) ∨ (∃ x lo hi s, r.op = .slice x lo hi s) ∨ (∃ x, r.op = .slice0 x) → H' = H ∧ ∀ H2, VerLe H H2 → (∀ p ∈ stamps H e r, ∃ b, H2.get p.1 = some b ∧ b.ver = p.2) → stepA P cf e H2 r.op = some (v, H2) := by
          intro hr
          have hh : (readA P e H r.op).map (fun v => (v, H)) = some (v, H') := by
            rcases hr with ⟨x, k, e1⟩ | ⟨x, lo, hi, s, e1⟩ | ⟨x, e1⟩ <;> (rw [e1] at h ⊢; exact h)
          simp only [Option.map_eq_some_iff] at hh
          obtain ⟨v1, h1, h2⟩ := hh
          injection h2 with h2 h3
          subst h2 h3
          refine ⟨rfl, fun H2 hv hs => ?_⟩
          have := readA_later hv hs h1
          rcases hr with ⟨x, k, e1⟩ | ⟨x, lo, hi, s, e1⟩ | ⟨x, e1⟩ <;> (rw [e1] at this ⊢; simp only [stepA, this, Option.map_some])
        have hpure : (∀ x k, r.op ≠ .load x k) → (∀ x lo hi s, r.op ≠ .slice x lo hi s) → (∀ x, r.op ≠ .slice0 x) → H' = H ∧ ∀ H2, VerLe H H2 → (∀ p ∈ stamps H e r, ∃ b, H2.get p.1 = some b ∧ b.ver = p.2) → stepA P cf e H2 r.op = some (v, H2) := by
          intro n1 n2 n3
          have n4 : ∀ c el, r.op ≠ .alloc c el := fun c el e1 => hf (by rw [e1]; rfl)
          have n5 : ∀ x el, r.op ≠ .box x el := fun x el e1 => hf (by rw [e1]; rfl)
          have n6 : ∀ el n s z p, r.op ≠ .bslice el n s z p := fun el n s z p e1 => hf (by rw [e1]; rfl)
          have n7 : ∀ x v n, r.op ≠ .store x v n := fun x v n e1 => by rw [e1] at hl; cases hl
          have n8 : ∀ s x el sz b, r.op ≠ .append s x el sz b := fun s x el sz b e1 => by rw [e1] at hl; cases hl
          have n9 : ∀ f args, r.op ≠ .call f args := fun f args e1 => by rw [e1] at hl; cases hl
          have n10 : ∀ m, r.op ≠ .mop m := fun m e1 => by rw [e1] at hl; cases hl
          obtain ⟨h1, h2⟩ := pure_step n1 n2 n3 n4 n5 n6 n7 n8 n9 n10 h
          refine ⟨h2, fun H2 _ _ => ?_⟩
          have : stepA P cf e H2 r.op = (pureA P e r.op).map fun v => (v, H2) := by
            revert n1 n2 n3 n4 n5 n6 n7 n8 n9 n10
            cases r.op <;> intro n1 n2 n3 n4 n5 n6 n7 n8 n9 n10 <;> first | exact absurd rfl (n10 _) | exact absurd rfl (n1 _ _) | exact absurd rfl (n2 _ _ _ _) | exact absurd rfl (n3 _) | exact absurd rfl (n4 _ _) | exact absurd rfl (n5 _ _) | exact absurd rfl (n6 _ _ _ _ _) | exact absurd rfl (n7 _ _ _) | exact absurd rfl (n8 _ _ _ _ _) | exact absurd rfl (n9 _ _) | rfl
          rw [this, h1]
          rfl
        by_cases c1 : ∃ x k, r.op = .load x k
        · exact hread (.inl c1)
        by_cases c2 : ∃ x lo hi s, r.op = .slice x lo hi s
        · exact hread (.inr (.inl c2))
        by_cases c3 : ∃ x, r.op = .slice0 x
        · exact hread (.inr (.inr c3))
        exact hpure (fun x k e1 => c1 ⟨x, k, e1⟩) (fun x lo hi s e1 => c2 ⟨x, lo, hi, s, e1⟩) (fun x e1 => c3 ⟨x, e1⟩)
      refine ⟨key.1, fun H2 hv hs => ?_⟩
      unfold rowV
      rw [hg]
      exact key.2 H2 hv hs
  · rename_i hg
    injection h with h
    injection h with h1 h2
    subst h1 h2
    left
    refine ⟨rfl, fun H2 _ _ => ?_⟩
    unfold rowV
    rw [hg]
  · cases h
end
end Lon
