/- What is proved here: a part of a statement's proof. Conditions: those that each theorem names, and no others. -/
import Derived.Test.YtfhchimfdlhmaaaLonZg
/-! Rules in a heap, checked by the kernel. -/
set_option linter.unusedSimpArgs false
set_option linter.unusedVariables false
namespace Lon
open Go

def eqI : List Value → List Int → Bool
  | [], [] => true
  | .int .i64 a :: vs, b :: bs => iEq a b && eqI vs bs
  | _, _ => false
theorem eqI_spec : ∀ {vs : List Value} {l : List Int}, eqI vs l = true → vs = ints l
  | [], [], _ => rfl
  | [], _ :: _, h => by simp [eqI] at h
  | v :: vs, [], h => by cases v <;> simp [eqI] at h
  | v :: vs, b :: bs, h => by
    unfold eqI at h
    split at h
    · rename_i h1; cases h1
    · rename_i a vs' b' bs' e1 e2
      injection e1 with e1 e1'
      injection e2 with e2 e2'
      subst e1 e1' e2 e2'
      simp only [Bool.and_eq_true, iEq_eq, beq_iff_eq] at h
      obtain ⟨rfl, h2⟩ := h
      rw [eqI_spec h2]
      rfl
    · cases h
noncomputable def intsB (H : AHeap) (v : Value) (l : List Int) : Bool := match v with
  | .slice a n c => Nat.beq n l.length && (match kCells H 1 (.slice a n c) with | some cs => eqI cs l | none => false)
  | _ => false
theorem intsB_spec {H : AHeap} {v : Value} {l : List Int} (h : intsB H v l = true) : Ints H v l := by
  unfold intsB at h
  split at h
  · rename_i a n c
    simp only [Bool.and_eq_true] at h
    obtain ⟨h1, h2⟩ := h
    obtain rfl := Nat.eq_of_beq_eq_true h1
    rw [kCells_eq] at h2
    split at h2
    · rename_i cs hc
      rw [eqI_spec h2] at hc
      exact ⟨⟨_, _, rfl⟩, hc⟩
    · cases h2
  · cases h
noncomputable def rowsB' (H : AHeap) : List Value → List Rl → Bool
  | [], [] => true
  | vi :: vo :: cs, r :: L => intsB H vi r.1 && intsB H vo r.2 && Nat.blt r.1.length 100 && Nat.blt r.2.length 100 && rowsB' H cs L
  | _, _ => false
theorem rowsB_spec {H : AHeap} : ∀ {cs : List Value} {L : List Rl}, rowsB' H cs L = true → ∀ k r, L[k]? = some r → RuleAt H cs k r ∧ tiny r.1 ∧ tiny r.2
  | cs, [], _, k, r, hr => by simp at hr
  | [], _ :: _, h, _, _, _ => by simp [rowsB'] at h
  | [_], _ :: _, h, _, _, _ => by simp [rowsB'] at h
  | vi :: vo :: cs, r0 :: L, h, k, r, hr => by
    simp only [rowsB', Bool.and_eq_true, Nat.blt_eq] at h
    obtain ⟨⟨⟨⟨h1, h2⟩, h3⟩, h4⟩, h5⟩ := h
    cases k with
    | zero =>
      simp at hr
      subst hr
      exact ⟨⟨vi, vo, rfl, rfl, intsB_spec h1, intsB_spec h2⟩, by unfold tiny; omega, by unfold tiny; omega⟩
    | succ k =>
      obtain ⟨⟨ui, uo, g1, g2, g3, g4⟩, g5⟩ := rowsB_spec h5 k r (by simpa using hr)
      refine ⟨⟨ui, uo, ?_, ?_, g3, g4⟩, g5⟩
      · rw [show (k + 1) * 2 = k * 2 + 1 + 1 by omega]; simpa using g1
      · rw [show (k + 1) * 2 + 1 = (k * 2 + 1) + 1 + 1 by omega]; simpa using g2
noncomputable def rulesB (H : AHeap) (v : Value) (L : List Rl) : Bool := match v with
  | .slice a n c => Nat.beq n L.length && Nat.blt L.length 1000000 && (match kCells H 2 (.slice a n c) with | some cs => rowsB' H cs L | none => false)
  | _ => false
theorem rulesB_spec {H : AHeap} {v : Value} {L : List Rl} (h : rulesB H v L = true) : Rules H v L := by
  unfold rulesB at h
  split at h
  · rename_i a n c
    simp only [Bool.and_eq_true, Nat.blt_eq] at h
    obtain ⟨⟨h1, h0⟩, h2⟩ := h
    obtain rfl := Nat.eq_of_beq_eq_true h1
    rw [kCells_eq] at h2
    split at h2
    · rename_i cs hc
      exact ⟨by omega, cs, ⟨⟨_, _, rfl⟩, hc⟩, rowsB_spec h2⟩
    · cases h2
  · cases h
/-- How long a slice is. -/
def lenB' (v : Value) : Nat := match v with
  | .slice _ n _ => n
  | _ => 0
theorem lenB_spec {v : Value} {n : Nat} (h : Nat.beq (lenB' v) n = true) (hn : n ≠ 0) (H : AHeap) : vLen false v H = some (.int .i64 n, H) := by
  have h := Nat.eq_of_beq_eq_true h
  subst h
  unfold lenB' at hn ⊢
  split
  · rfl
  · rename_i h1; split at hn
    · rename_i a n c; exact absurd rfl (h1 a n c)
    · exact absurd rfl hn
end Lon
