/- What is proved here: what the program's functions come to, as far as the claimed statement asks. Conditions: those that each theorem names, and no others. -/
import Derived.Test.YtoijfaglobdceaaLongest
/-! Plain facts about rules. -/
set_option linter.unusedSimpArgs false
set_option linter.unusedVariables false
namespace Go.Proofs.Ytoijfaglobdceaa
open Go Lon
theorem fdx_none {x : List Int} : ∀ {L : List Rl} {i : Nat}, (∀ r ∈ L, r.1 ≠ x) → fdx x L i = none
  | [], _, _ => rfl
  | r :: L, i, h => by
    unfold fdx
    rw [if_neg (h r (List.mem_cons_self ..))]
    exact fdx_none fun r hr => h r (List.mem_cons_of_mem _ hr)
theorem fdx_some {x : List Int} : ∀ {L : List Rl} {i j : Nat}, fdx x L i = some j → ∃ r, L[j - i]? = some r ∧ r.1 = x ∧ i ≤ j
  | [], _, _, h => by cases h
  | r :: L, i, j, h => by
    unfold fdx at h
    split at h
    · injection h with h
      subst h
      exact ⟨r, by simp, by assumption, Nat.le_refl _⟩
    · obtain ⟨r', h1, h2, h3⟩ := fdx_some h
      refine ⟨r', ?_, h2, by omega⟩
      rw [show j - i = (j - (i + 1)) + 1 by omega]
      simpa using h1
theorem fnd_neg {L : List Rl} {x : List Int} : fnd L x < 0 ↔ ∀ r ∈ L, r.1 ≠ x := by
  unfold fnd
  constructor
  · intro h r hr hx
    cases hf : fdx x L 0 with
    | some k => rw [hf] at h; simp at h; omega
    | none =>
      have key : ∀ {L : List Rl} {i : Nat}, fdx x L i = none → ∀ r ∈ L, r.1 ≠ x := by
        intro L
        induction L with
        | nil => intro i _ r hr; cases hr
        | cons a L ih =>
          intro i h r hr
          unfold fdx at h
          split at h
          · cases h
          · rcases List.mem_cons.1 hr with rfl | hr
            · assumption
            · exact ih h r hr
      exact key hf r hr hx
  · intro h
    rw [fdx_none h]
    decide
theorem side1 {x : Int} (h : 0 ≤ x ∧ x ≤ 1114111) : sideB [x] = true := by
  have hb : ¬ bad x := fun hb => by rcases hb with hb | hb <;> omega
  unfold sideB bdx bdx
  rw [if_neg hb]
  rfl
theorem lg_max : ∀ {L : List Rl} {n : Nat}, lg L n = max n (lg L 0)
  | [], n => by simp [lg]
  | r :: L, n => by
    unfold lg
    rw [lg_max (n := max n r.1.length), lg_max (n := max 0 r.1.length)]
    omega
end Go.Proofs.Ytoijfaglobdceaa
