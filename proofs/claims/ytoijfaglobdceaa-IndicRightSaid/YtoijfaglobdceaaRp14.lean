/- What is proved here: what the program's functions come to, as far as the claimed statement asks. Conditions: those that each theorem names, and no others. -/
import Derived.Test.YtoijfaglobdceaaK14
import Derived.Test.YtoijfaglobdceaaTurn
/-! Layer 14: the rules are right. -/
set_option linter.unusedSimpArgs false
set_option linter.unusedVariables false
namespace Go.Proofs.Ytoijfaglobdceaa
open Go Lon
set_option maxRecDepth 100000
theorem r_rem {k : IntKind} {a b : Int} (h : b ≠ 0) : intOp .rem k a b = some (.int k (a.tmod b)) := by simp only [intOp, if_neg h]
def T14 : List Rl := R14.map fun r => (r.2, r.1)
theorem R14_len : R14.length = 240 := by kernel_rfl
theorem R14_chk : chk R14 R14 0 = (-1, 0) := by kernel_rfl
theorem R14_trn : trn R14 [] = T14 := by kernel_rfl
theorem R14_in : ((List.range 240).all fun i => fnd R14 (R14.getD i ([], [])).1 == (i : Int)) = true := by kernel_rfl
theorem R14_out : ((List.range 240).all fun i => fnd T14 (R14.getD i ([], [])).2 == (i : Int)) = true := by kernel_rfl
theorem R14_small : smalls R14 := by
  refine ⟨by rw [R14_len]; decide, fun r hr => ?_⟩
  have h : (R14.all fun r => decide (r.1.length ≤ 8) && decide (r.2.length ≤ 8)) = true := by kernel_rfl
  have := List.all_eq_true.mp h r hr
  simp only [Bool.and_eq_true, decide_eq_true_eq] at this
  unfold small
  omega
end Go.Proofs.Ytoijfaglobdceaa
