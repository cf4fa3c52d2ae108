/- What is proved here: what the program's functions come to, as far as the claimed statement asks. Conditions: those that each theorem names, and no others. -/
import Derived.Test.YtoijfaglobdceaaOm
/-! Layer 14: the examples. -/
set_option linter.unusedSimpArgs false
set_option linter.unusedVariables false
namespace Go.Proofs.Ytoijfaglobdceaa
open Go Lon
set_option maxRecDepth 100000
theorem c_awake : Gives (cw Try.prog (tabF tab) omP 10 [] AHeap.empty) fun v H' => v = .bool true := gives_true 1000 (by kernel_rfl)
def om1 : CallF := fun g args H => match g, args with
  | 10, [] => some (.bool true, H)
  | 11, [.int .u8 c] => plO c H
  | 12, [.int .u8 c] => plO c H
  | _, _ => none
theorem omok {base : Nat} : ∀ g args H v H', om1 g args H = some (v, H') → Sim Try.prog base g args H v H' := by
  intro g args H v H' h
  unfold om1 at h
  split at h
  · injection h with h
    injection h with h1 h2
    subst h1 h2
    obtain ⟨v, H1, r, rfl⟩ := c_awake
    exact sim_closed (fun base => simP r) rfl rfl base _
  · exact omokP _ _ _ _ _ h
  · exact omokP _ _ _ _ _ h
  · cases h
theorem o_awake (H : AHeap) : cw Try.prog (tabF tab) om1 10 [] H = some (.bool true, H) := cw_omega rfl
theorem o_Place {c : Int} (hc : 0 ≤ c ∧ c < 256) (H : AHeap) : cw Try.prog (tabF tab) om1 11 [.int .u8 c] H = some (.tuple ⟨plV (pl c)⟩, H) := cw_omega (plO_of hc H)
theorem o_Place2 {c : Int} (hc : 0 ≤ c ∧ c < 256) (H : AHeap) : cw Try.prog (tabF tab) om1 12 [.int .u8 c] H = some (.tuple ⟨plV (pl c)⟩, H) := cw_omega (plO_of hc H)
end Go.Proofs.Ytoijfaglobdceaa
