/- What is proved here: what the program's functions come to, as far as the claimed statement asks. Conditions: those that each theorem names, and no others. -/
import Derived.Test.YtdnaaonloaoeeaaCodesA
import Derived.Test.YtdnaaonloaoeeaaLonZf
/-! Layer 14: what is known of the calls. -/
set_option linter.unusedSimpArgs false
set_option linter.unusedVariables false
namespace Go.Proofs.Ytdnaaonloaoeeaa
open Go Lon
set_option maxRecDepth 100000
def tab : List (FuncId × AFunc) := [(3, F_lontarlaw03_RuleCheck), (4, F_lontarlaw03_RuleMany), (5, F_lontarlaw03_RuleFind), (6, F_lontarlaw03_RuleTurn), (7, F_lontarlaw03_RuleSingles), (8, F_lontarlaw03_RuleLongest), (9, F_lontarlaw03_RuleRight), (10, F_lontarlaw03_awake), (11, F_lontarlaw03_Rules), (12, F_rule_Check), (13, F_lontarlaw03_may), (14, F_lontarlaw03_find), (15, F_rule_Longest), (16, F_rule_Find), (17, F_rule_Turn), (18, F_lontarlaw03_Same), (19, F_rule_Singles), (20, F_lontarlaw03_Right), (21, F_lontarlaw03_units), (22, F_rule_side), (23, F_lontarlaw01_Units), (24, F_api_Rule_), (25, F_rule_Find_1), (26, F_slices_Equal___int_int_), (27, F_slices_Clone___int_int_), (28, F_slices_ContainsFunc___int_int_), (29, F_rule_side_1), (30, F_slices_IndexFunc___int_int_)]
theorem gok : ∀ g F, tabF tab g = some F → FOK Try.prog g F := tabF_ok (tab_cons ok_lontarlaw03_RuleCheck (tab_cons ok_lontarlaw03_RuleMany (tab_cons ok_lontarlaw03_RuleFind (tab_cons ok_lontarlaw03_RuleTurn (tab_cons ok_lontarlaw03_RuleSingles (tab_cons ok_lontarlaw03_RuleLongest (tab_cons ok_lontarlaw03_RuleRight (tab_cons ok_lontarlaw03_awake (tab_cons ok_lontarlaw03_Rules (tab_cons ok_rule_Check (tab_cons ok_lontarlaw03_may (tab_cons ok_lontarlaw03_find (tab_cons ok_rule_Longest (tab_cons ok_rule_Find (tab_cons ok_rule_Turn (tab_cons ok_lontarlaw03_Same (tab_cons ok_rule_Singles (tab_cons ok_lontarlaw03_Right (tab_cons ok_lontarlaw03_units (tab_cons ok_rule_side (tab_cons ok_lontarlaw01_Units (tab_cons ok_api_Rule_ (tab_cons ok_rule_Find_1 (tab_cons ok_slices_Equal___int_int_ (tab_cons ok_slices_Clone___int_int_ (tab_cons ok_slices_ContainsFunc___int_int_ (tab_cons ok_rule_side_1 (tab_cons ok_slices_IndexFunc___int_int_ (tab_nil)))))))))))))))))))))))))))))
def om : CallF := fun _ _ _ => none
theorem omok0 {base : Nat} : ∀ g args H v H', om g args H = some (v, H') → Sim Try.prog base g args H v H' := fun _ _ _ _ _ h => by cases h
theorem simT {base : Nat} {g : FuncId} {args : List Value} {H H' : AHeap} {v : Value} (h : cw Try.prog (tabF tab) om g args H = some (v, H')) : Sim Try.prog base g args H v H' := cw_sound (by kernel_rfl) gok omok0 h
theorem c_awake : Gives (cw Try.prog (tabF tab) om 10 [] AHeap.empty) fun v H' => v = .bool true := gives_true 1000 (by kernel_rfl)
def om1 : CallF := fun g args H => match g, args with
  | 10, [] => some (.bool true, H)
  | _, _ => none
theorem omok {base : Nat} : ∀ g args H v H', om1 g args H = some (v, H') → Sim Try.prog base g args H v H' := by
  intro g args H v H' h
  unfold om1 at h
  split at h
  · injection h with h
    injection h with h1 h2
    subst h1 h2
    obtain ⟨v, H1, r, rfl⟩ := c_awake
    exact sim_closed (fun base => simT r) rfl rfl base _
  · cases h
theorem o_awake (H : AHeap) : cw Try.prog (tabF tab) om1 10 [] H = some (.bool true, H) := cw_omega rfl
end Go.Proofs.Ytdnaaonloaoeeaa
