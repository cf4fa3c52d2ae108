/- What is proved here: what the program's functions come to, as far as the claimed statement asks. Conditions: those that each theorem names, and no others. -/
import Derived.Test.YtaijfpedioeedaaCodesA
import Derived.Test.YtaijfpedioeedaaLonZf
/-! Layer 17: what is known of the calls. -/
set_option linter.unusedSimpArgs false
set_option linter.unusedVariables false
namespace Go.Proofs.Ytaijfpedioeedaa
open Go Lon
set_option maxRecDepth 100000
def tab : List (FuncId × AFunc) := [(3, F_lontarlaw17_TamilRules), (4, F_lontarlaw17_TamilConsonant), (9, F_lontarlaw17_awake), (10, F_lontarlaw03_Same), (11, F_tamil_Rules), (12, F_lontarlaw17_Rules), (13, F_tamil_Consonant), (14, F_lontarlaw17_consonants), (18, F_rule_Find), (22, F_lontarlaw01_Units), (24, F_tamil_Consonants), (25, F_tamil_one), (26, F_tamil_vowels), (27, F_tamil_consonants), (28, F_lontarlaw17_Rules_1), (33, F_api_Rule_), (34, F_rule_Find_1), (35, F_slices_Equal___int_int_)]
theorem gok : ∀ g F, tabF tab g = some F → FOK Try.prog g F := tabF_ok (tab_cons ok_lontarlaw17_TamilRules (tab_cons ok_lontarlaw17_TamilConsonant (tab_cons ok_lontarlaw17_awake (tab_cons ok_lontarlaw03_Same (tab_cons ok_tamil_Rules (tab_cons ok_lontarlaw17_Rules (tab_cons ok_tamil_Consonant (tab_cons ok_lontarlaw17_consonants (tab_cons ok_rule_Find (tab_cons ok_lontarlaw01_Units (tab_cons ok_tamil_Consonants (tab_cons ok_tamil_one (tab_cons ok_tamil_vowels (tab_cons ok_tamil_consonants (tab_cons ok_lontarlaw17_Rules_1 (tab_cons ok_api_Rule_ (tab_cons ok_rule_Find_1 (tab_cons ok_slices_Equal___int_int_ (tab_nil)))))))))))))))))))
def om : CallF := fun _ _ _ => none
theorem omok0 {base : Nat} : ∀ g args H v H', om g args H = some (v, H') → Sim Try.prog base g args H v H' := fun _ _ _ _ _ h => by cases h
theorem simT {base : Nat} {g : FuncId} {args : List Value} {H H' : AHeap} {v : Value} (h : cw Try.prog (tabF tab) om g args H = some (v, H')) : Sim Try.prog base g args H v H' := cw_sound (by kernel_rfl) gok omok0 h
theorem c_awake : Gives (cw Try.prog (tabF tab) om 9 [] AHeap.empty) fun v H' => v = .bool true := gives_true 2000 (by kernel_rfl)
def om1 : CallF := fun g args H => match g, args with
  | 9, [] => some (.bool true, H)
  | _, _ => none
theorem omok {base : Nat} : ∀ g args H v H', om1 g args H = some (v, H') → Sim Try.prog base g args H v H' := by
  intro g args H v H' h
  unfold om1 at h
  split at h
  · injection h with h
    injection h with h1 h2
    subst h1 h2
    obtain ⟨v, H1, r, rfl⟩ := c_awake
    exact sim_closed (fun base => simT r) rfl rfl base _
  · cases h
theorem o_awake (H : AHeap) : cw Try.prog (tabF tab) om1 9 [] H = some (.bool true, H) := cw_omega rfl
end Go.Proofs.Ytaijfpedioeedaa
