/-
  No cell of these rows narrows 'for every input' (looked for: loops, veiled, ifaces, maps, wideKeys, modest, calm, conditions, laid).
  DERIVED. THE GIVEN ROWS OF THIS SEAT. 7 by the template 'for every input the law returns true; each argument reads behind the call as it read before'; 0 by the template 'total and deterministic' (their statements: YtdnaaonloaoeeaaTotals.lean).
  GIVEN WITH THE SEED: the statements are not yours to turn. If you find one false, say at which input.
  Laid BY PROGRAM, IN A SANDBOX (cutbox-rows.mjs): the forced cells as the released guide's own fill.sh prints them over the translation e4f20f427a9dca02… (all of the seat's roots in one cut). By AI agents, Wed Nov 11 2026. No macro, syntax, notation, axiom, sorry.
-/
import Derived.Test.YtdnaaonloaoeeaaChecked
import GoSem.Claim
import GoSem.ClaimJoined
import GoSem.ClaimMapViews
import Derived.JoinedTies
import Derived.KernelRfl
namespace Go.Proofs.Ytdnaaonloaoeeaa
/- THE CELL 'sum', in the pinned program and in every row, IS THE sha256 OF THE DUMP (.gsa) THAT YtdnaaonloaoeeaaProg.lean LOADS. Nothing in Lean hashes anything: it is a label: what it is worth is what the hold of that sum in a sandbox is worth. -/
noncomputable def Try.pinned : Pinned := { name := "ytdnaaonloaoeeaa", sum := "e4f20f427a9dca02a6d0dd237eba78b66236228df04edc995be415f1b13d10f0", checked := Try.checked }
namespace Rows
def none {H : Type} : Left H := { results := [], args := [] }

/-- 'lontarlaw03.RuleCheck': WHATEVER THE INPUT: true; the input reads as it did. -/
def ruleCheckSpec : ChangeSpec := { name := "ruleCheck", fn := fun _ => fun
  | [d1, d2] => { results := [.lit (.bool true)], args := [d1, d2] }
  | _ => none }
def ruleCheckRow : OpenClaim := { program := "ytdnaaonloaoeeaa", sum := "e4f20f427a9dca02a6d0dd237eba78b66236228df04edc995be415f1b13d10f0", func := "lontar/lontarlaw03.RuleCheck", spec := "ruleCheck", unfollowed := true, recurses := true, apart := false }
def RuleCheckSaid : Prop := ruleCheckRow.holds Try.pinned (OpenSpec.ofChange ruleCheckSpec)

/-- ITS FALSE NEIGHBOUR: 'it returns false'. Refute it at one input. -/
def ruleCheckWrong : ChangeSpec := { name := "ruleCheck", fn := fun _ => fun
  | [d1, d2] => { results := [.lit (.bool false)], args := [d1, d2] }
  | _ => none }
def RuleCheckWrongFalsely : Prop := ruleCheckRow.holds Try.pinned (OpenSpec.ofChange ruleCheckWrong)

/-- 'lontarlaw03.RuleMany': WHATEVER THE INPUT: true; the input reads as it did. -/
def ruleManySpec : ChangeSpec := { name := "ruleMany", fn := fun _ => fun
  | [d] => { results := [.lit (.bool true)], args := [d] }
  | _ => none }
def ruleManyRow : OpenClaim := { program := "ytdnaaonloaoeeaa", sum := "e4f20f427a9dca02a6d0dd237eba78b66236228df04edc995be415f1b13d10f0", func := "lontar/lontarlaw03.RuleMany", spec := "ruleMany", unfollowed := true, recurses := true, apart := false }
def RuleManySaid : Prop := ruleManyRow.holds Try.pinned (OpenSpec.ofChange ruleManySpec)

/-- ITS FALSE NEIGHBOUR: 'it returns false'. Refute it at one input. -/
def ruleManyWrong : ChangeSpec := { name := "ruleMany", fn := fun _ => fun
  | [d] => { results := [.lit (.bool false)], args := [d] }
  | _ => none }
def RuleManyWrongFalsely : Prop := ruleManyRow.holds Try.pinned (OpenSpec.ofChange ruleManyWrong)

/-- 'lontarlaw03.RuleFind': WHATEVER THE INPUT: true; the input reads as it did. -/
def ruleFindSpec : ChangeSpec := { name := "ruleFind", fn := fun _ => fun
  | [d1, d2, d3] => { results := [.lit (.bool true)], args := [d1, d2, d3] }
  | _ => none }
def ruleFindRow : OpenClaim := { program := "ytdnaaonloaoeeaa", sum := "e4f20f427a9dca02a6d0dd237eba78b66236228df04edc995be415f1b13d10f0", func := "lontar/lontarlaw03.RuleFind", spec := "ruleFind", unfollowed := true, recurses := true, apart := false }
def RuleFindSaid : Prop := ruleFindRow.holds Try.pinned (OpenSpec.ofChange ruleFindSpec)

/-- ITS FALSE NEIGHBOUR: 'it returns false'. Refute it at one input. -/
def ruleFindWrong : ChangeSpec := { name := "ruleFind", fn := fun _ => fun
  | [d1, d2, d3] => { results := [.lit (.bool false)], args := [d1, d2, d3] }
  | _ => none }
def RuleFindWrongFalsely : Prop := ruleFindRow.holds Try.pinned (OpenSpec.ofChange ruleFindWrong)

/-- 'lontarlaw03.RuleTurn': WHATEVER THE INPUT: true; the input reads as it did. -/
def ruleTurnSpec : ChangeSpec := { name := "ruleTurn", fn := fun _ => fun
  | [d] => { results := [.lit (.bool true)], args := [d] }
  | _ => none }
def ruleTurnRow : OpenClaim := { program := "ytdnaaonloaoeeaa", sum := "e4f20f427a9dca02a6d0dd237eba78b66236228df04edc995be415f1b13d10f0", func := "lontar/lontarlaw03.RuleTurn", spec := "ruleTurn", unfollowed := true, recurses := true, apart := false }
def RuleTurnSaid : Prop := ruleTurnRow.holds Try.pinned (OpenSpec.ofChange ruleTurnSpec)

/-- ITS FALSE NEIGHBOUR: 'it returns false'. Refute it at one input. -/
def ruleTurnWrong : ChangeSpec := { name := "ruleTurn", fn := fun _ => fun
  | [d] => { results := [.lit (.bool false)], args := [d] }
  | _ => none }
def RuleTurnWrongFalsely : Prop := ruleTurnRow.holds Try.pinned (OpenSpec.ofChange ruleTurnWrong)

/-- 'lontarlaw03.RuleSingles': WHATEVER THE INPUT: true; the input reads as it did. -/
def ruleSinglesSpec : ChangeSpec := { name := "ruleSingles", fn := fun _ => fun
  | [d1, d2] => { results := [.lit (.bool true)], args := [d1, d2] }
  | _ => none }
def ruleSinglesRow : OpenClaim := { program := "ytdnaaonloaoeeaa", sum := "e4f20f427a9dca02a6d0dd237eba78b66236228df04edc995be415f1b13d10f0", func := "lontar/lontarlaw03.RuleSingles", spec := "ruleSingles", unfollowed := true, recurses := true, apart := false }
def RuleSinglesSaid : Prop := ruleSinglesRow.holds Try.pinned (OpenSpec.ofChange ruleSinglesSpec)

/-- ITS FALSE NEIGHBOUR: 'it returns false'. Refute it at one input. -/
def ruleSinglesWrong : ChangeSpec := { name := "ruleSingles", fn := fun _ => fun
  | [d1, d2] => { results := [.lit (.bool false)], args := [d1, d2] }
  | _ => none }
def RuleSinglesWrongFalsely : Prop := ruleSinglesRow.holds Try.pinned (OpenSpec.ofChange ruleSinglesWrong)

/-- 'lontarlaw03.RuleLongest': WHATEVER THE INPUT: true; the input reads as it did. -/
def ruleLongestSpec : ChangeSpec := { name := "ruleLongest", fn := fun _ => fun
  | [d1, d2] => { results := [.lit (.bool true)], args := [d1, d2] }
  | _ => none }
def ruleLongestRow : OpenClaim := { program := "ytdnaaonloaoeeaa", sum := "e4f20f427a9dca02a6d0dd237eba78b66236228df04edc995be415f1b13d10f0", func := "lontar/lontarlaw03.RuleLongest", spec := "ruleLongest", unfollowed := true, recurses := true, apart := false }
def RuleLongestSaid : Prop := ruleLongestRow.holds Try.pinned (OpenSpec.ofChange ruleLongestSpec)

/-- ITS FALSE NEIGHBOUR: 'it returns false'. Refute it at one input. -/
def ruleLongestWrong : ChangeSpec := { name := "ruleLongest", fn := fun _ => fun
  | [d1, d2] => { results := [.lit (.bool false)], args := [d1, d2] }
  | _ => none }
def RuleLongestWrongFalsely : Prop := ruleLongestRow.holds Try.pinned (OpenSpec.ofChange ruleLongestWrong)

/-- 'lontarlaw03.RuleRight': WHATEVER THE INPUT: true; the input reads as it did. -/
def ruleRightSpec : ChangeSpec := { name := "ruleRight", fn := fun _ => fun
  | [d] => { results := [.lit (.bool true)], args := [d] }
  | _ => none }
def ruleRightRow : OpenClaim := { program := "ytdnaaonloaoeeaa", sum := "e4f20f427a9dca02a6d0dd237eba78b66236228df04edc995be415f1b13d10f0", func := "lontar/lontarlaw03.RuleRight", spec := "ruleRight", unfollowed := true, recurses := true, apart := false }
def RuleRightSaid : Prop := ruleRightRow.holds Try.pinned (OpenSpec.ofChange ruleRightSpec)

/-- ITS FALSE NEIGHBOUR: 'it returns false'. Refute it at one input. -/
def ruleRightWrong : ChangeSpec := { name := "ruleRight", fn := fun _ => fun
  | [d] => { results := [.lit (.bool false)], args := [d] }
  | _ => none }
def RuleRightWrongFalsely : Prop := ruleRightRow.holds Try.pinned (OpenSpec.ofChange ruleRightWrong)

/- THE SECOND FORM. 'bulk': how many values and letters a reading holds, each counted each time it is reached (what is shared counts as often as it is met; a slice's spare places count too). A statement '..UptoSaid' is the law's where the arguments, and the package variables that the reading takes, are together of bulk at most 1048576: NARROWER than '..Said'. Prove '..Said' where nothing that the law and all that it calls make is longer than what came in: it says more and counts as full. Else prove '..UptoSaid'. A law counts once. -/
mutual
def uptoBulk {H : Type} : DataW H → Nat
  | .lit (.string bytes) => bytes.length + 1
  | .lit _ => 1
  | .nil => 1
  | .ptr d => uptoBulk d + 1
  | .slice elems spare => uptoBulkAll elems + uptoBulkAll spare + 1
  | .agg parts => uptoBulkAll parts + 1
  | .iface _ d => uptoBulk d + 1
  | .map entries => uptoBulkEntries entries + 1
  | .held _ => 1
def uptoBulkAll {H : Type} : List (DataW H) → Nat
  | [] => 0
  | d :: r => uptoBulk d + uptoBulkAll r
def uptoBulkEntries {H : Type} : List (Lit × DataW H) → Nat
  | [] => 0
  | x :: r => uptoBulkEntry x + uptoBulkEntries r
def uptoBulkEntry {H : Type} : Lit × DataW H → Nat
  | (.string bytes, d) => bytes.length + uptoBulk d + 1
  | (_, d) => uptoBulk d + 1
 end
def uptoSmall : (H : Type) → List (DataW H) → Bool := fun _ ds => decide (uptoBulkAll ds ≤ 1048576)
def OpenSpec.upto (s : _root_.Go.ChangeSpec) : _root_.Go.OpenSpec := { _root_.Go.OpenSpec.ofChange s with cond := some uptoSmall }

/-- 'lontarlaw03.RuleCheck', WHERE WHAT IT READS IS OF BULK AT MOST 1048576: true; the input reads as it did. -/
def ruleCheckUptoRow : OpenClaim := { program := "ytdnaaonloaoeeaa", sum := "e4f20f427a9dca02a6d0dd237eba78b66236228df04edc995be415f1b13d10f0", func := "lontar/lontarlaw03.RuleCheck", spec := "ruleCheck", unfollowed := true, recurses := true, apart := false, narrowed := true }
def RuleCheckUptoSaid : Prop := ruleCheckUptoRow.holds Try.pinned (OpenSpec.upto ruleCheckSpec)

/-- 'lontarlaw03.RuleMany', WHERE WHAT IT READS IS OF BULK AT MOST 1048576: true; the input reads as it did. -/
def ruleManyUptoRow : OpenClaim := { program := "ytdnaaonloaoeeaa", sum := "e4f20f427a9dca02a6d0dd237eba78b66236228df04edc995be415f1b13d10f0", func := "lontar/lontarlaw03.RuleMany", spec := "ruleMany", unfollowed := true, recurses := true, apart := false, narrowed := true }
def RuleManyUptoSaid : Prop := ruleManyUptoRow.holds Try.pinned (OpenSpec.upto ruleManySpec)

/-- 'lontarlaw03.RuleFind', WHERE WHAT IT READS IS OF BULK AT MOST 1048576: true; the input reads as it did. -/
def ruleFindUptoRow : OpenClaim := { program := "ytdnaaonloaoeeaa", sum := "e4f20f427a9dca02a6d0dd237eba78b66236228df04edc995be415f1b13d10f0", func := "lontar/lontarlaw03.RuleFind", spec := "ruleFind", unfollowed := true, recurses := true, apart := false, narrowed := true }
def RuleFindUptoSaid : Prop := ruleFindUptoRow.holds Try.pinned (OpenSpec.upto ruleFindSpec)

/-- 'lontarlaw03.RuleTurn', WHERE WHAT IT READS IS OF BULK AT MOST 1048576: true; the input reads as it did. -/
def ruleTurnUptoRow : OpenClaim := { program := "ytdnaaonloaoeeaa", sum := "e4f20f427a9dca02a6d0dd237eba78b66236228df04edc995be415f1b13d10f0", func := "lontar/lontarlaw03.RuleTurn", spec := "ruleTurn", unfollowed := true, recurses := true, apart := false, narrowed := true }
def RuleTurnUptoSaid : Prop := ruleTurnUptoRow.holds Try.pinned (OpenSpec.upto ruleTurnSpec)

/-- 'lontarlaw03.RuleSingles', WHERE WHAT IT READS IS OF BULK AT MOST 1048576: true; the input reads as it did. -/
def ruleSinglesUptoRow : OpenClaim := { program := "ytdnaaonloaoeeaa", sum := "e4f20f427a9dca02a6d0dd237eba78b66236228df04edc995be415f1b13d10f0", func := "lontar/lontarlaw03.RuleSingles", spec := "ruleSingles", unfollowed := true, recurses := true, apart := false, narrowed := true }
def RuleSinglesUptoSaid : Prop := ruleSinglesUptoRow.holds Try.pinned (OpenSpec.upto ruleSinglesSpec)

/-- 'lontarlaw03.RuleLongest', WHERE WHAT IT READS IS OF BULK AT MOST 1048576: true; the input reads as it did. -/
def ruleLongestUptoRow : OpenClaim := { program := "ytdnaaonloaoeeaa", sum := "e4f20f427a9dca02a6d0dd237eba78b66236228df04edc995be415f1b13d10f0", func := "lontar/lontarlaw03.RuleLongest", spec := "ruleLongest", unfollowed := true, recurses := true, apart := false, narrowed := true }
def RuleLongestUptoSaid : Prop := ruleLongestUptoRow.holds Try.pinned (OpenSpec.upto ruleLongestSpec)

/-- 'lontarlaw03.RuleRight', WHERE WHAT IT READS IS OF BULK AT MOST 1048576: true; the input reads as it did. -/
def ruleRightUptoRow : OpenClaim := { program := "ytdnaaonloaoeeaa", sum := "e4f20f427a9dca02a6d0dd237eba78b66236228df04edc995be415f1b13d10f0", func := "lontar/lontarlaw03.RuleRight", spec := "ruleRight", unfollowed := true, recurses := true, apart := false, narrowed := true }
def RuleRightUptoSaid : Prop := ruleRightUptoRow.holds Try.pinned (OpenSpec.upto ruleRightSpec)

end Rows
end Go.Proofs.Ytdnaaonloaoeeaa
