/-
  No cell of these rows narrows 'for every input' (looked for: loops, veiled, ifaces, maps, wideKeys, modest, calm, conditions, laid).
  DERIVED. THE GIVEN ROWS OF THIS SEAT. 6 by the template 'for every input the law returns true; each argument reads behind the call as it read before'; 0 by the template 'total and deterministic' (their statements: YtfhchimfdlhmaaaTotals.lean).
  GIVEN WITH THE SEED: the statements are not yours to turn. If you find one false, say at which input.
  Laid BY PROGRAM, IN A SANDBOX (cutbox-rows.mjs): the forced cells as the released guide's own fill.sh prints them over the translation 22a1710b3ea2a367… (all of the seat's roots in one cut). By AI agents, Wed Nov 11 2026. No macro, syntax, notation, axiom, sorry.
-/
import Derived.Test.YtfhchimfdlhmaaaChecked
import GoSem.Claim
import GoSem.ClaimJoined
import GoSem.ClaimMapViews
import Derived.JoinedTies
import Derived.KernelRfl
namespace Go.Proofs.Ytfhchimfdlhmaaa
/- THE CELL 'sum', in the pinned program and in every row, IS THE sha256 OF THE DUMP (.gsa) THAT YtfhchimfdlhmaaaProg.lean LOADS. Nothing in Lean hashes anything: it is a label: what it is worth is what the hold of that sum in a sandbox is worth. -/
noncomputable def Try.pinned : Pinned := { name := "ytfhchimfdlhmaaa", sum := "22a1710b3ea2a3673d76dd19348917fa05886dd2182d309380afe14d91bd9925", checked := Try.checked }
namespace Rows
def none {H : Type} : Left H := { results := [], args := [] }

/-- 'lontarlaw13.VniSmall': WHATEVER THE INPUT: true; the input reads as it did. -/
def vniSmallSpec : ChangeSpec := { name := "vniSmall", fn := fun _ => fun
  | [d1, d2, d3] => { results := [.lit (.bool true)], args := [d1, d2, d3] }
  | _ => none }
def vniSmallRow : OpenClaim := { program := "ytfhchimfdlhmaaa", sum := "22a1710b3ea2a3673d76dd19348917fa05886dd2182d309380afe14d91bd9925", func := "lontar/lontarlaw13.VniSmall", spec := "vniSmall", apart := false }
def VniSmallSaid : Prop := vniSmallRow.holds Try.pinned (OpenSpec.ofChange vniSmallSpec)

/-- ITS FALSE NEIGHBOUR: 'it returns false'. Refute it at one input. -/
def vniSmallWrong : ChangeSpec := { name := "vniSmall", fn := fun _ => fun
  | [d1, d2, d3] => { results := [.lit (.bool false)], args := [d1, d2, d3] }
  | _ => none }
def VniSmallWrongFalsely : Prop := vniSmallRow.holds Try.pinned (OpenSpec.ofChange vniSmallWrong)

/-- 'lontarlaw13.VniRules': WHATEVER THE INPUT: true; the input reads as it did. -/
def vniRulesSpec : ChangeSpec := { name := "vniRules", fn := fun _ => fun
  | [d] => { results := [.lit (.bool true)], args := [d] }
  | _ => none }
def vniRulesRow : OpenClaim := { program := "ytfhchimfdlhmaaa", sum := "22a1710b3ea2a3673d76dd19348917fa05886dd2182d309380afe14d91bd9925", func := "lontar/lontarlaw13.VniRules", spec := "vniRules", apart := false }
def VniRulesSaid : Prop := vniRulesRow.holds Try.pinned (OpenSpec.ofChange vniRulesSpec)

/-- ITS FALSE NEIGHBOUR: 'it returns false'. Refute it at one input. -/
def vniRulesWrong : ChangeSpec := { name := "vniRules", fn := fun _ => fun
  | [d] => { results := [.lit (.bool false)], args := [d] }
  | _ => none }
def VniRulesWrongFalsely : Prop := vniRulesRow.holds Try.pinned (OpenSpec.ofChange vniRulesWrong)

/-- 'lontarlaw13.VniSize': WHATEVER THE INPUT: true; the input reads as it did. -/
def vniSizeSpec : ChangeSpec := { name := "vniSize", fn := fun _ => fun
  | [d] => { results := [.lit (.bool true)], args := [d] }
  | _ => none }
def vniSizeRow : OpenClaim := { program := "ytfhchimfdlhmaaa", sum := "22a1710b3ea2a3673d76dd19348917fa05886dd2182d309380afe14d91bd9925", func := "lontar/lontarlaw13.VniSize", spec := "vniSize", apart := false }
def VniSizeSaid : Prop := vniSizeRow.holds Try.pinned (OpenSpec.ofChange vniSizeSpec)

/-- ITS FALSE NEIGHBOUR: 'it returns false'. Refute it at one input. -/
def vniSizeWrong : ChangeSpec := { name := "vniSize", fn := fun _ => fun
  | [d] => { results := [.lit (.bool false)], args := [d] }
  | _ => none }
def VniSizeWrongFalsely : Prop := vniSizeRow.holds Try.pinned (OpenSpec.ofChange vniSizeWrong)

/-- 'lontarlaw13.VniRight': WHATEVER THE INPUT: true; the input reads as it did. -/
def vniRightSpec : ChangeSpec := { name := "vniRight", fn := fun _ => fun
  | [d] => { results := [.lit (.bool true)], args := [d] }
  | _ => none }
def vniRightRow : OpenClaim := { program := "ytfhchimfdlhmaaa", sum := "22a1710b3ea2a3673d76dd19348917fa05886dd2182d309380afe14d91bd9925", func := "lontar/lontarlaw13.VniRight", spec := "vniRight", unfollowed := true, recurses := true, apart := false }
def VniRightSaid : Prop := vniRightRow.holds Try.pinned (OpenSpec.ofChange vniRightSpec)

/-- ITS FALSE NEIGHBOUR: 'it returns false'. Refute it at one input. -/
def vniRightWrong : ChangeSpec := { name := "vniRight", fn := fun _ => fun
  | [d] => { results := [.lit (.bool false)], args := [d] }
  | _ => none }
def VniRightWrongFalsely : Prop := vniRightRow.holds Try.pinned (OpenSpec.ofChange vniRightWrong)

/-- 'lontarlaw13.VniReads': WHATEVER THE INPUT: true; the input reads as it did. -/
def vniReadsSpec : ChangeSpec := { name := "vniReads", fn := fun _ => fun
  | [d] => { results := [.lit (.bool true)], args := [d] }
  | _ => none }
def vniReadsRow : OpenClaim := { program := "ytfhchimfdlhmaaa", sum := "22a1710b3ea2a3673d76dd19348917fa05886dd2182d309380afe14d91bd9925", func := "lontar/lontarlaw13.VniReads", spec := "vniReads", unfollowed := true, recurses := true, apart := false }
def VniReadsSaid : Prop := vniReadsRow.holds Try.pinned (OpenSpec.ofChange vniReadsSpec)

/-- ITS FALSE NEIGHBOUR: 'it returns false'. Refute it at one input. -/
def vniReadsWrong : ChangeSpec := { name := "vniReads", fn := fun _ => fun
  | [d] => { results := [.lit (.bool false)], args := [d] }
  | _ => none }
def VniReadsWrongFalsely : Prop := vniReadsRow.holds Try.pinned (OpenSpec.ofChange vniReadsWrong)

/-- 'lontarlaw13.VniAscii': WHATEVER THE INPUT: true; the input reads as it did. -/
def vniAsciiSpec : ChangeSpec := { name := "vniAscii", fn := fun _ => fun
  | [d] => { results := [.lit (.bool true)], args := [d] }
  | _ => none }
def vniAsciiRow : OpenClaim := { program := "ytfhchimfdlhmaaa", sum := "22a1710b3ea2a3673d76dd19348917fa05886dd2182d309380afe14d91bd9925", func := "lontar/lontarlaw13.VniAscii", spec := "vniAscii", unfollowed := true, recurses := true, apart := false }
def VniAsciiSaid : Prop := vniAsciiRow.holds Try.pinned (OpenSpec.ofChange vniAsciiSpec)

/-- ITS FALSE NEIGHBOUR: 'it returns false'. Refute it at one input. -/
def vniAsciiWrong : ChangeSpec := { name := "vniAscii", fn := fun _ => fun
  | [d] => { results := [.lit (.bool false)], args := [d] }
  | _ => none }
def VniAsciiWrongFalsely : Prop := vniAsciiRow.holds Try.pinned (OpenSpec.ofChange vniAsciiWrong)

/- THE SECOND FORM. 'bulk': how many values and letters a reading holds, each counted each time it is reached (what is shared counts as often as it is met; a slice's spare places count too). A statement '..UptoSaid' is the law's where the arguments, and the package variables that the reading takes, are together of bulk at most 1048576: NARROWER than '..Said'. Prove '..Said' where nothing that the law and all that it calls make is longer than what came in: it says more and counts as full. Else prove '..UptoSaid'. A law counts once. -/
mutual
def uptoBulk {H : Type} : DataW H → Nat
  | .lit (.string bytes) => bytes.length + 1
  | .lit _ => 1
  | .nil => 1
  | .ptr d => uptoBulk d + 1
  | .slice elems spare => uptoBulkAll elems + uptoBulkAll spare + 1
  | .agg parts => uptoBulkAll parts + 1
  | .iface _ d => uptoBulk d + 1
  | .map entries => uptoBulkEntries entries + 1
  | .held _ => 1
def uptoBulkAll {H : Type} : List (DataW H) → Nat
  | [] => 0
  | d :: r => uptoBulk d + uptoBulkAll r
def uptoBulkEntries {H : Type} : List (Lit × DataW H) → Nat
  | [] => 0
  | x :: r => uptoBulkEntry x + uptoBulkEntries r
def uptoBulkEntry {H : Type} : Lit × DataW H → Nat
  | (.string bytes, d) => bytes.length + uptoBulk d + 1
  | (_, d) => uptoBulk d + 1
 end
def uptoSmall : (H : Type) → List (DataW H) → Bool := fun _ ds => decide (uptoBulkAll ds ≤ 1048576)
def OpenSpec.upto (s : _root_.Go.ChangeSpec) : _root_.Go.OpenSpec := { _root_.Go.OpenSpec.ofChange s with cond := some uptoSmall }

/-- 'lontarlaw13.VniSmall', WHERE WHAT IT READS IS OF BULK AT MOST 1048576: true; the input reads as it did. -/
def vniSmallUptoRow : OpenClaim := { program := "ytfhchimfdlhmaaa", sum := "22a1710b3ea2a3673d76dd19348917fa05886dd2182d309380afe14d91bd9925", func := "lontar/lontarlaw13.VniSmall", spec := "vniSmall", apart := false, narrowed := true }
def VniSmallUptoSaid : Prop := vniSmallUptoRow.holds Try.pinned (OpenSpec.upto vniSmallSpec)

/-- 'lontarlaw13.VniRules', WHERE WHAT IT READS IS OF BULK AT MOST 1048576: true; the input reads as it did. -/
def vniRulesUptoRow : OpenClaim := { program := "ytfhchimfdlhmaaa", sum := "22a1710b3ea2a3673d76dd19348917fa05886dd2182d309380afe14d91bd9925", func := "lontar/lontarlaw13.VniRules", spec := "vniRules", apart := false, narrowed := true }
def VniRulesUptoSaid : Prop := vniRulesUptoRow.holds Try.pinned (OpenSpec.upto vniRulesSpec)

/-- 'lontarlaw13.VniSize', WHERE WHAT IT READS IS OF BULK AT MOST 1048576: true; the input reads as it did. -/
def vniSizeUptoRow : OpenClaim := { program := "ytfhchimfdlhmaaa", sum := "22a1710b3ea2a3673d76dd19348917fa05886dd2182d309380afe14d91bd9925", func := "lontar/lontarlaw13.VniSize", spec := "vniSize", apart := false, narrowed := true }
def VniSizeUptoSaid : Prop := vniSizeUptoRow.holds Try.pinned (OpenSpec.upto vniSizeSpec)

/-- 'lontarlaw13.VniRight', WHERE WHAT IT READS IS OF BULK AT MOST 1048576: true; the input reads as it did. -/
def vniRightUptoRow : OpenClaim := { program := "ytfhchimfdlhmaaa", sum := "22a1710b3ea2a3673d76dd19348917fa05886dd2182d309380afe14d91bd9925", func := "lontar/lontarlaw13.VniRight", spec := "vniRight", unfollowed := true, recurses := true, apart := false, narrowed := true }
def VniRightUptoSaid : Prop := vniRightUptoRow.holds Try.pinned (OpenSpec.upto vniRightSpec)

/-- 'lontarlaw13.VniReads', WHERE WHAT IT READS IS OF BULK AT MOST 1048576: true; the input reads as it did. -/
def vniReadsUptoRow : OpenClaim := { program := "ytfhchimfdlhmaaa", sum := "22a1710b3ea2a3673d76dd19348917fa05886dd2182d309380afe14d91bd9925", func := "lontar/lontarlaw13.VniReads", spec := "vniReads", unfollowed := true, recurses := true, apart := false, narrowed := true }
def VniReadsUptoSaid : Prop := vniReadsUptoRow.holds Try.pinned (OpenSpec.upto vniReadsSpec)

/-- 'lontarlaw13.VniAscii', WHERE WHAT IT READS IS OF BULK AT MOST 1048576: true; the input reads as it did. -/
def vniAsciiUptoRow : OpenClaim := { program := "ytfhchimfdlhmaaa", sum := "22a1710b3ea2a3673d76dd19348917fa05886dd2182d309380afe14d91bd9925", func := "lontar/lontarlaw13.VniAscii", spec := "vniAscii", unfollowed := true, recurses := true, apart := false, narrowed := true }
def VniAsciiUptoSaid : Prop := vniAsciiUptoRow.holds Try.pinned (OpenSpec.upto vniAsciiSpec)

end Rows
end Go.Proofs.Ytfhchimfdlhmaaa
