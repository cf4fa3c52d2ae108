/-
  No cell of these rows narrows 'for every input' (looked for: loops, veiled, ifaces, maps, wideKeys, modest, calm, conditions, laid).
  DERIVED. THE GIVEN ROWS OF THIS SEAT. 6 by the template 'for every input the law returns true; each argument reads behind the call as it read before'; 0 by the template 'total and deterministic' (their statements: YtjigddebmbhbjaaTotals.lean).
  GIVEN WITH THE SEED: the statements are not yours to turn. If you find one false, say at which input.
  Laid BY PROGRAM, IN A SANDBOX (cutbox-rows.mjs): the forced cells as the released guide's own fill.sh prints them over the translation d8cc12bf0c1208e8… (all of the seat's roots in one cut). By AI agents, Wed Nov 11 2026. No macro, syntax, notation, axiom, sorry.
-/
import Derived.Test.YtjigddebmbhbjaaChecked
import GoSem.Claim
import GoSem.ClaimJoined
import GoSem.ClaimMapViews
import Derived.JoinedTies
import Derived.KernelRfl
namespace Go.Proofs.Ytjigddebmbhbjaa
/- THE CELL 'sum', in the pinned program and in every row, IS THE sha256 OF THE DUMP (.gsa) THAT YtjigddebmbhbjaaProg.lean LOADS. Nothing in Lean hashes anything: it is a label: what it is worth is what the hold of that sum in a sandbox is worth. -/
noncomputable def Try.pinned : Pinned := { name := "ytjigddebmbhbjaa", sum := "d8cc12bf0c1208e8e462a143d61346ab4542ce7fd0fdd8dccc5da5f5ec14fb02", checked := Try.checked }
namespace Rows
def none {H : Type} : Left H := { results := [], args := [] }

/-- 'lontarlaw12.TcvnDecode': WHATEVER THE INPUT: true; the input reads as it did. -/
def tcvnDecodeSpec : ChangeSpec := { name := "tcvnDecode", fn := fun _ => fun
  | [d] => { results := [.lit (.bool true)], args := [d] }
  | _ => none }
def tcvnDecodeRow : OpenClaim := { program := "ytjigddebmbhbjaa", sum := "d8cc12bf0c1208e8e462a143d61346ab4542ce7fd0fdd8dccc5da5f5ec14fb02", func := "lontar/lontarlaw12.TcvnDecode", spec := "tcvnDecode", apart := false }
def TcvnDecodeSaid : Prop := tcvnDecodeRow.holds Try.pinned (OpenSpec.ofChange tcvnDecodeSpec)

/-- ITS FALSE NEIGHBOUR: 'it returns false'. Refute it at one input. -/
def tcvnDecodeWrong : ChangeSpec := { name := "tcvnDecode", fn := fun _ => fun
  | [d] => { results := [.lit (.bool false)], args := [d] }
  | _ => none }
def TcvnDecodeWrongFalsely : Prop := tcvnDecodeRow.holds Try.pinned (OpenSpec.ofChange tcvnDecodeWrong)

/-- 'lontarlaw12.TcvnEncode': WHATEVER THE INPUT: true; the input reads as it did. -/
def tcvnEncodeSpec : ChangeSpec := { name := "tcvnEncode", fn := fun _ => fun
  | [d1, d2] => { results := [.lit (.bool true)], args := [d1, d2] }
  | _ => none }
def tcvnEncodeRow : OpenClaim := { program := "ytjigddebmbhbjaa", sum := "d8cc12bf0c1208e8e462a143d61346ab4542ce7fd0fdd8dccc5da5f5ec14fb02", func := "lontar/lontarlaw12.TcvnEncode", spec := "tcvnEncode", apart := false }
def TcvnEncodeSaid : Prop := tcvnEncodeRow.holds Try.pinned (OpenSpec.ofChange tcvnEncodeSpec)

/-- ITS FALSE NEIGHBOUR: 'it returns false'. Refute it at one input. -/
def tcvnEncodeWrong : ChangeSpec := { name := "tcvnEncode", fn := fun _ => fun
  | [d1, d2] => { results := [.lit (.bool false)], args := [d1, d2] }
  | _ => none }
def TcvnEncodeWrongFalsely : Prop := tcvnEncodeRow.holds Try.pinned (OpenSpec.ofChange tcvnEncodeWrong)

/-- 'lontarlaw12.TcvnRules': WHATEVER THE INPUT: true; the input reads as it did. -/
def tcvnRulesSpec : ChangeSpec := { name := "tcvnRules", fn := fun _ => fun
  | [d] => { results := [.lit (.bool true)], args := [d] }
  | _ => none }
def tcvnRulesRow : OpenClaim := { program := "ytjigddebmbhbjaa", sum := "d8cc12bf0c1208e8e462a143d61346ab4542ce7fd0fdd8dccc5da5f5ec14fb02", func := "lontar/lontarlaw12.TcvnRules", spec := "tcvnRules", apart := false }
def TcvnRulesSaid : Prop := tcvnRulesRow.holds Try.pinned (OpenSpec.ofChange tcvnRulesSpec)

/-- ITS FALSE NEIGHBOUR: 'it returns false'. Refute it at one input. -/
def tcvnRulesWrong : ChangeSpec := { name := "tcvnRules", fn := fun _ => fun
  | [d] => { results := [.lit (.bool false)], args := [d] }
  | _ => none }
def TcvnRulesWrongFalsely : Prop := tcvnRulesRow.holds Try.pinned (OpenSpec.ofChange tcvnRulesWrong)

/-- 'lontarlaw12.TcvnSmall': WHATEVER THE INPUT: true; the input reads as it did. -/
def tcvnSmallSpec : ChangeSpec := { name := "tcvnSmall", fn := fun _ => fun
  | [d] => { results := [.lit (.bool true)], args := [d] }
  | _ => none }
def tcvnSmallRow : OpenClaim := { program := "ytjigddebmbhbjaa", sum := "d8cc12bf0c1208e8e462a143d61346ab4542ce7fd0fdd8dccc5da5f5ec14fb02", func := "lontar/lontarlaw12.TcvnSmall", spec := "tcvnSmall", apart := false }
def TcvnSmallSaid : Prop := tcvnSmallRow.holds Try.pinned (OpenSpec.ofChange tcvnSmallSpec)

/-- ITS FALSE NEIGHBOUR: 'it returns false'. Refute it at one input. -/
def tcvnSmallWrong : ChangeSpec := { name := "tcvnSmall", fn := fun _ => fun
  | [d] => { results := [.lit (.bool false)], args := [d] }
  | _ => none }
def TcvnSmallWrongFalsely : Prop := tcvnSmallRow.holds Try.pinned (OpenSpec.ofChange tcvnSmallWrong)

/-- 'lontarlaw12.TcvnRound': WHATEVER THE INPUT: true; the input reads as it did. -/
def tcvnRoundSpec : ChangeSpec := { name := "tcvnRound", fn := fun _ => fun
  | [d1, d2] => { results := [.lit (.bool true)], args := [d1, d2] }
  | _ => none }
def tcvnRoundRow : OpenClaim := { program := "ytjigddebmbhbjaa", sum := "d8cc12bf0c1208e8e462a143d61346ab4542ce7fd0fdd8dccc5da5f5ec14fb02", func := "lontar/lontarlaw12.TcvnRound", spec := "tcvnRound", apart := false }
def TcvnRoundSaid : Prop := tcvnRoundRow.holds Try.pinned (OpenSpec.ofChange tcvnRoundSpec)

/-- ITS FALSE NEIGHBOUR: 'it returns false'. Refute it at one input. -/
def tcvnRoundWrong : ChangeSpec := { name := "tcvnRound", fn := fun _ => fun
  | [d1, d2] => { results := [.lit (.bool false)], args := [d1, d2] }
  | _ => none }
def TcvnRoundWrongFalsely : Prop := tcvnRoundRow.holds Try.pinned (OpenSpec.ofChange tcvnRoundWrong)

/-- 'lontarlaw12.TcvnAscii': WHATEVER THE INPUT: true; the input reads as it did. -/
def tcvnAsciiSpec : ChangeSpec := { name := "tcvnAscii", fn := fun _ => fun
  | [d] => { results := [.lit (.bool true)], args := [d] }
  | _ => none }
def tcvnAsciiRow : OpenClaim := { program := "ytjigddebmbhbjaa", sum := "d8cc12bf0c1208e8e462a143d61346ab4542ce7fd0fdd8dccc5da5f5ec14fb02", func := "lontar/lontarlaw12.TcvnAscii", spec := "tcvnAscii", apart := false }
def TcvnAsciiSaid : Prop := tcvnAsciiRow.holds Try.pinned (OpenSpec.ofChange tcvnAsciiSpec)

/-- ITS FALSE NEIGHBOUR: 'it returns false'. Refute it at one input. -/
def tcvnAsciiWrong : ChangeSpec := { name := "tcvnAscii", fn := fun _ => fun
  | [d] => { results := [.lit (.bool false)], args := [d] }
  | _ => none }
def TcvnAsciiWrongFalsely : Prop := tcvnAsciiRow.holds Try.pinned (OpenSpec.ofChange tcvnAsciiWrong)

/- THE SECOND FORM. 'bulk': how many values and letters a reading holds, each counted each time it is reached (what is shared counts as often as it is met; a slice's spare places count too). A statement '..UptoSaid' is the law's where the arguments, and the package variables that the reading takes, are together of bulk at most 1048576: NARROWER than '..Said'. Prove '..Said' where nothing that the law and all that it calls make is longer than what came in: it says more and counts as full. Else prove '..UptoSaid'. A law counts once. -/
mutual
def uptoBulk {H : Type} : DataW H → Nat
  | .lit (.string bytes) => bytes.length + 1
  | .lit _ => 1
  | .nil => 1
  | .ptr d => uptoBulk d + 1
  | .slice elems spare => uptoBulkAll elems + uptoBulkAll spare + 1
  | .agg parts => uptoBulkAll parts + 1
  | .iface _ d => uptoBulk d + 1
  | .map entries => uptoBulkEntries entries + 1
  | .held _ => 1
def uptoBulkAll {H : Type} : List (DataW H) → Nat
  | [] => 0
  | d :: r => uptoBulk d + uptoBulkAll r
def uptoBulkEntries {H : Type} : List (Lit × DataW H) → Nat
  | [] => 0
  | x :: r => uptoBulkEntry x + uptoBulkEntries r
def uptoBulkEntry {H : Type} : Lit × DataW H → Nat
  | (.string bytes, d) => bytes.length + uptoBulk d + 1
  | (_, d) => uptoBulk d + 1
 end
def uptoSmall : (H : Type) → List (DataW H) → Bool := fun _ ds => decide (uptoBulkAll ds ≤ 1048576)
def OpenSpec.upto (s : _root_.Go.ChangeSpec) : _root_.Go.OpenSpec := { _root_.Go.OpenSpec.ofChange s with cond := some uptoSmall }

/-- 'lontarlaw12.TcvnDecode', WHERE WHAT IT READS IS OF BULK AT MOST 1048576: true; the input reads as it did. -/
def tcvnDecodeUptoRow : OpenClaim := { program := "ytjigddebmbhbjaa", sum := "d8cc12bf0c1208e8e462a143d61346ab4542ce7fd0fdd8dccc5da5f5ec14fb02", func := "lontar/lontarlaw12.TcvnDecode", spec := "tcvnDecode", apart := false, narrowed := true }
def TcvnDecodeUptoSaid : Prop := tcvnDecodeUptoRow.holds Try.pinned (OpenSpec.upto tcvnDecodeSpec)

/-- 'lontarlaw12.TcvnEncode', WHERE WHAT IT READS IS OF BULK AT MOST 1048576: true; the input reads as it did. -/
def tcvnEncodeUptoRow : OpenClaim := { program := "ytjigddebmbhbjaa", sum := "d8cc12bf0c1208e8e462a143d61346ab4542ce7fd0fdd8dccc5da5f5ec14fb02", func := "lontar/lontarlaw12.TcvnEncode", spec := "tcvnEncode", apart := false, narrowed := true }
def TcvnEncodeUptoSaid : Prop := tcvnEncodeUptoRow.holds Try.pinned (OpenSpec.upto tcvnEncodeSpec)

/-- 'lontarlaw12.TcvnRules', WHERE WHAT IT READS IS OF BULK AT MOST 1048576: true; the input reads as it did. -/
def tcvnRulesUptoRow : OpenClaim := { program := "ytjigddebmbhbjaa", sum := "d8cc12bf0c1208e8e462a143d61346ab4542ce7fd0fdd8dccc5da5f5ec14fb02", func := "lontar/lontarlaw12.TcvnRules", spec := "tcvnRules", apart := false, narrowed := true }
def TcvnRulesUptoSaid : Prop := tcvnRulesUptoRow.holds Try.pinned (OpenSpec.upto tcvnRulesSpec)

/-- 'lontarlaw12.TcvnSmall', WHERE WHAT IT READS IS OF BULK AT MOST 1048576: true; the input reads as it did. -/
def tcvnSmallUptoRow : OpenClaim := { program := "ytjigddebmbhbjaa", sum := "d8cc12bf0c1208e8e462a143d61346ab4542ce7fd0fdd8dccc5da5f5ec14fb02", func := "lontar/lontarlaw12.TcvnSmall", spec := "tcvnSmall", apart := false, narrowed := true }
def TcvnSmallUptoSaid : Prop := tcvnSmallUptoRow.holds Try.pinned (OpenSpec.upto tcvnSmallSpec)

/-- 'lontarlaw12.TcvnRound', WHERE WHAT IT READS IS OF BULK AT MOST 1048576: true; the input reads as it did. -/
def tcvnRoundUptoRow : OpenClaim := { program := "ytjigddebmbhbjaa", sum := "d8cc12bf0c1208e8e462a143d61346ab4542ce7fd0fdd8dccc5da5f5ec14fb02", func := "lontar/lontarlaw12.TcvnRound", spec := "tcvnRound", apart := false, narrowed := true }
def TcvnRoundUptoSaid : Prop := tcvnRoundUptoRow.holds Try.pinned (OpenSpec.upto tcvnRoundSpec)

/-- 'lontarlaw12.TcvnAscii', WHERE WHAT IT READS IS OF BULK AT MOST 1048576: true; the input reads as it did. -/
def tcvnAsciiUptoRow : OpenClaim := { program := "ytjigddebmbhbjaa", sum := "d8cc12bf0c1208e8e462a143d61346ab4542ce7fd0fdd8dccc5da5f5ec14fb02", func := "lontar/lontarlaw12.TcvnAscii", spec := "tcvnAscii", apart := false, narrowed := true }
def TcvnAsciiUptoSaid : Prop := tcvnAsciiUptoRow.holds Try.pinned (OpenSpec.upto tcvnAsciiSpec)

end Rows
end Go.Proofs.Ytjigddebmbhbjaa
