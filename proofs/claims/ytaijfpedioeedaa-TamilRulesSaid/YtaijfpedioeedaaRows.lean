/-
  No cell of these rows narrows 'for every input' (looked for: loops, veiled, ifaces, maps, wideKeys, modest, calm, conditions, laid).
  DERIVED. THE GIVEN ROWS OF THIS SEAT. 6 by the template 'for every input the law returns true; each argument reads behind the call as it read before'; 0 by the template 'total and deterministic' (their statements: YtaijfpedioeedaaTotals.lean).
  GIVEN WITH THE SEED: the statements are not yours to turn. If you find one false, say at which input.
  Laid BY PROGRAM, IN A SANDBOX (cutbox-rows.mjs): the forced cells as the released guide's own fill.sh prints them over the translation f42d2df5ccf75fd2… (all of the seat's roots in one cut). By AI agents, Wed Nov 11 2026. No macro, syntax, notation, axiom, sorry.
-/
import Derived.Test.YtaijfpedioeedaaChecked
import GoSem.Claim
import GoSem.ClaimJoined
import GoSem.ClaimMapViews
import Derived.JoinedTies
import Derived.KernelRfl
namespace Go.Proofs.Ytaijfpedioeedaa
/- THE CELL 'sum', in the pinned program and in every row, IS THE sha256 OF THE DUMP (.gsa) THAT YtaijfpedioeedaaProg.lean LOADS. Nothing in Lean hashes anything: it is a label: what it is worth is what the hold of that sum in a sandbox is worth. -/
noncomputable def Try.pinned : Pinned := { name := "ytaijfpedioeedaa", sum := "f42d2df5ccf75fd24aaa5aded3b1bb067b74de01630d9e74b358a4808389e4ac", checked := Try.checked }
namespace Rows
def none {H : Type} : Left H := { results := [], args := [] }

/-- 'lontarlaw17.TamilRules': WHATEVER THE INPUT: true; the input reads as it did. -/
def tamilRulesSpec : ChangeSpec := { name := "tamilRules", fn := fun _ => fun
  | [d] => { results := [.lit (.bool true)], args := [d] }
  | _ => none }
def tamilRulesRow : OpenClaim := { program := "ytaijfpedioeedaa", sum := "f42d2df5ccf75fd24aaa5aded3b1bb067b74de01630d9e74b358a4808389e4ac", func := "lontar/lontarlaw17.TamilRules", spec := "tamilRules", unfollowed := true, recurses := true, apart := false }
def TamilRulesSaid : Prop := tamilRulesRow.holds Try.pinned (OpenSpec.ofChange tamilRulesSpec)

/-- ITS FALSE NEIGHBOUR: 'it returns false'. Refute it at one input. -/
def tamilRulesWrong : ChangeSpec := { name := "tamilRules", fn := fun _ => fun
  | [d] => { results := [.lit (.bool false)], args := [d] }
  | _ => none }
def TamilRulesWrongFalsely : Prop := tamilRulesRow.holds Try.pinned (OpenSpec.ofChange tamilRulesWrong)

/-- 'lontarlaw17.TamilConsonant': WHATEVER THE INPUT: true; the input reads as it did. -/
def tamilConsonantSpec : ChangeSpec := { name := "tamilConsonant", fn := fun _ => fun
  | [d] => { results := [.lit (.bool true)], args := [d] }
  | _ => none }
def tamilConsonantRow : OpenClaim := { program := "ytaijfpedioeedaa", sum := "f42d2df5ccf75fd24aaa5aded3b1bb067b74de01630d9e74b358a4808389e4ac", func := "lontar/lontarlaw17.TamilConsonant", spec := "tamilConsonant", unfollowed := true, recurses := true, apart := false }
def TamilConsonantSaid : Prop := tamilConsonantRow.holds Try.pinned (OpenSpec.ofChange tamilConsonantSpec)

/-- ITS FALSE NEIGHBOUR: 'it returns false'. Refute it at one input. -/
def tamilConsonantWrong : ChangeSpec := { name := "tamilConsonant", fn := fun _ => fun
  | [d] => { results := [.lit (.bool false)], args := [d] }
  | _ => none }
def TamilConsonantWrongFalsely : Prop := tamilConsonantRow.holds Try.pinned (OpenSpec.ofChange tamilConsonantWrong)

/-- 'lontarlaw17.TamilRight': WHATEVER THE INPUT: true; the input reads as it did. -/
def tamilRightSpec : ChangeSpec := { name := "tamilRight", fn := fun _ => fun
  | [d1, d2] => { results := [.lit (.bool true)], args := [d1, d2] }
  | _ => none }
def tamilRightRow : OpenClaim := { program := "ytaijfpedioeedaa", sum := "f42d2df5ccf75fd24aaa5aded3b1bb067b74de01630d9e74b358a4808389e4ac", func := "lontar/lontarlaw17.TamilRight", spec := "tamilRight", unfollowed := true, recurses := true, apart := false }
def TamilRightSaid : Prop := tamilRightRow.holds Try.pinned (OpenSpec.ofChange tamilRightSpec)

/-- ITS FALSE NEIGHBOUR: 'it returns false'. Refute it at one input. -/
def tamilRightWrong : ChangeSpec := { name := "tamilRight", fn := fun _ => fun
  | [d1, d2] => { results := [.lit (.bool false)], args := [d1, d2] }
  | _ => none }
def TamilRightWrongFalsely : Prop := tamilRightRow.holds Try.pinned (OpenSpec.ofChange tamilRightWrong)

/-- 'lontarlaw17.TamilMoves': WHATEVER THE INPUT: true; the input reads as it did. -/
def tamilMovesSpec : ChangeSpec := { name := "tamilMoves", fn := fun _ => fun
  | [d1, d2, d3] => { results := [.lit (.bool true)], args := [d1, d2, d3] }
  | _ => none }
def tamilMovesRow : OpenClaim := { program := "ytaijfpedioeedaa", sum := "f42d2df5ccf75fd24aaa5aded3b1bb067b74de01630d9e74b358a4808389e4ac", func := "lontar/lontarlaw17.TamilMoves", spec := "tamilMoves", unfollowed := true, recurses := true, apart := false }
def TamilMovesSaid : Prop := tamilMovesRow.holds Try.pinned (OpenSpec.ofChange tamilMovesSpec)

/-- ITS FALSE NEIGHBOUR: 'it returns false'. Refute it at one input. -/
def tamilMovesWrong : ChangeSpec := { name := "tamilMoves", fn := fun _ => fun
  | [d1, d2, d3] => { results := [.lit (.bool false)], args := [d1, d2, d3] }
  | _ => none }
def TamilMovesWrongFalsely : Prop := tamilMovesRow.holds Try.pinned (OpenSpec.ofChange tamilMovesWrong)

/-- 'lontarlaw17.TamilBack': WHATEVER THE INPUT: true; the input reads as it did. -/
def tamilBackSpec : ChangeSpec := { name := "tamilBack", fn := fun _ => fun
  | [d] => { results := [.lit (.bool true)], args := [d] }
  | _ => none }
def tamilBackRow : OpenClaim := { program := "ytaijfpedioeedaa", sum := "f42d2df5ccf75fd24aaa5aded3b1bb067b74de01630d9e74b358a4808389e4ac", func := "lontar/lontarlaw17.TamilBack", spec := "tamilBack", unfollowed := true, recurses := true, apart := false }
def TamilBackSaid : Prop := tamilBackRow.holds Try.pinned (OpenSpec.ofChange tamilBackSpec)

/-- ITS FALSE NEIGHBOUR: 'it returns false'. Refute it at one input. -/
def tamilBackWrong : ChangeSpec := { name := "tamilBack", fn := fun _ => fun
  | [d] => { results := [.lit (.bool false)], args := [d] }
  | _ => none }
def TamilBackWrongFalsely : Prop := tamilBackRow.holds Try.pinned (OpenSpec.ofChange tamilBackWrong)

/-- 'lontarlaw17.TamilVowels': WHATEVER THE INPUT: true; the input reads as it did. -/
def tamilVowelsSpec : ChangeSpec := { name := "tamilVowels", fn := fun _ => fun
  | [d1, d2] => { results := [.lit (.bool true)], args := [d1, d2] }
  | _ => none }
def tamilVowelsRow : OpenClaim := { program := "ytaijfpedioeedaa", sum := "f42d2df5ccf75fd24aaa5aded3b1bb067b74de01630d9e74b358a4808389e4ac", func := "lontar/lontarlaw17.TamilVowels", spec := "tamilVowels", unfollowed := true, recurses := true, apart := false }
def TamilVowelsSaid : Prop := tamilVowelsRow.holds Try.pinned (OpenSpec.ofChange tamilVowelsSpec)

/-- ITS FALSE NEIGHBOUR: 'it returns false'. Refute it at one input. -/
def tamilVowelsWrong : ChangeSpec := { name := "tamilVowels", fn := fun _ => fun
  | [d1, d2] => { results := [.lit (.bool false)], args := [d1, d2] }
  | _ => none }
def TamilVowelsWrongFalsely : Prop := tamilVowelsRow.holds Try.pinned (OpenSpec.ofChange tamilVowelsWrong)

/- THE SECOND FORM. 'bulk': how many values and letters a reading holds, each counted each time it is reached (what is shared counts as often as it is met; a slice's spare places count too). A statement '..UptoSaid' is the law's where the arguments, and the package variables that the reading takes, are together of bulk at most 1048576: NARROWER than '..Said'. Prove '..Said' where nothing that the law and all that it calls make is longer than what came in: it says more and counts as full. Else prove '..UptoSaid'. A law counts once. -/
mutual
def uptoBulk {H : Type} : DataW H → Nat
  | .lit (.string bytes) => bytes.length + 1
  | .lit _ => 1
  | .nil => 1
  | .ptr d => uptoBulk d + 1
  | .slice elems spare => uptoBulkAll elems + uptoBulkAll spare + 1
  | .agg parts => uptoBulkAll parts + 1
  | .iface _ d => uptoBulk d + 1
  | .map entries => uptoBulkEntries entries + 1
  | .held _ => 1
def uptoBulkAll {H : Type} : List (DataW H) → Nat
  | [] => 0
  | d :: r => uptoBulk d + uptoBulkAll r
def uptoBulkEntries {H : Type} : List (Lit × DataW H) → Nat
  | [] => 0
  | x :: r => uptoBulkEntry x + uptoBulkEntries r
def uptoBulkEntry {H : Type} : Lit × DataW H → Nat
  | (.string bytes, d) => bytes.length + uptoBulk d + 1
  | (_, d) => uptoBulk d + 1
 end
def uptoSmall : (H : Type) → List (DataW H) → Bool := fun _ ds => decide (uptoBulkAll ds ≤ 1048576)
def OpenSpec.upto (s : _root_.Go.ChangeSpec) : _root_.Go.OpenSpec := { _root_.Go.OpenSpec.ofChange s with cond := some uptoSmall }

/-- 'lontarlaw17.TamilRules', WHERE WHAT IT READS IS OF BULK AT MOST 1048576: true; the input reads as it did. -/
def tamilRulesUptoRow : OpenClaim := { program := "ytaijfpedioeedaa", sum := "f42d2df5ccf75fd24aaa5aded3b1bb067b74de01630d9e74b358a4808389e4ac", func := "lontar/lontarlaw17.TamilRules", spec := "tamilRules", unfollowed := true, recurses := true, apart := false, narrowed := true }
def TamilRulesUptoSaid : Prop := tamilRulesUptoRow.holds Try.pinned (OpenSpec.upto tamilRulesSpec)

/-- 'lontarlaw17.TamilConsonant', WHERE WHAT IT READS IS OF BULK AT MOST 1048576: true; the input reads as it did. -/
def tamilConsonantUptoRow : OpenClaim := { program := "ytaijfpedioeedaa", sum := "f42d2df5ccf75fd24aaa5aded3b1bb067b74de01630d9e74b358a4808389e4ac", func := "lontar/lontarlaw17.TamilConsonant", spec := "tamilConsonant", unfollowed := true, recurses := true, apart := false, narrowed := true }
def TamilConsonantUptoSaid : Prop := tamilConsonantUptoRow.holds Try.pinned (OpenSpec.upto tamilConsonantSpec)

/-- 'lontarlaw17.TamilRight', WHERE WHAT IT READS IS OF BULK AT MOST 1048576: true; the input reads as it did. -/
def tamilRightUptoRow : OpenClaim := { program := "ytaijfpedioeedaa", sum := "f42d2df5ccf75fd24aaa5aded3b1bb067b74de01630d9e74b358a4808389e4ac", func := "lontar/lontarlaw17.TamilRight", spec := "tamilRight", unfollowed := true, recurses := true, apart := false, narrowed := true }
def TamilRightUptoSaid : Prop := tamilRightUptoRow.holds Try.pinned (OpenSpec.upto tamilRightSpec)

/-- 'lontarlaw17.TamilMoves', WHERE WHAT IT READS IS OF BULK AT MOST 1048576: true; the input reads as it did. -/
def tamilMovesUptoRow : OpenClaim := { program := "ytaijfpedioeedaa", sum := "f42d2df5ccf75fd24aaa5aded3b1bb067b74de01630d9e74b358a4808389e4ac", func := "lontar/lontarlaw17.TamilMoves", spec := "tamilMoves", unfollowed := true, recurses := true, apart := false, narrowed := true }
def TamilMovesUptoSaid : Prop := tamilMovesUptoRow.holds Try.pinned (OpenSpec.upto tamilMovesSpec)

/-- 'lontarlaw17.TamilBack', WHERE WHAT IT READS IS OF BULK AT MOST 1048576: true; the input reads as it did. -/
def tamilBackUptoRow : OpenClaim := { program := "ytaijfpedioeedaa", sum := "f42d2df5ccf75fd24aaa5aded3b1bb067b74de01630d9e74b358a4808389e4ac", func := "lontar/lontarlaw17.TamilBack", spec := "tamilBack", unfollowed := true, recurses := true, apart := false, narrowed := true }
def TamilBackUptoSaid : Prop := tamilBackUptoRow.holds Try.pinned (OpenSpec.upto tamilBackSpec)

/-- 'lontarlaw17.TamilVowels', WHERE WHAT IT READS IS OF BULK AT MOST 1048576: true; the input reads as it did. -/
def tamilVowelsUptoRow : OpenClaim := { program := "ytaijfpedioeedaa", sum := "f42d2df5ccf75fd24aaa5aded3b1bb067b74de01630d9e74b358a4808389e4ac", func := "lontar/lontarlaw17.TamilVowels", spec := "tamilVowels", unfollowed := true, recurses := true, apart := false, narrowed := true }
def TamilVowelsUptoSaid : Prop := tamilVowelsUptoRow.holds Try.pinned (OpenSpec.upto tamilVowelsSpec)

end Rows
end Go.Proofs.Ytaijfpedioeedaa
