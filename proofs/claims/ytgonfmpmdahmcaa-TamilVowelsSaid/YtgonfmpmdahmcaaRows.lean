/-
  No cell of these rows narrows 'for every input' (looked for: loops, veiled, ifaces, maps, wideKeys, modest, calm, conditions, laid).
  DERIVED. THE GIVEN ROWS OF THIS SEAT. 11 by the template 'for every input the law returns true; each argument reads behind the call as it read before'; 0 by the template 'total and deterministic' (their statements: YtgonfmpmdahmcaaTotals.lean).
  GIVEN WITH THE SEED: the statements are not yours to turn. If you find one false, say at which input.
  Laid BY PROGRAM, IN A SANDBOX (cutbox-rows.mjs): the forced cells as the released guide's own fill.sh prints them over the translation 15a52023e16f7fbb… (all of the seat's roots in one cut). By AI agents, Wed Nov 11 2026. No macro, syntax, notation, axiom, sorry.
-/
import Derived.Test.YtgonfmpmdahmcaaChecked
import GoSem.Claim
import GoSem.ClaimJoined
import GoSem.ClaimMapViews
import Derived.JoinedTies
import Derived.KernelRfl
namespace Go.Proofs.Ytgonfmpmdahmcaa
/- THE CELL 'sum', in the pinned program and in every row, IS THE sha256 OF THE DUMP (.gsa) THAT YtgonfmpmdahmcaaProg.lean LOADS. Nothing in Lean hashes anything: it is a label: what it is worth is what the hold of that sum in a sandbox is worth. -/
noncomputable def Try.pinned : Pinned := { name := "ytgonfmpmdahmcaa", sum := "15a52023e16f7fbb2d665d6ef61ec252ac536daed88156da440328c5dbc2391a", checked := Try.checked }
namespace Rows
def none {H : Type} : Left H := { results := [], args := [] }

/-- 'lontarlaw15.TableEncode': WHATEVER THE INPUT: true; the input reads as it did. -/
def tableEncodeSpec : ChangeSpec := { name := "tableEncode", fn := fun _ => fun
  | [d1, d2, d3] => { results := [.lit (.bool true)], args := [d1, d2, d3] }
  | _ => none }
def tableEncodeRow : OpenClaim := { program := "ytgonfmpmdahmcaa", sum := "15a52023e16f7fbb2d665d6ef61ec252ac536daed88156da440328c5dbc2391a", func := "lontar/lontarlaw15.TableEncode", spec := "tableEncode", unfollowed := true, recurses := true, apart := false }
def TableEncodeSaid : Prop := tableEncodeRow.holds Try.pinned (OpenSpec.ofChange tableEncodeSpec)

/-- ITS FALSE NEIGHBOUR: 'it returns false'. Refute it at one input. -/
def tableEncodeWrong : ChangeSpec := { name := "tableEncode", fn := fun _ => fun
  | [d1, d2, d3] => { results := [.lit (.bool false)], args := [d1, d2, d3] }
  | _ => none }
def TableEncodeWrongFalsely : Prop := tableEncodeRow.holds Try.pinned (OpenSpec.ofChange tableEncodeWrong)

/-- 'lontarlaw15.TableJoins': WHATEVER THE INPUT: true; the input reads as it did. -/
def tableJoinsSpec : ChangeSpec := { name := "tableJoins", fn := fun _ => fun
  | [d1, d2, d3, d4] => { results := [.lit (.bool true)], args := [d1, d2, d3, d4] }
  | _ => none }
def tableJoinsRow : OpenClaim := { program := "ytgonfmpmdahmcaa", sum := "15a52023e16f7fbb2d665d6ef61ec252ac536daed88156da440328c5dbc2391a", func := "lontar/lontarlaw15.TableJoins", spec := "tableJoins", unfollowed := true, recurses := true, apart := false }
def TableJoinsSaid : Prop := tableJoinsRow.holds Try.pinned (OpenSpec.ofChange tableJoinsSpec)

/-- ITS FALSE NEIGHBOUR: 'it returns false'. Refute it at one input. -/
def tableJoinsWrong : ChangeSpec := { name := "tableJoins", fn := fun _ => fun
  | [d1, d2, d3, d4] => { results := [.lit (.bool false)], args := [d1, d2, d3, d4] }
  | _ => none }
def TableJoinsWrongFalsely : Prop := tableJoinsRow.holds Try.pinned (OpenSpec.ofChange tableJoinsWrong)

/-- 'lontarlaw15.TableDecode': WHATEVER THE INPUT: true; the input reads as it did. -/
def tableDecodeSpec : ChangeSpec := { name := "tableDecode", fn := fun _ => fun
  | [d1, d2, d3] => { results := [.lit (.bool true)], args := [d1, d2, d3] }
  | _ => none }
def tableDecodeRow : OpenClaim := { program := "ytgonfmpmdahmcaa", sum := "15a52023e16f7fbb2d665d6ef61ec252ac536daed88156da440328c5dbc2391a", func := "lontar/lontarlaw15.TableDecode", spec := "tableDecode", unfollowed := true, recurses := true, apart := false }
def TableDecodeSaid : Prop := tableDecodeRow.holds Try.pinned (OpenSpec.ofChange tableDecodeSpec)

/-- ITS FALSE NEIGHBOUR: 'it returns false'. Refute it at one input. -/
def tableDecodeWrong : ChangeSpec := { name := "tableDecode", fn := fun _ => fun
  | [d1, d2, d3] => { results := [.lit (.bool false)], args := [d1, d2, d3] }
  | _ => none }
def TableDecodeWrongFalsely : Prop := tableDecodeRow.holds Try.pinned (OpenSpec.ofChange tableDecodeWrong)

/-- 'lontarlaw15.TableBack': WHATEVER THE INPUT: true; the input reads as it did. -/
def tableBackSpec : ChangeSpec := { name := "tableBack", fn := fun _ => fun
  | [d1, d2] => { results := [.lit (.bool true)], args := [d1, d2] }
  | _ => none }
def tableBackRow : OpenClaim := { program := "ytgonfmpmdahmcaa", sum := "15a52023e16f7fbb2d665d6ef61ec252ac536daed88156da440328c5dbc2391a", func := "lontar/lontarlaw15.TableBack", spec := "tableBack", unfollowed := true, recurses := true, apart := false }
def TableBackSaid : Prop := tableBackRow.holds Try.pinned (OpenSpec.ofChange tableBackSpec)

/-- ITS FALSE NEIGHBOUR: 'it returns false'. Refute it at one input. -/
def tableBackWrong : ChangeSpec := { name := "tableBack", fn := fun _ => fun
  | [d1, d2] => { results := [.lit (.bool false)], args := [d1, d2] }
  | _ => none }
def TableBackWrongFalsely : Prop := tableBackRow.holds Try.pinned (OpenSpec.ofChange tableBackWrong)

/-- 'lontarlaw15.TableTurn': WHATEVER THE INPUT: true; the input reads as it did. -/
def tableTurnSpec : ChangeSpec := { name := "tableTurn", fn := fun _ => fun
  | [d1, d2] => { results := [.lit (.bool true)], args := [d1, d2] }
  | _ => none }
def tableTurnRow : OpenClaim := { program := "ytgonfmpmdahmcaa", sum := "15a52023e16f7fbb2d665d6ef61ec252ac536daed88156da440328c5dbc2391a", func := "lontar/lontarlaw15.TableTurn", spec := "tableTurn", unfollowed := true, recurses := true, apart := false }
def TableTurnSaid : Prop := tableTurnRow.holds Try.pinned (OpenSpec.ofChange tableTurnSpec)

/-- ITS FALSE NEIGHBOUR: 'it returns false'. Refute it at one input. -/
def tableTurnWrong : ChangeSpec := { name := "tableTurn", fn := fun _ => fun
  | [d1, d2] => { results := [.lit (.bool false)], args := [d1, d2] }
  | _ => none }
def TableTurnWrongFalsely : Prop := tableTurnRow.holds Try.pinned (OpenSpec.ofChange tableTurnWrong)

/-- 'lontarlaw15.TableCodecs': WHATEVER THE INPUT: true; the input reads as it did. -/
def tableCodecsSpec : ChangeSpec := { name := "tableCodecs", fn := fun _ => fun
  | [d] => { results := [.lit (.bool true)], args := [d] }
  | _ => none }
def tableCodecsRow : OpenClaim := { program := "ytgonfmpmdahmcaa", sum := "15a52023e16f7fbb2d665d6ef61ec252ac536daed88156da440328c5dbc2391a", func := "lontar/lontarlaw15.TableCodecs", spec := "tableCodecs", unfollowed := true, recurses := true, apart := false }
def TableCodecsSaid : Prop := tableCodecsRow.holds Try.pinned (OpenSpec.ofChange tableCodecsSpec)

/-- ITS FALSE NEIGHBOUR: 'it returns false'. Refute it at one input. -/
def tableCodecsWrong : ChangeSpec := { name := "tableCodecs", fn := fun _ => fun
  | [d] => { results := [.lit (.bool false)], args := [d] }
  | _ => none }
def TableCodecsWrongFalsely : Prop := tableCodecsRow.holds Try.pinned (OpenSpec.ofChange tableCodecsWrong)

/-- 'lontarlaw15.TableOf': WHATEVER THE INPUT: true; the input reads as it did. -/
def tableOfSpec : ChangeSpec := { name := "tableOf", fn := fun _ => fun
  | [d] => { results := [.lit (.bool true)], args := [d] }
  | _ => none }
def tableOfRow : OpenClaim := { program := "ytgonfmpmdahmcaa", sum := "15a52023e16f7fbb2d665d6ef61ec252ac536daed88156da440328c5dbc2391a", func := "lontar/lontarlaw15.TableOf", spec := "tableOf", unfollowed := true, recurses := true, apart := false }
def TableOfSaid : Prop := tableOfRow.holds Try.pinned (OpenSpec.ofChange tableOfSpec)

/-- ITS FALSE NEIGHBOUR: 'it returns false'. Refute it at one input. -/
def tableOfWrong : ChangeSpec := { name := "tableOf", fn := fun _ => fun
  | [d] => { results := [.lit (.bool false)], args := [d] }
  | _ => none }
def TableOfWrongFalsely : Prop := tableOfRow.holds Try.pinned (OpenSpec.ofChange tableOfWrong)

/-- 'lontarlaw17.TamilRight': WHATEVER THE INPUT: true; the input reads as it did. -/
def tamilRightSpec : ChangeSpec := { name := "tamilRight", fn := fun _ => fun
  | [d1, d2] => { results := [.lit (.bool true)], args := [d1, d2] }
  | _ => none }
def tamilRightRow : OpenClaim := { program := "ytgonfmpmdahmcaa", sum := "15a52023e16f7fbb2d665d6ef61ec252ac536daed88156da440328c5dbc2391a", func := "lontar/lontarlaw17.TamilRight", spec := "tamilRight", unfollowed := true, recurses := true, apart := false }
def TamilRightSaid : Prop := tamilRightRow.holds Try.pinned (OpenSpec.ofChange tamilRightSpec)

/-- ITS FALSE NEIGHBOUR: 'it returns false'. Refute it at one input. -/
def tamilRightWrong : ChangeSpec := { name := "tamilRight", fn := fun _ => fun
  | [d1, d2] => { results := [.lit (.bool false)], args := [d1, d2] }
  | _ => none }
def TamilRightWrongFalsely : Prop := tamilRightRow.holds Try.pinned (OpenSpec.ofChange tamilRightWrong)

/-- 'lontarlaw17.TamilMoves': WHATEVER THE INPUT: true; the input reads as it did. -/
def tamilMovesSpec : ChangeSpec := { name := "tamilMoves", fn := fun _ => fun
  | [d1, d2, d3] => { results := [.lit (.bool true)], args := [d1, d2, d3] }
  | _ => none }
def tamilMovesRow : OpenClaim := { program := "ytgonfmpmdahmcaa", sum := "15a52023e16f7fbb2d665d6ef61ec252ac536daed88156da440328c5dbc2391a", func := "lontar/lontarlaw17.TamilMoves", spec := "tamilMoves", unfollowed := true, recurses := true, apart := false }
def TamilMovesSaid : Prop := tamilMovesRow.holds Try.pinned (OpenSpec.ofChange tamilMovesSpec)

/-- ITS FALSE NEIGHBOUR: 'it returns false'. Refute it at one input. -/
def tamilMovesWrong : ChangeSpec := { name := "tamilMoves", fn := fun _ => fun
  | [d1, d2, d3] => { results := [.lit (.bool false)], args := [d1, d2, d3] }
  | _ => none }
def TamilMovesWrongFalsely : Prop := tamilMovesRow.holds Try.pinned (OpenSpec.ofChange tamilMovesWrong)

/-- 'lontarlaw17.TamilBack': WHATEVER THE INPUT: true; the input reads as it did. -/
def tamilBackSpec : ChangeSpec := { name := "tamilBack", fn := fun _ => fun
  | [d] => { results := [.lit (.bool true)], args := [d] }
  | _ => none }
def tamilBackRow : OpenClaim := { program := "ytgonfmpmdahmcaa", sum := "15a52023e16f7fbb2d665d6ef61ec252ac536daed88156da440328c5dbc2391a", func := "lontar/lontarlaw17.TamilBack", spec := "tamilBack", unfollowed := true, recurses := true, apart := false }
def TamilBackSaid : Prop := tamilBackRow.holds Try.pinned (OpenSpec.ofChange tamilBackSpec)

/-- ITS FALSE NEIGHBOUR: 'it returns false'. Refute it at one input. -/
def tamilBackWrong : ChangeSpec := { name := "tamilBack", fn := fun _ => fun
  | [d] => { results := [.lit (.bool false)], args := [d] }
  | _ => none }
def TamilBackWrongFalsely : Prop := tamilBackRow.holds Try.pinned (OpenSpec.ofChange tamilBackWrong)

/-- 'lontarlaw17.TamilVowels': WHATEVER THE INPUT: true; the input reads as it did. -/
def tamilVowelsSpec : ChangeSpec := { name := "tamilVowels", fn := fun _ => fun
  | [d1, d2] => { results := [.lit (.bool true)], args := [d1, d2] }
  | _ => none }
def tamilVowelsRow : OpenClaim := { program := "ytgonfmpmdahmcaa", sum := "15a52023e16f7fbb2d665d6ef61ec252ac536daed88156da440328c5dbc2391a", func := "lontar/lontarlaw17.TamilVowels", spec := "tamilVowels", unfollowed := true, recurses := true, apart := false }
def TamilVowelsSaid : Prop := tamilVowelsRow.holds Try.pinned (OpenSpec.ofChange tamilVowelsSpec)

/-- ITS FALSE NEIGHBOUR: 'it returns false'. Refute it at one input. -/
def tamilVowelsWrong : ChangeSpec := { name := "tamilVowels", fn := fun _ => fun
  | [d1, d2] => { results := [.lit (.bool false)], args := [d1, d2] }
  | _ => none }
def TamilVowelsWrongFalsely : Prop := tamilVowelsRow.holds Try.pinned (OpenSpec.ofChange tamilVowelsWrong)

/- THE SECOND FORM. 'bulk': how many values and letters a reading holds, each counted each time it is reached (what is shared counts as often as it is met; a slice's spare places count too). A statement '..UptoSaid' is the law's where the arguments, and the package variables that the reading takes, are together of bulk at most 1048576: NARROWER than '..Said'. Prove '..Said' where nothing that the law and all that it calls make is longer than what came in: it says more and counts as full. Else prove '..UptoSaid'. A law counts once. -/
mutual
def uptoBulk {H : Type} : DataW H → Nat
  | .lit (.string bytes) => bytes.length + 1
  | .lit _ => 1
  | .nil => 1
  | .ptr d => uptoBulk d + 1
  | .slice elems spare => uptoBulkAll elems + uptoBulkAll spare + 1
  | .agg parts => uptoBulkAll parts + 1
  | .iface _ d => uptoBulk d + 1
  | .map entries => uptoBulkEntries entries + 1
  | .held _ => 1
def uptoBulkAll {H : Type} : List (DataW H) → Nat
  | [] => 0
  | d :: r => uptoBulk d + uptoBulkAll r
def uptoBulkEntries {H : Type} : List (Lit × DataW H) → Nat
  | [] => 0
  | x :: r => uptoBulkEntry x + uptoBulkEntries r
def uptoBulkEntry {H : Type} : Lit × DataW H → Nat
  | (.string bytes, d) => bytes.length + uptoBulk d + 1
  | (_, d) => uptoBulk d + 1
 end
def uptoSmall : (H : Type) → List (DataW H) → Bool := fun _ ds => decide (uptoBulkAll ds ≤ 1048576)
def OpenSpec.upto (s : _root_.Go.ChangeSpec) : _root_.Go.OpenSpec := { _root_.Go.OpenSpec.ofChange s with cond := some uptoSmall }

/-- 'lontarlaw15.TableEncode', WHERE WHAT IT READS IS OF BULK AT MOST 1048576: true; the input reads as it did. -/
def tableEncodeUptoRow : OpenClaim := { program := "ytgonfmpmdahmcaa", sum := "15a52023e16f7fbb2d665d6ef61ec252ac536daed88156da440328c5dbc2391a", func := "lontar/lontarlaw15.TableEncode", spec := "tableEncode", unfollowed := true, recurses := true, apart := false, narrowed := true }
def TableEncodeUptoSaid : Prop := tableEncodeUptoRow.holds Try.pinned (OpenSpec.upto tableEncodeSpec)

/-- 'lontarlaw15.TableJoins', WHERE WHAT IT READS IS OF BULK AT MOST 1048576: true; the input reads as it did. -/
def tableJoinsUptoRow : OpenClaim := { program := "ytgonfmpmdahmcaa", sum := "15a52023e16f7fbb2d665d6ef61ec252ac536daed88156da440328c5dbc2391a", func := "lontar/lontarlaw15.TableJoins", spec := "tableJoins", unfollowed := true, recurses := true, apart := false, narrowed := true }
def TableJoinsUptoSaid : Prop := tableJoinsUptoRow.holds Try.pinned (OpenSpec.upto tableJoinsSpec)

/-- 'lontarlaw15.TableDecode', WHERE WHAT IT READS IS OF BULK AT MOST 1048576: true; the input reads as it did. -/
def tableDecodeUptoRow : OpenClaim := { program := "ytgonfmpmdahmcaa", sum := "15a52023e16f7fbb2d665d6ef61ec252ac536daed88156da440328c5dbc2391a", func := "lontar/lontarlaw15.TableDecode", spec := "tableDecode", unfollowed := true, recurses := true, apart := false, narrowed := true }
def TableDecodeUptoSaid : Prop := tableDecodeUptoRow.holds Try.pinned (OpenSpec.upto tableDecodeSpec)

/-- 'lontarlaw15.TableBack', WHERE WHAT IT READS IS OF BULK AT MOST 1048576: true; the input reads as it did. -/
def tableBackUptoRow : OpenClaim := { program := "ytgonfmpmdahmcaa", sum := "15a52023e16f7fbb2d665d6ef61ec252ac536daed88156da440328c5dbc2391a", func := "lontar/lontarlaw15.TableBack", spec := "tableBack", unfollowed := true, recurses := true, apart := false, narrowed := true }
def TableBackUptoSaid : Prop := tableBackUptoRow.holds Try.pinned (OpenSpec.upto tableBackSpec)

/-- 'lontarlaw15.TableTurn', WHERE WHAT IT READS IS OF BULK AT MOST 1048576: true; the input reads as it did. -/
def tableTurnUptoRow : OpenClaim := { program := "ytgonfmpmdahmcaa", sum := "15a52023e16f7fbb2d665d6ef61ec252ac536daed88156da440328c5dbc2391a", func := "lontar/lontarlaw15.TableTurn", spec := "tableTurn", unfollowed := true, recurses := true, apart := false, narrowed := true }
def TableTurnUptoSaid : Prop := tableTurnUptoRow.holds Try.pinned (OpenSpec.upto tableTurnSpec)

/-- 'lontarlaw15.TableCodecs', WHERE WHAT IT READS IS OF BULK AT MOST 1048576: true; the input reads as it did. -/
def tableCodecsUptoRow : OpenClaim := { program := "ytgonfmpmdahmcaa", sum := "15a52023e16f7fbb2d665d6ef61ec252ac536daed88156da440328c5dbc2391a", func := "lontar/lontarlaw15.TableCodecs", spec := "tableCodecs", unfollowed := true, recurses := true, apart := false, narrowed := true }
def TableCodecsUptoSaid : Prop := tableCodecsUptoRow.holds Try.pinned (OpenSpec.upto tableCodecsSpec)

/-- 'lontarlaw15.TableOf', WHERE WHAT IT READS IS OF BULK AT MOST 1048576: true; the input reads as it did. -/
def tableOfUptoRow : OpenClaim := { program := "ytgonfmpmdahmcaa", sum := "15a52023e16f7fbb2d665d6ef61ec252ac536daed88156da440328c5dbc2391a", func := "lontar/lontarlaw15.TableOf", spec := "tableOf", unfollowed := true, recurses := true, apart := false, narrowed := true }
def TableOfUptoSaid : Prop := tableOfUptoRow.holds Try.pinned (OpenSpec.upto tableOfSpec)

/-- 'lontarlaw17.TamilRight', WHERE WHAT IT READS IS OF BULK AT MOST 1048576: true; the input reads as it did. -/
def tamilRightUptoRow : OpenClaim := { program := "ytgonfmpmdahmcaa", sum := "15a52023e16f7fbb2d665d6ef61ec252ac536daed88156da440328c5dbc2391a", func := "lontar/lontarlaw17.TamilRight", spec := "tamilRight", unfollowed := true, recurses := true, apart := false, narrowed := true }
def TamilRightUptoSaid : Prop := tamilRightUptoRow.holds Try.pinned (OpenSpec.upto tamilRightSpec)

/-- 'lontarlaw17.TamilMoves', WHERE WHAT IT READS IS OF BULK AT MOST 1048576: true; the input reads as it did. -/
def tamilMovesUptoRow : OpenClaim := { program := "ytgonfmpmdahmcaa", sum := "15a52023e16f7fbb2d665d6ef61ec252ac536daed88156da440328c5dbc2391a", func := "lontar/lontarlaw17.TamilMoves", spec := "tamilMoves", unfollowed := true, recurses := true, apart := false, narrowed := true }
def TamilMovesUptoSaid : Prop := tamilMovesUptoRow.holds Try.pinned (OpenSpec.upto tamilMovesSpec)

/-- 'lontarlaw17.TamilBack', WHERE WHAT IT READS IS OF BULK AT MOST 1048576: true; the input reads as it did. -/
def tamilBackUptoRow : OpenClaim := { program := "ytgonfmpmdahmcaa", sum := "15a52023e16f7fbb2d665d6ef61ec252ac536daed88156da440328c5dbc2391a", func := "lontar/lontarlaw17.TamilBack", spec := "tamilBack", unfollowed := true, recurses := true, apart := false, narrowed := true }
def TamilBackUptoSaid : Prop := tamilBackUptoRow.holds Try.pinned (OpenSpec.upto tamilBackSpec)

/-- 'lontarlaw17.TamilVowels', WHERE WHAT IT READS IS OF BULK AT MOST 1048576: true; the input reads as it did. -/
def tamilVowelsUptoRow : OpenClaim := { program := "ytgonfmpmdahmcaa", sum := "15a52023e16f7fbb2d665d6ef61ec252ac536daed88156da440328c5dbc2391a", func := "lontar/lontarlaw17.TamilVowels", spec := "tamilVowels", unfollowed := true, recurses := true, apart := false, narrowed := true }
def TamilVowelsUptoSaid : Prop := tamilVowelsUptoRow.holds Try.pinned (OpenSpec.upto tamilVowelsSpec)

end Rows
end Go.Proofs.Ytgonfmpmdahmcaa
