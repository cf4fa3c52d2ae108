/-
  No cell of these rows narrows 'for every input' (looked for: loops, veiled, ifaces, maps, wideKeys, modest, calm, conditions, laid).
  DERIVED. THE GIVEN ROWS OF THIS SEAT. 7 by the template 'for every input the law returns true; each argument reads behind the call as it read before'; 0 by the template 'total and deterministic' (their statements: YtoijfaglobdceaaTotals.lean).
  GIVEN WITH THE SEED: the statements are not yours to turn. If you find one false, say at which input.
  Laid BY PROGRAM, IN A SANDBOX (cutbox-rows.mjs): the forced cells as the released guide's own fill.sh prints them over the translation 6db442d22ba92433… (all of the seat's roots in one cut). By AI agents, Wed Nov 11 2026. No macro, syntax, notation, axiom, sorry.
-/
import Derived.Test.YtoijfaglobdceaaChecked
import GoSem.Claim
import GoSem.ClaimJoined
import GoSem.ClaimMapViews
import Derived.JoinedTies
import Derived.KernelRfl
namespace Go.Proofs.Ytoijfaglobdceaa
/- THE CELL 'sum', in the pinned program and in every row, IS THE sha256 OF THE DUMP (.gsa) THAT YtoijfaglobdceaaProg.lean LOADS. Nothing in Lean hashes anything: it is a label: what it is worth is what the hold of that sum in a sandbox is worth. -/
noncomputable def Try.pinned : Pinned := { name := "ytoijfaglobdceaa", sum := "6db442d22ba924331f3b8375b52a8340fb1c05c15d2112b9d769c0950463d04a", checked := Try.checked }
namespace Rows
def none {H : Type} : Left H := { results := [], args := [] }

/-- 'lontarlaw14.IndicPlace': WHATEVER THE INPUT: true; the input reads as it did. -/
def indicPlaceSpec : ChangeSpec := { name := "indicPlace", fn := fun _ => fun
  | [d] => { results := [.lit (.bool true)], args := [d] }
  | _ => none }
def indicPlaceRow : OpenClaim := { program := "ytoijfaglobdceaa", sum := "6db442d22ba924331f3b8375b52a8340fb1c05c15d2112b9d769c0950463d04a", func := "lontar/lontarlaw14.IndicPlace", spec := "indicPlace", apart := false }
def IndicPlaceSaid : Prop := indicPlaceRow.holds Try.pinned (OpenSpec.ofChange indicPlaceSpec)

/-- ITS FALSE NEIGHBOUR: 'it returns false'. Refute it at one input. -/
def indicPlaceWrong : ChangeSpec := { name := "indicPlace", fn := fun _ => fun
  | [d] => { results := [.lit (.bool false)], args := [d] }
  | _ => none }
def IndicPlaceWrongFalsely : Prop := indicPlaceRow.holds Try.pinned (OpenSpec.ofChange indicPlaceWrong)

/-- 'lontarlaw14.IndicOf': WHATEVER THE INPUT: true; the input reads as it did. -/
def indicOfSpec : ChangeSpec := { name := "indicOf", fn := fun _ => fun
  | [d1, d2] => { results := [.lit (.bool true)], args := [d1, d2] }
  | _ => none }
def indicOfRow : OpenClaim := { program := "ytoijfaglobdceaa", sum := "6db442d22ba924331f3b8375b52a8340fb1c05c15d2112b9d769c0950463d04a", func := "lontar/lontarlaw14.IndicOf", spec := "indicOf", apart := false }
def IndicOfSaid : Prop := indicOfRow.holds Try.pinned (OpenSpec.ofChange indicOfSpec)

/-- ITS FALSE NEIGHBOUR: 'it returns false'. Refute it at one input. -/
def indicOfWrong : ChangeSpec := { name := "indicOf", fn := fun _ => fun
  | [d1, d2] => { results := [.lit (.bool false)], args := [d1, d2] }
  | _ => none }
def IndicOfWrongFalsely : Prop := indicOfRow.holds Try.pinned (OpenSpec.ofChange indicOfWrong)

/-- 'lontarlaw14.IndicCode': WHATEVER THE INPUT: true; the input reads as it did. -/
def indicCodeSpec : ChangeSpec := { name := "indicCode", fn := fun _ => fun
  | [d1, d2] => { results := [.lit (.bool true)], args := [d1, d2] }
  | _ => none }
def indicCodeRow : OpenClaim := { program := "ytoijfaglobdceaa", sum := "6db442d22ba924331f3b8375b52a8340fb1c05c15d2112b9d769c0950463d04a", func := "lontar/lontarlaw14.IndicCode", spec := "indicCode", apart := false }
def IndicCodeSaid : Prop := indicCodeRow.holds Try.pinned (OpenSpec.ofChange indicCodeSpec)

/-- ITS FALSE NEIGHBOUR: 'it returns false'. Refute it at one input. -/
def indicCodeWrong : ChangeSpec := { name := "indicCode", fn := fun _ => fun
  | [d1, d2] => { results := [.lit (.bool false)], args := [d1, d2] }
  | _ => none }
def IndicCodeWrongFalsely : Prop := indicCodeRow.holds Try.pinned (OpenSpec.ofChange indicCodeWrong)

/-- 'lontarlaw14.IndicRules': WHATEVER THE INPUT: true; the input reads as it did. -/
def indicRulesSpec : ChangeSpec := { name := "indicRules", fn := fun _ => fun
  | [d] => { results := [.lit (.bool true)], args := [d] }
  | _ => none }
def indicRulesRow : OpenClaim := { program := "ytoijfaglobdceaa", sum := "6db442d22ba924331f3b8375b52a8340fb1c05c15d2112b9d769c0950463d04a", func := "lontar/lontarlaw14.IndicRules", spec := "indicRules", unfollowed := true, recurses := true, apart := false }
def IndicRulesSaid : Prop := indicRulesRow.holds Try.pinned (OpenSpec.ofChange indicRulesSpec)

/-- ITS FALSE NEIGHBOUR: 'it returns false'. Refute it at one input. -/
def indicRulesWrong : ChangeSpec := { name := "indicRules", fn := fun _ => fun
  | [d] => { results := [.lit (.bool false)], args := [d] }
  | _ => none }
def IndicRulesWrongFalsely : Prop := indicRulesRow.holds Try.pinned (OpenSpec.ofChange indicRulesWrong)

/-- 'lontarlaw14.IndicScalar': WHATEVER THE INPUT: true; the input reads as it did. -/
def indicScalarSpec : ChangeSpec := { name := "indicScalar", fn := fun _ => fun
  | [d1, d2, d3] => { results := [.lit (.bool true)], args := [d1, d2, d3] }
  | _ => none }
def indicScalarRow : OpenClaim := { program := "ytoijfaglobdceaa", sum := "6db442d22ba924331f3b8375b52a8340fb1c05c15d2112b9d769c0950463d04a", func := "lontar/lontarlaw14.IndicScalar", spec := "indicScalar", apart := false }
def IndicScalarSaid : Prop := indicScalarRow.holds Try.pinned (OpenSpec.ofChange indicScalarSpec)

/-- ITS FALSE NEIGHBOUR: 'it returns false'. Refute it at one input. -/
def indicScalarWrong : ChangeSpec := { name := "indicScalar", fn := fun _ => fun
  | [d1, d2, d3] => { results := [.lit (.bool false)], args := [d1, d2, d3] }
  | _ => none }
def IndicScalarWrongFalsely : Prop := indicScalarRow.holds Try.pinned (OpenSpec.ofChange indicScalarWrong)

/-- 'lontarlaw14.IndicNukta': WHATEVER THE INPUT: true; the input reads as it did. -/
def indicNuktaSpec : ChangeSpec := { name := "indicNukta", fn := fun _ => fun
  | [d] => { results := [.lit (.bool true)], args := [d] }
  | _ => none }
def indicNuktaRow : OpenClaim := { program := "ytoijfaglobdceaa", sum := "6db442d22ba924331f3b8375b52a8340fb1c05c15d2112b9d769c0950463d04a", func := "lontar/lontarlaw14.IndicNukta", spec := "indicNukta", unfollowed := true, recurses := true, apart := false }
def IndicNuktaSaid : Prop := indicNuktaRow.holds Try.pinned (OpenSpec.ofChange indicNuktaSpec)

/-- ITS FALSE NEIGHBOUR: 'it returns false'. Refute it at one input. -/
def indicNuktaWrong : ChangeSpec := { name := "indicNukta", fn := fun _ => fun
  | [d] => { results := [.lit (.bool false)], args := [d] }
  | _ => none }
def IndicNuktaWrongFalsely : Prop := indicNuktaRow.holds Try.pinned (OpenSpec.ofChange indicNuktaWrong)

/-- 'lontarlaw14.IndicRight': WHATEVER THE INPUT: true; the input reads as it did. -/
def indicRightSpec : ChangeSpec := { name := "indicRight", fn := fun _ => fun
  | [d1, d2] => { results := [.lit (.bool true)], args := [d1, d2] }
  | _ => none }
def indicRightRow : OpenClaim := { program := "ytoijfaglobdceaa", sum := "6db442d22ba924331f3b8375b52a8340fb1c05c15d2112b9d769c0950463d04a", func := "lontar/lontarlaw14.IndicRight", spec := "indicRight", unfollowed := true, recurses := true, apart := false }
def IndicRightSaid : Prop := indicRightRow.holds Try.pinned (OpenSpec.ofChange indicRightSpec)

/-- ITS FALSE NEIGHBOUR: 'it returns false'. Refute it at one input. -/
def indicRightWrong : ChangeSpec := { name := "indicRight", fn := fun _ => fun
  | [d1, d2] => { results := [.lit (.bool false)], args := [d1, d2] }
  | _ => none }
def IndicRightWrongFalsely : Prop := indicRightRow.holds Try.pinned (OpenSpec.ofChange indicRightWrong)

/- THE SECOND FORM. 'bulk': how many values and letters a reading holds, each counted each time it is reached (what is shared counts as often as it is met; a slice's spare places count too). A statement '..UptoSaid' is the law's where the arguments, and the package variables that the reading takes, are together of bulk at most 1048576: NARROWER than '..Said'. Prove '..Said' where nothing that the law and all that it calls make is longer than what came in: it says more and counts as full. Else prove '..UptoSaid'. A law counts once. -/
mutual
def uptoBulk {H : Type} : DataW H → Nat
  | .lit (.string bytes) => bytes.length + 1
  | .lit _ => 1
  | .nil => 1
  | .ptr d => uptoBulk d + 1
  | .slice elems spare => uptoBulkAll elems + uptoBulkAll spare + 1
  | .agg parts => uptoBulkAll parts + 1
  | .iface _ d => uptoBulk d + 1
  | .map entries => uptoBulkEntries entries + 1
  | .held _ => 1
def uptoBulkAll {H : Type} : List (DataW H) → Nat
  | [] => 0
  | d :: r => uptoBulk d + uptoBulkAll r
def uptoBulkEntries {H : Type} : List (Lit × DataW H) → Nat
  | [] => 0
  | x :: r => uptoBulkEntry x + uptoBulkEntries r
def uptoBulkEntry {H : Type} : Lit × DataW H → Nat
  | (.string bytes, d) => bytes.length + uptoBulk d + 1
  | (_, d) => uptoBulk d + 1
 end
def uptoSmall : (H : Type) → List (DataW H) → Bool := fun _ ds => decide (uptoBulkAll ds ≤ 1048576)
def OpenSpec.upto (s : _root_.Go.ChangeSpec) : _root_.Go.OpenSpec := { _root_.Go.OpenSpec.ofChange s with cond := some uptoSmall }

/-- 'lontarlaw14.IndicPlace', WHERE WHAT IT READS IS OF BULK AT MOST 1048576: true; the input reads as it did. -/
def indicPlaceUptoRow : OpenClaim := { program := "ytoijfaglobdceaa", sum := "6db442d22ba924331f3b8375b52a8340fb1c05c15d2112b9d769c0950463d04a", func := "lontar/lontarlaw14.IndicPlace", spec := "indicPlace", apart := false, narrowed := true }
def IndicPlaceUptoSaid : Prop := indicPlaceUptoRow.holds Try.pinned (OpenSpec.upto indicPlaceSpec)

/-- 'lontarlaw14.IndicOf', WHERE WHAT IT READS IS OF BULK AT MOST 1048576: true; the input reads as it did. -/
def indicOfUptoRow : OpenClaim := { program := "ytoijfaglobdceaa", sum := "6db442d22ba924331f3b8375b52a8340fb1c05c15d2112b9d769c0950463d04a", func := "lontar/lontarlaw14.IndicOf", spec := "indicOf", apart := false, narrowed := true }
def IndicOfUptoSaid : Prop := indicOfUptoRow.holds Try.pinned (OpenSpec.upto indicOfSpec)

/-- 'lontarlaw14.IndicCode', WHERE WHAT IT READS IS OF BULK AT MOST 1048576: true; the input reads as it did. -/
def indicCodeUptoRow : OpenClaim := { program := "ytoijfaglobdceaa", sum := "6db442d22ba924331f3b8375b52a8340fb1c05c15d2112b9d769c0950463d04a", func := "lontar/lontarlaw14.IndicCode", spec := "indicCode", apart := false, narrowed := true }
def IndicCodeUptoSaid : Prop := indicCodeUptoRow.holds Try.pinned (OpenSpec.upto indicCodeSpec)

/-- 'lontarlaw14.IndicRules', WHERE WHAT IT READS IS OF BULK AT MOST 1048576: true; the input reads as it did. -/
def indicRulesUptoRow : OpenClaim := { program := "ytoijfaglobdceaa", sum := "6db442d22ba924331f3b8375b52a8340fb1c05c15d2112b9d769c0950463d04a", func := "lontar/lontarlaw14.IndicRules", spec := "indicRules", unfollowed := true, recurses := true, apart := false, narrowed := true }
def IndicRulesUptoSaid : Prop := indicRulesUptoRow.holds Try.pinned (OpenSpec.upto indicRulesSpec)

/-- 'lontarlaw14.IndicScalar', WHERE WHAT IT READS IS OF BULK AT MOST 1048576: true; the input reads as it did. -/
def indicScalarUptoRow : OpenClaim := { program := "ytoijfaglobdceaa", sum := "6db442d22ba924331f3b8375b52a8340fb1c05c15d2112b9d769c0950463d04a", func := "lontar/lontarlaw14.IndicScalar", spec := "indicScalar", apart := false, narrowed := true }
def IndicScalarUptoSaid : Prop := indicScalarUptoRow.holds Try.pinned (OpenSpec.upto indicScalarSpec)

/-- 'lontarlaw14.IndicNukta', WHERE WHAT IT READS IS OF BULK AT MOST 1048576: true; the input reads as it did. -/
def indicNuktaUptoRow : OpenClaim := { program := "ytoijfaglobdceaa", sum := "6db442d22ba924331f3b8375b52a8340fb1c05c15d2112b9d769c0950463d04a", func := "lontar/lontarlaw14.IndicNukta", spec := "indicNukta", unfollowed := true, recurses := true, apart := false, narrowed := true }
def IndicNuktaUptoSaid : Prop := indicNuktaUptoRow.holds Try.pinned (OpenSpec.upto indicNuktaSpec)

/-- 'lontarlaw14.IndicRight', WHERE WHAT IT READS IS OF BULK AT MOST 1048576: true; the input reads as it did. -/
def indicRightUptoRow : OpenClaim := { program := "ytoijfaglobdceaa", sum := "6db442d22ba924331f3b8375b52a8340fb1c05c15d2112b9d769c0950463d04a", func := "lontar/lontarlaw14.IndicRight", spec := "indicRight", unfollowed := true, recurses := true, apart := false, narrowed := true }
def IndicRightUptoSaid : Prop := indicRightUptoRow.holds Try.pinned (OpenSpec.upto indicRightSpec)

end Rows
end Go.Proofs.Ytoijfaglobdceaa
