/- What is proved here: what the program's functions come to, as far as the claimed statement asks. Conditions: those that each theorem names, and no others. -/
import Derived.Test.YtaijfpedioeedaaOm
import Derived.Test.YtaijfpedioeedaaLonZi
import Derived.Test.YtaijfpedioeedaaSame
/-! Layer 17: the rules, run by the kernel. -/
set_option linter.unusedSimpArgs false
set_option linter.unusedVariables false
namespace Go.Proofs.Ytaijfpedioeedaa
open Go Lon
set_option maxRecDepth 100000
def C17 : List Int := [0xb95, 0xb99, 0xb9a, 0xb9e, 0xb9f, 0xba3, 0xba4, 0xba8, 0xbaa, 0xbae, 0xbaf, 0xbb0, 0xbb2, 0xbb5, 0xbb4, 0xbb3, 0xbb1, 0xba9, 0xb9c, 0xbb7, 0xbb8, 0xbb9]
def V17 : List Int := [0xb85, 0xb86, 0xb87, 0xb88, 0xb89, 0xb8a, 0xb8e, 0xb8f, 0xb90, 0xb92, 0xb93, 0xb94, 0xb83]
def S17 : List Int := [0xbc6, 0xbc7, 0xbc8, 0xbcd, 0xbbe, 0xbbf, 0xbc0, 0xbc1, 0xbc2, 0xbd7]
/-- The rules of layer 17. -/
def R17 : List Rl := ((List.range 128).map fun (c : Nat) => ([(c : Int)], [(c : Int)])) ++ ((List.range 13).map fun (k : Nat) => ([(0x91 : Int) + k], [V17.getD k 0])) ++ ((List.range 10).map fun (k : Nat) => ([(0xa6 : Int) + k], [S17.getD k 0])) ++
  ((List.range 22).flatMap fun (k : Nat) => [([(0xb0 : Int) + k], [C17.getD k 0]), ([(0xd0 : Int) + k], [C17.getD k 0, 0xbcd]), ([0xa6, (0xb0 : Int) + k], [C17.getD k 0, 0xbc6]), ([0xa7, (0xb0 : Int) + k], [C17.getD k 0, 0xbc7]), ([0xa8, (0xb0 : Int) + k], [C17.getD k 0, 0xbc8]), ([0xa6, (0xb0 : Int) + k, 0xaa], [C17.getD k 0, 0xbca]), ([0xa7, (0xb0 : Int) + k, 0xaa], [C17.getD k 0, 0xbcb]), ([0xa6, (0xb0 : Int) + k, 0xaf], [C17.getD k 0, 0xbcc])])
noncomputable def run1 : Option (Value × AHeap) := callB Try.prog (tabB tab) om1 2000 11 [] AHeap.empty
noncomputable def run2 : Option (Value × Value × AHeap) := run1.bind fun x => (callB Try.prog (tabB tab) om1 2000 12 [] x.2).map fun y => (x.1, y.1, y.2)
theorem k_both : (run2.map fun t => rulesB t.2.2 t.1 R17 && rulesB t.2.2 t.2.1 R17) = some true := by kernel_rfl
theorem k_len : (run2.bind fun t => (callB Try.prog (tabB tab) om1 2000 11 [] t.2.2).map fun u => Nat.beq (lenB' u.1) 327) = some true := by kernel_rfl
end Go.Proofs.Ytaijfpedioeedaa
