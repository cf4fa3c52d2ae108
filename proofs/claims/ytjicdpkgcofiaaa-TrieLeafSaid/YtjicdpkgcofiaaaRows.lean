/-
  No cell of these rows narrows 'for every input' (looked for: loops, veiled, ifaces, maps, wideKeys, modest, calm, conditions, laid).
  DERIVED. THE GIVEN ROWS OF THIS SEAT. 6 by the template 'for every input the law returns true; each argument reads behind the call as it read before'; 0 by the template 'total and deterministic' (their statements: YtjicdpkgcofiaaaTotals.lean).
  GIVEN WITH THE SEED: the statements are not yours to turn. If you find one false, say at which input.
  Laid BY PROGRAM, IN A SANDBOX (cutbox-rows.mjs): the forced cells as the released guide's own fill.sh prints them over the translation 82fc9f1b41e9d80f… (all of the seat's roots in one cut). By AI agents, Wed Nov 11 2026. No macro, syntax, notation, axiom, sorry.
-/
import Derived.Test.YtjicdpkgcofiaaaChecked
import GoSem.Claim
import GoSem.ClaimJoined
import GoSem.ClaimMapViews
import Derived.JoinedTies
import Derived.KernelRfl
namespace Go.Proofs.Ytjicdpkgcofiaaa
/- THE CELL 'sum', in the pinned program and in every row, IS THE sha256 OF THE DUMP (.gsa) THAT YtjicdpkgcofiaaaProg.lean LOADS. Nothing in Lean hashes anything: it is a label: what it is worth is what the hold of that sum in a sandbox is worth. -/
noncomputable def Try.pinned : Pinned := { name := "ytjicdpkgcofiaaa", sum := "82fc9f1b41e9d80f64de6aca8116578ea0c66a163d55d5e79ca4252e216195f0", checked := Try.checked }
namespace Rows
def none {H : Type} : Left H := { results := [], args := [] }

/-- 'lontarlaw04.TrieLongest': WHATEVER THE INPUT: true; the input reads as it did. -/
def trieLongestSpec : ChangeSpec := { name := "trieLongest", fn := fun _ => fun
  | [d1, d2, d3] => { results := [.lit (.bool true)], args := [d1, d2, d3] }
  | _ => none }
def trieLongestRow : OpenClaim := { program := "ytjicdpkgcofiaaa", sum := "82fc9f1b41e9d80f64de6aca8116578ea0c66a163d55d5e79ca4252e216195f0", func := "lontar/lontarlaw04.TrieLongest", spec := "trieLongest", unfollowed := true, recurses := true, apart := false }
def TrieLongestSaid : Prop := trieLongestRow.holds Try.pinned (OpenSpec.ofChange trieLongestSpec)

/-- ITS FALSE NEIGHBOUR: 'it returns false'. Refute it at one input. -/
def trieLongestWrong : ChangeSpec := { name := "trieLongest", fn := fun _ => fun
  | [d1, d2, d3] => { results := [.lit (.bool false)], args := [d1, d2, d3] }
  | _ => none }
def TrieLongestWrongFalsely : Prop := trieLongestRow.holds Try.pinned (OpenSpec.ofChange trieLongestWrong)

/-- 'lontarlaw04.TrieOf': WHATEVER THE INPUT: true; the input reads as it did. -/
def trieOfSpec : ChangeSpec := { name := "trieOf", fn := fun _ => fun
  | [d] => { results := [.lit (.bool true)], args := [d] }
  | _ => none }
def trieOfRow : OpenClaim := { program := "ytjicdpkgcofiaaa", sum := "82fc9f1b41e9d80f64de6aca8116578ea0c66a163d55d5e79ca4252e216195f0", func := "lontar/lontarlaw04.TrieOf", spec := "trieOf", unfollowed := true, recurses := true, apart := false }
def TrieOfSaid : Prop := trieOfRow.holds Try.pinned (OpenSpec.ofChange trieOfSpec)

/-- ITS FALSE NEIGHBOUR: 'it returns false'. Refute it at one input. -/
def trieOfWrong : ChangeSpec := { name := "trieOf", fn := fun _ => fun
  | [d] => { results := [.lit (.bool false)], args := [d] }
  | _ => none }
def TrieOfWrongFalsely : Prop := trieOfRow.holds Try.pinned (OpenSpec.ofChange trieOfWrong)

/-- 'lontarlaw04.TrieLeaf': WHATEVER THE INPUT: true; the input reads as it did. -/
def trieLeafSpec : ChangeSpec := { name := "trieLeaf", fn := fun _ => fun
  | [d1, d2] => { results := [.lit (.bool true)], args := [d1, d2] }
  | _ => none }
def trieLeafRow : OpenClaim := { program := "ytjicdpkgcofiaaa", sum := "82fc9f1b41e9d80f64de6aca8116578ea0c66a163d55d5e79ca4252e216195f0", func := "lontar/lontarlaw04.TrieLeaf", spec := "trieLeaf", unfollowed := true, recurses := true, apart := false }
def TrieLeafSaid : Prop := trieLeafRow.holds Try.pinned (OpenSpec.ofChange trieLeafSpec)

/-- ITS FALSE NEIGHBOUR: 'it returns false'. Refute it at one input. -/
def trieLeafWrong : ChangeSpec := { name := "trieLeaf", fn := fun _ => fun
  | [d1, d2] => { results := [.lit (.bool false)], args := [d1, d2] }
  | _ => none }
def TrieLeafWrongFalsely : Prop := trieLeafRow.holds Try.pinned (OpenSpec.ofChange trieLeafWrong)

/-- 'lontarlaw04.TrieMore': WHATEVER THE INPUT: true; the input reads as it did. -/
def trieMoreSpec : ChangeSpec := { name := "trieMore", fn := fun _ => fun
  | [d1, d2] => { results := [.lit (.bool true)], args := [d1, d2] }
  | _ => none }
def trieMoreRow : OpenClaim := { program := "ytjicdpkgcofiaaa", sum := "82fc9f1b41e9d80f64de6aca8116578ea0c66a163d55d5e79ca4252e216195f0", func := "lontar/lontarlaw04.TrieMore", spec := "trieMore", unfollowed := true, recurses := true, apart := false }
def TrieMoreSaid : Prop := trieMoreRow.holds Try.pinned (OpenSpec.ofChange trieMoreSpec)

/-- ITS FALSE NEIGHBOUR: 'it returns false'. Refute it at one input. -/
def trieMoreWrong : ChangeSpec := { name := "trieMore", fn := fun _ => fun
  | [d1, d2] => { results := [.lit (.bool false)], args := [d1, d2] }
  | _ => none }
def TrieMoreWrongFalsely : Prop := trieMoreRow.holds Try.pinned (OpenSpec.ofChange trieMoreWrong)

/-- 'lontarlaw04.TrieAll': WHATEVER THE INPUT: true; the input reads as it did. -/
def trieAllSpec : ChangeSpec := { name := "trieAll", fn := fun _ => fun
  | [d] => { results := [.lit (.bool true)], args := [d] }
  | _ => none }
def trieAllRow : OpenClaim := { program := "ytjicdpkgcofiaaa", sum := "82fc9f1b41e9d80f64de6aca8116578ea0c66a163d55d5e79ca4252e216195f0", func := "lontar/lontarlaw04.TrieAll", spec := "trieAll", unfollowed := true, recurses := true, apart := false }
def TrieAllSaid : Prop := trieAllRow.holds Try.pinned (OpenSpec.ofChange trieAllSpec)

/-- ITS FALSE NEIGHBOUR: 'it returns false'. Refute it at one input. -/
def trieAllWrong : ChangeSpec := { name := "trieAll", fn := fun _ => fun
  | [d] => { results := [.lit (.bool false)], args := [d] }
  | _ => none }
def TrieAllWrongFalsely : Prop := trieAllRow.holds Try.pinned (OpenSpec.ofChange trieAllWrong)

/-- 'lontarlaw04.TrieSteps': WHATEVER THE INPUT: true; the input reads as it did. -/
def trieStepsSpec : ChangeSpec := { name := "trieSteps", fn := fun _ => fun
  | [d1, d2, d3] => { results := [.lit (.bool true)], args := [d1, d2, d3] }
  | _ => none }
def trieStepsRow : OpenClaim := { program := "ytjicdpkgcofiaaa", sum := "82fc9f1b41e9d80f64de6aca8116578ea0c66a163d55d5e79ca4252e216195f0", func := "lontar/lontarlaw04.TrieSteps", spec := "trieSteps", unfollowed := true, recurses := true, apart := false }
def TrieStepsSaid : Prop := trieStepsRow.holds Try.pinned (OpenSpec.ofChange trieStepsSpec)

/-- ITS FALSE NEIGHBOUR: 'it returns false'. Refute it at one input. -/
def trieStepsWrong : ChangeSpec := { name := "trieSteps", fn := fun _ => fun
  | [d1, d2, d3] => { results := [.lit (.bool false)], args := [d1, d2, d3] }
  | _ => none }
def TrieStepsWrongFalsely : Prop := trieStepsRow.holds Try.pinned (OpenSpec.ofChange trieStepsWrong)

/- THE SECOND FORM. 'bulk': how many values and letters a reading holds, each counted each time it is reached (what is shared counts as often as it is met; a slice's spare places count too). A statement '..UptoSaid' is the law's where the arguments, and the package variables that the reading takes, are together of bulk at most 1048576: NARROWER than '..Said'. Prove '..Said' where nothing that the law and all that it calls make is longer than what came in: it says more and counts as full. Else prove '..UptoSaid'. A law counts once. -/
mutual
def uptoBulk {H : Type} : DataW H → Nat
  | .lit (.string bytes) => bytes.length + 1
  | .lit _ => 1
  | .nil => 1
  | .ptr d => uptoBulk d + 1
  | .slice elems spare => uptoBulkAll elems + uptoBulkAll spare + 1
  | .agg parts => uptoBulkAll parts + 1
  | .iface _ d => uptoBulk d + 1
  | .map entries => uptoBulkEntries entries + 1
  | .held _ => 1
def uptoBulkAll {H : Type} : List (DataW H) → Nat
  | [] => 0
  | d :: r => uptoBulk d + uptoBulkAll r
def uptoBulkEntries {H : Type} : List (Lit × DataW H) → Nat
  | [] => 0
  | x :: r => uptoBulkEntry x + uptoBulkEntries r
def uptoBulkEntry {H : Type} : Lit × DataW H → Nat
  | (.string bytes, d) => bytes.length + uptoBulk d + 1
  | (_, d) => uptoBulk d + 1
 end
def uptoSmall : (H : Type) → List (DataW H) → Bool := fun _ ds => decide (uptoBulkAll ds ≤ 1048576)
def OpenSpec.upto (s : _root_.Go.ChangeSpec) : _root_.Go.OpenSpec := { _root_.Go.OpenSpec.ofChange s with cond := some uptoSmall }

/-- 'lontarlaw04.TrieLongest', WHERE WHAT IT READS IS OF BULK AT MOST 1048576: true; the input reads as it did. -/
def trieLongestUptoRow : OpenClaim := { program := "ytjicdpkgcofiaaa", sum := "82fc9f1b41e9d80f64de6aca8116578ea0c66a163d55d5e79ca4252e216195f0", func := "lontar/lontarlaw04.TrieLongest", spec := "trieLongest", unfollowed := true, recurses := true, apart := false, narrowed := true }
def TrieLongestUptoSaid : Prop := trieLongestUptoRow.holds Try.pinned (OpenSpec.upto trieLongestSpec)

/-- 'lontarlaw04.TrieOf', WHERE WHAT IT READS IS OF BULK AT MOST 1048576: true; the input reads as it did. -/
def trieOfUptoRow : OpenClaim := { program := "ytjicdpkgcofiaaa", sum := "82fc9f1b41e9d80f64de6aca8116578ea0c66a163d55d5e79ca4252e216195f0", func := "lontar/lontarlaw04.TrieOf", spec := "trieOf", unfollowed := true, recurses := true, apart := false, narrowed := true }
def TrieOfUptoSaid : Prop := trieOfUptoRow.holds Try.pinned (OpenSpec.upto trieOfSpec)

/-- 'lontarlaw04.TrieLeaf', WHERE WHAT IT READS IS OF BULK AT MOST 1048576: true; the input reads as it did. -/
def trieLeafUptoRow : OpenClaim := { program := "ytjicdpkgcofiaaa", sum := "82fc9f1b41e9d80f64de6aca8116578ea0c66a163d55d5e79ca4252e216195f0", func := "lontar/lontarlaw04.TrieLeaf", spec := "trieLeaf", unfollowed := true, recurses := true, apart := false, narrowed := true }
def TrieLeafUptoSaid : Prop := trieLeafUptoRow.holds Try.pinned (OpenSpec.upto trieLeafSpec)

/-- 'lontarlaw04.TrieMore', WHERE WHAT IT READS IS OF BULK AT MOST 1048576: true; the input reads as it did. -/
def trieMoreUptoRow : OpenClaim := { program := "ytjicdpkgcofiaaa", sum := "82fc9f1b41e9d80f64de6aca8116578ea0c66a163d55d5e79ca4252e216195f0", func := "lontar/lontarlaw04.TrieMore", spec := "trieMore", unfollowed := true, recurses := true, apart := false, narrowed := true }
def TrieMoreUptoSaid : Prop := trieMoreUptoRow.holds Try.pinned (OpenSpec.upto trieMoreSpec)

/-- 'lontarlaw04.TrieAll', WHERE WHAT IT READS IS OF BULK AT MOST 1048576: true; the input reads as it did. -/
def trieAllUptoRow : OpenClaim := { program := "ytjicdpkgcofiaaa", sum := "82fc9f1b41e9d80f64de6aca8116578ea0c66a163d55d5e79ca4252e216195f0", func := "lontar/lontarlaw04.TrieAll", spec := "trieAll", unfollowed := true, recurses := true, apart := false, narrowed := true }
def TrieAllUptoSaid : Prop := trieAllUptoRow.holds Try.pinned (OpenSpec.upto trieAllSpec)

/-- 'lontarlaw04.TrieSteps', WHERE WHAT IT READS IS OF BULK AT MOST 1048576: true; the input reads as it did. -/
def trieStepsUptoRow : OpenClaim := { program := "ytjicdpkgcofiaaa", sum := "82fc9f1b41e9d80f64de6aca8116578ea0c66a163d55d5e79ca4252e216195f0", func := "lontar/lontarlaw04.TrieSteps", spec := "trieSteps", unfollowed := true, recurses := true, apart := false, narrowed := true }
def TrieStepsUptoSaid : Prop := trieStepsUptoRow.holds Try.pinned (OpenSpec.upto trieStepsSpec)

end Rows
end Go.Proofs.Ytjicdpkgcofiaaa
