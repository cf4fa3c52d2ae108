/-
  No cell of these rows narrows 'for every input' (looked for: loops, veiled, ifaces, maps, wideKeys, modest, calm, conditions, laid).
  DERIVED. THE GIVEN ROWS OF THIS SEAT. 11 by the template 'for every input the law returns true; each argument reads behind the call as it read before'; 0 by the template 'total and deterministic' (their statements: YthnccfmmeaeibaaTotals.lean).
  GIVEN WITH THE SEED: the statements are not yours to turn. If you find one false, say at which input.
  Laid BY PROGRAM, IN A SANDBOX (cutbox-rows.mjs): the forced cells as the released guide's own fill.sh prints them over the translation 767f26319e42303d… (all of the seat's roots in one cut). By AI agents, Wed Nov 11 2026. No macro, syntax, notation, axiom, sorry.
-/
import Derived.Test.YthnccfmmeaeibaaChecked
import GoSem.Claim
import GoSem.ClaimJoined
import GoSem.ClaimMapViews
import Derived.JoinedTies
import Derived.KernelRfl
namespace Go.Proofs.Ythnccfmmeaeibaa
/- THE CELL 'sum', in the pinned program and in every row, IS THE sha256 OF THE DUMP (.gsa) THAT YthnccfmmeaeibaaProg.lean LOADS. Nothing in Lean hashes anything: it is a label: what it is worth is what the hold of that sum in a sandbox is worth. -/
noncomputable def Try.pinned : Pinned := { name := "ythnccfmmeaeibaa", sum := "767f26319e42303da7aa349d2b8ab7989fdfef40302751b5713c0eb4b89aebdd", checked := Try.checked }
namespace Rows
def none {H : Type} : Left H := { results := [], args := [] }

/-- 'lontarlaw05.RewriteAll': WHATEVER THE INPUT: true; the input reads as it did. -/
def rewriteAllSpec : ChangeSpec := { name := "rewriteAll", fn := fun _ => fun
  | [d1, d2, d3] => { results := [.lit (.bool true)], args := [d1, d2, d3] }
  | _ => none }
def rewriteAllRow : OpenClaim := { program := "ythnccfmmeaeibaa", sum := "767f26319e42303da7aa349d2b8ab7989fdfef40302751b5713c0eb4b89aebdd", func := "lontar/lontarlaw05.RewriteAll", spec := "rewriteAll", unfollowed := true, recurses := true, apart := false }
def RewriteAllSaid : Prop := rewriteAllRow.holds Try.pinned (OpenSpec.ofChange rewriteAllSpec)

/-- ITS FALSE NEIGHBOUR: 'it returns false'. Refute it at one input. -/
def rewriteAllWrong : ChangeSpec := { name := "rewriteAll", fn := fun _ => fun
  | [d1, d2, d3] => { results := [.lit (.bool false)], args := [d1, d2, d3] }
  | _ => none }
def RewriteAllWrongFalsely : Prop := rewriteAllRow.holds Try.pinned (OpenSpec.ofChange rewriteAllWrong)

/-- 'lontarlaw05.RewriteUnits': WHATEVER THE INPUT: true; the input reads as it did. -/
def rewriteUnitsSpec : ChangeSpec := { name := "rewriteUnits", fn := fun _ => fun
  | [d] => { results := [.lit (.bool true)], args := [d] }
  | _ => none }
def rewriteUnitsRow : OpenClaim := { program := "ythnccfmmeaeibaa", sum := "767f26319e42303da7aa349d2b8ab7989fdfef40302751b5713c0eb4b89aebdd", func := "lontar/lontarlaw05.RewriteUnits", spec := "rewriteUnits", unfollowed := true, recurses := true, apart := false }
def RewriteUnitsSaid : Prop := rewriteUnitsRow.holds Try.pinned (OpenSpec.ofChange rewriteUnitsSpec)

/-- ITS FALSE NEIGHBOUR: 'it returns false'. Refute it at one input. -/
def rewriteUnitsWrong : ChangeSpec := { name := "rewriteUnits", fn := fun _ => fun
  | [d] => { results := [.lit (.bool false)], args := [d] }
  | _ => none }
def RewriteUnitsWrongFalsely : Prop := rewriteUnitsRow.holds Try.pinned (OpenSpec.ofChange rewriteUnitsWrong)

/-- 'lontarlaw05.RewriteCover': WHATEVER THE INPUT: true; the input reads as it did. -/
def rewriteCoverSpec : ChangeSpec := { name := "rewriteCover", fn := fun _ => fun
  | [d1, d2] => { results := [.lit (.bool true)], args := [d1, d2] }
  | _ => none }
def rewriteCoverRow : OpenClaim := { program := "ythnccfmmeaeibaa", sum := "767f26319e42303da7aa349d2b8ab7989fdfef40302751b5713c0eb4b89aebdd", func := "lontar/lontarlaw05.RewriteCover", spec := "rewriteCover", unfollowed := true, recurses := true, apart := false }
def RewriteCoverSaid : Prop := rewriteCoverRow.holds Try.pinned (OpenSpec.ofChange rewriteCoverSpec)

/-- ITS FALSE NEIGHBOUR: 'it returns false'. Refute it at one input. -/
def rewriteCoverWrong : ChangeSpec := { name := "rewriteCover", fn := fun _ => fun
  | [d1, d2] => { results := [.lit (.bool false)], args := [d1, d2] }
  | _ => none }
def RewriteCoverWrongFalsely : Prop := rewriteCoverRow.holds Try.pinned (OpenSpec.ofChange rewriteCoverWrong)

/-- 'lontarlaw05.RewriteTail': WHATEVER THE INPUT: true; the input reads as it did. -/
def rewriteTailSpec : ChangeSpec := { name := "rewriteTail", fn := fun _ => fun
  | [d1, d2, d3] => { results := [.lit (.bool true)], args := [d1, d2, d3] }
  | _ => none }
def rewriteTailRow : OpenClaim := { program := "ythnccfmmeaeibaa", sum := "767f26319e42303da7aa349d2b8ab7989fdfef40302751b5713c0eb4b89aebdd", func := "lontar/lontarlaw05.RewriteTail", spec := "rewriteTail", unfollowed := true, recurses := true, apart := false }
def RewriteTailSaid : Prop := rewriteTailRow.holds Try.pinned (OpenSpec.ofChange rewriteTailSpec)

/-- ITS FALSE NEIGHBOUR: 'it returns false'. Refute it at one input. -/
def rewriteTailWrong : ChangeSpec := { name := "rewriteTail", fn := fun _ => fun
  | [d1, d2, d3] => { results := [.lit (.bool false)], args := [d1, d2, d3] }
  | _ => none }
def RewriteTailWrongFalsely : Prop := rewriteTailRow.holds Try.pinned (OpenSpec.ofChange rewriteTailWrong)

/-- 'lontarlaw05.RewriteSingles': WHATEVER THE INPUT: true; the input reads as it did. -/
def rewriteSinglesSpec : ChangeSpec := { name := "rewriteSingles", fn := fun _ => fun
  | [d1, d2] => { results := [.lit (.bool true)], args := [d1, d2] }
  | _ => none }
def rewriteSinglesRow : OpenClaim := { program := "ythnccfmmeaeibaa", sum := "767f26319e42303da7aa349d2b8ab7989fdfef40302751b5713c0eb4b89aebdd", func := "lontar/lontarlaw05.RewriteSingles", spec := "rewriteSingles", unfollowed := true, recurses := true, apart := false }
def RewriteSinglesSaid : Prop := rewriteSinglesRow.holds Try.pinned (OpenSpec.ofChange rewriteSinglesSpec)

/-- ITS FALSE NEIGHBOUR: 'it returns false'. Refute it at one input. -/
def rewriteSinglesWrong : ChangeSpec := { name := "rewriteSingles", fn := fun _ => fun
  | [d1, d2] => { results := [.lit (.bool false)], args := [d1, d2] }
  | _ => none }
def RewriteSinglesWrongFalsely : Prop := rewriteSinglesRow.holds Try.pinned (OpenSpec.ofChange rewriteSinglesWrong)

/-- 'lontarlaw05.RewriteSum': WHATEVER THE INPUT: true; the input reads as it did. -/
def rewriteSumSpec : ChangeSpec := { name := "rewriteSum", fn := fun _ => fun
  | [d1, d2] => { results := [.lit (.bool true)], args := [d1, d2] }
  | _ => none }
def rewriteSumRow : OpenClaim := { program := "ythnccfmmeaeibaa", sum := "767f26319e42303da7aa349d2b8ab7989fdfef40302751b5713c0eb4b89aebdd", func := "lontar/lontarlaw05.RewriteSum", spec := "rewriteSum", unfollowed := true, recurses := true, apart := false }
def RewriteSumSaid : Prop := rewriteSumRow.holds Try.pinned (OpenSpec.ofChange rewriteSumSpec)

/-- ITS FALSE NEIGHBOUR: 'it returns false'. Refute it at one input. -/
def rewriteSumWrong : ChangeSpec := { name := "rewriteSum", fn := fun _ => fun
  | [d1, d2] => { results := [.lit (.bool false)], args := [d1, d2] }
  | _ => none }
def RewriteSumWrongFalsely : Prop := rewriteSumRow.holds Try.pinned (OpenSpec.ofChange rewriteSumWrong)

/-- 'lontarlaw06.MatchAll': WHATEVER THE INPUT: true; the input reads as it did. -/
def matchAllSpec : ChangeSpec := { name := "matchAll", fn := fun _ => fun
  | [d1, d2, d3] => { results := [.lit (.bool true)], args := [d1, d2, d3] }
  | _ => none }
def matchAllRow : OpenClaim := { program := "ythnccfmmeaeibaa", sum := "767f26319e42303da7aa349d2b8ab7989fdfef40302751b5713c0eb4b89aebdd", func := "lontar/lontarlaw06.MatchAll", spec := "matchAll", unfollowed := true, recurses := true, apart := false }
def MatchAllSaid : Prop := matchAllRow.holds Try.pinned (OpenSpec.ofChange matchAllSpec)

/-- ITS FALSE NEIGHBOUR: 'it returns false'. Refute it at one input. -/
def matchAllWrong : ChangeSpec := { name := "matchAll", fn := fun _ => fun
  | [d1, d2, d3] => { results := [.lit (.bool false)], args := [d1, d2, d3] }
  | _ => none }
def MatchAllWrongFalsely : Prop := matchAllRow.holds Try.pinned (OpenSpec.ofChange matchAllWrong)

/-- 'lontarlaw06.MatchSoon': WHATEVER THE INPUT: true; the input reads as it did. -/
def matchSoonSpec : ChangeSpec := { name := "matchSoon", fn := fun _ => fun
  | [d1, d2] => { results := [.lit (.bool true)], args := [d1, d2] }
  | _ => none }
def matchSoonRow : OpenClaim := { program := "ythnccfmmeaeibaa", sum := "767f26319e42303da7aa349d2b8ab7989fdfef40302751b5713c0eb4b89aebdd", func := "lontar/lontarlaw06.MatchSoon", spec := "matchSoon", unfollowed := true, recurses := true, apart := false }
def MatchSoonSaid : Prop := matchSoonRow.holds Try.pinned (OpenSpec.ofChange matchSoonSpec)

/-- ITS FALSE NEIGHBOUR: 'it returns false'. Refute it at one input. -/
def matchSoonWrong : ChangeSpec := { name := "matchSoon", fn := fun _ => fun
  | [d1, d2] => { results := [.lit (.bool false)], args := [d1, d2] }
  | _ => none }
def MatchSoonWrongFalsely : Prop := matchSoonRow.holds Try.pinned (OpenSpec.ofChange matchSoonWrong)

/-- 'lontarlaw06.MatchWaits': WHATEVER THE INPUT: true; the input reads as it did. -/
def matchWaitsSpec : ChangeSpec := { name := "matchWaits", fn := fun _ => fun
  | [d1, d2] => { results := [.lit (.bool true)], args := [d1, d2] }
  | _ => none }
def matchWaitsRow : OpenClaim := { program := "ythnccfmmeaeibaa", sum := "767f26319e42303da7aa349d2b8ab7989fdfef40302751b5713c0eb4b89aebdd", func := "lontar/lontarlaw06.MatchWaits", spec := "matchWaits", unfollowed := true, recurses := true, apart := false }
def MatchWaitsSaid : Prop := matchWaitsRow.holds Try.pinned (OpenSpec.ofChange matchWaitsSpec)

/-- ITS FALSE NEIGHBOUR: 'it returns false'. Refute it at one input. -/
def matchWaitsWrong : ChangeSpec := { name := "matchWaits", fn := fun _ => fun
  | [d1, d2] => { results := [.lit (.bool false)], args := [d1, d2] }
  | _ => none }
def MatchWaitsWrongFalsely : Prop := matchWaitsRow.holds Try.pinned (OpenSpec.ofChange matchWaitsWrong)

/-- 'lontarlaw06.MatchHeld': WHATEVER THE INPUT: true; the input reads as it did. -/
def matchHeldSpec : ChangeSpec := { name := "matchHeld", fn := fun _ => fun
  | [d1, d2] => { results := [.lit (.bool true)], args := [d1, d2] }
  | _ => none }
def matchHeldRow : OpenClaim := { program := "ythnccfmmeaeibaa", sum := "767f26319e42303da7aa349d2b8ab7989fdfef40302751b5713c0eb4b89aebdd", func := "lontar/lontarlaw06.MatchHeld", spec := "matchHeld", unfollowed := true, recurses := true, apart := false }
def MatchHeldSaid : Prop := matchHeldRow.holds Try.pinned (OpenSpec.ofChange matchHeldSpec)

/-- ITS FALSE NEIGHBOUR: 'it returns false'. Refute it at one input. -/
def matchHeldWrong : ChangeSpec := { name := "matchHeld", fn := fun _ => fun
  | [d1, d2] => { results := [.lit (.bool false)], args := [d1, d2] }
  | _ => none }
def MatchHeldWrongFalsely : Prop := matchHeldRow.holds Try.pinned (OpenSpec.ofChange matchHeldWrong)

/-- 'lontarlaw06.MatchEnds': WHATEVER THE INPUT: true; the input reads as it did. -/
def matchEndsSpec : ChangeSpec := { name := "matchEnds", fn := fun _ => fun
  | [d1, d2, d3] => { results := [.lit (.bool true)], args := [d1, d2, d3] }
  | _ => none }
def matchEndsRow : OpenClaim := { program := "ythnccfmmeaeibaa", sum := "767f26319e42303da7aa349d2b8ab7989fdfef40302751b5713c0eb4b89aebdd", func := "lontar/lontarlaw06.MatchEnds", spec := "matchEnds", unfollowed := true, recurses := true, apart := false }
def MatchEndsSaid : Prop := matchEndsRow.holds Try.pinned (OpenSpec.ofChange matchEndsSpec)

/-- ITS FALSE NEIGHBOUR: 'it returns false'. Refute it at one input. -/
def matchEndsWrong : ChangeSpec := { name := "matchEnds", fn := fun _ => fun
  | [d1, d2, d3] => { results := [.lit (.bool false)], args := [d1, d2, d3] }
  | _ => none }
def MatchEndsWrongFalsely : Prop := matchEndsRow.holds Try.pinned (OpenSpec.ofChange matchEndsWrong)

/- THE SECOND FORM. 'bulk': how many values and letters a reading holds, each counted each time it is reached (what is shared counts as often as it is met; a slice's spare places count too). A statement '..UptoSaid' is the law's where the arguments, and the package variables that the reading takes, are together of bulk at most 1048576: NARROWER than '..Said'. Prove '..Said' where nothing that the law and all that it calls make is longer than what came in: it says more and counts as full. Else prove '..UptoSaid'. A law counts once. -/
mutual
def uptoBulk {H : Type} : DataW H → Nat
  | .lit (.string bytes) => bytes.length + 1
  | .lit _ => 1
  | .nil => 1
  | .ptr d => uptoBulk d + 1
  | .slice elems spare => uptoBulkAll elems + uptoBulkAll spare + 1
  | .agg parts => uptoBulkAll parts + 1
  | .iface _ d => uptoBulk d + 1
  | .map entries => uptoBulkEntries entries + 1
  | .held _ => 1
def uptoBulkAll {H : Type} : List (DataW H) → Nat
  | [] => 0
  | d :: r => uptoBulk d + uptoBulkAll r
def uptoBulkEntries {H : Type} : List (Lit × DataW H) → Nat
  | [] => 0
  | x :: r => uptoBulkEntry x + uptoBulkEntries r
def uptoBulkEntry {H : Type} : Lit × DataW H → Nat
  | (.string bytes, d) => bytes.length + uptoBulk d + 1
  | (_, d) => uptoBulk d + 1
 end
def uptoSmall : (H : Type) → List (DataW H) → Bool := fun _ ds => decide (uptoBulkAll ds ≤ 1048576)
def OpenSpec.upto (s : _root_.Go.ChangeSpec) : _root_.Go.OpenSpec := { _root_.Go.OpenSpec.ofChange s with cond := some uptoSmall }

/-- 'lontarlaw05.RewriteAll', WHERE WHAT IT READS IS OF BULK AT MOST 1048576: true; the input reads as it did. -/
def rewriteAllUptoRow : OpenClaim := { program := "ythnccfmmeaeibaa", sum := "767f26319e42303da7aa349d2b8ab7989fdfef40302751b5713c0eb4b89aebdd", func := "lontar/lontarlaw05.RewriteAll", spec := "rewriteAll", unfollowed := true, recurses := true, apart := false, narrowed := true }
def RewriteAllUptoSaid : Prop := rewriteAllUptoRow.holds Try.pinned (OpenSpec.upto rewriteAllSpec)

/-- 'lontarlaw05.RewriteUnits', WHERE WHAT IT READS IS OF BULK AT MOST 1048576: true; the input reads as it did. -/
def rewriteUnitsUptoRow : OpenClaim := { program := "ythnccfmmeaeibaa", sum := "767f26319e42303da7aa349d2b8ab7989fdfef40302751b5713c0eb4b89aebdd", func := "lontar/lontarlaw05.RewriteUnits", spec := "rewriteUnits", unfollowed := true, recurses := true, apart := false, narrowed := true }
def RewriteUnitsUptoSaid : Prop := rewriteUnitsUptoRow.holds Try.pinned (OpenSpec.upto rewriteUnitsSpec)

/-- 'lontarlaw05.RewriteCover', WHERE WHAT IT READS IS OF BULK AT MOST 1048576: true; the input reads as it did. -/
def rewriteCoverUptoRow : OpenClaim := { program := "ythnccfmmeaeibaa", sum := "767f26319e42303da7aa349d2b8ab7989fdfef40302751b5713c0eb4b89aebdd", func := "lontar/lontarlaw05.RewriteCover", spec := "rewriteCover", unfollowed := true, recurses := true, apart := false, narrowed := true }
def RewriteCoverUptoSaid : Prop := rewriteCoverUptoRow.holds Try.pinned (OpenSpec.upto rewriteCoverSpec)

/-- 'lontarlaw05.RewriteTail', WHERE WHAT IT READS IS OF BULK AT MOST 1048576: true; the input reads as it did. -/
def rewriteTailUptoRow : OpenClaim := { program := "ythnccfmmeaeibaa", sum := "767f26319e42303da7aa349d2b8ab7989fdfef40302751b5713c0eb4b89aebdd", func := "lontar/lontarlaw05.RewriteTail", spec := "rewriteTail", unfollowed := true, recurses := true, apart := false, narrowed := true }
def RewriteTailUptoSaid : Prop := rewriteTailUptoRow.holds Try.pinned (OpenSpec.upto rewriteTailSpec)

/-- 'lontarlaw05.RewriteSingles', WHERE WHAT IT READS IS OF BULK AT MOST 1048576: true; the input reads as it did. -/
def rewriteSinglesUptoRow : OpenClaim := { program := "ythnccfmmeaeibaa", sum := "767f26319e42303da7aa349d2b8ab7989fdfef40302751b5713c0eb4b89aebdd", func := "lontar/lontarlaw05.RewriteSingles", spec := "rewriteSingles", unfollowed := true, recurses := true, apart := false, narrowed := true }
def RewriteSinglesUptoSaid : Prop := rewriteSinglesUptoRow.holds Try.pinned (OpenSpec.upto rewriteSinglesSpec)

/-- 'lontarlaw05.RewriteSum', WHERE WHAT IT READS IS OF BULK AT MOST 1048576: true; the input reads as it did. -/
def rewriteSumUptoRow : OpenClaim := { program := "ythnccfmmeaeibaa", sum := "767f26319e42303da7aa349d2b8ab7989fdfef40302751b5713c0eb4b89aebdd", func := "lontar/lontarlaw05.RewriteSum", spec := "rewriteSum", unfollowed := true, recurses := true, apart := false, narrowed := true }
def RewriteSumUptoSaid : Prop := rewriteSumUptoRow.holds Try.pinned (OpenSpec.upto rewriteSumSpec)

/-- 'lontarlaw06.MatchAll', WHERE WHAT IT READS IS OF BULK AT MOST 1048576: true; the input reads as it did. -/
def matchAllUptoRow : OpenClaim := { program := "ythnccfmmeaeibaa", sum := "767f26319e42303da7aa349d2b8ab7989fdfef40302751b5713c0eb4b89aebdd", func := "lontar/lontarlaw06.MatchAll", spec := "matchAll", unfollowed := true, recurses := true, apart := false, narrowed := true }
def MatchAllUptoSaid : Prop := matchAllUptoRow.holds Try.pinned (OpenSpec.upto matchAllSpec)

/-- 'lontarlaw06.MatchSoon', WHERE WHAT IT READS IS OF BULK AT MOST 1048576: true; the input reads as it did. -/
def matchSoonUptoRow : OpenClaim := { program := "ythnccfmmeaeibaa", sum := "767f26319e42303da7aa349d2b8ab7989fdfef40302751b5713c0eb4b89aebdd", func := "lontar/lontarlaw06.MatchSoon", spec := "matchSoon", unfollowed := true, recurses := true, apart := false, narrowed := true }
def MatchSoonUptoSaid : Prop := matchSoonUptoRow.holds Try.pinned (OpenSpec.upto matchSoonSpec)

/-- 'lontarlaw06.MatchWaits', WHERE WHAT IT READS IS OF BULK AT MOST 1048576: true; the input reads as it did. -/
def matchWaitsUptoRow : OpenClaim := { program := "ythnccfmmeaeibaa", sum := "767f26319e42303da7aa349d2b8ab7989fdfef40302751b5713c0eb4b89aebdd", func := "lontar/lontarlaw06.MatchWaits", spec := "matchWaits", unfollowed := true, recurses := true, apart := false, narrowed := true }
def MatchWaitsUptoSaid : Prop := matchWaitsUptoRow.holds Try.pinned (OpenSpec.upto matchWaitsSpec)

/-- 'lontarlaw06.MatchHeld', WHERE WHAT IT READS IS OF BULK AT MOST 1048576: true; the input reads as it did. -/
def matchHeldUptoRow : OpenClaim := { program := "ythnccfmmeaeibaa", sum := "767f26319e42303da7aa349d2b8ab7989fdfef40302751b5713c0eb4b89aebdd", func := "lontar/lontarlaw06.MatchHeld", spec := "matchHeld", unfollowed := true, recurses := true, apart := false, narrowed := true }
def MatchHeldUptoSaid : Prop := matchHeldUptoRow.holds Try.pinned (OpenSpec.upto matchHeldSpec)

/-- 'lontarlaw06.MatchEnds', WHERE WHAT IT READS IS OF BULK AT MOST 1048576: true; the input reads as it did. -/
def matchEndsUptoRow : OpenClaim := { program := "ythnccfmmeaeibaa", sum := "767f26319e42303da7aa349d2b8ab7989fdfef40302751b5713c0eb4b89aebdd", func := "lontar/lontarlaw06.MatchEnds", spec := "matchEnds", unfollowed := true, recurses := true, apart := false, narrowed := true }
def MatchEndsUptoSaid : Prop := matchEndsUptoRow.holds Try.pinned (OpenSpec.upto matchEndsSpec)

end Rows
end Go.Proofs.Ythnccfmmeaeibaa
