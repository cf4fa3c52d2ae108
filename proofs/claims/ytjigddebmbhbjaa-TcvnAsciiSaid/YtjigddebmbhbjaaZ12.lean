/- What is proved here: what the program's functions come to, as far as the claimed statement asks. Conditions: those that each theorem names, and no others. -/
import Derived.Test.YtjigddebmbhbjaaQ12
import Derived.Test.YtjigddebmbhbjaaG12
/-! Layer 9: the letters by their numbers; Split. -/
set_option linter.unusedSimpArgs false
set_option linter.unusedVariables false
namespace Go.Proofs.Ytjigddebmbhbjaa
open Go Lon
set_option maxRecDepth 100000
/-- The rows' places, one behind the other: row and tone. -/
def places : List (Nat × Nat) := (R09.zipIdx.flatMap fun p => (List.range p.1.2.2.length).map fun d => (p.2, d))
def row09 (R : Nat) : Lr := R09.getD R (0, 0, [])
theorem places_ok : ∀ m, m < 74 → (fun q : Nat × Nat => q.1 < 14 ∧ q.2 < 6 ∧ offs q.1 + q.2 = m ∧ q.2 < (row09 q.1).2.2.length ∧ q.1 < R09.length ∧ 0 ≤ (row09 q.1).2.1) (places.getD m (0, 0)) := by decide
structure Lt where
  base : Int
  mark : Nat
  tone : Nat
  s : Int
/-- The m-th letter. -/
def lt (m : Nat) : Lt :=
  let q := places.getD (m % 74) (0, 0)
  let r := row09 q.1
  ⟨grt (decide (74 ≤ m)) r.1, r.2.1.toNat, q.2, grt (decide (74 ≤ m)) (r.2.2.getD q.2 0)⟩
theorem getD_some {α : Type} {l : List α} {i : Nat} {a : α} (h : i < l.length) : l[i]? = some (l.getD i a) := by
  rw [List.getD_eq_getElem?_getD, List.getElem?_eq_getElem h]
  rfl
theorem c_LetterN {m : Nat} (hm : m < 148) (H : AHeap) : Gives (cw Try.prog (tabF tab) om1 16 [.int .i64 m] H) fun v H' => Ext H H' ∧ v = .tuple ⟨[.agg ⟨[.int .i64 (lt m).base, .complex .f64 (fb (lt m).mark) (fb (lt m).tone)]⟩, .int .i64 (lt m).s, .bool true]⟩ := by
  obtain ⟨h1, h2, h3, h4, h5, h6⟩ := places_ok (m % 74) (by omega)
  generalize hq : places.getD (m % 74) (0, 0) = q at h1 h2 h3 h4 h5 h6
  have hR : R09[q.1]? = some (row09 q.1) := getD_some h5
  have hd : (row09 q.1).2.2[q.2]? = some ((row09 q.1).2.2.getD q.2 0) := getD_some h4
  have hlt : lt m = ⟨grt (decide (74 ≤ m)) (row09 q.1).1, (row09 q.1).2.1.toNat, q.2, grt (decide (74 ≤ m)) ((row09 q.1).2.2.getD q.2 0)⟩ := by unfold lt; rw [hq]
  rw [hlt]
  refine c_Letter (gr := decide (74 ≤ m)) (m0 := (row09 q.1).2.1.toNat) hR h1 hd h2 (by omega) ?_
  by_cases h : 74 ≤ m
  · simp only [h, decide_true, if_true]; omega
  · simp only [h, decide_false, Bool.false_eq_true, if_false]; omega
end Go.Proofs.Ytjigddebmbhbjaa
