/- What is proved here: what the program's functions come to, as far as the claimed statement asks. Conditions: those that each theorem names, and no others. -/
import Derived.Test.YtdnaaonloaoeeaaLawRules
/-! Rows, units and numbers, read from memory. -/
set_option linter.unusedSimpArgs false
set_option linter.unusedVariables false
namespace Go.Proofs.Ytdnaaonloaoeeaa
open Go Lon
theorem op_ints : Opener Try.prog 26 1 (List Int) (qSlice Try.prog 1 8 (qInt .i64)) := Opener.slice (Opener.int Try.underlying3) (qInt_mono _) Try.underlying26 (by kernel_rfl) (by kernel_rfl) (by decide) (by kernel_rfl)
theorem op_u8s : Opener Try.prog 46 1 (List Int) (qSlice Try.prog 1 1 (qInt .u8)) := Opener.slice (Opener.int Try.underlying5) (qInt_mono _) Try.underlying46 (by kernel_rfl) (by kernel_rfl) (by decide) (by kernel_rfl)
abbrev qI : AHeap → List Value → List Int → Prop := qSlice Try.prog 1 8 (qInt .i64)
abbrev qB : AHeap → List Value → List Int → Prop := qSlice Try.prog 1 1 (qInt .u8)
theorem qI_mono : Mono qI := qSlice_mono (qInt_mono _)
theorem qB_mono : Mono qB := qSlice_mono (qInt_mono _)
abbrev qRule : AHeap → List Value → (List Int × (List Int × Unit)) → Prop := qPair 1 qI (qPair 1 qI qTrue)
theorem op_rule : Opener Try.prog 28 2 (List Int × (List Int × Unit)) qRule :=
  Opener.struct Try.underlying28 (by kernel_rfl) (Openers.cons op_ints qI_mono rfl (by kernel_rfl) (Openers.cons op_ints qI_mono rfl (by kernel_rfl) Openers.nil))
theorem qRule_mono : Mono qRule := qPair_mono qI_mono (qPair_mono qI_mono qTrue_mono)
abbrev qRow : AHeap → List Value → RowD → Prop := qPair 1 qB (qPair 1 qB (qPair 1 qBool (qPair 2 qRule qTrue)))
theorem op_row : Opener Try.prog 48 5 RowD qRow :=
  Opener.struct Try.underlying48 (by kernel_rfl) (Openers.cons op_u8s qB_mono rfl (by kernel_rfl) (Openers.cons op_u8s qB_mono rfl (by kernel_rfl) (Openers.cons (Opener.bool Try.underlying4) qBool_mono rfl (by kernel_rfl) (Openers.cons op_rule qRule_mono rfl (by kernel_rfl) Openers.nil))))
theorem qRow_mono : Mono qRow := qPair_mono qB_mono (qPair_mono qB_mono (qPair_mono qBool_mono (qPair_mono qRule_mono qTrue_mono)))
theorem op_rows : Opener Try.prog 22 1 (List RowD) (qSlice Try.prog 5 104 qRow) := Opener.slice op_row qRow_mono Try.underlying22 (by kernel_rfl) (by kernel_rfl) (by decide) (by kernel_rfl)
theorem bytes_of {L : List Int} (h : ∀ n ∈ L, (Lit.int .u8 n).wf = true) : bytes L := fun u hu => by
  have := h u hu
  simp [Lit.wf, IntKind.min, IntKind.max, IntKind.signed, IntKind.bits] at this
  omega
theorem reach_lt {n b : Nat} (h : n * b ≤ reachBytes) (hb : 0 < b) : n < 4611686018427387904 := by
  have h1 : n ≤ n * b := Nat.le_mul_of_pos_right _ hb
  unfold reachBytes at h
  omega
theorem ints_of {H : AHeap} {acs : List Value} {L : List Int} (h : qI H acs L) : ∃ v, acs = [v] ∧ Ints H v L ∧ Cut Try.prog H v 1 ∧ small L ∧ ∀ n ∈ L, (Lit.int .i64 n).wf = true := by
  obtain ⟨v, h1, h2, h3, h4, h5⟩ := qSlice_nums h
  refine ⟨v, h1, h2, h3, ?_, h5⟩
  unfold small
  unfold reachBytes at h4
  omega
theorem bytes_at {H : AHeap} {acs : List Value} {L : List Int} (h : qB H acs L) : ∃ v, acs = [v] ∧ Nums H .u8 v L ∧ Cut Try.prog H v 1 ∧ bytes L ∧ tiny L := by
  obtain ⟨v, h1, h2, h3, h4, h5⟩ := qSlice_nums h
  exact ⟨v, h1, h2, h3, bytes_of h5, reach_lt h4 (by decide)⟩
theorem take1 {l : List Value} {v : Value} (h : l.take 1 = [v]) : l = v :: l.drop 1 := by
  cases l with
  | nil => cases h
  | cons a l => simp at h; simp [h]
theorem row_of {H : AHeap} {acs : List Value} {r : RowD} (hl : acs.length = 5) (h : qRow H acs r) : RowAt H acs r := by
  obtain ⟨h1, h2, h3, ⟨h4, h5, _⟩, _⟩ := h
  obtain ⟨vi, e1, f1⟩ := bytes_at h1
  obtain ⟨vo, e2, f2⟩ := bytes_at h2
  obtain ⟨wi, e4, f4, _, f4', _⟩ := ints_of h4
  obtain ⟨wo, e5, f5, _, f5', _⟩ := ints_of h5
  refine ⟨vi, vo, wi, wo, ?_, f1, f2, ⟨f4, f4'⟩, ⟨f5, f5'⟩⟩
  match acs, hl with
  | [a, b, c, d, e], _ =>
    unfold qBool at h3
    simp at e1 e2 h3 e4 e5
    obtain rfl := e1
    obtain rfl := e2
    obtain rfl := e4
    obtain rfl := e5
    rw [h3]
theorem rows_of {H : AHeap} {acs : List Value} {R : List RowD} (h : qSlice Try.prog 5 104 qRow H acs R) : ∃ v, acs = [v] ∧ RowsAt H v R := by
  obtain ⟨v, cells, h1, h2, h3, h4, h5⟩ := h
  refine ⟨v, h1, cells, h2, h4, reach_lt h3 (by decide), fun k r hr => row_of ?_ (h5 k r hr)⟩
  have hl := h2.length
  have hk := (List.getElem?_eq_some_iff.1 hr).1
  rw [List.length_take, List.length_drop, hl]
  have : (k + 1) * 5 ≤ R.length * 5 := Nat.mul_le_mul_right _ hk
  omega
/-- The value of a slice's type is a slice. -/
theorem slice_cells {W : World} {b : Nat} {t e : TypeId} {v : Value} (ht : Try.prog.underlying t = some (.slice e)) (hv : Value.okWide Try.prog W .any b t v) : v.cells.toList = [v] := by
  unfold Value.okWide at hv
  rw [ht] at hv
  simp only at hv
  unfold Cell.okWide at hv
  rw [ht] at hv
  cases v <;> first | rfl | (simp [Cell.ok, ht] at hv)
end Go.Proofs.Ytdnaaonloaoeeaa
