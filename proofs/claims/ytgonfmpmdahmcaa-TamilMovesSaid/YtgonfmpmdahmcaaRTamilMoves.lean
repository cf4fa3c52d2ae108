/- What is proved here: the claimed statement. Conditions: those that each theorem names, and no others. -/
import Derived.Test.YtgonfmpmdahmcaaP1
import Derived.Test.YtgonfmpmdahmcaaP2
import Derived.Test.YtgonfmpmdahmcaaP3
import Derived.Test.YtgonfmpmdahmcaaP4
import Derived.Test.YtgonfmpmdahmcaaP5
/-! Rows. -/
namespace Go.Proofs.Ytgonfmpmdahmcaa
open Go Lon Go.ChangeShapes Go.WideShapes Go.ChangeAt Go.RowKit
set_option linter.unusedVariables false
theorem own : ownKnob Try.prog.godebug = none := by kernel_rfl
theorem laid : laidOutB Try.prog = true := by kernel_rfl
set_option maxRecDepth 100000 in
theorem tamilMoves_lifted (os : Os) (started : os.Started) (H : Type) (enc : TypeId × Value → H) :
    ReturnsInHanded {} Try.checked os 11 .any (Rows.tamilMovesSpec.pre6 enc Try.prog Try.f11 Rows.tamilMovesRow.domain false) (Rows.tamilMovesSpec.post enc Try.prog Try.f11 false true false false) := by
  refine returnsInHanded_of_change_sized (C := Try.checked) own started (by kernel_rfl) Try.func11
    (ChangeSpec.witness6 (enc := enc) (C := Try.checked) false ⟨#[], #[.int .u8 0, .int .u8 0, .slice none 0 0], []⟩ 8 (by kernel_rfl) (by kernel_rfl) (by kernel_rfl) (by kernel_rfl)) ?_
  intro W base args ds gs before hval0 hW hcnd hsz _
  have hval : ∀ (j : Nat) t v, Try.f11.params[j]? = some t → args[j]? = some v → Value.okWide Try.prog W .any base t v := hval0
  have hW' := hW
  obtain ⟨p, q, hA0, hV, rfl, hfz, hnd⟩ := hW
  have hA : DataW.TrodAll enc Try.prog W 0 (fun _ => true) true Try.f11.params.toList args.toList ds p := hA0
  have hsz1 : ∀ (j : Nat) t d, Try.f11.params.toList[j]? = some t → (ds ++ gs)[j]? = some d → ∀ n ∈ d.weights Try.prog t, n ≤ reachBytes := fun j t d ht hd n hn => by
    have h1 := DataW.weights_mem_each (ts := Try.f11.params.toList ++ Rows.tamilMovesSpec.plain.varTypes Try.prog) (by rw [List.getElem?_append_left (List.getElem?_eq_some_iff.1 ht).1]; exact ht) hd n hn
    simpa using List.all_eq_true.1 hsz _ h1
  rw [Try.params11] at hA hval hsz1
  obtain ⟨v0, vs0, d0, ds0, p0, q0, hargs, rfl, rfl, h0, r0⟩ := trodAll_cons hA
  obtain ⟨v1, vs1, d1, ds1, p1, q1, rfl, rfl, rfl, h1, r1⟩ := trodAll_cons r0
  obtain ⟨v2, vs2, d2, ds2, p2, q2, rfl, rfl, rfl, h2, r2⟩ := trodAll_cons r1
  obtain ⟨rfl, rfl, rfl⟩ := trodAll_nil r2
  obtain rfl : args = #[v0, v1, v2] := by cases args; simp_all
  obtain ⟨rfl, rfl⟩ := trodVars_none hV
  obtain ⟨a0, rfl, rfl, rfl, w0⟩ := open_int Try.underlying5 (hval 0 5 v0 rfl rfl) h0
  have b0 : 0 ≤ a0 ∧ a0 < 256 := by
    simp [Lit.wf, IntKind.min, IntKind.max, IntKind.signed, IntKind.bits] at w0
    omega
  obtain ⟨a1, rfl, rfl, rfl, w1⟩ := open_int Try.underlying5 (hval 1 5 v1 rfl rfl) h1
  have b1 : 0 ≤ a1 ∧ a1 < 256 := by
    simp [Lit.wf, IntKind.min, IntKind.max, IntKind.signed, IntKind.bits] at w1
    omega
  have s2 := slice_cells Try.underlying23 (hval 2 23 v2 rfl rfl)
  have z2 := hsz1 2 23 d2 rfl rfl
  clear hA0 hval0
  obtain ⟨f2, g2⟩ := h2
  obtain ⟨σ2, H2, c2, R2, hh2, sb2, ex2, vr2, l2, qq2⟩ := op_u8s (HR.empty W.heap.size W) g2 z2
  rw [s2] at vr2
  obtain ⟨u2, rfl, k2⟩ := u8s_of qq2
  obtain ⟨v, H', hrun, rfl⟩ := law_Moves17 (k2) b0 b1
  have hv : VRs σ2 [.int .u8 a0, .int .u8 a1, u2] [.int .u8 a0, .int .u8 a1, v2] := (.cons _ _ _ _ (.int _ _) (.cons _ _ _ _ (.int _ _) (VRs.append (vr2) .nil)))
  refine (calls_of_ro (cw_sound (base := W.heap.size) (by kernel_rfl) gok omok hrun) hv hh2 rfl).mono fun e W' ⟨he, hb⟩ => ?_
  subst he
  exact ⟨_, rfl, law_post laid (by kernel_rfl) (by kernel_rfl) Try.underlying4 rfl hW' rfl hb⟩
theorem tamilMoves_holds : Rows.TamilMovesSaid :=
  OpenClaim.holds_of_wide 11 Try.f11 rfl rfl rfl rfl rfl rfl rfl ⟨rfl, rfl, rfl, rfl, rfl⟩ rfl rfl rfl rfl rfl (by kernel_rfl) Try.func11 (by kernel_rfl)
    (of_decide_eq_true (by kernel_rfl)) (by unfold Func.isWrapper; first | (rw [if_pos (by decide +kernel)]; kernel_rfl) | (rw [if_neg (by decide +kernel)]; exact ⟨rfl, rfl⟩))
    (fun os started H enc _ => tamilMoves_lifted os started H enc)
#print axioms tamilMoves_holds

end Go.Proofs.Ytgonfmpmdahmcaa
