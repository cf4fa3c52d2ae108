/- What is proved here: the claimed statement. Conditions: those that each theorem names, and no others. -/
import Derived.Test.YtfhchimfdlhmaaaP1
import Derived.Test.YtfhchimfdlhmaaaP2
import Derived.Test.YtfhchimfdlhmaaaP3
import Derived.Test.YtfhchimfdlhmaaaP4
/-! Rows. -/
namespace Go.Proofs.Ytfhchimfdlhmaaa
open Go Lon Go.ChangeShapes Go.WideShapes Go.ChangeAt Go.RowKit
set_option linter.unusedVariables false
theorem own : ownKnob Try.prog.godebug = none := by kernel_rfl
theorem laid : laidOutB Try.prog = true := by kernel_rfl
set_option maxRecDepth 100000 in
theorem vniAscii_lifted (os : Os) (started : os.Started) (H : Type) (enc : TypeId × Value → H) :
    ReturnsInHanded {} Try.checked os 8 .any (Rows.vniAsciiSpec.pre6 enc Try.prog Try.f8 Rows.vniAsciiRow.domain false) (Rows.vniAsciiSpec.post enc Try.prog Try.f8 false true false false) := by
  refine returnsInHanded_of_change_sized (C := Try.checked) own started (by kernel_rfl) Try.func8
    (ChangeSpec.witness6 (enc := enc) (C := Try.checked) false ⟨#[], #[.slice none 0 0], []⟩ 8 (by kernel_rfl) (by kernel_rfl) (by kernel_rfl) (by kernel_rfl)) ?_
  intro W base args ds gs before hval0 hW hcnd hsz _
  have hval : ∀ (j : Nat) t v, Try.f8.params[j]? = some t → args[j]? = some v → Value.okWide Try.prog W .any base t v := hval0
  have hW' := hW
  obtain ⟨p, q, hA0, hV, rfl, hfz, hnd⟩ := hW
  have hA : DataW.TrodAll enc Try.prog W 0 (fun _ => true) true Try.f8.params.toList args.toList ds p := hA0
  have hsz1 : ∀ (j : Nat) t d, Try.f8.params.toList[j]? = some t → (ds ++ gs)[j]? = some d → ∀ n ∈ d.weights Try.prog t, n ≤ reachBytes := fun j t d ht hd n hn => by
    have h1 := DataW.weights_mem_each (ts := Try.f8.params.toList ++ Rows.vniAsciiSpec.plain.varTypes Try.prog) (by rw [List.getElem?_append_left (List.getElem?_eq_some_iff.1 ht).1]; exact ht) hd n hn
    simpa using List.all_eq_true.1 hsz _ h1
  rw [Try.params8] at hA hval hsz1
  obtain ⟨v0, vs0, d0, ds0, p0, q0, hargs, rfl, rfl, h0, r0⟩ := trodAll_cons hA
  obtain ⟨rfl, rfl, rfl⟩ := trodAll_nil r0
  obtain rfl : args = #[v0] := by cases args; simp_all
  obtain ⟨rfl, rfl⟩ := trodVars_none hV
  have s0 := slice_cells Try.underlying48 (hval 0 48 v0 rfl rfl)
  have z0 := hsz1 0 48 d0 rfl rfl
  clear hA0 hval0
  obtain ⟨f0, g0⟩ := h0
  obtain ⟨σ0, H0, c0, R0, hh0, sb0, ex0, vr0, l0, qq0⟩ := op_u8s (HR.empty W.heap.size W) g0 z0
  rw [s0] at vr0
  obtain ⟨u0, rfl, k0⟩ := u8s_of qq0
  obtain ⟨v, H', hrun, rfl⟩ := law_Ascii (k0)
  have hv : VRs σ0 [u0] [v0] := (VRs.append (vr0) .nil)
  refine (calls_of_ro (cw_sound (base := W.heap.size) (by kernel_rfl) gok omok hrun) hv hh0 rfl).mono fun e W' ⟨he, hb⟩ => ?_
  subst he
  exact ⟨_, rfl, law_post laid (by kernel_rfl) (by kernel_rfl) Try.underlying4 rfl hW' rfl hb⟩
theorem vniAscii_holds : Rows.VniAsciiSaid :=
  OpenClaim.holds_of_wide 8 Try.f8 rfl rfl rfl rfl rfl rfl rfl ⟨rfl, rfl, rfl, rfl, rfl⟩ rfl rfl rfl rfl rfl (by kernel_rfl) Try.func8 (by kernel_rfl)
    (of_decide_eq_true (by kernel_rfl)) (by unfold Func.isWrapper; first | (rw [if_pos (by decide +kernel)]; kernel_rfl) | (rw [if_neg (by decide +kernel)]; exact ⟨rfl, rfl⟩))
    (fun os started H enc _ => vniAscii_lifted os started H enc)
#print axioms vniAscii_holds

end Go.Proofs.Ytfhchimfdlhmaaa
