/- What is proved here: the claimed statement. Conditions: those that each theorem names, and no others. -/
import Derived.Test.YthnccfmmeaeibaaP1
import Derived.Test.YthnccfmmeaeibaaP2
import Derived.Test.YthnccfmmeaeibaaP3
/-! Rows. -/
namespace Go.Proofs.Ythnccfmmeaeibaa
open Go Lon Go.ChangeShapes Go.WideShapes Go.ChangeAt Go.RowKit
set_option linter.unusedVariables false
theorem own : ownKnob Try.prog.godebug = none := by kernel_rfl
theorem laid : laidOutB Try.prog = true := by kernel_rfl
theorem rewriteSum_contract (H : Type) (enc : TypeId × Value → H) (W : World) (base : Nat) (args : Array Value) (ds gs : List (DataW H)) (before : List MemPlace)
    (hval0 : ∀ (j : Nat) t v, Try.f8.params[j]? = some t → args[j]? = some v → Value.okWide Try.prog W .any base t v)
    (hW : DataW.Whole enc Try.prog Try.f8.params.toList Rows.rewriteSumSpec.vars false W args.toList ds gs before) (hk : Rows.uptoSmall H (ds ++ gs) = true) :
    Calls Try.prog 8 args W fun e W' => ∃ v, e = .returned v ∧ Rows.rewriteSumSpec.post enc Try.prog Try.f8 false true false false W args v W' := by
  have hval : ∀ (j : Nat) t v, Try.f8.params[j]? = some t → args[j]? = some v → Value.okWide Try.prog W .any base t v := hval0
  have hW' := hW
  obtain ⟨p, q, hA0, hV, rfl, hfz, hnd⟩ := hW
  have hA : DataW.TrodAll enc Try.prog W 0 (fun _ => true) true Try.f8.params.toList args.toList ds p := hA0
  rw [Try.params8] at hA hval
  obtain ⟨v0, vs0, d0, ds0, p0, q0, hargs, rfl, rfl, h0, r0⟩ := trodAll_cons hA
  obtain ⟨v1, vs1, d1, ds1, p1, q1, rfl, rfl, rfl, h1, r1⟩ := trodAll_cons r0
  obtain ⟨rfl, rfl, rfl⟩ := trodAll_nil r1
  obtain rfl : args = #[v0, v1] := by cases args; simp_all
  obtain ⟨rfl, rfl⟩ := trodVars_none hV
  have s0 := slice_cells Try.underlying33 (hval 0 33 v0 rfl rfl)
  have z0 : ∀ n ∈ d0.weights Try.prog 33, n ≤ BT := fun n hn => by
    have h1 := within_toks H d0 n hn
    have h2 := bulk_part (d := d0) (l := [d0, d1] ++ []) (by simp)
    have h3 : Rows.uptoBulkAll ([d0, d1] ++ []) ≤ 1048576 := of_decide_eq_true hk
    have h4 : 48 * Rows.uptoBulk d0 ≤ 48 * 1048576 := Nat.mul_le_mul_left _ (by omega)
    exact Nat.le_trans h1 h4
  obtain ⟨a1, rfl, rfl, rfl, w1⟩ := open_int Try.underlying5 (hval 1 5 v1 rfl rfl) h1
  have b1 : 0 ≤ a1 ∧ a1 < 256 := by
    simp [Lit.wf, IntKind.min, IntKind.max, IntKind.signed, IntKind.bits] at w1
    omega
  clear hA0 hval0
  obtain ⟨f0, g0⟩ := h0
  obtain ⟨σ0, H0, c0, R0, hh0, sb0, ex0, vr0, l0, qq0⟩ := op_toks (HR.empty W.heap.size W) g0 z0
  rw [s0] at vr0
  obtain ⟨u0, rfl, k0⟩ := toks_of qq0
  obtain ⟨v, H', hrun, rfl⟩ := law_Sum (k0) b1
  have hv : VRs σ0 [u0, .int .u8 a1] [v0, .int .u8 a1] := (VRs.append (vr0) (.cons _ _ _ _ (.int _ _) .nil))
  refine (calls_of_ro (cw_sound (base := W.heap.size) (by kernel_rfl) gok omok hrun) hv hh0 rfl).mono fun e W' ⟨he, hb⟩ => ?_
  subst he
  exact ⟨_, rfl, law_post laid (by kernel_rfl) (by kernel_rfl) Try.underlying4 rfl hW' rfl hb⟩
set_option maxRecDepth 100000 in
theorem rewriteSum_lifted (os : Os) (started : os.Started) (H : Type) (enc : TypeId × Value → H) (F : Stop.Interp) :
    ReturnsInHanded {} Try.checked os 8 .any ((Rows.OpenSpec.upto Rows.rewriteSumSpec).pre6 enc Try.prog Try.f8 Rows.rewriteSumUptoRow.domain false) (((Rows.OpenSpec.upto Rows.rewriteSumSpec).at F).post enc Try.prog Try.f8 false true false false) := by
  refine returnsInHanded_of_cond (C := Try.checked) (s := Rows.OpenSpec.upto Rows.rewriteSumSpec) (k := Rows.uptoSmall) rfl own started (by kernel_rfl) Try.func8
    (OpenSpec.witness (enc := enc) (C := Try.checked) (s := Rows.OpenSpec.upto Rows.rewriteSumSpec) (k := Rows.uptoSmall) rfl false ⟨#[], #[.slice none 0 0, .int .u8 0], []⟩ 8 (by kernel_rfl) (by kernel_rfl) (by kernel_rfl)
      (x := ([.nil, .lit (.int .u8 0)], [], [])) (by kernel_rfl) rfl (by kernel_rfl)) ?_
  intro W base args ds gs before hval hW _ hk _
  exact rewriteSum_contract H enc W base args ds gs before hval hW hk
theorem rewriteSumUpto_holds : Rows.RewriteSumUptoSaid :=
  OpenClaim.holds_of_cond 8 Try.f8 rfl rfl rfl rfl rfl rfl rfl ⟨rfl, rfl, rfl, rfl, rfl⟩ rfl rfl rfl rfl rfl (by kernel_rfl) Try.func8 (by kernel_rfl)
    (of_decide_eq_true (by kernel_rfl)) (by unfold Func.isWrapper; first | (rw [if_pos (by decide +kernel)]; kernel_rfl) | (rw [if_neg (by decide +kernel)]; exact ⟨rfl, rfl⟩))
    (fun os started H enc _ F => rewriteSum_lifted os started H enc F)
#print axioms rewriteSumUpto_holds

end Go.Proofs.Ythnccfmmeaeibaa
