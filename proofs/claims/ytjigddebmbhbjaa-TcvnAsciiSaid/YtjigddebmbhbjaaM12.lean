/- What is proved here: what the program's functions come to, as far as the claimed statement asks. Conditions: those that each theorem names, and no others. -/
import Derived.Test.YtjigddebmbhbjaaL12
/-! Layer 9: letters. -/
set_option linter.unusedSimpArgs false
set_option linter.unusedVariables false
namespace Go.Proofs.Ytjigddebmbhbjaa
open Go Lon
set_option maxRecDepth 100000
/-- The bits of a small number as a float64. -/
def fb : Nat → Nat
  | 0 => 0
  | 1 => 4607182418800017408
  | 2 => 4611686018427387904
  | 3 => 4613937818241073152
  | 4 => 4616189618054758400
  | _ => 4617315517961601024
theorem g_conv43_0 {cf : CallF} {H : AHeap} : stepA Try.prog cf [(43, .int .i64 (0 : Nat))] H (.gen ⟨none, (.convert 3 45 (.tmp 43)), 45, "", #[], none⟩) = some (.float .f64 (fb 0), H) := by kernel_rfl
theorem g_conv43_1 {cf : CallF} {H : AHeap} : stepA Try.prog cf [(43, .int .i64 (1 : Nat))] H (.gen ⟨none, (.convert 3 45 (.tmp 43)), 45, "", #[], none⟩) = some (.float .f64 (fb 1), H) := by kernel_rfl
theorem g_conv43_2 {cf : CallF} {H : AHeap} : stepA Try.prog cf [(43, .int .i64 (2 : Nat))] H (.gen ⟨none, (.convert 3 45 (.tmp 43)), 45, "", #[], none⟩) = some (.float .f64 (fb 2), H) := by kernel_rfl
theorem g_conv43_3 {cf : CallF} {H : AHeap} : stepA Try.prog cf [(43, .int .i64 (3 : Nat))] H (.gen ⟨none, (.convert 3 45 (.tmp 43)), 45, "", #[], none⟩) = some (.float .f64 (fb 3), H) := by kernel_rfl
theorem g_conv43_4 {cf : CallF} {H : AHeap} : stepA Try.prog cf [(43, .int .i64 (4 : Nat))] H (.gen ⟨none, (.convert 3 45 (.tmp 43)), 45, "", #[], none⟩) = some (.float .f64 (fb 4), H) := by kernel_rfl
theorem g_conv43_5 {cf : CallF} {H : AHeap} : stepA Try.prog cf [(43, .int .i64 (5 : Nat))] H (.gen ⟨none, (.convert 3 45 (.tmp 43)), 45, "", #[], none⟩) = some (.float .f64 (fb 5), H) := by kernel_rfl
theorem g_conv43 {cf : CallF} {e : Env} {H : AHeap} {j : Nat} (h : eget e 43 = .int .i64 j) (hj : j < 6) : stepA Try.prog cf e H (.gen ⟨none, (.convert 3 45 (.tmp 43)), 45, "", #[], none⟩) = some (.float .f64 (fb j), H) := by
  have hc : stepA Try.prog cf e H (.gen ⟨none, (.convert 3 45 (.tmp 43)), 45, "", #[], none⟩) = stepA Try.prog cf [(43, .int .i64 j)] H (.gen ⟨none, (.convert 3 45 (.tmp 43)), 45, "", #[], none⟩) := stepA_congr fun x hx => by
    simp [AOp.ops, Op.operands] at hx
    subst hx
    simp only [ev_tmp, eget_cons, if_true]
    exact h
  refine hc.trans ?_
  match j, hj with
  | 0, _ => exact g_conv43_0
  | 1, _ => exact g_conv43_1
  | 2, _ => exact g_conv43_2
  | 3, _ => exact g_conv43_3
  | 4, _ => exact g_conv43_4
  | 5, _ => exact g_conv43_5
theorem g_conv45_0 {cf : CallF} {H : AHeap} : stepA Try.prog cf [(45, .int .i64 (0 : Nat))] H (.gen ⟨none, (.convert 3 45 (.tmp 45)), 45, "", #[], none⟩) = some (.float .f64 (fb 0), H) := by kernel_rfl
theorem g_conv45_1 {cf : CallF} {H : AHeap} : stepA Try.prog cf [(45, .int .i64 (1 : Nat))] H (.gen ⟨none, (.convert 3 45 (.tmp 45)), 45, "", #[], none⟩) = some (.float .f64 (fb 1), H) := by kernel_rfl
theorem g_conv45_2 {cf : CallF} {H : AHeap} : stepA Try.prog cf [(45, .int .i64 (2 : Nat))] H (.gen ⟨none, (.convert 3 45 (.tmp 45)), 45, "", #[], none⟩) = some (.float .f64 (fb 2), H) := by kernel_rfl
theorem g_conv45_3 {cf : CallF} {H : AHeap} : stepA Try.prog cf [(45, .int .i64 (3 : Nat))] H (.gen ⟨none, (.convert 3 45 (.tmp 45)), 45, "", #[], none⟩) = some (.float .f64 (fb 3), H) := by kernel_rfl
theorem g_conv45_4 {cf : CallF} {H : AHeap} : stepA Try.prog cf [(45, .int .i64 (4 : Nat))] H (.gen ⟨none, (.convert 3 45 (.tmp 45)), 45, "", #[], none⟩) = some (.float .f64 (fb 4), H) := by kernel_rfl
theorem g_conv45_5 {cf : CallF} {H : AHeap} : stepA Try.prog cf [(45, .int .i64 (5 : Nat))] H (.gen ⟨none, (.convert 3 45 (.tmp 45)), 45, "", #[], none⟩) = some (.float .f64 (fb 5), H) := by kernel_rfl
theorem g_conv45 {cf : CallF} {e : Env} {H : AHeap} {j : Nat} (h : eget e 45 = .int .i64 j) (hj : j < 6) : stepA Try.prog cf e H (.gen ⟨none, (.convert 3 45 (.tmp 45)), 45, "", #[], none⟩) = some (.float .f64 (fb j), H) := by
  have hc : stepA Try.prog cf e H (.gen ⟨none, (.convert 3 45 (.tmp 45)), 45, "", #[], none⟩) = stepA Try.prog cf [(45, .int .i64 j)] H (.gen ⟨none, (.convert 3 45 (.tmp 45)), 45, "", #[], none⟩) := stepA_congr fun x hx => by
    simp [AOp.ops, Op.operands] at hx
    subst hx
    simp only [ev_tmp, eget_cons, if_true]
    exact h
  refine hc.trans ?_
  match j, hj with
  | 0, _ => exact g_conv45_0
  | 1, _ => exact g_conv45_1
  | 2, _ => exact g_conv45_2
  | 3, _ => exact g_conv45_3
  | 4, _ => exact g_conv45_4
  | 5, _ => exact g_conv45_5
theorem g_cplx0 {cf : CallF} {H : AHeap} {a b : Nat} : stepA Try.prog cf [(44, .float .f64 a), (46, .float .f64 b)] H (.gen ⟨none, (.call ⟨.builtin .complex, #[(.tmp 44), (.tmp 46)], #[45, 45]⟩), 40, "", #[], none⟩) = some (.complex .f64 a b, H) := by kernel_rfl
theorem g_cplx {cf : CallF} {e : Env} {H : AHeap} {a b : Nat} (h1 : eget e 44 = .float .f64 a) (h2 : eget e 46 = .float .f64 b) : stepA Try.prog cf e H (.gen ⟨none, (.call ⟨.builtin .complex, #[(.tmp 44), (.tmp 46)], #[45, 45]⟩), 40, "", #[], none⟩) = some (.complex .f64 a b, H) := by
  have hc : stepA Try.prog cf e H (.gen ⟨none, (.call ⟨.builtin .complex, #[(.tmp 44), (.tmp 46)], #[45, 45]⟩), 40, "", #[], none⟩) = stepA Try.prog cf [(44, .float .f64 a), (46, .float .f64 b)] H (.gen ⟨none, (.call ⟨.builtin .complex, #[(.tmp 44), (.tmp 46)], #[45, 45]⟩), 40, "", #[], none⟩) := stepA_congr fun x hx => by
    simp [AOp.ops, Op.operands, Call.operands] at hx
    rcases hx with rfl | rfl
    · simp only [ev_tmp, eget_cons, if_true]; exact h1
    · simp only [ev_tmp, eget_cons, Nat.reduceEqDiff, if_false, if_true]; exact h2
  exact hc.trans g_cplx0
end Go.Proofs.Ytjigddebmbhbjaa
