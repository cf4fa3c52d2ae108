/- What is proved here: what the program's functions come to, as far as the claimed statement asks. Conditions: those that each theorem names, and no others. -/
import Derived.Test.YtoijfaglobdceaaCodesA
import Derived.Test.YtoijfaglobdceaaLonZf
/-! Layer 14: what is known of the calls. -/
set_option linter.unusedSimpArgs false
set_option linter.unusedVariables false
namespace Go.Proofs.Ytoijfaglobdceaa
open Go Lon
set_option maxRecDepth 100000
def tab : List (FuncId × AFunc) := [(3, F_lontarlaw14_IndicPlace), (4, F_lontarlaw14_IndicOf), (5, F_lontarlaw14_IndicCode), (6, F_lontarlaw14_IndicRules), (7, F_lontarlaw14_IndicScalar), (8, F_lontarlaw14_IndicNukta), (9, F_lontarlaw14_IndicRight), (10, F_lontarlaw14_awake), (11, F_indic_Place), (12, F_lontarlaw14_Place), (13, F_indic_Of), (14, F_indic_Scalar), (15, F_indic_Code), (16, F_lontarlaw14_Codes), (17, F_indic_Nukta), (18, F_lontarlaw14_Nukta), (19, F_lontarlaw03_Same), (20, F_indic_Rules), (21, F_lontarlaw14_Rules), (22, F_rule_Find), (23, F_rule_Check), (24, F_rule_Turn), (25, F_indic_places), (26, F_indic_code), (27, F_lontarlaw01_Units), (28, F_lontarlaw14_Rules_1), (29, F_api_Rule_), (30, F_rule_Find_1), (31, F_slices_Equal___int_int_), (32, F_rule_side), (33, F_slices_Clone___int_int_), (34, F_slices_ContainsFunc___int_int_), (35, F_rule_side_1), (36, F_slices_IndexFunc___int_int_)]
theorem gok : ∀ g F, tabF tab g = some F → FOK Try.prog g F := tabF_ok (tab_cons ok_lontarlaw14_IndicPlace (tab_cons ok_lontarlaw14_IndicOf (tab_cons ok_lontarlaw14_IndicCode (tab_cons ok_lontarlaw14_IndicRules (tab_cons ok_lontarlaw14_IndicScalar (tab_cons ok_lontarlaw14_IndicNukta (tab_cons ok_lontarlaw14_IndicRight (tab_cons ok_lontarlaw14_awake (tab_cons ok_indic_Place (tab_cons ok_lontarlaw14_Place (tab_cons ok_indic_Of (tab_cons ok_indic_Scalar (tab_cons ok_indic_Code (tab_cons ok_lontarlaw14_Codes (tab_cons ok_indic_Nukta (tab_cons ok_lontarlaw14_Nukta (tab_cons ok_lontarlaw03_Same (tab_cons ok_indic_Rules (tab_cons ok_lontarlaw14_Rules (tab_cons ok_rule_Find (tab_cons ok_rule_Check (tab_cons ok_rule_Turn (tab_cons ok_indic_places (tab_cons ok_indic_code (tab_cons ok_lontarlaw01_Units (tab_cons ok_lontarlaw14_Rules_1 (tab_cons ok_api_Rule_ (tab_cons ok_rule_Find_1 (tab_cons ok_slices_Equal___int_int_ (tab_cons ok_rule_side (tab_cons ok_slices_Clone___int_int_ (tab_cons ok_slices_ContainsFunc___int_int_ (tab_cons ok_rule_side_1 (tab_cons ok_slices_IndexFunc___int_int_ (tab_nil)))))))))))))))))))))))))))))))))))
def om : CallF := fun _ _ _ => none
theorem omok0 {base : Nat} : ∀ g args H v H', om g args H = some (v, H') → Sim Try.prog base g args H v H' := fun _ _ _ _ _ h => by cases h
theorem simT {base : Nat} {g : FuncId} {args : List Value} {H H' : AHeap} {v : Value} (h : cw Try.prog (tabF tab) om g args H = some (v, H')) : Sim Try.prog base g args H v H' := cw_sound (by kernel_rfl) gok omok0 h
def low14 : List Int := [0x01, 0x02, 0x03, 0x05, 0x06, 0x07, 0x08, 0x09, 0x0a, 0x0b, 0x0e, 0x0f, 0x10, 0x0d, 0x12, 0x13, 0x14, 0x11, 0x15, 0x16, 0x17, 0x18, 0x19, 0x1a, 0x1b, 0x1c, 0x1d, 0x1e, 0x1f, 0x20, 0x21, 0x22, 0x23, 0x24, 0x25, 0x26, 0x27, 0x28, 0x29, 0x2a, 0x2b, 0x2c, 0x2d, 0x2e, 0x2f, 0x5f, 0x30, 0x31, 0x32, 0x33, 0x34, 0x35, 0x36, 0x37, 0x38, 0x39]
def high14 : List Int := [0x3e, 0x3f, 0x40, 0x41, 0x42, 0x43, 0x46, 0x47, 0x48, 0x45, 0x4a, 0x4b, 0x4c, 0x49, 0x4d, 0x3c]
/-- The bytes' places, from the first byte on. -/
def plT : List (Int × Bool) := List.replicate 161 (0, false) ++ (low14.map fun n => (n, true)) ++ [(0, false)] ++ (high14.map fun n => (n, true)) ++ List.replicate 7 (0, false) ++ [(102, true), (103, true), (104, true), (105, true), (106, true), (107, true), (108, true), (109, true), (110, true), (111, true), (0, false), (0, false), (0, false), (0, false), (0, false)]
def plV (p : Int × Bool) : List Value := [.int .i64 p.1, .bool p.2]
def pl (c : Int) : Int × Bool := plT.getD c.toNat (0, false)
def isPl (r : Option (Value × AHeap)) (p : Int × Bool) : Bool := match r with
  | some (.tuple ⟨[.int .i64 n, .bool b]⟩, _) => n == p.1 && b == p.2
  | _ => false
theorem isPl_spec {r : Option (Value × AHeap)} {p : Int × Bool} (h : isPl r p = true) : ∃ H, r = some (.tuple ⟨plV p⟩, H) := by
  unfold isPl at h
  split at h
  · rename_i n b H
    simp only [Bool.and_eq_true, beq_iff_eq] at h
    obtain ⟨rfl, rfl⟩ := h
    exact ⟨H, rfl⟩
  · cases h
theorem pl_all1 : ((List.range 256).all fun c => isPl (callB Try.prog (tabB tab) om 10 11 [.int .u8 c] AHeap.empty) (plT.getD c (0, false))) = true := by kernel_rfl
theorem pl_all2 : ((List.range 256).all fun c => isPl (callB Try.prog (tabB tab) om 10 12 [.int .u8 c] AHeap.empty) (plT.getD c (0, false))) = true := by kernel_rfl
theorem c_Place {c : Int} (hc : 0 ≤ c ∧ c < 256) : ∃ H', cw Try.prog (tabF tab) om 11 [.int .u8 c] AHeap.empty = some (.tuple ⟨plV (pl c)⟩, H') := by
  obtain ⟨j, rfl⟩ : ∃ j : Nat, c = j := ⟨c.toNat, by omega⟩
  obtain ⟨H', h⟩ := isPl_spec (List.all_eq_true.mp pl_all1 j (List.mem_range.mpr (by omega)))
  exact ⟨H', cw_ofT 10 h⟩
theorem c_Place2 {c : Int} (hc : 0 ≤ c ∧ c < 256) : ∃ H', cw Try.prog (tabF tab) om 12 [.int .u8 c] AHeap.empty = some (.tuple ⟨plV (pl c)⟩, H') := by
  obtain ⟨j, rfl⟩ : ∃ j : Nat, c = j := ⟨c.toNat, by omega⟩
  obtain ⟨H', h⟩ := isPl_spec (List.all_eq_true.mp pl_all2 j (List.mem_range.mpr (by omega)))
  exact ⟨H', cw_ofT 10 h⟩
def plO (c : Int) (H : AHeap) : Option (Value × AHeap) := match c with
  | .ofNat n => cond (Nat.blt n 256) (some (.tuple ⟨plV (plT.getD n (0, false))⟩, H)) none
  | _ => none
theorem plO_spec {c : Int} {H : AHeap} {r : Value × AHeap} (h : plO c H = some r) : (0 ≤ c ∧ c < 256) ∧ r = (.tuple ⟨plV (pl c)⟩, H) := by
  unfold plO at h
  split at h
  · rename_i n
    cases hb : Nat.blt n 256 with
    | false => rw [hb] at h; cases h
    | true =>
      rw [hb] at h
      injection h with h
      have : n < 256 := by simpa [Nat.blt_eq] using hb
      exact ⟨⟨by simp, by simp; omega⟩, h.symm⟩
  · cases h
theorem plO_of {c : Int} (hc : 0 ≤ c ∧ c < 256) (H : AHeap) : plO c H = some (.tuple ⟨plV (pl c)⟩, H) := by
  obtain ⟨j, rfl⟩ : ∃ j : Nat, c = j := ⟨c.toNat, by omega⟩
  have : Nat.blt j 256 = true := by simp [Nat.blt_eq]; omega
  show cond (Nat.blt j 256) _ _ = _
  rw [this]; rfl
def omP : CallF := fun g args H => match g, args with
  | 11, [.int .u8 c] => plO c H
  | 12, [.int .u8 c] => plO c H
  | _, _ => none
theorem pl_flat (p : Int × Bool) : flat (.tuple ⟨plV p⟩) = true := rfl
theorem omokP {base : Nat} : ∀ g args H v H', omP g args H = some (v, H') → Sim Try.prog base g args H v H' := by
  intro g args H v H' h
  unfold omP at h
  split at h
  · obtain ⟨hc, h2⟩ := plO_spec h
    injection h2 with h2 h3
    subst h2 h3
    obtain ⟨H1, r⟩ := c_Place hc
    exact sim_closed (fun base => simT r) rfl (pl_flat _) base _
  · obtain ⟨hc, h2⟩ := plO_spec h
    injection h2 with h2 h3
    subst h2 h3
    obtain ⟨H1, r⟩ := c_Place2 hc
    exact sim_closed (fun base => simT r) rfl (pl_flat _) base _
  · cases h
theorem simP {base : Nat} {g : FuncId} {args : List Value} {H H' : AHeap} {v : Value} (h : cw Try.prog (tabF tab) omP g args H = some (v, H')) : Sim Try.prog base g args H v H' := cw_sound (by kernel_rfl) gok omokP h
end Go.Proofs.Ytoijfaglobdceaa
