/- What is proved here: what the program's functions come to, as far as the claimed statement asks. Conditions: those that each theorem names, and no others. -/
import Derived.Test.YtoijfaglobdceaaNu14
import Derived.Test.YtoijfaglobdceaaSame
import Derived.Test.YtoijfaglobdceaaLonZi
/-! Layer 14: the rules' statement: up to its last calls, run by the kernel. -/
set_option linter.unusedSimpArgs false
set_option linter.unusedVariables false
namespace Go.Proofs.Ytoijfaglobdceaa
open Go Lon
set_option maxRecDepth 100000
theorem c_Nukta2 (H : AHeap) : cw Try.prog (tabF tab) om1 18 [] H = some (.slice (some ⟨H.n, 0, none⟩) 14 15, H.push ⟨N14.flatMap c2, 39, .tip, 0, []⟩) := cw_of 3 (by kernel_rfl)
def isFalse (r : Option (Value × AHeap)) : Bool := match r with
  | some (.bool false, _) => true
  | _ => false
/-- An array is the same as itself: of the nuktas' rows. -/
theorem g_neq0 {cf : CallF} {H : AHeap} : ∀ p ∈ N14, stepA Try.prog cf [(24, .agg ⟨[.int .i64 p.1, .int .i64 p.2]⟩), (25, .agg ⟨[.int .i64 p.1, .int .i64 p.2]⟩)] H (.gen ⟨none, (.binOp .neq 39 (.tmp 24) (.tmp 25) 39), 4, "", #[], none⟩) = some (.bool false, H) := by
  intro p hp
  simp only [N14, List.mem_cons, List.not_mem_nil, or_false] at hp
  rcases hp with rfl | rfl | rfl | rfl | rfl | rfl | rfl | rfl | rfl | rfl | rfl | rfl | rfl | rfl <;> kernel_rfl
theorem g_neq {cf : CallF} {e : Env} {H : AHeap} {p : Int × Int} (hp : p ∈ N14) (h1 : eget e 24 = .agg ⟨[.int .i64 p.1, .int .i64 p.2]⟩) (h2 : eget e 25 = .agg ⟨[.int .i64 p.1, .int .i64 p.2]⟩) : stepA Try.prog cf e H (.gen ⟨none, (.binOp .neq 39 (.tmp 24) (.tmp 25) 39), 4, "", #[], none⟩) = some (.bool false, H) := by
  have hc : stepA Try.prog cf e H (.gen ⟨none, (.binOp .neq 39 (.tmp 24) (.tmp 25) 39), 4, "", #[], none⟩) = stepA Try.prog cf [(24, .agg ⟨[.int .i64 p.1, .int .i64 p.2]⟩), (25, .agg ⟨[.int .i64 p.1, .int .i64 p.2]⟩)] H (.gen ⟨none, (.binOp .neq 39 (.tmp 24) (.tmp 25) 39), 4, "", #[], none⟩) := stepA_congr fun x hx => by
    simp [AOp.ops, Op.operands, Call.operands] at hx
    rcases hx with rfl | rfl
    · simp only [ev_tmp, eget_cons, if_true]; exact h1
    · simp only [ev_tmp, eget_cons, Nat.reduceEqDiff, if_false, if_true]; exact h2
  exact hc.trans (g_neq0 p hp)
def nb (p : Int × Int) : ABlk := ⟨[.int .i64 p.1, .int .i64 p.2], 39, .tip, 1, []⟩
theorem l_Nk {n : Int} {a b : Value} : ∀ (k i : Nat) (H : AHeap), i + k = 14 → Sl H 2 a 14 (N14.flatMap c2) → Sl H 2 b 14 (N14.flatMap c2) →
    Out (run Try.prog (tabF tab) om1 (.loop [0, 3, 14, 15, 16] b_lontarlaw14_IndicRules_0) [(0, .int .u8 n), (3, a), (14, b), (15, .int .i64 14), (16, .int .i64 i)] H) fun y e' H' => y = .exit 0 ∧ eget e' 0 = .int .u8 n ∧ H' = pushAll H ((N14.drop i).map nb) := by
  intro k
  induction k with
  | zero =>
    intro i H hi ha hb
    obtain rfl : i = 14 := by omega
    rw [w_loop_b b_lontarlaw14_IndicRules_0.eq_1]
    simp only [w_draw, dr_cons, dr_some, dr_none, dr_go, calm_no, calm_nil, calm_cons, calmB_some, isCall, freshI, dr_nil, dr_end, still_nil, still_cons, stillB_some, stamp_some, stampV_ptr, stampV_tuple, stampO, still_here, still_here0, List.nil_append, w_out, w_gives, fin_ret, fin_normal, ress_nil, ress_tmp, pack_one, pack_nil, pack_two, entry_nil, entry_one, entry_two, entry_three, entry_four, eq_skip, eq_exit, eq_ret, w_rows, w_done, w_seq, w_normal, w_ret, w_exit, w_cond, w_true, w_false, eq_block, block_normal, block_ret, block_exit, rows_nil, rows_cons, on_some, on_none, row_plain, row_guard, guard_tt, guard_ff, guard_tf, guard_ft, guard_no, ev_tmp, ev_int, ev_bool, ev_string, ev_slice, ev_pointer, ev_map, ev_float, ev_complex, ev_nilIface, ev_nilFunc, ev_func, eget_cons, eget_nil, st_mv, st_pick, v_pick_t, v_pick_f, st_ext, v_ext0, v_ext1, v_ext2, v_ext3, st_int, v_int, int_add, int_sub, int_mul, int_eql, int_neq, int_lss, int_leq, int_gtr, int_geq, st_beq, v_beq, v_bne, st_not, v_not, st_conv, v_conv, st_faddr, v_faddr, st_iaddr, v_iaddr, st_aaddr, v_aaddr, st_nilChk, v_nil, st_len, v_len, v_lenS, st_load, v_load, got_one, got_row, mem_tip, mem_ro, mem_ret, st_alloc, st_box, st_store, v_store, got_store, cells_agg, cells_int, cells_bool, cells_slice, cells_pointer, cells_string, cells_complex, cells_func, one_int, one_bool, one_slice, one_pointer, one_string, one_complex, one_func, upd_push, get_push_self, AHeap.n_push, AHeap.n_upd, st_build, parts_nil, parts_cons, st_bslice, st_append, st_mkfun, st_mkface, st_isNil, st_max, v_max, st_min, v_min, st_field, st_index, st_slice0, v_slice0, v_slice0n, st_slice, kill_nil, st_call, v_call, forget_nil, forget_cons, Option.map_some, Option.map_none, Option.bind_some, List.map_cons, List.map_nil, if_true, if_false, Nat.reduceEqDiff, Int.reduceEq, Nat.reduceAdd, Nat.reduceMul, Bool.not_true, Bool.not_false, reduceCtorEq, decide_true, decide_false, Int.cast_ofNat_Int, eq_self, Int.reduceLT, Int.reduceLE, Int.reduceToNat, Int.toNat_natCast, Int.le_refl, Nat.le_refl, Nat.zero_add, Nat.add_zero, Nat.zero_mul, Nat.mul_one, Nat.mul_zero, and_self, and_true, true_and, List.length_cons, List.length_nil, List.all_cons, List.all_nil, Bool.and_self, Bool.and_true, Bool.true_and, List.take_zero, List.nil_append, List.drop_nil, List.append_nil, List.getElem?_cons_zero, List.getElem?_cons_succ, List.drop_succ_cons, List.drop_zero, List.take_succ_cons, List.cons_append, Nat.reduceLeDiff, Int.lt_irrefl]
    rfl
  | succ k ih =>
    intro i H hi ha hb
    have hlt : (i : Int) < 14 := by omega
    have hlt' : i < N14.length := by show i < 14; omega
    obtain ⟨p, hp, hd⟩ := drop_at hlt'
    have hw2 : IntKind.i64.wrap ((i : Int) + 1) = ((i + 1 : Nat) : Int) := by rw [wrap64 (by omega) (by omega)]; omega
    have hx1 : Ext H (H.push (nb p)) := Ext.push _ _
    obtain ⟨i1, o1, h1, _, h3⟩ := hb.at (show i < 14 by omega)
    obtain ⟨i2, o2, k1, _, k3⟩ := (ha.ext hx1).at (show i < 14 by omega)
    rw [(row_at (f := c2) (s := 2) (fun _ => rfl) hp).1] at h3 k3
    obtain ⟨y, e', H', r1, r2, r3, r4⟩ := ih (i + 1) (H.push (nb p)) (by omega) (ha.ext hx1) (hb.ext hx1)
    have gg : ∀ (cf : CallF) (e : Env) (H : AHeap), eget e 24 = .agg ⟨[.int .i64 p.1, .int .i64 p.2]⟩ → eget e 25 = .agg ⟨[.int .i64 p.1, .int .i64 p.2]⟩ → stepA Try.prog cf e H (.gen ⟨none, (.binOp .neq 39 (.tmp 24) (.tmp 25) 39), 4, "", #[], none⟩) = some (.bool false, H) := fun cf e H x y => g_neq (List.mem_of_getElem? hp) x y
    unfold nb at k3 r1
    simp only [c2] at h3 k3
    rw [w_loop_b b_lontarlaw14_IndicRules_0.eq_1]
    simp only [w_draw, dr_cons, dr_some, dr_none, dr_go, calm_no, calm_nil, calm_cons, calmB_some, isCall, freshI, dr_nil, dr_end, still_nil, still_cons, stillB_some, stamp_some, stampV_ptr, stampV_tuple, stampO, still_here, still_here0, List.nil_append, w_out, w_gives, fin_ret, fin_normal, ress_nil, ress_tmp, pack_one, pack_nil, pack_two, entry_nil, entry_one, entry_two, entry_three, entry_four, eq_skip, eq_exit, eq_ret, w_rows, w_done, w_seq, w_normal, w_ret, w_exit, w_cond, w_true, w_false, eq_block, block_normal, block_ret, block_exit, rows_nil, rows_cons, on_some, on_none, row_plain, row_guard, guard_tt, guard_ff, guard_tf, guard_ft, guard_no, ev_tmp, ev_int, ev_bool, ev_string, ev_slice, ev_pointer, ev_map, ev_float, ev_complex, ev_nilIface, ev_nilFunc, ev_func, eget_cons, eget_nil, st_mv, st_pick, v_pick_t, v_pick_f, st_ext, v_ext0, v_ext1, v_ext2, v_ext3, st_int, v_int, int_add, int_sub, int_mul, int_eql, int_neq, int_lss, int_leq, int_gtr, int_geq, st_beq, v_beq, v_bne, st_not, v_not, st_conv, v_conv, st_faddr, v_faddr, st_iaddr, v_iaddr, st_aaddr, v_aaddr, st_nilChk, v_nil, st_len, v_len, v_lenS, st_load, v_load, got_one, got_row, mem_tip, mem_ro, mem_ret, st_alloc, st_box, st_store, v_store, got_store, cells_agg, cells_int, cells_bool, cells_slice, cells_pointer, cells_string, cells_complex, cells_func, one_int, one_bool, one_slice, one_pointer, one_string, one_complex, one_func, upd_push, get_push_self, AHeap.n_push, AHeap.n_upd, st_build, parts_nil, parts_cons, st_bslice, st_append, st_mkfun, st_mkface, st_isNil, st_max, v_max, st_min, v_min, st_field, st_index, st_slice0, v_slice0, v_slice0n, st_slice, kill_nil, st_call, v_call, forget_nil, forget_cons, Option.map_some, Option.map_none, Option.bind_some, List.map_cons, List.map_nil, if_true, if_false, Nat.reduceEqDiff, Int.reduceEq, Nat.reduceAdd, Nat.reduceMul, Bool.not_true, Bool.not_false, reduceCtorEq, decide_true, decide_false, Int.cast_ofNat_Int, eq_self, Int.reduceLT, Int.reduceLE, Int.reduceToNat, Int.toNat_natCast, Int.le_refl, Nat.le_refl, Nat.zero_add, Nat.add_zero, Nat.zero_mul, Nat.mul_one, Nat.mul_zero, and_self, and_true, true_and, List.length_cons, List.length_nil, List.all_cons, List.all_nil, Bool.and_self, Bool.and_true, Bool.true_and, List.take_zero, List.nil_append, List.drop_nil, List.append_nil, List.getElem?_cons_zero, List.getElem?_cons_succ, List.drop_succ_cons, List.drop_zero, List.take_succ_cons, List.cons_append, Nat.reduceLeDiff, hlt, h1, h3, k1, k3, gg, hw2]
    rw [w_enter]
    simp only [w_draw, dr_cons, dr_some, dr_none, dr_go, calm_no, calm_nil, calm_cons, calmB_some, isCall, freshI, dr_nil, dr_end, still_nil, still_cons, stillB_some, stamp_some, stampV_ptr, stampV_tuple, stampO, still_here, still_here0, List.nil_append, w_out, w_gives, fin_ret, fin_normal, ress_nil, ress_tmp, pack_one, pack_nil, pack_two, entry_nil, entry_one, entry_two, entry_three, entry_four, eq_skip, eq_exit, eq_ret, w_rows, w_done, w_seq, w_normal, w_ret, w_exit, w_cond, w_true, w_false, eq_block, block_normal, block_ret, block_exit, rows_nil, rows_cons, on_some, on_none, row_plain, row_guard, guard_tt, guard_ff, guard_tf, guard_ft, guard_no, ev_tmp, ev_int, ev_bool, ev_string, ev_slice, ev_pointer, ev_map, ev_float, ev_complex, ev_nilIface, ev_nilFunc, ev_func, eget_cons, eget_nil, st_mv, st_pick, v_pick_t, v_pick_f, st_ext, v_ext0, v_ext1, v_ext2, v_ext3, st_int, v_int, int_add, int_sub, int_mul, int_eql, int_neq, int_lss, int_leq, int_gtr, int_geq, st_beq, v_beq, v_bne, st_not, v_not, st_conv, v_conv, st_faddr, v_faddr, st_iaddr, v_iaddr, st_aaddr, v_aaddr, st_nilChk, v_nil, st_len, v_len, v_lenS, st_load, v_load, got_one, got_row, mem_tip, mem_ro, mem_ret, st_alloc, st_box, st_store, v_store, got_store, cells_agg, cells_int, cells_bool, cells_slice, cells_pointer, cells_string, cells_complex, cells_func, one_int, one_bool, one_slice, one_pointer, one_string, one_complex, one_func, upd_push, get_push_self, AHeap.n_push, AHeap.n_upd, st_build, parts_nil, parts_cons, st_bslice, st_append, st_mkfun, st_mkface, st_isNil, st_max, v_max, st_min, v_min, st_field, st_index, st_slice0, v_slice0, v_slice0n, st_slice, kill_nil, st_call, v_call, forget_nil, forget_cons, Option.map_some, Option.map_none, Option.bind_some, List.map_cons, List.map_nil, if_true, if_false, Nat.reduceEqDiff, Int.reduceEq, Nat.reduceAdd, Nat.reduceMul, Bool.not_true, Bool.not_false, reduceCtorEq, decide_true, decide_false, Int.cast_ofNat_Int, eq_self, Int.reduceLT, Int.reduceLE, Int.reduceToNat, Int.toNat_natCast, Int.le_refl, Nat.le_refl, Nat.zero_add, Nat.add_zero, Nat.zero_mul, Nat.mul_one, Nat.mul_zero, and_self, and_true, true_and, List.length_cons, List.length_nil, List.all_cons, List.all_nil, Bool.and_self, Bool.and_true, Bool.true_and, List.take_zero, List.nil_append, List.drop_nil, List.append_nil, List.getElem?_cons_zero, List.getElem?_cons_succ, List.drop_succ_cons, List.drop_zero, List.take_succ_cons, List.cons_append, Nat.reduceLeDiff, r1]
    refine ⟨r2, r3, ?_⟩
    rw [r4, hd, List.map_cons, pushAll_cons]
/-- The heap in which the rules are asked for. -/
noncomputable def HL : AHeap := pushAll (((AHeap.empty.push ⟨N14.flatMap c2, 39, .tip, 0, []⟩).push ⟨N14.flatMap c2, 39, .tip, 0, []⟩).push ⟨N14.flatMap c2, 39, .tip, 0, []⟩) (N14.map nb)
noncomputable def run1 : Option (Value × AHeap) := callB Try.prog (tabB tab) om1 2000 20 [] HL
noncomputable def run2 : Option (Value × Value × AHeap) := run1.bind fun x => (callB Try.prog (tabB tab) om1 2000 21 [] x.2).map fun y => (x.1, y.1, y.2)
theorem k_both : (run2.map fun t => rulesB t.2.2 t.1 R14 && rulesB t.2.2 t.2.1 R14) = some true := by kernel_rfl
theorem k_len : (run2.bind fun t => (callB Try.prog (tabB tab) om1 2000 20 [] t.2.2).map fun u => Nat.beq (lenB' u.1) 240) = some true := by kernel_rfl
end Go.Proofs.Ytoijfaglobdceaa
