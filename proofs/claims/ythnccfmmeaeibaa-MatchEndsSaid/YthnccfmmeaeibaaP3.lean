/- What is proved here: what the program's functions come to, as far as the claimed statement asks. Conditions: those that each theorem names, and no others. -/
import Derived.Test.YthnccfmmeaeibaaP1
import Derived.Test.YthnccfmmeaeibaaP2
import Derived.Test.YthnccfmmeaeibaaLonZi
/-! The statements' own 'find' and 'may'. -/
set_option linter.unusedSimpArgs false
set_option linter.unusedVariables false
namespace Go.Proofs.Ythnccfmmeaeibaa
open Go Lon
theorem l_find {a b : Value} {L : List Rl} {x : List Int} : ∀ (k i : Nat) (H : AHeap), i + k = L.length → Rules H a L → Ints H b x →
    Out (run Try.prog (tabF tab) om1 (.loop [1, 7, 8, 9] b_lontarlaw03_find_0) [(1, b), (7, a), (8, .int .i64 L.length), (9, .int .i64 i)] H) fun y e' H' => Ext H H' ∧
      match fdx x (L.drop i) i with | some j => y = .ret ∧ eget e' 4 = .int .i64 j | none => y = .exit 0 := by
  intro k
  induction k with
  | zero =>
    intro i H hi ha hb
    have hlt : ¬ ((i : Int) < L.length) := by omega
    rw [w_loop_b b_lontarlaw03_find_0.eq_1, List.drop_of_length_le (by omega)]
    simp only [w_draw, dr_cons, dr_some, dr_none, dr_go, still_no, still_yes, next_no, next_yes, last_cons, last_nil, isStore, calm_no, calm_nil, calm_cons, calmB_some, isCall, freshI, dr_nil, dr_end, still_nil, still_cons, stillB_some, stamp_some, stampV_ptr, stampV_tuple, stampO, still_here, still_here0, List.nil_append, w_out, w_gives, fin_ret, fin_normal, ress_nil, ress_tmp, pack_one, pack_nil, pack_two, entry_nil, entry_one, entry_two, entry_three, entry_four, eq_skip, eq_exit, eq_ret, w_rows, w_done, w_seq, w_normal, w_ret, w_exit, w_cond, w_true, w_false, eq_block, block_normal, block_ret, block_exit, rows_nil, rows_cons, on_some, on_none, row_plain, row_guard, guard_tt, guard_ff, guard_tf, guard_ft, guard_no, ev_tmp, ev_int, ev_bool, ev_string, ev_slice, ev_pointer, ev_map, ev_float, ev_complex, ev_nilIface, ev_nilFunc, ev_func, eget_cons, eget_nil, st_mv, st_pick, v_pick_t, v_pick_f, st_ext, v_ext0, v_ext1, v_ext2, v_ext3, st_int, v_int, int_add, int_sub, int_mul, int_eql, int_neq, int_lss, int_leq, int_gtr, int_geq, st_beq, v_beq, v_bne, st_not, v_not, st_conv, v_conv, st_faddr, v_faddr, st_iaddr, v_iaddr, st_aaddr, v_aaddr, st_nilChk, v_nil, st_len, v_len, v_lenS, st_load, v_load, got_one, got_row, mem_tip, mem_ro, mem_ret, st_alloc, st_box, st_store, v_store, got_store, cells_agg, cells_int, cells_bool, cells_slice, cells_pointer, cells_string, cells_complex, cells_func, one_int, one_bool, one_slice, one_pointer, one_string, one_complex, one_func, upd_push, get_push_self, AHeap.n_push, AHeap.n_upd, st_build, parts_nil, parts_cons, st_bslice, st_append, st_mkfun, st_mkface, st_isNil, st_max, v_max, st_min, v_min, st_field, st_index, st_slice0, v_slice0, v_slice0n, st_slice, kill_nil, st_call, v_call, forget_nil, forget_cons, Option.map_some, Option.map_none, Option.bind_some, List.map_cons, List.map_nil, if_true, if_false, Nat.reduceEqDiff, Int.reduceEq, Nat.reduceAdd, Nat.reduceMul, Bool.not_true, Bool.not_false, reduceCtorEq, decide_true, decide_false, Int.cast_ofNat_Int, eq_self, Int.reduceLT, Int.reduceLE, Int.reduceToNat, Int.toNat_natCast, Int.le_refl, Nat.le_refl, Nat.zero_add, Nat.add_zero, Nat.zero_mul, Nat.mul_one, Nat.mul_zero, and_self, and_true, true_and, List.length_cons, List.length_nil, List.all_cons, List.all_nil, Bool.and_self, Bool.and_true, Bool.true_and, List.take_zero, List.nil_append, List.drop_nil, List.append_nil, List.getElem?_cons_zero, List.getElem?_cons_succ, List.drop_succ_cons, List.drop_zero, List.take_succ_cons, List.cons_append, Nat.reduceLeDiff, hlt, fdx]
    exact Ext.refl _
  | succ k ih =>
    intro i H hi ha hb
    have hL := ha.1
    have hlt : (i : Int) < L.length := by omega
    obtain ⟨r, hr, hdr⟩ := drop_at (L := L) (i := i) (by omega)
    obtain ⟨i1, o1, vi, vo, h1, h2, h3, h4, h5, h6, h7, h8⟩ := ha.at hr
    have h5' := h5
    have h6' := h6
    obtain ⟨⟨ai, ci, rfl⟩, _⟩ := h5'
    obtain ⟨⟨ao, co, rfl⟩, _⟩ := h6'
    have hx1 := Ext.push H ⟨[.slice ai r.1.length ci, .slice ao r.2.length co], 51, .tip, 1, []⟩
    have c := c_Units (h5.ext hx1) (hb.ext hx1) h7
    have hw2 : IntKind.i64.wrap ((i : Int) + 1) = ((i + 1 : Nat) : Int) := by rw [wrap64 (by omega) (by omega)]; omega
    rw [w_loop_b b_lontarlaw03_find_0.eq_1, hdr]
    unfold fdx
    by_cases he : r.1 = x
    · simp only [he] at c
      have c' := c_Units (h5.ext hx1) (hb.ext hx1) h7
      have ht : decide (r.1 = x) = true := decide_eq_true he
      rw [ht] at c'
      simp only [w_draw, dr_cons, dr_some, dr_none, dr_go, still_no, still_yes, next_no, next_yes, last_cons, last_nil, isStore, calm_no, calm_nil, calm_cons, calmB_some, isCall, freshI, dr_nil, dr_end, still_nil, still_cons, stillB_some, stamp_some, stampV_ptr, stampV_tuple, stampO, still_here, still_here0, List.nil_append, w_out, w_gives, fin_ret, fin_normal, ress_nil, ress_tmp, pack_one, pack_nil, pack_two, entry_nil, entry_one, entry_two, entry_three, entry_four, eq_skip, eq_exit, eq_ret, w_rows, w_done, w_seq, w_normal, w_ret, w_exit, w_cond, w_true, w_false, eq_block, block_normal, block_ret, block_exit, rows_nil, rows_cons, on_some, on_none, row_plain, row_guard, guard_tt, guard_ff, guard_tf, guard_ft, guard_no, ev_tmp, ev_int, ev_bool, ev_string, ev_slice, ev_pointer, ev_map, ev_float, ev_complex, ev_nilIface, ev_nilFunc, ev_func, eget_cons, eget_nil, st_mv, st_pick, v_pick_t, v_pick_f, st_ext, v_ext0, v_ext1, v_ext2, v_ext3, st_int, v_int, int_add, int_sub, int_mul, int_eql, int_neq, int_lss, int_leq, int_gtr, int_geq, st_beq, v_beq, v_bne, st_not, v_not, st_conv, v_conv, st_faddr, v_faddr, st_iaddr, v_iaddr, st_aaddr, v_aaddr, st_nilChk, v_nil, st_len, v_len, v_lenS, st_load, v_load, got_one, got_row, mem_tip, mem_ro, mem_ret, st_alloc, st_box, st_store, v_store, got_store, cells_agg, cells_int, cells_bool, cells_slice, cells_pointer, cells_string, cells_complex, cells_func, one_int, one_bool, one_slice, one_pointer, one_string, one_complex, one_func, upd_push, get_push_self, AHeap.n_push, AHeap.n_upd, st_build, parts_nil, parts_cons, st_bslice, st_append, st_mkfun, st_mkface, st_isNil, st_max, v_max, st_min, v_min, st_field, st_index, st_slice0, v_slice0, v_slice0n, st_slice, kill_nil, st_call, v_call, forget_nil, forget_cons, Option.map_some, Option.map_none, Option.bind_some, List.map_cons, List.map_nil, if_true, if_false, Nat.reduceEqDiff, Int.reduceEq, Nat.reduceAdd, Nat.reduceMul, Bool.not_true, Bool.not_false, reduceCtorEq, decide_true, decide_false, Int.cast_ofNat_Int, eq_self, Int.reduceLT, Int.reduceLE, Int.reduceToNat, Int.toNat_natCast, Int.le_refl, Nat.le_refl, Nat.zero_add, Nat.add_zero, Nat.zero_mul, Nat.mul_one, Nat.mul_zero, and_self, and_true, true_and, List.length_cons, List.length_nil, List.all_cons, List.all_nil, Bool.and_self, Bool.and_true, Bool.true_and, List.take_zero, List.nil_append, List.drop_nil, List.append_nil, List.getElem?_cons_zero, List.getElem?_cons_succ, List.drop_succ_cons, List.drop_zero, List.take_succ_cons, List.cons_append, Nat.reduceLeDiff, hlt, h1, h4, c', if_pos he]
      exact hx1
    · obtain ⟨z, e', H', r1, r2, r3⟩ := ih (i + 1) _ (by omega) (ha.ext hx1) (hb.ext hx1)
      have ht : decide (r.1 = x) = false := decide_eq_false he
      rw [ht] at c
      simp only [w_draw, dr_cons, dr_some, dr_none, dr_go, still_no, still_yes, next_no, next_yes, last_cons, last_nil, isStore, calm_no, calm_nil, calm_cons, calmB_some, isCall, freshI, dr_nil, dr_end, still_nil, still_cons, stillB_some, stamp_some, stampV_ptr, stampV_tuple, stampO, still_here, still_here0, List.nil_append, w_out, w_gives, fin_ret, fin_normal, ress_nil, ress_tmp, pack_one, pack_nil, pack_two, entry_nil, entry_one, entry_two, entry_three, entry_four, eq_skip, eq_exit, eq_ret, w_rows, w_done, w_seq, w_normal, w_ret, w_exit, w_cond, w_true, w_false, eq_block, block_normal, block_ret, block_exit, rows_nil, rows_cons, on_some, on_none, row_plain, row_guard, guard_tt, guard_ff, guard_tf, guard_ft, guard_no, ev_tmp, ev_int, ev_bool, ev_string, ev_slice, ev_pointer, ev_map, ev_float, ev_complex, ev_nilIface, ev_nilFunc, ev_func, eget_cons, eget_nil, st_mv, st_pick, v_pick_t, v_pick_f, st_ext, v_ext0, v_ext1, v_ext2, v_ext3, st_int, v_int, int_add, int_sub, int_mul, int_eql, int_neq, int_lss, int_leq, int_gtr, int_geq, st_beq, v_beq, v_bne, st_not, v_not, st_conv, v_conv, st_faddr, v_faddr, st_iaddr, v_iaddr, st_aaddr, v_aaddr, st_nilChk, v_nil, st_len, v_len, v_lenS, st_load, v_load, got_one, got_row, mem_tip, mem_ro, mem_ret, st_alloc, st_box, st_store, v_store, got_store, cells_agg, cells_int, cells_bool, cells_slice, cells_pointer, cells_string, cells_complex, cells_func, one_int, one_bool, one_slice, one_pointer, one_string, one_complex, one_func, upd_push, get_push_self, AHeap.n_push, AHeap.n_upd, st_build, parts_nil, parts_cons, st_bslice, st_append, st_mkfun, st_mkface, st_isNil, st_max, v_max, st_min, v_min, st_field, st_index, st_slice0, v_slice0, v_slice0n, st_slice, kill_nil, st_call, v_call, forget_nil, forget_cons, Option.map_some, Option.map_none, Option.bind_some, List.map_cons, List.map_nil, if_true, if_false, Nat.reduceEqDiff, Int.reduceEq, Nat.reduceAdd, Nat.reduceMul, Bool.not_true, Bool.not_false, reduceCtorEq, decide_true, decide_false, Int.cast_ofNat_Int, eq_self, Int.reduceLT, Int.reduceLE, Int.reduceToNat, Int.toNat_natCast, Int.le_refl, Nat.le_refl, Nat.zero_add, Nat.add_zero, Nat.zero_mul, Nat.mul_one, Nat.mul_zero, and_self, and_true, true_and, List.length_cons, List.length_nil, List.all_cons, List.all_nil, Bool.and_self, Bool.and_true, Bool.true_and, List.take_zero, List.nil_append, List.drop_nil, List.append_nil, List.getElem?_cons_zero, List.getElem?_cons_succ, List.drop_succ_cons, List.drop_zero, List.take_succ_cons, List.cons_append, Nat.reduceLeDiff, hlt, h1, h4, c, if_neg he, hw2]
      rw [w_enter]
      simp only [w_draw, dr_cons, dr_some, dr_none, dr_go, still_no, still_yes, next_no, next_yes, last_cons, last_nil, isStore, calm_no, calm_nil, calm_cons, calmB_some, isCall, freshI, dr_nil, dr_end, still_nil, still_cons, stillB_some, stamp_some, stampV_ptr, stampV_tuple, stampO, still_here, still_here0, List.nil_append, w_out, w_gives, fin_ret, fin_normal, ress_nil, ress_tmp, pack_one, pack_nil, pack_two, entry_nil, entry_one, entry_two, entry_three, entry_four, eq_skip, eq_exit, eq_ret, w_rows, w_done, w_seq, w_normal, w_ret, w_exit, w_cond, w_true, w_false, eq_block, block_normal, block_ret, block_exit, rows_nil, rows_cons, on_some, on_none, row_plain, row_guard, guard_tt, guard_ff, guard_tf, guard_ft, guard_no, ev_tmp, ev_int, ev_bool, ev_string, ev_slice, ev_pointer, ev_map, ev_float, ev_complex, ev_nilIface, ev_nilFunc, ev_func, eget_cons, eget_nil, st_mv, st_pick, v_pick_t, v_pick_f, st_ext, v_ext0, v_ext1, v_ext2, v_ext3, st_int, v_int, int_add, int_sub, int_mul, int_eql, int_neq, int_lss, int_leq, int_gtr, int_geq, st_beq, v_beq, v_bne, st_not, v_not, st_conv, v_conv, st_faddr, v_faddr, st_iaddr, v_iaddr, st_aaddr, v_aaddr, st_nilChk, v_nil, st_len, v_len, v_lenS, st_load, v_load, got_one, got_row, mem_tip, mem_ro, mem_ret, st_alloc, st_box, st_store, v_store, got_store, cells_agg, cells_int, cells_bool, cells_slice, cells_pointer, cells_string, cells_complex, cells_func, one_int, one_bool, one_slice, one_pointer, one_string, one_complex, one_func, upd_push, get_push_self, AHeap.n_push, AHeap.n_upd, st_build, parts_nil, parts_cons, st_bslice, st_append, st_mkfun, st_mkface, st_isNil, st_max, v_max, st_min, v_min, st_field, st_index, st_slice0, v_slice0, v_slice0n, st_slice, kill_nil, st_call, v_call, forget_nil, forget_cons, Option.map_some, Option.map_none, Option.bind_some, List.map_cons, List.map_nil, if_true, if_false, Nat.reduceEqDiff, Int.reduceEq, Nat.reduceAdd, Nat.reduceMul, Bool.not_true, Bool.not_false, reduceCtorEq, decide_true, decide_false, Int.cast_ofNat_Int, eq_self, Int.reduceLT, Int.reduceLE, Int.reduceToNat, Int.toNat_natCast, Int.le_refl, Nat.le_refl, Nat.zero_add, Nat.add_zero, Nat.zero_mul, Nat.mul_one, Nat.mul_zero, and_self, and_true, true_and, List.length_cons, List.length_nil, List.all_cons, List.all_nil, Bool.and_self, Bool.and_true, Bool.true_and, List.take_zero, List.nil_append, List.drop_nil, List.append_nil, List.getElem?_cons_zero, List.getElem?_cons_succ, List.drop_succ_cons, List.drop_zero, List.take_succ_cons, List.cons_append, Nat.reduceLeDiff, r1]
      exact ⟨hx1.trans r2, r3⟩
theorem c_find {a b : Value} {L : List Rl} {x : List Int} {H : AHeap} (ha : Rules H a L) (hb : Ints H b x) : Gives (cw Try.prog (tabF tab) om1 34 [a, b] H) fun v H' => Ext H H' ∧ v = .int .i64 (fnd L x) := by
  rw [cw_run (F := F_lontarlaw03_find) rfl rfl rfl]
  unfold F_lontarlaw03_find k_lontarlaw03_find
  obtain ⟨y, e', H', r1, r2, r3⟩ := l_find L.length 0 H (by omega) ha hb
  simp only [Int.cast_ofNat_Int] at r1
  simp only [w_draw, dr_cons, dr_some, dr_none, dr_go, still_no, still_yes, next_no, next_yes, last_cons, last_nil, isStore, calm_no, calm_nil, calm_cons, calmB_some, isCall, freshI, dr_nil, dr_end, still_nil, still_cons, stillB_some, stamp_some, stampV_ptr, stampV_tuple, stampO, still_here, still_here0, List.nil_append, w_out, w_gives, fin_ret, fin_normal, ress_nil, ress_tmp, pack_one, pack_nil, pack_two, entry_nil, entry_one, entry_two, entry_three, entry_four, eq_skip, eq_exit, eq_ret, w_rows, w_done, w_seq, w_normal, w_ret, w_exit, w_cond, w_true, w_false, eq_block, block_normal, block_ret, block_exit, rows_nil, rows_cons, on_some, on_none, row_plain, row_guard, guard_tt, guard_ff, guard_tf, guard_ft, guard_no, ev_tmp, ev_int, ev_bool, ev_string, ev_slice, ev_pointer, ev_map, ev_float, ev_complex, ev_nilIface, ev_nilFunc, ev_func, eget_cons, eget_nil, st_mv, st_pick, v_pick_t, v_pick_f, st_ext, v_ext0, v_ext1, v_ext2, v_ext3, st_int, v_int, int_add, int_sub, int_mul, int_eql, int_neq, int_lss, int_leq, int_gtr, int_geq, st_beq, v_beq, v_bne, st_not, v_not, st_conv, v_conv, st_faddr, v_faddr, st_iaddr, v_iaddr, st_aaddr, v_aaddr, st_nilChk, v_nil, st_len, v_len, v_lenS, st_load, v_load, got_one, got_row, mem_tip, mem_ro, mem_ret, st_alloc, st_box, st_store, v_store, got_store, cells_agg, cells_int, cells_bool, cells_slice, cells_pointer, cells_string, cells_complex, cells_func, one_int, one_bool, one_slice, one_pointer, one_string, one_complex, one_func, upd_push, get_push_self, AHeap.n_push, AHeap.n_upd, st_build, parts_nil, parts_cons, st_bslice, st_append, st_mkfun, st_mkface, st_isNil, st_max, v_max, st_min, v_min, st_field, st_index, st_slice0, v_slice0, v_slice0n, st_slice, kill_nil, st_call, v_call, forget_nil, forget_cons, Option.map_some, Option.map_none, Option.bind_some, List.map_cons, List.map_nil, if_true, if_false, Nat.reduceEqDiff, Int.reduceEq, Nat.reduceAdd, Nat.reduceMul, Bool.not_true, Bool.not_false, reduceCtorEq, decide_true, decide_false, Int.cast_ofNat_Int, eq_self, Int.reduceLT, Int.reduceLE, Int.reduceToNat, Int.toNat_natCast, Int.le_refl, Nat.le_refl, Nat.zero_add, Nat.add_zero, Nat.zero_mul, Nat.mul_one, Nat.mul_zero, and_self, and_true, true_and, List.length_cons, List.length_nil, List.all_cons, List.all_nil, Bool.and_self, Bool.and_true, Bool.true_and, List.take_zero, List.nil_append, List.drop_nil, List.append_nil, List.getElem?_cons_zero, List.getElem?_cons_succ, List.drop_succ_cons, List.drop_zero, List.take_succ_cons, List.cons_append, Nat.reduceLeDiff, ha.len]
  rw [w_enter]
  simp only [w_draw, dr_cons, dr_some, dr_none, dr_go, still_no, still_yes, next_no, next_yes, last_cons, last_nil, isStore, calm_no, calm_nil, calm_cons, calmB_some, isCall, freshI, dr_nil, dr_end, still_nil, still_cons, stillB_some, stamp_some, stampV_ptr, stampV_tuple, stampO, still_here, still_here0, List.nil_append, w_out, w_gives, fin_ret, fin_normal, ress_nil, ress_tmp, pack_one, pack_nil, pack_two, entry_nil, entry_one, entry_two, entry_three, entry_four, eq_skip, eq_exit, eq_ret, w_rows, w_done, w_seq, w_normal, w_ret, w_exit, w_cond, w_true, w_false, eq_block, block_normal, block_ret, block_exit, rows_nil, rows_cons, on_some, on_none, row_plain, row_guard, guard_tt, guard_ff, guard_tf, guard_ft, guard_no, ev_tmp, ev_int, ev_bool, ev_string, ev_slice, ev_pointer, ev_map, ev_float, ev_complex, ev_nilIface, ev_nilFunc, ev_func, eget_cons, eget_nil, st_mv, st_pick, v_pick_t, v_pick_f, st_ext, v_ext0, v_ext1, v_ext2, v_ext3, st_int, v_int, int_add, int_sub, int_mul, int_eql, int_neq, int_lss, int_leq, int_gtr, int_geq, st_beq, v_beq, v_bne, st_not, v_not, st_conv, v_conv, st_faddr, v_faddr, st_iaddr, v_iaddr, st_aaddr, v_aaddr, st_nilChk, v_nil, st_len, v_len, v_lenS, st_load, v_load, got_one, got_row, mem_tip, mem_ro, mem_ret, st_alloc, st_box, st_store, v_store, got_store, cells_agg, cells_int, cells_bool, cells_slice, cells_pointer, cells_string, cells_complex, cells_func, one_int, one_bool, one_slice, one_pointer, one_string, one_complex, one_func, upd_push, get_push_self, AHeap.n_push, AHeap.n_upd, st_build, parts_nil, parts_cons, st_bslice, st_append, st_mkfun, st_mkface, st_isNil, st_max, v_max, st_min, v_min, st_field, st_index, st_slice0, v_slice0, v_slice0n, st_slice, kill_nil, st_call, v_call, forget_nil, forget_cons, Option.map_some, Option.map_none, Option.bind_some, List.map_cons, List.map_nil, if_true, if_false, Nat.reduceEqDiff, Int.reduceEq, Nat.reduceAdd, Nat.reduceMul, Bool.not_true, Bool.not_false, reduceCtorEq, decide_true, decide_false, Int.cast_ofNat_Int, eq_self, Int.reduceLT, Int.reduceLE, Int.reduceToNat, Int.toNat_natCast, Int.le_refl, Nat.le_refl, Nat.zero_add, Nat.add_zero, Nat.zero_mul, Nat.mul_one, Nat.mul_zero, and_self, and_true, true_and, List.length_cons, List.length_nil, List.all_cons, List.all_nil, Bool.and_self, Bool.and_true, Bool.true_and, List.take_zero, List.nil_append, List.drop_nil, List.append_nil, List.getElem?_cons_zero, List.getElem?_cons_succ, List.drop_succ_cons, List.drop_zero, List.take_succ_cons, List.cons_append, Nat.reduceLeDiff, r1]
  rw [List.drop_zero] at r3
  unfold fnd
  cases hf : fdx x L 0 with
  | none =>
    rw [hf] at r3
    subst r3
    simp only [w_draw, dr_cons, dr_some, dr_none, dr_go, still_no, still_yes, next_no, next_yes, last_cons, last_nil, isStore, calm_no, calm_nil, calm_cons, calmB_some, isCall, freshI, dr_nil, dr_end, still_nil, still_cons, stillB_some, stamp_some, stampV_ptr, stampV_tuple, stampO, still_here, still_here0, List.nil_append, w_out, w_gives, fin_ret, fin_normal, ress_nil, ress_tmp, pack_one, pack_nil, pack_two, entry_nil, entry_one, entry_two, entry_three, entry_four, eq_skip, eq_exit, eq_ret, w_rows, w_done, w_seq, w_normal, w_ret, w_exit, w_cond, w_true, w_false, eq_block, block_normal, block_ret, block_exit, rows_nil, rows_cons, on_some, on_none, row_plain, row_guard, guard_tt, guard_ff, guard_tf, guard_ft, guard_no, ev_tmp, ev_int, ev_bool, ev_string, ev_slice, ev_pointer, ev_map, ev_float, ev_complex, ev_nilIface, ev_nilFunc, ev_func, eget_cons, eget_nil, st_mv, st_pick, v_pick_t, v_pick_f, st_ext, v_ext0, v_ext1, v_ext2, v_ext3, st_int, v_int, int_add, int_sub, int_mul, int_eql, int_neq, int_lss, int_leq, int_gtr, int_geq, st_beq, v_beq, v_bne, st_not, v_not, st_conv, v_conv, st_faddr, v_faddr, st_iaddr, v_iaddr, st_aaddr, v_aaddr, st_nilChk, v_nil, st_len, v_len, v_lenS, st_load, v_load, got_one, got_row, mem_tip, mem_ro, mem_ret, st_alloc, st_box, st_store, v_store, got_store, cells_agg, cells_int, cells_bool, cells_slice, cells_pointer, cells_string, cells_complex, cells_func, one_int, one_bool, one_slice, one_pointer, one_string, one_complex, one_func, upd_push, get_push_self, AHeap.n_push, AHeap.n_upd, st_build, parts_nil, parts_cons, st_bslice, st_append, st_mkfun, st_mkface, st_isNil, st_max, v_max, st_min, v_min, st_field, st_index, st_slice0, v_slice0, v_slice0n, st_slice, kill_nil, st_call, v_call, forget_nil, forget_cons, Option.map_some, Option.map_none, Option.bind_some, List.map_cons, List.map_nil, if_true, if_false, Nat.reduceEqDiff, Int.reduceEq, Nat.reduceAdd, Nat.reduceMul, Bool.not_true, Bool.not_false, reduceCtorEq, decide_true, decide_false, Int.cast_ofNat_Int, eq_self, Int.reduceLT, Int.reduceLE, Int.reduceToNat, Int.toNat_natCast, Int.le_refl, Nat.le_refl, Nat.zero_add, Nat.add_zero, Nat.zero_mul, Nat.mul_one, Nat.mul_zero, and_self, and_true, true_and, List.length_cons, List.length_nil, List.all_cons, List.all_nil, Bool.and_self, Bool.and_true, Bool.true_and, List.take_zero, List.nil_append, List.drop_nil, List.append_nil, List.getElem?_cons_zero, List.getElem?_cons_succ, List.drop_succ_cons, List.drop_zero, List.take_succ_cons, List.cons_append, Nat.reduceLeDiff]
    exact r2
  | some j =>
    rw [hf] at r3
    obtain ⟨rfl, r4⟩ := r3
    simp only [w_draw, dr_cons, dr_some, dr_none, dr_go, still_no, still_yes, next_no, next_yes, last_cons, last_nil, isStore, calm_no, calm_nil, calm_cons, calmB_some, isCall, freshI, dr_nil, dr_end, still_nil, still_cons, stillB_some, stamp_some, stampV_ptr, stampV_tuple, stampO, still_here, still_here0, List.nil_append, w_out, w_gives, fin_ret, fin_normal, ress_nil, ress_tmp, pack_one, pack_nil, pack_two, entry_nil, entry_one, entry_two, entry_three, entry_four, eq_skip, eq_exit, eq_ret, w_rows, w_done, w_seq, w_normal, w_ret, w_exit, w_cond, w_true, w_false, eq_block, block_normal, block_ret, block_exit, rows_nil, rows_cons, on_some, on_none, row_plain, row_guard, guard_tt, guard_ff, guard_tf, guard_ft, guard_no, ev_tmp, ev_int, ev_bool, ev_string, ev_slice, ev_pointer, ev_map, ev_float, ev_complex, ev_nilIface, ev_nilFunc, ev_func, eget_cons, eget_nil, st_mv, st_pick, v_pick_t, v_pick_f, st_ext, v_ext0, v_ext1, v_ext2, v_ext3, st_int, v_int, int_add, int_sub, int_mul, int_eql, int_neq, int_lss, int_leq, int_gtr, int_geq, st_beq, v_beq, v_bne, st_not, v_not, st_conv, v_conv, st_faddr, v_faddr, st_iaddr, v_iaddr, st_aaddr, v_aaddr, st_nilChk, v_nil, st_len, v_len, v_lenS, st_load, v_load, got_one, got_row, mem_tip, mem_ro, mem_ret, st_alloc, st_box, st_store, v_store, got_store, cells_agg, cells_int, cells_bool, cells_slice, cells_pointer, cells_string, cells_complex, cells_func, one_int, one_bool, one_slice, one_pointer, one_string, one_complex, one_func, upd_push, get_push_self, AHeap.n_push, AHeap.n_upd, st_build, parts_nil, parts_cons, st_bslice, st_append, st_mkfun, st_mkface, st_isNil, st_max, v_max, st_min, v_min, st_field, st_index, st_slice0, v_slice0, v_slice0n, st_slice, kill_nil, st_call, v_call, forget_nil, forget_cons, Option.map_some, Option.map_none, Option.bind_some, List.map_cons, List.map_nil, if_true, if_false, Nat.reduceEqDiff, Int.reduceEq, Nat.reduceAdd, Nat.reduceMul, Bool.not_true, Bool.not_false, reduceCtorEq, decide_true, decide_false, Int.cast_ofNat_Int, eq_self, Int.reduceLT, Int.reduceLE, Int.reduceToNat, Int.toNat_natCast, Int.le_refl, Nat.le_refl, Nat.zero_add, Nat.add_zero, Nat.zero_mul, Nat.mul_one, Nat.mul_zero, and_self, and_true, true_and, List.length_cons, List.length_nil, List.all_cons, List.all_nil, Bool.and_self, Bool.and_true, Bool.true_and, List.take_zero, List.nil_append, List.drop_nil, List.append_nil, List.getElem?_cons_zero, List.getElem?_cons_succ, List.drop_succ_cons, List.drop_zero, List.take_succ_cons, List.cons_append, Nat.reduceLeDiff, r4]
    exact r2
theorem l_may {a : Value} {l : List Int} {H : AHeap} (ha : Ints H a l) (hs : tiny l) : ∀ (k i : Nat), i + k = l.length →
    Out (run Try.prog (tabF tab) om1 (.loop [0, 5, 6, 7] b_lontarlaw03_may_0) [(0, a), (5, a), (6, .int .i64 l.length), (7, .int .i64 i)] H) fun x e' H' => H' = H ∧
      match bdx (l.drop i) i with | some j => x = .ret ∧ eget e' 2 = .bool false | none => x = .exit 0 ∧ eget e' 0 = a := by
  intro k
  have ht := hs
  unfold tiny at ht
  induction k with
  | zero =>
    intro i hi
    have hlt : ¬ ((i : Int) < l.length) := by omega
    rw [w_loop_b b_lontarlaw03_may_0.eq_1, List.drop_of_length_le (by omega)]
    simp only [w_draw, dr_cons, dr_some, dr_none, dr_go, still_no, still_yes, next_no, next_yes, last_cons, last_nil, isStore, calm_no, calm_nil, calm_cons, calmB_some, isCall, freshI, dr_nil, dr_end, still_nil, still_cons, stillB_some, stamp_some, stampV_ptr, stampV_tuple, stampO, still_here, still_here0, List.nil_append, w_out, w_gives, fin_ret, fin_normal, ress_nil, ress_tmp, pack_one, pack_nil, pack_two, entry_nil, entry_one, entry_two, entry_three, entry_four, eq_skip, eq_exit, eq_ret, w_rows, w_done, w_seq, w_normal, w_ret, w_exit, w_cond, w_true, w_false, eq_block, block_normal, block_ret, block_exit, rows_nil, rows_cons, on_some, on_none, row_plain, row_guard, guard_tt, guard_ff, guard_tf, guard_ft, guard_no, ev_tmp, ev_int, ev_bool, ev_string, ev_slice, ev_pointer, ev_map, ev_float, ev_complex, ev_nilIface, ev_nilFunc, ev_func, eget_cons, eget_nil, st_mv, st_pick, v_pick_t, v_pick_f, st_ext, v_ext0, v_ext1, v_ext2, v_ext3, st_int, v_int, int_add, int_sub, int_mul, int_eql, int_neq, int_lss, int_leq, int_gtr, int_geq, st_beq, v_beq, v_bne, st_not, v_not, st_conv, v_conv, st_faddr, v_faddr, st_iaddr, v_iaddr, st_aaddr, v_aaddr, st_nilChk, v_nil, st_len, v_len, v_lenS, st_load, v_load, got_one, got_row, mem_tip, mem_ro, mem_ret, st_alloc, st_box, st_store, v_store, got_store, cells_agg, cells_int, cells_bool, cells_slice, cells_pointer, cells_string, cells_complex, cells_func, one_int, one_bool, one_slice, one_pointer, one_string, one_complex, one_func, upd_push, get_push_self, AHeap.n_push, AHeap.n_upd, st_build, parts_nil, parts_cons, st_bslice, st_append, st_mkfun, st_mkface, st_isNil, st_max, v_max, st_min, v_min, st_field, st_index, st_slice0, v_slice0, v_slice0n, st_slice, kill_nil, st_call, v_call, forget_nil, forget_cons, Option.map_some, Option.map_none, Option.bind_some, List.map_cons, List.map_nil, if_true, if_false, Nat.reduceEqDiff, Int.reduceEq, Nat.reduceAdd, Nat.reduceMul, Bool.not_true, Bool.not_false, reduceCtorEq, decide_true, decide_false, Int.cast_ofNat_Int, eq_self, Int.reduceLT, Int.reduceLE, Int.reduceToNat, Int.toNat_natCast, Int.le_refl, Nat.le_refl, Nat.zero_add, Nat.add_zero, Nat.zero_mul, Nat.mul_one, Nat.mul_zero, and_self, and_true, true_and, List.length_cons, List.length_nil, List.all_cons, List.all_nil, Bool.and_self, Bool.and_true, Bool.true_and, List.take_zero, List.nil_append, List.drop_nil, List.append_nil, List.getElem?_cons_zero, List.getElem?_cons_succ, List.drop_succ_cons, List.drop_zero, List.take_succ_cons, List.cons_append, Nat.reduceLeDiff, hlt, bdx]
  | succ k ih =>
    intro i hi
    have hlt : (i : Int) < l.length := by omega
    obtain ⟨x, hx, hdx⟩ := drop_at (L := l) (i := i) (by omega)
    obtain ⟨i1, o1, h1, h2⟩ := ha.at hx
    have hw2 : IntKind.i64.wrap ((i : Int) + 1) = ((i + 1 : Nat) : Int) := by rw [wrap64 (by omega) (by omega)]; omega
    rw [w_loop_b b_lontarlaw03_may_0.eq_1, hdx]
    unfold bdx
    by_cases b1 : x < 0
    · have hb : bad x := .inl b1
      simp only [w_draw, dr_cons, dr_some, dr_none, dr_go, still_no, still_yes, next_no, next_yes, last_cons, last_nil, isStore, calm_no, calm_nil, calm_cons, calmB_some, isCall, freshI, dr_nil, dr_end, still_nil, still_cons, stillB_some, stamp_some, stampV_ptr, stampV_tuple, stampO, still_here, still_here0, List.nil_append, w_out, w_gives, fin_ret, fin_normal, ress_nil, ress_tmp, pack_one, pack_nil, pack_two, entry_nil, entry_one, entry_two, entry_three, entry_four, eq_skip, eq_exit, eq_ret, w_rows, w_done, w_seq, w_normal, w_ret, w_exit, w_cond, w_true, w_false, eq_block, block_normal, block_ret, block_exit, rows_nil, rows_cons, on_some, on_none, row_plain, row_guard, guard_tt, guard_ff, guard_tf, guard_ft, guard_no, ev_tmp, ev_int, ev_bool, ev_string, ev_slice, ev_pointer, ev_map, ev_float, ev_complex, ev_nilIface, ev_nilFunc, ev_func, eget_cons, eget_nil, st_mv, st_pick, v_pick_t, v_pick_f, st_ext, v_ext0, v_ext1, v_ext2, v_ext3, st_int, v_int, int_add, int_sub, int_mul, int_eql, int_neq, int_lss, int_leq, int_gtr, int_geq, st_beq, v_beq, v_bne, st_not, v_not, st_conv, v_conv, st_faddr, v_faddr, st_iaddr, v_iaddr, st_aaddr, v_aaddr, st_nilChk, v_nil, st_len, v_len, v_lenS, st_load, v_load, got_one, got_row, mem_tip, mem_ro, mem_ret, st_alloc, st_box, st_store, v_store, got_store, cells_agg, cells_int, cells_bool, cells_slice, cells_pointer, cells_string, cells_complex, cells_func, one_int, one_bool, one_slice, one_pointer, one_string, one_complex, one_func, upd_push, get_push_self, AHeap.n_push, AHeap.n_upd, st_build, parts_nil, parts_cons, st_bslice, st_append, st_mkfun, st_mkface, st_isNil, st_max, v_max, st_min, v_min, st_field, st_index, st_slice0, v_slice0, v_slice0n, st_slice, kill_nil, st_call, v_call, forget_nil, forget_cons, Option.map_some, Option.map_none, Option.bind_some, List.map_cons, List.map_nil, if_true, if_false, Nat.reduceEqDiff, Int.reduceEq, Nat.reduceAdd, Nat.reduceMul, Bool.not_true, Bool.not_false, reduceCtorEq, decide_true, decide_false, Int.cast_ofNat_Int, eq_self, Int.reduceLT, Int.reduceLE, Int.reduceToNat, Int.toNat_natCast, Int.le_refl, Nat.le_refl, Nat.zero_add, Nat.add_zero, Nat.zero_mul, Nat.mul_one, Nat.mul_zero, and_self, and_true, true_and, List.length_cons, List.length_nil, List.all_cons, List.all_nil, Bool.and_self, Bool.and_true, Bool.true_and, List.take_zero, List.nil_append, List.drop_nil, List.append_nil, List.getElem?_cons_zero, List.getElem?_cons_succ, List.drop_succ_cons, List.drop_zero, List.take_succ_cons, List.cons_append, Nat.reduceLeDiff, hlt, h1, h2, b1, if_pos hb]
    · by_cases b2 : x > 1114111
      · have hb : bad x := .inr b2
        simp only [w_draw, dr_cons, dr_some, dr_none, dr_go, still_no, still_yes, next_no, next_yes, last_cons, last_nil, isStore, calm_no, calm_nil, calm_cons, calmB_some, isCall, freshI, dr_nil, dr_end, still_nil, still_cons, stillB_some, stamp_some, stampV_ptr, stampV_tuple, stampO, still_here, still_here0, List.nil_append, w_out, w_gives, fin_ret, fin_normal, ress_nil, ress_tmp, pack_one, pack_nil, pack_two, entry_nil, entry_one, entry_two, entry_three, entry_four, eq_skip, eq_exit, eq_ret, w_rows, w_done, w_seq, w_normal, w_ret, w_exit, w_cond, w_true, w_false, eq_block, block_normal, block_ret, block_exit, rows_nil, rows_cons, on_some, on_none, row_plain, row_guard, guard_tt, guard_ff, guard_tf, guard_ft, guard_no, ev_tmp, ev_int, ev_bool, ev_string, ev_slice, ev_pointer, ev_map, ev_float, ev_complex, ev_nilIface, ev_nilFunc, ev_func, eget_cons, eget_nil, st_mv, st_pick, v_pick_t, v_pick_f, st_ext, v_ext0, v_ext1, v_ext2, v_ext3, st_int, v_int, int_add, int_sub, int_mul, int_eql, int_neq, int_lss, int_leq, int_gtr, int_geq, st_beq, v_beq, v_bne, st_not, v_not, st_conv, v_conv, st_faddr, v_faddr, st_iaddr, v_iaddr, st_aaddr, v_aaddr, st_nilChk, v_nil, st_len, v_len, v_lenS, st_load, v_load, got_one, got_row, mem_tip, mem_ro, mem_ret, st_alloc, st_box, st_store, v_store, got_store, cells_agg, cells_int, cells_bool, cells_slice, cells_pointer, cells_string, cells_complex, cells_func, one_int, one_bool, one_slice, one_pointer, one_string, one_complex, one_func, upd_push, get_push_self, AHeap.n_push, AHeap.n_upd, st_build, parts_nil, parts_cons, st_bslice, st_append, st_mkfun, st_mkface, st_isNil, st_max, v_max, st_min, v_min, st_field, st_index, st_slice0, v_slice0, v_slice0n, st_slice, kill_nil, st_call, v_call, forget_nil, forget_cons, Option.map_some, Option.map_none, Option.bind_some, List.map_cons, List.map_nil, if_true, if_false, Nat.reduceEqDiff, Int.reduceEq, Nat.reduceAdd, Nat.reduceMul, Bool.not_true, Bool.not_false, reduceCtorEq, decide_true, decide_false, Int.cast_ofNat_Int, eq_self, Int.reduceLT, Int.reduceLE, Int.reduceToNat, Int.toNat_natCast, Int.le_refl, Nat.le_refl, Nat.zero_add, Nat.add_zero, Nat.zero_mul, Nat.mul_one, Nat.mul_zero, and_self, and_true, true_and, List.length_cons, List.length_nil, List.all_cons, List.all_nil, Bool.and_self, Bool.and_true, Bool.true_and, List.take_zero, List.nil_append, List.drop_nil, List.append_nil, List.getElem?_cons_zero, List.getElem?_cons_succ, List.drop_succ_cons, List.drop_zero, List.take_succ_cons, List.cons_append, Nat.reduceLeDiff, hlt, h1, h2, b1, b2, if_pos hb]
      · have hb : ¬ bad x := fun h => by rcases h with h | h; exact b1 h; exact b2 h
        obtain ⟨z, e', H', r1, r2, r3⟩ := ih (i + 1) (by omega)
        simp only [w_draw, dr_cons, dr_some, dr_none, dr_go, still_no, still_yes, next_no, next_yes, last_cons, last_nil, isStore, calm_no, calm_nil, calm_cons, calmB_some, isCall, freshI, dr_nil, dr_end, still_nil, still_cons, stillB_some, stamp_some, stampV_ptr, stampV_tuple, stampO, still_here, still_here0, List.nil_append, w_out, w_gives, fin_ret, fin_normal, ress_nil, ress_tmp, pack_one, pack_nil, pack_two, entry_nil, entry_one, entry_two, entry_three, entry_four, eq_skip, eq_exit, eq_ret, w_rows, w_done, w_seq, w_normal, w_ret, w_exit, w_cond, w_true, w_false, eq_block, block_normal, block_ret, block_exit, rows_nil, rows_cons, on_some, on_none, row_plain, row_guard, guard_tt, guard_ff, guard_tf, guard_ft, guard_no, ev_tmp, ev_int, ev_bool, ev_string, ev_slice, ev_pointer, ev_map, ev_float, ev_complex, ev_nilIface, ev_nilFunc, ev_func, eget_cons, eget_nil, st_mv, st_pick, v_pick_t, v_pick_f, st_ext, v_ext0, v_ext1, v_ext2, v_ext3, st_int, v_int, int_add, int_sub, int_mul, int_eql, int_neq, int_lss, int_leq, int_gtr, int_geq, st_beq, v_beq, v_bne, st_not, v_not, st_conv, v_conv, st_faddr, v_faddr, st_iaddr, v_iaddr, st_aaddr, v_aaddr, st_nilChk, v_nil, st_len, v_len, v_lenS, st_load, v_load, got_one, got_row, mem_tip, mem_ro, mem_ret, st_alloc, st_box, st_store, v_store, got_store, cells_agg, cells_int, cells_bool, cells_slice, cells_pointer, cells_string, cells_complex, cells_func, one_int, one_bool, one_slice, one_pointer, one_string, one_complex, one_func, upd_push, get_push_self, AHeap.n_push, AHeap.n_upd, st_build, parts_nil, parts_cons, st_bslice, st_append, st_mkfun, st_mkface, st_isNil, st_max, v_max, st_min, v_min, st_field, st_index, st_slice0, v_slice0, v_slice0n, st_slice, kill_nil, st_call, v_call, forget_nil, forget_cons, Option.map_some, Option.map_none, Option.bind_some, List.map_cons, List.map_nil, if_true, if_false, Nat.reduceEqDiff, Int.reduceEq, Nat.reduceAdd, Nat.reduceMul, Bool.not_true, Bool.not_false, reduceCtorEq, decide_true, decide_false, Int.cast_ofNat_Int, eq_self, Int.reduceLT, Int.reduceLE, Int.reduceToNat, Int.toNat_natCast, Int.le_refl, Nat.le_refl, Nat.zero_add, Nat.add_zero, Nat.zero_mul, Nat.mul_one, Nat.mul_zero, and_self, and_true, true_and, List.length_cons, List.length_nil, List.all_cons, List.all_nil, Bool.and_self, Bool.and_true, Bool.true_and, List.take_zero, List.nil_append, List.drop_nil, List.append_nil, List.getElem?_cons_zero, List.getElem?_cons_succ, List.drop_succ_cons, List.drop_zero, List.take_succ_cons, List.cons_append, Nat.reduceLeDiff, hlt, h1, h2, b1, b2, if_neg hb, hw2]
        rw [w_enter]
        simp only [w_draw, dr_cons, dr_some, dr_none, dr_go, still_no, still_yes, next_no, next_yes, last_cons, last_nil, isStore, calm_no, calm_nil, calm_cons, calmB_some, isCall, freshI, dr_nil, dr_end, still_nil, still_cons, stillB_some, stamp_some, stampV_ptr, stampV_tuple, stampO, still_here, still_here0, List.nil_append, w_out, w_gives, fin_ret, fin_normal, ress_nil, ress_tmp, pack_one, pack_nil, pack_two, entry_nil, entry_one, entry_two, entry_three, entry_four, eq_skip, eq_exit, eq_ret, w_rows, w_done, w_seq, w_normal, w_ret, w_exit, w_cond, w_true, w_false, eq_block, block_normal, block_ret, block_exit, rows_nil, rows_cons, on_some, on_none, row_plain, row_guard, guard_tt, guard_ff, guard_tf, guard_ft, guard_no, ev_tmp, ev_int, ev_bool, ev_string, ev_slice, ev_pointer, ev_map, ev_float, ev_complex, ev_nilIface, ev_nilFunc, ev_func, eget_cons, eget_nil, st_mv, st_pick, v_pick_t, v_pick_f, st_ext, v_ext0, v_ext1, v_ext2, v_ext3, st_int, v_int, int_add, int_sub, int_mul, int_eql, int_neq, int_lss, int_leq, int_gtr, int_geq, st_beq, v_beq, v_bne, st_not, v_not, st_conv, v_conv, st_faddr, v_faddr, st_iaddr, v_iaddr, st_aaddr, v_aaddr, st_nilChk, v_nil, st_len, v_len, v_lenS, st_load, v_load, got_one, got_row, mem_tip, mem_ro, mem_ret, st_alloc, st_box, st_store, v_store, got_store, cells_agg, cells_int, cells_bool, cells_slice, cells_pointer, cells_string, cells_complex, cells_func, one_int, one_bool, one_slice, one_pointer, one_string, one_complex, one_func, upd_push, get_push_self, AHeap.n_push, AHeap.n_upd, st_build, parts_nil, parts_cons, st_bslice, st_append, st_mkfun, st_mkface, st_isNil, st_max, v_max, st_min, v_min, st_field, st_index, st_slice0, v_slice0, v_slice0n, st_slice, kill_nil, st_call, v_call, forget_nil, forget_cons, Option.map_some, Option.map_none, Option.bind_some, List.map_cons, List.map_nil, if_true, if_false, Nat.reduceEqDiff, Int.reduceEq, Nat.reduceAdd, Nat.reduceMul, Bool.not_true, Bool.not_false, reduceCtorEq, decide_true, decide_false, Int.cast_ofNat_Int, eq_self, Int.reduceLT, Int.reduceLE, Int.reduceToNat, Int.toNat_natCast, Int.le_refl, Nat.le_refl, Nat.zero_add, Nat.add_zero, Nat.zero_mul, Nat.mul_one, Nat.mul_zero, and_self, and_true, true_and, List.length_cons, List.length_nil, List.all_cons, List.all_nil, Bool.and_self, Bool.and_true, Bool.true_and, List.take_zero, List.nil_append, List.drop_nil, List.append_nil, List.getElem?_cons_zero, List.getElem?_cons_succ, List.drop_succ_cons, List.drop_zero, List.take_succ_cons, List.cons_append, Nat.reduceLeDiff, r1]
        exact ⟨r2, r3⟩
theorem c_may {a : Value} {l : List Int} {H : AHeap} (ha : Ints H a l) (hs : tiny l) : cw Try.prog (tabF tab) om1 33 [a] H = some (.bool (sideB l), H) := by
  rw [cw_run (F := F_lontarlaw03_may) rfl rfl rfl]
  unfold F_lontarlaw03_may k_lontarlaw03_may sideB
  obtain ⟨x, e', H', r1, rfl, r3⟩ := l_may ha hs l.length 0 (by omega)
  simp only [Int.cast_ofNat_Int] at r1
  simp only [w_draw, dr_cons, dr_some, dr_none, dr_go, still_no, still_yes, next_no, next_yes, last_cons, last_nil, isStore, calm_no, calm_nil, calm_cons, calmB_some, isCall, freshI, dr_nil, dr_end, still_nil, still_cons, stillB_some, stamp_some, stampV_ptr, stampV_tuple, stampO, still_here, still_here0, List.nil_append, w_out, w_gives, fin_ret, fin_normal, ress_nil, ress_tmp, pack_one, pack_nil, pack_two, entry_nil, entry_one, entry_two, entry_three, entry_four, eq_skip, eq_exit, eq_ret, w_rows, w_done, w_seq, w_normal, w_ret, w_exit, w_cond, w_true, w_false, eq_block, block_normal, block_ret, block_exit, rows_nil, rows_cons, on_some, on_none, row_plain, row_guard, guard_tt, guard_ff, guard_tf, guard_ft, guard_no, ev_tmp, ev_int, ev_bool, ev_string, ev_slice, ev_pointer, ev_map, ev_float, ev_complex, ev_nilIface, ev_nilFunc, ev_func, eget_cons, eget_nil, st_mv, st_pick, v_pick_t, v_pick_f, st_ext, v_ext0, v_ext1, v_ext2, v_ext3, st_int, v_int, int_add, int_sub, int_mul, int_eql, int_neq, int_lss, int_leq, int_gtr, int_geq, st_beq, v_beq, v_bne, st_not, v_not, st_conv, v_conv, st_faddr, v_faddr, st_iaddr, v_iaddr, st_aaddr, v_aaddr, st_nilChk, v_nil, st_len, v_len, v_lenS, st_load, v_load, got_one, got_row, mem_tip, mem_ro, mem_ret, st_alloc, st_box, st_store, v_store, got_store, cells_agg, cells_int, cells_bool, cells_slice, cells_pointer, cells_string, cells_complex, cells_func, one_int, one_bool, one_slice, one_pointer, one_string, one_complex, one_func, upd_push, get_push_self, AHeap.n_push, AHeap.n_upd, st_build, parts_nil, parts_cons, st_bslice, st_append, st_mkfun, st_mkface, st_isNil, st_max, v_max, st_min, v_min, st_field, st_index, st_slice0, v_slice0, v_slice0n, st_slice, kill_nil, st_call, v_call, forget_nil, forget_cons, Option.map_some, Option.map_none, Option.bind_some, List.map_cons, List.map_nil, if_true, if_false, Nat.reduceEqDiff, Int.reduceEq, Nat.reduceAdd, Nat.reduceMul, Bool.not_true, Bool.not_false, reduceCtorEq, decide_true, decide_false, Int.cast_ofNat_Int, eq_self, Int.reduceLT, Int.reduceLE, Int.reduceToNat, Int.toNat_natCast, Int.le_refl, Nat.le_refl, Nat.zero_add, Nat.add_zero, Nat.zero_mul, Nat.mul_one, Nat.mul_zero, and_self, and_true, true_and, List.length_cons, List.length_nil, List.all_cons, List.all_nil, Bool.and_self, Bool.and_true, Bool.true_and, List.take_zero, List.nil_append, List.drop_nil, List.append_nil, List.getElem?_cons_zero, List.getElem?_cons_succ, List.drop_succ_cons, List.drop_zero, List.take_succ_cons, List.cons_append, Nat.reduceLeDiff, ha.len]
  rw [w_enter]
  simp only [w_draw, dr_cons, dr_some, dr_none, dr_go, still_no, still_yes, next_no, next_yes, last_cons, last_nil, isStore, calm_no, calm_nil, calm_cons, calmB_some, isCall, freshI, dr_nil, dr_end, still_nil, still_cons, stillB_some, stamp_some, stampV_ptr, stampV_tuple, stampO, still_here, still_here0, List.nil_append, w_out, w_gives, fin_ret, fin_normal, ress_nil, ress_tmp, pack_one, pack_nil, pack_two, entry_nil, entry_one, entry_two, entry_three, entry_four, eq_skip, eq_exit, eq_ret, w_rows, w_done, w_seq, w_normal, w_ret, w_exit, w_cond, w_true, w_false, eq_block, block_normal, block_ret, block_exit, rows_nil, rows_cons, on_some, on_none, row_plain, row_guard, guard_tt, guard_ff, guard_tf, guard_ft, guard_no, ev_tmp, ev_int, ev_bool, ev_string, ev_slice, ev_pointer, ev_map, ev_float, ev_complex, ev_nilIface, ev_nilFunc, ev_func, eget_cons, eget_nil, st_mv, st_pick, v_pick_t, v_pick_f, st_ext, v_ext0, v_ext1, v_ext2, v_ext3, st_int, v_int, int_add, int_sub, int_mul, int_eql, int_neq, int_lss, int_leq, int_gtr, int_geq, st_beq, v_beq, v_bne, st_not, v_not, st_conv, v_conv, st_faddr, v_faddr, st_iaddr, v_iaddr, st_aaddr, v_aaddr, st_nilChk, v_nil, st_len, v_len, v_lenS, st_load, v_load, got_one, got_row, mem_tip, mem_ro, mem_ret, st_alloc, st_box, st_store, v_store, got_store, cells_agg, cells_int, cells_bool, cells_slice, cells_pointer, cells_string, cells_complex, cells_func, one_int, one_bool, one_slice, one_pointer, one_string, one_complex, one_func, upd_push, get_push_self, AHeap.n_push, AHeap.n_upd, st_build, parts_nil, parts_cons, st_bslice, st_append, st_mkfun, st_mkface, st_isNil, st_max, v_max, st_min, v_min, st_field, st_index, st_slice0, v_slice0, v_slice0n, st_slice, kill_nil, st_call, v_call, forget_nil, forget_cons, Option.map_some, Option.map_none, Option.bind_some, List.map_cons, List.map_nil, if_true, if_false, Nat.reduceEqDiff, Int.reduceEq, Nat.reduceAdd, Nat.reduceMul, Bool.not_true, Bool.not_false, reduceCtorEq, decide_true, decide_false, Int.cast_ofNat_Int, eq_self, Int.reduceLT, Int.reduceLE, Int.reduceToNat, Int.toNat_natCast, Int.le_refl, Nat.le_refl, Nat.zero_add, Nat.add_zero, Nat.zero_mul, Nat.mul_one, Nat.mul_zero, and_self, and_true, true_and, List.length_cons, List.length_nil, List.all_cons, List.all_nil, Bool.and_self, Bool.and_true, Bool.true_and, List.take_zero, List.nil_append, List.drop_nil, List.append_nil, List.getElem?_cons_zero, List.getElem?_cons_succ, List.drop_succ_cons, List.drop_zero, List.take_succ_cons, List.cons_append, Nat.reduceLeDiff, r1]
  rw [List.drop_zero] at r3
  cases hb : bdx l 0 with
  | none =>
    rw [hb] at r3
    obtain ⟨rfl, r4⟩ := r3
    by_cases h1 : 0 < l.length
    · have h1' : (l.length : Int) > 0 := by omega
      by_cases h2 : l.length ≤ 8
      · have h2' : (l.length : Int) < 9 := by omega
        simp only [w_draw, dr_cons, dr_some, dr_none, dr_go, still_no, still_yes, next_no, next_yes, last_cons, last_nil, isStore, calm_no, calm_nil, calm_cons, calmB_some, isCall, freshI, dr_nil, dr_end, still_nil, still_cons, stillB_some, stamp_some, stampV_ptr, stampV_tuple, stampO, still_here, still_here0, List.nil_append, w_out, w_gives, fin_ret, fin_normal, ress_nil, ress_tmp, pack_one, pack_nil, pack_two, entry_nil, entry_one, entry_two, entry_three, entry_four, eq_skip, eq_exit, eq_ret, w_rows, w_done, w_seq, w_normal, w_ret, w_exit, w_cond, w_true, w_false, eq_block, block_normal, block_ret, block_exit, rows_nil, rows_cons, on_some, on_none, row_plain, row_guard, guard_tt, guard_ff, guard_tf, guard_ft, guard_no, ev_tmp, ev_int, ev_bool, ev_string, ev_slice, ev_pointer, ev_map, ev_float, ev_complex, ev_nilIface, ev_nilFunc, ev_func, eget_cons, eget_nil, st_mv, st_pick, v_pick_t, v_pick_f, st_ext, v_ext0, v_ext1, v_ext2, v_ext3, st_int, v_int, int_add, int_sub, int_mul, int_eql, int_neq, int_lss, int_leq, int_gtr, int_geq, st_beq, v_beq, v_bne, st_not, v_not, st_conv, v_conv, st_faddr, v_faddr, st_iaddr, v_iaddr, st_aaddr, v_aaddr, st_nilChk, v_nil, st_len, v_len, v_lenS, st_load, v_load, got_one, got_row, mem_tip, mem_ro, mem_ret, st_alloc, st_box, st_store, v_store, got_store, cells_agg, cells_int, cells_bool, cells_slice, cells_pointer, cells_string, cells_complex, cells_func, one_int, one_bool, one_slice, one_pointer, one_string, one_complex, one_func, upd_push, get_push_self, AHeap.n_push, AHeap.n_upd, st_build, parts_nil, parts_cons, st_bslice, st_append, st_mkfun, st_mkface, st_isNil, st_max, v_max, st_min, v_min, st_field, st_index, st_slice0, v_slice0, v_slice0n, st_slice, kill_nil, st_call, v_call, forget_nil, forget_cons, Option.map_some, Option.map_none, Option.bind_some, List.map_cons, List.map_nil, if_true, if_false, Nat.reduceEqDiff, Int.reduceEq, Nat.reduceAdd, Nat.reduceMul, Bool.not_true, Bool.not_false, reduceCtorEq, decide_true, decide_false, Int.cast_ofNat_Int, eq_self, Int.reduceLT, Int.reduceLE, Int.reduceToNat, Int.toNat_natCast, Int.le_refl, Nat.le_refl, Nat.zero_add, Nat.add_zero, Nat.zero_mul, Nat.mul_one, Nat.mul_zero, and_self, and_true, true_and, List.length_cons, List.length_nil, List.all_cons, List.all_nil, Bool.and_self, Bool.and_true, Bool.true_and, List.take_zero, List.nil_append, List.drop_nil, List.append_nil, List.getElem?_cons_zero, List.getElem?_cons_succ, List.drop_succ_cons, List.drop_zero, List.take_succ_cons, List.cons_append, Nat.reduceLeDiff, r4, ha.len, h1, h1', h2, h2', Option.isNone_none]
      · have h2' : ¬ (l.length : Int) < 9 := by omega
        simp only [w_draw, dr_cons, dr_some, dr_none, dr_go, still_no, still_yes, next_no, next_yes, last_cons, last_nil, isStore, calm_no, calm_nil, calm_cons, calmB_some, isCall, freshI, dr_nil, dr_end, still_nil, still_cons, stillB_some, stamp_some, stampV_ptr, stampV_tuple, stampO, still_here, still_here0, List.nil_append, w_out, w_gives, fin_ret, fin_normal, ress_nil, ress_tmp, pack_one, pack_nil, pack_two, entry_nil, entry_one, entry_two, entry_three, entry_four, eq_skip, eq_exit, eq_ret, w_rows, w_done, w_seq, w_normal, w_ret, w_exit, w_cond, w_true, w_false, eq_block, block_normal, block_ret, block_exit, rows_nil, rows_cons, on_some, on_none, row_plain, row_guard, guard_tt, guard_ff, guard_tf, guard_ft, guard_no, ev_tmp, ev_int, ev_bool, ev_string, ev_slice, ev_pointer, ev_map, ev_float, ev_complex, ev_nilIface, ev_nilFunc, ev_func, eget_cons, eget_nil, st_mv, st_pick, v_pick_t, v_pick_f, st_ext, v_ext0, v_ext1, v_ext2, v_ext3, st_int, v_int, int_add, int_sub, int_mul, int_eql, int_neq, int_lss, int_leq, int_gtr, int_geq, st_beq, v_beq, v_bne, st_not, v_not, st_conv, v_conv, st_faddr, v_faddr, st_iaddr, v_iaddr, st_aaddr, v_aaddr, st_nilChk, v_nil, st_len, v_len, v_lenS, st_load, v_load, got_one, got_row, mem_tip, mem_ro, mem_ret, st_alloc, st_box, st_store, v_store, got_store, cells_agg, cells_int, cells_bool, cells_slice, cells_pointer, cells_string, cells_complex, cells_func, one_int, one_bool, one_slice, one_pointer, one_string, one_complex, one_func, upd_push, get_push_self, AHeap.n_push, AHeap.n_upd, st_build, parts_nil, parts_cons, st_bslice, st_append, st_mkfun, st_mkface, st_isNil, st_max, v_max, st_min, v_min, st_field, st_index, st_slice0, v_slice0, v_slice0n, st_slice, kill_nil, st_call, v_call, forget_nil, forget_cons, Option.map_some, Option.map_none, Option.bind_some, List.map_cons, List.map_nil, if_true, if_false, Nat.reduceEqDiff, Int.reduceEq, Nat.reduceAdd, Nat.reduceMul, Bool.not_true, Bool.not_false, reduceCtorEq, decide_true, decide_false, Int.cast_ofNat_Int, eq_self, Int.reduceLT, Int.reduceLE, Int.reduceToNat, Int.toNat_natCast, Int.le_refl, Nat.le_refl, Nat.zero_add, Nat.add_zero, Nat.zero_mul, Nat.mul_one, Nat.mul_zero, and_self, and_true, true_and, List.length_cons, List.length_nil, List.all_cons, List.all_nil, Bool.and_self, Bool.and_true, Bool.true_and, List.take_zero, List.nil_append, List.drop_nil, List.append_nil, List.getElem?_cons_zero, List.getElem?_cons_succ, List.drop_succ_cons, List.drop_zero, List.take_succ_cons, List.cons_append, Nat.reduceLeDiff, r4, ha.len, h1, h1', h2, h2', Option.isNone_none, Bool.and_false]
    · have h1' : ¬ (l.length : Int) > 0 := by omega
      simp only [w_draw, dr_cons, dr_some, dr_none, dr_go, still_no, still_yes, next_no, next_yes, last_cons, last_nil, isStore, calm_no, calm_nil, calm_cons, calmB_some, isCall, freshI, dr_nil, dr_end, still_nil, still_cons, stillB_some, stamp_some, stampV_ptr, stampV_tuple, stampO, still_here, still_here0, List.nil_append, w_out, w_gives, fin_ret, fin_normal, ress_nil, ress_tmp, pack_one, pack_nil, pack_two, entry_nil, entry_one, entry_two, entry_three, entry_four, eq_skip, eq_exit, eq_ret, w_rows, w_done, w_seq, w_normal, w_ret, w_exit, w_cond, w_true, w_false, eq_block, block_normal, block_ret, block_exit, rows_nil, rows_cons, on_some, on_none, row_plain, row_guard, guard_tt, guard_ff, guard_tf, guard_ft, guard_no, ev_tmp, ev_int, ev_bool, ev_string, ev_slice, ev_pointer, ev_map, ev_float, ev_complex, ev_nilIface, ev_nilFunc, ev_func, eget_cons, eget_nil, st_mv, st_pick, v_pick_t, v_pick_f, st_ext, v_ext0, v_ext1, v_ext2, v_ext3, st_int, v_int, int_add, int_sub, int_mul, int_eql, int_neq, int_lss, int_leq, int_gtr, int_geq, st_beq, v_beq, v_bne, st_not, v_not, st_conv, v_conv, st_faddr, v_faddr, st_iaddr, v_iaddr, st_aaddr, v_aaddr, st_nilChk, v_nil, st_len, v_len, v_lenS, st_load, v_load, got_one, got_row, mem_tip, mem_ro, mem_ret, st_alloc, st_box, st_store, v_store, got_store, cells_agg, cells_int, cells_bool, cells_slice, cells_pointer, cells_string, cells_complex, cells_func, one_int, one_bool, one_slice, one_pointer, one_string, one_complex, one_func, upd_push, get_push_self, AHeap.n_push, AHeap.n_upd, st_build, parts_nil, parts_cons, st_bslice, st_append, st_mkfun, st_mkface, st_isNil, st_max, v_max, st_min, v_min, st_field, st_index, st_slice0, v_slice0, v_slice0n, st_slice, kill_nil, st_call, v_call, forget_nil, forget_cons, Option.map_some, Option.map_none, Option.bind_some, List.map_cons, List.map_nil, if_true, if_false, Nat.reduceEqDiff, Int.reduceEq, Nat.reduceAdd, Nat.reduceMul, Bool.not_true, Bool.not_false, reduceCtorEq, decide_true, decide_false, Int.cast_ofNat_Int, eq_self, Int.reduceLT, Int.reduceLE, Int.reduceToNat, Int.toNat_natCast, Int.le_refl, Nat.le_refl, Nat.zero_add, Nat.add_zero, Nat.zero_mul, Nat.mul_one, Nat.mul_zero, and_self, and_true, true_and, List.length_cons, List.length_nil, List.all_cons, List.all_nil, Bool.and_self, Bool.and_true, Bool.true_and, List.take_zero, List.nil_append, List.drop_nil, List.append_nil, List.getElem?_cons_zero, List.getElem?_cons_succ, List.drop_succ_cons, List.drop_zero, List.take_succ_cons, List.cons_append, Nat.reduceLeDiff, r4, ha.len, h1, h1', Option.isNone_none, Bool.false_and]
  | some j =>
    rw [hb] at r3
    obtain ⟨rfl, r4⟩ := r3
    simp only [w_draw, dr_cons, dr_some, dr_none, dr_go, still_no, still_yes, next_no, next_yes, last_cons, last_nil, isStore, calm_no, calm_nil, calm_cons, calmB_some, isCall, freshI, dr_nil, dr_end, still_nil, still_cons, stillB_some, stamp_some, stampV_ptr, stampV_tuple, stampO, still_here, still_here0, List.nil_append, w_out, w_gives, fin_ret, fin_normal, ress_nil, ress_tmp, pack_one, pack_nil, pack_two, entry_nil, entry_one, entry_two, entry_three, entry_four, eq_skip, eq_exit, eq_ret, w_rows, w_done, w_seq, w_normal, w_ret, w_exit, w_cond, w_true, w_false, eq_block, block_normal, block_ret, block_exit, rows_nil, rows_cons, on_some, on_none, row_plain, row_guard, guard_tt, guard_ff, guard_tf, guard_ft, guard_no, ev_tmp, ev_int, ev_bool, ev_string, ev_slice, ev_pointer, ev_map, ev_float, ev_complex, ev_nilIface, ev_nilFunc, ev_func, eget_cons, eget_nil, st_mv, st_pick, v_pick_t, v_pick_f, st_ext, v_ext0, v_ext1, v_ext2, v_ext3, st_int, v_int, int_add, int_sub, int_mul, int_eql, int_neq, int_lss, int_leq, int_gtr, int_geq, st_beq, v_beq, v_bne, st_not, v_not, st_conv, v_conv, st_faddr, v_faddr, st_iaddr, v_iaddr, st_aaddr, v_aaddr, st_nilChk, v_nil, st_len, v_len, v_lenS, st_load, v_load, got_one, got_row, mem_tip, mem_ro, mem_ret, st_alloc, st_box, st_store, v_store, got_store, cells_agg, cells_int, cells_bool, cells_slice, cells_pointer, cells_string, cells_complex, cells_func, one_int, one_bool, one_slice, one_pointer, one_string, one_complex, one_func, upd_push, get_push_self, AHeap.n_push, AHeap.n_upd, st_build, parts_nil, parts_cons, st_bslice, st_append, st_mkfun, st_mkface, st_isNil, st_max, v_max, st_min, v_min, st_field, st_index, st_slice0, v_slice0, v_slice0n, st_slice, kill_nil, st_call, v_call, forget_nil, forget_cons, Option.map_some, Option.map_none, Option.bind_some, List.map_cons, List.map_nil, if_true, if_false, Nat.reduceEqDiff, Int.reduceEq, Nat.reduceAdd, Nat.reduceMul, Bool.not_true, Bool.not_false, reduceCtorEq, decide_true, decide_false, Int.cast_ofNat_Int, eq_self, Int.reduceLT, Int.reduceLE, Int.reduceToNat, Int.toNat_natCast, Int.le_refl, Nat.le_refl, Nat.zero_add, Nat.add_zero, Nat.zero_mul, Nat.mul_one, Nat.mul_zero, and_self, and_true, true_and, List.length_cons, List.length_nil, List.all_cons, List.all_nil, Bool.and_self, Bool.and_true, Bool.true_and, List.take_zero, List.nil_append, List.drop_nil, List.append_nil, List.getElem?_cons_zero, List.getElem?_cons_succ, List.drop_succ_cons, List.drop_zero, List.take_succ_cons, List.cons_append, Nat.reduceLeDiff, r4, Option.isNone_some, Bool.and_false]
end Go.Proofs.Ythnccfmmeaeibaa

/-! Lists that a clone may be made of. -/
set_option linter.unusedSimpArgs false
set_option linter.unusedVariables false
namespace Go.Proofs.Ythnccfmmeaeibaa
open Go Lon
def small (l : List Int) : Prop := l.length * 8 ≤ 140737488355328
def smalls (L : List Rl) : Prop := L.length < 1000000000 ∧ ∀ r ∈ L, small r.1 ∧ small r.2
theorem small.tiny {l : List Int} (h : small l) : tiny l := by unfold small at h; unfold Lon.tiny; omega
end Go.Proofs.Ythnccfmmeaeibaa

/-! Rules whose sides may be cut. -/
set_option linter.unusedSimpArgs false
set_option linter.unusedVariables false
namespace Go.Proofs.Ythnccfmmeaeibaa
open Go Lon
/-- The blocks under the sides of rules have elements of one cell. -/
def CutR (H : AHeap) (v : Value) : Prop := ∃ n cs, Sl H 2 v n cs ∧ ∀ x ∈ cs, Cut Try.prog H x 1
theorem CutR.nil (H : AHeap) : CutR H (.slice none 0 0) := ⟨0, [], Sl.nil H 2, fun x hx => by cases hx⟩
theorem CutR.ext {H H' : AHeap} (hx : Ext H H') {v : Value} (h : CutR H v) : CutR H' v := by
  obtain ⟨n, cs, h1, h2⟩ := h
  exact ⟨n, cs, h1.ext hx, fun x hm => (h2 x hm).ext hx⟩
theorem CutR.go {H H' : AHeap} (hk : Keeps H H') (hv : VerLe H H') {v : Value} (h : CutR H v) : CutR H' v := by
  obtain ⟨n, cs, h1, h2⟩ := h
  exact ⟨n, cs, h1.keeps hk, fun x hm => (h2 x hm).ver hv⟩
theorem OwnRules.appendC {H : AHeap} {el : TypeId} {bytes : Nat} {v x vi vo : Value} {L : List Rl} {r : Rl} (h : OwnRules H el v L) (hc : CutR H v) (hx : Sl H 2 x 1 [vi, vo]) (hi : Ints H vi r.1) (ho : Ints H vo r.2) (t1 : tiny r.1) (t2 : tiny r.2)
    (ci : Cut Try.prog H vi 1) (co : Cut Try.prog H vo 1) (hb : (L.length + 1) * bytes ≤ 140737488355328) :
    ∃ v' H', appendA H v x el 2 bytes = some (v', H') ∧ OwnRules H' el v' (L ++ [r]) ∧ From H.n v' ∧ Keeps H H' ∧ H.n ≤ H'.n ∧ (∀ i, i < H.n → NotAt v i → H'.get i = H.get i) ∧ CutR H' v' ∧ VerLe H H' := by
  obtain ⟨v', H', m1, m2, m3, m4, m5, m6⟩ := h.append2 hx hi ho t1 t2 hb
  have hone : ([vi, vo] : List Value).all one = true := by
    obtain ⟨⟨a, c, rfl⟩, _⟩ := hi
    obtain ⟨⟨a', c', rfl⟩, _⟩ := ho
    rfl
  refine ⟨v', H', m1, m2, m3, m4, m5, m6, ?_, appendA_ver m1⟩
  obtain ⟨cs, h1, _⟩ := h
  obtain ⟨v2, H2, q1, q2, _⟩ := h1.append2 hx (by omega) hone hb
  rw [m1] at q1
  injection q1 with q1
  injection q1 with e1 e2
  subst e1 e2
  refine ⟨_, _, q2.sl, fun y hy => ?_⟩
  obtain ⟨n, cs', g1, g2⟩ := hc
  have hcs : cs' = cs := Option.some.inj (g1.2.symm.trans h1.sl.2)
  subst hcs
  rcases List.mem_append.1 hy with hy | hy
  · exact (g2 y hy).ver (appendA_ver m1)
  · simp at hy
    rcases hy with rfl | rfl
    · exact ci.ver (appendA_ver m1)
    · exact co.ver (appendA_ver m1)
theorem Rules.atC {H : AHeap} {v : Value} {L : List Rl} (h : Rules H v L) (hc : CutR H v) {k : Nat} {r : Rl} (hr : L[k]? = some r) :
    ∃ i o vi vo, (∀ (kd : IntKind) (H2 : AHeap), vIaddr v (.int kd k) 2 H2 = some (.pointer (some ⟨i, o, none⟩), H2)) ∧ gotLoad (H.get i) o none H = some (vi, H) ∧ gotLoad (H.get i) (o + 1) none H = some (vo, H) ∧
      gotLoad (H.get i) o (some 2) H = some (.agg ⟨[vi, vo]⟩, H) ∧ Ints H vi r.1 ∧ Ints H vo r.2 ∧ tiny r.1 ∧ tiny r.2 ∧ Cut Try.prog H vi 1 ∧ Cut Try.prog H vo 1 := by
  obtain ⟨h0, cs, h1, h2⟩ := h
  obtain ⟨n, cs', g1, g2⟩ := hc
  have hcs : cs' = cs := Option.some.inj (g1.2.symm.trans h1.2)
  subst hcs
  obtain ⟨⟨vi, vo, h3, h4, h5, h6⟩, h7, h8⟩ := h2 k r hr
  obtain ⟨i, o, a1, a2, a3⟩ := h1.at (List.getElem?_eq_some_iff.1 hr).1
  refine ⟨i, o, vi, vo, a1, a2 0 vi (by omega) h3, a2 1 vo (by omega) h4, ?_, h5, h6, h7, h8, g2 _ (List.mem_of_getElem? h3), g2 _ (List.mem_of_getElem? h4)⟩
  rw [a3]
  have : (cs'.drop (k * 2)).take 2 = [vi, vo] := by
    apply List.ext_getElem?
    intro j
    rw [List.getElem?_take]
    rcases j with _ | _ | j
    · simp [List.getElem?_drop, h3]
    · simp [List.getElem?_drop, h4]
    · simp; omega
  rw [this]
end Go.Proofs.Ythnccfmmeaeibaa

/-! The statements' own units and rules. -/
set_option linter.unusedSimpArgs false
set_option linter.unusedVariables false
namespace Go.Proofs.Ythnccfmmeaeibaa
open Go Lon
theorem int_rem {k : IntKind} {a b : Int} (h : b ≠ 0) : intOp .rem k a b = some (.int k (a.tmod b)) := by simp only [intOp, if_neg h]
def bytes (l : List Int) : Prop := ∀ u ∈ l, 0 ≤ u ∧ u < 256
def unl (l : List Int) : List Int := l.map fun u => 97 + u % 5
def un (l : List Int) : List Int := (unl (l.take 4) ++ [97]).take (max 1 (unl (l.take 4)).length)
theorem l_units {a : Value} {l : List Int} {B : Nat} (hl : l.length ≤ 4) (hb : bytes l) : ∀ (k i : Nat) (H : AHeap) (out : Value), i + k = l.length → Nums H .u8 a l → Own H 3 1 out i (ints (unl (l.take i))) → From B out → B ≤ H.n →
    Out (run Try.prog (tabF tab) om1 (.loop [1, 5, 12, 13, 14] b_lontarlaw03_units_0) [(1, .int .i64 97), (5, out), (12, a), (13, .int .i64 l.length), (14, .int .i64 i)] H) fun y e' H' => y = .exit 0 ∧ eget e' 1 = .int .i64 97 ∧ Own H' 3 1 (eget e' 5) l.length (ints (unl l)) ∧ From B (eget e' 5) ∧ B ≤ H'.n ∧ (∀ j, j < B → H'.get j = H.get j) := by
  intro k
  induction k with
  | zero =>
    intro i H out hi ha ho hf hB
    obtain rfl : i = l.length := by omega
    have hlt : ¬ ((l.length : Int) < l.length) := by omega
    rw [w_loop_b b_lontarlaw03_units_0.eq_1]
    rw [List.take_length] at ho
    simp only [w_draw, dr_cons, dr_some, dr_none, dr_go, still_no, still_yes, next_no, next_yes, last_cons, last_nil, isStore, calm_no, calm_nil, calm_cons, calmB_some, isCall, freshI, dr_nil, dr_end, still_nil, still_cons, stillB_some, stamp_some, stampV_ptr, stampV_tuple, stampO, still_here, still_here0, List.nil_append, w_out, w_gives, fin_ret, fin_normal, ress_nil, ress_tmp, pack_one, pack_nil, pack_two, entry_nil, entry_one, entry_two, entry_three, entry_four, eq_skip, eq_exit, eq_ret, w_rows, w_done, w_seq, w_normal, w_ret, w_exit, w_cond, w_true, w_false, eq_block, block_normal, block_ret, block_exit, rows_nil, rows_cons, on_some, on_none, row_plain, row_guard, guard_tt, guard_ff, guard_tf, guard_ft, guard_no, ev_tmp, ev_int, ev_bool, ev_string, ev_slice, ev_pointer, ev_map, ev_float, ev_complex, ev_nilIface, ev_nilFunc, ev_func, eget_cons, eget_nil, st_mv, st_pick, v_pick_t, v_pick_f, st_ext, v_ext0, v_ext1, v_ext2, v_ext3, st_int, v_int, int_add, int_sub, int_mul, int_eql, int_neq, int_lss, int_leq, int_gtr, int_geq, st_beq, v_beq, v_bne, st_not, v_not, st_conv, v_conv, st_faddr, v_faddr, st_iaddr, v_iaddr, st_aaddr, v_aaddr, st_nilChk, v_nil, st_len, v_len, v_lenS, st_load, v_load, got_one, got_row, mem_tip, mem_ro, mem_ret, st_alloc, st_box, st_store, v_store, got_store, cells_agg, cells_int, cells_bool, cells_slice, cells_pointer, cells_string, cells_complex, cells_func, one_int, one_bool, one_slice, one_pointer, one_string, one_complex, one_func, upd_push, get_push_self, AHeap.n_push, AHeap.n_upd, st_build, parts_nil, parts_cons, st_bslice, st_append, st_mkfun, st_mkface, st_isNil, st_max, v_max, st_min, v_min, st_field, st_index, st_slice0, v_slice0, v_slice0n, st_slice, kill_nil, st_call, v_call, forget_nil, forget_cons, Option.map_some, Option.map_none, Option.bind_some, List.map_cons, List.map_nil, if_true, if_false, Nat.reduceEqDiff, Int.reduceEq, Nat.reduceAdd, Nat.reduceMul, Bool.not_true, Bool.not_false, reduceCtorEq, decide_true, decide_false, Int.cast_ofNat_Int, eq_self, Int.reduceLT, Int.reduceLE, Int.reduceToNat, Int.toNat_natCast, Int.le_refl, Nat.le_refl, Nat.zero_add, Nat.add_zero, Nat.zero_mul, Nat.mul_one, Nat.mul_zero, and_self, and_true, true_and, List.length_cons, List.length_nil, List.all_cons, List.all_nil, Bool.and_self, Bool.and_true, Bool.true_and, List.take_zero, List.nil_append, List.drop_nil, List.append_nil, List.getElem?_cons_zero, List.getElem?_cons_succ, List.drop_succ_cons, List.drop_zero, List.take_succ_cons, List.cons_append, Nat.reduceLeDiff, hlt]
    exact ⟨ho, hf, hB, fun _ _ => trivial⟩
  | succ k ih =>
    intro i H out hi ha ho hf hB
    have hlt : (i : Int) < l.length := by omega
    obtain ⟨u, hu, hd⟩ := drop_at (L := l) (i := i) (by omega)
    obtain ⟨u1, u2⟩ := hb u (List.mem_of_getElem? hu)
    obtain ⟨i1, o1, h1, h2⟩ := ha.at hu
    have hw2 : IntKind.i64.wrap ((i : Int) + 1) = ((i + 1 : Nat) : Int) := by rw [wrap64 (by omega) (by omega)]; omega
    have q1 : intOp .rem .u8 u 5 = some (.int .u8 (u % 5)) := by rw [int_rem (by decide), Int.tmod_eq_emod_of_nonneg (by omega)]
    have q2 : IntKind.i64.wrap (u % 5) = u % 5 := wrap64 (by omega) (by omega)
    have q3 : IntKind.i64.wrap (97 + u % 5) = 97 + u % 5 := wrap64 (by omega) (by omega)
    have hx1 := Ext.push H ⟨[.int .i64 (97 + u % 5)], 3, .tip, 0, []⟩
    obtain ⟨v', H5, m1, m2, m3, m4, m5, m6⟩ := Own.append2 (bytes := 8) (m := 1) (ho.ext hx1) (Sl.new (n := 1) (c := 2) (get_push_self (H := H) (b := ⟨[.int .i64 (97 + u % 5)], 3, .tip, 0, []⟩)) mem_tip rfl) (by omega) rfl (by omega)
    have hdone : ints (unl (l.take i)) ++ [.int .i64 (97 + u % 5)] = ints (unl (l.take (i + 1))) := by
      rw [List.take_add_one, hu]; simp [ints, unl]
    rw [hdone] at m2
    obtain ⟨y, e', H', r1, r2, r3, r4, r5, r6, r7⟩ := ih (i + 1) H5 v' (by omega) (((ha.ext hx1)).keeps m4) m2 (m3.mono (by simp; omega)) (by simp at m5; omega)
    rw [w_loop_b b_lontarlaw03_units_0.eq_1]
    simp only [w_draw, dr_cons, dr_some, dr_none, dr_go, still_no, still_yes, next_no, next_yes, last_cons, last_nil, isStore, calm_no, calm_nil, calm_cons, calmB_some, isCall, freshI, dr_nil, dr_end, still_nil, still_cons, stillB_some, stamp_some, stampV_ptr, stampV_tuple, stampO, still_here, still_here0, List.nil_append, w_out, w_gives, fin_ret, fin_normal, ress_nil, ress_tmp, pack_one, pack_nil, pack_two, entry_nil, entry_one, entry_two, entry_three, entry_four, eq_skip, eq_exit, eq_ret, w_rows, w_done, w_seq, w_normal, w_ret, w_exit, w_cond, w_true, w_false, eq_block, block_normal, block_ret, block_exit, rows_nil, rows_cons, on_some, on_none, row_plain, row_guard, guard_tt, guard_ff, guard_tf, guard_ft, guard_no, ev_tmp, ev_int, ev_bool, ev_string, ev_slice, ev_pointer, ev_map, ev_float, ev_complex, ev_nilIface, ev_nilFunc, ev_func, eget_cons, eget_nil, st_mv, st_pick, v_pick_t, v_pick_f, st_ext, v_ext0, v_ext1, v_ext2, v_ext3, st_int, v_int, int_add, int_sub, int_mul, int_eql, int_neq, int_lss, int_leq, int_gtr, int_geq, st_beq, v_beq, v_bne, st_not, v_not, st_conv, v_conv, st_faddr, v_faddr, st_iaddr, v_iaddr, st_aaddr, v_aaddr, st_nilChk, v_nil, st_len, v_len, v_lenS, st_load, v_load, got_one, got_row, mem_tip, mem_ro, mem_ret, st_alloc, st_box, st_store, v_store, got_store, cells_agg, cells_int, cells_bool, cells_slice, cells_pointer, cells_string, cells_complex, cells_func, one_int, one_bool, one_slice, one_pointer, one_string, one_complex, one_func, upd_push, get_push_self, AHeap.n_push, AHeap.n_upd, st_build, parts_nil, parts_cons, st_bslice, st_append, st_mkfun, st_mkface, st_isNil, st_max, v_max, st_min, v_min, st_field, st_index, st_slice0, v_slice0, v_slice0n, st_slice, kill_nil, st_call, v_call, forget_nil, forget_cons, Option.map_some, Option.map_none, Option.bind_some, List.map_cons, List.map_nil, if_true, if_false, Nat.reduceEqDiff, Int.reduceEq, Nat.reduceAdd, Nat.reduceMul, Bool.not_true, Bool.not_false, reduceCtorEq, decide_true, decide_false, Int.cast_ofNat_Int, eq_self, Int.reduceLT, Int.reduceLE, Int.reduceToNat, Int.toNat_natCast, Int.le_refl, Nat.le_refl, Nat.zero_add, Nat.add_zero, Nat.zero_mul, Nat.mul_one, Nat.mul_zero, and_self, and_true, true_and, List.length_cons, List.length_nil, List.all_cons, List.all_nil, Bool.and_self, Bool.and_true, Bool.true_and, List.take_zero, List.nil_append, List.drop_nil, List.append_nil, List.getElem?_cons_zero, List.getElem?_cons_succ, List.drop_succ_cons, List.drop_zero, List.take_succ_cons, List.cons_append, Nat.reduceLeDiff, hlt, h1, h2, q1, q2, q3, v_int1, m1, hw2]
    rw [w_enter]
    simp only [w_draw, dr_cons, dr_some, dr_none, dr_go, still_no, still_yes, next_no, next_yes, last_cons, last_nil, isStore, calm_no, calm_nil, calm_cons, calmB_some, isCall, freshI, dr_nil, dr_end, still_nil, still_cons, stillB_some, stamp_some, stampV_ptr, stampV_tuple, stampO, still_here, still_here0, List.nil_append, w_out, w_gives, fin_ret, fin_normal, ress_nil, ress_tmp, pack_one, pack_nil, pack_two, entry_nil, entry_one, entry_two, entry_three, entry_four, eq_skip, eq_exit, eq_ret, w_rows, w_done, w_seq, w_normal, w_ret, w_exit, w_cond, w_true, w_false, eq_block, block_normal, block_ret, block_exit, rows_nil, rows_cons, on_some, on_none, row_plain, row_guard, guard_tt, guard_ff, guard_tf, guard_ft, guard_no, ev_tmp, ev_int, ev_bool, ev_string, ev_slice, ev_pointer, ev_map, ev_float, ev_complex, ev_nilIface, ev_nilFunc, ev_func, eget_cons, eget_nil, st_mv, st_pick, v_pick_t, v_pick_f, st_ext, v_ext0, v_ext1, v_ext2, v_ext3, st_int, v_int, int_add, int_sub, int_mul, int_eql, int_neq, int_lss, int_leq, int_gtr, int_geq, st_beq, v_beq, v_bne, st_not, v_not, st_conv, v_conv, st_faddr, v_faddr, st_iaddr, v_iaddr, st_aaddr, v_aaddr, st_nilChk, v_nil, st_len, v_len, v_lenS, st_load, v_load, got_one, got_row, mem_tip, mem_ro, mem_ret, st_alloc, st_box, st_store, v_store, got_store, cells_agg, cells_int, cells_bool, cells_slice, cells_pointer, cells_string, cells_complex, cells_func, one_int, one_bool, one_slice, one_pointer, one_string, one_complex, one_func, upd_push, get_push_self, AHeap.n_push, AHeap.n_upd, st_build, parts_nil, parts_cons, st_bslice, st_append, st_mkfun, st_mkface, st_isNil, st_max, v_max, st_min, v_min, st_field, st_index, st_slice0, v_slice0, v_slice0n, st_slice, kill_nil, st_call, v_call, forget_nil, forget_cons, Option.map_some, Option.map_none, Option.bind_some, List.map_cons, List.map_nil, if_true, if_false, Nat.reduceEqDiff, Int.reduceEq, Nat.reduceAdd, Nat.reduceMul, Bool.not_true, Bool.not_false, reduceCtorEq, decide_true, decide_false, Int.cast_ofNat_Int, eq_self, Int.reduceLT, Int.reduceLE, Int.reduceToNat, Int.toNat_natCast, Int.le_refl, Nat.le_refl, Nat.zero_add, Nat.add_zero, Nat.zero_mul, Nat.mul_one, Nat.mul_zero, and_self, and_true, true_and, List.length_cons, List.length_nil, List.all_cons, List.all_nil, Bool.and_self, Bool.and_true, Bool.true_and, List.take_zero, List.nil_append, List.drop_nil, List.append_nil, List.getElem?_cons_zero, List.getElem?_cons_succ, List.drop_succ_cons, List.drop_zero, List.take_succ_cons, List.cons_append, Nat.reduceLeDiff, r1]
    refine ⟨r2, r3, r4, r5, r6, fun j hj => ?_⟩
    rw [r7 j hj, m6 j (by simp; omega) (NotAt.of_from hf hj), hx1.2 j (by omega)]
theorem c_units {a : Value} {l : List Int} {H : AHeap} (ha : Nums H .u8 a l) (hc : Cut Try.prog H a 1) (hb : bytes l) (hs : tiny l) : Gives (cw Try.prog (tabF tab) om1 41 [a, .int .i64 97] H) fun v H' => Ext H H' ∧ Ints H' v (un l) ∧ From H.n v ∧ Cut Try.prog H' v 1 := by
  rw [cw_run (F := F_lontarlaw03_units) rfl rfl rfl]
  unfold F_lontarlaw03_units k_lontarlaw03_units
  obtain ⟨k, hk⟩ : ∃ k : Nat, k = min l.length 4 := ⟨_, rfl⟩
  obtain ⟨a', s1, s2, s3⟩ := ha.take hc (show k ≤ l.length by omega)
  have hmin : (if (4 : Int) < (l.length : Int) then (4 : Int) else (l.length : Int)) = (k : Int) := by split <;> omega
  have hkl : (l.take k).length = k := by simp; omega
  have hk4 : l.take 4 = l.take k := by
    subst hk
    rcases Nat.le_total l.length 4 with h | h
    · rw [Nat.min_eq_left h, List.take_of_length_le h, List.take_length]
    · rw [Nat.min_eq_right h]
  obtain ⟨y, e', H', r1, rfl, r3, r4, r5, r6, r7⟩ := l_units (a := a') (l := l.take k) (B := H.n) (by omega) (fun u hu => hb u (List.mem_of_mem_take hu)) (l.take k).length 0 H (.slice none 0 0) (by omega) s2 ⟨rfl, .inl ⟨rfl, rfl⟩⟩ trivial (Nat.le_refl _)
  rw [hkl] at r1 r4
  have hul : (unl (l.take k)).length = k := by simp only [unl, List.length_map, hkl]
  have hx1 := Ext.push H' ⟨[.int .i64 97], 3, .tip, 0, []⟩
  obtain ⟨v', H5, m1, m2, m3, m4, m5, m6⟩ := Own.append2 (bytes := 8) (m := 1) (r4.ext hx1) (Sl.new (n := 1) (c := 2) (get_push_self (H := H') (b := ⟨[.int .i64 97], 3, .tip, 0, []⟩)) mem_tip rfl) (by omega) rfl (by omega)
  have hI : Ints H5 v' (unl (l.take k) ++ [97]) := by
    have := m2.sl
    unfold Ints
    rw [List.length_append, hul]
    simpa [ints] using this
  obtain ⟨v2, t1, t2, t3⟩ := hI.take (P := Try.prog) (m2.cut (by kernel_rfl)) (show max 1 k ≤ (unl (l.take k) ++ [97]).length by rw [List.length_append, hul]; simp; omega)
  have hmax : (if (k : Int) > 1 then (k : Int) else 1) = ((max 1 k : Nat) : Int) := by split <;> omega
  have ht := t1 .i64
  have hl0 := ha.len (H2 := H)
  have hl1 := Nums.len s2 (H2 := H)
  rw [hkl] at hl1
  have hl2 := r4.sl.len (H2 := H5)
  simp only [Int.cast_ofNat_Int] at r1
  have s1' := s1 .i64
  simp only [w_draw, dr_cons, dr_some, dr_none, dr_go, still_no, still_yes, next_no, next_yes, last_cons, last_nil, isStore, calm_no, calm_nil, calm_cons, calmB_some, isCall, freshI, dr_nil, dr_end, still_nil, still_cons, stillB_some, stamp_some, stampV_ptr, stampV_tuple, stampO, still_here, still_here0, List.nil_append, w_out, w_gives, fin_ret, fin_normal, ress_nil, ress_tmp, pack_one, pack_nil, pack_two, entry_nil, entry_one, entry_two, entry_three, entry_four, eq_skip, eq_exit, eq_ret, w_rows, w_done, w_seq, w_normal, w_ret, w_exit, w_cond, w_true, w_false, eq_block, block_normal, block_ret, block_exit, rows_nil, rows_cons, on_some, on_none, row_plain, row_guard, guard_tt, guard_ff, guard_tf, guard_ft, guard_no, ev_tmp, ev_int, ev_bool, ev_string, ev_slice, ev_pointer, ev_map, ev_float, ev_complex, ev_nilIface, ev_nilFunc, ev_func, eget_cons, eget_nil, st_mv, st_pick, v_pick_t, v_pick_f, st_ext, v_ext0, v_ext1, v_ext2, v_ext3, st_int, v_int, int_add, int_sub, int_mul, int_eql, int_neq, int_lss, int_leq, int_gtr, int_geq, st_beq, v_beq, v_bne, st_not, v_not, st_conv, v_conv, st_faddr, v_faddr, st_iaddr, v_iaddr, st_aaddr, v_aaddr, st_nilChk, v_nil, st_len, v_len, v_lenS, st_load, v_load, got_one, got_row, mem_tip, mem_ro, mem_ret, st_alloc, st_box, st_store, v_store, got_store, cells_agg, cells_int, cells_bool, cells_slice, cells_pointer, cells_string, cells_complex, cells_func, one_int, one_bool, one_slice, one_pointer, one_string, one_complex, one_func, upd_push, get_push_self, AHeap.n_push, AHeap.n_upd, st_build, parts_nil, parts_cons, st_bslice, st_append, st_mkfun, st_mkface, st_isNil, st_max, v_max, st_min, v_min, st_field, st_index, st_slice0, v_slice0, v_slice0n, st_slice, kill_nil, st_call, v_call, forget_nil, forget_cons, Option.map_some, Option.map_none, Option.bind_some, List.map_cons, List.map_nil, if_true, if_false, Nat.reduceEqDiff, Int.reduceEq, Nat.reduceAdd, Nat.reduceMul, Bool.not_true, Bool.not_false, reduceCtorEq, decide_true, decide_false, Int.cast_ofNat_Int, eq_self, Int.reduceLT, Int.reduceLE, Int.reduceToNat, Int.toNat_natCast, Int.le_refl, Nat.le_refl, Nat.zero_add, Nat.add_zero, Nat.zero_mul, Nat.mul_one, Nat.mul_zero, and_self, and_true, true_and, List.length_cons, List.length_nil, List.all_cons, List.all_nil, Bool.and_self, Bool.and_true, Bool.true_and, List.take_zero, List.nil_append, List.drop_nil, List.append_nil, List.getElem?_cons_zero, List.getElem?_cons_succ, List.drop_succ_cons, List.drop_zero, List.take_succ_cons, List.cons_append, Nat.reduceLeDiff, hl0, hmin, s1', hl1]
  rw [w_enter]
  simp only [w_draw, dr_cons, dr_some, dr_none, dr_go, still_no, still_yes, next_no, next_yes, last_cons, last_nil, isStore, calm_no, calm_nil, calm_cons, calmB_some, isCall, freshI, dr_nil, dr_end, still_nil, still_cons, stillB_some, stamp_some, stampV_ptr, stampV_tuple, stampO, still_here, still_here0, List.nil_append, w_out, w_gives, fin_ret, fin_normal, ress_nil, ress_tmp, pack_one, pack_nil, pack_two, entry_nil, entry_one, entry_two, entry_three, entry_four, eq_skip, eq_exit, eq_ret, w_rows, w_done, w_seq, w_normal, w_ret, w_exit, w_cond, w_true, w_false, eq_block, block_normal, block_ret, block_exit, rows_nil, rows_cons, on_some, on_none, row_plain, row_guard, guard_tt, guard_ff, guard_tf, guard_ft, guard_no, ev_tmp, ev_int, ev_bool, ev_string, ev_slice, ev_pointer, ev_map, ev_float, ev_complex, ev_nilIface, ev_nilFunc, ev_func, eget_cons, eget_nil, st_mv, st_pick, v_pick_t, v_pick_f, st_ext, v_ext0, v_ext1, v_ext2, v_ext3, st_int, v_int, int_add, int_sub, int_mul, int_eql, int_neq, int_lss, int_leq, int_gtr, int_geq, st_beq, v_beq, v_bne, st_not, v_not, st_conv, v_conv, st_faddr, v_faddr, st_iaddr, v_iaddr, st_aaddr, v_aaddr, st_nilChk, v_nil, st_len, v_len, v_lenS, st_load, v_load, got_one, got_row, mem_tip, mem_ro, mem_ret, st_alloc, st_box, st_store, v_store, got_store, cells_agg, cells_int, cells_bool, cells_slice, cells_pointer, cells_string, cells_complex, cells_func, one_int, one_bool, one_slice, one_pointer, one_string, one_complex, one_func, upd_push, get_push_self, AHeap.n_push, AHeap.n_upd, st_build, parts_nil, parts_cons, st_bslice, st_append, st_mkfun, st_mkface, st_isNil, st_max, v_max, st_min, v_min, st_field, st_index, st_slice0, v_slice0, v_slice0n, st_slice, kill_nil, st_call, v_call, forget_nil, forget_cons, Option.map_some, Option.map_none, Option.bind_some, List.map_cons, List.map_nil, if_true, if_false, Nat.reduceEqDiff, Int.reduceEq, Nat.reduceAdd, Nat.reduceMul, Bool.not_true, Bool.not_false, reduceCtorEq, decide_true, decide_false, Int.cast_ofNat_Int, eq_self, Int.reduceLT, Int.reduceLE, Int.reduceToNat, Int.toNat_natCast, Int.le_refl, Nat.le_refl, Nat.zero_add, Nat.add_zero, Nat.zero_mul, Nat.mul_one, Nat.mul_zero, and_self, and_true, true_and, List.length_cons, List.length_nil, List.all_cons, List.all_nil, Bool.and_self, Bool.and_true, Bool.true_and, List.take_zero, List.nil_append, List.drop_nil, List.append_nil, List.getElem?_cons_zero, List.getElem?_cons_succ, List.drop_succ_cons, List.drop_zero, List.take_succ_cons, List.cons_append, Nat.reduceLeDiff, r1, r3, v_int1, m1, hl2, hmax, ht]
  refine ⟨⟨by simp at m5; omega, fun j hj => ?_⟩, ?_, vSlice_from ht (m3.mono (by simp; omega)), t3⟩
  · rw [m6 j (by simp; omega) (NotAt.of_from r5 hj), hx1.2 j (by omega), r7 j hj]
  · unfold un
    rw [hk4, hul]
    exact t2
end Go.Proofs.Ythnccfmmeaeibaa

/-! The statements' own rules, from rows. -/
set_option linter.unusedSimpArgs false
set_option linter.unusedVariables false
namespace Go.Proofs.Ythnccfmmeaeibaa
open Go Lon
abbrev RowD := List Int × (List Int × (Bool × ((List Int × (List Int × Unit)) × Unit)))
def RowAt (H : AHeap) (cs : List Value) (r : RowD) : Prop := ∃ vi vo wi wo, cs = [vi, vo, .bool r.2.2.1, wi, wo] ∧ (Nums H .u8 vi r.1 ∧ Cut Try.prog H vi 1 ∧ bytes r.1 ∧ tiny r.1) ∧ (Nums H .u8 vo r.2.1 ∧ Cut Try.prog H vo 1 ∧ bytes r.2.1 ∧ tiny r.2.1) ∧
  (Ints H wi r.2.2.2.1.1 ∧ small r.2.2.2.1.1 ∧ Cut Try.prog H wi 1) ∧ (Ints H wo r.2.2.2.1.2.1 ∧ small r.2.2.2.1.2.1 ∧ Cut Try.prog H wo 1)
theorem RowAt.ext {H H' : AHeap} (hx : Ext H H') {cs : List Value} {r : RowD} (h : RowAt H cs r) : RowAt H' cs r := by
  obtain ⟨vi, vo, wi, wo, h0, ⟨h1, h2, h3⟩, ⟨h4, h5, h6⟩, ⟨h7, h8, h11⟩, ⟨h9, h10, h12⟩⟩ := h
  exact ⟨vi, vo, wi, wo, h0, ⟨h1.ext hx, h2.ext hx, h3⟩, ⟨h4.ext hx, h5.ext hx, h6⟩, ⟨h7.ext hx, h8, h11.ext hx⟩, ⟨h9.ext hx, h10, h12.ext hx⟩⟩
theorem RowAt.go {H H' : AHeap} (hk : Keeps H H') (hv : VerLe H H') {cs : List Value} {r : RowD} (h : RowAt H cs r) : RowAt H' cs r := by
  obtain ⟨vi, vo, wi, wo, h0, ⟨h1, h2, h3⟩, ⟨h4, h5, h6⟩, ⟨h7, h8, h11⟩, ⟨h9, h10, h12⟩⟩ := h
  exact ⟨vi, vo, wi, wo, h0, ⟨Sl.keeps hk h1, h2.ver hv, h3⟩, ⟨Sl.keeps hk h4, h5.ver hv, h6⟩, ⟨h7.keeps hk, h8, h11.ver hv⟩, ⟨h9.keeps hk, h10, h12.ver hv⟩⟩
/-- A slice of rows. -/
def RowsAt (H : AHeap) (v : Value) (R : List RowD) : Prop := ∃ cells, Sl H 5 v R.length cells ∧ Cut Try.prog H v 5 ∧ R.length * 104 ≤ 140737488355328 ∧ ∀ k r, R[k]? = some r → RowAt H ((cells.drop (k * 5)).take 5) r
theorem RowsAt.ext {H H' : AHeap} (hx : Ext H H') {v : Value} {R : List RowD} (h : RowsAt H v R) : RowsAt H' v R := by
  obtain ⟨cells, h1, h2, h3, h4⟩ := h
  exact ⟨cells, h1.ext hx, h2.ext hx, h3, fun k r hr => (h4 k r hr).ext hx⟩
theorem RowsAt.len {H H2 : AHeap} {v : Value} {R : List RowD} (h : RowsAt H v R) : vLen false v H2 = some (.int .i64 R.length, H2) := by
  obtain ⟨cells, h1, _⟩ := h
  exact h1.len
theorem RowsAt.take {H : AHeap} {v : Value} {R : List RowD} {k : Nat} (h : RowsAt H v R) (hk : k ≤ R.length) :
    ∃ v', (∀ kd : IntKind, vSlice (P := Try.prog) v none (some (.int kd k)) 5 H = some (v', H)) ∧ RowsAt H v' (R.take k) := by
  obtain ⟨cells, h1, h2, h3, h4⟩ := h
  obtain ⟨v', g1, g2, g3⟩ := h1.take h2 hk
  have hl := h1.length
  refine ⟨v', g1, cells.take (k * 5), by rw [List.length_take, Nat.min_eq_left hk]; exact g2, g3, by simp; omega, fun j r hr => ?_⟩
  rw [List.getElem?_take] at hr
  split at hr
  · rename_i hj
    have := h4 j r hr
    rw [List.drop_take, List.take_take, Nat.min_eq_left (by omega)]
    exact this
  · cases hr
theorem RowsAt.at {H : AHeap} {v : Value} {R : List RowD} (h : RowsAt H v R) {k : Nat} {r : RowD} (hr : R[k]? = some r) :
    ∃ i o cs, (∀ (kd : IntKind) (H2 : AHeap), vIaddr v (.int kd k) 5 H2 = some (.pointer (some ⟨i, o, none⟩), H2)) ∧ gotLoad (H.get i) o (some 5) H = some (.agg ⟨cs⟩, H) ∧ RowAt H cs r := by
  obtain ⟨cells, h1, h2, h3, h4⟩ := h
  obtain ⟨i, o, a1, a2, a3⟩ := h1.at (List.getElem?_eq_some_iff.1 hr).1
  exact ⟨i, o, _, a1, a3, h4 k r hr⟩
theorem RowsAt.at2 {H : AHeap} {v : Value} {R : List RowD} (h : RowsAt H v R) {k : Nat} {r : RowD} (hr : R[k]? = some r) :
    ∃ R1 R2 odd A1 A2 i o vi vo wi wo, r = (R1, (R2, (odd, ((A1, (A2, ())), ())))) ∧ (∀ (kd : IntKind) (H2 : AHeap), vIaddr v (.int kd k) 5 H2 = some (.pointer (some ⟨i, o, none⟩), H2)) ∧ gotLoad (H.get i) o (some 5) H = some (.agg ⟨[vi, vo, .bool odd, wi, wo]⟩, H) ∧
      (Nums H .u8 vi R1 ∧ Cut Try.prog H vi 1 ∧ bytes R1 ∧ tiny R1) ∧ (Nums H .u8 vo R2 ∧ Cut Try.prog H vo 1 ∧ bytes R2 ∧ tiny R2) ∧ (Ints H wi A1 ∧ small A1 ∧ Cut Try.prog H wi 1) ∧ (Ints H wo A2 ∧ small A2 ∧ Cut Try.prog H wo 1) := by
  obtain ⟨i, o, cs, a1, a2, vi, vo, wi, wo, rfl, h3⟩ := h.at hr
  obtain ⟨R1, R2, odd, ⟨A1, A2, ⟨⟩⟩, ⟨⟩⟩ := r
  exact ⟨R1, R2, odd, A1, A2, i, o, vi, vo, wi, wo, rfl, a1, a2, h3⟩
/-- The rule that a row tells. -/
def rl (r : RowD) : Rl := if r.2.2.1 = true then (r.2.2.2.1.1, r.2.2.2.1.2.1) else (un r.1, un r.2.1)
theorem un_small (l : List Int) : small (un l) := by
  unfold small un
  have : (unl (l.take 4)).length ≤ 4 := by simp [unl]; omega
  rw [List.length_take]
  omega
theorem l_LawRules {a : Value} {B : Nat} {R : List RowD} (hR : R.length ≤ 40) : ∀ (k i : Nat) (H : AHeap) (out : Value), i + k = R.length → RowsAt H a R → OwnRules H 51 out ((R.take i).map rl) → CutR H out → From B out → B ≤ H.n →
    Out (run Try.prog (tabF tab) om1 (.loop [3, 11, 12, 13] b_lontarlaw03_Rules_0) [(3, out), (11, a), (12, .int .i64 R.length), (13, .int .i64 i)] H) fun y e' H' => y = .exit 0 ∧ OwnRules H' 51 (eget e' 3) (R.map rl) ∧ CutR H' (eget e' 3) ∧ B ≤ H'.n ∧ (∀ j, j < B → H'.get j = H.get j) := by
  intro k
  induction k with
  | zero =>
    intro i H out hi ha ho hoc hf hB
    have hlt : ¬ ((i : Int) < R.length) := by omega
    rw [w_loop_b b_lontarlaw03_Rules_0.eq_1]
    rw [List.take_of_length_le (by omega)] at ho
    simp only [w_draw, dr_cons, dr_some, dr_none, dr_go, still_no, still_yes, next_no, next_yes, last_cons, last_nil, isStore, calm_no, calm_nil, calm_cons, calmB_some, isCall, freshI, dr_nil, dr_end, still_nil, still_cons, stillB_some, stamp_some, stampV_ptr, stampV_tuple, stampO, still_here, still_here0, List.nil_append, w_out, w_gives, fin_ret, fin_normal, ress_nil, ress_tmp, pack_one, pack_nil, pack_two, entry_nil, entry_one, entry_two, entry_three, entry_four, eq_skip, eq_exit, eq_ret, w_rows, w_done, w_seq, w_normal, w_ret, w_exit, w_cond, w_true, w_false, eq_block, block_normal, block_ret, block_exit, rows_nil, rows_cons, on_some, on_none, row_plain, row_guard, guard_tt, guard_ff, guard_tf, guard_ft, guard_no, ev_tmp, ev_int, ev_bool, ev_string, ev_slice, ev_pointer, ev_map, ev_float, ev_complex, ev_nilIface, ev_nilFunc, ev_func, eget_cons, eget_nil, st_mv, st_pick, v_pick_t, v_pick_f, st_ext, v_ext0, v_ext1, v_ext2, v_ext3, st_int, v_int, int_add, int_sub, int_mul, int_eql, int_neq, int_lss, int_leq, int_gtr, int_geq, st_beq, v_beq, v_bne, st_not, v_not, st_conv, v_conv, st_faddr, v_faddr, st_iaddr, v_iaddr, st_aaddr, v_aaddr, st_nilChk, v_nil, st_len, v_len, v_lenS, st_load, v_load, got_one, got_row, mem_tip, mem_ro, mem_ret, st_alloc, st_box, st_store, v_store, got_store, cells_agg, cells_int, cells_bool, cells_slice, cells_pointer, cells_string, cells_complex, cells_func, one_int, one_bool, one_slice, one_pointer, one_string, one_complex, one_func, upd_push, get_push_self, AHeap.n_push, AHeap.n_upd, st_build, parts_nil, parts_cons, st_bslice, st_append, st_mkfun, st_mkface, st_isNil, st_max, v_max, st_min, v_min, st_field, st_index, st_slice0, v_slice0, v_slice0n, st_slice, kill_nil, st_call, v_call, forget_nil, forget_cons, Option.map_some, Option.map_none, Option.bind_some, List.map_cons, List.map_nil, if_true, if_false, Nat.reduceEqDiff, Int.reduceEq, Nat.reduceAdd, Nat.reduceMul, Bool.not_true, Bool.not_false, reduceCtorEq, decide_true, decide_false, Int.cast_ofNat_Int, eq_self, Int.reduceLT, Int.reduceLE, Int.reduceToNat, Int.toNat_natCast, Int.le_refl, Nat.le_refl, Nat.zero_add, Nat.add_zero, Nat.zero_mul, Nat.mul_one, Nat.mul_zero, and_self, and_true, true_and, List.length_cons, List.length_nil, List.all_cons, List.all_nil, Bool.and_self, Bool.and_true, Bool.true_and, List.take_zero, List.nil_append, List.drop_nil, List.append_nil, List.getElem?_cons_zero, List.getElem?_cons_succ, List.drop_succ_cons, List.drop_zero, List.take_succ_cons, List.cons_append, Nat.reduceLeDiff, hlt]
    exact ⟨ho, hoc, hB, fun _ _ => trivial⟩
  | succ k ih =>
    intro i H out hi ha ho hoc hf hB
    have hlt : (i : Int) < R.length := by omega
    obtain ⟨r, hr, hdr⟩ := drop_at (L := R) (i := i) (by omega)
    obtain ⟨R1, R2, odd, A1, A2, i1, o1, vi, vo, wi, wo, rfl, h1, h2, ⟨f1, f2, f3, f4⟩, ⟨g1, g2, g3, g4⟩, ⟨e1, e2, e3⟩, ⟨d1, d2, d3⟩⟩ := ha.at2 hr
    have f1' := f1
    have g1' := g1
    have e1' := e1
    have d1' := d1
    obtain ⟨⟨ai, ci, rfl⟩, _⟩ := f1'
    obtain ⟨⟨ao, co, rfl⟩, _⟩ := g1'
    obtain ⟨⟨bi, qi, rfl⟩, _⟩ := e1'
    obtain ⟨⟨bo, qo, rfl⟩, _⟩ := d1'
    have hw2 : IntKind.i64.wrap ((i : Int) + 1) = ((i + 1 : Nat) : Int) := by rw [wrap64 (by omega) (by omega)]; omega
    -- the row's copy, the rule's place
    have hx1 : Ext H (H.push ⟨[.slice ai R1.length ci, .slice ao R2.length co, .bool odd, .slice bi A1.length qi, .slice bo A2.length qo], 82, .tip, 1, []⟩) := Ext.push _ _
    have hx2 : Ext (H.push ⟨[.slice ai R1.length ci, .slice ao R2.length co, .bool odd, .slice bi A1.length qi, .slice bo A2.length qo], 82, .tip, 1, []⟩) ((H.push ⟨[.slice ai R1.length ci, .slice ao R2.length co, .bool odd, .slice bi A1.length qi, .slice bo A2.length qo], 82, .tip, 1, []⟩).push ⟨[.slice none 0 0, .slice none 0 0], 51, .tip, 0, []⟩) := Ext.push _ _
    have b1 : (H.push ⟨[.slice ai R1.length ci, .slice ao R2.length co, .bool odd, .slice bi A1.length qi, .slice bo A2.length qo], 82, .tip, 1, []⟩).get H.n = _ := get_push_self
    obtain ⟨v3, H3, u1, u2, u3, u4, u5⟩ := c_units ((f1.ext hx1).ext hx2) ((f2.ext hx1).ext hx2) f3 f4
    obtain ⟨v4, H4, t1, t2, t3, t4, t5⟩ := c_units (((g1.ext hx1).ext hx2).ext u2) (((g2.ext hx1).ext hx2).ext u2) g3 g4
    have u3' := u3
    have t3' := t3
    obtain ⟨⟨p3, q3, rfl⟩, _⟩ := u3'
    obtain ⟨⟨p4, q4, rfl⟩, _⟩ := t3'
    have p2 := get_push_self (H := H.push ⟨[.slice ai R1.length ci, .slice ao R2.length co, .bool odd, .slice bi A1.length qi, .slice bo A2.length qo], 82, .tip, 1, []⟩) (b := ⟨[.slice none 0 0, .slice none 0 0], 51, .tip, 0, []⟩)
    rw [AHeap.n_push] at p2
    have p3' := u2.get p2
    have p4' := t2.get p3'
    have c2 := hx2.get b1
    have c3 := u2.get c2
    have c4 := t2.get c3
    have hx4 : Ext H H4 := ((hx1.trans hx2).trans u2).trans t2
    have hne : H.n ≠ H.n + 1 := by omega
    -- the rule is laid
    have hx5 : Ext H (H4.upd (H.n + 1) ⟨[.slice p3 (un R1).length q3, .slice p4 (un R2).length q4], 51, .tip, 1, []⟩) := hx4.upd p4' (by omega)
    have b5 : (H4.upd (H.n + 1) ⟨[.slice p3 (un R1).length q3, .slice p4 (un R2).length q4], 51, .tip, 1, []⟩).get (H.n + 1) = _ := upd_self p4'
    have c5 : (H4.upd (H.n + 1) ⟨[.slice p3 (un R1).length q3, .slice p4 (un R2).length q4], 51, .tip, 1, []⟩).get H.n = _ := (upd_other p4' hne).trans c4
    -- what is laid is read again
    have fin : ∀ (H6 : AHeap) (x y : Value) (rr : Rl), Ext H H6 → Ints H6 x rr.1 → Ints H6 y rr.2 → Cut Try.prog H6 x 1 → Cut Try.prog H6 y 1 → tiny rr.1 → tiny rr.2 → rr = rl (R1, (R2, (odd, ((A1, (A2, ())), ())))) →
        ∃ v' H7, appendA (H6.push ⟨[x, y], 51, .tip, 0, []⟩) out (.slice (some ⟨H6.n, 0, none⟩) 1 2) 51 2 48 = some (v', H7) ∧ Out (run Try.prog (tabF tab) om1 (.loop [3, 11, 12, 13] b_lontarlaw03_Rules_0) [(3, v'), (11, a), (12, .int .i64 R.length), (13, .int .i64 ((i + 1 : Nat) : Int))] H7) fun y e' H' => y = .exit 0 ∧ OwnRules H' 51 (eget e' 3) (R.map rl) ∧ CutR H' (eget e' 3) ∧ B ≤ H'.n ∧ (∀ j, j < B → H'.get j = H.get j) := by
      intro H6 x y rr hx6 hix hiy hcx hcy ht1 ht2 hrr
      have hx7 := Ext.push H6 ⟨[x, y], 51, .tip, 0, []⟩
      obtain ⟨v', H7, m1, m2, m3, m4, m5, m6, m7, m8⟩ := OwnRules.appendC (el := 51) (bytes := 48) (r := rr) (ho.ext (hx6.trans hx7)) (hoc.ext (hx6.trans hx7)) (Sl.new (n := 1) (c := 2) (get_push_self (H := H6) (b := ⟨[x, y], 51, .tip, 0, []⟩)) mem_tip rfl) (hix.ext hx7) (hiy.ext hx7) ht1 ht2 (hcx.ext hx7) (hcy.ext hx7) (by simp; omega)
      have hdone : (R.take i).map rl ++ [rr] = (R.take (i + 1)).map rl := by rw [List.take_add_one, hr, hrr]; simp
      rw [hdone] at m2
      have hkeep : RowsAt H7 a R := by
        obtain ⟨cells, w1, w2, w3, w4⟩ := ha
        have hxx := hx6.trans hx7
        have cutk : ∀ {v : Value} {sz : Nat}, Cut Try.prog H v sz → Cut Try.prog H7 v sz := fun hc => (hc.ext hxx).ver (appendA_ver m1)
        refine ⟨cells, (w1.ext hxx).keeps m4, cutk w2, w3, fun k' r' hr' => ?_⟩
        obtain ⟨vi, vo, wi, wo, h0, ⟨z1, z2, z3⟩, ⟨z4, z5, z6⟩, ⟨z7, z8, z11⟩, ⟨z9, z10, z12⟩⟩ := w4 k' r' hr'
        exact ⟨vi, vo, wi, wo, h0, ⟨Sl.keeps m4 (z1.ext hxx), cutk z2, z3⟩, ⟨Sl.keeps m4 (z4.ext hxx), cutk z5, z6⟩, ⟨(z7.ext hxx).keeps m4, z8, cutk z11⟩, ⟨(z9.ext hxx).keeps m4, z10, cutk z12⟩⟩
      obtain ⟨y', e', H', r1, r2, r3, rc, r4, r5⟩ := ih (i + 1) H7 v' (by omega) hkeep m2 m7 (m3.mono (by have := hx6.1; simp; omega)) (by have := hx6.1; simp at m5; omega)
      refine ⟨v', H7, m1, y', e', H', r1, r2, r3, rc, r4, fun j hj => ?_⟩
      rw [r5 j hj, m6 j (by have := hx6.1; simp; omega) (NotAt.of_from hf hj), hx7.2 j (by have := hx6.1; omega), hx6.2 j (by omega)]
    rw [w_loop_b b_lontarlaw03_Rules_0.eq_1]
    have cu : ∀ {Ha : AHeap} {v : Value} {b : ABlk}, Cut Try.prog Ha v 1 → Ext Ha H4 → H4.get (H.n + 1) = some b → Cut Try.prog (H4.upd (H.n + 1) ⟨[.slice p3 (un R1).length q3, .slice p4 (un R2).length q4], 51, .tip, 1, []⟩) v 1 := fun {Ha v b} hc hx hg => by
      have hc4 := hc.ext hx
      unfold Cut at hc4 ⊢
      split
      · rename_i q o m n
        simp only at hc4
        obtain ⟨b', w1, w2⟩ := hc4
        by_cases e : q = H.n + 1
        · subst e
          rw [p4'] at w1
          injection w1 with w1
          subst w1
          exact ⟨_, b5, w2⟩
        · exact ⟨b', by rw [upd_other p4' e]; exact w1, w2⟩
      · trivial
    have s1 : tiny (un R1) := (un_small R1).tiny
    have s2 : tiny (un R2) := (un_small R2).tiny
    cases odd with
    | false =>
      have i3 : Ints (H4.upd (H.n + 1) ⟨[.slice p3 (un R1).length q3, .slice p4 (un R2).length q4], 51, .tip, 1, []⟩) (.slice p3 (un R1).length q3) (un R1) := Sl.upd (u3.ext t2) p4' (NotAt.of_from u4 (by simp))
      have i4 : Ints (H4.upd (H.n + 1) ⟨[.slice p3 (un R1).length q3, .slice p4 (un R2).length q4], 51, .tip, 1, []⟩) (.slice p4 (un R2).length q4) (un R2) := Sl.upd t3 p4' (NotAt.of_from t4 (by have := u2.1; simp at this; omega))
      obtain ⟨v', H7, m1, y, e', H', w1, w2, w3, wc, w4, w5⟩ := fin _ _ _ (un R1, un R2) hx5 i3 i4 (cu u5 t2 p4') (cu t5 (Ext.refl _) p4') s1 s2 rfl
      simp only [AHeap.n_upd] at m1
      simp only [w_draw, dr_cons, dr_some, dr_none, dr_go, still_no, still_yes, next_no, next_yes, last_cons, last_nil, isStore, calm_no, calm_nil, calm_cons, calmB_some, isCall, freshI, dr_nil, dr_end, still_nil, still_cons, stillB_some, stamp_some, stampV_ptr, stampV_tuple, stampO, still_here, still_here0, List.nil_append, w_out, w_gives, fin_ret, fin_normal, ress_nil, ress_tmp, pack_one, pack_nil, pack_two, entry_nil, entry_one, entry_two, entry_three, entry_four, eq_skip, eq_exit, eq_ret, w_rows, w_done, w_seq, w_normal, w_ret, w_exit, w_cond, w_true, w_false, eq_block, block_normal, block_ret, block_exit, rows_nil, rows_cons, on_some, on_none, row_plain, row_guard, guard_tt, guard_ff, guard_tf, guard_ft, guard_no, ev_tmp, ev_int, ev_bool, ev_string, ev_slice, ev_pointer, ev_map, ev_float, ev_complex, ev_nilIface, ev_nilFunc, ev_func, eget_cons, eget_nil, st_mv, st_pick, v_pick_t, v_pick_f, st_ext, v_ext0, v_ext1, v_ext2, v_ext3, st_int, v_int, int_add, int_sub, int_mul, int_eql, int_neq, int_lss, int_leq, int_gtr, int_geq, st_beq, v_beq, v_bne, st_not, v_not, st_conv, v_conv, st_faddr, v_faddr, st_iaddr, v_iaddr, st_aaddr, v_aaddr, st_nilChk, v_nil, st_len, v_len, v_lenS, st_load, v_load, got_one, got_row, mem_tip, mem_ro, mem_ret, st_alloc, st_box, st_store, v_store, got_store, cells_agg, cells_int, cells_bool, cells_slice, cells_pointer, cells_string, cells_complex, cells_func, one_int, one_bool, one_slice, one_pointer, one_string, one_complex, one_func, upd_push, get_push_self, AHeap.n_push, AHeap.n_upd, st_build, parts_nil, parts_cons, st_bslice, st_append, st_mkfun, st_mkface, st_isNil, st_max, v_max, st_min, v_min, st_field, st_index, st_slice0, v_slice0, v_slice0n, st_slice, kill_nil, st_call, v_call, forget_nil, forget_cons, Option.map_some, Option.map_none, Option.bind_some, List.map_cons, List.map_nil, if_true, if_false, Nat.reduceEqDiff, Int.reduceEq, Nat.reduceAdd, Nat.reduceMul, Bool.not_true, Bool.not_false, reduceCtorEq, decide_true, decide_false, Int.cast_ofNat_Int, eq_self, Int.reduceLT, Int.reduceLE, Int.reduceToNat, Int.toNat_natCast, Int.le_refl, Nat.le_refl, Nat.zero_add, Nat.add_zero, Nat.zero_mul, Nat.mul_one, Nat.mul_zero, and_self, and_true, true_and, List.length_cons, List.length_nil, List.all_cons, List.all_nil, Bool.and_self, Bool.and_true, Bool.true_and, List.take_zero, List.nil_append, List.drop_nil, List.append_nil, List.getElem?_cons_zero, List.getElem?_cons_succ, List.drop_succ_cons, List.drop_zero, List.take_succ_cons, List.cons_append, Nat.reduceLeDiff, hlt, h1, h2, c2, p2, u1, p3', t1, p4', c4, v_rule, b5, c5, v_rule1, m1, hw2]
      rw [w_enter]
      simp only [w_draw, dr_cons, dr_some, dr_none, dr_go, still_no, still_yes, next_no, next_yes, last_cons, last_nil, isStore, calm_no, calm_nil, calm_cons, calmB_some, isCall, freshI, dr_nil, dr_end, still_nil, still_cons, stillB_some, stamp_some, stampV_ptr, stampV_tuple, stampO, still_here, still_here0, List.nil_append, w_out, w_gives, fin_ret, fin_normal, ress_nil, ress_tmp, pack_one, pack_nil, pack_two, entry_nil, entry_one, entry_two, entry_three, entry_four, eq_skip, eq_exit, eq_ret, w_rows, w_done, w_seq, w_normal, w_ret, w_exit, w_cond, w_true, w_false, eq_block, block_normal, block_ret, block_exit, rows_nil, rows_cons, on_some, on_none, row_plain, row_guard, guard_tt, guard_ff, guard_tf, guard_ft, guard_no, ev_tmp, ev_int, ev_bool, ev_string, ev_slice, ev_pointer, ev_map, ev_float, ev_complex, ev_nilIface, ev_nilFunc, ev_func, eget_cons, eget_nil, st_mv, st_pick, v_pick_t, v_pick_f, st_ext, v_ext0, v_ext1, v_ext2, v_ext3, st_int, v_int, int_add, int_sub, int_mul, int_eql, int_neq, int_lss, int_leq, int_gtr, int_geq, st_beq, v_beq, v_bne, st_not, v_not, st_conv, v_conv, st_faddr, v_faddr, st_iaddr, v_iaddr, st_aaddr, v_aaddr, st_nilChk, v_nil, st_len, v_len, v_lenS, st_load, v_load, got_one, got_row, mem_tip, mem_ro, mem_ret, st_alloc, st_box, st_store, v_store, got_store, cells_agg, cells_int, cells_bool, cells_slice, cells_pointer, cells_string, cells_complex, cells_func, one_int, one_bool, one_slice, one_pointer, one_string, one_complex, one_func, upd_push, get_push_self, AHeap.n_push, AHeap.n_upd, st_build, parts_nil, parts_cons, st_bslice, st_append, st_mkfun, st_mkface, st_isNil, st_max, v_max, st_min, v_min, st_field, st_index, st_slice0, v_slice0, v_slice0n, st_slice, kill_nil, st_call, v_call, forget_nil, forget_cons, Option.map_some, Option.map_none, Option.bind_some, List.map_cons, List.map_nil, if_true, if_false, Nat.reduceEqDiff, Int.reduceEq, Nat.reduceAdd, Nat.reduceMul, Bool.not_true, Bool.not_false, reduceCtorEq, decide_true, decide_false, Int.cast_ofNat_Int, eq_self, Int.reduceLT, Int.reduceLE, Int.reduceToNat, Int.toNat_natCast, Int.le_refl, Nat.le_refl, Nat.zero_add, Nat.add_zero, Nat.zero_mul, Nat.mul_one, Nat.mul_zero, and_self, and_true, true_and, List.length_cons, List.length_nil, List.all_cons, List.all_nil, Bool.and_self, Bool.and_true, Bool.true_and, List.take_zero, List.nil_append, List.drop_nil, List.append_nil, List.getElem?_cons_zero, List.getElem?_cons_succ, List.drop_succ_cons, List.drop_zero, List.take_succ_cons, List.cons_append, Nat.reduceLeDiff, w1]
      exact ⟨w2, w3, wc, w4, w5⟩
    | true =>
      have b6 : ((H4.upd (H.n + 1) ⟨[.slice p3 (un R1).length q3, .slice p4 (un R2).length q4], 51, .tip, 1, []⟩).upd (H.n + 1) ⟨[.slice bi A1.length qi, .slice bo A2.length qo], 51, .tip, 2, []⟩).get (H.n + 1) = _ := upd_self b5
      have hx6 : Ext H ((H4.upd (H.n + 1) ⟨[.slice p3 (un R1).length q3, .slice p4 (un R2).length q4], 51, .tip, 1, []⟩).upd (H.n + 1) ⟨[.slice bi A1.length qi, .slice bo A2.length qo], 51, .tip, 2, []⟩) := hx5.upd b5 (by omega)
      have i3 : Ints ((H4.upd (H.n + 1) ⟨[.slice p3 (un R1).length q3, .slice p4 (un R2).length q4], 51, .tip, 1, []⟩).upd (H.n + 1) ⟨[.slice bi A1.length qi, .slice bo A2.length qo], 51, .tip, 2, []⟩) (.slice bi A1.length qi) A1 := e1.upd hx5 b5 (by omega)
      have i4 : Ints ((H4.upd (H.n + 1) ⟨[.slice p3 (un R1).length q3, .slice p4 (un R2).length q4], 51, .tip, 1, []⟩).upd (H.n + 1) ⟨[.slice bi A1.length qi, .slice bo A2.length qo], 51, .tip, 2, []⟩) (.slice bo A2.length qo) A2 := d1.upd hx5 b5 (by omega)
      obtain ⟨v', H7, m1, y, e', H', w1, w2, w3, wc, w4, w5⟩ := fin _ _ _ (A1, A2) hx6 i3 i4 (e3.ext hx6) (d3.ext hx6) e2.tiny d2.tiny rfl
      simp only [AHeap.n_upd] at m1
      simp only [w_draw, dr_cons, dr_some, dr_none, dr_go, still_no, still_yes, next_no, next_yes, last_cons, last_nil, isStore, calm_no, calm_nil, calm_cons, calmB_some, isCall, freshI, dr_nil, dr_end, still_nil, still_cons, stillB_some, stamp_some, stampV_ptr, stampV_tuple, stampO, still_here, still_here0, List.nil_append, w_out, w_gives, fin_ret, fin_normal, ress_nil, ress_tmp, pack_one, pack_nil, pack_two, entry_nil, entry_one, entry_two, entry_three, entry_four, eq_skip, eq_exit, eq_ret, w_rows, w_done, w_seq, w_normal, w_ret, w_exit, w_cond, w_true, w_false, eq_block, block_normal, block_ret, block_exit, rows_nil, rows_cons, on_some, on_none, row_plain, row_guard, guard_tt, guard_ff, guard_tf, guard_ft, guard_no, ev_tmp, ev_int, ev_bool, ev_string, ev_slice, ev_pointer, ev_map, ev_float, ev_complex, ev_nilIface, ev_nilFunc, ev_func, eget_cons, eget_nil, st_mv, st_pick, v_pick_t, v_pick_f, st_ext, v_ext0, v_ext1, v_ext2, v_ext3, st_int, v_int, int_add, int_sub, int_mul, int_eql, int_neq, int_lss, int_leq, int_gtr, int_geq, st_beq, v_beq, v_bne, st_not, v_not, st_conv, v_conv, st_faddr, v_faddr, st_iaddr, v_iaddr, st_aaddr, v_aaddr, st_nilChk, v_nil, st_len, v_len, v_lenS, st_load, v_load, got_one, got_row, mem_tip, mem_ro, mem_ret, st_alloc, st_box, st_store, v_store, got_store, cells_agg, cells_int, cells_bool, cells_slice, cells_pointer, cells_string, cells_complex, cells_func, one_int, one_bool, one_slice, one_pointer, one_string, one_complex, one_func, upd_push, get_push_self, AHeap.n_push, AHeap.n_upd, st_build, parts_nil, parts_cons, st_bslice, st_append, st_mkfun, st_mkface, st_isNil, st_max, v_max, st_min, v_min, st_field, st_index, st_slice0, v_slice0, v_slice0n, st_slice, kill_nil, st_call, v_call, forget_nil, forget_cons, Option.map_some, Option.map_none, Option.bind_some, List.map_cons, List.map_nil, if_true, if_false, Nat.reduceEqDiff, Int.reduceEq, Nat.reduceAdd, Nat.reduceMul, Bool.not_true, Bool.not_false, reduceCtorEq, decide_true, decide_false, Int.cast_ofNat_Int, eq_self, Int.reduceLT, Int.reduceLE, Int.reduceToNat, Int.toNat_natCast, Int.le_refl, Nat.le_refl, Nat.zero_add, Nat.add_zero, Nat.zero_mul, Nat.mul_one, Nat.mul_zero, and_self, and_true, true_and, List.length_cons, List.length_nil, List.all_cons, List.all_nil, Bool.and_self, Bool.and_true, Bool.true_and, List.take_zero, List.nil_append, List.drop_nil, List.append_nil, List.getElem?_cons_zero, List.getElem?_cons_succ, List.drop_succ_cons, List.drop_zero, List.take_succ_cons, List.cons_append, Nat.reduceLeDiff, hlt, h1, h2, c2, p2, u1, p3', t1, p4', c4, v_rule, b5, c5, b6, v_rule1, m1, hw2]
      rw [w_enter]
      simp only [w_draw, dr_cons, dr_some, dr_none, dr_go, still_no, still_yes, next_no, next_yes, last_cons, last_nil, isStore, calm_no, calm_nil, calm_cons, calmB_some, isCall, freshI, dr_nil, dr_end, still_nil, still_cons, stillB_some, stamp_some, stampV_ptr, stampV_tuple, stampO, still_here, still_here0, List.nil_append, w_out, w_gives, fin_ret, fin_normal, ress_nil, ress_tmp, pack_one, pack_nil, pack_two, entry_nil, entry_one, entry_two, entry_three, entry_four, eq_skip, eq_exit, eq_ret, w_rows, w_done, w_seq, w_normal, w_ret, w_exit, w_cond, w_true, w_false, eq_block, block_normal, block_ret, block_exit, rows_nil, rows_cons, on_some, on_none, row_plain, row_guard, guard_tt, guard_ff, guard_tf, guard_ft, guard_no, ev_tmp, ev_int, ev_bool, ev_string, ev_slice, ev_pointer, ev_map, ev_float, ev_complex, ev_nilIface, ev_nilFunc, ev_func, eget_cons, eget_nil, st_mv, st_pick, v_pick_t, v_pick_f, st_ext, v_ext0, v_ext1, v_ext2, v_ext3, st_int, v_int, int_add, int_sub, int_mul, int_eql, int_neq, int_lss, int_leq, int_gtr, int_geq, st_beq, v_beq, v_bne, st_not, v_not, st_conv, v_conv, st_faddr, v_faddr, st_iaddr, v_iaddr, st_aaddr, v_aaddr, st_nilChk, v_nil, st_len, v_len, v_lenS, st_load, v_load, got_one, got_row, mem_tip, mem_ro, mem_ret, st_alloc, st_box, st_store, v_store, got_store, cells_agg, cells_int, cells_bool, cells_slice, cells_pointer, cells_string, cells_complex, cells_func, one_int, one_bool, one_slice, one_pointer, one_string, one_complex, one_func, upd_push, get_push_self, AHeap.n_push, AHeap.n_upd, st_build, parts_nil, parts_cons, st_bslice, st_append, st_mkfun, st_mkface, st_isNil, st_max, v_max, st_min, v_min, st_field, st_index, st_slice0, v_slice0, v_slice0n, st_slice, kill_nil, st_call, v_call, forget_nil, forget_cons, Option.map_some, Option.map_none, Option.bind_some, List.map_cons, List.map_nil, if_true, if_false, Nat.reduceEqDiff, Int.reduceEq, Nat.reduceAdd, Nat.reduceMul, Bool.not_true, Bool.not_false, reduceCtorEq, decide_true, decide_false, Int.cast_ofNat_Int, eq_self, Int.reduceLT, Int.reduceLE, Int.reduceToNat, Int.toNat_natCast, Int.le_refl, Nat.le_refl, Nat.zero_add, Nat.add_zero, Nat.zero_mul, Nat.mul_one, Nat.mul_zero, and_self, and_true, true_and, List.length_cons, List.length_nil, List.all_cons, List.all_nil, Bool.and_self, Bool.and_true, Bool.true_and, List.take_zero, List.nil_append, List.drop_nil, List.append_nil, List.getElem?_cons_zero, List.getElem?_cons_succ, List.drop_succ_cons, List.drop_zero, List.take_succ_cons, List.cons_append, Nat.reduceLeDiff, w1]
      exact ⟨w2, w3, wc, w4, w5⟩
def RL (R : List RowD) : List Rl := (R.take 40).map rl
theorem RL_len (R : List RowD) : (RL R).length ≤ 40 := by simp [RL]; omega
theorem c_Rules {a : Value} {R : List RowD} {H : AHeap} (ha : RowsAt H a R) : Gives (cw Try.prog (tabF tab) om1 32 [a] H) fun v H' => Ext H H' ∧ OwnRules H' 51 v (RL R) ∧ CutR H' v := by
  rw [cw_run (F := F_lontarlaw03_Rules) rfl rfl rfl]
  unfold F_lontarlaw03_Rules k_lontarlaw03_Rules
  obtain ⟨k, hk⟩ : ∃ k : Nat, k = min R.length 40 := ⟨_, rfl⟩
  obtain ⟨a', s1, s2⟩ := ha.take (show k ≤ R.length by omega)
  have hmin : (if (40 : Int) < (R.length : Int) then (40 : Int) else (R.length : Int)) = (k : Int) := by split <;> omega
  have hkl : (R.take k).length = k := by simp; omega
  have hk4 : R.take 40 = R.take k := by
    subst hk
    rcases Nat.le_total R.length 40 with h | h
    · rw [Nat.min_eq_left h, List.take_of_length_le h, List.take_length]
    · rw [Nat.min_eq_right h]
  obtain ⟨y, e', H', r1, rfl, r3, rc, r4, r5⟩ := l_LawRules (a := a') (R := R.take k) (B := H.n) (by omega) (R.take k).length 0 H (.slice none 0 0) (by omega) s2 (OwnRules.nil _ _) (CutR.nil _) trivial (Nat.le_refl _)
  rw [hkl] at r1
  have hl0 := ha.len (H2 := H)
  have hl1 := s2.len (H2 := H)
  rw [hkl] at hl1
  simp only [Int.cast_ofNat_Int] at r1
  have s1' := s1 .i64
  simp only [w_draw, dr_cons, dr_some, dr_none, dr_go, still_no, still_yes, next_no, next_yes, last_cons, last_nil, isStore, calm_no, calm_nil, calm_cons, calmB_some, isCall, freshI, dr_nil, dr_end, still_nil, still_cons, stillB_some, stamp_some, stampV_ptr, stampV_tuple, stampO, still_here, still_here0, List.nil_append, w_out, w_gives, fin_ret, fin_normal, ress_nil, ress_tmp, pack_one, pack_nil, pack_two, entry_nil, entry_one, entry_two, entry_three, entry_four, eq_skip, eq_exit, eq_ret, w_rows, w_done, w_seq, w_normal, w_ret, w_exit, w_cond, w_true, w_false, eq_block, block_normal, block_ret, block_exit, rows_nil, rows_cons, on_some, on_none, row_plain, row_guard, guard_tt, guard_ff, guard_tf, guard_ft, guard_no, ev_tmp, ev_int, ev_bool, ev_string, ev_slice, ev_pointer, ev_map, ev_float, ev_complex, ev_nilIface, ev_nilFunc, ev_func, eget_cons, eget_nil, st_mv, st_pick, v_pick_t, v_pick_f, st_ext, v_ext0, v_ext1, v_ext2, v_ext3, st_int, v_int, int_add, int_sub, int_mul, int_eql, int_neq, int_lss, int_leq, int_gtr, int_geq, st_beq, v_beq, v_bne, st_not, v_not, st_conv, v_conv, st_faddr, v_faddr, st_iaddr, v_iaddr, st_aaddr, v_aaddr, st_nilChk, v_nil, st_len, v_len, v_lenS, st_load, v_load, got_one, got_row, mem_tip, mem_ro, mem_ret, st_alloc, st_box, st_store, v_store, got_store, cells_agg, cells_int, cells_bool, cells_slice, cells_pointer, cells_string, cells_complex, cells_func, one_int, one_bool, one_slice, one_pointer, one_string, one_complex, one_func, upd_push, get_push_self, AHeap.n_push, AHeap.n_upd, st_build, parts_nil, parts_cons, st_bslice, st_append, st_mkfun, st_mkface, st_isNil, st_max, v_max, st_min, v_min, st_field, st_index, st_slice0, v_slice0, v_slice0n, st_slice, kill_nil, st_call, v_call, forget_nil, forget_cons, Option.map_some, Option.map_none, Option.bind_some, List.map_cons, List.map_nil, if_true, if_false, Nat.reduceEqDiff, Int.reduceEq, Nat.reduceAdd, Nat.reduceMul, Bool.not_true, Bool.not_false, reduceCtorEq, decide_true, decide_false, Int.cast_ofNat_Int, eq_self, Int.reduceLT, Int.reduceLE, Int.reduceToNat, Int.toNat_natCast, Int.le_refl, Nat.le_refl, Nat.zero_add, Nat.add_zero, Nat.zero_mul, Nat.mul_one, Nat.mul_zero, and_self, and_true, true_and, List.length_cons, List.length_nil, List.all_cons, List.all_nil, Bool.and_self, Bool.and_true, Bool.true_and, List.take_zero, List.nil_append, List.drop_nil, List.append_nil, List.getElem?_cons_zero, List.getElem?_cons_succ, List.drop_succ_cons, List.drop_zero, List.take_succ_cons, List.cons_append, Nat.reduceLeDiff, hl0, hmin, s1', hl1]
  rw [w_enter]
  simp only [w_draw, dr_cons, dr_some, dr_none, dr_go, still_no, still_yes, next_no, next_yes, last_cons, last_nil, isStore, calm_no, calm_nil, calm_cons, calmB_some, isCall, freshI, dr_nil, dr_end, still_nil, still_cons, stillB_some, stamp_some, stampV_ptr, stampV_tuple, stampO, still_here, still_here0, List.nil_append, w_out, w_gives, fin_ret, fin_normal, ress_nil, ress_tmp, pack_one, pack_nil, pack_two, entry_nil, entry_one, entry_two, entry_three, entry_four, eq_skip, eq_exit, eq_ret, w_rows, w_done, w_seq, w_normal, w_ret, w_exit, w_cond, w_true, w_false, eq_block, block_normal, block_ret, block_exit, rows_nil, rows_cons, on_some, on_none, row_plain, row_guard, guard_tt, guard_ff, guard_tf, guard_ft, guard_no, ev_tmp, ev_int, ev_bool, ev_string, ev_slice, ev_pointer, ev_map, ev_float, ev_complex, ev_nilIface, ev_nilFunc, ev_func, eget_cons, eget_nil, st_mv, st_pick, v_pick_t, v_pick_f, st_ext, v_ext0, v_ext1, v_ext2, v_ext3, st_int, v_int, int_add, int_sub, int_mul, int_eql, int_neq, int_lss, int_leq, int_gtr, int_geq, st_beq, v_beq, v_bne, st_not, v_not, st_conv, v_conv, st_faddr, v_faddr, st_iaddr, v_iaddr, st_aaddr, v_aaddr, st_nilChk, v_nil, st_len, v_len, v_lenS, st_load, v_load, got_one, got_row, mem_tip, mem_ro, mem_ret, st_alloc, st_box, st_store, v_store, got_store, cells_agg, cells_int, cells_bool, cells_slice, cells_pointer, cells_string, cells_complex, cells_func, one_int, one_bool, one_slice, one_pointer, one_string, one_complex, one_func, upd_push, get_push_self, AHeap.n_push, AHeap.n_upd, st_build, parts_nil, parts_cons, st_bslice, st_append, st_mkfun, st_mkface, st_isNil, st_max, v_max, st_min, v_min, st_field, st_index, st_slice0, v_slice0, v_slice0n, st_slice, kill_nil, st_call, v_call, forget_nil, forget_cons, Option.map_some, Option.map_none, Option.bind_some, List.map_cons, List.map_nil, if_true, if_false, Nat.reduceEqDiff, Int.reduceEq, Nat.reduceAdd, Nat.reduceMul, Bool.not_true, Bool.not_false, reduceCtorEq, decide_true, decide_false, Int.cast_ofNat_Int, eq_self, Int.reduceLT, Int.reduceLE, Int.reduceToNat, Int.toNat_natCast, Int.le_refl, Nat.le_refl, Nat.zero_add, Nat.add_zero, Nat.zero_mul, Nat.mul_one, Nat.mul_zero, and_self, and_true, true_and, List.length_cons, List.length_nil, List.all_cons, List.all_nil, Bool.and_self, Bool.and_true, Bool.true_and, List.take_zero, List.nil_append, List.drop_nil, List.append_nil, List.getElem?_cons_zero, List.getElem?_cons_succ, List.drop_succ_cons, List.drop_zero, List.take_succ_cons, List.cons_append, Nat.reduceLeDiff, r1]
  unfold RL
  rw [hk4]
  exact ⟨⟨r4, r5⟩, r3, rc⟩
end Go.Proofs.Ythnccfmmeaeibaa

/-! The statements' own rules that are right. -/
set_option linter.unusedSimpArgs false
set_option linter.unusedVariables false
namespace Go.Proofs.Ythnccfmmeaeibaa
open Go Lon
set_option maxRecDepth 100000
def rgt : List Rl → List Rl → List Rl
  | [], T => T
  | r :: L, T => if sideB r.1 = true ∧ sideB r.2 = true ∧ fnd T r.1 < 0 then rgt L (T ++ [r]) else rgt L T
/-- Rules that are right. -/
def Good (T : List Rl) : Prop := (∀ r ∈ T, sideB r.1 = true ∧ sideB r.2 = true) ∧ ∀ k r, T[k]? = some r → fnd (T.take k) r.1 < 0
theorem Good.nil : Good [] := ⟨(fun r h => by cases h), (fun k r h => by simp at h)⟩
theorem Good.snoc {T : List Rl} {r : Rl} (h : Good T) (h1 : sideB r.1 = true) (h2 : sideB r.2 = true) (h3 : fnd T r.1 < 0) : Good (T ++ [r]) := by
  refine ⟨fun x hx => ?_, fun k x hx => ?_⟩
  · rcases List.mem_append.1 hx with hx | hx
    · exact h.1 x hx
    · simp at hx; subst hx; exact ⟨h1, h2⟩
  · rcases Nat.lt_or_ge k T.length with hk | hk
    · rw [List.getElem?_append_left hk] at hx
      rw [List.take_append_of_le_length (by omega)]
      exact h.2 k x hx
    · have hk0 : k = T.length := by
        have := (List.getElem?_eq_some_iff.1 hx).1
        simp at this
        omega
      subst hk0
      simp at hx
      subst hx
      rw [List.take_left]
      exact h3
theorem rgt_good : ∀ {L T : List Rl}, Good T → Good (rgt L T)
  | [], T, h => h
  | r :: L, T, h => by
    unfold rgt
    split
    · rename_i hc
      exact rgt_good (h.snoc hc.1 hc.2.1 hc.2.2)
    · exact rgt_good h
theorem rgt_len : ∀ {L T : List Rl}, (rgt L T).length ≤ T.length + L.length
  | [], T => by simp [rgt]
  | r :: L, T => by
    unfold rgt
    split
    · have := rgt_len (L := L) (T := T ++ [r]); simp at this ⊢; omega
    · have := rgt_len (L := L) (T := T); simp; omega
theorem rgt_mem : ∀ {L T : List Rl} {r : Rl}, r ∈ rgt L T → r ∈ T ∨ r ∈ L
  | [], T, r, h => .inl h
  | a :: L, T, r, h => by
    unfold rgt at h
    split at h
    · rcases rgt_mem h with h | h
      · rcases List.mem_append.1 h with h | h
        · exact .inl h
        · simp at h; subst h; exact .inr (List.mem_cons_self ..)
      · exact .inr (List.mem_cons_of_mem _ h)
    · rcases rgt_mem h with h | h
      · exact .inl h
      · exact .inr (List.mem_cons_of_mem _ h)
theorem l_Right {a : Value} {L : List Rl} {B : Nat} (hL : L.length < 1000000) : ∀ (k i : Nat) (H : AHeap) (out : Value) (T : List Rl), i + k = L.length → Rules H a L → CutR H a → OwnRules H 51 out T → CutR H out → T.length ≤ i → From B out → B ≤ H.n →
    Out (run Try.prog (tabF tab) om1 (.loop [3, 7, 8, 9] b_lontarlaw03_Right_0) [(3, out), (7, a), (8, .int .i64 L.length), (9, .int .i64 i)] H) fun y e' H' => y = .exit 0 ∧ OwnRules H' 51 (eget e' 3) (rgt (L.drop i) T) ∧ CutR H' (eget e' 3) ∧ B ≤ H'.n ∧ (∀ j, j < B → H'.get j = H.get j) := by
  intro k
  induction k with
  | zero =>
    intro i H out T hi ha hac ho hoc hT hf hB
    have hlt : ¬ ((i : Int) < L.length) := by omega
    rw [w_loop_b b_lontarlaw03_Right_0.eq_1, List.drop_of_length_le (by omega)]
    simp only [w_draw, dr_cons, dr_some, dr_none, dr_go, still_no, still_yes, next_no, next_yes, last_cons, last_nil, isStore, calm_no, calm_nil, calm_cons, calmB_some, isCall, freshI, dr_nil, dr_end, still_nil, still_cons, stillB_some, stamp_some, stampV_ptr, stampV_tuple, stampO, still_here, still_here0, List.nil_append, w_out, w_gives, fin_ret, fin_normal, ress_nil, ress_tmp, pack_one, pack_nil, pack_two, entry_nil, entry_one, entry_two, entry_three, entry_four, eq_skip, eq_exit, eq_ret, w_rows, w_done, w_seq, w_normal, w_ret, w_exit, w_cond, w_true, w_false, eq_block, block_normal, block_ret, block_exit, rows_nil, rows_cons, on_some, on_none, row_plain, row_guard, guard_tt, guard_ff, guard_tf, guard_ft, guard_no, ev_tmp, ev_int, ev_bool, ev_string, ev_slice, ev_pointer, ev_map, ev_float, ev_complex, ev_nilIface, ev_nilFunc, ev_func, eget_cons, eget_nil, st_mv, st_pick, v_pick_t, v_pick_f, st_ext, v_ext0, v_ext1, v_ext2, v_ext3, st_int, v_int, int_add, int_sub, int_mul, int_eql, int_neq, int_lss, int_leq, int_gtr, int_geq, st_beq, v_beq, v_bne, st_not, v_not, st_conv, v_conv, st_faddr, v_faddr, st_iaddr, v_iaddr, st_aaddr, v_aaddr, st_nilChk, v_nil, st_len, v_len, v_lenS, st_load, v_load, got_one, got_row, mem_tip, mem_ro, mem_ret, st_alloc, st_box, st_store, v_store, got_store, cells_agg, cells_int, cells_bool, cells_slice, cells_pointer, cells_string, cells_complex, cells_func, one_int, one_bool, one_slice, one_pointer, one_string, one_complex, one_func, upd_push, get_push_self, AHeap.n_push, AHeap.n_upd, st_build, parts_nil, parts_cons, st_bslice, st_append, st_mkfun, st_mkface, st_isNil, st_max, v_max, st_min, v_min, st_field, st_index, st_slice0, v_slice0, v_slice0n, st_slice, kill_nil, st_call, v_call, forget_nil, forget_cons, Option.map_some, Option.map_none, Option.bind_some, List.map_cons, List.map_nil, if_true, if_false, Nat.reduceEqDiff, Int.reduceEq, Nat.reduceAdd, Nat.reduceMul, Bool.not_true, Bool.not_false, reduceCtorEq, decide_true, decide_false, Int.cast_ofNat_Int, eq_self, Int.reduceLT, Int.reduceLE, Int.reduceToNat, Int.toNat_natCast, Int.le_refl, Nat.le_refl, Nat.zero_add, Nat.add_zero, Nat.zero_mul, Nat.mul_one, Nat.mul_zero, and_self, and_true, true_and, List.length_cons, List.length_nil, List.all_cons, List.all_nil, Bool.and_self, Bool.and_true, Bool.true_and, List.take_zero, List.nil_append, List.drop_nil, List.append_nil, List.getElem?_cons_zero, List.getElem?_cons_succ, List.drop_succ_cons, List.drop_zero, List.take_succ_cons, List.cons_append, Nat.reduceLeDiff, hlt, rgt]
    exact ⟨ho, hoc, hB, fun _ _ => trivial⟩
  | succ k ih =>
    intro i H out T hi ha hac ho hoc hT hf hB
    have hlt : (i : Int) < L.length := by omega
    obtain ⟨r, hr, hdr⟩ := drop_at (L := L) (i := i) (by omega)
    obtain ⟨i1, o1, vi, vo, h1, h2, h3, h4, h5, h6, h7, h8, h9, h10⟩ := Rules.atC ha hac hr
    have h5' := h5
    have h6' := h6
    obtain ⟨⟨ai, ci, rfl⟩, _⟩ := h5'
    obtain ⟨⟨ao, co, rfl⟩, _⟩ := h6'
    have hx1 := Ext.push H ⟨[.slice ai r.1.length ci, .slice ao r.2.length co], 51, .tip, 1, []⟩
    have hw2 : IntKind.i64.wrap ((i : Int) + 1) = ((i + 1 : Nat) : Int) := by rw [wrap64 (by omega) (by omega)]; omega
    have s1 := c_may (h5.ext hx1) h7
    have s2 := c_may (h6.ext hx1) h8
    obtain ⟨v, H2, c1, c2, rfl⟩ := c_find ((ho.ext hx1).rules (by omega)) (h5.ext hx1)
    have hx2 := hx1.trans c2
    have g2 : H2.get H.n = some ⟨[.slice ai r.1.length ci, .slice ao r.2.length co], 51, .tip, 1, []⟩ := c2.get get_push_self
    rw [w_loop_b b_lontarlaw03_Right_0.eq_1, hdr]
    unfold rgt
    cases e1 : sideB r.1 with
    | false =>
      rw [e1] at s1
      rw [if_neg (by simp)]
      obtain ⟨y, e', H', r1, r2, r3, rc, r4, r5⟩ := ih (i + 1) _ out T (by omega) (ha.ext hx1) (hac.ext hx1) (ho.ext hx1) (hoc.ext hx1) (by omega) hf (by have := hx1.1; omega)
      simp only [w_draw, dr_cons, dr_some, dr_none, dr_go, still_no, still_yes, next_no, next_yes, last_cons, last_nil, isStore, calm_no, calm_nil, calm_cons, calmB_some, isCall, freshI, dr_nil, dr_end, still_nil, still_cons, stillB_some, stamp_some, stampV_ptr, stampV_tuple, stampO, still_here, still_here0, List.nil_append, w_out, w_gives, fin_ret, fin_normal, ress_nil, ress_tmp, pack_one, pack_nil, pack_two, entry_nil, entry_one, entry_two, entry_three, entry_four, eq_skip, eq_exit, eq_ret, w_rows, w_done, w_seq, w_normal, w_ret, w_exit, w_cond, w_true, w_false, eq_block, block_normal, block_ret, block_exit, rows_nil, rows_cons, on_some, on_none, row_plain, row_guard, guard_tt, guard_ff, guard_tf, guard_ft, guard_no, ev_tmp, ev_int, ev_bool, ev_string, ev_slice, ev_pointer, ev_map, ev_float, ev_complex, ev_nilIface, ev_nilFunc, ev_func, eget_cons, eget_nil, st_mv, st_pick, v_pick_t, v_pick_f, st_ext, v_ext0, v_ext1, v_ext2, v_ext3, st_int, v_int, int_add, int_sub, int_mul, int_eql, int_neq, int_lss, int_leq, int_gtr, int_geq, st_beq, v_beq, v_bne, st_not, v_not, st_conv, v_conv, st_faddr, v_faddr, st_iaddr, v_iaddr, st_aaddr, v_aaddr, st_nilChk, v_nil, st_len, v_len, v_lenS, st_load, v_load, got_one, got_row, mem_tip, mem_ro, mem_ret, st_alloc, st_box, st_store, v_store, got_store, cells_agg, cells_int, cells_bool, cells_slice, cells_pointer, cells_string, cells_complex, cells_func, one_int, one_bool, one_slice, one_pointer, one_string, one_complex, one_func, upd_push, get_push_self, AHeap.n_push, AHeap.n_upd, st_build, parts_nil, parts_cons, st_bslice, st_append, st_mkfun, st_mkface, st_isNil, st_max, v_max, st_min, v_min, st_field, st_index, st_slice0, v_slice0, v_slice0n, st_slice, kill_nil, st_call, v_call, forget_nil, forget_cons, Option.map_some, Option.map_none, Option.bind_some, List.map_cons, List.map_nil, if_true, if_false, Nat.reduceEqDiff, Int.reduceEq, Nat.reduceAdd, Nat.reduceMul, Bool.not_true, Bool.not_false, reduceCtorEq, decide_true, decide_false, Int.cast_ofNat_Int, eq_self, Int.reduceLT, Int.reduceLE, Int.reduceToNat, Int.toNat_natCast, Int.le_refl, Nat.le_refl, Nat.zero_add, Nat.add_zero, Nat.zero_mul, Nat.mul_one, Nat.mul_zero, and_self, and_true, true_and, List.length_cons, List.length_nil, List.all_cons, List.all_nil, Bool.and_self, Bool.and_true, Bool.true_and, List.take_zero, List.nil_append, List.drop_nil, List.append_nil, List.getElem?_cons_zero, List.getElem?_cons_succ, List.drop_succ_cons, List.drop_zero, List.take_succ_cons, List.cons_append, Nat.reduceLeDiff, hlt, h1, h4, s1, hw2]
      rw [w_enter]
      simp only [w_draw, dr_cons, dr_some, dr_none, dr_go, still_no, still_yes, next_no, next_yes, last_cons, last_nil, isStore, calm_no, calm_nil, calm_cons, calmB_some, isCall, freshI, dr_nil, dr_end, still_nil, still_cons, stillB_some, stamp_some, stampV_ptr, stampV_tuple, stampO, still_here, still_here0, List.nil_append, w_out, w_gives, fin_ret, fin_normal, ress_nil, ress_tmp, pack_one, pack_nil, pack_two, entry_nil, entry_one, entry_two, entry_three, entry_four, eq_skip, eq_exit, eq_ret, w_rows, w_done, w_seq, w_normal, w_ret, w_exit, w_cond, w_true, w_false, eq_block, block_normal, block_ret, block_exit, rows_nil, rows_cons, on_some, on_none, row_plain, row_guard, guard_tt, guard_ff, guard_tf, guard_ft, guard_no, ev_tmp, ev_int, ev_bool, ev_string, ev_slice, ev_pointer, ev_map, ev_float, ev_complex, ev_nilIface, ev_nilFunc, ev_func, eget_cons, eget_nil, st_mv, st_pick, v_pick_t, v_pick_f, st_ext, v_ext0, v_ext1, v_ext2, v_ext3, st_int, v_int, int_add, int_sub, int_mul, int_eql, int_neq, int_lss, int_leq, int_gtr, int_geq, st_beq, v_beq, v_bne, st_not, v_not, st_conv, v_conv, st_faddr, v_faddr, st_iaddr, v_iaddr, st_aaddr, v_aaddr, st_nilChk, v_nil, st_len, v_len, v_lenS, st_load, v_load, got_one, got_row, mem_tip, mem_ro, mem_ret, st_alloc, st_box, st_store, v_store, got_store, cells_agg, cells_int, cells_bool, cells_slice, cells_pointer, cells_string, cells_complex, cells_func, one_int, one_bool, one_slice, one_pointer, one_string, one_complex, one_func, upd_push, get_push_self, AHeap.n_push, AHeap.n_upd, st_build, parts_nil, parts_cons, st_bslice, st_append, st_mkfun, st_mkface, st_isNil, st_max, v_max, st_min, v_min, st_field, st_index, st_slice0, v_slice0, v_slice0n, st_slice, kill_nil, st_call, v_call, forget_nil, forget_cons, Option.map_some, Option.map_none, Option.bind_some, List.map_cons, List.map_nil, if_true, if_false, Nat.reduceEqDiff, Int.reduceEq, Nat.reduceAdd, Nat.reduceMul, Bool.not_true, Bool.not_false, reduceCtorEq, decide_true, decide_false, Int.cast_ofNat_Int, eq_self, Int.reduceLT, Int.reduceLE, Int.reduceToNat, Int.toNat_natCast, Int.le_refl, Nat.le_refl, Nat.zero_add, Nat.add_zero, Nat.zero_mul, Nat.mul_one, Nat.mul_zero, and_self, and_true, true_and, List.length_cons, List.length_nil, List.all_cons, List.all_nil, Bool.and_self, Bool.and_true, Bool.true_and, List.take_zero, List.nil_append, List.drop_nil, List.append_nil, List.getElem?_cons_zero, List.getElem?_cons_succ, List.drop_succ_cons, List.drop_zero, List.take_succ_cons, List.cons_append, Nat.reduceLeDiff, r1]
      exact ⟨r2, r3, rc, r4, fun j hj => by rw [r5 j hj, hx1.2 j (by omega)]⟩
    | true =>
      rw [e1] at s1
      cases e2 : sideB r.2 with
      | false =>
        rw [e2] at s2
        rw [if_neg (by simp)]
        obtain ⟨y, e', H', r1, r2, r3, rc, r4, r5⟩ := ih (i + 1) _ out T (by omega) (ha.ext hx1) (hac.ext hx1) (ho.ext hx1) (hoc.ext hx1) (by omega) hf (by have := hx1.1; omega)
        simp only [w_draw, dr_cons, dr_some, dr_none, dr_go, still_no, still_yes, next_no, next_yes, last_cons, last_nil, isStore, calm_no, calm_nil, calm_cons, calmB_some, isCall, freshI, dr_nil, dr_end, still_nil, still_cons, stillB_some, stamp_some, stampV_ptr, stampV_tuple, stampO, still_here, still_here0, List.nil_append, w_out, w_gives, fin_ret, fin_normal, ress_nil, ress_tmp, pack_one, pack_nil, pack_two, entry_nil, entry_one, entry_two, entry_three, entry_four, eq_skip, eq_exit, eq_ret, w_rows, w_done, w_seq, w_normal, w_ret, w_exit, w_cond, w_true, w_false, eq_block, block_normal, block_ret, block_exit, rows_nil, rows_cons, on_some, on_none, row_plain, row_guard, guard_tt, guard_ff, guard_tf, guard_ft, guard_no, ev_tmp, ev_int, ev_bool, ev_string, ev_slice, ev_pointer, ev_map, ev_float, ev_complex, ev_nilIface, ev_nilFunc, ev_func, eget_cons, eget_nil, st_mv, st_pick, v_pick_t, v_pick_f, st_ext, v_ext0, v_ext1, v_ext2, v_ext3, st_int, v_int, int_add, int_sub, int_mul, int_eql, int_neq, int_lss, int_leq, int_gtr, int_geq, st_beq, v_beq, v_bne, st_not, v_not, st_conv, v_conv, st_faddr, v_faddr, st_iaddr, v_iaddr, st_aaddr, v_aaddr, st_nilChk, v_nil, st_len, v_len, v_lenS, st_load, v_load, got_one, got_row, mem_tip, mem_ro, mem_ret, st_alloc, st_box, st_store, v_store, got_store, cells_agg, cells_int, cells_bool, cells_slice, cells_pointer, cells_string, cells_complex, cells_func, one_int, one_bool, one_slice, one_pointer, one_string, one_complex, one_func, upd_push, get_push_self, AHeap.n_push, AHeap.n_upd, st_build, parts_nil, parts_cons, st_bslice, st_append, st_mkfun, st_mkface, st_isNil, st_max, v_max, st_min, v_min, st_field, st_index, st_slice0, v_slice0, v_slice0n, st_slice, kill_nil, st_call, v_call, forget_nil, forget_cons, Option.map_some, Option.map_none, Option.bind_some, List.map_cons, List.map_nil, if_true, if_false, Nat.reduceEqDiff, Int.reduceEq, Nat.reduceAdd, Nat.reduceMul, Bool.not_true, Bool.not_false, reduceCtorEq, decide_true, decide_false, Int.cast_ofNat_Int, eq_self, Int.reduceLT, Int.reduceLE, Int.reduceToNat, Int.toNat_natCast, Int.le_refl, Nat.le_refl, Nat.zero_add, Nat.add_zero, Nat.zero_mul, Nat.mul_one, Nat.mul_zero, and_self, and_true, true_and, List.length_cons, List.length_nil, List.all_cons, List.all_nil, Bool.and_self, Bool.and_true, Bool.true_and, List.take_zero, List.nil_append, List.drop_nil, List.append_nil, List.getElem?_cons_zero, List.getElem?_cons_succ, List.drop_succ_cons, List.drop_zero, List.take_succ_cons, List.cons_append, Nat.reduceLeDiff, hlt, h1, h4, s1, s2, hw2]
        rw [w_enter]
        simp only [w_draw, dr_cons, dr_some, dr_none, dr_go, still_no, still_yes, next_no, next_yes, last_cons, last_nil, isStore, calm_no, calm_nil, calm_cons, calmB_some, isCall, freshI, dr_nil, dr_end, still_nil, still_cons, stillB_some, stamp_some, stampV_ptr, stampV_tuple, stampO, still_here, still_here0, List.nil_append, w_out, w_gives, fin_ret, fin_normal, ress_nil, ress_tmp, pack_one, pack_nil, pack_two, entry_nil, entry_one, entry_two, entry_three, entry_four, eq_skip, eq_exit, eq_ret, w_rows, w_done, w_seq, w_normal, w_ret, w_exit, w_cond, w_true, w_false, eq_block, block_normal, block_ret, block_exit, rows_nil, rows_cons, on_some, on_none, row_plain, row_guard, guard_tt, guard_ff, guard_tf, guard_ft, guard_no, ev_tmp, ev_int, ev_bool, ev_string, ev_slice, ev_pointer, ev_map, ev_float, ev_complex, ev_nilIface, ev_nilFunc, ev_func, eget_cons, eget_nil, st_mv, st_pick, v_pick_t, v_pick_f, st_ext, v_ext0, v_ext1, v_ext2, v_ext3, st_int, v_int, int_add, int_sub, int_mul, int_eql, int_neq, int_lss, int_leq, int_gtr, int_geq, st_beq, v_beq, v_bne, st_not, v_not, st_conv, v_conv, st_faddr, v_faddr, st_iaddr, v_iaddr, st_aaddr, v_aaddr, st_nilChk, v_nil, st_len, v_len, v_lenS, st_load, v_load, got_one, got_row, mem_tip, mem_ro, mem_ret, st_alloc, st_box, st_store, v_store, got_store, cells_agg, cells_int, cells_bool, cells_slice, cells_pointer, cells_string, cells_complex, cells_func, one_int, one_bool, one_slice, one_pointer, one_string, one_complex, one_func, upd_push, get_push_self, AHeap.n_push, AHeap.n_upd, st_build, parts_nil, parts_cons, st_bslice, st_append, st_mkfun, st_mkface, st_isNil, st_max, v_max, st_min, v_min, st_field, st_index, st_slice0, v_slice0, v_slice0n, st_slice, kill_nil, st_call, v_call, forget_nil, forget_cons, Option.map_some, Option.map_none, Option.bind_some, List.map_cons, List.map_nil, if_true, if_false, Nat.reduceEqDiff, Int.reduceEq, Nat.reduceAdd, Nat.reduceMul, Bool.not_true, Bool.not_false, reduceCtorEq, decide_true, decide_false, Int.cast_ofNat_Int, eq_self, Int.reduceLT, Int.reduceLE, Int.reduceToNat, Int.toNat_natCast, Int.le_refl, Nat.le_refl, Nat.zero_add, Nat.add_zero, Nat.zero_mul, Nat.mul_one, Nat.mul_zero, and_self, and_true, true_and, List.length_cons, List.length_nil, List.all_cons, List.all_nil, Bool.and_self, Bool.and_true, Bool.true_and, List.take_zero, List.nil_append, List.drop_nil, List.append_nil, List.getElem?_cons_zero, List.getElem?_cons_succ, List.drop_succ_cons, List.drop_zero, List.take_succ_cons, List.cons_append, Nat.reduceLeDiff, r1]
        exact ⟨r2, r3, rc, r4, fun j hj => by rw [r5 j hj, hx1.2 j (by omega)]⟩
      | true =>
        rw [e2] at s2
        by_cases hfn : fnd T r.1 < 0
        · rw [if_pos ⟨rfl, rfl, hfn⟩]
          have hx5 := Ext.push H2 ⟨[.slice ai r.1.length ci, .slice ao r.2.length co], 51, .tip, 0, []⟩
          obtain ⟨v', H6, m1, m2, m3, m4, m5, m6, m7, m8⟩ := OwnRules.appendC (el := 51) (bytes := 48) (r := r) (ho.ext (hx2.trans hx5)) (hoc.ext (hx2.trans hx5))
            (Sl.new (n := 1) (c := 2) (get_push_self (H := H2) (b := ⟨[.slice ai r.1.length ci, .slice ao r.2.length co], 51, .tip, 0, []⟩)) mem_tip rfl)
            ((h5.ext hx2).ext hx5) ((h6.ext hx2).ext hx5) h7 h8 ((h9.ext hx2).ext hx5) ((h10.ext hx2).ext hx5) (by omega)
          obtain ⟨y, e', H', r1, r2, r3, rc, r4, r5⟩ := ih (i + 1) H6 v' (T ++ [r]) (by omega) (((ha.ext hx2).ext hx5).keeps m4) (((hac.ext hx2).ext hx5).go m4 m8) m2 m7 (by simp; omega) (m3.mono (by have := hx2.1; simp; omega)) (by have := hx2.1; simp at m5; omega)
          simp only [w_draw, dr_cons, dr_some, dr_none, dr_go, still_no, still_yes, next_no, next_yes, last_cons, last_nil, isStore, calm_no, calm_nil, calm_cons, calmB_some, isCall, freshI, dr_nil, dr_end, still_nil, still_cons, stillB_some, stamp_some, stampV_ptr, stampV_tuple, stampO, still_here, still_here0, List.nil_append, w_out, w_gives, fin_ret, fin_normal, ress_nil, ress_tmp, pack_one, pack_nil, pack_two, entry_nil, entry_one, entry_two, entry_three, entry_four, eq_skip, eq_exit, eq_ret, w_rows, w_done, w_seq, w_normal, w_ret, w_exit, w_cond, w_true, w_false, eq_block, block_normal, block_ret, block_exit, rows_nil, rows_cons, on_some, on_none, row_plain, row_guard, guard_tt, guard_ff, guard_tf, guard_ft, guard_no, ev_tmp, ev_int, ev_bool, ev_string, ev_slice, ev_pointer, ev_map, ev_float, ev_complex, ev_nilIface, ev_nilFunc, ev_func, eget_cons, eget_nil, st_mv, st_pick, v_pick_t, v_pick_f, st_ext, v_ext0, v_ext1, v_ext2, v_ext3, st_int, v_int, int_add, int_sub, int_mul, int_eql, int_neq, int_lss, int_leq, int_gtr, int_geq, st_beq, v_beq, v_bne, st_not, v_not, st_conv, v_conv, st_faddr, v_faddr, st_iaddr, v_iaddr, st_aaddr, v_aaddr, st_nilChk, v_nil, st_len, v_len, v_lenS, st_load, v_load, got_one, got_row, mem_tip, mem_ro, mem_ret, st_alloc, st_box, st_store, v_store, got_store, cells_agg, cells_int, cells_bool, cells_slice, cells_pointer, cells_string, cells_complex, cells_func, one_int, one_bool, one_slice, one_pointer, one_string, one_complex, one_func, upd_push, get_push_self, AHeap.n_push, AHeap.n_upd, st_build, parts_nil, parts_cons, st_bslice, st_append, st_mkfun, st_mkface, st_isNil, st_max, v_max, st_min, v_min, st_field, st_index, st_slice0, v_slice0, v_slice0n, st_slice, kill_nil, st_call, v_call, forget_nil, forget_cons, Option.map_some, Option.map_none, Option.bind_some, List.map_cons, List.map_nil, if_true, if_false, Nat.reduceEqDiff, Int.reduceEq, Nat.reduceAdd, Nat.reduceMul, Bool.not_true, Bool.not_false, reduceCtorEq, decide_true, decide_false, Int.cast_ofNat_Int, eq_self, Int.reduceLT, Int.reduceLE, Int.reduceToNat, Int.toNat_natCast, Int.le_refl, Nat.le_refl, Nat.zero_add, Nat.add_zero, Nat.zero_mul, Nat.mul_one, Nat.mul_zero, and_self, and_true, true_and, List.length_cons, List.length_nil, List.all_cons, List.all_nil, Bool.and_self, Bool.and_true, Bool.true_and, List.take_zero, List.nil_append, List.drop_nil, List.append_nil, List.getElem?_cons_zero, List.getElem?_cons_succ, List.drop_succ_cons, List.drop_zero, List.take_succ_cons, List.cons_append, Nat.reduceLeDiff, hlt, h1, h4, s1, s2, c1, hfn, g2, v_rule1, m1, hw2]
          rw [w_enter]
          simp only [w_draw, dr_cons, dr_some, dr_none, dr_go, still_no, still_yes, next_no, next_yes, last_cons, last_nil, isStore, calm_no, calm_nil, calm_cons, calmB_some, isCall, freshI, dr_nil, dr_end, still_nil, still_cons, stillB_some, stamp_some, stampV_ptr, stampV_tuple, stampO, still_here, still_here0, List.nil_append, w_out, w_gives, fin_ret, fin_normal, ress_nil, ress_tmp, pack_one, pack_nil, pack_two, entry_nil, entry_one, entry_two, entry_three, entry_four, eq_skip, eq_exit, eq_ret, w_rows, w_done, w_seq, w_normal, w_ret, w_exit, w_cond, w_true, w_false, eq_block, block_normal, block_ret, block_exit, rows_nil, rows_cons, on_some, on_none, row_plain, row_guard, guard_tt, guard_ff, guard_tf, guard_ft, guard_no, ev_tmp, ev_int, ev_bool, ev_string, ev_slice, ev_pointer, ev_map, ev_float, ev_complex, ev_nilIface, ev_nilFunc, ev_func, eget_cons, eget_nil, st_mv, st_pick, v_pick_t, v_pick_f, st_ext, v_ext0, v_ext1, v_ext2, v_ext3, st_int, v_int, int_add, int_sub, int_mul, int_eql, int_neq, int_lss, int_leq, int_gtr, int_geq, st_beq, v_beq, v_bne, st_not, v_not, st_conv, v_conv, st_faddr, v_faddr, st_iaddr, v_iaddr, st_aaddr, v_aaddr, st_nilChk, v_nil, st_len, v_len, v_lenS, st_load, v_load, got_one, got_row, mem_tip, mem_ro, mem_ret, st_alloc, st_box, st_store, v_store, got_store, cells_agg, cells_int, cells_bool, cells_slice, cells_pointer, cells_string, cells_complex, cells_func, one_int, one_bool, one_slice, one_pointer, one_string, one_complex, one_func, upd_push, get_push_self, AHeap.n_push, AHeap.n_upd, st_build, parts_nil, parts_cons, st_bslice, st_append, st_mkfun, st_mkface, st_isNil, st_max, v_max, st_min, v_min, st_field, st_index, st_slice0, v_slice0, v_slice0n, st_slice, kill_nil, st_call, v_call, forget_nil, forget_cons, Option.map_some, Option.map_none, Option.bind_some, List.map_cons, List.map_nil, if_true, if_false, Nat.reduceEqDiff, Int.reduceEq, Nat.reduceAdd, Nat.reduceMul, Bool.not_true, Bool.not_false, reduceCtorEq, decide_true, decide_false, Int.cast_ofNat_Int, eq_self, Int.reduceLT, Int.reduceLE, Int.reduceToNat, Int.toNat_natCast, Int.le_refl, Nat.le_refl, Nat.zero_add, Nat.add_zero, Nat.zero_mul, Nat.mul_one, Nat.mul_zero, and_self, and_true, true_and, List.length_cons, List.length_nil, List.all_cons, List.all_nil, Bool.and_self, Bool.and_true, Bool.true_and, List.take_zero, List.nil_append, List.drop_nil, List.append_nil, List.getElem?_cons_zero, List.getElem?_cons_succ, List.drop_succ_cons, List.drop_zero, List.take_succ_cons, List.cons_append, Nat.reduceLeDiff, r1]
          exact ⟨r2, r3, rc, r4, fun j hj => by rw [r5 j hj, m6 j (by have := hx2.1; simp; omega) (NotAt.of_from hf hj), hx5.2 j (by have := hx2.1; omega), hx2.2 j (by omega)]⟩
        · rw [if_neg (fun h => hfn h.2.2)]
          obtain ⟨y, e', H', r1, r2, r3, rc, r4, r5⟩ := ih (i + 1) H2 out T (by omega) (ha.ext hx2) (hac.ext hx2) (ho.ext hx2) (hoc.ext hx2) (by omega) hf (by have := hx2.1; omega)
          simp only [w_draw, dr_cons, dr_some, dr_none, dr_go, still_no, still_yes, next_no, next_yes, last_cons, last_nil, isStore, calm_no, calm_nil, calm_cons, calmB_some, isCall, freshI, dr_nil, dr_end, still_nil, still_cons, stillB_some, stamp_some, stampV_ptr, stampV_tuple, stampO, still_here, still_here0, List.nil_append, w_out, w_gives, fin_ret, fin_normal, ress_nil, ress_tmp, pack_one, pack_nil, pack_two, entry_nil, entry_one, entry_two, entry_three, entry_four, eq_skip, eq_exit, eq_ret, w_rows, w_done, w_seq, w_normal, w_ret, w_exit, w_cond, w_true, w_false, eq_block, block_normal, block_ret, block_exit, rows_nil, rows_cons, on_some, on_none, row_plain, row_guard, guard_tt, guard_ff, guard_tf, guard_ft, guard_no, ev_tmp, ev_int, ev_bool, ev_string, ev_slice, ev_pointer, ev_map, ev_float, ev_complex, ev_nilIface, ev_nilFunc, ev_func, eget_cons, eget_nil, st_mv, st_pick, v_pick_t, v_pick_f, st_ext, v_ext0, v_ext1, v_ext2, v_ext3, st_int, v_int, int_add, int_sub, int_mul, int_eql, int_neq, int_lss, int_leq, int_gtr, int_geq, st_beq, v_beq, v_bne, st_not, v_not, st_conv, v_conv, st_faddr, v_faddr, st_iaddr, v_iaddr, st_aaddr, v_aaddr, st_nilChk, v_nil, st_len, v_len, v_lenS, st_load, v_load, got_one, got_row, mem_tip, mem_ro, mem_ret, st_alloc, st_box, st_store, v_store, got_store, cells_agg, cells_int, cells_bool, cells_slice, cells_pointer, cells_string, cells_complex, cells_func, one_int, one_bool, one_slice, one_pointer, one_string, one_complex, one_func, upd_push, get_push_self, AHeap.n_push, AHeap.n_upd, st_build, parts_nil, parts_cons, st_bslice, st_append, st_mkfun, st_mkface, st_isNil, st_max, v_max, st_min, v_min, st_field, st_index, st_slice0, v_slice0, v_slice0n, st_slice, kill_nil, st_call, v_call, forget_nil, forget_cons, Option.map_some, Option.map_none, Option.bind_some, List.map_cons, List.map_nil, if_true, if_false, Nat.reduceEqDiff, Int.reduceEq, Nat.reduceAdd, Nat.reduceMul, Bool.not_true, Bool.not_false, reduceCtorEq, decide_true, decide_false, Int.cast_ofNat_Int, eq_self, Int.reduceLT, Int.reduceLE, Int.reduceToNat, Int.toNat_natCast, Int.le_refl, Nat.le_refl, Nat.zero_add, Nat.add_zero, Nat.zero_mul, Nat.mul_one, Nat.mul_zero, and_self, and_true, true_and, List.length_cons, List.length_nil, List.all_cons, List.all_nil, Bool.and_self, Bool.and_true, Bool.true_and, List.take_zero, List.nil_append, List.drop_nil, List.append_nil, List.getElem?_cons_zero, List.getElem?_cons_succ, List.drop_succ_cons, List.drop_zero, List.take_succ_cons, List.cons_append, Nat.reduceLeDiff, hlt, h1, h4, s1, s2, c1, hfn, hw2]
          rw [w_enter]
          simp only [w_draw, dr_cons, dr_some, dr_none, dr_go, still_no, still_yes, next_no, next_yes, last_cons, last_nil, isStore, calm_no, calm_nil, calm_cons, calmB_some, isCall, freshI, dr_nil, dr_end, still_nil, still_cons, stillB_some, stamp_some, stampV_ptr, stampV_tuple, stampO, still_here, still_here0, List.nil_append, w_out, w_gives, fin_ret, fin_normal, ress_nil, ress_tmp, pack_one, pack_nil, pack_two, entry_nil, entry_one, entry_two, entry_three, entry_four, eq_skip, eq_exit, eq_ret, w_rows, w_done, w_seq, w_normal, w_ret, w_exit, w_cond, w_true, w_false, eq_block, block_normal, block_ret, block_exit, rows_nil, rows_cons, on_some, on_none, row_plain, row_guard, guard_tt, guard_ff, guard_tf, guard_ft, guard_no, ev_tmp, ev_int, ev_bool, ev_string, ev_slice, ev_pointer, ev_map, ev_float, ev_complex, ev_nilIface, ev_nilFunc, ev_func, eget_cons, eget_nil, st_mv, st_pick, v_pick_t, v_pick_f, st_ext, v_ext0, v_ext1, v_ext2, v_ext3, st_int, v_int, int_add, int_sub, int_mul, int_eql, int_neq, int_lss, int_leq, int_gtr, int_geq, st_beq, v_beq, v_bne, st_not, v_not, st_conv, v_conv, st_faddr, v_faddr, st_iaddr, v_iaddr, st_aaddr, v_aaddr, st_nilChk, v_nil, st_len, v_len, v_lenS, st_load, v_load, got_one, got_row, mem_tip, mem_ro, mem_ret, st_alloc, st_box, st_store, v_store, got_store, cells_agg, cells_int, cells_bool, cells_slice, cells_pointer, cells_string, cells_complex, cells_func, one_int, one_bool, one_slice, one_pointer, one_string, one_complex, one_func, upd_push, get_push_self, AHeap.n_push, AHeap.n_upd, st_build, parts_nil, parts_cons, st_bslice, st_append, st_mkfun, st_mkface, st_isNil, st_max, v_max, st_min, v_min, st_field, st_index, st_slice0, v_slice0, v_slice0n, st_slice, kill_nil, st_call, v_call, forget_nil, forget_cons, Option.map_some, Option.map_none, Option.bind_some, List.map_cons, List.map_nil, if_true, if_false, Nat.reduceEqDiff, Int.reduceEq, Nat.reduceAdd, Nat.reduceMul, Bool.not_true, Bool.not_false, reduceCtorEq, decide_true, decide_false, Int.cast_ofNat_Int, eq_self, Int.reduceLT, Int.reduceLE, Int.reduceToNat, Int.toNat_natCast, Int.le_refl, Nat.le_refl, Nat.zero_add, Nat.add_zero, Nat.zero_mul, Nat.mul_one, Nat.mul_zero, and_self, and_true, true_and, List.length_cons, List.length_nil, List.all_cons, List.all_nil, Bool.and_self, Bool.and_true, Bool.true_and, List.take_zero, List.nil_append, List.drop_nil, List.append_nil, List.getElem?_cons_zero, List.getElem?_cons_succ, List.drop_succ_cons, List.drop_zero, List.take_succ_cons, List.cons_append, Nat.reduceLeDiff, r1]
          exact ⟨r2, r3, rc, r4, fun j hj => by rw [r5 j hj, hx2.2 j (by omega)]⟩
theorem c_Right {a : Value} {R : List RowD} {H : AHeap} (ha : RowsAt H a R) : Gives (cw Try.prog (tabF tab) om1 15 [a] H) fun v H' => Ext H H' ∧ OwnRules H' 51 v (rgt (RL R) []) ∧ CutR H' v := by
  rw [cw_run (F := F_lontarlaw03_Right) rfl rfl rfl]
  unfold F_lontarlaw03_Right k_lontarlaw03_Right
  obtain ⟨v1, H1, c1, x1, o1, k1⟩ := c_Rules ha
  have h40 := RL_len R
  have hR := o1.rules (by omega)
  have hl1 := hR.len (H2 := H1)
  obtain ⟨y, e', H2, r1, rfl, r2, rc, r4, r5⟩ := l_Right (B := H1.n) (a := v1) (L := RL R) (by omega) (RL R).length 0 H1 (.slice none 0 0) [] (by omega) hR k1 (OwnRules.nil _ _) (CutR.nil _) (Nat.le_refl _) trivial (Nat.le_refl _)
  rw [List.drop_zero] at r2
  simp only [Int.cast_ofNat_Int] at r1
  simp only [w_draw, dr_cons, dr_some, dr_none, dr_go, still_no, still_yes, next_no, next_yes, last_cons, last_nil, isStore, calm_no, calm_nil, calm_cons, calmB_some, isCall, freshI, dr_nil, dr_end, still_nil, still_cons, stillB_some, stamp_some, stampV_ptr, stampV_tuple, stampO, still_here, still_here0, List.nil_append, w_out, w_gives, fin_ret, fin_normal, ress_nil, ress_tmp, pack_one, pack_nil, pack_two, entry_nil, entry_one, entry_two, entry_three, entry_four, eq_skip, eq_exit, eq_ret, w_rows, w_done, w_seq, w_normal, w_ret, w_exit, w_cond, w_true, w_false, eq_block, block_normal, block_ret, block_exit, rows_nil, rows_cons, on_some, on_none, row_plain, row_guard, guard_tt, guard_ff, guard_tf, guard_ft, guard_no, ev_tmp, ev_int, ev_bool, ev_string, ev_slice, ev_pointer, ev_map, ev_float, ev_complex, ev_nilIface, ev_nilFunc, ev_func, eget_cons, eget_nil, st_mv, st_pick, v_pick_t, v_pick_f, st_ext, v_ext0, v_ext1, v_ext2, v_ext3, st_int, v_int, int_add, int_sub, int_mul, int_eql, int_neq, int_lss, int_leq, int_gtr, int_geq, st_beq, v_beq, v_bne, st_not, v_not, st_conv, v_conv, st_faddr, v_faddr, st_iaddr, v_iaddr, st_aaddr, v_aaddr, st_nilChk, v_nil, st_len, v_len, v_lenS, st_load, v_load, got_one, got_row, mem_tip, mem_ro, mem_ret, st_alloc, st_box, st_store, v_store, got_store, cells_agg, cells_int, cells_bool, cells_slice, cells_pointer, cells_string, cells_complex, cells_func, one_int, one_bool, one_slice, one_pointer, one_string, one_complex, one_func, upd_push, get_push_self, AHeap.n_push, AHeap.n_upd, st_build, parts_nil, parts_cons, st_bslice, st_append, st_mkfun, st_mkface, st_isNil, st_max, v_max, st_min, v_min, st_field, st_index, st_slice0, v_slice0, v_slice0n, st_slice, kill_nil, st_call, v_call, forget_nil, forget_cons, Option.map_some, Option.map_none, Option.bind_some, List.map_cons, List.map_nil, if_true, if_false, Nat.reduceEqDiff, Int.reduceEq, Nat.reduceAdd, Nat.reduceMul, Bool.not_true, Bool.not_false, reduceCtorEq, decide_true, decide_false, Int.cast_ofNat_Int, eq_self, Int.reduceLT, Int.reduceLE, Int.reduceToNat, Int.toNat_natCast, Int.le_refl, Nat.le_refl, Nat.zero_add, Nat.add_zero, Nat.zero_mul, Nat.mul_one, Nat.mul_zero, and_self, and_true, true_and, List.length_cons, List.length_nil, List.all_cons, List.all_nil, Bool.and_self, Bool.and_true, Bool.true_and, List.take_zero, List.nil_append, List.drop_nil, List.append_nil, List.getElem?_cons_zero, List.getElem?_cons_succ, List.drop_succ_cons, List.drop_zero, List.take_succ_cons, List.cons_append, Nat.reduceLeDiff, c1, hl1]
  rw [w_enter]
  simp only [w_draw, dr_cons, dr_some, dr_none, dr_go, still_no, still_yes, next_no, next_yes, last_cons, last_nil, isStore, calm_no, calm_nil, calm_cons, calmB_some, isCall, freshI, dr_nil, dr_end, still_nil, still_cons, stillB_some, stamp_some, stampV_ptr, stampV_tuple, stampO, still_here, still_here0, List.nil_append, w_out, w_gives, fin_ret, fin_normal, ress_nil, ress_tmp, pack_one, pack_nil, pack_two, entry_nil, entry_one, entry_two, entry_three, entry_four, eq_skip, eq_exit, eq_ret, w_rows, w_done, w_seq, w_normal, w_ret, w_exit, w_cond, w_true, w_false, eq_block, block_normal, block_ret, block_exit, rows_nil, rows_cons, on_some, on_none, row_plain, row_guard, guard_tt, guard_ff, guard_tf, guard_ft, guard_no, ev_tmp, ev_int, ev_bool, ev_string, ev_slice, ev_pointer, ev_map, ev_float, ev_complex, ev_nilIface, ev_nilFunc, ev_func, eget_cons, eget_nil, st_mv, st_pick, v_pick_t, v_pick_f, st_ext, v_ext0, v_ext1, v_ext2, v_ext3, st_int, v_int, int_add, int_sub, int_mul, int_eql, int_neq, int_lss, int_leq, int_gtr, int_geq, st_beq, v_beq, v_bne, st_not, v_not, st_conv, v_conv, st_faddr, v_faddr, st_iaddr, v_iaddr, st_aaddr, v_aaddr, st_nilChk, v_nil, st_len, v_len, v_lenS, st_load, v_load, got_one, got_row, mem_tip, mem_ro, mem_ret, st_alloc, st_box, st_store, v_store, got_store, cells_agg, cells_int, cells_bool, cells_slice, cells_pointer, cells_string, cells_complex, cells_func, one_int, one_bool, one_slice, one_pointer, one_string, one_complex, one_func, upd_push, get_push_self, AHeap.n_push, AHeap.n_upd, st_build, parts_nil, parts_cons, st_bslice, st_append, st_mkfun, st_mkface, st_isNil, st_max, v_max, st_min, v_min, st_field, st_index, st_slice0, v_slice0, v_slice0n, st_slice, kill_nil, st_call, v_call, forget_nil, forget_cons, Option.map_some, Option.map_none, Option.bind_some, List.map_cons, List.map_nil, if_true, if_false, Nat.reduceEqDiff, Int.reduceEq, Nat.reduceAdd, Nat.reduceMul, Bool.not_true, Bool.not_false, reduceCtorEq, decide_true, decide_false, Int.cast_ofNat_Int, eq_self, Int.reduceLT, Int.reduceLE, Int.reduceToNat, Int.toNat_natCast, Int.le_refl, Nat.le_refl, Nat.zero_add, Nat.add_zero, Nat.zero_mul, Nat.mul_one, Nat.mul_zero, and_self, and_true, true_and, List.length_cons, List.length_nil, List.all_cons, List.all_nil, Bool.and_self, Bool.and_true, Bool.true_and, List.take_zero, List.nil_append, List.drop_nil, List.append_nil, List.getElem?_cons_zero, List.getElem?_cons_succ, List.drop_succ_cons, List.drop_zero, List.take_succ_cons, List.cons_append, Nat.reduceLeDiff, r1]
  exact ⟨x1.trans ⟨r4, r5⟩, r2, rc⟩
end Go.Proofs.Ythnccfmmeaeibaa

/-! Rows, units and numbers, read from memory. -/
set_option linter.unusedSimpArgs false
set_option linter.unusedVariables false
namespace Go.Proofs.Ythnccfmmeaeibaa
open Go Lon
theorem op_ints : Opener Try.prog 24 1 (List Int) (qSlice Try.prog 1 8 (qInt .i64)) := Opener.slice (Opener.int Try.underlying3) (qInt_mono _) Try.underlying24 (by kernel_rfl) (by kernel_rfl) (by decide) (by kernel_rfl)
theorem op_u8s : Opener Try.prog 23 1 (List Int) (qSlice Try.prog 1 1 (qInt .u8)) := Opener.slice (Opener.int Try.underlying5) (qInt_mono _) Try.underlying23 (by kernel_rfl) (by kernel_rfl) (by decide) (by kernel_rfl)
abbrev qI : AHeap → List Value → List Int → Prop := qSlice Try.prog 1 8 (qInt .i64)
abbrev qB : AHeap → List Value → List Int → Prop := qSlice Try.prog 1 1 (qInt .u8)
theorem qI_mono : Mono qI := qSlice_mono (qInt_mono _)
theorem qB_mono : Mono qB := qSlice_mono (qInt_mono _)
abbrev qRule : AHeap → List Value → (List Int × (List Int × Unit)) → Prop := qPair 1 qI (qPair 1 qI qTrue)
theorem op_rule : Opener Try.prog 51 2 (List Int × (List Int × Unit)) qRule :=
  Opener.struct Try.underlying51 (by kernel_rfl) (Openers.cons op_ints qI_mono rfl (by kernel_rfl) (Openers.cons op_ints qI_mono rfl (by kernel_rfl) Openers.nil))
theorem qRule_mono : Mono qRule := qPair_mono qI_mono (qPair_mono qI_mono qTrue_mono)
abbrev qRow : AHeap → List Value → RowD → Prop := qPair 1 qB (qPair 1 qB (qPair 1 qBool (qPair 2 qRule qTrue)))
theorem op_row : Opener Try.prog 82 5 RowD qRow :=
  Opener.struct Try.underlying82 (by kernel_rfl) (Openers.cons op_u8s qB_mono rfl (by kernel_rfl) (Openers.cons op_u8s qB_mono rfl (by kernel_rfl) (Openers.cons (Opener.bool Try.underlying4) qBool_mono rfl (by kernel_rfl) (Openers.cons op_rule qRule_mono rfl (by kernel_rfl) Openers.nil))))
theorem qRow_mono : Mono qRow := qPair_mono qB_mono (qPair_mono qB_mono (qPair_mono qBool_mono (qPair_mono qRule_mono qTrue_mono)))
theorem op_rows : Opener Try.prog 22 1 (List RowD) (qSlice Try.prog 5 104 qRow) := Opener.slice op_row qRow_mono Try.underlying22 (by kernel_rfl) (by kernel_rfl) (by decide) (by kernel_rfl)
theorem bytes_of {L : List Int} (h : ∀ n ∈ L, (Lit.int .u8 n).wf = true) : bytes L := fun u hu => by
  have := h u hu
  simp [Lit.wf, IntKind.min, IntKind.max, IntKind.signed, IntKind.bits] at this
  omega
theorem reach_lt {n b : Nat} (h : n * b ≤ reachBytes) (hb : 0 < b) : n < 4611686018427387904 := by
  have h1 : n ≤ n * b := Nat.le_mul_of_pos_right _ hb
  unfold reachBytes at h
  omega
theorem ints_of {H : AHeap} {acs : List Value} {L : List Int} (h : qI H acs L) : ∃ v, acs = [v] ∧ Ints H v L ∧ Cut Try.prog H v 1 ∧ small L ∧ ∀ n ∈ L, (Lit.int .i64 n).wf = true := by
  obtain ⟨v, h1, h2, h3, h4, h5⟩ := qSlice_nums h
  refine ⟨v, h1, h2, h3, ?_, h5⟩
  unfold small
  unfold reachBytes at h4
  omega
theorem bytes_at {H : AHeap} {acs : List Value} {L : List Int} (h : qB H acs L) : ∃ v, acs = [v] ∧ Nums H .u8 v L ∧ Cut Try.prog H v 1 ∧ bytes L ∧ tiny L := by
  obtain ⟨v, h1, h2, h3, h4, h5⟩ := qSlice_nums h
  exact ⟨v, h1, h2, h3, bytes_of h5, reach_lt h4 (by decide)⟩
/-- Bytes, and units, as an argument holds them. -/
def U8s (H : AHeap) (v : Value) (L : List Int) : Prop := Nums H .u8 v L ∧ Cut Try.prog H v 1 ∧ bytes L ∧ tiny L
theorem U8s.ext {H H' : AHeap} (hx : Ext H H') {v : Value} {L : List Int} (h : U8s H v L) : U8s H' v L := ⟨h.1.ext hx, h.2.1.ext hx, h.2.2⟩
theorem u8s_of {H : AHeap} {acs : List Value} {L : List Int} (h : qB H acs L) : ∃ v, acs = [v] ∧ U8s H v L := bytes_at h
def Us (H : AHeap) (v : Value) (L : List Int) : Prop := Ints H v L ∧ Cut Try.prog H v 1 ∧ small L ∧ ∀ n ∈ L, (Lit.int .i64 n).wf = true
theorem Us.ext {H H' : AHeap} (hx : Ext H H') {v : Value} {L : List Int} (h : Us H v L) : Us H' v L := ⟨h.1.ext hx, h.2.1.ext hx, h.2.2⟩
theorem us_of {H : AHeap} {acs : List Value} {L : List Int} (h : qI H acs L) : ∃ v, acs = [v] ∧ Us H v L := ints_of h
theorem op_us : Opener Try.prog 24 1 (List Int) qI := op_ints
theorem take1 {l : List Value} {v : Value} (h : l.take 1 = [v]) : l = v :: l.drop 1 := by
  cases l with
  | nil => cases h
  | cons a l => simp at h; simp [h]
theorem row_of {H : AHeap} {acs : List Value} {r : RowD} (hl : acs.length = 5) (h : qRow H acs r) : RowAt H acs r := by
  obtain ⟨h1, h2, h3, ⟨h4, h5, _⟩, _⟩ := h
  obtain ⟨vi, e1, f1⟩ := bytes_at h1
  obtain ⟨vo, e2, f2⟩ := bytes_at h2
  obtain ⟨wi, e4, f4, f4c, f4', _⟩ := ints_of h4
  obtain ⟨wo, e5, f5, f5c, f5', _⟩ := ints_of h5
  refine ⟨vi, vo, wi, wo, ?_, f1, f2, ⟨f4, f4', f4c⟩, ⟨f5, f5', f5c⟩⟩
  match acs, hl with
  | [a, b, c, d, e], _ =>
    unfold qBool at h3
    simp at e1 e2 h3 e4 e5
    obtain rfl := e1
    obtain rfl := e2
    obtain rfl := e4
    obtain rfl := e5
    rw [h3]
theorem rows_of {H : AHeap} {acs : List Value} {R : List RowD} (h : qSlice Try.prog 5 104 qRow H acs R) : ∃ v, acs = [v] ∧ RowsAt H v R := by
  obtain ⟨v, cells, h1, h2, h3, h4, h5⟩ := h
  refine ⟨v, h1, cells, h2, h4, by unfold reachBytes at h3; omega, fun k r hr => row_of ?_ (h5 k r hr)⟩
  have hl := h2.length
  have hk := (List.getElem?_eq_some_iff.1 hr).1
  rw [List.length_take, List.length_drop, hl]
  have : (k + 1) * 5 ≤ R.length * 5 := Nat.mul_le_mul_right _ hk
  omega
/-- The value of a slice's type is a slice. -/
theorem slice_cells {W : World} {b : Nat} {t e : TypeId} {v : Value} (ht : Try.prog.underlying t = some (.slice e)) (hv : Value.okWide Try.prog W .any b t v) : v.cells.toList = [v] := by
  unfold Value.okWide at hv
  rw [ht] at hv
  simp only at hv
  unfold Cell.okWide at hv
  rw [ht] at hv
  cases v <;> first | rfl | (simp [Cell.ok, ht] at hv)
end Go.Proofs.Ythnccfmmeaeibaa

/-! A trie in memory, read: Step, Rule, Leaf, Size. -/
set_option linter.unusedSimpArgs false
set_option linter.unusedVariables false
namespace Go.Proofs.Ythnccfmmeaeibaa
open Go Lon
structure Nd where
  unit : Int
  kid : Int
  brother : Int
  rule : Int
def nd (x : Nd) : List Value := [.int .i64 x.unit, .int .i64 x.kid, .int .i64 x.brother, .int .i64 x.rule]
/-- A trie at block t: its nodes; what its rules' slice is. -/
def TrieAt (H : AHeap) (t : Nat) (N : List Nd) (vr : Value) : Prop := ∃ vn st ver anc, H.get t = some ⟨[vn, vr], 73, st, ver, anc⟩ ∧ st.mem = true ∧ Sl H 4 vn N.length (N.flatMap nd) ∧ N.length < 1000000000
theorem TrieAt.ext {H H' : AHeap} (hx : Ext H H') {t : Nat} {N : List Nd} {vr : Value} (h : TrieAt H t N vr) : TrieAt H' t N vr := by
  obtain ⟨vn, st, ver, anc, h1, h2, h3, h4⟩ := h
  exact ⟨vn, st, ver, anc, hx.get h1, h2, h3.ext hx, h4⟩
/-- What is read of a trie. -/
structure TrieRd (H : AHeap) (t : Nat) (N : List Nd) (vn vr : Value) : Prop where
  nodes : gotLoad (H.get t) 0 none H = some (vn, H)
  rules : gotLoad (H.get t) (0 + 1) none H = some (vr, H)
  rules' : gotLoad (H.get t) 1 none H = some (vr, H)
  len : ∀ H2 : AHeap, vLen false vn H2 = some (.int .i64 N.length, H2)
  node : ∀ {k : Nat} {x : Nd}, N[k]? = some x → ∃ i o, (∀ (kd : IntKind) (H2 : AHeap), vIaddr vn (.int kd k) 4 H2 = some (.pointer (some ⟨i, o, none⟩), H2)) ∧ gotLoad (H.get i) o none H = some (.int .i64 x.unit, H) ∧ gotLoad (H.get i) (o + 1) none H = some (.int .i64 x.kid, H) ∧ gotLoad (H.get i) (o + 2) none H = some (.int .i64 x.brother, H) ∧ gotLoad (H.get i) (o + 3) none H = some (.int .i64 x.rule, H)
  few : N.length < 1000000000
theorem nd_at {N : List Nd} {k f : Nat} {x : Nd} (hx : N[k]? = some x) (hf : f < 4) : (N.flatMap nd)[k * 4 + f]? = (nd x)[f]? := by
  obtain ⟨h1, h2⟩ := row_at (f := nd) (s := 4) (fun _ => rfl) hx
  rw [← h1, List.getElem?_take, if_pos hf, List.getElem?_drop]
theorem TrieAt.rd {H : AHeap} {t : Nat} {N : List Nd} {vr : Value} (h : TrieAt H t N vr) : ∃ vn, TrieRd H t N vn vr := by
  obtain ⟨vn, st, ver, anc, h1, h2, h3, h4⟩ := h
  refine ⟨vn, ⟨by rw [h1, got_one h2]; rfl, by rw [h1, got_one h2]; rfl, by rw [h1, got_one h2]; rfl, fun H2 => h3.len, fun {k x} hk => ?_, h4⟩⟩
  obtain ⟨i, o, a1, a2, _⟩ := h3.at (List.getElem?_eq_some_iff.1 hk).1
  exact ⟨i, o, a1, a2 0 _ (by omega) (nd_at hk (by omega)), a2 1 _ (by omega) (nd_at hk (by omega)), a2 2 _ (by omega) (nd_at hk (by omega)), a2 3 _ (by omega) (nd_at hk (by omega))⟩
/-- Nodes behind one another: from s on, by their brothers. -/
def Chain (N : List Nd) : Int → List Nat → Prop
  | s, [] => s ≤ 0
  | s, j :: r => s = j ∧ 0 < j ∧ ∃ x, N[j]? = some x ∧ Chain N x.brother r
def unitAt (N : List Nd) (j : Nat) : Int := match N[j]? with
  | some x => x.unit
  | none => 0
/-- The one of some nodes that has a unit. -/
def pickU (N : List Nd) (u : Int) (js : List Nat) : Option Nat := js.find? fun j => decide (unitAt N j = u)
theorem l_Step {t : Nat} {N : List Nd} {vn vr : Value} {u : Int} {H : AHeap} (hr : TrieRd H t N vn vr) : ∀ (js : List Nat) (s : Int), Chain N s js →
    Out (run Try.prog (tabF tab) om1 (.loop [0, 2, 8] b_trie_Trie__Step_0) [(0, .pointer (some ⟨t, 0, none⟩)), (2, .int .i64 u), (8, .int .i64 s)] H) fun y e' H' => H' = H ∧
      match pickU N u js with | some j => y = .ret ∧ eget e' 6 = .int .i64 j ∧ eget e' 7 = .bool true | none => y = .exit 0 := by
  intro js
  induction js with
  | nil =>
    intro s hc
    have hs : ¬ s > 0 := by have : s ≤ 0 := hc; omega
    rw [w_loop_b b_trie_Trie__Step_0.eq_1]
    simp only [w_draw, dr_cons, dr_some, dr_none, dr_go, still_no, still_yes, next_no, next_yes, last_cons, last_nil, isStore, calm_no, calm_nil, calm_cons, calmB_some, isCall, freshI, dr_nil, dr_end, still_nil, still_cons, stillB_some, stamp_some, stampV_ptr, stampV_tuple, stampO, still_here, still_here0, List.nil_append, w_out, w_gives, fin_ret, fin_normal, ress_nil, ress_tmp, pack_one, pack_nil, pack_two, entry_nil, entry_one, entry_two, entry_three, entry_four, eq_skip, eq_exit, eq_ret, w_rows, w_done, w_seq, w_normal, w_ret, w_exit, w_cond, w_true, w_false, eq_block, block_normal, block_ret, block_exit, rows_nil, rows_cons, on_some, on_none, row_plain, row_guard, guard_tt, guard_ff, guard_tf, guard_ft, guard_no, ev_tmp, ev_int, ev_bool, ev_string, ev_slice, ev_pointer, ev_map, ev_float, ev_complex, ev_nilIface, ev_nilFunc, ev_func, eget_cons, eget_nil, st_mv, st_pick, v_pick_t, v_pick_f, st_ext, v_ext0, v_ext1, v_ext2, v_ext3, st_int, v_int, int_add, int_sub, int_mul, int_eql, int_neq, int_lss, int_leq, int_gtr, int_geq, st_beq, v_beq, v_bne, st_not, v_not, st_conv, v_conv, st_faddr, v_faddr, st_iaddr, v_iaddr, st_aaddr, v_aaddr, st_nilChk, v_nil, st_len, v_len, v_lenS, st_load, v_load, got_one, got_row, mem_tip, mem_ro, mem_ret, st_alloc, st_box, st_store, v_store, got_store, cells_agg, cells_int, cells_bool, cells_slice, cells_pointer, cells_string, cells_complex, cells_func, one_int, one_bool, one_slice, one_pointer, one_string, one_complex, one_func, upd_push, get_push_self, AHeap.n_push, AHeap.n_upd, st_build, parts_nil, parts_cons, st_bslice, st_append, st_mkfun, st_mkface, st_isNil, st_max, v_max, st_min, v_min, st_field, st_index, st_slice0, v_slice0, v_slice0n, st_slice, kill_nil, st_call, v_call, forget_nil, forget_cons, Option.map_some, Option.map_none, Option.bind_some, List.map_cons, List.map_nil, if_true, if_false, Nat.reduceEqDiff, Int.reduceEq, Nat.reduceAdd, Nat.reduceMul, Bool.not_true, Bool.not_false, reduceCtorEq, decide_true, decide_false, Int.cast_ofNat_Int, eq_self, Int.reduceLT, Int.reduceLE, Int.reduceToNat, Int.toNat_natCast, Int.le_refl, Nat.le_refl, Nat.zero_add, Nat.add_zero, Nat.zero_mul, Nat.mul_one, Nat.mul_zero, and_self, and_true, true_and, List.length_cons, List.length_nil, List.all_cons, List.all_nil, Bool.and_self, Bool.and_true, Bool.true_and, List.take_zero, List.nil_append, List.drop_nil, List.append_nil, List.getElem?_cons_zero, List.getElem?_cons_succ, List.drop_succ_cons, List.drop_zero, List.take_succ_cons, List.cons_append, Nat.reduceLeDiff, hs, pickU, List.find?_nil]
  | cons j js ih =>
    intro s hc
    obtain ⟨rfl, hj, x, hx, hc⟩ := hc
    have hs : (j : Int) > 0 := by omega
    obtain ⟨i, o, a1, a2, a3, a4, a5⟩ := hr.node hx
    have hu : unitAt N j = x.unit := by unfold unitAt; rw [hx]
    rw [w_loop_b b_trie_Trie__Step_0.eq_1]
    unfold pickU
    rw [List.find?_cons, hu]
    by_cases he : x.unit = u
    · have hd : decide (x.unit = u) = true := decide_eq_true he
      simp only [w_draw, dr_cons, dr_some, dr_none, dr_go, still_no, still_yes, next_no, next_yes, last_cons, last_nil, isStore, calm_no, calm_nil, calm_cons, calmB_some, isCall, freshI, dr_nil, dr_end, still_nil, still_cons, stillB_some, stamp_some, stampV_ptr, stampV_tuple, stampO, still_here, still_here0, List.nil_append, w_out, w_gives, fin_ret, fin_normal, ress_nil, ress_tmp, pack_one, pack_nil, pack_two, entry_nil, entry_one, entry_two, entry_three, entry_four, eq_skip, eq_exit, eq_ret, w_rows, w_done, w_seq, w_normal, w_ret, w_exit, w_cond, w_true, w_false, eq_block, block_normal, block_ret, block_exit, rows_nil, rows_cons, on_some, on_none, row_plain, row_guard, guard_tt, guard_ff, guard_tf, guard_ft, guard_no, ev_tmp, ev_int, ev_bool, ev_string, ev_slice, ev_pointer, ev_map, ev_float, ev_complex, ev_nilIface, ev_nilFunc, ev_func, eget_cons, eget_nil, st_mv, st_pick, v_pick_t, v_pick_f, st_ext, v_ext0, v_ext1, v_ext2, v_ext3, st_int, v_int, int_add, int_sub, int_mul, int_eql, int_neq, int_lss, int_leq, int_gtr, int_geq, st_beq, v_beq, v_bne, st_not, v_not, st_conv, v_conv, st_faddr, v_faddr, st_iaddr, v_iaddr, st_aaddr, v_aaddr, st_nilChk, v_nil, st_len, v_len, v_lenS, st_load, v_load, got_one, got_row, mem_tip, mem_ro, mem_ret, st_alloc, st_box, st_store, v_store, got_store, cells_agg, cells_int, cells_bool, cells_slice, cells_pointer, cells_string, cells_complex, cells_func, one_int, one_bool, one_slice, one_pointer, one_string, one_complex, one_func, upd_push, get_push_self, AHeap.n_push, AHeap.n_upd, st_build, parts_nil, parts_cons, st_bslice, st_append, st_mkfun, st_mkface, st_isNil, st_max, v_max, st_min, v_min, st_field, st_index, st_slice0, v_slice0, v_slice0n, st_slice, kill_nil, st_call, v_call, forget_nil, forget_cons, Option.map_some, Option.map_none, Option.bind_some, List.map_cons, List.map_nil, if_true, if_false, Nat.reduceEqDiff, Int.reduceEq, Nat.reduceAdd, Nat.reduceMul, Bool.not_true, Bool.not_false, reduceCtorEq, decide_true, decide_false, Int.cast_ofNat_Int, eq_self, Int.reduceLT, Int.reduceLE, Int.reduceToNat, Int.toNat_natCast, Int.le_refl, Nat.le_refl, Nat.zero_add, Nat.add_zero, Nat.zero_mul, Nat.mul_one, Nat.mul_zero, and_self, and_true, true_and, List.length_cons, List.length_nil, List.all_cons, List.all_nil, Bool.and_self, Bool.and_true, Bool.true_and, List.take_zero, List.nil_append, List.drop_nil, List.append_nil, List.getElem?_cons_zero, List.getElem?_cons_succ, List.drop_succ_cons, List.drop_zero, List.take_succ_cons, List.cons_append, Nat.reduceLeDiff, hs, hr.nodes, a1, a2, hd]
    · have hd : decide (x.unit = u) = false := decide_eq_false he
      obtain ⟨y, e', H', r1, r2, r3⟩ := ih x.brother hc
      simp only [w_draw, dr_cons, dr_some, dr_none, dr_go, still_no, still_yes, next_no, next_yes, last_cons, last_nil, isStore, calm_no, calm_nil, calm_cons, calmB_some, isCall, freshI, dr_nil, dr_end, still_nil, still_cons, stillB_some, stamp_some, stampV_ptr, stampV_tuple, stampO, still_here, still_here0, List.nil_append, w_out, w_gives, fin_ret, fin_normal, ress_nil, ress_tmp, pack_one, pack_nil, pack_two, entry_nil, entry_one, entry_two, entry_three, entry_four, eq_skip, eq_exit, eq_ret, w_rows, w_done, w_seq, w_normal, w_ret, w_exit, w_cond, w_true, w_false, eq_block, block_normal, block_ret, block_exit, rows_nil, rows_cons, on_some, on_none, row_plain, row_guard, guard_tt, guard_ff, guard_tf, guard_ft, guard_no, ev_tmp, ev_int, ev_bool, ev_string, ev_slice, ev_pointer, ev_map, ev_float, ev_complex, ev_nilIface, ev_nilFunc, ev_func, eget_cons, eget_nil, st_mv, st_pick, v_pick_t, v_pick_f, st_ext, v_ext0, v_ext1, v_ext2, v_ext3, st_int, v_int, int_add, int_sub, int_mul, int_eql, int_neq, int_lss, int_leq, int_gtr, int_geq, st_beq, v_beq, v_bne, st_not, v_not, st_conv, v_conv, st_faddr, v_faddr, st_iaddr, v_iaddr, st_aaddr, v_aaddr, st_nilChk, v_nil, st_len, v_len, v_lenS, st_load, v_load, got_one, got_row, mem_tip, mem_ro, mem_ret, st_alloc, st_box, st_store, v_store, got_store, cells_agg, cells_int, cells_bool, cells_slice, cells_pointer, cells_string, cells_complex, cells_func, one_int, one_bool, one_slice, one_pointer, one_string, one_complex, one_func, upd_push, get_push_self, AHeap.n_push, AHeap.n_upd, st_build, parts_nil, parts_cons, st_bslice, st_append, st_mkfun, st_mkface, st_isNil, st_max, v_max, st_min, v_min, st_field, st_index, st_slice0, v_slice0, v_slice0n, st_slice, kill_nil, st_call, v_call, forget_nil, forget_cons, Option.map_some, Option.map_none, Option.bind_some, List.map_cons, List.map_nil, if_true, if_false, Nat.reduceEqDiff, Int.reduceEq, Nat.reduceAdd, Nat.reduceMul, Bool.not_true, Bool.not_false, reduceCtorEq, decide_true, decide_false, Int.cast_ofNat_Int, eq_self, Int.reduceLT, Int.reduceLE, Int.reduceToNat, Int.toNat_natCast, Int.le_refl, Nat.le_refl, Nat.zero_add, Nat.add_zero, Nat.zero_mul, Nat.mul_one, Nat.mul_zero, and_self, and_true, true_and, List.length_cons, List.length_nil, List.all_cons, List.all_nil, Bool.and_self, Bool.and_true, Bool.true_and, List.take_zero, List.nil_append, List.drop_nil, List.append_nil, List.getElem?_cons_zero, List.getElem?_cons_succ, List.drop_succ_cons, List.drop_zero, List.take_succ_cons, List.cons_append, Nat.reduceLeDiff, hs, hr.nodes, a1, a2, a4, hd]
      rw [w_enter]
      simp only [w_draw, dr_cons, dr_some, dr_none, dr_go, still_no, still_yes, next_no, next_yes, last_cons, last_nil, isStore, calm_no, calm_nil, calm_cons, calmB_some, isCall, freshI, dr_nil, dr_end, still_nil, still_cons, stillB_some, stamp_some, stampV_ptr, stampV_tuple, stampO, still_here, still_here0, List.nil_append, w_out, w_gives, fin_ret, fin_normal, ress_nil, ress_tmp, pack_one, pack_nil, pack_two, entry_nil, entry_one, entry_two, entry_three, entry_four, eq_skip, eq_exit, eq_ret, w_rows, w_done, w_seq, w_normal, w_ret, w_exit, w_cond, w_true, w_false, eq_block, block_normal, block_ret, block_exit, rows_nil, rows_cons, on_some, on_none, row_plain, row_guard, guard_tt, guard_ff, guard_tf, guard_ft, guard_no, ev_tmp, ev_int, ev_bool, ev_string, ev_slice, ev_pointer, ev_map, ev_float, ev_complex, ev_nilIface, ev_nilFunc, ev_func, eget_cons, eget_nil, st_mv, st_pick, v_pick_t, v_pick_f, st_ext, v_ext0, v_ext1, v_ext2, v_ext3, st_int, v_int, int_add, int_sub, int_mul, int_eql, int_neq, int_lss, int_leq, int_gtr, int_geq, st_beq, v_beq, v_bne, st_not, v_not, st_conv, v_conv, st_faddr, v_faddr, st_iaddr, v_iaddr, st_aaddr, v_aaddr, st_nilChk, v_nil, st_len, v_len, v_lenS, st_load, v_load, got_one, got_row, mem_tip, mem_ro, mem_ret, st_alloc, st_box, st_store, v_store, got_store, cells_agg, cells_int, cells_bool, cells_slice, cells_pointer, cells_string, cells_complex, cells_func, one_int, one_bool, one_slice, one_pointer, one_string, one_complex, one_func, upd_push, get_push_self, AHeap.n_push, AHeap.n_upd, st_build, parts_nil, parts_cons, st_bslice, st_append, st_mkfun, st_mkface, st_isNil, st_max, v_max, st_min, v_min, st_field, st_index, st_slice0, v_slice0, v_slice0n, st_slice, kill_nil, st_call, v_call, forget_nil, forget_cons, Option.map_some, Option.map_none, Option.bind_some, List.map_cons, List.map_nil, if_true, if_false, Nat.reduceEqDiff, Int.reduceEq, Nat.reduceAdd, Nat.reduceMul, Bool.not_true, Bool.not_false, reduceCtorEq, decide_true, decide_false, Int.cast_ofNat_Int, eq_self, Int.reduceLT, Int.reduceLE, Int.reduceToNat, Int.toNat_natCast, Int.le_refl, Nat.le_refl, Nat.zero_add, Nat.add_zero, Nat.zero_mul, Nat.mul_one, Nat.mul_zero, and_self, and_true, true_and, List.length_cons, List.length_nil, List.all_cons, List.all_nil, Bool.and_self, Bool.and_true, Bool.true_and, List.take_zero, List.nil_append, List.drop_nil, List.append_nil, List.getElem?_cons_zero, List.getElem?_cons_succ, List.drop_succ_cons, List.drop_zero, List.take_succ_cons, List.cons_append, Nat.reduceLeDiff, r1]
      exact ⟨r2, r3⟩
theorem c_Step {t : Nat} {N : List Nd} {vr : Value} {k : Nat} {x : Nd} {u : Int} {H : AHeap} {js : List Nat} (hr : TrieAt H t N vr) (hk : N[k]? = some x) (hc : Chain N x.kid js) :
    cw Try.prog (tabF tab) om1 36 [.pointer (some ⟨t, 0, none⟩), .int .i64 (k : Int), .int .i64 u] H = some (.tuple ⟨match pickU N u js with | some j => [.int .i64 j, .bool true] | none => [.int .i64 0, .bool false]⟩, H) := by
  obtain ⟨vn, hr⟩ := hr.rd
  rw [cw_run (F := F_trie_Trie__Step) rfl rfl rfl]
  unfold F_trie_Trie__Step k_trie_Trie__Step
  have hkl := (List.getElem?_eq_some_iff.1 hk).1
  have h1 : ¬ (k : Int) < 0 := by omega
  have h2 : ¬ (k : Int) ≥ (N.length : Int) := by omega
  obtain ⟨i, o, a1, a2, a3, a4, a5⟩ := hr.node hk
  obtain ⟨y, e', H', r1, rfl, r3⟩ := l_Step (u := u) hr js x.kid hc
  have hl := hr.len H'
  have hn := hr.nodes
  simp only [w_draw, dr_cons, dr_some, dr_none, dr_go, still_no, still_yes, next_no, next_yes, last_cons, last_nil, isStore, calm_no, calm_nil, calm_cons, calmB_some, isCall, freshI, dr_nil, dr_end, still_nil, still_cons, stillB_some, stamp_some, stampV_ptr, stampV_tuple, stampO, still_here, still_here0, List.nil_append, w_out, w_gives, fin_ret, fin_normal, ress_nil, ress_tmp, pack_one, pack_nil, pack_two, entry_nil, entry_one, entry_two, entry_three, entry_four, eq_skip, eq_exit, eq_ret, w_rows, w_done, w_seq, w_normal, w_ret, w_exit, w_cond, w_true, w_false, eq_block, block_normal, block_ret, block_exit, rows_nil, rows_cons, on_some, on_none, row_plain, row_guard, guard_tt, guard_ff, guard_tf, guard_ft, guard_no, ev_tmp, ev_int, ev_bool, ev_string, ev_slice, ev_pointer, ev_map, ev_float, ev_complex, ev_nilIface, ev_nilFunc, ev_func, eget_cons, eget_nil, st_mv, st_pick, v_pick_t, v_pick_f, st_ext, v_ext0, v_ext1, v_ext2, v_ext3, st_int, v_int, int_add, int_sub, int_mul, int_eql, int_neq, int_lss, int_leq, int_gtr, int_geq, st_beq, v_beq, v_bne, st_not, v_not, st_conv, v_conv, st_faddr, v_faddr, st_iaddr, v_iaddr, st_aaddr, v_aaddr, st_nilChk, v_nil, st_len, v_len, v_lenS, st_load, v_load, got_one, got_row, mem_tip, mem_ro, mem_ret, st_alloc, st_box, st_store, v_store, got_store, cells_agg, cells_int, cells_bool, cells_slice, cells_pointer, cells_string, cells_complex, cells_func, one_int, one_bool, one_slice, one_pointer, one_string, one_complex, one_func, upd_push, get_push_self, AHeap.n_push, AHeap.n_upd, st_build, parts_nil, parts_cons, st_bslice, st_append, st_mkfun, st_mkface, st_isNil, st_max, v_max, st_min, v_min, st_field, st_index, st_slice0, v_slice0, v_slice0n, st_slice, kill_nil, st_call, v_call, forget_nil, forget_cons, Option.map_some, Option.map_none, Option.bind_some, List.map_cons, List.map_nil, if_true, if_false, Nat.reduceEqDiff, Int.reduceEq, Nat.reduceAdd, Nat.reduceMul, Bool.not_true, Bool.not_false, reduceCtorEq, decide_true, decide_false, Int.cast_ofNat_Int, eq_self, Int.reduceLT, Int.reduceLE, Int.reduceToNat, Int.toNat_natCast, Int.le_refl, Nat.le_refl, Nat.zero_add, Nat.add_zero, Nat.zero_mul, Nat.mul_one, Nat.mul_zero, and_self, and_true, true_and, List.length_cons, List.length_nil, List.all_cons, List.all_nil, Bool.and_self, Bool.and_true, Bool.true_and, List.take_zero, List.nil_append, List.drop_nil, List.append_nil, List.getElem?_cons_zero, List.getElem?_cons_succ, List.drop_succ_cons, List.drop_zero, List.take_succ_cons, List.cons_append, Nat.reduceLeDiff, h1, hn, hl, h2, a1, a3]
  rw [w_enter]
  simp only [w_draw, dr_cons, dr_some, dr_none, dr_go, still_no, still_yes, next_no, next_yes, last_cons, last_nil, isStore, calm_no, calm_nil, calm_cons, calmB_some, isCall, freshI, dr_nil, dr_end, still_nil, still_cons, stillB_some, stamp_some, stampV_ptr, stampV_tuple, stampO, still_here, still_here0, List.nil_append, w_out, w_gives, fin_ret, fin_normal, ress_nil, ress_tmp, pack_one, pack_nil, pack_two, entry_nil, entry_one, entry_two, entry_three, entry_four, eq_skip, eq_exit, eq_ret, w_rows, w_done, w_seq, w_normal, w_ret, w_exit, w_cond, w_true, w_false, eq_block, block_normal, block_ret, block_exit, rows_nil, rows_cons, on_some, on_none, row_plain, row_guard, guard_tt, guard_ff, guard_tf, guard_ft, guard_no, ev_tmp, ev_int, ev_bool, ev_string, ev_slice, ev_pointer, ev_map, ev_float, ev_complex, ev_nilIface, ev_nilFunc, ev_func, eget_cons, eget_nil, st_mv, st_pick, v_pick_t, v_pick_f, st_ext, v_ext0, v_ext1, v_ext2, v_ext3, st_int, v_int, int_add, int_sub, int_mul, int_eql, int_neq, int_lss, int_leq, int_gtr, int_geq, st_beq, v_beq, v_bne, st_not, v_not, st_conv, v_conv, st_faddr, v_faddr, st_iaddr, v_iaddr, st_aaddr, v_aaddr, st_nilChk, v_nil, st_len, v_len, v_lenS, st_load, v_load, got_one, got_row, mem_tip, mem_ro, mem_ret, st_alloc, st_box, st_store, v_store, got_store, cells_agg, cells_int, cells_bool, cells_slice, cells_pointer, cells_string, cells_complex, cells_func, one_int, one_bool, one_slice, one_pointer, one_string, one_complex, one_func, upd_push, get_push_self, AHeap.n_push, AHeap.n_upd, st_build, parts_nil, parts_cons, st_bslice, st_append, st_mkfun, st_mkface, st_isNil, st_max, v_max, st_min, v_min, st_field, st_index, st_slice0, v_slice0, v_slice0n, st_slice, kill_nil, st_call, v_call, forget_nil, forget_cons, Option.map_some, Option.map_none, Option.bind_some, List.map_cons, List.map_nil, if_true, if_false, Nat.reduceEqDiff, Int.reduceEq, Nat.reduceAdd, Nat.reduceMul, Bool.not_true, Bool.not_false, reduceCtorEq, decide_true, decide_false, Int.cast_ofNat_Int, eq_self, Int.reduceLT, Int.reduceLE, Int.reduceToNat, Int.toNat_natCast, Int.le_refl, Nat.le_refl, Nat.zero_add, Nat.add_zero, Nat.zero_mul, Nat.mul_one, Nat.mul_zero, and_self, and_true, true_and, List.length_cons, List.length_nil, List.all_cons, List.all_nil, Bool.and_self, Bool.and_true, Bool.true_and, List.take_zero, List.nil_append, List.drop_nil, List.append_nil, List.getElem?_cons_zero, List.getElem?_cons_succ, List.drop_succ_cons, List.drop_zero, List.take_succ_cons, List.cons_append, Nat.reduceLeDiff, r1]
  cases hp : pickU N u js with
  | none =>
    rw [hp] at r3
    subst r3
    simp only [w_draw, dr_cons, dr_some, dr_none, dr_go, still_no, still_yes, next_no, next_yes, last_cons, last_nil, isStore, calm_no, calm_nil, calm_cons, calmB_some, isCall, freshI, dr_nil, dr_end, still_nil, still_cons, stillB_some, stamp_some, stampV_ptr, stampV_tuple, stampO, still_here, still_here0, List.nil_append, w_out, w_gives, fin_ret, fin_normal, ress_nil, ress_tmp, pack_one, pack_nil, pack_two, entry_nil, entry_one, entry_two, entry_three, entry_four, eq_skip, eq_exit, eq_ret, w_rows, w_done, w_seq, w_normal, w_ret, w_exit, w_cond, w_true, w_false, eq_block, block_normal, block_ret, block_exit, rows_nil, rows_cons, on_some, on_none, row_plain, row_guard, guard_tt, guard_ff, guard_tf, guard_ft, guard_no, ev_tmp, ev_int, ev_bool, ev_string, ev_slice, ev_pointer, ev_map, ev_float, ev_complex, ev_nilIface, ev_nilFunc, ev_func, eget_cons, eget_nil, st_mv, st_pick, v_pick_t, v_pick_f, st_ext, v_ext0, v_ext1, v_ext2, v_ext3, st_int, v_int, int_add, int_sub, int_mul, int_eql, int_neq, int_lss, int_leq, int_gtr, int_geq, st_beq, v_beq, v_bne, st_not, v_not, st_conv, v_conv, st_faddr, v_faddr, st_iaddr, v_iaddr, st_aaddr, v_aaddr, st_nilChk, v_nil, st_len, v_len, v_lenS, st_load, v_load, got_one, got_row, mem_tip, mem_ro, mem_ret, st_alloc, st_box, st_store, v_store, got_store, cells_agg, cells_int, cells_bool, cells_slice, cells_pointer, cells_string, cells_complex, cells_func, one_int, one_bool, one_slice, one_pointer, one_string, one_complex, one_func, upd_push, get_push_self, AHeap.n_push, AHeap.n_upd, st_build, parts_nil, parts_cons, st_bslice, st_append, st_mkfun, st_mkface, st_isNil, st_max, v_max, st_min, v_min, st_field, st_index, st_slice0, v_slice0, v_slice0n, st_slice, kill_nil, st_call, v_call, forget_nil, forget_cons, Option.map_some, Option.map_none, Option.bind_some, List.map_cons, List.map_nil, if_true, if_false, Nat.reduceEqDiff, Int.reduceEq, Nat.reduceAdd, Nat.reduceMul, Bool.not_true, Bool.not_false, reduceCtorEq, decide_true, decide_false, Int.cast_ofNat_Int, eq_self, Int.reduceLT, Int.reduceLE, Int.reduceToNat, Int.toNat_natCast, Int.le_refl, Nat.le_refl, Nat.zero_add, Nat.add_zero, Nat.zero_mul, Nat.mul_one, Nat.mul_zero, and_self, and_true, true_and, List.length_cons, List.length_nil, List.all_cons, List.all_nil, Bool.and_self, Bool.and_true, Bool.true_and, List.take_zero, List.nil_append, List.drop_nil, List.append_nil, List.getElem?_cons_zero, List.getElem?_cons_succ, List.drop_succ_cons, List.drop_zero, List.take_succ_cons, List.cons_append, Nat.reduceLeDiff]
  | some j =>
    rw [hp] at r3
    obtain ⟨rfl, r4, r5⟩ := r3
    simp only [w_draw, dr_cons, dr_some, dr_none, dr_go, still_no, still_yes, next_no, next_yes, last_cons, last_nil, isStore, calm_no, calm_nil, calm_cons, calmB_some, isCall, freshI, dr_nil, dr_end, still_nil, still_cons, stillB_some, stamp_some, stampV_ptr, stampV_tuple, stampO, still_here, still_here0, List.nil_append, w_out, w_gives, fin_ret, fin_normal, ress_nil, ress_tmp, pack_one, pack_nil, pack_two, entry_nil, entry_one, entry_two, entry_three, entry_four, eq_skip, eq_exit, eq_ret, w_rows, w_done, w_seq, w_normal, w_ret, w_exit, w_cond, w_true, w_false, eq_block, block_normal, block_ret, block_exit, rows_nil, rows_cons, on_some, on_none, row_plain, row_guard, guard_tt, guard_ff, guard_tf, guard_ft, guard_no, ev_tmp, ev_int, ev_bool, ev_string, ev_slice, ev_pointer, ev_map, ev_float, ev_complex, ev_nilIface, ev_nilFunc, ev_func, eget_cons, eget_nil, st_mv, st_pick, v_pick_t, v_pick_f, st_ext, v_ext0, v_ext1, v_ext2, v_ext3, st_int, v_int, int_add, int_sub, int_mul, int_eql, int_neq, int_lss, int_leq, int_gtr, int_geq, st_beq, v_beq, v_bne, st_not, v_not, st_conv, v_conv, st_faddr, v_faddr, st_iaddr, v_iaddr, st_aaddr, v_aaddr, st_nilChk, v_nil, st_len, v_len, v_lenS, st_load, v_load, got_one, got_row, mem_tip, mem_ro, mem_ret, st_alloc, st_box, st_store, v_store, got_store, cells_agg, cells_int, cells_bool, cells_slice, cells_pointer, cells_string, cells_complex, cells_func, one_int, one_bool, one_slice, one_pointer, one_string, one_complex, one_func, upd_push, get_push_self, AHeap.n_push, AHeap.n_upd, st_build, parts_nil, parts_cons, st_bslice, st_append, st_mkfun, st_mkface, st_isNil, st_max, v_max, st_min, v_min, st_field, st_index, st_slice0, v_slice0, v_slice0n, st_slice, kill_nil, st_call, v_call, forget_nil, forget_cons, Option.map_some, Option.map_none, Option.bind_some, List.map_cons, List.map_nil, if_true, if_false, Nat.reduceEqDiff, Int.reduceEq, Nat.reduceAdd, Nat.reduceMul, Bool.not_true, Bool.not_false, reduceCtorEq, decide_true, decide_false, Int.cast_ofNat_Int, eq_self, Int.reduceLT, Int.reduceLE, Int.reduceToNat, Int.toNat_natCast, Int.le_refl, Nat.le_refl, Nat.zero_add, Nat.add_zero, Nat.zero_mul, Nat.mul_one, Nat.mul_zero, and_self, and_true, true_and, List.length_cons, List.length_nil, List.all_cons, List.all_nil, Bool.and_self, Bool.and_true, Bool.true_and, List.take_zero, List.nil_append, List.drop_nil, List.append_nil, List.getElem?_cons_zero, List.getElem?_cons_succ, List.drop_succ_cons, List.drop_zero, List.take_succ_cons, List.cons_append, Nat.reduceLeDiff, r4, r5]
theorem c_StepNo {t : Nat} {N : List Nd} {vr : Value} {a u : Int} {H : AHeap} (hr : TrieAt H t N vr) (ha : a < 0 ∨ a ≥ N.length) :
    cw Try.prog (tabF tab) om1 36 [.pointer (some ⟨t, 0, none⟩), .int .i64 a, .int .i64 u] H = some (.tuple ⟨[.int .i64 0, .bool false]⟩, H) := by
  obtain ⟨vn, hr⟩ := hr.rd
  rw [cw_run (F := F_trie_Trie__Step) rfl rfl rfl]
  unfold F_trie_Trie__Step k_trie_Trie__Step
  have hl := hr.len H
  have hn := hr.nodes
  by_cases h1 : a < 0
  · simp only [w_draw, dr_cons, dr_some, dr_none, dr_go, still_no, still_yes, next_no, next_yes, last_cons, last_nil, isStore, calm_no, calm_nil, calm_cons, calmB_some, isCall, freshI, dr_nil, dr_end, still_nil, still_cons, stillB_some, stamp_some, stampV_ptr, stampV_tuple, stampO, still_here, still_here0, List.nil_append, w_out, w_gives, fin_ret, fin_normal, ress_nil, ress_tmp, pack_one, pack_nil, pack_two, entry_nil, entry_one, entry_two, entry_three, entry_four, eq_skip, eq_exit, eq_ret, w_rows, w_done, w_seq, w_normal, w_ret, w_exit, w_cond, w_true, w_false, eq_block, block_normal, block_ret, block_exit, rows_nil, rows_cons, on_some, on_none, row_plain, row_guard, guard_tt, guard_ff, guard_tf, guard_ft, guard_no, ev_tmp, ev_int, ev_bool, ev_string, ev_slice, ev_pointer, ev_map, ev_float, ev_complex, ev_nilIface, ev_nilFunc, ev_func, eget_cons, eget_nil, st_mv, st_pick, v_pick_t, v_pick_f, st_ext, v_ext0, v_ext1, v_ext2, v_ext3, st_int, v_int, int_add, int_sub, int_mul, int_eql, int_neq, int_lss, int_leq, int_gtr, int_geq, st_beq, v_beq, v_bne, st_not, v_not, st_conv, v_conv, st_faddr, v_faddr, st_iaddr, v_iaddr, st_aaddr, v_aaddr, st_nilChk, v_nil, st_len, v_len, v_lenS, st_load, v_load, got_one, got_row, mem_tip, mem_ro, mem_ret, st_alloc, st_box, st_store, v_store, got_store, cells_agg, cells_int, cells_bool, cells_slice, cells_pointer, cells_string, cells_complex, cells_func, one_int, one_bool, one_slice, one_pointer, one_string, one_complex, one_func, upd_push, get_push_self, AHeap.n_push, AHeap.n_upd, st_build, parts_nil, parts_cons, st_bslice, st_append, st_mkfun, st_mkface, st_isNil, st_max, v_max, st_min, v_min, st_field, st_index, st_slice0, v_slice0, v_slice0n, st_slice, kill_nil, st_call, v_call, forget_nil, forget_cons, Option.map_some, Option.map_none, Option.bind_some, List.map_cons, List.map_nil, if_true, if_false, Nat.reduceEqDiff, Int.reduceEq, Nat.reduceAdd, Nat.reduceMul, Bool.not_true, Bool.not_false, reduceCtorEq, decide_true, decide_false, Int.cast_ofNat_Int, eq_self, Int.reduceLT, Int.reduceLE, Int.reduceToNat, Int.toNat_natCast, Int.le_refl, Nat.le_refl, Nat.zero_add, Nat.add_zero, Nat.zero_mul, Nat.mul_one, Nat.mul_zero, and_self, and_true, true_and, List.length_cons, List.length_nil, List.all_cons, List.all_nil, Bool.and_self, Bool.and_true, Bool.true_and, List.take_zero, List.nil_append, List.drop_nil, List.append_nil, List.getElem?_cons_zero, List.getElem?_cons_succ, List.drop_succ_cons, List.drop_zero, List.take_succ_cons, List.cons_append, Nat.reduceLeDiff, h1]
  · have h2 : a ≥ (N.length : Int) := by omega
    simp only [w_draw, dr_cons, dr_some, dr_none, dr_go, still_no, still_yes, next_no, next_yes, last_cons, last_nil, isStore, calm_no, calm_nil, calm_cons, calmB_some, isCall, freshI, dr_nil, dr_end, still_nil, still_cons, stillB_some, stamp_some, stampV_ptr, stampV_tuple, stampO, still_here, still_here0, List.nil_append, w_out, w_gives, fin_ret, fin_normal, ress_nil, ress_tmp, pack_one, pack_nil, pack_two, entry_nil, entry_one, entry_two, entry_three, entry_four, eq_skip, eq_exit, eq_ret, w_rows, w_done, w_seq, w_normal, w_ret, w_exit, w_cond, w_true, w_false, eq_block, block_normal, block_ret, block_exit, rows_nil, rows_cons, on_some, on_none, row_plain, row_guard, guard_tt, guard_ff, guard_tf, guard_ft, guard_no, ev_tmp, ev_int, ev_bool, ev_string, ev_slice, ev_pointer, ev_map, ev_float, ev_complex, ev_nilIface, ev_nilFunc, ev_func, eget_cons, eget_nil, st_mv, st_pick, v_pick_t, v_pick_f, st_ext, v_ext0, v_ext1, v_ext2, v_ext3, st_int, v_int, int_add, int_sub, int_mul, int_eql, int_neq, int_lss, int_leq, int_gtr, int_geq, st_beq, v_beq, v_bne, st_not, v_not, st_conv, v_conv, st_faddr, v_faddr, st_iaddr, v_iaddr, st_aaddr, v_aaddr, st_nilChk, v_nil, st_len, v_len, v_lenS, st_load, v_load, got_one, got_row, mem_tip, mem_ro, mem_ret, st_alloc, st_box, st_store, v_store, got_store, cells_agg, cells_int, cells_bool, cells_slice, cells_pointer, cells_string, cells_complex, cells_func, one_int, one_bool, one_slice, one_pointer, one_string, one_complex, one_func, upd_push, get_push_self, AHeap.n_push, AHeap.n_upd, st_build, parts_nil, parts_cons, st_bslice, st_append, st_mkfun, st_mkface, st_isNil, st_max, v_max, st_min, v_min, st_field, st_index, st_slice0, v_slice0, v_slice0n, st_slice, kill_nil, st_call, v_call, forget_nil, forget_cons, Option.map_some, Option.map_none, Option.bind_some, List.map_cons, List.map_nil, if_true, if_false, Nat.reduceEqDiff, Int.reduceEq, Nat.reduceAdd, Nat.reduceMul, Bool.not_true, Bool.not_false, reduceCtorEq, decide_true, decide_false, Int.cast_ofNat_Int, eq_self, Int.reduceLT, Int.reduceLE, Int.reduceToNat, Int.toNat_natCast, Int.le_refl, Nat.le_refl, Nat.zero_add, Nat.add_zero, Nat.zero_mul, Nat.mul_one, Nat.mul_zero, and_self, and_true, true_and, List.length_cons, List.length_nil, List.all_cons, List.all_nil, Bool.and_self, Bool.and_true, Bool.true_and, List.take_zero, List.nil_append, List.drop_nil, List.append_nil, List.getElem?_cons_zero, List.getElem?_cons_succ, List.drop_succ_cons, List.drop_zero, List.take_succ_cons, List.cons_append, Nat.reduceLeDiff, h1, hn, hl, h2]
theorem c_Rule {t : Nat} {N : List Nd} {vr : Value} {k : Nat} {x : Nd} {H : AHeap} (hr : TrieAt H t N vr) (hk : N[k]? = some x) :
    cw Try.prog (tabF tab) om1 39 [.pointer (some ⟨t, 0, none⟩), .int .i64 (k : Int)] H = some (.int .i64 x.rule, H) := by
  obtain ⟨vn, hr⟩ := hr.rd
  rw [cw_run (F := F_trie_Trie__Rule) rfl rfl rfl]
  unfold F_trie_Trie__Rule k_trie_Trie__Rule
  have hkl := (List.getElem?_eq_some_iff.1 hk).1
  have h1 : ¬ (k : Int) < 0 := by omega
  have h2 : ¬ (k : Int) ≥ (N.length : Int) := by omega
  obtain ⟨i, o, a1, a2, a3, a4, a5⟩ := hr.node hk
  have hl := hr.len H
  have hn := hr.nodes
  simp only [w_draw, dr_cons, dr_some, dr_none, dr_go, still_no, still_yes, next_no, next_yes, last_cons, last_nil, isStore, calm_no, calm_nil, calm_cons, calmB_some, isCall, freshI, dr_nil, dr_end, still_nil, still_cons, stillB_some, stamp_some, stampV_ptr, stampV_tuple, stampO, still_here, still_here0, List.nil_append, w_out, w_gives, fin_ret, fin_normal, ress_nil, ress_tmp, pack_one, pack_nil, pack_two, entry_nil, entry_one, entry_two, entry_three, entry_four, eq_skip, eq_exit, eq_ret, w_rows, w_done, w_seq, w_normal, w_ret, w_exit, w_cond, w_true, w_false, eq_block, block_normal, block_ret, block_exit, rows_nil, rows_cons, on_some, on_none, row_plain, row_guard, guard_tt, guard_ff, guard_tf, guard_ft, guard_no, ev_tmp, ev_int, ev_bool, ev_string, ev_slice, ev_pointer, ev_map, ev_float, ev_complex, ev_nilIface, ev_nilFunc, ev_func, eget_cons, eget_nil, st_mv, st_pick, v_pick_t, v_pick_f, st_ext, v_ext0, v_ext1, v_ext2, v_ext3, st_int, v_int, int_add, int_sub, int_mul, int_eql, int_neq, int_lss, int_leq, int_gtr, int_geq, st_beq, v_beq, v_bne, st_not, v_not, st_conv, v_conv, st_faddr, v_faddr, st_iaddr, v_iaddr, st_aaddr, v_aaddr, st_nilChk, v_nil, st_len, v_len, v_lenS, st_load, v_load, got_one, got_row, mem_tip, mem_ro, mem_ret, st_alloc, st_box, st_store, v_store, got_store, cells_agg, cells_int, cells_bool, cells_slice, cells_pointer, cells_string, cells_complex, cells_func, one_int, one_bool, one_slice, one_pointer, one_string, one_complex, one_func, upd_push, get_push_self, AHeap.n_push, AHeap.n_upd, st_build, parts_nil, parts_cons, st_bslice, st_append, st_mkfun, st_mkface, st_isNil, st_max, v_max, st_min, v_min, st_field, st_index, st_slice0, v_slice0, v_slice0n, st_slice, kill_nil, st_call, v_call, forget_nil, forget_cons, Option.map_some, Option.map_none, Option.bind_some, List.map_cons, List.map_nil, if_true, if_false, Nat.reduceEqDiff, Int.reduceEq, Nat.reduceAdd, Nat.reduceMul, Bool.not_true, Bool.not_false, reduceCtorEq, decide_true, decide_false, Int.cast_ofNat_Int, eq_self, Int.reduceLT, Int.reduceLE, Int.reduceToNat, Int.toNat_natCast, Int.le_refl, Nat.le_refl, Nat.zero_add, Nat.add_zero, Nat.zero_mul, Nat.mul_one, Nat.mul_zero, and_self, and_true, true_and, List.length_cons, List.length_nil, List.all_cons, List.all_nil, Bool.and_self, Bool.and_true, Bool.true_and, List.take_zero, List.nil_append, List.drop_nil, List.append_nil, List.getElem?_cons_zero, List.getElem?_cons_succ, List.drop_succ_cons, List.drop_zero, List.take_succ_cons, List.cons_append, Nat.reduceLeDiff, h1, hn, hl, h2, a1, a5]
theorem c_Leaf {t : Nat} {N : List Nd} {vr : Value} {k : Nat} {x : Nd} {H : AHeap} (hr : TrieAt H t N vr) (hk : N[k]? = some x) :
    cw Try.prog (tabF tab) om1 40 [.pointer (some ⟨t, 0, none⟩), .int .i64 (k : Int)] H = some (.bool (decide (x.kid = 0)), H) := by
  obtain ⟨vn, hr⟩ := hr.rd
  rw [cw_run (F := F_trie_Trie__Leaf) rfl rfl rfl]
  unfold F_trie_Trie__Leaf k_trie_Trie__Leaf
  have hkl := (List.getElem?_eq_some_iff.1 hk).1
  have h1 : ¬ (k : Int) < 0 := by omega
  have h2 : ¬ (k : Int) ≥ (N.length : Int) := by omega
  obtain ⟨i, o, a1, a2, a3, a4, a5⟩ := hr.node hk
  have hl := hr.len H
  have hn := hr.nodes
  simp only [w_draw, dr_cons, dr_some, dr_none, dr_go, still_no, still_yes, next_no, next_yes, last_cons, last_nil, isStore, calm_no, calm_nil, calm_cons, calmB_some, isCall, freshI, dr_nil, dr_end, still_nil, still_cons, stillB_some, stamp_some, stampV_ptr, stampV_tuple, stampO, still_here, still_here0, List.nil_append, w_out, w_gives, fin_ret, fin_normal, ress_nil, ress_tmp, pack_one, pack_nil, pack_two, entry_nil, entry_one, entry_two, entry_three, entry_four, eq_skip, eq_exit, eq_ret, w_rows, w_done, w_seq, w_normal, w_ret, w_exit, w_cond, w_true, w_false, eq_block, block_normal, block_ret, block_exit, rows_nil, rows_cons, on_some, on_none, row_plain, row_guard, guard_tt, guard_ff, guard_tf, guard_ft, guard_no, ev_tmp, ev_int, ev_bool, ev_string, ev_slice, ev_pointer, ev_map, ev_float, ev_complex, ev_nilIface, ev_nilFunc, ev_func, eget_cons, eget_nil, st_mv, st_pick, v_pick_t, v_pick_f, st_ext, v_ext0, v_ext1, v_ext2, v_ext3, st_int, v_int, int_add, int_sub, int_mul, int_eql, int_neq, int_lss, int_leq, int_gtr, int_geq, st_beq, v_beq, v_bne, st_not, v_not, st_conv, v_conv, st_faddr, v_faddr, st_iaddr, v_iaddr, st_aaddr, v_aaddr, st_nilChk, v_nil, st_len, v_len, v_lenS, st_load, v_load, got_one, got_row, mem_tip, mem_ro, mem_ret, st_alloc, st_box, st_store, v_store, got_store, cells_agg, cells_int, cells_bool, cells_slice, cells_pointer, cells_string, cells_complex, cells_func, one_int, one_bool, one_slice, one_pointer, one_string, one_complex, one_func, upd_push, get_push_self, AHeap.n_push, AHeap.n_upd, st_build, parts_nil, parts_cons, st_bslice, st_append, st_mkfun, st_mkface, st_isNil, st_max, v_max, st_min, v_min, st_field, st_index, st_slice0, v_slice0, v_slice0n, st_slice, kill_nil, st_call, v_call, forget_nil, forget_cons, Option.map_some, Option.map_none, Option.bind_some, List.map_cons, List.map_nil, if_true, if_false, Nat.reduceEqDiff, Int.reduceEq, Nat.reduceAdd, Nat.reduceMul, Bool.not_true, Bool.not_false, reduceCtorEq, decide_true, decide_false, Int.cast_ofNat_Int, eq_self, Int.reduceLT, Int.reduceLE, Int.reduceToNat, Int.toNat_natCast, Int.le_refl, Nat.le_refl, Nat.zero_add, Nat.add_zero, Nat.zero_mul, Nat.mul_one, Nat.mul_zero, and_self, and_true, true_and, List.length_cons, List.length_nil, List.all_cons, List.all_nil, Bool.and_self, Bool.and_true, Bool.true_and, List.take_zero, List.nil_append, List.drop_nil, List.append_nil, List.getElem?_cons_zero, List.getElem?_cons_succ, List.drop_succ_cons, List.drop_zero, List.take_succ_cons, List.cons_append, Nat.reduceLeDiff, h1, hn, hl, h2, a1, a3]
end Go.Proofs.Ythnccfmmeaeibaa

/-! A trie's nodes, and the paths that lead to them. -/
set_option linter.unusedSimpArgs false
set_option linter.unusedVariables false
namespace Go.Proofs.Ythnccfmmeaeibaa
open Go Lon
def kidB (P : List (List Int)) (p : List Int) (j : Nat) : Bool := match P[j]? with
  | some q => decide (q ≠ []) && decide (q.dropLast = p)
  | none => false
/-- The nodes right below a path, the latest first. -/
def kidsOf (P : List (List Int)) (p : List Int) : List Nat := ((List.range P.length).filter (kidB P p)).reverse
/-- Nodes as the paths tell them. -/
structure Fits (P : List (List Int)) (N : List Nd) : Prop where
  len : N.length = P.length
  root : P[0]? = some []
  nodup : P.Nodup
  chain : ∀ {j : Nat} {x : Nd} {p : List Int}, N[j]? = some x → P[j]? = some p → Chain N x.kid (kidsOf P p)
  unit : ∀ {j : Nat} {x : Nd} {p : List Int} {u : Int}, N[j]? = some x → P[j]? = some (p ++ [u]) → x.unit = u
  closed : ∀ {p : List Int} {u : Int}, p ++ [u] ∈ P → p ∈ P
  kid0 : ∀ {j : Nat} {x : Nd}, N[j]? = some x → 0 ≤ x.kid
theorem at_inj {P : List (List Int)} (h : P.Nodup) {i j : Nat} {p : List Int} (hi : P[i]? = some p) (hj : P[j]? = some p) : i = j := by
  obtain ⟨h1, h2⟩ := List.getElem?_eq_some_iff.1 hi
  obtain ⟨h3, h4⟩ := List.getElem?_eq_some_iff.1 hj
  rcases Nat.lt_trichotomy i j with hlt | rfl | hlt
  · exact absurd (h2.trans h4.symm) (List.pairwise_iff_getElem.1 h i j h1 h3 hlt)
  · rfl
  · exact absurd (h4.trans h2.symm) (List.pairwise_iff_getElem.1 h j i h3 h1 hlt)
theorem kid_iff {P : List (List Int)} {p : List Int} {j : Nat} : kidB P p j = true ↔ ∃ u, P[j]? = some (p ++ [u]) := by
  unfold kidB
  constructor
  · intro h
    split at h
    · rename_i q hq
      simp only [Bool.and_eq_true, decide_eq_true_eq] at h
      obtain ⟨h1, rfl⟩ := h
      exact ⟨q.getLast h1, hq.trans (congrArg some (List.dropLast_concat_getLast h1).symm)⟩
    · cases h
  · rintro ⟨u, hu⟩
    rw [hu]
    simp
theorem mem_kids {P : List (List Int)} {p : List Int} {j : Nat} : j ∈ kidsOf P p ↔ ∃ u, P[j]? = some (p ++ [u]) := by
  unfold kidsOf
  rw [List.mem_reverse, List.mem_filter, kid_iff, List.mem_range]
  constructor
  · exact fun h => h.2
  · rintro ⟨u, hu⟩
    exact ⟨(List.getElem?_eq_some_iff.1 hu).1, u, hu⟩
/-- Where a path's node is. -/
theorem pick_iff {P : List (List Int)} {N : List Nd} (h : Fits P N) {p : List Int} {u : Int} {j : Nat} : pickU N u (kidsOf P p) = some j ↔ P[j]? = some (p ++ [u]) := by
  have key : ∀ {i : Nat}, i ∈ kidsOf P p → unitAt N i = u → P[i]? = some (p ++ [u]) := by
    intro i hi hu
    obtain ⟨v, hv⟩ := mem_kids.1 hi
    have hil : i < N.length := by rw [h.len]; exact (List.getElem?_eq_some_iff.1 hv).1
    have hx := List.getElem?_eq_getElem hil
    have := h.unit hx hv
    unfold unitAt at hu
    rw [hx] at hu
    simp only at hu
    rw [hv, ← hu, this]
  constructor
  · intro hp
    unfold pickU at hp
    exact key (List.mem_of_find?_eq_some hp) (by simpa using List.find?_some hp)
  · intro hj
    cases hp : pickU N u (kidsOf P p) with
    | some i =>
      have hi : P[i]? = some (p ++ [u]) := by
        unfold pickU at hp
        exact key (List.mem_of_find?_eq_some hp) (by simpa using List.find?_some hp)
      rw [at_inj h.nodup hi hj]
    | none =>
      exfalso
      unfold pickU at hp
      rw [List.find?_eq_none] at hp
      have hjl : j < N.length := by rw [h.len]; exact (List.getElem?_eq_some_iff.1 hj).1
      have hx := List.getElem?_eq_getElem hjl
      refine hp j (mem_kids.2 ⟨u, hj⟩) ?_
      unfold unitAt
      rw [hx]
      simpa using h.unit hx hj
theorem pick_none {P : List (List Int)} {N : List Nd} (h : Fits P N) {p : List Int} {u : Int} : pickU N u (kidsOf P p) = none ↔ p ++ [u] ∉ P := by
  constructor
  · intro hp hm
    obtain ⟨j, hj, hjp⟩ := List.getElem_of_mem hm
    have := (pick_iff h (p := p) (u := u) (j := j)).2 (by rw [List.getElem?_eq_getElem hj, hjp])
    rw [hp] at this
    cases this
  · intro hm
    cases hp : pickU N u (kidsOf P p) with
    | none => rfl
    | some j => exact absurd (List.mem_of_getElem? ((pick_iff h).1 hp)) hm
theorem Chain.congr {N N' : List Nd} (hb : ∀ (j : Nat) (x : Nd), N[j]? = some x → ∃ x', N'[j]? = some x' ∧ x'.brother = x.brother) : ∀ {js : List Nat} {s : Int}, Chain N s js → Chain N' s js
  | [], s, h => h
  | j :: js, s, ⟨h1, h2, x, hx, h3⟩ => by
    obtain ⟨x', hx', e⟩ := hb j x hx
    exact ⟨h1, h2, x', hx', by rw [e]; exact Chain.congr hb h3⟩
/-- A node's rule is set. -/
theorem Fits.setRule {P : List (List Int)} {N : List Nd} (h : Fits P N) {k : Nat} {x : Nd} (hx : N[k]? = some x) (r : Int) : Fits P (N.set k ⟨x.unit, x.kid, x.brother, r⟩) := by
  have hk := (List.getElem?_eq_some_iff.1 hx).1
  have get : ∀ {j : Nat} {y : Nd}, (N.set k ⟨x.unit, x.kid, x.brother, r⟩)[j]? = some y → ∃ z : Nd, N[j]? = some z ∧ y.unit = z.unit ∧ y.kid = z.kid ∧ y.brother = z.brother := by
    intro j y hy
    rw [List.getElem?_set] at hy
    split at hy
    · rename_i e
      subst e
      injection hy with hy
      subst hy
      exact ⟨x, hx, rfl, rfl, rfl⟩
    · exact ⟨y, hy, rfl, rfl, rfl⟩
  have hb : ∀ (j : Nat) (z : Nd), N[j]? = some z → ∃ z' : Nd, (N.set k ⟨x.unit, x.kid, x.brother, r⟩)[j]? = some z' ∧ z'.brother = z.brother := by
    intro j z hz
    rw [List.getElem?_set]
    split
    · rename_i e
      subst e
      rw [hx] at hz
      injection hz with hz
      subst hz
      exact ⟨_, rfl, rfl⟩
    · exact ⟨z, hz, rfl⟩
  refine ⟨by simp [h.len], h.root, h.nodup, fun hj hp => ?_, fun hj hp => ?_, h.closed, fun hj => ?_⟩
  · obtain ⟨z, hz, _, e2, _⟩ := get hj
    rw [e2]
    exact (h.chain hz hp).congr hb
  · obtain ⟨z, hz, e1, _, _⟩ := get hj
    rw [e1]
    exact h.unit hz hp
  · obtain ⟨z, hz, _, e2, _⟩ := get hj
    rw [e2]
    exact h.kid0 hz
/-- A node is laid below another. -/
theorem Fits.snoc {P : List (List Int)} {N : List Nd} (h : Fits P N) {k : Nat} {x : Nd} {p : List Int} {u : Int} (hx : N[k]? = some x) (hp : P[k]? = some p) (hn : p ++ [u] ∉ P) :
    Fits (P ++ [p ++ [u]]) ((N ++ [Nd.mk u 0 x.kid (-1)]).set k ⟨x.unit, (N.length : Int), x.brother, x.rule⟩) := by
  have hk := (List.getElem?_eq_some_iff.1 hx).1
  have hlen := h.len
  have h0 : 0 < P.length := (List.getElem?_eq_some_iff.1 h.root).1
  have old : ∀ {j : Nat}, j < N.length → j ≠ k → ((N ++ [Nd.mk u 0 x.kid (-1)]).set k ⟨x.unit, (N.length : Int), x.brother, x.rule⟩)[j]? = N[j]? := by
    intro j hj hne
    rw [List.getElem?_set, if_neg (fun e => hne e.symm), List.getElem?_append_left hj]
  have atk : ((N ++ [Nd.mk u 0 x.kid (-1)]).set k ⟨x.unit, (N.length : Int), x.brother, x.rule⟩)[k]? = some ⟨x.unit, (N.length : Int), x.brother, x.rule⟩ := by
    rw [List.getElem?_set, if_pos rfl, if_pos (by simp; omega)]
  have atn : ((N ++ [Nd.mk u 0 x.kid (-1)]).set k ⟨x.unit, (N.length : Int), x.brother, x.rule⟩)[N.length]? = some ⟨u, 0, x.kid, -1⟩ := by
    rw [List.getElem?_set, if_neg (by omega), List.getElem?_append_right (Nat.le_refl _), Nat.sub_self]
    rfl
  have hb : ∀ (j : Nat) (z : Nd), N[j]? = some z → ∃ z' : Nd, ((N ++ [Nd.mk u 0 x.kid (-1)]).set k ⟨x.unit, (N.length : Int), x.brother, x.rule⟩)[j]? = some z' ∧ z'.brother = z.brother := by
    intro j z hz
    by_cases e : j = k
    · subst e
      rw [hx] at hz
      injection hz with hz
      subst hz
      exact ⟨_, atk, rfl⟩
    · exact ⟨z, by rw [old (List.getElem?_eq_some_iff.1 hz).1 e]; exact hz, rfl⟩
  have kidsO : ∀ q, q ≠ p → kidsOf (P ++ [p ++ [u]]) q = kidsOf P q := by
    intro q hq
    unfold kidsOf
    rw [List.length_append, List.length_singleton, List.range_succ, List.filter_append]
    have h1 : [P.length].filter (kidB (P ++ [p ++ [u]]) q) = [] := by
      rw [List.filter_eq_nil_iff]
      intro j hj
      simp at hj
      subst hj
      rw [kid_iff]
      rintro ⟨v, hv⟩
      rw [List.getElem?_append_right (Nat.le_refl _), Nat.sub_self] at hv
      simp at hv
      exact hq hv.1.symm
    rw [h1, List.append_nil]
    congr 1
    refine List.filter_congr fun j hj => ?_
    unfold kidB
    rw [List.getElem?_append_left (List.mem_range.1 hj)]
  have kidsK : kidsOf (P ++ [p ++ [u]]) p = P.length :: kidsOf P p := by
    unfold kidsOf
    rw [List.length_append, List.length_singleton, List.range_succ, List.filter_append, List.reverse_append]
    have h1 : [P.length].filter (kidB (P ++ [p ++ [u]]) p) = [P.length] := by
      rw [List.filter_eq_self]
      intro j hj
      simp at hj
      subst hj
      rw [kid_iff]
      exact ⟨u, by rw [List.getElem?_append_right (Nat.le_refl _), Nat.sub_self]; rfl⟩
    rw [h1, List.reverse_singleton, List.singleton_append]
    congr 2
    refine List.filter_congr fun j hj => ?_
    unfold kidB
    rw [List.getElem?_append_left (List.mem_range.1 hj)]
  have kidsN : kidsOf P (p ++ [u]) = [] := by
    rw [List.eq_nil_iff_forall_not_mem]
    intro j hj
    obtain ⟨v, hv⟩ := mem_kids.1 hj
    exact hn (h.closed (List.mem_of_getElem? hv))
  have hne : p ++ [u] ≠ p := fun e => by have := congrArg List.length e; simp at this
  refine ⟨by simp [hlen], by rw [List.getElem?_append_left h0]; exact h.root, ?_, ?_, ?_, ?_, ?_⟩
  · rw [List.nodup_append]
    exact ⟨h.nodup, by simp, fun a ha b hb2 => by simp at hb2; subst hb2; intro e; subst e; exact hn ha⟩
  · intro j y q hj hq
    by_cases e : j = k
    · subst e
      rw [atk] at hj
      injection hj with hj
      subst hj
      rw [List.getElem?_append_left (by omega), hp] at hq
      injection hq with hq
      subst hq
      rw [kidsK]
      refine ⟨by show (N.length : Int) = _; rw [hlen], by omega, ⟨u, 0, x.kid, -1⟩, by rw [← hlen]; exact atn, (h.chain hx hp).congr hb⟩
    · rcases Nat.lt_or_ge j N.length with hl | hl
      · rw [old hl e] at hj
        rw [List.getElem?_append_left (by omega)] at hq
        have hqp : q ≠ p := fun e2 => e (at_inj h.nodup (e2 ▸ hq) hp)
        rw [kidsO q hqp]
        exact (h.chain hj hq).congr hb
      · have hjn : j = N.length := by
          have := (List.getElem?_eq_some_iff.1 hj).1
          simp at this
          omega
        subst hjn
        rw [atn] at hj
        injection hj with hj
        subst hj
        rw [List.getElem?_append_right (by omega), hlen, Nat.sub_self] at hq
        simp at hq
        subst hq
        rw [kidsO _ hne, kidsN]
        exact Int.le_refl 0
  · intro j y q v hj hq
    by_cases e : j = k
    · subst e
      rw [atk] at hj
      injection hj with hj
      subst hj
      rw [List.getElem?_append_left (by omega)] at hq
      show x.unit = v
      exact h.unit hx hq
    · rcases Nat.lt_or_ge j N.length with hl | hl
      · rw [old hl e] at hj
        rw [List.getElem?_append_left (by omega)] at hq
        exact h.unit hj hq
      · have hjn : j = N.length := by
          have := (List.getElem?_eq_some_iff.1 hj).1
          simp at this
          omega
        subst hjn
        rw [atn] at hj
        injection hj with hj
        subst hj
        rw [List.getElem?_append_right (by omega), hlen, Nat.sub_self] at hq
        simp at hq
        exact hq.2
  · intro q v hm
    rcases List.mem_append.1 hm with hm | hm
    · exact List.mem_append_left _ (h.closed hm)
    · simp at hm
      obtain ⟨rfl, _⟩ := hm
      exact List.mem_append_left _ (List.mem_of_getElem? hp)
  · intro j y hj
    by_cases e : j = k
    · subst e
      rw [atk] at hj
      injection hj with hj
      subst hj
      show (0 : Int) ≤ (N.length : Int)
      omega
    · rcases Nat.lt_or_ge j N.length with hl | hl
      · rw [old hl e] at hj
        exact h.kid0 hj
      · have hjn : j = N.length := by
          have := (List.getElem?_eq_some_iff.1 hj).1
          simp at this
          omega
        subst hjn
        rw [atn] at hj
        injection hj with hj
        subst hj
        exact Int.le_refl 0
end Go.Proofs.Ythnccfmmeaeibaa

