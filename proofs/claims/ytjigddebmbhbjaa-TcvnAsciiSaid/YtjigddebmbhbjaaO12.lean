/- What is proved here: what the program's functions come to, as far as the claimed statement asks. Conditions: those that each theorem names, and no others. -/
import Derived.Test.YtjigddebmbhbjaaN12
/-! Layer 9: the loops of Letter, the rows. -/
set_option linter.unusedSimpArgs false
set_option linter.unusedVariables false
namespace Go.Proofs.Ytjigddebmbhbjaa
open Go Lon
set_option maxRecDepth 100000
def offs (r : Nat) : Nat := ((R09.take r).map fun x => x.2.2.length).sum
theorem offs_succ : ∀ i, i < 14 → ∃ r, R09[i]? = some r ∧ offs (i + 1) = offs i + r.2.2.length ∧ r.2.2.length < 7 ∧ 0 < r.2.2.length ∧ (0 ≤ r.1 ∧ r.1 < 1000000) ∧ (∃ m : Nat, r.2.1 = (m : Int) ∧ m < 6) ∧ ∀ x ∈ r.2.2, 0 ≤ x ∧ x < 1000000 := by
  intro i hi
  have h : ∀ i, i < 14 → ∃ r, R09[i]? = some r ∧ offs (i + 1) = offs i + r.2.2.length ∧ r.2.2.length < 7 ∧ 0 < r.2.2.length ∧ (0 ≤ r.1 ∧ r.1 < 1000000) ∧ r.2.1.toNat < 6 ∧ 0 ≤ r.2.1 ∧ ∀ x ∈ r.2.2, 0 ≤ x ∧ x < 1000000 := by
    intro i hi
    have hl : i < R09.length := by have : R09.length = 14 := rfl; omega
    refine ⟨R09[i], List.getElem?_eq_getElem hl, ?_⟩
    revert i
    decide
  obtain ⟨r, h1, h2, h3, h4, h5, h6, h7, h8⟩ := h i hi
  exact ⟨r, h1, h2, h3, h4, h5, ⟨r.2.1.toNat, by omega, h6⟩, h8⟩
theorem offs_le : ∀ i, i < 15 → offs i ≤ 74 := by decide
theorem LRows.at {H : AHeap} {v : Value} (h : LRows H v) {k : Nat} {r : Lr} (hr : R09[k]? = some r) : ∃ i o va, (∀ (kd : IntKind) (H2 : AHeap), vIaddr v (.int kd k) 3 H2 = some (.pointer (some ⟨i, o, none⟩), H2)) ∧ gotLoad (H.get i) o (some 3) H = some (.agg ⟨[.int .i64 r.1, .int .i64 r.2.1, va]⟩, H) ∧ Ints H va r.2.2 := by
  obtain ⟨cs, h1, h2⟩ := h
  obtain ⟨va, h3, h4⟩ := h2 k r hr
  have hk : k < 14 := by have := (List.getElem?_eq_some_iff.1 hr).1; have h14 : R09.length = 14 := rfl; omega
  obtain ⟨i, o, a1, _, a3⟩ := h1.at hk
  rw [h3] at a3
  exact ⟨i, o, va, a1, a3, h4⟩
theorem LRows.ext {H H' : AHeap} (hx : Ext H H') {v : Value} (h : LRows H v) : LRows H' v := by
  obtain ⟨cs, h1, h2⟩ := h
  refine ⟨cs, h1.ext hx, fun k r hr => ?_⟩
  obtain ⟨va, h3, h4⟩ := h2 k r hr
  exact ⟨va, h3, h4.ext hx⟩
theorem LRows.len {H H2 : AHeap} {v : Value} (h : LRows H v) : vLen false v H2 = some (.int .i64 14, H2) := by
  obtain ⟨cs, h1, _⟩ := h
  exact h1.len
theorem l_rowMiss {n k0 g : Int} {a p2 : Value} (hk : 0 ≤ k0 ∧ k0 < 500) (hn : n < k0 ∨ k0 + 74 ≤ n) : ∀ (j i : Nat) (H : AHeap), i + j = 14 → LRows H a →
    Out (run Try.prog (tabF tab) om1 (.loop [0, 2, 5, 6, 16, 17, 18] b_lontarlaw09_Letter_1) [(0, .int .i64 n), (2, p2), (5, .int .i64 (k0 + offs i)), (6, .int .i64 g), (16, a), (17, .int .i64 14), (18, .int .i64 i)] H)
      fun x e' H' => x = .exit 2 ∧ eget e' 0 = .int .i64 n ∧ eget e' 2 = p2 ∧ eget e' 5 = .int .i64 (k0 + 74) ∧ eget e' 6 = .int .i64 g ∧ Ext H H' := by
  intro j
  induction j with
  | zero =>
    intro i H hi ha
    obtain rfl : i = 14 := by omega
    have h0 : offs 14 = 74 := by decide
    have h14 : k0 + (offs 14 : Int) = k0 + 74 := by rw [h0]; rfl
    rw [w_loop_b b_lontarlaw09_Letter_1.eq_1, h14]
    simp only [w_draw, dr_cons, dr_some, dr_none, dr_nil, dr_end, still_nil, still_cons, stillB_some, stamp_some, stampV_ptr, stampV_tuple, stampO, still_here, still_here0, List.nil_append, w_out, w_gives, fin_ret, fin_normal, ress_nil, ress_tmp, pack_one, pack_nil, pack_two, entry_nil, entry_one, entry_two, entry_three, entry_four, eq_skip, eq_exit, eq_ret, w_rows, w_done, w_seq, w_normal, w_ret, w_exit, w_cond, w_true, w_false, eq_block, block_normal, block_ret, block_exit, rows_nil, rows_cons, on_some, on_none, row_plain, row_guard, guard_tt, guard_ff, guard_tf, guard_ft, guard_no, ev_tmp, ev_int, ev_bool, ev_string, ev_slice, ev_pointer, ev_map, ev_float, ev_complex, ev_nilIface, ev_nilFunc, ev_func, eget_cons, eget_nil, st_mv, st_pick, v_pick_t, v_pick_f, st_ext, v_ext0, v_ext1, v_ext2, v_ext3, st_int, v_int, int_add, int_sub, int_mul, int_eql, int_neq, int_lss, int_leq, int_gtr, int_geq, st_beq, v_beq, v_bne, st_not, v_not, st_conv, v_conv, st_faddr, v_faddr, st_iaddr, v_iaddr, st_aaddr, v_aaddr, st_nilChk, v_nil, st_len, v_len, v_lenS, st_load, v_load, got_one, got_row, mem_tip, mem_ro, mem_ret, st_alloc, st_box, st_store, v_store, got_store, cells_agg, cells_int, cells_bool, cells_slice, cells_pointer, cells_string, cells_complex, cells_func, one_int, one_bool, one_slice, one_pointer, one_string, one_complex, one_func, upd_push, get_push_self, AHeap.n_push, AHeap.n_upd, st_build, parts_nil, parts_cons, st_bslice, st_append, st_mkfun, st_mkface, st_isNil, st_max, v_max, st_min, v_min, st_field, st_index, st_slice0, v_slice0, v_slice0n, st_slice, kill_nil, st_call, v_call, forget_nil, forget_cons, Option.map_some, Option.map_none, Option.bind_some, List.map_cons, List.map_nil, if_true, if_false, Nat.reduceEqDiff, Int.reduceEq, Nat.reduceAdd, Nat.reduceMul, Bool.not_true, Bool.not_false, reduceCtorEq, decide_true, decide_false, Int.cast_ofNat_Int, eq_self, Int.reduceLT, Int.reduceLE, Int.reduceToNat, Int.toNat_natCast, Int.le_refl, Nat.le_refl, Nat.zero_add, Nat.add_zero, Nat.zero_mul, Nat.mul_one, Nat.mul_zero, and_self, and_true, true_and, List.length_cons, List.length_nil, List.all_cons, List.all_nil, Bool.and_self, Bool.and_true, Bool.true_and, List.take_zero, List.nil_append, List.drop_nil, List.append_nil, List.getElem?_cons_zero, List.getElem?_cons_succ, List.drop_succ_cons, List.drop_zero, List.take_succ_cons, List.cons_append, Nat.reduceLeDiff, Int.lt_irrefl]
    exact Ext.refl _
  | succ j ih =>
    intro i H hi ha
    have hlt : (i : Int) < 14 := by omega
    obtain ⟨r, hr, ho, hl7, hl0, hb, ⟨m, hm, hm6⟩, hxs⟩ := offs_succ i (by omega)
    obtain ⟨i1, o1, va, h1, h2, h3⟩ := ha.at hr
    have hx1 := Ext.push H ⟨[.int .i64 r.1, .int .i64 r.2.1, va], 54, .tip, 1, []⟩
    have hole := offs_le (i + 1) (by omega)
    have hm := l_toneMiss (n := n) (k := k0 + offs i) (g := g) (a := a) (c17 := .int .i64 14) (c18 := .int .i64 i) (p2 := p2) (p8 := .pointer (some ⟨H.n, 0, none⟩)) (h3.ext hx1) (by omega) (by omega) r.2.2.length 0 (by omega) (by omega)
    have hone : one va = true := by obtain ⟨⟨x, y, rfl⟩, _⟩ := h3; rfl
    have hw2 : IntKind.i64.wrap ((i : Int) + 1) = ((i + 1 : Nat) : Int) := by rw [wrap64 (by omega) (by omega)]; omega
    have ho2 : k0 + (offs i : Int) + (r.2.2.length : Int) = k0 + (offs (i + 1) : Int) := by omega
    rw [ho2] at hm
    obtain ⟨y, e', H', r1, r2, r3, r4, r5, r6, r7⟩ := ih (i + 1) _ (by omega) (ha.ext hx1)
    simp only [Int.cast_ofNat_Int, Int.add_zero] at hm
    rw [w_loop_b b_lontarlaw09_Letter_1.eq_1]
    simp only [w_draw, dr_cons, dr_some, dr_none, dr_nil, dr_end, still_nil, still_cons, stillB_some, stamp_some, stampV_ptr, stampV_tuple, stampO, still_here, still_here0, List.nil_append, w_out, w_gives, fin_ret, fin_normal, ress_nil, ress_tmp, pack_one, pack_nil, pack_two, entry_nil, entry_one, entry_two, entry_three, entry_four, eq_skip, eq_exit, eq_ret, w_rows, w_done, w_seq, w_normal, w_ret, w_exit, w_cond, w_true, w_false, eq_block, block_normal, block_ret, block_exit, rows_nil, rows_cons, on_some, on_none, row_plain, row_guard, guard_tt, guard_ff, guard_tf, guard_ft, guard_no, ev_tmp, ev_int, ev_bool, ev_string, ev_slice, ev_pointer, ev_map, ev_float, ev_complex, ev_nilIface, ev_nilFunc, ev_func, eget_cons, eget_nil, st_mv, st_pick, v_pick_t, v_pick_f, st_ext, v_ext0, v_ext1, v_ext2, v_ext3, st_int, v_int, int_add, int_sub, int_mul, int_eql, int_neq, int_lss, int_leq, int_gtr, int_geq, st_beq, v_beq, v_bne, st_not, v_not, st_conv, v_conv, st_faddr, v_faddr, st_iaddr, v_iaddr, st_aaddr, v_aaddr, st_nilChk, v_nil, st_len, v_len, v_lenS, st_load, v_load, got_one, got_row, mem_tip, mem_ro, mem_ret, st_alloc, st_box, st_store, v_store, got_store, cells_agg, cells_int, cells_bool, cells_slice, cells_pointer, cells_string, cells_complex, cells_func, one_int, one_bool, one_slice, one_pointer, one_string, one_complex, one_func, upd_push, get_push_self, AHeap.n_push, AHeap.n_upd, st_build, parts_nil, parts_cons, st_bslice, st_append, st_mkfun, st_mkface, st_isNil, st_max, v_max, st_min, v_min, st_field, st_index, st_slice0, v_slice0, v_slice0n, st_slice, kill_nil, st_call, v_call, forget_nil, forget_cons, Option.map_some, Option.map_none, Option.bind_some, List.map_cons, List.map_nil, if_true, if_false, Nat.reduceEqDiff, Int.reduceEq, Nat.reduceAdd, Nat.reduceMul, Bool.not_true, Bool.not_false, reduceCtorEq, decide_true, decide_false, Int.cast_ofNat_Int, eq_self, Int.reduceLT, Int.reduceLE, Int.reduceToNat, Int.toNat_natCast, Int.le_refl, Nat.le_refl, Nat.zero_add, Nat.add_zero, Nat.zero_mul, Nat.mul_one, Nat.mul_zero, and_self, and_true, true_and, List.length_cons, List.length_nil, List.all_cons, List.all_nil, Bool.and_self, Bool.and_true, Bool.true_and, List.take_zero, List.nil_append, List.drop_nil, List.append_nil, List.getElem?_cons_zero, List.getElem?_cons_succ, List.drop_succ_cons, List.drop_zero, List.take_succ_cons, List.cons_append, Nat.reduceLeDiff, hlt, h1, h2, hone, h3.len]
    rw [w_enter]
    simp only [w_draw, dr_cons, dr_some, dr_none, dr_nil, dr_end, still_nil, still_cons, stillB_some, stamp_some, stampV_ptr, stampV_tuple, stampO, still_here, still_here0, List.nil_append, w_out, w_gives, fin_ret, fin_normal, ress_nil, ress_tmp, pack_one, pack_nil, pack_two, entry_nil, entry_one, entry_two, entry_three, entry_four, eq_skip, eq_exit, eq_ret, w_rows, w_done, w_seq, w_normal, w_ret, w_exit, w_cond, w_true, w_false, eq_block, block_normal, block_ret, block_exit, rows_nil, rows_cons, on_some, on_none, row_plain, row_guard, guard_tt, guard_ff, guard_tf, guard_ft, guard_no, ev_tmp, ev_int, ev_bool, ev_string, ev_slice, ev_pointer, ev_map, ev_float, ev_complex, ev_nilIface, ev_nilFunc, ev_func, eget_cons, eget_nil, st_mv, st_pick, v_pick_t, v_pick_f, st_ext, v_ext0, v_ext1, v_ext2, v_ext3, st_int, v_int, int_add, int_sub, int_mul, int_eql, int_neq, int_lss, int_leq, int_gtr, int_geq, st_beq, v_beq, v_bne, st_not, v_not, st_conv, v_conv, st_faddr, v_faddr, st_iaddr, v_iaddr, st_aaddr, v_aaddr, st_nilChk, v_nil, st_len, v_len, v_lenS, st_load, v_load, got_one, got_row, mem_tip, mem_ro, mem_ret, st_alloc, st_box, st_store, v_store, got_store, cells_agg, cells_int, cells_bool, cells_slice, cells_pointer, cells_string, cells_complex, cells_func, one_int, one_bool, one_slice, one_pointer, one_string, one_complex, one_func, upd_push, get_push_self, AHeap.n_push, AHeap.n_upd, st_build, parts_nil, parts_cons, st_bslice, st_append, st_mkfun, st_mkface, st_isNil, st_max, v_max, st_min, v_min, st_field, st_index, st_slice0, v_slice0, v_slice0n, st_slice, kill_nil, st_call, v_call, forget_nil, forget_cons, Option.map_some, Option.map_none, Option.bind_some, List.map_cons, List.map_nil, if_true, if_false, Nat.reduceEqDiff, Int.reduceEq, Nat.reduceAdd, Nat.reduceMul, Bool.not_true, Bool.not_false, reduceCtorEq, decide_true, decide_false, Int.cast_ofNat_Int, eq_self, Int.reduceLT, Int.reduceLE, Int.reduceToNat, Int.toNat_natCast, Int.le_refl, Nat.le_refl, Nat.zero_add, Nat.add_zero, Nat.zero_mul, Nat.mul_one, Nat.mul_zero, and_self, and_true, true_and, List.length_cons, List.length_nil, List.all_cons, List.all_nil, Bool.and_self, Bool.and_true, Bool.true_and, List.take_zero, List.nil_append, List.drop_nil, List.append_nil, List.getElem?_cons_zero, List.getElem?_cons_succ, List.drop_succ_cons, List.drop_zero, List.take_succ_cons, List.cons_append, Nat.reduceLeDiff, hm, hw2]
    rw [w_enter]
    simp only [w_draw, dr_cons, dr_some, dr_none, dr_nil, dr_end, still_nil, still_cons, stillB_some, stamp_some, stampV_ptr, stampV_tuple, stampO, still_here, still_here0, List.nil_append, w_out, w_gives, fin_ret, fin_normal, ress_nil, ress_tmp, pack_one, pack_nil, pack_two, entry_nil, entry_one, entry_two, entry_three, entry_four, eq_skip, eq_exit, eq_ret, w_rows, w_done, w_seq, w_normal, w_ret, w_exit, w_cond, w_true, w_false, eq_block, block_normal, block_ret, block_exit, rows_nil, rows_cons, on_some, on_none, row_plain, row_guard, guard_tt, guard_ff, guard_tf, guard_ft, guard_no, ev_tmp, ev_int, ev_bool, ev_string, ev_slice, ev_pointer, ev_map, ev_float, ev_complex, ev_nilIface, ev_nilFunc, ev_func, eget_cons, eget_nil, st_mv, st_pick, v_pick_t, v_pick_f, st_ext, v_ext0, v_ext1, v_ext2, v_ext3, st_int, v_int, int_add, int_sub, int_mul, int_eql, int_neq, int_lss, int_leq, int_gtr, int_geq, st_beq, v_beq, v_bne, st_not, v_not, st_conv, v_conv, st_faddr, v_faddr, st_iaddr, v_iaddr, st_aaddr, v_aaddr, st_nilChk, v_nil, st_len, v_len, v_lenS, st_load, v_load, got_one, got_row, mem_tip, mem_ro, mem_ret, st_alloc, st_box, st_store, v_store, got_store, cells_agg, cells_int, cells_bool, cells_slice, cells_pointer, cells_string, cells_complex, cells_func, one_int, one_bool, one_slice, one_pointer, one_string, one_complex, one_func, upd_push, get_push_self, AHeap.n_push, AHeap.n_upd, st_build, parts_nil, parts_cons, st_bslice, st_append, st_mkfun, st_mkface, st_isNil, st_max, v_max, st_min, v_min, st_field, st_index, st_slice0, v_slice0, v_slice0n, st_slice, kill_nil, st_call, v_call, forget_nil, forget_cons, Option.map_some, Option.map_none, Option.bind_some, List.map_cons, List.map_nil, if_true, if_false, Nat.reduceEqDiff, Int.reduceEq, Nat.reduceAdd, Nat.reduceMul, Bool.not_true, Bool.not_false, reduceCtorEq, decide_true, decide_false, Int.cast_ofNat_Int, eq_self, Int.reduceLT, Int.reduceLE, Int.reduceToNat, Int.toNat_natCast, Int.le_refl, Nat.le_refl, Nat.zero_add, Nat.add_zero, Nat.zero_mul, Nat.mul_one, Nat.mul_zero, and_self, and_true, true_and, List.length_cons, List.length_nil, List.all_cons, List.all_nil, Bool.and_self, Bool.and_true, Bool.true_and, List.take_zero, List.nil_append, List.drop_nil, List.append_nil, List.getElem?_cons_zero, List.getElem?_cons_succ, List.drop_succ_cons, List.drop_zero, List.take_succ_cons, List.cons_append, Nat.reduceLeDiff, r1]
    exact ⟨r2, r3, r4, r5, r6, hx1.trans r7⟩
end Go.Proofs.Ytjigddebmbhbjaa
