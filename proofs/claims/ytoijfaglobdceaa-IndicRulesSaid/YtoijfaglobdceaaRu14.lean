/- What is proved here: what the program's functions come to, as far as the claimed statement asks. Conditions: those that each theorem names, and no others. -/
import Derived.Test.YtoijfaglobdceaaLr14
/-! Layer 14: the statement of the rules. -/
set_option linter.unusedSimpArgs false
set_option linter.unusedVariables false
namespace Go.Proofs.Ytoijfaglobdceaa
open Go Lon
set_option maxRecDepth 100000
theorem law_Rules {n : Int} (hn : 0 ≤ n ∧ n < 256) : Gives (cw Try.prog (tabF tab) om1 6 [.int .u8 n] AHeap.empty) fun v H' => v = .bool true := by
  rw [cw_run (F := F_lontarlaw14_IndicRules) rfl rfl rfl]
  unfold F_lontarlaw14_IndicRules k_lontarlaw14_IndicRules
  have h1 := k_both
  rw [Option.map_eq_some_iff] at h1
  obtain ⟨⟨v1, v2, H2⟩, e2, h2⟩ := h1
  have h3 := k_len
  rw [e2] at h3
  simp only [Option.bind_some, Option.map_eq_some_iff] at h3
  obtain ⟨⟨v3, H3⟩, e3, h4⟩ := h3
  unfold run2 at e2
  rw [Option.bind_eq_some_iff] at e2
  obtain ⟨⟨u1, H1⟩, e1, e2⟩ := e2
  rw [Option.map_eq_some_iff] at e2
  obtain ⟨⟨u2, K2⟩, e2, e4⟩ := e2
  injection e4 with e4 e5
  injection e5 with e5 e6
  simp only at e4 e5 e6
  subst e4 e5 e6
  simp only [Bool.and_eq_true] at h2
  have c1 := cw_ofT 2000 e1
  have c2' := cw_ofT 2000 e2
  have c3 := cw_ofT 2000 e3
  have cs := c_Same (rulesB_spec h2.1) (rulesB_spec h2.2)
  rw [decide_eq_true rfl] at cs
  have hl3 : vLen false v3 H3 = some (.int .i64 ((240 : Nat) : Int), H3) := lenB_spec h4 (by decide) H3
  have w1 : IntKind.i64.wrap (n % 200) = n % 200 := wrap64 (by omega) (by omega)
  have q1 : intOp .rem .u8 n 200 = some (.int .u8 (n % 200)) := by rw [n_rem (by decide), Int.tmod_eq_emod_of_nonneg (by omega)]
  have hl : ∀ i (H : AHeap), vLen false (.slice (some ⟨i, 0, none⟩) 14 15) H = some (.int .i64 14, H) := fun _ _ => rfl
  obtain ⟨A0, eA0⟩ : ∃ A0, A0 = AHeap.empty.push ⟨N14.flatMap c2, 39, .tip, 0, []⟩ := ⟨_, rfl⟩
  obtain ⟨A1, eA1⟩ : ∃ A1, A1 = A0.push ⟨N14.flatMap c2, 39, .tip, 0, []⟩ := ⟨_, rfl⟩
  obtain ⟨A2, eA2⟩ : ∃ A2, A2 = A1.push ⟨N14.flatMap c2, 39, .tip, 0, []⟩ := ⟨_, rfl⟩
  have n0 : cw Try.prog (tabF tab) om1 17 [] AHeap.empty = some (.slice (some ⟨AHeap.empty.n, 0, none⟩) 14 15, A0) := by rw [eA0]; exact c_Nukta _
  have n1 : cw Try.prog (tabF tab) om1 18 [] A0 = some (.slice (some ⟨A0.n, 0, none⟩) 14 15, A1) := by rw [eA1]; exact c_Nukta2 _
  have n2 : cw Try.prog (tabF tab) om1 18 [] A1 = some (.slice (some ⟨A1.n, 0, none⟩) 14 15, A2) := by rw [eA2]; exact c_Nukta2 _
  have x1 : Ext A0 A1 := by rw [eA1]; exact Ext.push _ _
  have x2 : Ext A1 A2 := by rw [eA2]; exact Ext.push _ _
  have s0 : Sl A0 2 (.slice (some ⟨AHeap.empty.n, 0, none⟩) 14 15) 14 (N14.flatMap c2) := Sl.new (by rw [eA0]; exact get_push_self) mem_tip rfl
  have s2 : Sl A2 2 (.slice (some ⟨A1.n, 0, none⟩) 14 15) 14 (N14.flatMap c2) := Sl.new (by rw [eA2]; exact get_push_self) mem_tip rfl
  obtain ⟨y, e', H', r1, rfl, r2, r3⟩ := l_Nk (n := n) 14 0 A2 rfl ((s0.ext x1).ext x2) s2
  have hHL : H' = HL := by rw [r3, eA2, eA1, eA0]; rfl
  subst hHL
  have z : ((14 : Int) ≠ 14) = False := by simp
  simp only [Int.cast_ofNat_Int] at r1
  simp only at c1 c2' c3
  have c1' : cw Try.prog (tabF tab) om1 20 [] HL = some (u1, H1) := c1
  simp only [w_draw, dr_cons, dr_some, dr_none, dr_go, calm_no, calm_nil, calm_cons, calmB_some, isCall, freshI, dr_nil, dr_end, still_nil, still_cons, stillB_some, stamp_some, stampV_ptr, stampV_tuple, stampO, still_here, still_here0, List.nil_append, w_out, w_gives, fin_ret, fin_normal, ress_nil, ress_tmp, pack_one, pack_nil, pack_two, entry_nil, entry_one, entry_two, entry_three, entry_four, eq_skip, eq_exit, eq_ret, w_rows, w_done, w_seq, w_normal, w_ret, w_exit, w_cond, w_true, w_false, eq_block, block_normal, block_ret, block_exit, rows_nil, rows_cons, on_some, on_none, row_plain, row_guard, guard_tt, guard_ff, guard_tf, guard_ft, guard_no, ev_tmp, ev_int, ev_bool, ev_string, ev_slice, ev_pointer, ev_map, ev_float, ev_complex, ev_nilIface, ev_nilFunc, ev_func, eget_cons, eget_nil, st_mv, st_pick, v_pick_t, v_pick_f, st_ext, v_ext0, v_ext1, v_ext2, v_ext3, st_int, v_int, int_add, int_sub, int_mul, int_eql, int_neq, int_lss, int_leq, int_gtr, int_geq, st_beq, v_beq, v_bne, st_not, v_not, st_conv, v_conv, st_faddr, v_faddr, st_iaddr, v_iaddr, st_aaddr, v_aaddr, st_nilChk, v_nil, st_len, v_len, v_lenS, st_load, v_load, got_one, got_row, mem_tip, mem_ro, mem_ret, st_alloc, st_box, st_store, v_store, got_store, cells_agg, cells_int, cells_bool, cells_slice, cells_pointer, cells_string, cells_complex, cells_func, one_int, one_bool, one_slice, one_pointer, one_string, one_complex, one_func, upd_push, get_push_self, AHeap.n_push, AHeap.n_upd, st_build, parts_nil, parts_cons, st_bslice, st_append, st_mkfun, st_mkface, st_isNil, st_max, v_max, st_min, v_min, st_field, st_index, st_slice0, v_slice0, v_slice0n, st_slice, kill_nil, st_call, v_call, forget_nil, forget_cons, Option.map_some, Option.map_none, Option.bind_some, List.map_cons, List.map_nil, if_true, if_false, Nat.reduceEqDiff, Int.reduceEq, Nat.reduceAdd, Nat.reduceMul, Bool.not_true, Bool.not_false, reduceCtorEq, decide_true, decide_false, Int.cast_ofNat_Int, eq_self, Int.reduceLT, Int.reduceLE, Int.reduceToNat, Int.toNat_natCast, Int.le_refl, Nat.le_refl, Nat.zero_add, Nat.add_zero, Nat.zero_mul, Nat.mul_one, Nat.mul_zero, and_self, and_true, true_and, List.length_cons, List.length_nil, List.all_cons, List.all_nil, Bool.and_self, Bool.and_true, Bool.true_and, List.take_zero, List.nil_append, List.drop_nil, List.append_nil, List.getElem?_cons_zero, List.getElem?_cons_succ, List.drop_succ_cons, List.drop_zero, List.take_succ_cons, List.cons_append, Nat.reduceLeDiff, o_awake, n0, n1, n2, hl, z]
  rw [w_enter]
  simp only [w_draw, dr_cons, dr_some, dr_none, dr_go, calm_no, calm_nil, calm_cons, calmB_some, isCall, freshI, dr_nil, dr_end, still_nil, still_cons, stillB_some, stamp_some, stampV_ptr, stampV_tuple, stampO, still_here, still_here0, List.nil_append, w_out, w_gives, fin_ret, fin_normal, ress_nil, ress_tmp, pack_one, pack_nil, pack_two, entry_nil, entry_one, entry_two, entry_three, entry_four, eq_skip, eq_exit, eq_ret, w_rows, w_done, w_seq, w_normal, w_ret, w_exit, w_cond, w_true, w_false, eq_block, block_normal, block_ret, block_exit, rows_nil, rows_cons, on_some, on_none, row_plain, row_guard, guard_tt, guard_ff, guard_tf, guard_ft, guard_no, ev_tmp, ev_int, ev_bool, ev_string, ev_slice, ev_pointer, ev_map, ev_float, ev_complex, ev_nilIface, ev_nilFunc, ev_func, eget_cons, eget_nil, st_mv, st_pick, v_pick_t, v_pick_f, st_ext, v_ext0, v_ext1, v_ext2, v_ext3, st_int, v_int, int_add, int_sub, int_mul, int_eql, int_neq, int_lss, int_leq, int_gtr, int_geq, st_beq, v_beq, v_bne, st_not, v_not, st_conv, v_conv, st_faddr, v_faddr, st_iaddr, v_iaddr, st_aaddr, v_aaddr, st_nilChk, v_nil, st_len, v_len, v_lenS, st_load, v_load, got_one, got_row, mem_tip, mem_ro, mem_ret, st_alloc, st_box, st_store, v_store, got_store, cells_agg, cells_int, cells_bool, cells_slice, cells_pointer, cells_string, cells_complex, cells_func, one_int, one_bool, one_slice, one_pointer, one_string, one_complex, one_func, upd_push, get_push_self, AHeap.n_push, AHeap.n_upd, st_build, parts_nil, parts_cons, st_bslice, st_append, st_mkfun, st_mkface, st_isNil, st_max, v_max, st_min, v_min, st_field, st_index, st_slice0, v_slice0, v_slice0n, st_slice, kill_nil, st_call, v_call, forget_nil, forget_cons, Option.map_some, Option.map_none, Option.bind_some, List.map_cons, List.map_nil, if_true, if_false, Nat.reduceEqDiff, Int.reduceEq, Nat.reduceAdd, Nat.reduceMul, Bool.not_true, Bool.not_false, reduceCtorEq, decide_true, decide_false, Int.cast_ofNat_Int, eq_self, Int.reduceLT, Int.reduceLE, Int.reduceToNat, Int.toNat_natCast, Int.le_refl, Nat.le_refl, Nat.zero_add, Nat.add_zero, Nat.zero_mul, Nat.mul_one, Nat.mul_zero, and_self, and_true, true_and, List.length_cons, List.length_nil, List.all_cons, List.all_nil, Bool.and_self, Bool.and_true, Bool.true_and, List.take_zero, List.nil_append, List.drop_nil, List.append_nil, List.getElem?_cons_zero, List.getElem?_cons_succ, List.drop_succ_cons, List.drop_zero, List.take_succ_cons, List.cons_append, Nat.reduceLeDiff, r1, r2, c1', c2', cs, c3, hl3, w1, q1]
  rw [decide_eq_true (show (240 : Int) > n % 200 by omega)]
end Go.Proofs.Ytoijfaglobdceaa
