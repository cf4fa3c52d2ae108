/- What is proved here: what the program's functions come to, as far as the claimed statement asks. Conditions: those that each theorem names, and no others. -/
import Derived.Test.YtoijfaglobdceaaRp14
/-! Layer 14: the rules are right. -/
set_option linter.unusedSimpArgs false
set_option linter.unusedVariables false
namespace Go.Proofs.Ytoijfaglobdceaa
open Go Lon
set_option maxRecDepth 100000
theorem got_ext {H H' : AHeap} (hx : Ext H H') {i o : Nat} {k : Option Nat} {v : Value} (h : gotLoad (H.get i) o k H = some (v, H)) : gotLoad (H'.get i) o k H' = some (v, H') := by
  cases hg : H.get i with
  | none => rw [hg] at h; cases h
  | some b =>
    rw [hx.get hg]
    rw [hg] at h
    unfold gotLoad at h ⊢
    rw [Option.map_eq_some_iff] at h
    obtain ⟨u, h3, h4⟩ := h
    injection h4 with h4 _
    rw [h3, h4]
    rfl
theorem law_Right {a b : Int} (ha : 0 ≤ a ∧ a < 256) (hb : 0 ≤ b ∧ b < 256) : Gives (cw Try.prog (tabF tab) om1 9 [.int .u8 a, .int .u8 b] AHeap.empty) fun v H' => v = .bool true := by
  rw [cw_run (F := F_lontarlaw14_IndicRight) rfl rfl rfl]
  unfold F_lontarlaw14_IndicRight k_lontarlaw14_IndicRight
  have kE := k_Empty
  rw [Option.map_eq_some_iff] at kE
  obtain ⟨⟨v, H1⟩, e1, e2⟩ := kE
  simp only [Bool.and_eq_true] at e2
  have hR := rulesB_spec e2.1
  have hC : Cut Try.prog H1 v 2 := cutB_spec e2.2 (by kernel_rfl)
  have c1 : cw Try.prog (tabF tab) om1 20 [] AHeap.empty = some (v, H1) := cw_ofT 2000 e1
  obtain ⟨v2, H2, c2, x2, rfl⟩ := c_Check hR hC
  rw [R14_chk] at c2
  obtain ⟨v3, H3, c3, x3, o3, l3⟩ := c_Turn R14_small (hR.ext x2)
  rw [R14_trn] at o3 l3
  have hT := o3.rules (by rw [R14_len] at l3; omega)
  have hTl : T14.length = 240 := by unfold T14; rw [List.length_map, R14_len]
  have hl1 := hT.len (H2 := H3)
  have hl2 := hR.len (H2 := H3)
  rw [hTl] at hl1
  rw [R14_len] at hl2
  obtain ⟨i, hi⟩ : ∃ i : Nat, a % 240 = i := ⟨(a % 240).toNat, by omega⟩
  obtain ⟨j, hj⟩ : ∃ j : Nat, b % 240 = j := ⟨(b % 240).toNat, by omega⟩
  have hi2 : i < 240 := by omega
  have w1 : IntKind.i64.wrap a = a := wrap64 (by omega) (by omega)
  have w2 : IntKind.i64.wrap b = b := wrap64 (by omega) (by omega)
  have q1 : intOp .rem .i64 a ((240 : Nat) : Int) = some (.int .i64 (i : Int)) := by rw [r_rem (by decide), Int.tmod_eq_emod_of_nonneg (by omega)]; congr 2
  have q2 : intOp .rem .i64 b ((240 : Nat) : Int) = some (.int .i64 (j : Int)) := by rw [r_rem (by decide), Int.tmod_eq_emod_of_nonneg (by omega)]; congr 2
  obtain ⟨r, hr, _⟩ := drop_at (L := R14) (i := i) (by rw [R14_len]; exact hi2)
  have hrD : R14.getD i ([], []) = r := by rw [List.getD_eq_getElem?_getD, hr]; rfl
  have f1 := List.all_eq_true.mp R14_in i (List.mem_range.2 hi2)
  have f2 := List.all_eq_true.mp R14_out i (List.mem_range.2 hi2)
  rw [hrD] at f1 f2
  simp only [beq_iff_eq] at f1 f2
  obtain ⟨i1, o1, vi, vo, g1, g2, g3, g4, g5, g6, g7, g8⟩ := ((hR.ext x2).ext x3).at hr
  obtain ⟨v4, H4, c4, x4, rfl⟩ := c_Find ((hR.ext x2).ext x3) g5
  have k3 := got_ext x4 g3
  obtain ⟨v5, H5, c5, x5, rfl⟩ := c_Find (hT.ext x4) (g6.ext x4)
  rw [f1] at c4
  rw [f2] at c5
  simp only [Int.cast_ofNat_Int] at hl1 hl2 q1 q2
  have z1 : ((0 : Int) ≠ 0) = False := by simp
  have z2 : ((240 : Int) ≠ 240) = False := by simp
  have z3 : ((240 : Int) = 0) = False := by simp
  simp only [w_draw, dr_cons, dr_some, dr_none, dr_go, calm_no, calm_nil, calm_cons, calmB_some, isCall, freshI, dr_nil, dr_end, still_nil, still_cons, stillB_some, stamp_some, stampV_ptr, stampV_tuple, stampO, still_here, still_here0, List.nil_append, w_out, w_gives, fin_ret, fin_normal, ress_nil, ress_tmp, pack_one, pack_nil, pack_two, entry_nil, entry_one, entry_two, entry_three, entry_four, eq_skip, eq_exit, eq_ret, w_rows, w_done, w_seq, w_normal, w_ret, w_exit, w_cond, w_true, w_false, eq_block, block_normal, block_ret, block_exit, rows_nil, rows_cons, on_some, on_none, row_plain, row_guard, guard_tt, guard_ff, guard_tf, guard_ft, guard_no, ev_tmp, ev_int, ev_bool, ev_string, ev_slice, ev_pointer, ev_map, ev_float, ev_complex, ev_nilIface, ev_nilFunc, ev_func, eget_cons, eget_nil, st_mv, st_pick, v_pick_t, v_pick_f, st_ext, v_ext0, v_ext1, v_ext2, v_ext3, st_int, v_int, int_add, int_sub, int_mul, int_eql, int_neq, int_lss, int_leq, int_gtr, int_geq, st_beq, v_beq, v_bne, st_not, v_not, st_conv, v_conv, st_faddr, v_faddr, st_iaddr, v_iaddr, st_aaddr, v_aaddr, st_nilChk, v_nil, st_len, v_len, v_lenS, st_load, v_load, got_one, got_row, mem_tip, mem_ro, mem_ret, st_alloc, st_box, st_store, v_store, got_store, cells_agg, cells_int, cells_bool, cells_slice, cells_pointer, cells_string, cells_complex, cells_func, one_int, one_bool, one_slice, one_pointer, one_string, one_complex, one_func, upd_push, get_push_self, AHeap.n_push, AHeap.n_upd, st_build, parts_nil, parts_cons, st_bslice, st_append, st_mkfun, st_mkface, st_isNil, st_max, v_max, st_min, v_min, st_field, st_index, st_slice0, v_slice0, v_slice0n, st_slice, kill_nil, st_call, v_call, forget_nil, forget_cons, Option.map_some, Option.map_none, Option.bind_some, List.map_cons, List.map_nil, if_true, if_false, Nat.reduceEqDiff, Int.reduceEq, Nat.reduceAdd, Nat.reduceMul, Bool.not_true, Bool.not_false, reduceCtorEq, decide_true, decide_false, Int.cast_ofNat_Int, eq_self, Int.reduceLT, Int.reduceLE, Int.reduceToNat, Int.toNat_natCast, Int.le_refl, Nat.le_refl, Nat.zero_add, Nat.add_zero, Nat.zero_mul, Nat.mul_one, Nat.mul_zero, and_self, and_true, true_and, List.length_cons, List.length_nil, List.all_cons, List.all_nil, Bool.and_self, Bool.and_true, Bool.true_and, List.take_zero, List.nil_append, List.drop_nil, List.append_nil, List.getElem?_cons_zero, List.getElem?_cons_succ, List.drop_succ_cons, List.drop_zero, List.take_succ_cons, List.cons_append, Nat.reduceLeDiff, o_awake, c1, c2, c3, hl1, hl2, z1, z2, z3, w1, w2, q1, q2, g1, g2, c4, k3, c5, beq_self_eq_true]
end Go.Proofs.Ytoijfaglobdceaa
