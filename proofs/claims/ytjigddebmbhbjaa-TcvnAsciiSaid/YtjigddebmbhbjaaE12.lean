/- What is proved here: what the program's functions come to, as far as the claimed statement asks. Conditions: those that each theorem names, and no others. -/
import Derived.Test.YtjigddebmbhbjaaD12
/-! Layer 12: the statements of bytes and scalars. -/
set_option linter.unusedSimpArgs false
set_option linter.unusedVariables false
namespace Go.Proofs.Ytjigddebmbhbjaa
open Go Lon
set_option maxRecDepth 100000
theorem gok : ∀ g F, tabF tab g = some F → FOK Try.prog g F := tabF_ok (tab_cons ok_lontarlaw12_TcvnDecode (tab_cons ok_lontarlaw12_awake (tab_cons ok_tcvn_Decode (tab_cons ok_lontarlaw12_scalar (tab_cons ok_tcvn_Encode (tab_cons ok_lontarlaw12_rows (tab_cons ok_tcvn_Rules (tab_cons ok_tcvn_rows (tab_cons ok_rule_Singles (tab_cons ok_lontarlaw12_TcvnEncode (tab_cons ok_lontarlaw12_TcvnRules (tab_cons ok_lontarlaw12_TcvnSmall (tab_cons ok_lontarlaw12_TcvnRound (tab_cons ok_lontarlaw12_TcvnAscii (tab_cons ok_lontarlaw03_Same (tab_cons ok_lontarlaw01_Units (tab_cons ok_lontarlaw09_Letter (tab_cons ok_lontarlaw09_Split (tab_cons ok_lontarlaw09_Rows (tab_cons ok_lontarlaw09_upper tab_nil))))))))))))))))))))
theorem omok0 {base : Nat} : ∀ g args H v H', om g args H = some (v, H') → Sim Try.prog base g args H v H' := fun _ _ _ _ _ h => by cases h
theorem simT {base : Nat} {g : FuncId} {args : List Value} {H H' : AHeap} {v : Value} (h : cw Try.prog (tabF tab) om g args H = some (v, H')) : Sim Try.prog base g args H v H' := cw_sound (by kernel_rfl) gok omok0 h
theorem dec_shape (c : Int) : ∃ s t, dec c = [.int .i64 s, .bool t] := by
  unfold dec
  split
  · exact ⟨_, _, rfl⟩
  · split
    · exact ⟨_, _, rfl⟩
    · exact ⟨_, _, rfl⟩
theorem enc_shape (c : Int) : ∃ s t, enc c = [.int .u8 s, .bool t] := by
  unfold enc
  split
  · exact ⟨_, _, rfl⟩
  · split
    · exact ⟨_, _, rfl⟩
    · exact ⟨_, _, rfl⟩
theorem dec_flat (c : Int) : flat (.tuple ⟨dec c⟩) = true := by obtain ⟨s, t, h⟩ := dec_shape c; rw [h]; rfl
theorem enc_flat (c : Int) : flat (.tuple ⟨enc c⟩) = true := by obtain ⟨s, t, h⟩ := enc_shape c; rw [h]; rfl
/-- What is known of the calls. -/
def om1 : CallF := fun g args H => match g, args with
  | 9, [] => some (.bool true, H)
  | 10, [.int .u8 c] => if 0 ≤ c ∧ c < 256 then some (.tuple ⟨dec c⟩, H) else none
  | 11, [.int .i64 c] => some (.tuple ⟨dec c⟩, H)
  | 12, [.int .i64 c] => some (.tuple ⟨enc c⟩, H)
  | _, _ => none
theorem omok {base : Nat} : ∀ g args H v H', om1 g args H = some (v, H') → Sim Try.prog base g args H v H' := by
  intro g args H v H' h
  unfold om1 at h
  split at h
  · injection h with h
    injection h with h1 h2
    subst h1 h2
    obtain ⟨v, H1, r, rfl⟩ := c_awake
    exact sim_closed (fun base => simT r) rfl rfl base _
  · split at h
    · rename_i hc
      injection h with h
      injection h with h1 h2
      subst h1 h2
      obtain ⟨v, H1, r, hx, rfl⟩ := c_Decode hc H
      exact sim_drop (simT r) hx (dec_flat _)
    · cases h
  · injection h with h
    injection h with h1 h2
    subst h1 h2
    obtain ⟨v, H1, r, hx, rfl⟩ := c_scalar H
    exact sim_drop (simT r) hx (dec_flat _)
  · injection h with h
    injection h with h1 h2
    subst h1 h2
    obtain ⟨v, H1, r, hx, rfl⟩ := c_Encode H
    exact sim_drop (simT r) hx (enc_flat _)
  · cases h
theorem o_awake (H : AHeap) : cw Try.prog (tabF tab) om1 9 [] H = some (.bool true, H) := cw_omega rfl
theorem o_Decode {c : Int} (hc : 0 ≤ c ∧ c < 256) (H : AHeap) : cw Try.prog (tabF tab) om1 10 [.int .u8 c] H = some (.tuple ⟨dec c⟩, H) := cw_omega (if_pos hc)
theorem o_scalar (c : Int) (H : AHeap) : cw Try.prog (tabF tab) om1 11 [.int .i64 c] H = some (.tuple ⟨dec c⟩, H) := cw_omega rfl
theorem o_Encode (c : Int) (H : AHeap) : cw Try.prog (tabF tab) om1 12 [.int .i64 c] H = some (.tuple ⟨enc c⟩, H) := cw_omega rfl

/-! Bytes and scalars. -/
def sc (c : Int) : Option Int := if c < 128 then some c else look L12 c
theorem dec_some {c s : Int} (h : sc c = some s) : dec c = [.int .i64 s, .bool true] := by
  unfold sc at h
  unfold dec
  split at h
  · rename_i hc
    injection h with h
    subst h
    rw [if_pos hc]
  · rename_i hc
    rw [if_neg hc, h]
theorem dec_none {c : Int} (h : sc c = none) : dec c = [.int .i64 0, .bool false] := by
  unfold sc at h
  unfold dec
  split at h
  · cases h
  · rename_i hc
    rw [if_neg hc, h]
theorem look_mem {L : List (Int × Int)} {c s : Int} (h : look L c = some s) : (c, s) ∈ L := by
  unfold look at h
  rw [Option.map_eq_some_iff] at h
  obtain ⟨p, h1, h2⟩ := h
  have h3 := List.mem_of_find?_eq_some h1
  have h4 := List.find?_some h1
  simp at h4
  obtain ⟨a, b⟩ := p
  simp only at h2 h4
  subst h2 h4
  exact h3
theorem lookR_mem {L : List (Int × Int)} {c s : Int} (h : lookR L s = some c) : (c, s) ∈ L := by
  unfold lookR at h
  rw [Option.map_eq_some_iff] at h
  obtain ⟨p, h1, h2⟩ := h
  have h3 := List.mem_of_find?_eq_some h1
  have h4 := List.find?_some h1
  simp at h4
  obtain ⟨a, b⟩ := p
  simp only at h2 h4
  subst h2 h4
  exact h3
theorem L12_back : ∀ p ∈ L12, ¬ (0 ≤ p.2 ∧ p.2 < 128) ∧ lookR L12 p.2 = some p.1 ∧ look L12 p.1 = some p.2 ∧ ¬ p.1 < 128 := by decide
theorem enc_of {c s : Int} (hc : 0 ≤ c ∧ c < 256) (h : sc c = some s) : enc s = [.int .u8 c, .bool true] := by
  unfold sc at h
  unfold enc
  split at h
  · injection h with h
    subst h
    rw [if_pos ⟨hc.1, by assumption⟩]
  · have := L12_back _ (look_mem h)
    rw [if_neg this.1, this.2.1]
theorem law_Round {a b : Int} (ha : 0 ≤ a ∧ a < 256) (hb : 0 ≤ b ∧ b < 256) : Gives (cw Try.prog (tabF tab) om1 7 [.int .u8 a, .int .u8 b] AHeap.empty) fun v H' => v = .bool true := by
  rw [cw_run (F := F_lontarlaw12_TcvnRound) rfl rfl rfl]
  unfold F_lontarlaw12_TcvnRound k_lontarlaw12_TcvnRound
  cases h1 : sc a with
  | none =>
    cases h2 : sc b with
    | none => simp only [w_draw, dr_cons, dr_some, dr_none, dr_nil, dr_end, still_nil, still_cons, stillB_some, stamp_some, stampV_ptr, stampV_tuple, stampO, still_here, still_here0, List.nil_append, w_out, w_gives, fin_ret, fin_normal, ress_nil, ress_tmp, pack_one, pack_nil, pack_two, entry_nil, entry_one, entry_two, entry_three, entry_four, eq_skip, eq_exit, eq_ret, w_rows, w_done, w_seq, w_normal, w_ret, w_exit, w_cond, w_true, w_false, eq_block, block_normal, block_ret, block_exit, rows_nil, rows_cons, on_some, on_none, row_plain, row_guard, guard_tt, guard_ff, guard_tf, guard_ft, guard_no, ev_tmp, ev_int, ev_bool, ev_string, ev_slice, ev_pointer, ev_map, ev_float, ev_complex, ev_nilIface, ev_nilFunc, ev_func, eget_cons, eget_nil, st_mv, st_pick, v_pick_t, v_pick_f, st_ext, v_ext0, v_ext1, v_ext2, v_ext3, st_int, v_int, int_add, int_sub, int_mul, int_eql, int_neq, int_lss, int_leq, int_gtr, int_geq, st_beq, v_beq, v_bne, st_not, v_not, st_conv, v_conv, st_faddr, v_faddr, st_iaddr, v_iaddr, st_aaddr, v_aaddr, st_nilChk, v_nil, st_len, v_len, v_lenS, st_load, v_load, got_one, got_row, mem_tip, mem_ro, mem_ret, st_alloc, st_box, st_store, v_store, got_store, cells_agg, cells_int, cells_bool, cells_slice, cells_pointer, cells_string, cells_complex, cells_func, one_int, one_bool, one_slice, one_pointer, one_string, one_complex, one_func, upd_push, get_push_self, AHeap.n_push, AHeap.n_upd, st_build, parts_nil, parts_cons, st_bslice, st_append, st_mkfun, st_mkface, st_isNil, st_max, v_max, st_min, v_min, st_field, st_index, st_slice0, v_slice0, v_slice0n, st_slice, kill_nil, st_call, v_call, forget_nil, forget_cons, Option.map_some, Option.map_none, Option.bind_some, List.map_cons, List.map_nil, if_true, if_false, Nat.reduceEqDiff, Int.reduceEq, Nat.reduceAdd, Nat.reduceMul, Bool.not_true, Bool.not_false, reduceCtorEq, decide_true, decide_false, Int.cast_ofNat_Int, eq_self, Int.reduceLT, Int.reduceLE, Int.reduceToNat, Int.toNat_natCast, Int.le_refl, Nat.le_refl, Nat.zero_add, Nat.add_zero, Nat.zero_mul, Nat.mul_one, Nat.mul_zero, and_self, and_true, true_and, List.length_cons, List.length_nil, List.all_cons, List.all_nil, Bool.and_self, Bool.and_true, Bool.true_and, List.take_zero, List.nil_append, List.drop_nil, List.append_nil, List.getElem?_cons_zero, List.getElem?_cons_succ, List.drop_succ_cons, List.drop_zero, List.take_succ_cons, List.cons_append, Nat.reduceLeDiff, o_awake, o_Decode ha, o_Decode hb, dec_none h1, dec_none h2]
    | some t => simp only [w_draw, dr_cons, dr_some, dr_none, dr_nil, dr_end, still_nil, still_cons, stillB_some, stamp_some, stampV_ptr, stampV_tuple, stampO, still_here, still_here0, List.nil_append, w_out, w_gives, fin_ret, fin_normal, ress_nil, ress_tmp, pack_one, pack_nil, pack_two, entry_nil, entry_one, entry_two, entry_three, entry_four, eq_skip, eq_exit, eq_ret, w_rows, w_done, w_seq, w_normal, w_ret, w_exit, w_cond, w_true, w_false, eq_block, block_normal, block_ret, block_exit, rows_nil, rows_cons, on_some, on_none, row_plain, row_guard, guard_tt, guard_ff, guard_tf, guard_ft, guard_no, ev_tmp, ev_int, ev_bool, ev_string, ev_slice, ev_pointer, ev_map, ev_float, ev_complex, ev_nilIface, ev_nilFunc, ev_func, eget_cons, eget_nil, st_mv, st_pick, v_pick_t, v_pick_f, st_ext, v_ext0, v_ext1, v_ext2, v_ext3, st_int, v_int, int_add, int_sub, int_mul, int_eql, int_neq, int_lss, int_leq, int_gtr, int_geq, st_beq, v_beq, v_bne, st_not, v_not, st_conv, v_conv, st_faddr, v_faddr, st_iaddr, v_iaddr, st_aaddr, v_aaddr, st_nilChk, v_nil, st_len, v_len, v_lenS, st_load, v_load, got_one, got_row, mem_tip, mem_ro, mem_ret, st_alloc, st_box, st_store, v_store, got_store, cells_agg, cells_int, cells_bool, cells_slice, cells_pointer, cells_string, cells_complex, cells_func, one_int, one_bool, one_slice, one_pointer, one_string, one_complex, one_func, upd_push, get_push_self, AHeap.n_push, AHeap.n_upd, st_build, parts_nil, parts_cons, st_bslice, st_append, st_mkfun, st_mkface, st_isNil, st_max, v_max, st_min, v_min, st_field, st_index, st_slice0, v_slice0, v_slice0n, st_slice, kill_nil, st_call, v_call, forget_nil, forget_cons, Option.map_some, Option.map_none, Option.bind_some, List.map_cons, List.map_nil, if_true, if_false, Nat.reduceEqDiff, Int.reduceEq, Nat.reduceAdd, Nat.reduceMul, Bool.not_true, Bool.not_false, reduceCtorEq, decide_true, decide_false, Int.cast_ofNat_Int, eq_self, Int.reduceLT, Int.reduceLE, Int.reduceToNat, Int.toNat_natCast, Int.le_refl, Nat.le_refl, Nat.zero_add, Nat.add_zero, Nat.zero_mul, Nat.mul_one, Nat.mul_zero, and_self, and_true, true_and, List.length_cons, List.length_nil, List.all_cons, List.all_nil, Bool.and_self, Bool.and_true, Bool.true_and, List.take_zero, List.nil_append, List.drop_nil, List.append_nil, List.getElem?_cons_zero, List.getElem?_cons_succ, List.drop_succ_cons, List.drop_zero, List.take_succ_cons, List.cons_append, Nat.reduceLeDiff, o_awake, o_Decode ha, o_Decode hb, dec_none h1, dec_some h2]
  | some s =>
    cases h2 : sc b with
    | none => simp only [w_draw, dr_cons, dr_some, dr_none, dr_nil, dr_end, still_nil, still_cons, stillB_some, stamp_some, stampV_ptr, stampV_tuple, stampO, still_here, still_here0, List.nil_append, w_out, w_gives, fin_ret, fin_normal, ress_nil, ress_tmp, pack_one, pack_nil, pack_two, entry_nil, entry_one, entry_two, entry_three, entry_four, eq_skip, eq_exit, eq_ret, w_rows, w_done, w_seq, w_normal, w_ret, w_exit, w_cond, w_true, w_false, eq_block, block_normal, block_ret, block_exit, rows_nil, rows_cons, on_some, on_none, row_plain, row_guard, guard_tt, guard_ff, guard_tf, guard_ft, guard_no, ev_tmp, ev_int, ev_bool, ev_string, ev_slice, ev_pointer, ev_map, ev_float, ev_complex, ev_nilIface, ev_nilFunc, ev_func, eget_cons, eget_nil, st_mv, st_pick, v_pick_t, v_pick_f, st_ext, v_ext0, v_ext1, v_ext2, v_ext3, st_int, v_int, int_add, int_sub, int_mul, int_eql, int_neq, int_lss, int_leq, int_gtr, int_geq, st_beq, v_beq, v_bne, st_not, v_not, st_conv, v_conv, st_faddr, v_faddr, st_iaddr, v_iaddr, st_aaddr, v_aaddr, st_nilChk, v_nil, st_len, v_len, v_lenS, st_load, v_load, got_one, got_row, mem_tip, mem_ro, mem_ret, st_alloc, st_box, st_store, v_store, got_store, cells_agg, cells_int, cells_bool, cells_slice, cells_pointer, cells_string, cells_complex, cells_func, one_int, one_bool, one_slice, one_pointer, one_string, one_complex, one_func, upd_push, get_push_self, AHeap.n_push, AHeap.n_upd, st_build, parts_nil, parts_cons, st_bslice, st_append, st_mkfun, st_mkface, st_isNil, st_max, v_max, st_min, v_min, st_field, st_index, st_slice0, v_slice0, v_slice0n, st_slice, kill_nil, st_call, v_call, forget_nil, forget_cons, Option.map_some, Option.map_none, Option.bind_some, List.map_cons, List.map_nil, if_true, if_false, Nat.reduceEqDiff, Int.reduceEq, Nat.reduceAdd, Nat.reduceMul, Bool.not_true, Bool.not_false, reduceCtorEq, decide_true, decide_false, Int.cast_ofNat_Int, eq_self, Int.reduceLT, Int.reduceLE, Int.reduceToNat, Int.toNat_natCast, Int.le_refl, Nat.le_refl, Nat.zero_add, Nat.add_zero, Nat.zero_mul, Nat.mul_one, Nat.mul_zero, and_self, and_true, true_and, List.length_cons, List.length_nil, List.all_cons, List.all_nil, Bool.and_self, Bool.and_true, Bool.true_and, List.take_zero, List.nil_append, List.drop_nil, List.append_nil, List.getElem?_cons_zero, List.getElem?_cons_succ, List.drop_succ_cons, List.drop_zero, List.take_succ_cons, List.cons_append, Nat.reduceLeDiff, o_awake, o_Decode ha, o_Decode hb, dec_some h1, dec_none h2]
    | some t =>
      have hst : (s = t) = (a = b) := by
        refine propext ⟨fun h => ?_, fun h => ?_⟩
        · subst h
          have e1 := enc_of ha h1
          have e2 := enc_of hb h2
          rw [e1] at e2
          injection e2 with e2
          injection e2
        · subst h
          rw [h1] at h2
          injection h2
      simp only [w_draw, dr_cons, dr_some, dr_none, dr_nil, dr_end, still_nil, still_cons, stillB_some, stamp_some, stampV_ptr, stampV_tuple, stampO, still_here, still_here0, List.nil_append, w_out, w_gives, fin_ret, fin_normal, ress_nil, ress_tmp, pack_one, pack_nil, pack_two, entry_nil, entry_one, entry_two, entry_three, entry_four, eq_skip, eq_exit, eq_ret, w_rows, w_done, w_seq, w_normal, w_ret, w_exit, w_cond, w_true, w_false, eq_block, block_normal, block_ret, block_exit, rows_nil, rows_cons, on_some, on_none, row_plain, row_guard, guard_tt, guard_ff, guard_tf, guard_ft, guard_no, ev_tmp, ev_int, ev_bool, ev_string, ev_slice, ev_pointer, ev_map, ev_float, ev_complex, ev_nilIface, ev_nilFunc, ev_func, eget_cons, eget_nil, st_mv, st_pick, v_pick_t, v_pick_f, st_ext, v_ext0, v_ext1, v_ext2, v_ext3, st_int, v_int, int_add, int_sub, int_mul, int_eql, int_neq, int_lss, int_leq, int_gtr, int_geq, st_beq, v_beq, v_bne, st_not, v_not, st_conv, v_conv, st_faddr, v_faddr, st_iaddr, v_iaddr, st_aaddr, v_aaddr, st_nilChk, v_nil, st_len, v_len, v_lenS, st_load, v_load, got_one, got_row, mem_tip, mem_ro, mem_ret, st_alloc, st_box, st_store, v_store, got_store, cells_agg, cells_int, cells_bool, cells_slice, cells_pointer, cells_string, cells_complex, cells_func, one_int, one_bool, one_slice, one_pointer, one_string, one_complex, one_func, upd_push, get_push_self, AHeap.n_push, AHeap.n_upd, st_build, parts_nil, parts_cons, st_bslice, st_append, st_mkfun, st_mkface, st_isNil, st_max, v_max, st_min, v_min, st_field, st_index, st_slice0, v_slice0, v_slice0n, st_slice, kill_nil, st_call, v_call, forget_nil, forget_cons, Option.map_some, Option.map_none, Option.bind_some, List.map_cons, List.map_nil, if_true, if_false, Nat.reduceEqDiff, Int.reduceEq, Nat.reduceAdd, Nat.reduceMul, Bool.not_true, Bool.not_false, reduceCtorEq, decide_true, decide_false, Int.cast_ofNat_Int, eq_self, Int.reduceLT, Int.reduceLE, Int.reduceToNat, Int.toNat_natCast, Int.le_refl, Nat.le_refl, Nat.zero_add, Nat.add_zero, Nat.zero_mul, Nat.mul_one, Nat.mul_zero, and_self, and_true, true_and, List.length_cons, List.length_nil, List.all_cons, List.all_nil, Bool.and_self, Bool.and_true, Bool.true_and, List.take_zero, List.nil_append, List.drop_nil, List.append_nil, List.getElem?_cons_zero, List.getElem?_cons_succ, List.drop_succ_cons, List.drop_zero, List.take_succ_cons, List.cons_append, Nat.reduceLeDiff, o_awake, o_Decode ha, o_Decode hb, dec_some h1, dec_some h2, o_Encode, enc_of ha h1, hst, beq_self_eq_true]
end Go.Proofs.Ytjigddebmbhbjaa
