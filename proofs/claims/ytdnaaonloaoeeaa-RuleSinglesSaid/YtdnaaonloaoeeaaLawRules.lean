/- What is proved here: what the program's functions come to, as far as the claimed statement asks. Conditions: those that each theorem names, and no others. -/
import Derived.Test.YtdnaaonloaoeeaaLawUnits
/-! The statements' own rules, from rows. -/
set_option linter.unusedSimpArgs false
set_option linter.unusedVariables false
namespace Go.Proofs.Ytdnaaonloaoeeaa
open Go Lon
abbrev RowD := List Int × (List Int × (Bool × ((List Int × (List Int × Unit)) × Unit)))
def RowAt (H : AHeap) (cs : List Value) (r : RowD) : Prop := ∃ vi vo wi wo, cs = [vi, vo, .bool r.2.2.1, wi, wo] ∧ (Nums H .u8 vi r.1 ∧ Cut Try.prog H vi 1 ∧ bytes r.1 ∧ tiny r.1) ∧ (Nums H .u8 vo r.2.1 ∧ Cut Try.prog H vo 1 ∧ bytes r.2.1 ∧ tiny r.2.1) ∧
  (Ints H wi r.2.2.2.1.1 ∧ small r.2.2.2.1.1) ∧ (Ints H wo r.2.2.2.1.2.1 ∧ small r.2.2.2.1.2.1)
theorem RowAt.ext {H H' : AHeap} (hx : Ext H H') {cs : List Value} {r : RowD} (h : RowAt H cs r) : RowAt H' cs r := by
  obtain ⟨vi, vo, wi, wo, h0, ⟨h1, h2, h3⟩, ⟨h4, h5, h6⟩, ⟨h7, h8⟩, ⟨h9, h10⟩⟩ := h
  exact ⟨vi, vo, wi, wo, h0, ⟨h1.ext hx, h2.ext hx, h3⟩, ⟨h4.ext hx, h5.ext hx, h6⟩, ⟨h7.ext hx, h8⟩, ⟨h9.ext hx, h10⟩⟩
/-- A slice of rows. -/
def RowsAt (H : AHeap) (v : Value) (R : List RowD) : Prop := ∃ cells, Sl H 5 v R.length cells ∧ Cut Try.prog H v 5 ∧ R.length < 4611686018427387904 ∧ ∀ k r, R[k]? = some r → RowAt H ((cells.drop (k * 5)).take 5) r
theorem RowsAt.ext {H H' : AHeap} (hx : Ext H H') {v : Value} {R : List RowD} (h : RowsAt H v R) : RowsAt H' v R := by
  obtain ⟨cells, h1, h2, h3, h4⟩ := h
  exact ⟨cells, h1.ext hx, h2.ext hx, h3, fun k r hr => (h4 k r hr).ext hx⟩
theorem RowsAt.len {H H2 : AHeap} {v : Value} {R : List RowD} (h : RowsAt H v R) : vLen false v H2 = some (.int .i64 R.length, H2) := by
  obtain ⟨cells, h1, _⟩ := h
  exact h1.len
theorem RowsAt.take {H : AHeap} {v : Value} {R : List RowD} {k : Nat} (h : RowsAt H v R) (hk : k ≤ R.length) :
    ∃ v', (∀ kd : IntKind, vSlice (P := Try.prog) v none (some (.int kd k)) 5 H = some (v', H)) ∧ RowsAt H v' (R.take k) := by
  obtain ⟨cells, h1, h2, h3, h4⟩ := h
  obtain ⟨v', g1, g2, g3⟩ := h1.take h2 hk
  have hl := h1.length
  refine ⟨v', g1, cells.take (k * 5), by rw [List.length_take, Nat.min_eq_left hk]; exact g2, g3, by simp; omega, fun j r hr => ?_⟩
  rw [List.getElem?_take] at hr
  split at hr
  · rename_i hj
    have := h4 j r hr
    rw [List.drop_take, List.take_take, Nat.min_eq_left (by omega)]
    exact this
  · cases hr
theorem RowsAt.at {H : AHeap} {v : Value} {R : List RowD} (h : RowsAt H v R) {k : Nat} {r : RowD} (hr : R[k]? = some r) :
    ∃ i o cs, (∀ (kd : IntKind) (H2 : AHeap), vIaddr v (.int kd k) 5 H2 = some (.pointer (some ⟨i, o, none⟩), H2)) ∧ gotLoad (H.get i) o (some 5) H = some (.agg ⟨cs⟩, H) ∧ RowAt H cs r := by
  obtain ⟨cells, h1, h2, h3, h4⟩ := h
  obtain ⟨i, o, a1, a2, a3⟩ := h1.at (List.getElem?_eq_some_iff.1 hr).1
  exact ⟨i, o, _, a1, a3, h4 k r hr⟩
theorem RowsAt.at2 {H : AHeap} {v : Value} {R : List RowD} (h : RowsAt H v R) {k : Nat} {r : RowD} (hr : R[k]? = some r) :
    ∃ R1 R2 odd A1 A2 i o vi vo wi wo, r = (R1, (R2, (odd, ((A1, (A2, ())), ())))) ∧ (∀ (kd : IntKind) (H2 : AHeap), vIaddr v (.int kd k) 5 H2 = some (.pointer (some ⟨i, o, none⟩), H2)) ∧ gotLoad (H.get i) o (some 5) H = some (.agg ⟨[vi, vo, .bool odd, wi, wo]⟩, H) ∧
      (Nums H .u8 vi R1 ∧ Cut Try.prog H vi 1 ∧ bytes R1 ∧ tiny R1) ∧ (Nums H .u8 vo R2 ∧ Cut Try.prog H vo 1 ∧ bytes R2 ∧ tiny R2) ∧ (Ints H wi A1 ∧ small A1) ∧ (Ints H wo A2 ∧ small A2) := by
  obtain ⟨i, o, cs, a1, a2, vi, vo, wi, wo, rfl, h3⟩ := h.at hr
  obtain ⟨R1, R2, odd, ⟨A1, A2, ⟨⟩⟩, ⟨⟩⟩ := r
  exact ⟨R1, R2, odd, A1, A2, i, o, vi, vo, wi, wo, rfl, a1, a2, h3⟩
/-- The rule that a row tells. -/
def rl (r : RowD) : Rl := if r.2.2.1 = true then (r.2.2.2.1.1, r.2.2.2.1.2.1) else (un r.1, un r.2.1)
theorem un_small (l : List Int) : small (un l) := by
  unfold small un
  have : (unl (l.take 4)).length ≤ 4 := by simp [unl]; omega
  rw [List.length_take]
  omega
theorem l_LawRules {a : Value} {B : Nat} {R : List RowD} (hR : R.length ≤ 40) : ∀ (k i : Nat) (H : AHeap) (out : Value), i + k = R.length → RowsAt H a R → OwnRules H 28 out ((R.take i).map rl) → From B out → B ≤ H.n →
    Out (run Try.prog (tabF tab) om1 (.loop [3, 11, 12, 13] b_lontarlaw03_Rules_0) [(3, out), (11, a), (12, .int .i64 R.length), (13, .int .i64 i)] H) fun y e' H' => y = .exit 0 ∧ OwnRules H' 28 (eget e' 3) (R.map rl) ∧ B ≤ H'.n ∧ (∀ j, j < B → H'.get j = H.get j) := by
  intro k
  induction k with
  | zero =>
    intro i H out hi ha ho hf hB
    have hlt : ¬ ((i : Int) < R.length) := by omega
    rw [w_loop_b b_lontarlaw03_Rules_0.eq_1]
    rw [List.take_of_length_le (by omega)] at ho
    simp only [w_draw, dr_cons, dr_some, dr_none, dr_go, calm_no, calm_nil, calm_cons, calmB_some, isCall, freshI, dr_nil, dr_end, still_nil, still_cons, stillB_some, stamp_some, stampV_ptr, stampV_tuple, stampO, still_here, still_here0, List.nil_append, w_out, w_gives, fin_ret, fin_normal, ress_nil, ress_tmp, pack_one, pack_nil, pack_two, entry_nil, entry_one, entry_two, entry_three, entry_four, eq_skip, eq_exit, eq_ret, w_rows, w_done, w_seq, w_normal, w_ret, w_exit, w_cond, w_true, w_false, eq_block, block_normal, block_ret, block_exit, rows_nil, rows_cons, on_some, on_none, row_plain, row_guard, guard_tt, guard_ff, guard_tf, guard_ft, guard_no, ev_tmp, ev_int, ev_bool, ev_string, ev_slice, ev_pointer, ev_map, ev_float, ev_complex, ev_nilIface, ev_nilFunc, ev_func, eget_cons, eget_nil, st_mv, st_pick, v_pick_t, v_pick_f, st_ext, v_ext0, v_ext1, v_ext2, v_ext3, st_int, v_int, int_add, int_sub, int_mul, int_eql, int_neq, int_lss, int_leq, int_gtr, int_geq, st_beq, v_beq, v_bne, st_not, v_not, st_conv, v_conv, st_faddr, v_faddr, st_iaddr, v_iaddr, st_aaddr, v_aaddr, st_nilChk, v_nil, st_len, v_len, v_lenS, st_load, v_load, got_one, got_row, mem_tip, mem_ro, mem_ret, st_alloc, st_box, st_store, v_store, got_store, cells_agg, cells_int, cells_bool, cells_slice, cells_pointer, cells_string, cells_complex, cells_func, one_int, one_bool, one_slice, one_pointer, one_string, one_complex, one_func, upd_push, get_push_self, AHeap.n_push, AHeap.n_upd, st_build, parts_nil, parts_cons, st_bslice, st_append, st_mkfun, st_mkface, st_isNil, st_max, v_max, st_min, v_min, st_field, st_index, st_slice0, v_slice0, v_slice0n, st_slice, kill_nil, st_call, v_call, forget_nil, forget_cons, Option.map_some, Option.map_none, Option.bind_some, List.map_cons, List.map_nil, if_true, if_false, Nat.reduceEqDiff, Int.reduceEq, Nat.reduceAdd, Nat.reduceMul, Bool.not_true, Bool.not_false, reduceCtorEq, decide_true, decide_false, Int.cast_ofNat_Int, eq_self, Int.reduceLT, Int.reduceLE, Int.reduceToNat, Int.toNat_natCast, Int.le_refl, Nat.le_refl, Nat.zero_add, Nat.add_zero, Nat.zero_mul, Nat.mul_one, Nat.mul_zero, and_self, and_true, true_and, List.length_cons, List.length_nil, List.all_cons, List.all_nil, Bool.and_self, Bool.and_true, Bool.true_and, List.take_zero, List.nil_append, List.drop_nil, List.append_nil, List.getElem?_cons_zero, List.getElem?_cons_succ, List.drop_succ_cons, List.drop_zero, List.take_succ_cons, List.cons_append, Nat.reduceLeDiff, hlt]
    exact ⟨ho, hB, fun _ _ => trivial⟩
  | succ k ih =>
    intro i H out hi ha ho hf hB
    have hlt : (i : Int) < R.length := by omega
    obtain ⟨r, hr, hdr⟩ := drop_at (L := R) (i := i) (by omega)
    obtain ⟨R1, R2, odd, A1, A2, i1, o1, vi, vo, wi, wo, rfl, h1, h2, ⟨f1, f2, f3, f4⟩, ⟨g1, g2, g3, g4⟩, ⟨e1, e2⟩, ⟨d1, d2⟩⟩ := ha.at2 hr
    have f1' := f1
    have g1' := g1
    have e1' := e1
    have d1' := d1
    obtain ⟨⟨ai, ci, rfl⟩, _⟩ := f1'
    obtain ⟨⟨ao, co, rfl⟩, _⟩ := g1'
    obtain ⟨⟨bi, qi, rfl⟩, _⟩ := e1'
    obtain ⟨⟨bo, qo, rfl⟩, _⟩ := d1'
    have hw2 : IntKind.i64.wrap ((i : Int) + 1) = ((i + 1 : Nat) : Int) := by rw [wrap64 (by omega) (by omega)]; omega
    -- the row's copy, the rule's place
    have hx1 : Ext H (H.push ⟨[.slice ai R1.length ci, .slice ao R2.length co, .bool odd, .slice bi A1.length qi, .slice bo A2.length qo], 48, .tip, 1, []⟩) := Ext.push _ _
    have hx2 : Ext (H.push ⟨[.slice ai R1.length ci, .slice ao R2.length co, .bool odd, .slice bi A1.length qi, .slice bo A2.length qo], 48, .tip, 1, []⟩) ((H.push ⟨[.slice ai R1.length ci, .slice ao R2.length co, .bool odd, .slice bi A1.length qi, .slice bo A2.length qo], 48, .tip, 1, []⟩).push ⟨[.slice none 0 0, .slice none 0 0], 28, .tip, 0, []⟩) := Ext.push _ _
    have b1 : (H.push ⟨[.slice ai R1.length ci, .slice ao R2.length co, .bool odd, .slice bi A1.length qi, .slice bo A2.length qo], 48, .tip, 1, []⟩).get H.n = _ := get_push_self
    obtain ⟨v3, H3, u1, u2, u3, u4⟩ := c_units ((f1.ext hx1).ext hx2) ((f2.ext hx1).ext hx2) f3 f4
    obtain ⟨v4, H4, t1, t2, t3, t4⟩ := c_units (((g1.ext hx1).ext hx2).ext u2) (((g2.ext hx1).ext hx2).ext u2) g3 g4
    have u3' := u3
    have t3' := t3
    obtain ⟨⟨p3, q3, rfl⟩, _⟩ := u3'
    obtain ⟨⟨p4, q4, rfl⟩, _⟩ := t3'
    have p2 := get_push_self (H := H.push ⟨[.slice ai R1.length ci, .slice ao R2.length co, .bool odd, .slice bi A1.length qi, .slice bo A2.length qo], 48, .tip, 1, []⟩) (b := ⟨[.slice none 0 0, .slice none 0 0], 28, .tip, 0, []⟩)
    rw [AHeap.n_push] at p2
    have p3' := u2.get p2
    have p4' := t2.get p3'
    have c2 := hx2.get b1
    have c3 := u2.get c2
    have c4 := t2.get c3
    have hx4 : Ext H H4 := ((hx1.trans hx2).trans u2).trans t2
    have hne : H.n ≠ H.n + 1 := by omega
    -- the rule is laid
    have hx5 : Ext H (H4.upd (H.n + 1) ⟨[.slice p3 (un R1).length q3, .slice p4 (un R2).length q4], 28, .tip, 1, []⟩) := hx4.upd p4' (by omega)
    have b5 : (H4.upd (H.n + 1) ⟨[.slice p3 (un R1).length q3, .slice p4 (un R2).length q4], 28, .tip, 1, []⟩).get (H.n + 1) = _ := upd_self p4'
    have c5 : (H4.upd (H.n + 1) ⟨[.slice p3 (un R1).length q3, .slice p4 (un R2).length q4], 28, .tip, 1, []⟩).get H.n = _ := (upd_other p4' hne).trans c4
    -- what is laid is read again
    have fin : ∀ (H6 : AHeap) (x y : Value) (rr : Rl), Ext H H6 → Ints H6 x rr.1 → Ints H6 y rr.2 → tiny rr.1 → tiny rr.2 → rr = rl (R1, (R2, (odd, ((A1, (A2, ())), ())))) →
        ∃ v' H7, appendA (H6.push ⟨[x, y], 28, .tip, 0, []⟩) out (.slice (some ⟨H6.n, 0, none⟩) 1 2) 28 2 48 = some (v', H7) ∧ Out (run Try.prog (tabF tab) om1 (.loop [3, 11, 12, 13] b_lontarlaw03_Rules_0) [(3, v'), (11, a), (12, .int .i64 R.length), (13, .int .i64 ((i + 1 : Nat) : Int))] H7) fun y e' H' => y = .exit 0 ∧ OwnRules H' 28 (eget e' 3) (R.map rl) ∧ B ≤ H'.n ∧ (∀ j, j < B → H'.get j = H.get j) := by
      intro H6 x y rr hx6 hix hiy ht1 ht2 hrr
      have hx7 := Ext.push H6 ⟨[x, y], 28, .tip, 0, []⟩
      obtain ⟨v', H7, m1, m2, m3, m4, m5, m6⟩ := OwnRules.append2 (el := 28) (bytes := 48) (r := rr) (ho.ext (hx6.trans hx7)) (Sl.new (n := 1) (c := 2) (get_push_self (H := H6) (b := ⟨[x, y], 28, .tip, 0, []⟩)) mem_tip rfl) (hix.ext hx7) (hiy.ext hx7) ht1 ht2 (by simp; omega)
      have hdone : (R.take i).map rl ++ [rr] = (R.take (i + 1)).map rl := by rw [List.take_add_one, hr, hrr]; simp
      rw [hdone] at m2
      have hkeep : RowsAt H7 a R := by
        obtain ⟨cells, w1, w2, w3, w4⟩ := ha
        have hxx := hx6.trans hx7
        have cutk : ∀ {v : Value} {sz : Nat}, Cut Try.prog H v sz → Cut Try.prog H7 v sz := fun hc => (hc.ext hxx).ver (appendA_ver m1)
        refine ⟨cells, (w1.ext hxx).keeps m4, cutk w2, w3, fun k' r' hr' => ?_⟩
        obtain ⟨vi, vo, wi, wo, h0, ⟨z1, z2, z3⟩, ⟨z4, z5, z6⟩, ⟨z7, z8⟩, ⟨z9, z10⟩⟩ := w4 k' r' hr'
        exact ⟨vi, vo, wi, wo, h0, ⟨Sl.keeps m4 (z1.ext hxx), cutk z2, z3⟩, ⟨Sl.keeps m4 (z4.ext hxx), cutk z5, z6⟩, ⟨(z7.ext hxx).keeps m4, z8⟩, ⟨(z9.ext hxx).keeps m4, z10⟩⟩
      obtain ⟨y', e', H', r1, r2, r3, r4, r5⟩ := ih (i + 1) H7 v' (by omega) hkeep m2 (m3.mono (by have := hx6.1; simp; omega)) (by have := hx6.1; simp at m5; omega)
      refine ⟨v', H7, m1, y', e', H', r1, r2, r3, r4, fun j hj => ?_⟩
      rw [r5 j hj, m6 j (by have := hx6.1; simp; omega) (NotAt.of_from hf hj), hx7.2 j (by have := hx6.1; omega), hx6.2 j (by omega)]
    rw [w_loop_b b_lontarlaw03_Rules_0.eq_1]
    have s1 : tiny (un R1) := (un_small R1).tiny
    have s2 : tiny (un R2) := (un_small R2).tiny
    cases odd with
    | false =>
      have i3 : Ints (H4.upd (H.n + 1) ⟨[.slice p3 (un R1).length q3, .slice p4 (un R2).length q4], 28, .tip, 1, []⟩) (.slice p3 (un R1).length q3) (un R1) := Sl.upd (u3.ext t2) p4' (NotAt.of_from u4 (by simp))
      have i4 : Ints (H4.upd (H.n + 1) ⟨[.slice p3 (un R1).length q3, .slice p4 (un R2).length q4], 28, .tip, 1, []⟩) (.slice p4 (un R2).length q4) (un R2) := Sl.upd t3 p4' (NotAt.of_from t4 (by have := u2.1; simp at this; omega))
      obtain ⟨v', H7, m1, y, e', H', w1, w2, w3, w4, w5⟩ := fin _ _ _ (un R1, un R2) hx5 i3 i4 s1 s2 rfl
      simp only [AHeap.n_upd] at m1
      simp only [w_draw, dr_cons, dr_some, dr_none, dr_go, calm_no, calm_nil, calm_cons, calmB_some, isCall, freshI, dr_nil, dr_end, still_nil, still_cons, stillB_some, stamp_some, stampV_ptr, stampV_tuple, stampO, still_here, still_here0, List.nil_append, w_out, w_gives, fin_ret, fin_normal, ress_nil, ress_tmp, pack_one, pack_nil, pack_two, entry_nil, entry_one, entry_two, entry_three, entry_four, eq_skip, eq_exit, eq_ret, w_rows, w_done, w_seq, w_normal, w_ret, w_exit, w_cond, w_true, w_false, eq_block, block_normal, block_ret, block_exit, rows_nil, rows_cons, on_some, on_none, row_plain, row_guard, guard_tt, guard_ff, guard_tf, guard_ft, guard_no, ev_tmp, ev_int, ev_bool, ev_string, ev_slice, ev_pointer, ev_map, ev_float, ev_complex, ev_nilIface, ev_nilFunc, ev_func, eget_cons, eget_nil, st_mv, st_pick, v_pick_t, v_pick_f, st_ext, v_ext0, v_ext1, v_ext2, v_ext3, st_int, v_int, int_add, int_sub, int_mul, int_eql, int_neq, int_lss, int_leq, int_gtr, int_geq, st_beq, v_beq, v_bne, st_not, v_not, st_conv, v_conv, st_faddr, v_faddr, st_iaddr, v_iaddr, st_aaddr, v_aaddr, st_nilChk, v_nil, st_len, v_len, v_lenS, st_load, v_load, got_one, got_row, mem_tip, mem_ro, mem_ret, st_alloc, st_box, st_store, v_store, got_store, cells_agg, cells_int, cells_bool, cells_slice, cells_pointer, cells_string, cells_complex, cells_func, one_int, one_bool, one_slice, one_pointer, one_string, one_complex, one_func, upd_push, get_push_self, AHeap.n_push, AHeap.n_upd, st_build, parts_nil, parts_cons, st_bslice, st_append, st_mkfun, st_mkface, st_isNil, st_max, v_max, st_min, v_min, st_field, st_index, st_slice0, v_slice0, v_slice0n, st_slice, kill_nil, st_call, v_call, forget_nil, forget_cons, Option.map_some, Option.map_none, Option.bind_some, List.map_cons, List.map_nil, if_true, if_false, Nat.reduceEqDiff, Int.reduceEq, Nat.reduceAdd, Nat.reduceMul, Bool.not_true, Bool.not_false, reduceCtorEq, decide_true, decide_false, Int.cast_ofNat_Int, eq_self, Int.reduceLT, Int.reduceLE, Int.reduceToNat, Int.toNat_natCast, Int.le_refl, Nat.le_refl, Nat.zero_add, Nat.add_zero, Nat.zero_mul, Nat.mul_one, Nat.mul_zero, and_self, and_true, true_and, List.length_cons, List.length_nil, List.all_cons, List.all_nil, Bool.and_self, Bool.and_true, Bool.true_and, List.take_zero, List.nil_append, List.drop_nil, List.append_nil, List.getElem?_cons_zero, List.getElem?_cons_succ, List.drop_succ_cons, List.drop_zero, List.take_succ_cons, List.cons_append, Nat.reduceLeDiff, hlt, h1, h2, c2, p2, u1, p3', t1, p4', v_rule, b5, c5, v_rule1, m1, hw2]
      rw [w_enter]
      simp only [w_draw, dr_cons, dr_some, dr_none, dr_go, calm_no, calm_nil, calm_cons, calmB_some, isCall, freshI, dr_nil, dr_end, still_nil, still_cons, stillB_some, stamp_some, stampV_ptr, stampV_tuple, stampO, still_here, still_here0, List.nil_append, w_out, w_gives, fin_ret, fin_normal, ress_nil, ress_tmp, pack_one, pack_nil, pack_two, entry_nil, entry_one, entry_two, entry_three, entry_four, eq_skip, eq_exit, eq_ret, w_rows, w_done, w_seq, w_normal, w_ret, w_exit, w_cond, w_true, w_false, eq_block, block_normal, block_ret, block_exit, rows_nil, rows_cons, on_some, on_none, row_plain, row_guard, guard_tt, guard_ff, guard_tf, guard_ft, guard_no, ev_tmp, ev_int, ev_bool, ev_string, ev_slice, ev_pointer, ev_map, ev_float, ev_complex, ev_nilIface, ev_nilFunc, ev_func, eget_cons, eget_nil, st_mv, st_pick, v_pick_t, v_pick_f, st_ext, v_ext0, v_ext1, v_ext2, v_ext3, st_int, v_int, int_add, int_sub, int_mul, int_eql, int_neq, int_lss, int_leq, int_gtr, int_geq, st_beq, v_beq, v_bne, st_not, v_not, st_conv, v_conv, st_faddr, v_faddr, st_iaddr, v_iaddr, st_aaddr, v_aaddr, st_nilChk, v_nil, st_len, v_len, v_lenS, st_load, v_load, got_one, got_row, mem_tip, mem_ro, mem_ret, st_alloc, st_box, st_store, v_store, got_store, cells_agg, cells_int, cells_bool, cells_slice, cells_pointer, cells_string, cells_complex, cells_func, one_int, one_bool, one_slice, one_pointer, one_string, one_complex, one_func, upd_push, get_push_self, AHeap.n_push, AHeap.n_upd, st_build, parts_nil, parts_cons, st_bslice, st_append, st_mkfun, st_mkface, st_isNil, st_max, v_max, st_min, v_min, st_field, st_index, st_slice0, v_slice0, v_slice0n, st_slice, kill_nil, st_call, v_call, forget_nil, forget_cons, Option.map_some, Option.map_none, Option.bind_some, List.map_cons, List.map_nil, if_true, if_false, Nat.reduceEqDiff, Int.reduceEq, Nat.reduceAdd, Nat.reduceMul, Bool.not_true, Bool.not_false, reduceCtorEq, decide_true, decide_false, Int.cast_ofNat_Int, eq_self, Int.reduceLT, Int.reduceLE, Int.reduceToNat, Int.toNat_natCast, Int.le_refl, Nat.le_refl, Nat.zero_add, Nat.add_zero, Nat.zero_mul, Nat.mul_one, Nat.mul_zero, and_self, and_true, true_and, List.length_cons, List.length_nil, List.all_cons, List.all_nil, Bool.and_self, Bool.and_true, Bool.true_and, List.take_zero, List.nil_append, List.drop_nil, List.append_nil, List.getElem?_cons_zero, List.getElem?_cons_succ, List.drop_succ_cons, List.drop_zero, List.take_succ_cons, List.cons_append, Nat.reduceLeDiff, w1]
      exact ⟨w2, w3, w4, w5⟩
    | true =>
      have b6 : ((H4.upd (H.n + 1) ⟨[.slice p3 (un R1).length q3, .slice p4 (un R2).length q4], 28, .tip, 1, []⟩).upd (H.n + 1) ⟨[.slice bi A1.length qi, .slice bo A2.length qo], 28, .tip, 2, []⟩).get (H.n + 1) = _ := upd_self b5
      have hx6 : Ext H ((H4.upd (H.n + 1) ⟨[.slice p3 (un R1).length q3, .slice p4 (un R2).length q4], 28, .tip, 1, []⟩).upd (H.n + 1) ⟨[.slice bi A1.length qi, .slice bo A2.length qo], 28, .tip, 2, []⟩) := hx5.upd b5 (by omega)
      have i3 : Ints ((H4.upd (H.n + 1) ⟨[.slice p3 (un R1).length q3, .slice p4 (un R2).length q4], 28, .tip, 1, []⟩).upd (H.n + 1) ⟨[.slice bi A1.length qi, .slice bo A2.length qo], 28, .tip, 2, []⟩) (.slice bi A1.length qi) A1 := e1.upd hx5 b5 (by omega)
      have i4 : Ints ((H4.upd (H.n + 1) ⟨[.slice p3 (un R1).length q3, .slice p4 (un R2).length q4], 28, .tip, 1, []⟩).upd (H.n + 1) ⟨[.slice bi A1.length qi, .slice bo A2.length qo], 28, .tip, 2, []⟩) (.slice bo A2.length qo) A2 := d1.upd hx5 b5 (by omega)
      obtain ⟨v', H7, m1, y, e', H', w1, w2, w3, w4, w5⟩ := fin _ _ _ (A1, A2) hx6 i3 i4 e2.tiny d2.tiny rfl
      simp only [AHeap.n_upd] at m1
      simp only [w_draw, dr_cons, dr_some, dr_none, dr_go, calm_no, calm_nil, calm_cons, calmB_some, isCall, freshI, dr_nil, dr_end, still_nil, still_cons, stillB_some, stamp_some, stampV_ptr, stampV_tuple, stampO, still_here, still_here0, List.nil_append, w_out, w_gives, fin_ret, fin_normal, ress_nil, ress_tmp, pack_one, pack_nil, pack_two, entry_nil, entry_one, entry_two, entry_three, entry_four, eq_skip, eq_exit, eq_ret, w_rows, w_done, w_seq, w_normal, w_ret, w_exit, w_cond, w_true, w_false, eq_block, block_normal, block_ret, block_exit, rows_nil, rows_cons, on_some, on_none, row_plain, row_guard, guard_tt, guard_ff, guard_tf, guard_ft, guard_no, ev_tmp, ev_int, ev_bool, ev_string, ev_slice, ev_pointer, ev_map, ev_float, ev_complex, ev_nilIface, ev_nilFunc, ev_func, eget_cons, eget_nil, st_mv, st_pick, v_pick_t, v_pick_f, st_ext, v_ext0, v_ext1, v_ext2, v_ext3, st_int, v_int, int_add, int_sub, int_mul, int_eql, int_neq, int_lss, int_leq, int_gtr, int_geq, st_beq, v_beq, v_bne, st_not, v_not, st_conv, v_conv, st_faddr, v_faddr, st_iaddr, v_iaddr, st_aaddr, v_aaddr, st_nilChk, v_nil, st_len, v_len, v_lenS, st_load, v_load, got_one, got_row, mem_tip, mem_ro, mem_ret, st_alloc, st_box, st_store, v_store, got_store, cells_agg, cells_int, cells_bool, cells_slice, cells_pointer, cells_string, cells_complex, cells_func, one_int, one_bool, one_slice, one_pointer, one_string, one_complex, one_func, upd_push, get_push_self, AHeap.n_push, AHeap.n_upd, st_build, parts_nil, parts_cons, st_bslice, st_append, st_mkfun, st_mkface, st_isNil, st_max, v_max, st_min, v_min, st_field, st_index, st_slice0, v_slice0, v_slice0n, st_slice, kill_nil, st_call, v_call, forget_nil, forget_cons, Option.map_some, Option.map_none, Option.bind_some, List.map_cons, List.map_nil, if_true, if_false, Nat.reduceEqDiff, Int.reduceEq, Nat.reduceAdd, Nat.reduceMul, Bool.not_true, Bool.not_false, reduceCtorEq, decide_true, decide_false, Int.cast_ofNat_Int, eq_self, Int.reduceLT, Int.reduceLE, Int.reduceToNat, Int.toNat_natCast, Int.le_refl, Nat.le_refl, Nat.zero_add, Nat.add_zero, Nat.zero_mul, Nat.mul_one, Nat.mul_zero, and_self, and_true, true_and, List.length_cons, List.length_nil, List.all_cons, List.all_nil, Bool.and_self, Bool.and_true, Bool.true_and, List.take_zero, List.nil_append, List.drop_nil, List.append_nil, List.getElem?_cons_zero, List.getElem?_cons_succ, List.drop_succ_cons, List.drop_zero, List.take_succ_cons, List.cons_append, Nat.reduceLeDiff, hlt, h1, h2, c2, p2, u1, p3', t1, p4', v_rule, b5, c5, b6, v_rule1, m1, hw2]
      rw [w_enter]
      simp only [w_draw, dr_cons, dr_some, dr_none, dr_go, calm_no, calm_nil, calm_cons, calmB_some, isCall, freshI, dr_nil, dr_end, still_nil, still_cons, stillB_some, stamp_some, stampV_ptr, stampV_tuple, stampO, still_here, still_here0, List.nil_append, w_out, w_gives, fin_ret, fin_normal, ress_nil, ress_tmp, pack_one, pack_nil, pack_two, entry_nil, entry_one, entry_two, entry_three, entry_four, eq_skip, eq_exit, eq_ret, w_rows, w_done, w_seq, w_normal, w_ret, w_exit, w_cond, w_true, w_false, eq_block, block_normal, block_ret, block_exit, rows_nil, rows_cons, on_some, on_none, row_plain, row_guard, guard_tt, guard_ff, guard_tf, guard_ft, guard_no, ev_tmp, ev_int, ev_bool, ev_string, ev_slice, ev_pointer, ev_map, ev_float, ev_complex, ev_nilIface, ev_nilFunc, ev_func, eget_cons, eget_nil, st_mv, st_pick, v_pick_t, v_pick_f, st_ext, v_ext0, v_ext1, v_ext2, v_ext3, st_int, v_int, int_add, int_sub, int_mul, int_eql, int_neq, int_lss, int_leq, int_gtr, int_geq, st_beq, v_beq, v_bne, st_not, v_not, st_conv, v_conv, st_faddr, v_faddr, st_iaddr, v_iaddr, st_aaddr, v_aaddr, st_nilChk, v_nil, st_len, v_len, v_lenS, st_load, v_load, got_one, got_row, mem_tip, mem_ro, mem_ret, st_alloc, st_box, st_store, v_store, got_store, cells_agg, cells_int, cells_bool, cells_slice, cells_pointer, cells_string, cells_complex, cells_func, one_int, one_bool, one_slice, one_pointer, one_string, one_complex, one_func, upd_push, get_push_self, AHeap.n_push, AHeap.n_upd, st_build, parts_nil, parts_cons, st_bslice, st_append, st_mkfun, st_mkface, st_isNil, st_max, v_max, st_min, v_min, st_field, st_index, st_slice0, v_slice0, v_slice0n, st_slice, kill_nil, st_call, v_call, forget_nil, forget_cons, Option.map_some, Option.map_none, Option.bind_some, List.map_cons, List.map_nil, if_true, if_false, Nat.reduceEqDiff, Int.reduceEq, Nat.reduceAdd, Nat.reduceMul, Bool.not_true, Bool.not_false, reduceCtorEq, decide_true, decide_false, Int.cast_ofNat_Int, eq_self, Int.reduceLT, Int.reduceLE, Int.reduceToNat, Int.toNat_natCast, Int.le_refl, Nat.le_refl, Nat.zero_add, Nat.add_zero, Nat.zero_mul, Nat.mul_one, Nat.mul_zero, and_self, and_true, true_and, List.length_cons, List.length_nil, List.all_cons, List.all_nil, Bool.and_self, Bool.and_true, Bool.true_and, List.take_zero, List.nil_append, List.drop_nil, List.append_nil, List.getElem?_cons_zero, List.getElem?_cons_succ, List.drop_succ_cons, List.drop_zero, List.take_succ_cons, List.cons_append, Nat.reduceLeDiff, w1]
      exact ⟨w2, w3, w4, w5⟩
def RL (R : List RowD) : List Rl := (R.take 40).map rl
theorem RL_len (R : List RowD) : (RL R).length ≤ 40 := by simp [RL]; omega
theorem c_Rules {a : Value} {R : List RowD} {H : AHeap} (ha : RowsAt H a R) : Gives (cw Try.prog (tabF tab) om1 11 [a] H) fun v H' => Ext H H' ∧ OwnRules H' 28 v (RL R) := by
  rw [cw_run (F := F_lontarlaw03_Rules) rfl rfl rfl]
  unfold F_lontarlaw03_Rules k_lontarlaw03_Rules
  obtain ⟨k, hk⟩ : ∃ k : Nat, k = min R.length 40 := ⟨_, rfl⟩
  obtain ⟨a', s1, s2⟩ := ha.take (show k ≤ R.length by omega)
  have hmin : (if (40 : Int) < (R.length : Int) then (40 : Int) else (R.length : Int)) = (k : Int) := by split <;> omega
  have hkl : (R.take k).length = k := by simp; omega
  have hk4 : R.take 40 = R.take k := by
    subst hk
    rcases Nat.le_total R.length 40 with h | h
    · rw [Nat.min_eq_left h, List.take_of_length_le h, List.take_length]
    · rw [Nat.min_eq_right h]
  obtain ⟨y, e', H', r1, rfl, r3, r4, r5⟩ := l_LawRules (a := a') (R := R.take k) (B := H.n) (by omega) (R.take k).length 0 H (.slice none 0 0) (by omega) s2 (OwnRules.nil _ _) trivial (Nat.le_refl _)
  rw [hkl] at r1
  have hl0 := ha.len (H2 := H)
  have hl1 := s2.len (H2 := H)
  rw [hkl] at hl1
  simp only [Int.cast_ofNat_Int] at r1
  have s1' := s1 .i64
  simp only [w_draw, dr_cons, dr_some, dr_none, dr_go, calm_no, calm_nil, calm_cons, calmB_some, isCall, freshI, dr_nil, dr_end, still_nil, still_cons, stillB_some, stamp_some, stampV_ptr, stampV_tuple, stampO, still_here, still_here0, List.nil_append, w_out, w_gives, fin_ret, fin_normal, ress_nil, ress_tmp, pack_one, pack_nil, pack_two, entry_nil, entry_one, entry_two, entry_three, entry_four, eq_skip, eq_exit, eq_ret, w_rows, w_done, w_seq, w_normal, w_ret, w_exit, w_cond, w_true, w_false, eq_block, block_normal, block_ret, block_exit, rows_nil, rows_cons, on_some, on_none, row_plain, row_guard, guard_tt, guard_ff, guard_tf, guard_ft, guard_no, ev_tmp, ev_int, ev_bool, ev_string, ev_slice, ev_pointer, ev_map, ev_float, ev_complex, ev_nilIface, ev_nilFunc, ev_func, eget_cons, eget_nil, st_mv, st_pick, v_pick_t, v_pick_f, st_ext, v_ext0, v_ext1, v_ext2, v_ext3, st_int, v_int, int_add, int_sub, int_mul, int_eql, int_neq, int_lss, int_leq, int_gtr, int_geq, st_beq, v_beq, v_bne, st_not, v_not, st_conv, v_conv, st_faddr, v_faddr, st_iaddr, v_iaddr, st_aaddr, v_aaddr, st_nilChk, v_nil, st_len, v_len, v_lenS, st_load, v_load, got_one, got_row, mem_tip, mem_ro, mem_ret, st_alloc, st_box, st_store, v_store, got_store, cells_agg, cells_int, cells_bool, cells_slice, cells_pointer, cells_string, cells_complex, cells_func, one_int, one_bool, one_slice, one_pointer, one_string, one_complex, one_func, upd_push, get_push_self, AHeap.n_push, AHeap.n_upd, st_build, parts_nil, parts_cons, st_bslice, st_append, st_mkfun, st_mkface, st_isNil, st_max, v_max, st_min, v_min, st_field, st_index, st_slice0, v_slice0, v_slice0n, st_slice, kill_nil, st_call, v_call, forget_nil, forget_cons, Option.map_some, Option.map_none, Option.bind_some, List.map_cons, List.map_nil, if_true, if_false, Nat.reduceEqDiff, Int.reduceEq, Nat.reduceAdd, Nat.reduceMul, Bool.not_true, Bool.not_false, reduceCtorEq, decide_true, decide_false, Int.cast_ofNat_Int, eq_self, Int.reduceLT, Int.reduceLE, Int.reduceToNat, Int.toNat_natCast, Int.le_refl, Nat.le_refl, Nat.zero_add, Nat.add_zero, Nat.zero_mul, Nat.mul_one, Nat.mul_zero, and_self, and_true, true_and, List.length_cons, List.length_nil, List.all_cons, List.all_nil, Bool.and_self, Bool.and_true, Bool.true_and, List.take_zero, List.nil_append, List.drop_nil, List.append_nil, List.getElem?_cons_zero, List.getElem?_cons_succ, List.drop_succ_cons, List.drop_zero, List.take_succ_cons, List.cons_append, Nat.reduceLeDiff, hl0, hmin, s1', hl1]
  rw [w_enter]
  simp only [w_draw, dr_cons, dr_some, dr_none, dr_go, calm_no, calm_nil, calm_cons, calmB_some, isCall, freshI, dr_nil, dr_end, still_nil, still_cons, stillB_some, stamp_some, stampV_ptr, stampV_tuple, stampO, still_here, still_here0, List.nil_append, w_out, w_gives, fin_ret, fin_normal, ress_nil, ress_tmp, pack_one, pack_nil, pack_two, entry_nil, entry_one, entry_two, entry_three, entry_four, eq_skip, eq_exit, eq_ret, w_rows, w_done, w_seq, w_normal, w_ret, w_exit, w_cond, w_true, w_false, eq_block, block_normal, block_ret, block_exit, rows_nil, rows_cons, on_some, on_none, row_plain, row_guard, guard_tt, guard_ff, guard_tf, guard_ft, guard_no, ev_tmp, ev_int, ev_bool, ev_string, ev_slice, ev_pointer, ev_map, ev_float, ev_complex, ev_nilIface, ev_nilFunc, ev_func, eget_cons, eget_nil, st_mv, st_pick, v_pick_t, v_pick_f, st_ext, v_ext0, v_ext1, v_ext2, v_ext3, st_int, v_int, int_add, int_sub, int_mul, int_eql, int_neq, int_lss, int_leq, int_gtr, int_geq, st_beq, v_beq, v_bne, st_not, v_not, st_conv, v_conv, st_faddr, v_faddr, st_iaddr, v_iaddr, st_aaddr, v_aaddr, st_nilChk, v_nil, st_len, v_len, v_lenS, st_load, v_load, got_one, got_row, mem_tip, mem_ro, mem_ret, st_alloc, st_box, st_store, v_store, got_store, cells_agg, cells_int, cells_bool, cells_slice, cells_pointer, cells_string, cells_complex, cells_func, one_int, one_bool, one_slice, one_pointer, one_string, one_complex, one_func, upd_push, get_push_self, AHeap.n_push, AHeap.n_upd, st_build, parts_nil, parts_cons, st_bslice, st_append, st_mkfun, st_mkface, st_isNil, st_max, v_max, st_min, v_min, st_field, st_index, st_slice0, v_slice0, v_slice0n, st_slice, kill_nil, st_call, v_call, forget_nil, forget_cons, Option.map_some, Option.map_none, Option.bind_some, List.map_cons, List.map_nil, if_true, if_false, Nat.reduceEqDiff, Int.reduceEq, Nat.reduceAdd, Nat.reduceMul, Bool.not_true, Bool.not_false, reduceCtorEq, decide_true, decide_false, Int.cast_ofNat_Int, eq_self, Int.reduceLT, Int.reduceLE, Int.reduceToNat, Int.toNat_natCast, Int.le_refl, Nat.le_refl, Nat.zero_add, Nat.add_zero, Nat.zero_mul, Nat.mul_one, Nat.mul_zero, and_self, and_true, true_and, List.length_cons, List.length_nil, List.all_cons, List.all_nil, Bool.and_self, Bool.and_true, Bool.true_and, List.take_zero, List.nil_append, List.drop_nil, List.append_nil, List.getElem?_cons_zero, List.getElem?_cons_succ, List.drop_succ_cons, List.drop_zero, List.take_succ_cons, List.cons_append, Nat.reduceLeDiff, r1]
  unfold RL
  rw [hk4]
  exact ⟨⟨r4, r5⟩, r3⟩
end Go.Proofs.Ytdnaaonloaoeeaa
