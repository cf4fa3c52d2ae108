/- What is proved here: what the program's functions come to, as far as the claimed statement asks. Conditions: those that each theorem names, and no others. -/
import Derived.Test.YtoijfaglobdceaaK14
import Derived.Test.YtoijfaglobdceaaPlain
/-! Layer 14: what a nukta makes. -/
set_option linter.unusedSimpArgs false
set_option linter.unusedVariables false
namespace Go.Proofs.Ytoijfaglobdceaa
open Go Lon
set_option maxRecDepth 100000
theorem n_rem {k : IntKind} {a b : Int} (h : b ≠ 0) : intOp .rem k a b = some (.int k (a.tmod b)) := by simp only [intOp, if_neg h]
def c2 (p : Int × Int) : List Value := [.int .i64 p.1, .int .i64 p.2]
theorem c_Nukta (H : AHeap) : cw Try.prog (tabF tab) om1 17 [] H = some (.slice (some ⟨H.n, 0, none⟩) 14 15, H.push ⟨N14.flatMap c2, 39, .tip, 0, []⟩) := cw_of 3 (by kernel_rfl)
theorem N14_ok : (N14.all fun p => (pl p.1).2 && !((pl p.1).1 == p.2) && decide (0 < p.2) && decide (p.2 < 128) && decide (0 ≤ p.1) && decide (p.1 < 256) && decide (0 ≤ fnd R14 [p.1, 233])) = true := by kernel_rfl
theorem w8 {n : Int} (h1 : 0 ≤ n) (h2 : n < 256) : IntKind.u8.wrap n = n := by
  unfold IntKind.wrap
  have hb : (2 : Int) ^ IntKind.u8.bits = 256 := by decide
  have hs : IntKind.u8.signed = false := rfl
  rw [hb, hs]
  simp only [Bool.false_and, Bool.false_eq_true, if_false]
  omega
theorem law_Nukta {k : Int} (hk : 0 ≤ k ∧ k < 256) : Gives (cw Try.prog (tabF tab) om1 8 [.int .u8 k] AHeap.empty) fun v H' => v = .bool true := by
  rw [cw_run (F := F_lontarlaw14_IndicNukta) rfl rfl rfl]
  unfold F_lontarlaw14_IndicNukta k_lontarlaw14_IndicNukta
  obtain ⟨m, hm⟩ : ∃ m : Nat, k % 14 = m := ⟨(k % 14).toNat, by omega⟩
  have hm14 : m < 14 := by omega
  have w1 : IntKind.i64.wrap k = k := wrap64 (by omega) (by omega)
  have q1 : intOp .rem .i64 k 14 = some (.int .i64 (m : Int)) := by rw [n_rem (by decide), Int.tmod_eq_emod_of_nonneg (by omega), hm]
  obtain ⟨⟨r0, r1⟩, hp, _⟩ := drop_at (L := N14) (i := m) (show m < N14.length from hm14)
  have hok := List.all_eq_true.mp N14_ok _ (List.mem_of_getElem? hp)
  simp only [Bool.and_eq_true, decide_eq_true_eq, Bool.not_eq_true', beq_eq_false_iff_ne, ne_eq] at hok
  obtain ⟨⟨⟨⟨⟨⟨p1, p2⟩, p3⟩, p4⟩, p5⟩, p6⟩, p7⟩ := hok
  obtain ⟨H0, eH0⟩ : ∃ H0, H0 = AHeap.empty.push ⟨N14.flatMap c2, 39, .tip, 0, []⟩ := ⟨_, rfl⟩
  have hn0 : H0.n = 1 := by rw [eH0]; rfl
  have cN : cw Try.prog (tabF tab) om1 17 [] AHeap.empty = some (.slice (some ⟨AHeap.empty.n, 0, none⟩) 14 15, H0) := by rw [eH0]; exact c_Nukta _
  have sl : Sl H0 2 (.slice (some ⟨AHeap.empty.n, 0, none⟩) 14 15) 14 (N14.flatMap c2) := Sl.new (by rw [eH0]; exact get_push_self) mem_tip rfl
  obtain ⟨i1, o1, h1, _, h3⟩ := sl.at hm14
  rw [(row_at (f := c2) (s := 2) (fun _ => rfl) hp).1] at h3
  have h3' : gotLoad (H0.get i1) o1 (some 2) H0 = some (.agg ⟨[.int .i64 r0, .int .i64 r1]⟩, H0) := h3
  have gB := get_push_self (H := H0) (b := ⟨[.int .i64 r0, .int .i64 r1], 39, .tip, 1, []⟩)
  have gB2 : ((H0.push ⟨[.int .i64 r0, .int .i64 r1], 39, .tip, 1, []⟩).push ⟨[.int .i64 r0, .int .i64 233], 3, .tip, 0, []⟩).get H0.n = some ⟨[.int .i64 r0, .int .i64 r1], 39, .tip, 1, []⟩ := (Ext.push _ _).get gB
  have hw8 : IntKind.u8.wrap r0 = r0 := w8 p5 p6
  obtain ⟨pn, hpl⟩ : ∃ pn, pl r0 = (pn, true) := ⟨(pl r0).1, by rw [← p1]⟩
  have oP := fun H => o_Place ⟨p5, p6⟩ H
  rw [hpl] at oP p2
  simp only [plV] at oP p2
  have n1 : (pn ≠ r1) = True := by simp only [ne_eq, eq_iff_iff, iff_true]; exact p2
  have n2 : r1 > 0 := p3
  have hb2 : ∀ H, vBslice 3 2 1 [.int .i64 0] [(0, 1, .int .i64 r0), (1, 1, .int .i64 233)] H = some (.slice (some ⟨H.n, 0, none⟩) 2 3, H.push ⟨[.int .i64 r0, .int .i64 233], 3, .tip, 0, []⟩) := fun H => rfl
  have kN := k_Nukta r0 r1
  rw [Option.map_eq_some_iff] at kN
  obtain ⟨⟨v, H1⟩, e1, e2⟩ := kN
  simp only [Prod.mk.injEq] at e2
  obtain ⟨e2, e3, e4⟩ := e2
  have hR := rulesB_spec e2
  have c20 : cw Try.prog (tabF tab) om1 20 [] ((H0.push ⟨[.int .i64 r0, .int .i64 r1], 39, .tip, 1, []⟩).push ⟨[.int .i64 r0, .int .i64 233], 3, .tip, 0, []⟩) = some (v, H1) := by rw [eH0]; exact cw_ofT 2000 e1
  have e3' : H1.get H0.n = some ⟨[.int .i64 r0, .int .i64 r1], 39, .tip, 1, []⟩ := by rw [hn0]; exact e3
  have e4' : H1.get (H0.n + 1) = some ⟨[.int .i64 r0, .int .i64 233], 3, .tip, 0, []⟩ := by rw [hn0]; exact e4
  have hI : Ints H1 (.slice (some ⟨H0.n + 1, 0, none⟩) 2 3) [r0, 233] := Sl.new e4' mem_tip rfl
  obtain ⟨v2, H2, f1, f2, rfl⟩ := c_Find hR hI
  have g2 : H2.get H0.n = _ := f2.get e3'
  have g3 : H2.get (H0.n + 1) = _ := f2.get e4'
  have n3 : fnd R14 [r0, 233] ≥ 0 := p7
  have hl : ∀ i (H : AHeap), vLen false (.slice (some ⟨i, 0, none⟩) 14 15) H = some (.int .i64 14, H) := fun _ _ => rfl
  simp only [w_draw, dr_cons, dr_some, dr_none, dr_go, calm_no, calm_nil, calm_cons, calmB_some, isCall, freshI, dr_nil, dr_end, still_nil, still_cons, stillB_some, stamp_some, stampV_ptr, stampV_tuple, stampO, still_here, still_here0, List.nil_append, w_out, w_gives, fin_ret, fin_normal, ress_nil, ress_tmp, pack_one, pack_nil, pack_two, entry_nil, entry_one, entry_two, entry_three, entry_four, eq_skip, eq_exit, eq_ret, w_rows, w_done, w_seq, w_normal, w_ret, w_exit, w_cond, w_true, w_false, eq_block, block_normal, block_ret, block_exit, rows_nil, rows_cons, on_some, on_none, row_plain, row_guard, guard_tt, guard_ff, guard_tf, guard_ft, guard_no, ev_tmp, ev_int, ev_bool, ev_string, ev_slice, ev_pointer, ev_map, ev_float, ev_complex, ev_nilIface, ev_nilFunc, ev_func, eget_cons, eget_nil, st_mv, st_pick, v_pick_t, v_pick_f, st_ext, v_ext0, v_ext1, v_ext2, v_ext3, st_int, v_int, int_add, int_sub, int_mul, int_eql, int_neq, int_lss, int_leq, int_gtr, int_geq, st_beq, v_beq, v_bne, st_not, v_not, st_conv, v_conv, st_faddr, v_faddr, st_iaddr, v_iaddr, st_aaddr, v_aaddr, st_nilChk, v_nil, st_len, v_len, v_lenS, st_load, v_load, got_one, got_row, mem_tip, mem_ro, mem_ret, st_alloc, st_box, st_store, v_store, got_store, cells_agg, cells_int, cells_bool, cells_slice, cells_pointer, cells_string, cells_complex, cells_func, one_int, one_bool, one_slice, one_pointer, one_string, one_complex, one_func, upd_push, get_push_self, AHeap.n_push, AHeap.n_upd, st_build, parts_nil, parts_cons, st_bslice, st_append, st_mkfun, st_mkface, st_isNil, st_max, v_max, st_min, v_min, st_field, st_index, st_slice0, v_slice0, v_slice0n, st_slice, kill_nil, st_call, v_call, forget_nil, forget_cons, Option.map_some, Option.map_none, Option.bind_some, List.map_cons, List.map_nil, if_true, if_false, Nat.reduceEqDiff, Int.reduceEq, Nat.reduceAdd, Nat.reduceMul, Bool.not_true, Bool.not_false, reduceCtorEq, decide_true, decide_false, Int.cast_ofNat_Int, eq_self, Int.reduceLT, Int.reduceLE, Int.reduceToNat, Int.toNat_natCast, Int.le_refl, Nat.le_refl, Nat.zero_add, Nat.add_zero, Nat.zero_mul, Nat.mul_one, Nat.mul_zero, and_self, and_true, true_and, List.length_cons, List.length_nil, List.all_cons, List.all_nil, Bool.and_self, Bool.and_true, Bool.true_and, List.take_zero, List.nil_append, List.drop_nil, List.append_nil, List.getElem?_cons_zero, List.getElem?_cons_succ, List.drop_succ_cons, List.drop_zero, List.take_succ_cons, List.cons_append, Nat.reduceLeDiff, o_awake, cN, hl, w1, q1, h1, h3', gB, hw8, oP, n1, n2, p4, hb2, gB2, c20, e4', f1, g2, g3, n3]
end Go.Proofs.Ytoijfaglobdceaa
