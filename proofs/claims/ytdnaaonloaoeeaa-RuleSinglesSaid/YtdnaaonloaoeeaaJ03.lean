/- What is proved here: what the program's functions come to, as far as the claimed statement asks. Conditions: those that each theorem names, and no others. -/
import Derived.Test.YtdnaaonloaoeeaaRowsOpen
import Derived.Test.YtdnaaonloaoeeaaSingles
/-! Layer 3: rules of one unit. -/
set_option linter.unusedSimpArgs false
set_option linter.unusedVariables false
namespace Go.Proofs.Ytdnaaonloaoeeaa
open Go Lon
set_option maxRecDepth 100000
theorem g_min0 {cf : CallF} {H : AHeap} {a b : Int} : stepA Try.prog cf [(12, .int .i64 a), (14, .int .i64 b)] H (.gen ⟨none, (.call ⟨.builtin .min, #[(.tmp 12), (.tmp 14), (.const (.int .i64 60))], #[3, 3, 3]⟩), 3, "", #[], none⟩) = some (.int .i64 (if 60 < (if b < a then b else a) then 60 else (if b < a then b else a)), H) := by kernel_rfl
theorem g_min {cf : CallF} {e : Env} {H : AHeap} {a b : Int} (h1 : eget e 12 = .int .i64 a) (h2 : eget e 14 = .int .i64 b) : stepA Try.prog cf e H (.gen ⟨none, (.call ⟨.builtin .min, #[(.tmp 12), (.tmp 14), (.const (.int .i64 60))], #[3, 3, 3]⟩), 3, "", #[], none⟩) = some (.int .i64 (if 60 < (if b < a then b else a) then 60 else (if b < a then b else a)), H) := by
  have hc : stepA Try.prog cf e H (.gen ⟨none, (.call ⟨.builtin .min, #[(.tmp 12), (.tmp 14), (.const (.int .i64 60))], #[3, 3, 3]⟩), 3, "", #[], none⟩) = stepA Try.prog cf [(12, .int .i64 a), (14, .int .i64 b)] H (.gen ⟨none, (.call ⟨.builtin .min, #[(.tmp 12), (.tmp 14), (.const (.int .i64 60))], #[3, 3, 3]⟩), 3, "", #[], none⟩) := stepA_congr fun x hx => by
    simp [AOp.ops, Op.operands, Call.operands] at hx
    rcases hx with rfl | rfl | rfl
    · simp only [ev_tmp, eget_cons, if_true]; exact h1
    · simp only [ev_tmp, eget_cons, Nat.reduceEqDiff, if_false, if_true]; exact h2
    · rfl
  exact hc.trans g_min0
/-- Units that lie below a number of blocks. -/
def Below0 (B : Nat) (H : AHeap) (v : Value) (l : List Int) : Prop := ∀ (k : Nat) (x : Int), l[k]? = some x → ∃ i o, i < B ∧ (∀ (kd : IntKind) (H2 : AHeap), vIaddr v (.int kd k) 1 H2 = some (.pointer (some ⟨i, o, none⟩), H2)) ∧ ∀ H2 : AHeap, H2.get i = H.get i → gotLoad (H2.get i) o none H2 = some (.int .i64 x, H2)
theorem Below0.of {H : AHeap} {v : Value} {l : List Int} (h : Ints H v l) : Below0 H.n H v l := fun k x hk => by
  obtain ⟨i, o, h1, h2⟩ := h.at hk
  refine ⟨i, o, ?_, h1, fun H2 he => ?_⟩
  · cases hg : H.get i with
    | none => rw [hg] at h2; cases h2
    | some b => exact AHeap.lt_of_get hg
  · rw [he]
    unfold gotLoad at h2 ⊢
    rw [Option.map_eq_some_iff] at h2
    obtain ⟨u, h3, h4⟩ := h2
    injection h4 with h4 _
    rw [h3, h4]
    rfl
theorem Below0.same {B : Nat} {H H' : AHeap} {v : Value} {l : List Int} (h : Below0 B H v l) (hs : ∀ j, j < B → H'.get j = H.get j) : Below0 B H' v l := fun k x hk => by
  obtain ⟨i, o, h0, h1, h2⟩ := h k x hk
  exact ⟨i, o, h0, h1, fun H2 he => h2 H2 (he.trans (hs i h0))⟩
theorem app_single2 {H : AHeap} {out : Value} {L : List Rl} {a b : Int} (ho : OwnRules H 28 out L) (hb : (L.length + 1) * 48 ≤ 140737488355328) :
    ∃ v' H5, appendA (((H.push ⟨[.int .i64 a], 3, .tip, 0, []⟩).push ⟨[.int .i64 b], 3, .tip, 0, []⟩).push ⟨[.slice (some ⟨H.n, 0, none⟩) 1 2, .slice (some ⟨H.n + 1, 0, none⟩) 1 2], 28, .tip, 0, []⟩) out (.slice (some ⟨H.n + 1 + 1, 0, none⟩) 1 2) 28 2 48 = some (v', H5) ∧
      OwnRules H5 28 v' (L ++ [([a], [b])]) ∧ From H.n v' ∧ H.n ≤ H5.n ∧ (∀ j, j < H.n → NotAt out j → H5.get j = H.get j) := by
  have hx1 : Ext H (((H.push ⟨[.int .i64 a], 3, .tip, 0, []⟩).push ⟨[.int .i64 b], 3, .tip, 0, []⟩).push ⟨[.slice (some ⟨H.n, 0, none⟩) 1 2, .slice (some ⟨H.n + 1, 0, none⟩) 1 2], 28, .tip, 0, []⟩) := ((Ext.push _ _).trans (Ext.push _ _)).trans (Ext.push _ _)
  obtain ⟨v', H5, q1, q2, q3, q4, q5, q6⟩ := OwnRules.append2 (H := ((H.push ⟨[.int .i64 a], 3, .tip, 0, []⟩).push ⟨[.int .i64 b], 3, .tip, 0, []⟩).push ⟨[.slice (some ⟨H.n, 0, none⟩) 1 2, .slice (some ⟨H.n + 1, 0, none⟩) 1 2], 28, .tip, 0, []⟩)
      (el := 28) (bytes := 48) (v := out) (x := .slice (some ⟨H.n + 1 + 1, 0, none⟩) 1 2) (vi := .slice (some ⟨H.n, 0, none⟩) 1 2) (vo := .slice (some ⟨H.n + 1, 0, none⟩) 1 2) (r := ([a], [b]))
      (ho.ext hx1) (Sl.new (el := 28) (st := .tip) (ver := 0) (anc := []) (by have := get_push_self (H := (H.push ⟨[.int .i64 a], 3, .tip, 0, []⟩).push ⟨[.int .i64 b], 3, .tip, 0, []⟩) (b := ⟨[.slice (some ⟨H.n, 0, none⟩) 1 2, .slice (some ⟨H.n + 1, 0, none⟩) 1 2], 28, .tip, 0, []⟩); simpa using this) mem_tip rfl)
      (Sl.new (el := 3) (st := .tip) (ver := 0) (anc := []) (by have := get_push3 (H := H) (a := ⟨[.int .i64 a], 3, .tip, 0, []⟩) (b := ⟨[.int .i64 b], 3, .tip, 0, []⟩) (c := ⟨[.slice (some ⟨H.n, 0, none⟩) 1 2, .slice (some ⟨H.n + 1, 0, none⟩) 1 2], 28, .tip, 0, []⟩); simpa [ints] using this) mem_tip rfl)
      (Sl.new (el := 3) (st := .tip) (ver := 0) (anc := []) (by have := get_push2 (H := H.push ⟨[.int .i64 a], 3, .tip, 0, []⟩) (a := ⟨[.int .i64 b], 3, .tip, 0, []⟩) (b := ⟨[.slice (some ⟨H.n, 0, none⟩) 1 2, .slice (some ⟨H.n + 1, 0, none⟩) 1 2], 28, .tip, 0, []⟩); simpa [ints] using this) mem_tip rfl)
      (tiny1 _) (tiny1 _) hb
  exact ⟨v', H5, q1, q2, q3.mono (by simp; omega), by simp at q5; omega, fun j hj hn => by rw [q6 j (by simp; omega) hn, hx1.2 j hj]⟩
theorem v_pair {H : AHeap} {a b : Int} : vBuild [.int .i64 0, .int .i64 0] [(0, 1, .int .i64 a), (1, 1, .int .i64 b)] H = some (.agg ⟨[.int .i64 a, .int .i64 b]⟩, H) := rfl
theorem v_pair1 {H : AHeap} {el : TypeId} {a b : Int} : vBslice el 1 2 [.int .i64 0, .int .i64 0] [(0, 2, .agg ⟨[.int .i64 a, .int .i64 b]⟩)] H = some (.slice (some ⟨H.n, 0, none⟩) 1 2, H.push ⟨[.int .i64 a, .int .i64 b], el, .tip, 0, []⟩) := rfl
def prs (la lb : List Int) (i : Nat) : List (Int × Int) := (List.zip la lb).take i
theorem still_at {H H1 : AHeap} {i : Nat} (h : H1.get i = H.get i) (l : List (Nat × Nat)) : still H1 (stampB i (H.get i) ++ l) = still H1 l := by rw [← h]; exact still_here
theorem still_at0 {H H1 : AHeap} {i : Nat} (h : H1.get i = H.get i) : still H1 (stampB i (H.get i)) = true := by rw [← h]; exact still_here0
theorem l_Sing {a b : Value} {la lb : List Int} {B m : Nat} (hm : m ≤ la.length) (hm2 : m ≤ lb.length) (hm60 : m ≤ 60) : ∀ (k i : Nat) (H : AHeap) (rows want : Value), i + k = m → B ≤ H.n → Below0 B H a la → Below0 B H b lb → Own H 43 2 rows i ((prs la lb i).flatMap cell2) → From B rows → OwnRules H 28 want ((prs la lb i).map single) → From B want → (∀ j, NotAt rows j ∨ NotAt want j) →
    Out (run Try.prog (tabF tab) om1 (.loop [0, 1, 5, 6, 7, 8] b_lontarlaw03_RuleSingles_0) [(0, a), (1, b), (5, .int .i64 m), (6, rows), (7, want), (8, .int .i64 i)] H) fun y e' H' => y = .exit 0 ∧ Own H' 43 2 (eget e' 6) m ((prs la lb m).flatMap cell2) ∧ OwnRules H' 28 (eget e' 7) ((prs la lb m).map single) := by
  intro k
  induction k with
  | zero =>
    intro i H rows want hi hB ha hb hr hrf hw hwf hd
    obtain rfl : i = m := by omega
    rw [w_loop_b b_lontarlaw03_RuleSingles_0.eq_1]
    simp only [w_draw, dr_cons, dr_some, dr_none, dr_go, calm_no, calm_nil, calm_cons, calmB_some, isCall, freshI, dr_nil, dr_end, still_nil, still_cons, stillB_some, stamp_some, stampV_ptr, stampV_tuple, stampO, still_here, still_here0, List.nil_append, w_out, w_gives, fin_ret, fin_normal, ress_nil, ress_tmp, pack_one, pack_nil, pack_two, entry_nil, entry_one, entry_two, entry_three, entry_four, eq_skip, eq_exit, eq_ret, w_rows, w_done, w_seq, w_normal, w_ret, w_exit, w_cond, w_true, w_false, eq_block, block_normal, block_ret, block_exit, rows_nil, rows_cons, on_some, on_none, row_plain, row_guard, guard_tt, guard_ff, guard_tf, guard_ft, guard_no, ev_tmp, ev_int, ev_bool, ev_string, ev_slice, ev_pointer, ev_map, ev_float, ev_complex, ev_nilIface, ev_nilFunc, ev_func, eget_cons, eget_nil, st_mv, st_pick, v_pick_t, v_pick_f, st_ext, v_ext0, v_ext1, v_ext2, v_ext3, st_int, v_int, int_add, int_sub, int_mul, int_eql, int_neq, int_lss, int_leq, int_gtr, int_geq, st_beq, v_beq, v_bne, st_not, v_not, st_conv, v_conv, st_faddr, v_faddr, st_iaddr, v_iaddr, st_aaddr, v_aaddr, st_nilChk, v_nil, st_len, v_len, v_lenS, st_load, v_load, got_one, got_row, mem_tip, mem_ro, mem_ret, st_alloc, st_box, st_store, v_store, got_store, cells_agg, cells_int, cells_bool, cells_slice, cells_pointer, cells_string, cells_complex, cells_func, one_int, one_bool, one_slice, one_pointer, one_string, one_complex, one_func, upd_push, get_push_self, AHeap.n_push, AHeap.n_upd, st_build, parts_nil, parts_cons, st_bslice, st_append, st_mkfun, st_mkface, st_isNil, st_max, v_max, st_min, v_min, st_field, st_index, st_slice0, v_slice0, v_slice0n, st_slice, kill_nil, st_call, v_call, forget_nil, forget_cons, Option.map_some, Option.map_none, Option.bind_some, List.map_cons, List.map_nil, if_true, if_false, Nat.reduceEqDiff, Int.reduceEq, Nat.reduceAdd, Nat.reduceMul, Bool.not_true, Bool.not_false, reduceCtorEq, decide_true, decide_false, Int.cast_ofNat_Int, eq_self, Int.reduceLT, Int.reduceLE, Int.reduceToNat, Int.toNat_natCast, Int.le_refl, Nat.le_refl, Nat.zero_add, Nat.add_zero, Nat.zero_mul, Nat.mul_one, Nat.mul_zero, and_self, and_true, true_and, List.length_cons, List.length_nil, List.all_cons, List.all_nil, Bool.and_self, Bool.and_true, Bool.true_and, List.take_zero, List.nil_append, List.drop_nil, List.append_nil, List.getElem?_cons_zero, List.getElem?_cons_succ, List.drop_succ_cons, List.drop_zero, List.take_succ_cons, List.cons_append, Nat.reduceLeDiff, Int.lt_irrefl]
    exact ⟨hr, hw⟩
  | succ k ih =>
    intro i H rows want hi hB ha hb hr hrf hw hwf hd
    have hlt : (i : Int) < m := by omega
    have hw2 : IntKind.i64.wrap ((i : Int) + 1) = ((i + 1 : Nat) : Int) := by rw [wrap64 (by omega) (by omega)]; omega
    obtain ⟨x, hx, _⟩ := drop_at (L := la) (i := i) (by omega)
    obtain ⟨y, hy, _⟩ := drop_at (L := lb) (i := i) (by omega)
    obtain ⟨i1, o1, n1, a1, a2⟩ := ha i x hx
    obtain ⟨i2, o2, n2, b1, b2⟩ := hb i y hy
    have hz : (List.zip la lb)[i]? = some (x, y) := by rw [List.getElem?_zip_eq_some]; exact ⟨hx, hy⟩
    have hps : prs la lb (i + 1) = prs la lb i ++ [(x, y)] := by unfold prs; rw [List.take_add_one, hz]; rfl
    have hplen : (prs la lb i).length = i := by unfold prs; rw [List.length_take, List.length_zip]; omega
    -- the row
    have hx1 := Ext.push H ⟨[.int .i64 x, .int .i64 y], 43, .tip, 0, []⟩
    obtain ⟨rows', H2, m1, m2, m3, m4, m5, m6⟩ := Own.append2 (bytes := 16) (m := 1) (hr.ext hx1) (Sl.new (n := 1) (c := 2) (get_push_self (H := H) (b := ⟨[.int .i64 x, .int .i64 y], 43, .tip, 0, []⟩)) mem_tip rfl) (by omega) rfl (by omega)
    have same2 : ∀ j, j < B → H2.get j = H.get j := fun j hj => by rw [m6 j (by simp; omega) (NotAt.of_from hrf hj), hx1.2 j (by omega)]
    have e1 := a2 H rfl
    have e2 := b2 H rfl
    have t1 := still_at (same2 i1 n1)
    have t10 := still_at0 (same2 i1 n1)
    have t2 := still_at (same2 i2 n2)
    have e3 := a2 H2 (same2 i1 n1)
    have e4 := b2 H2 (same2 i2 n2)
    -- the rule wanted
    have hw' : OwnRules H2 28 want ((prs la lb i).map single) := by
      obtain ⟨cs, ⟨hl, ho⟩, hr0⟩ := hw
      have hk : Keeps H H2 := hx1.keeps.trans m4
      refine ⟨cs, ⟨hl, ?_⟩, fun k r hkr => ?_⟩
      · rcases ho with ho | ⟨q, ver, anc, rfl, hn, hg⟩
        · exact .inl ho
        · have hq := AHeap.lt_of_get hg
          have hna : NotAt rows q := (hd q).resolve_right (fun h => h rfl)
          exact .inr ⟨q, ver, anc, rfl, hn, by rw [m6 q (by simp; omega) hna, hx1.2 q hq]; exact hg⟩
      · obtain ⟨⟨vi, vo, z1, z2, z3, z4⟩, z5⟩ := hr0 k r hkr
        exact ⟨⟨vi, vo, z1, z2, z3.keeps hk, z4.keeps hk⟩, z5⟩
    obtain ⟨want', H3, p1, p2, p3, p5, p6⟩ := app_single2 (a := x) (b := y) hw' (by rw [List.length_map, hplen]; omega)
    have hB2 : B ≤ H2.n := by have := m5; simp at this; omega
    have same3' : ∀ j, j < B → H3.get j = H2.get j := fun j hj => p6 j (by omega) (NotAt.of_from hwf hj)
    have same3 : ∀ j, j < B → H3.get j = H.get j := fun j hj => (same3' j hj).trans (same2 j hj)
    have s1 := still_at (H := H2) (H1 := H3) (same3' i1 n1)
    have s10 := still_at0 (H := H2) (H1 := H3) (same3' i1 n1)
    have s2 := still_at (H := H2) (H1 := H3) (same3' i2 n2)
    -- the rows' slice is as it was
    have hrow3 : Own H3 43 2 rows' (i + 1) ((prs la lb (i + 1)).flatMap cell2) := by
      have hd1 : (prs la lb i).flatMap cell2 ++ [.int .i64 x, .int .i64 y] = (prs la lb (i + 1)).flatMap cell2 := by rw [hps, List.flatMap_append]; rfl
      rw [hd1] at m2
      obtain ⟨hl, ho⟩ := m2
      refine ⟨hl, ?_⟩
      rcases ho with ho | ⟨q, ver, anc, rfl, hn, hg⟩
      · exact .inl ho
      · have hq := AHeap.lt_of_get hg
        have hfr : (H.push ⟨[.int .i64 x, .int .i64 y], 43, .tip, 0, []⟩).n ≤ q := m3
        have hna : NotAt want q := by
          obtain ⟨cs, ⟨_, ho⟩, _⟩ := hw
          rcases ho with ⟨rfl, _⟩ | ⟨q', _, _, rfl, _, hg'⟩
          · trivial
          · have := AHeap.lt_of_get hg'
            show q' ≠ q
            simp at hfr
            omega
        exact .inr ⟨q, ver, anc, rfl, hn, by rw [p6 q hq hna]; exact hg⟩
    have hd3 : ∀ j, NotAt rows' j ∨ NotAt want' j := fun j => by
      obtain ⟨_, ho⟩ := m2
      rcases ho with ⟨rfl, _⟩ | ⟨q, ver, anc, rfl, hn, hg⟩
      · exact .inl trivial
      · have hq := AHeap.lt_of_get hg
        by_cases hj : q = j
        · subst hj
          exact .inr (NotAt.of_from p3 hq)
        · exact .inl hj
    have hps2 : (prs la lb i).map single ++ [([x], [y])] = (prs la lb (i + 1)).map single := by rw [hps, List.map_append]; rfl
    rw [hps2] at p2
    obtain ⟨z, e', H', r1, r2, r3, r4⟩ := ih (i + 1) H3 rows' want' (by omega) (by omega) (ha.same same3) (hb.same same3) hrow3 (m3.mono (by simp; omega)) p2 (p3.mono (by omega)) hd3
    rw [w_loop_b b_lontarlaw03_RuleSingles_0.eq_1]
    simp only [w_draw, dr_cons, dr_some, dr_none, dr_go, calm_no, calm_nil, calm_cons, calmB_some, isCall, freshI, dr_nil, dr_end, still_nil, still_cons, stillB_some, stamp_some, stampV_ptr, stampV_tuple, stampO, still_here, still_here0, List.nil_append, w_out, w_gives, fin_ret, fin_normal, ress_nil, ress_tmp, pack_one, pack_nil, pack_two, entry_nil, entry_one, entry_two, entry_three, entry_four, eq_skip, eq_exit, eq_ret, w_rows, w_done, w_seq, w_normal, w_ret, w_exit, w_cond, w_true, w_false, eq_block, block_normal, block_ret, block_exit, rows_nil, rows_cons, on_some, on_none, row_plain, row_guard, guard_tt, guard_ff, guard_tf, guard_ft, guard_no, ev_tmp, ev_int, ev_bool, ev_string, ev_slice, ev_pointer, ev_map, ev_float, ev_complex, ev_nilIface, ev_nilFunc, ev_func, eget_cons, eget_nil, st_mv, st_pick, v_pick_t, v_pick_f, st_ext, v_ext0, v_ext1, v_ext2, v_ext3, st_int, v_int, int_add, int_sub, int_mul, int_eql, int_neq, int_lss, int_leq, int_gtr, int_geq, st_beq, v_beq, v_bne, st_not, v_not, st_conv, v_conv, st_faddr, v_faddr, st_iaddr, v_iaddr, st_aaddr, v_aaddr, st_nilChk, v_nil, st_len, v_len, v_lenS, st_load, v_load, got_one, got_row, mem_tip, mem_ro, mem_ret, st_alloc, st_box, st_store, v_store, got_store, cells_agg, cells_int, cells_bool, cells_slice, cells_pointer, cells_string, cells_complex, cells_func, one_int, one_bool, one_slice, one_pointer, one_string, one_complex, one_func, upd_push, get_push_self, AHeap.n_push, AHeap.n_upd, st_build, parts_nil, parts_cons, st_bslice, st_append, st_mkfun, st_mkface, st_isNil, st_max, v_max, st_min, v_min, st_field, st_index, st_slice0, v_slice0, v_slice0n, st_slice, kill_nil, st_call, v_call, forget_nil, forget_cons, Option.map_some, Option.map_none, Option.bind_some, List.map_cons, List.map_nil, if_true, if_false, Nat.reduceEqDiff, Int.reduceEq, Nat.reduceAdd, Nat.reduceMul, Bool.not_true, Bool.not_false, reduceCtorEq, decide_true, decide_false, Int.cast_ofNat_Int, eq_self, Int.reduceLT, Int.reduceLE, Int.reduceToNat, Int.toNat_natCast, Int.le_refl, Nat.le_refl, Nat.zero_add, Nat.add_zero, Nat.zero_mul, Nat.mul_one, Nat.mul_zero, and_self, and_true, true_and, List.length_cons, List.length_nil, List.all_cons, List.all_nil, Bool.and_self, Bool.and_true, Bool.true_and, List.take_zero, List.nil_append, List.drop_nil, List.append_nil, List.getElem?_cons_zero, List.getElem?_cons_succ, List.drop_succ_cons, List.drop_zero, List.take_succ_cons, List.cons_append, Nat.reduceLeDiff, hlt, a1, b1, e1, e2, v_pair, v_pair1, m1, t2, t10, e3, e4, v_int1, v_rule, v_rule1, p1, s2, s10, hw2]
    rw [w_enter]
    simp only [w_draw, dr_cons, dr_some, dr_none, dr_go, calm_no, calm_nil, calm_cons, calmB_some, isCall, freshI, dr_nil, dr_end, still_nil, still_cons, stillB_some, stamp_some, stampV_ptr, stampV_tuple, stampO, still_here, still_here0, List.nil_append, w_out, w_gives, fin_ret, fin_normal, ress_nil, ress_tmp, pack_one, pack_nil, pack_two, entry_nil, entry_one, entry_two, entry_three, entry_four, eq_skip, eq_exit, eq_ret, w_rows, w_done, w_seq, w_normal, w_ret, w_exit, w_cond, w_true, w_false, eq_block, block_normal, block_ret, block_exit, rows_nil, rows_cons, on_some, on_none, row_plain, row_guard, guard_tt, guard_ff, guard_tf, guard_ft, guard_no, ev_tmp, ev_int, ev_bool, ev_string, ev_slice, ev_pointer, ev_map, ev_float, ev_complex, ev_nilIface, ev_nilFunc, ev_func, eget_cons, eget_nil, st_mv, st_pick, v_pick_t, v_pick_f, st_ext, v_ext0, v_ext1, v_ext2, v_ext3, st_int, v_int, int_add, int_sub, int_mul, int_eql, int_neq, int_lss, int_leq, int_gtr, int_geq, st_beq, v_beq, v_bne, st_not, v_not, st_conv, v_conv, st_faddr, v_faddr, st_iaddr, v_iaddr, st_aaddr, v_aaddr, st_nilChk, v_nil, st_len, v_len, v_lenS, st_load, v_load, got_one, got_row, mem_tip, mem_ro, mem_ret, st_alloc, st_box, st_store, v_store, got_store, cells_agg, cells_int, cells_bool, cells_slice, cells_pointer, cells_string, cells_complex, cells_func, one_int, one_bool, one_slice, one_pointer, one_string, one_complex, one_func, upd_push, get_push_self, AHeap.n_push, AHeap.n_upd, st_build, parts_nil, parts_cons, st_bslice, st_append, st_mkfun, st_mkface, st_isNil, st_max, v_max, st_min, v_min, st_field, st_index, st_slice0, v_slice0, v_slice0n, st_slice, kill_nil, st_call, v_call, forget_nil, forget_cons, Option.map_some, Option.map_none, Option.bind_some, List.map_cons, List.map_nil, if_true, if_false, Nat.reduceEqDiff, Int.reduceEq, Nat.reduceAdd, Nat.reduceMul, Bool.not_true, Bool.not_false, reduceCtorEq, decide_true, decide_false, Int.cast_ofNat_Int, eq_self, Int.reduceLT, Int.reduceLE, Int.reduceToNat, Int.toNat_natCast, Int.le_refl, Nat.le_refl, Nat.zero_add, Nat.add_zero, Nat.zero_mul, Nat.mul_one, Nat.mul_zero, and_self, and_true, true_and, List.length_cons, List.length_nil, List.all_cons, List.all_nil, Bool.and_self, Bool.and_true, Bool.true_and, List.take_zero, List.nil_append, List.drop_nil, List.append_nil, List.getElem?_cons_zero, List.getElem?_cons_succ, List.drop_succ_cons, List.drop_zero, List.take_succ_cons, List.cons_append, Nat.reduceLeDiff, r1]
    exact ⟨r2, r3, r4⟩
theorem law_Singles {a b : Value} {la lb : List Int} {H : AHeap} (ha : Ints H a la) (hb : Ints H b lb) : Gives (cw Try.prog (tabF tab) om1 7 [a, b] H) fun v H' => v = .bool true := by
  rw [cw_run (F := F_lontarlaw03_RuleSingles) rfl rfl rfl]
  unfold F_lontarlaw03_RuleSingles k_lontarlaw03_RuleSingles
  obtain ⟨m, hm⟩ : ∃ m : Nat, m = min (min la.length lb.length) 60 := ⟨_, rfl⟩
  have hmin : (if (60 : Int) < (if (lb.length : Int) < (la.length : Int) then (lb.length : Int) else (la.length : Int)) then (60 : Int) else (if (lb.length : Int) < (la.length : Int) then (lb.length : Int) else (la.length : Int))) = (m : Int) := by split <;> split <;> omega
  have gm : ∀ (cf : CallF) (e : Env) (H : AHeap), eget e 12 = .int .i64 (la.length : Int) → eget e 14 = .int .i64 (lb.length : Int) → stepA Try.prog cf e H (.gen ⟨none, (.call ⟨.builtin .min, #[(.tmp 12), (.tmp 14), (.const (.int .i64 60))], #[3, 3, 3]⟩), 3, "", #[], none⟩) = some (.int .i64 (m : Int), H) := fun cf e H h1 h2 => by rw [g_min h1 h2, hmin]
  obtain ⟨y, e', H1, r1, rfl, r3, r4⟩ := l_Sing (a := a) (b := b) (la := la) (lb := lb) (B := H.n) (m := m) (by omega) (by omega) (by omega) m 0 H (.slice none 0 0) (.slice none 0 0) (by omega) (Nat.le_refl _) (Below0.of ha) (Below0.of hb) ⟨by simp [prs], .inl ⟨rfl, rfl⟩⟩ trivial (by simpa [prs] using OwnRules.nil H 28) trivial (fun j => .inl trivial)
  have hlen : (prs la lb m).length = m := by unfold prs; rw [List.length_take, List.length_zip]; omega
  have hsl := r3.sl
  obtain ⟨v2, H2, c2, x2, o2⟩ := c_Singles (L := prs la lb m) (by omega) (by rw [hlen]; exact hsl)
  have hw2 := (r4.ext x2).rules (by rw [List.length_map]; omega)
  have cs := c_Same o2 hw2
  rw [decide_eq_true rfl] at cs
  have hl1 := ha.len (H2 := H)
  have hl2 := hb.len (H2 := H)
  simp only [Int.cast_ofNat_Int] at r1
  simp only [w_draw, dr_cons, dr_some, dr_none, dr_go, calm_no, calm_nil, calm_cons, calmB_some, isCall, freshI, dr_nil, dr_end, still_nil, still_cons, stillB_some, stamp_some, stampV_ptr, stampV_tuple, stampO, still_here, still_here0, List.nil_append, w_out, w_gives, fin_ret, fin_normal, ress_nil, ress_tmp, pack_one, pack_nil, pack_two, entry_nil, entry_one, entry_two, entry_three, entry_four, eq_skip, eq_exit, eq_ret, w_rows, w_done, w_seq, w_normal, w_ret, w_exit, w_cond, w_true, w_false, eq_block, block_normal, block_ret, block_exit, rows_nil, rows_cons, on_some, on_none, row_plain, row_guard, guard_tt, guard_ff, guard_tf, guard_ft, guard_no, ev_tmp, ev_int, ev_bool, ev_string, ev_slice, ev_pointer, ev_map, ev_float, ev_complex, ev_nilIface, ev_nilFunc, ev_func, eget_cons, eget_nil, st_mv, st_pick, v_pick_t, v_pick_f, st_ext, v_ext0, v_ext1, v_ext2, v_ext3, st_int, v_int, int_add, int_sub, int_mul, int_eql, int_neq, int_lss, int_leq, int_gtr, int_geq, st_beq, v_beq, v_bne, st_not, v_not, st_conv, v_conv, st_faddr, v_faddr, st_iaddr, v_iaddr, st_aaddr, v_aaddr, st_nilChk, v_nil, st_len, v_len, v_lenS, st_load, v_load, got_one, got_row, mem_tip, mem_ro, mem_ret, st_alloc, st_box, st_store, v_store, got_store, cells_agg, cells_int, cells_bool, cells_slice, cells_pointer, cells_string, cells_complex, cells_func, one_int, one_bool, one_slice, one_pointer, one_string, one_complex, one_func, upd_push, get_push_self, AHeap.n_push, AHeap.n_upd, st_build, parts_nil, parts_cons, st_bslice, st_append, st_mkfun, st_mkface, st_isNil, st_max, v_max, st_min, v_min, st_field, st_index, st_slice0, v_slice0, v_slice0n, st_slice, kill_nil, st_call, v_call, forget_nil, forget_cons, Option.map_some, Option.map_none, Option.bind_some, List.map_cons, List.map_nil, if_true, if_false, Nat.reduceEqDiff, Int.reduceEq, Nat.reduceAdd, Nat.reduceMul, Bool.not_true, Bool.not_false, reduceCtorEq, decide_true, decide_false, Int.cast_ofNat_Int, eq_self, Int.reduceLT, Int.reduceLE, Int.reduceToNat, Int.toNat_natCast, Int.le_refl, Nat.le_refl, Nat.zero_add, Nat.add_zero, Nat.zero_mul, Nat.mul_one, Nat.mul_zero, and_self, and_true, true_and, List.length_cons, List.length_nil, List.all_cons, List.all_nil, Bool.and_self, Bool.and_true, Bool.true_and, List.take_zero, List.nil_append, List.drop_nil, List.append_nil, List.getElem?_cons_zero, List.getElem?_cons_succ, List.drop_succ_cons, List.drop_zero, List.take_succ_cons, List.cons_append, Nat.reduceLeDiff, o_awake, hl1, hl2, gm]
  rw [w_enter]
  simp only [w_draw, dr_cons, dr_some, dr_none, dr_go, calm_no, calm_nil, calm_cons, calmB_some, isCall, freshI, dr_nil, dr_end, still_nil, still_cons, stillB_some, stamp_some, stampV_ptr, stampV_tuple, stampO, still_here, still_here0, List.nil_append, w_out, w_gives, fin_ret, fin_normal, ress_nil, ress_tmp, pack_one, pack_nil, pack_two, entry_nil, entry_one, entry_two, entry_three, entry_four, eq_skip, eq_exit, eq_ret, w_rows, w_done, w_seq, w_normal, w_ret, w_exit, w_cond, w_true, w_false, eq_block, block_normal, block_ret, block_exit, rows_nil, rows_cons, on_some, on_none, row_plain, row_guard, guard_tt, guard_ff, guard_tf, guard_ft, guard_no, ev_tmp, ev_int, ev_bool, ev_string, ev_slice, ev_pointer, ev_map, ev_float, ev_complex, ev_nilIface, ev_nilFunc, ev_func, eget_cons, eget_nil, st_mv, st_pick, v_pick_t, v_pick_f, st_ext, v_ext0, v_ext1, v_ext2, v_ext3, st_int, v_int, int_add, int_sub, int_mul, int_eql, int_neq, int_lss, int_leq, int_gtr, int_geq, st_beq, v_beq, v_bne, st_not, v_not, st_conv, v_conv, st_faddr, v_faddr, st_iaddr, v_iaddr, st_aaddr, v_aaddr, st_nilChk, v_nil, st_len, v_len, v_lenS, st_load, v_load, got_one, got_row, mem_tip, mem_ro, mem_ret, st_alloc, st_box, st_store, v_store, got_store, cells_agg, cells_int, cells_bool, cells_slice, cells_pointer, cells_string, cells_complex, cells_func, one_int, one_bool, one_slice, one_pointer, one_string, one_complex, one_func, upd_push, get_push_self, AHeap.n_push, AHeap.n_upd, st_build, parts_nil, parts_cons, st_bslice, st_append, st_mkfun, st_mkface, st_isNil, st_max, v_max, st_min, v_min, st_field, st_index, st_slice0, v_slice0, v_slice0n, st_slice, kill_nil, st_call, v_call, forget_nil, forget_cons, Option.map_some, Option.map_none, Option.bind_some, List.map_cons, List.map_nil, if_true, if_false, Nat.reduceEqDiff, Int.reduceEq, Nat.reduceAdd, Nat.reduceMul, Bool.not_true, Bool.not_false, reduceCtorEq, decide_true, decide_false, Int.cast_ofNat_Int, eq_self, Int.reduceLT, Int.reduceLE, Int.reduceToNat, Int.toNat_natCast, Int.le_refl, Nat.le_refl, Nat.zero_add, Nat.add_zero, Nat.zero_mul, Nat.mul_one, Nat.mul_zero, and_self, and_true, true_and, List.length_cons, List.length_nil, List.all_cons, List.all_nil, Bool.and_self, Bool.and_true, Bool.true_and, List.take_zero, List.nil_append, List.drop_nil, List.append_nil, List.getElem?_cons_zero, List.getElem?_cons_succ, List.drop_succ_cons, List.drop_zero, List.take_succ_cons, List.cons_append, Nat.reduceLeDiff, r1, c2, cs]
end Go.Proofs.Ytdnaaonloaoeeaa
