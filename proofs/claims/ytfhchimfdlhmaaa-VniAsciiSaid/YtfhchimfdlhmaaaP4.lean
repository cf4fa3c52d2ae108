/- What is proved here: what the program's functions come to, as far as the claimed statement asks. Conditions: those that each theorem names, and no others. -/
import Derived.Test.YtfhchimfdlhmaaaP1
import Derived.Test.YtfhchimfdlhmaaaP2
import Derived.Test.YtfhchimfdlhmaaaP3
/-! Layer 13: vni's rules, in all. -/
set_option linter.unusedSimpArgs false
set_option linter.unusedVariables false
namespace Go.Proofs.Ytfhchimfdlhmaaa
open Go Lon
set_option maxRecDepth 100000
theorem OwnL.kr {H H' : AHeap} (hk : KR H H') {a b : Value} {L : List Lt} (h : OwnL H a b L) : OwnL H' a b L :=
  ⟨Own.move h.ls fun i x hi he => hk.2 i x hi (by rw [he]; decide), Own.move h.ss fun i x hi he => hk.2 i x hi (by rw [he]; decide)⟩
theorem KR.upd {H H' : AHeap} (hk : KR H H') {q : Nat} {b c : ABlk} (hg : H'.get q = some b) (hq : H.n ≤ q) : KR H (H'.upd q c) := ⟨by have := hk.1; simpa using this, fun j x hj he => by
  have := AHeap.lt_of_get hj
  rw [upd_other hg (by omega)]
  exact hk.2 j x hj he⟩
theorem smL_up {l : List Int} : l.map (upI false) = l := by
  have : (fun c => upI false c) = id := rfl
  show l.map (fun c => upI false c) = l
  rw [this, List.map_id]
theorem smL_dn {l : List Int} : l.map (upI true) = l.map fun c => c - 32 := rfl
theorem same_at {v : Value} {k sz : Nat} {i o i' o' : Nat} (h : ∀ (kd : IntKind) (H2 : AHeap), vIaddr v (.int kd k) sz H2 = some (.pointer (some ⟨i, o, none⟩), H2)) (h' : ∀ (kd : IntKind) (H2 : AHeap), vIaddr v (.int kd k) sz H2 = some (.pointer (some ⟨i', o', none⟩), H2)) (H : AHeap) : i' = i ∧ o' = o := by
  have := (h .i64 H).symm.trans (h' .i64 H)
  injection this with this
  injection this with this _
  injection this with this
  injection this with this
  injection this with h1 h2 _
  exact ⟨h1.symm, h2.symm⟩
def Pv1 (H0 : AHeap) (q : Nat) (y : AEx) (e' : Env) (H' : AHeap) : Prop := y = .exit 0 ∧ eget e' 5 = .map (some q) ∧ OwnRules H' 46 (eget e' 1) (RD 148) ∧ From H0.n (eget e' 1) ∧ Ext H0 H' ∧ ∃ ver, H'.get q = some ⟨mp SC, 74, .map, ver, []⟩
theorem l_v1 {H0 H1 : AHeap} {q : Nat} {a bb : Value} (hA : OwnL H1 a bb VL) (h01 : H0.n ≤ H1.n) (hq : H1.n ≤ q) : ∀ (c k ver : Nat) (H : AHeap) (out : Value), k + c = 148 → Ext H0 H → KR H1 H → OwnRules H 46 out (RD k) → From H0.n out → H.get q = some ⟨mp (SC.take k), 74, .map, ver, []⟩ →
    Out (run Try.prog (tabF tab) om1 (.loop [1, 2, 3, 4, 5, 21, 22, 23] b_vni_Rules_1) [(1, out), (2, a), (3, bb), (4, .int .i64 74), (5, .map (some q)), (21, a), (22, .int .i64 148), (23, .int .i64 k)] H) (Pv1 H0 q) := by
  intro c
  induction c with
  | zero =>
    intro k ver H out hk hx hkr ho hf hg
    obtain rfl : k = 148 := by omega
    have z : (((148 : Nat) : Int) < 148) = False := by simp
    rw [w_loop_b b_vni_Rules_1.eq_1]
    simp only [WA, isStore, isCall, isK, freshI, stampO, List.nil_append, Option.map_some, Option.map_none, Option.bind_some, List.map_cons, List.map_nil, if_true, if_false, Nat.reduceEqDiff, Int.reduceEq, Nat.reduceAdd, Nat.reduceMul, reduceCtorEq, eq_self, Int.reduceLT, Int.reduceLE, Int.reduceToNat, List.length_cons, List.length_nil, List.all_cons, List.all_nil, List.take_zero, List.drop_nil, List.append_nil, List.getElem?_cons_zero, List.getElem?_cons_succ, List.drop_succ_cons, List.drop_zero, List.take_succ_cons, List.cons_append, Nat.reduceLeDiff, Int.cast_ofNat_Int, z]
    rw [List.take_of_length_le (by unfold SC; rw [List.length_map, VL_len]; omega)] at hg
    exact ⟨rfl, rfl, ho, hf, hx, ver, hg⟩
  | succ c ih =>
    intro k ver H out hk hx hkr ho hf hg
    have hlt : ((k : Int) < 148) = True := eq_true (by omega)
    obtain ⟨x, hxk, hd⟩ := drop_at (L := VL) (i := k) (by rw [VL_len]; omega)
    have hA0 := hA.kr hkr
    obtain ⟨i1, o1, a1, a2, a3⟩ := Sl.at hA0.ls.sl (k := k) (by rw [VL_len]; omega)
    rw [drop_lts, hd] at a3
    have a3' : gotLoad (H.get i1) o1 (some 2) H = some (.agg ⟨[.int .i64 x.base, .complex .f64 (fb x.mark) (fb x.tone)]⟩, H) := a3
    have hst := st_let (H := H.push ⟨[.int .i64 0, .complex .f64 0 0], 26, .tip, 0, []⟩) (i := H.n) (ver := 0) (el := 26) (a := .int .i64 0) (b := .complex .f64 0 0) (x := .int .i64 x.base) (y := .complex .f64 (fb x.mark) (fb x.tone)) rfl
    simp only [Nat.zero_add] at hst
    obtain ⟨H2, hH2⟩ : ∃ H2, H2 = H.push ⟨[.int .i64 x.base, .complex .f64 (fb x.mark) (fb x.tone)], 26, .tip, 1, []⟩ := ⟨_, rfl⟩
    have x2 : Ext H H2 := by rw [hH2]; exact Ext.push H _
    have g2 : H2.get H.n = some ⟨[.int .i64 x.base, .complex .f64 (fb x.mark) (fb x.tone)], 26, .tip, 1, []⟩ := by rw [hH2]; exact get_push_self
    have hw2 : IntKind.i64.wrap ((k : Int) + 1) = ((k + 1 : Nat) : Int) := by rw [wrap64 (by omega) (by omega)]; omega
    -- from the small letter's bytes on
    have rest : ∀ (up : Bool) (u : Lt) (H3 : AHeap), u ∈ LA false → Ext H H3 → rl k = ((smL u).map (upI up), [x.sc]) → ∃ (v4 : Value) (H4 : AHeap) (e5 : Env) (H5 H6 H7 : AHeap) (out' : Value) (H8 : AHeap) (p5 : Option Addr) (c5 : Nat),
        cw Try.prog (tabF tab) om1 12 [.agg ⟨[.int .i64 u.base, .complex .f64 (fb u.mark) (fb u.tone)]⟩] H3 = some (v4, H4) ∧ (∀ H9, vLen false v4 H9 = some (.int .i64 (smL u).length, H9)) ∧
        run Try.prog (tabF tab) om1 (.loop [1, 2, 3, 4, 5, 6, 8, 9, 21, 22, 23, 39, 40, 41] b_vni_Rules_0) [(1, out), (2, a), (3, bb), (4, .int .i64 74), (5, .map (some q)), (6, .int .i64 k), (8, .bool up), (9, .slice none 0 0), (21, a), (22, .int .i64 148), (23, .int .i64 k), (39, v4), (40, .int .i64 (smL u).length), (41, .int .i64 0)] H4 = some (.exit 2, e5, H5) ∧
        eget e5 1 = out ∧ eget e5 2 = a ∧ eget e5 3 = bb ∧ eget e5 4 = .int .i64 74 ∧ eget e5 5 = .map (some q) ∧ eget e5 6 = .int .i64 k ∧ eget e5 21 = a ∧ eget e5 22 = .int .i64 148 ∧ eget e5 23 = .int .i64 k ∧ eget e5 9 = .slice p5 (smL u).length c5 ∧
        (∃ i2 o2, (∀ (kd : IntKind) (H9 : AHeap), vIaddr bb (.int kd k) 1 H9 = some (.pointer (some ⟨i2, o2, none⟩), H9)) ∧ gotLoad (H5.get i2) o2 none H5 = some (.int .i64 x.sc, H5) ∧ gotLoad (H6.get i2) o2 none H6 = some (.int .i64 x.sc, H6)) ∧
        mapSet (.map (some q)) (.int .i64 x.sc) (.bool true) H5 = some (.tuple ⟨[]⟩, H6) ∧
        vBslice 3 1 1 [.int .i64 0] [(0, 1, .int .i64 x.sc)] H6 = some (.slice (some ⟨H6.n, 0, none⟩) 1 2, H7) ∧
        appendA (H7.push ⟨[.slice p5 (smL u).length c5, .slice (some ⟨H6.n, 0, none⟩) 1 2], 46, .tip, 0, []⟩) out (.slice (some ⟨H7.n, 0, none⟩) 1 2) 46 2 48 = some (out', H8) ∧
        Out (run Try.prog (tabF tab) om1 (.loop [1, 2, 3, 4, 5, 21, 22, 23] b_vni_Rules_1) [(1, out'), (2, a), (3, bb), (4, .int .i64 74), (5, .map (some q)), (21, a), (22, .int .i64 148), (23, .int .i64 ((k + 1 : Nat) : Int))] H8) (Pv1 H0 q) := by
      intro up u H3 hu x3 hrl
      obtain ⟨m1, m2, m3, m4, m5, m6, m7⟩ := okS_of hu
      obtain ⟨v4, H4, c4, x4, i4⟩ := c_Small (H := H3) m1 m2 m7
      have hsl : smF u.base u.mark u.tone u.sc = smL u := rfl
      rw [hsl] at i4 m4 m5
      obtain ⟨y, e5, H5, p1, rfl, p2, p3, p4, p5, p6, p7, p8, p9, p10, p11, x5⟩ := l_v0 (H0 := H4) (up := up) (l := smL u) (z1 := out) (z2 := a) (z3 := bb) (z4 := .int .i64 74) (z5 := .map (some q)) (z6 := .int .i64 k) (z21 := a) (z22 := .int .i64 148) (z23 := .int .i64 k) i4 m5 (by omega) (smL u).length 0 H4 (.slice none 0 0) (by omega) (Ext.refl _) OwnI.nil trivial
      have x05 := (x3.trans x4).trans x5
      have hA5 := hA0.kr (Ext.kr x05)
      have hsc : (VL.map (·.sc))[k]? = some x.sc := by rw [List.getElem?_map, hxk]; rfl
      have hI5 : Ints H5 bb (VL.map (·.sc)) := by
        have := hA5.ss.sl
        unfold Ints
        rw [List.length_map]
        exact this
      obtain ⟨i2, o2, d1, d2⟩ := hI5.at hsc
      have hg5 := x05.get hg
      have hmn := SC_new hxk
      have hms := map_set hg5 hmn
      rw [← SC_next hxk] at hms
      obtain ⟨H6, hH6⟩ : ∃ H6, H6 = H5.upd q ⟨mp (SC.take (k + 1)), 74, .map, ver + 1, []⟩ := ⟨_, rfl⟩
      rw [← hH6] at hms
      have kr5 := hkr.trans (Ext.kr x05)
      have kr6 : KR H1 H6 := by rw [hH6]; exact kr5.upd hg5 hq
      have hI6 : Ints H6 bb (VL.map (·.sc)) := by
        have := (hA.kr kr6).ss.sl
        unfold Ints
        rw [List.length_map]
        exact this
      obtain ⟨i2', o2', d1', d2'⟩ := hI6.at hsc
      obtain ⟨rfl, rfl⟩ := same_at d1 d1' H
      have x06 : Ext H0 H6 := by rw [hH6]; exact Ext.upd (hx.trans x05) hg5 (by omega)
      have g6 : H6.get q = some ⟨mp (SC.take (k + 1)), 74, .map, ver + 1, []⟩ := by rw [hH6]; exact upd_self hg5
      have ho6 : OwnRules H6 46 out (RD k) := by rw [hH6]; exact OwnRules.onMap hg5 rfl (by simp only; decide) (ho.ext x05)
      have hi6 : Ints H6 (eget e5 9) ((smL u).map (upI up)) := by rw [hH6]; exact Sl.onMap hg5 rfl p11.sl
      obtain ⟨⟨p, cp, hv⟩, _⟩ := p11.sl
      rw [hv] at hi6
      obtain ⟨H7, vi, x7, i7⟩ := new_one (H := H6) (a := x.sc)
      obtain ⟨out', H8, b1, b2, b3, b4, b5⟩ := add_rule (r := ((smL u).map (upI up), [x.sc])) (ho6.ext x7) hf (x06.trans x7) (hi6.ext x7) i7 (by simp only [List.length_map]; omega) (by simp) (by rw [RD_len]; omega)
      rw [← hrl, ← RD_succ] at b2
      have g8 := b5.2 q _ (x7.get g6) (by simp only; decide)
      rw [List.length_map] at hv
      simp only [List.length_map, List.length_cons, List.length_nil, Nat.zero_add] at b1
      exact ⟨v4, H4, e5, H5, H6, H7, out', H8, p, cp, c4, fun H9 => i4.len, p1, p2, p3, p4, p5, p6, p7, p8, p9, p10, hv, ⟨_, _, d1, d2, d2'⟩, hms, vi, b1, ih (k + 1) (ver + 1) H8 out' (by omega) b4 ((kr6.trans (Ext.kr x7)).trans b5) b2 b3 g8⟩
    by_cases hge : k < 74
    · have hg' : ((k : Int) ≥ 74) = False := eq_false (by omega)
      obtain ⟨v4, H4, e5, H5, H6, H7, out', H8, p5, c5, s1, s2, s3, s4, s5, s6, s7, s8, s9, s10, s11, s12, s13, ⟨i2, o2, s14, s15, s16⟩, s17, s18, s19, y, e', H', r1, r2⟩ := rest false x H2 (VL_lt hxk hge) x2 (by rw [smL_up]; exact rl_lo hge hxk)
      rw [w_loop_b b_vni_Rules_1.eq_1]
      simp only [WA, isStore, isCall, isK, freshI, stampO, List.nil_append, Option.map_some, Option.map_none, Option.bind_some, List.map_cons, List.map_nil, if_true, if_false, Nat.reduceEqDiff, Int.reduceEq, Nat.reduceAdd, Nat.reduceMul, reduceCtorEq, eq_self, Int.reduceLT, Int.reduceLE, Int.reduceToNat, List.length_cons, List.length_nil, List.all_cons, List.all_nil, List.take_zero, List.drop_nil, List.append_nil, List.getElem?_cons_zero, List.getElem?_cons_succ, List.drop_succ_cons, List.drop_zero, List.take_succ_cons, List.cons_append, Nat.reduceLeDiff, Int.cast_ofNat_Int, hlt, a1, a3', hst, ← hH2, hg', g2, s1, s2]
      rw [w_enter]
      simp only [WA, isStore, isCall, isK, freshI, stampO, List.nil_append, Option.map_some, Option.map_none, Option.bind_some, List.map_cons, List.map_nil, if_true, if_false, Nat.reduceEqDiff, Int.reduceEq, Nat.reduceAdd, Nat.reduceMul, reduceCtorEq, eq_self, Int.reduceLT, Int.reduceLE, Int.reduceToNat, List.length_cons, List.length_nil, List.all_cons, List.all_nil, List.take_zero, List.drop_nil, List.append_nil, List.getElem?_cons_zero, List.getElem?_cons_succ, List.drop_succ_cons, List.drop_zero, List.take_succ_cons, List.cons_append, Nat.reduceLeDiff, Int.cast_ofNat_Int, s3, s4, s5, s6, s7, s8, s9, s10, s11, s12, s13, s14, s15, s16, st_mset, s17, s18, v_rule, v_rule1, s19, hw2]
      rw [w_enter]
      simp only [WA, isStore, isCall, isK, freshI, stampO, List.nil_append, Option.map_some, Option.map_none, Option.bind_some, List.map_cons, List.map_nil, if_true, if_false, Nat.reduceEqDiff, Int.reduceEq, Nat.reduceAdd, Nat.reduceMul, reduceCtorEq, eq_self, Int.reduceLT, Int.reduceLE, Int.reduceToNat, List.length_cons, List.length_nil, List.all_cons, List.all_nil, List.take_zero, List.drop_nil, List.append_nil, List.getElem?_cons_zero, List.getElem?_cons_succ, List.drop_succ_cons, List.drop_zero, List.take_succ_cons, List.cons_append, Nat.reduceLeDiff, Int.cast_ofNat_Int, s5, s6, s7, s8, s10, s11, s12, r1]
      exact r2
    · have hg' : ((k : Int) ≥ 74) = True := eq_true (by omega)
      obtain ⟨u, huk, hdu⟩ := drop_at (L := VL) (i := k - 74) (by rw [VL_len]; omega)
      have hw7 : IntKind.i64.wrap ((k : Int) - 74) = ((k - 74 : Nat) : Int) := by rw [wrap64 (by omega) (by omega)]; omega
      obtain ⟨j1, q1, f1, f2, f3⟩ := Sl.at (hA0.kr (Ext.kr x2)).ls.sl (k := k - 74) (by rw [VL_len]; omega)
      rw [drop_lts, hdu] at f3
      have f3' : gotLoad (H2.get j1) q1 (some 2) H2 = some (.agg ⟨[.int .i64 u.base, .complex .f64 (fb u.mark) (fb u.tone)]⟩, H2) := f3
      have hst2 := st_let (H := H2) (i := H.n) (ver := 1) (el := 26) (a := .int .i64 x.base) (b := .complex .f64 (fb x.mark) (fb x.tone)) (x := .int .i64 u.base) (y := .complex .f64 (fb u.mark) (fb u.tone)) rfl
      obtain ⟨H3, hH3⟩ : ∃ H3, H3 = H2.upd H.n ⟨[.int .i64 u.base, .complex .f64 (fb u.mark) (fb u.tone)], 26, .tip, 1 + 1, []⟩ := ⟨_, rfl⟩
      have x3 : Ext H H3 := by rw [hH3]; exact Ext.upd x2 g2 (Nat.le_refl _)
      have g3 : H3.get H.n = some ⟨[.int .i64 u.base, .complex .f64 (fb u.mark) (fb u.tone)], 26, .tip, 1 + 1, []⟩ := by rw [hH3]; exact upd_self g2
      rw [← hH3] at hst2
      obtain ⟨v4, H4, e5, H5, H6, H7, out', H8, p5, c5, s1, s2, s3, s4, s5, s6, s7, s8, s9, s10, s11, s12, s13, ⟨i2, o2, s14, s15, s16⟩, s17, s18, s19, y, e', H', r1, r2⟩ := rest true u H3 (VL_lt huk (by omega)) x3 (by rw [smL_dn]; exact rl_hi hge hxk huk)
      rw [w_loop_b b_vni_Rules_1.eq_1]
      simp only [WA, isStore, isCall, isK, freshI, stampO, List.nil_append, Option.map_some, Option.map_none, Option.bind_some, List.map_cons, List.map_nil, if_true, if_false, Nat.reduceEqDiff, Int.reduceEq, Nat.reduceAdd, Nat.reduceMul, reduceCtorEq, eq_self, Int.reduceLT, Int.reduceLE, Int.reduceToNat, List.length_cons, List.length_nil, List.all_cons, List.all_nil, List.take_zero, List.drop_nil, List.append_nil, List.getElem?_cons_zero, List.getElem?_cons_succ, List.drop_succ_cons, List.drop_zero, List.take_succ_cons, List.cons_append, Nat.reduceLeDiff, Int.cast_ofNat_Int, hlt, a1, a3', hst, ← hH2, hg', hw7, f1, f3', g2, hst2, g3, s1, s2]
      rw [w_enter]
      simp only [WA, isStore, isCall, isK, freshI, stampO, List.nil_append, Option.map_some, Option.map_none, Option.bind_some, List.map_cons, List.map_nil, if_true, if_false, Nat.reduceEqDiff, Int.reduceEq, Nat.reduceAdd, Nat.reduceMul, reduceCtorEq, eq_self, Int.reduceLT, Int.reduceLE, Int.reduceToNat, List.length_cons, List.length_nil, List.all_cons, List.all_nil, List.take_zero, List.drop_nil, List.append_nil, List.getElem?_cons_zero, List.getElem?_cons_succ, List.drop_succ_cons, List.drop_zero, List.take_succ_cons, List.cons_append, Nat.reduceLeDiff, Int.cast_ofNat_Int, s3, s4, s5, s6, s7, s8, s9, s10, s11, s12, s13, s14, s15, s16, st_mset, s17, s18, v_rule, v_rule1, s19, hw2]
      rw [w_enter]
      simp only [WA, isStore, isCall, isK, freshI, stampO, List.nil_append, Option.map_some, Option.map_none, Option.bind_some, List.map_cons, List.map_nil, if_true, if_false, Nat.reduceEqDiff, Int.reduceEq, Nat.reduceAdd, Nat.reduceMul, reduceCtorEq, eq_self, Int.reduceLT, Int.reduceLE, Int.reduceToNat, List.length_cons, List.length_nil, List.all_cons, List.all_nil, List.take_zero, List.drop_nil, List.append_nil, List.getElem?_cons_zero, List.getElem?_cons_succ, List.drop_succ_cons, List.drop_zero, List.take_succ_cons, List.cons_append, Nat.reduceLeDiff, Int.cast_ofNat_Int, s5, s6, s7, s8, s10, s11, s12, r1]
      exact r2
def Pv2 (H0 : AHeap) (y : AEx) (e' : Env) (H' : AHeap) : Prop := y = .exit 4 ∧ OwnRules H' 46 (eget e' 1) RU ∧ Ext H0 H'
theorem l_v2 {H0 : AHeap} {q ver : Nat} : ∀ (c n : Nat) (H : AHeap) (out : Value), n + c = 128 → Ext H0 H → OwnRules H 46 out (RD 148 ++ asc n) → From H0.n out → H.get q = some ⟨mp SC, 74, .map, ver, []⟩ →
    Out (run Try.prog (tabF tab) om1 (.loop [1, 5, 69] b_vni_Rules_2) [(1, out), (5, .map (some q)), (69, .int .i64 n)] H) (Pv2 H0) := by
  intro c
  induction c with
  | zero =>
    intro n H out hn hx ho hf hg
    obtain rfl : n = 128 := by omega
    have z : (((128 : Nat) : Int) < 128) = False := by simp
    rw [w_loop_b b_vni_Rules_2.eq_1]
    simp only [WA, isStore, isCall, isK, freshI, stampO, List.nil_append, Option.map_some, Option.map_none, Option.bind_some, List.map_cons, List.map_nil, if_true, if_false, Nat.reduceEqDiff, Int.reduceEq, Nat.reduceAdd, Nat.reduceMul, reduceCtorEq, eq_self, Int.reduceLT, Int.reduceLE, Int.reduceToNat, List.length_cons, List.length_nil, List.all_cons, List.all_nil, List.take_zero, List.drop_nil, List.append_nil, List.getElem?_cons_zero, List.getElem?_cons_succ, List.drop_succ_cons, List.drop_zero, List.take_succ_cons, List.cons_append, Nat.reduceLeDiff, Int.cast_ofNat_Int, z]
    exact ⟨rfl, ho, hx⟩
  | succ c ih =>
    intro n H out hn hx ho hf hg
    have hlt : ((n : Int) < 128) = True := eq_true (by omega)
    have hw2 : IntKind.i64.wrap ((n : Int) + 1) = ((n + 1 : Nat) : Int) := by rw [wrap64 (by omega) (by omega)]; omega
    have hal := asc_len n
    have hgm := get_mp (a := (n : Int)) hg
    have hasc : asc (n + 1) = if (sp VL n).isNone = true then asc n ++ [([(n : Int)], [(n : Int)])] else asc n := rfl
    rw [sp_mem] at hasc
    rw [show VL.map (·.sc) = SC from rfl] at hasc
    rw [w_loop_b b_vni_Rules_2.eq_1]
    by_cases hs : (n : Int) ∈ SC
    · have hd : decide ((n : Int) ∈ SC) = true := by simpa using hs
      rw [hd] at hgm hasc
      rw [if_neg (by simp)] at hasc
      obtain ⟨y, e', H', r1, r2⟩ := ih (n + 1) H out (by omega) hx (by rw [hasc]; exact ho) hf hg
      simp only [WA, isStore, isCall, isK, freshI, stampO, List.nil_append, Option.map_some, Option.map_none, Option.bind_some, List.map_cons, List.map_nil, if_true, if_false, Nat.reduceEqDiff, Int.reduceEq, Nat.reduceAdd, Nat.reduceMul, reduceCtorEq, eq_self, Int.reduceLT, Int.reduceLE, Int.reduceToNat, List.length_cons, List.length_nil, List.all_cons, List.all_nil, List.take_zero, List.drop_nil, List.append_nil, List.getElem?_cons_zero, List.getElem?_cons_succ, List.drop_succ_cons, List.drop_zero, List.take_succ_cons, List.cons_append, Nat.reduceLeDiff, Int.cast_ofNat_Int, hlt, st_mget, hgm, hw2]
      rw [w_enter]
      simp only [WA, isStore, isCall, isK, freshI, stampO, List.nil_append, Option.map_some, Option.map_none, Option.bind_some, List.map_cons, List.map_nil, if_true, if_false, Nat.reduceEqDiff, Int.reduceEq, Nat.reduceAdd, Nat.reduceMul, reduceCtorEq, eq_self, Int.reduceLT, Int.reduceLE, Int.reduceToNat, List.length_cons, List.length_nil, List.all_cons, List.all_nil, List.take_zero, List.drop_nil, List.append_nil, List.getElem?_cons_zero, List.getElem?_cons_succ, List.drop_succ_cons, List.drop_zero, List.take_succ_cons, List.cons_append, Nat.reduceLeDiff, Int.cast_ofNat_Int, r1]
      exact r2
    · have hd : decide ((n : Int) ∈ SC) = false := by simpa using hs
      rw [hd] at hgm hasc
      rw [if_pos (by rfl)] at hasc
      obtain ⟨H3, vi, x3, i3⟩ := new_one (H := H) (a := (n : Int))
      obtain ⟨H4, vj, x4, i4⟩ := new_one (H := H3) (a := (n : Int))
      obtain ⟨out', H5, a1, a2, a3, a4, a5⟩ := add_rule (r := ([(n : Int)], [(n : Int)])) ((ho.ext x3).ext x4) hf ((hx.trans x3).trans x4) (i3.ext x4) i4 (by simp) (by simp) (by rw [List.length_append, RD_len]; omega)
      rw [List.append_assoc, ← hasc] at a2
      obtain ⟨y, e', H', r1, r2⟩ := ih (n + 1) H5 out' (by omega) a4 a2 a3 (a5.2 q _ (x4.get (x3.get hg)) (by simp only; decide))
      simp only [List.length_cons, List.length_nil, Nat.zero_add] at a1
      simp only [WA, isStore, isCall, isK, freshI, stampO, List.nil_append, Option.map_some, Option.map_none, Option.bind_some, List.map_cons, List.map_nil, if_true, if_false, Nat.reduceEqDiff, Int.reduceEq, Nat.reduceAdd, Nat.reduceMul, reduceCtorEq, eq_self, Int.reduceLT, Int.reduceLE, Int.reduceToNat, List.length_cons, List.length_nil, List.all_cons, List.all_nil, List.take_zero, List.drop_nil, List.append_nil, List.getElem?_cons_zero, List.getElem?_cons_succ, List.drop_succ_cons, List.drop_zero, List.take_succ_cons, List.cons_append, Nat.reduceLeDiff, Int.cast_ofNat_Int, hlt, st_mget, hgm, vi, vj, v_rule, v_rule1, a1, hw2]
      rw [w_enter]
      simp only [WA, isStore, isCall, isK, freshI, stampO, List.nil_append, Option.map_some, Option.map_none, Option.bind_some, List.map_cons, List.map_nil, if_true, if_false, Nat.reduceEqDiff, Int.reduceEq, Nat.reduceAdd, Nat.reduceMul, reduceCtorEq, eq_self, Int.reduceLT, Int.reduceLE, Int.reduceToNat, List.length_cons, List.length_nil, List.all_cons, List.all_nil, List.take_zero, List.drop_nil, List.append_nil, List.getElem?_cons_zero, List.getElem?_cons_succ, List.drop_succ_cons, List.drop_zero, List.take_succ_cons, List.cons_append, Nat.reduceLeDiff, Int.cast_ofNat_Int, r1]
      exact r2
/-- vni's rules. -/
theorem c_Rules {H : AHeap} : Gives (cw Try.prog (tabF tab) om1 15 [] H) fun v H' => Ext H H' ∧ Rules H' v RU ∧ Cut Try.prog H' v 2 := by
  rw [cw_run (F := F_vni_Rules) rfl rfl rfl]
  unfold F_vni_Rules k_vni_Rules
  obtain ⟨v1, H1, c1, x1, a, bb, rfl, oA⟩ := c_All (H := H)
  have hl := fun H2 => oA.ls.sl.len (H2 := H2)
  rw [VL_len] at hl
  simp only [Int.cast_ofNat_Int] at hl
  have h2 : intOp .quo .i64 148 2 = some (.int .i64 74) := by rfl
  obtain ⟨H2, hH2⟩ : ∃ H2, H2 = H1.push ⟨[], 74, .map, 0, []⟩ := ⟨_, rfl⟩
  have x2 : Ext H1 H2 := by rw [hH2]; exact Ext.push H1 _
  have g2 : H2.get H1.n = some ⟨mp (SC.take 0), 74, .map, 0, []⟩ := by rw [hH2]; exact get_push_self
  obtain ⟨y, e3, H3, p1, rfl, p2, p3, p4, p5, ver, p6⟩ := l_v1 (H0 := H) (q := H1.n) oA x1.1 (Nat.le_refl _) 148 0 0 H2 (.slice none 0 0) (by omega) (x1.trans x2) (Ext.kr x2) (OwnRules.nil _ _) trivial g2
  obtain ⟨y, e4, H4, s1, rfl, s2, s3⟩ := l_v2 (H0 := H) 128 0 H3 (eget e3 1) (by omega) p5 (by rw [show asc 0 = [] from rfl, List.append_nil]; exact p3) p4 p6
  rw [show ((0 : Nat) : Int) = 0 from rfl] at p1 s1
  simp only [WA, isStore, isCall, isK, freshI, stampO, List.nil_append, Option.map_some, Option.map_none, Option.bind_some, List.map_cons, List.map_nil, if_true, if_false, Nat.reduceEqDiff, Int.reduceEq, Nat.reduceAdd, Nat.reduceMul, reduceCtorEq, eq_self, Int.reduceLT, Int.reduceLE, Int.reduceToNat, List.length_cons, List.length_nil, List.all_cons, List.all_nil, List.take_zero, List.drop_nil, List.append_nil, List.getElem?_cons_zero, List.getElem?_cons_succ, List.drop_succ_cons, List.drop_zero, List.take_succ_cons, List.cons_append, Nat.reduceLeDiff, Int.cast_ofNat_Int, c1, hl, h2, st_mmake, ← hH2]
  rw [w_enter]
  simp only [WA, isStore, isCall, isK, freshI, stampO, List.nil_append, Option.map_some, Option.map_none, Option.bind_some, List.map_cons, List.map_nil, if_true, if_false, Nat.reduceEqDiff, Int.reduceEq, Nat.reduceAdd, Nat.reduceMul, reduceCtorEq, eq_self, Int.reduceLT, Int.reduceLE, Int.reduceToNat, List.length_cons, List.length_nil, List.all_cons, List.all_nil, List.take_zero, List.drop_nil, List.append_nil, List.getElem?_cons_zero, List.getElem?_cons_succ, List.drop_succ_cons, List.drop_zero, List.take_succ_cons, List.cons_append, Nat.reduceLeDiff, Int.cast_ofNat_Int, p1, p2]
  rw [w_enter]
  simp only [WA, isStore, isCall, isK, freshI, stampO, List.nil_append, Option.map_some, Option.map_none, Option.bind_some, List.map_cons, List.map_nil, if_true, if_false, Nat.reduceEqDiff, Int.reduceEq, Nat.reduceAdd, Nat.reduceMul, reduceCtorEq, eq_self, Int.reduceLT, Int.reduceLE, Int.reduceToNat, List.length_cons, List.length_nil, List.all_cons, List.all_nil, List.take_zero, List.drop_nil, List.append_nil, List.getElem?_cons_zero, List.getElem?_cons_succ, List.drop_succ_cons, List.drop_zero, List.take_succ_cons, List.cons_append, Nat.reduceLeDiff, Int.cast_ofNat_Int, p2, s1]
  exact ⟨s3, s2.rules (by have := RU_small; omega), s2.cut (by kernel_rfl)⟩
end Go.Proofs.Ytfhchimfdlhmaaa

/-! Layer 13: the document's examples. -/
set_option linter.unusedSimpArgs false
set_option linter.unusedVariables false
namespace Go.Proofs.Ytfhchimfdlhmaaa
open Go Lon
set_option maxRecDepth 100000
theorem RU_len : RU.length = 262 := by kernel_rfl
theorem spV1 : spV 7871 = .tuple ⟨[.agg ⟨[.int .i64 101, .complex .f64 (fb 2) (fb 2)]⟩, .bool true]⟩ := by kernel_rfl
theorem spV2 : spV 7921 = .tuple ⟨[.agg ⟨[.int .i64 117, .complex .f64 (fb 3) (fb 5)]⟩, .bool true]⟩ := by kernel_rfl
theorem jn1 : jn VL 101 (fb 2) (fb 2) = some 7871 := by kernel_rfl
theorem jn2 : jn VL 117 (fb 3) (fb 5) = some 7921 := by kernel_rfl
theorem sm1 : smF 101 2 2 7871 = [101, 225] := by kernel_rfl
theorem sm2 : smF 117 3 5 7921 = [246, 239] := by kernel_rfl
theorem c_awake {H : AHeap} : Gives (cw Try.prog (tabF tab) om1 9 [] H) fun v H' => Ext H H' ∧ v = .bool true := by
  rw [cw_run (F := F_lontarlaw13_awake) rfl rfl rfl]
  unfold F_lontarlaw13_awake k_lontarlaw13_awake
  obtain ⟨v1, H1, c1, x1, rfl⟩ := c_Split (s := 7871) (H := H)
  rw [spV1] at c1
  have hst1 := st_let (H := H1.push ⟨[.int .i64 0, .complex .f64 0 0], 26, .tip, 0, []⟩) (i := H1.n) (ver := 0) (el := 26) (a := .int .i64 0) (b := .complex .f64 0 0) (x := .int .i64 101) (y := .complex .f64 (fb 2) (fb 2)) rfl
  simp only [Nat.zero_add] at hst1
  obtain ⟨H2, hH2⟩ : ∃ H2, H2 = H1.push ⟨[.int .i64 101, .complex .f64 (fb 2) (fb 2)], 26, .tip, 1, []⟩ := ⟨_, rfl⟩
  have x2 : Ext H1 H2 := by rw [hH2]; exact Ext.push H1 _
  have g2 : H2.get H1.n = some ⟨[.int .i64 101, .complex .f64 (fb 2) (fb 2)], 26, .tip, 1, []⟩ := by rw [hH2]; exact get_push_self
  obtain ⟨v3, H3, c3, x3, i3⟩ := c_Small (H := H2) (by decide) (by decide) jn1
  rw [sm1] at i3
  obtain ⟨v4, H4, c4, x4, rfl⟩ := c_Split (s := 7921) (H := H3)
  rw [spV2] at c4
  have hst4 := st_let (H := H4.push ⟨[.int .i64 0, .complex .f64 0 0], 26, .tip, 0, []⟩) (i := H4.n) (ver := 0) (el := 26) (a := .int .i64 0) (b := .complex .f64 0 0) (x := .int .i64 117) (y := .complex .f64 (fb 3) (fb 5)) rfl
  simp only [Nat.zero_add] at hst4
  obtain ⟨H5, hH5⟩ : ∃ H5, H5 = H4.push ⟨[.int .i64 117, .complex .f64 (fb 3) (fb 5)], 26, .tip, 1, []⟩ := ⟨_, rfl⟩
  have x5 : Ext H4 H5 := by rw [hH5]; exact Ext.push H4 _
  have g5 : H5.get H4.n = some ⟨[.int .i64 117, .complex .f64 (fb 3) (fb 5)], 26, .tip, 1, []⟩ := by rw [hH5]; exact get_push_self
  have i3' := i3.ext (x4.trans x5)
  obtain ⟨j0, o0, d0, e0⟩ := i3'.at (k := 0) (x := 101) rfl
  obtain ⟨j1, o1, d1, e1⟩ := i3'.at (k := 1) (x := 225) rfl
  have hl3 := fun H9 => i3.len (H2 := H9)
  simp only [List.length_cons, List.length_nil, Nat.zero_add, Nat.reduceAdd, Int.cast_ofNat_Int] at hl3
  rw [show ((0 : Nat) : Int) = 0 from rfl] at d0
  rw [show ((1 : Nat) : Int) = 1 from rfl] at d1
  obtain ⟨v6, H6, c6, x6, i6⟩ := c_Small (H := H5) (by decide) (by decide) jn2
  rw [sm2] at i6
  obtain ⟨H7, hH7⟩ : ∃ H7, H7 = H6.push ⟨[.int .i64 246, .int .i64 239], 3, .tip, 0, []⟩ := ⟨_, rfl⟩
  have x7 : Ext H6 H7 := by rw [hH7]; exact Ext.push H6 _
  have i7 : Ints H7 (.slice (some ⟨H6.n, 0, none⟩) 2 3) [246, 239] := by rw [hH7]; exact Sl.new (n := 2) (c := 3) get_push_self mem_tip rfl
  have v7 := v_ints2 (H := H6) (el := 3) (a := 246) (b := 239)
  rw [← hH7] at v7
  have c7 := c_Units (i6.ext x7) i7 (by decide)
  rw [show decide (([246, 239] : List Int) = [246, 239]) = true from by decide] at c7
  obtain ⟨v8, H8, c8, x8, r8, _⟩ := c_Rules (H := H7)
  have hl8 := fun H9 => r8.len (H2 := H9)
  rw [RU_len] at hl8
  simp only [Int.cast_ofNat_Int] at hl8
  have z1 : ((2 : Int) = 2) = True := by simp
  have z2 : ((101 : Int) = 101) = True := by simp
  have z3 : ((225 : Int) = 225) = True := by simp
  have z4 : ((262 : Int) = 262) = True := by simp
  simp only [WA, isStore, isCall, isK, freshI, stampO, List.nil_append, Option.map_some, Option.map_none, Option.bind_some, List.map_cons, List.map_nil, if_true, if_false, Nat.reduceEqDiff, Int.reduceEq, Nat.reduceAdd, Nat.reduceMul, reduceCtorEq, eq_self, Int.reduceLT, Int.reduceLE, Int.reduceToNat, List.length_cons, List.length_nil, List.all_cons, List.all_nil, List.take_zero, List.drop_nil, List.append_nil, List.getElem?_cons_zero, List.getElem?_cons_succ, List.drop_succ_cons, List.drop_zero, List.take_succ_cons, List.cons_append, Nat.reduceLeDiff, Int.cast_ofNat_Int, c1, hst1, ← hH2, g2, c3, c4, hst4, ← hH5, g5, hl3, d0, e0, d1, e1, c6, v7, c7, c8, hl8, z1, z2, z3, z4]
  exact ((((x1.trans x2).trans x3).trans (x4.trans x5)).trans (x6.trans x7)).trans x8
end Go.Proofs.Ytfhchimfdlhmaaa

/-! Layer 13: vni's rules: plain facts. -/
set_option linter.unusedSimpArgs false
set_option linter.unusedVariables false
namespace Go.Proofs.Ytfhchimfdlhmaaa
open Go Lon
set_option maxRecDepth 100000
/-- Units as one number. -/
def key : List Int → Nat
  | [] => 0
  | u :: l => u.toNat + 1 + 2000000 * key l
def noneB (k : Nat) : List Nat → Bool
  | [] => true
  | a :: l => cond (Nat.beq a k) false (noneB k l)
def distB : List Nat → Bool
  | [] => true
  | a :: l => cond (noneB a l) (distB l) false
theorem noneB_spec {k : Nat} : ∀ {l : List Nat}, noneB k l = true → k ∉ l
  | [], _, h => by cases h
  | a :: l, h, hm => by
    unfold noneB at h
    cases hb : Nat.beq a k with
    | true => rw [hb] at h; cases h
    | false =>
      rw [hb] at h
      rcases List.mem_cons.1 hm with e | hm
      · subst e; rw [Nat.beq_refl] at hb; cases hb
      · exact noneB_spec h hm
theorem distB_spec : ∀ {l : List Nat}, distB l = true → l.Nodup
  | [], _ => List.nodup_nil
  | a :: l, h => by
    unfold distB at h
    cases hb : noneB a l with
    | true => rw [hb] at h; exact List.nodup_cons.2 ⟨noneB_spec hb, distB_spec h⟩
    | false => rw [hb] at h; cases h
theorem nodup_of {α : Type} {f : α → Nat} {l : List α} (h : (l.map f).Nodup) : l.Nodup := List.Pairwise.of_map f (fun a b hne e => hne (congrArg f e)) h
theorem pair_good {L : List Rl} (hs : L.all (fun r => sideB r.1 && sideB r.2) = true) (hd : (L.map (·.1)).Nodup) : Right L := by
  refine ⟨fun r hr => by simpa using List.all_eq_true.1 hs r hr, fun k r hr => ?_⟩
  rw [fnd_neg]
  intro x hx e
  obtain ⟨i, hi, rfl⟩ := List.getElem_of_mem hx
  obtain ⟨hk, rfl⟩ := List.getElem?_eq_some_iff.1 hr
  rw [List.length_take] at hi
  rw [List.getElem_take] at e
  have := (List.pairwise_iff_getElem.1 hd) i k (by rw [List.length_map]; omega) (by rw [List.length_map]; exact hk) (by omega)
  rw [List.getElem_map, List.getElem_map] at this
  exact this e
/-- Rules each of which has an Out of its own, the other way round. -/
theorem trn_all : ∀ {L T : List Rl}, ((T.map (·.1)) ++ L.map (·.2)).Nodup → trn L T = T ++ L.map fun r => (r.2, r.1)
  | [], T, _ => by simp [trn]
  | r :: L, T, h => by
    unfold trn
    have hn : fnd T r.2 < 0 := by
      rw [fnd_neg]
      intro x hx e
      rw [List.map_cons] at h
      have := (List.nodup_append.1 h).2.2 x.1 (List.mem_map.2 ⟨x, hx, rfl⟩) r.2 (List.mem_cons_self ..)
      exact this e
    rw [if_pos hn, trn_all (by rw [List.map_append, List.map_singleton, List.append_assoc]; simpa using h)]
    simp
theorem RU_side : RU.all (fun r => sideB r.1 && sideB r.2) = true := by kernel_rfl
theorem RU_ins : (RU.map (·.1)).Nodup := nodup_of (f := key) (distB_spec (by kernel_rfl))
theorem RU_outs : (RU.map (·.2)).Nodup := nodup_of (f := key) (distB_spec (by kernel_rfl))
theorem RU_right : Right RU := pair_good RU_side RU_ins
theorem RU_trn : trn RU [] = RU.map fun r => (r.2, r.1) := by
  have := trn_all (L := RU) (T := []) (by simpa using RU_outs)
  rwa [List.nil_append] at this
theorem RU_lg : lg RU 0 = 2 := by kernel_rfl
theorem RU_lg2 : lg (RU.map fun r => (r.2, r.1)) 0 = 1 := by kernel_rfl
theorem RT_side : (RU.map fun r => (r.2, r.1)).all (fun r => sideB r.1 && sideB r.2) = true := by kernel_rfl
theorem RT_right : Right (RU.map fun r => (r.2, r.1)) := pair_good RT_side (by rw [List.map_map]; exact RU_outs)
/-- The second bytes. -/
def S2 : List Int := [248, 249, 251, 245, 239, 234, 232, 233, 250, 252, 235, 226, 224, 225, 229, 227, 228, 216, 217, 219, 213, 207, 202, 200, 201, 218, 220, 203, 194, 192, 193, 197, 195, 196]
def sepB (r : Rl) : Bool := match r.1 with
  | [a] => S2.all fun c => decide (a ≠ c)
  | [a, b] => (S2.all fun c => decide (a ≠ c)) && S2.any fun c => decide (b = c)
  | _ => false
theorem RU_sep : RU.all sepB = true := by kernel_rfl
/-- A rule's bytes: a first one, and none, or one, that is no first one. -/
theorem sep_of {r : Rl} (hr : r ∈ RU) : ∃ a t, r.1 = a :: t ∧ a ∉ S2 ∧ (t = [] ∨ ∃ b, t = [b] ∧ b ∈ S2) := by
  have h := List.all_eq_true.1 RU_sep r hr
  unfold sepB at h
  split at h
  · rename_i a he
    refine ⟨a, [], he, fun hm => ?_, .inl rfl⟩
    have := List.all_eq_true.1 h a hm
    simp at this
  · rename_i a b he
    rw [Bool.and_eq_true, List.any_eq_true] at h
    obtain ⟨h1, c, h2, h3⟩ := h
    rw [decide_eq_true_eq] at h3
    refine ⟨a, [b], he, fun hm => ?_, .inr ⟨b, rfl, by rw [h3]; exact h2⟩⟩
    have := List.all_eq_true.1 h1 a hm
    simp at this
  · cases h
theorem lgs_sep {r : Rl} {P : List Rl} (hr : r ∈ RU) (hP : ∀ x ∈ P, x ∈ RU) : (lgs RU (r.1 ++ P.flatMap (·.1))).1 = fnd RU r.1 ∧ (lgs RU (r.1 ++ P.flatMap (·.1))).2.1 = r.1.length := by
  obtain ⟨a, t, he, ha, ht⟩ := sep_of hr
  have hfr : 0 ≤ fnd RU r.1 := by
    obtain ⟨j, hj, hjr⟩ := List.getElem_of_mem hr
    rw [fnd_at RU_right.2 (show RU[j]? = some r by rw [List.getElem?_eq_getElem hj, hjr])]
    omega
  have hl : 0 < r.1.length := by rw [he]; simp
  refine (lgs_pre RU_right _).1.uniq ⟨by rw [List.length_append]; omega, fun h => by omega, fun _ => ⟨by rw [List.take_left], hfr⟩, fun m h1 h2 => ?_⟩
  rcases (by omega : fnd RU ((r.1 ++ P.flatMap (·.1)).take m) < 0 ∨ 0 ≤ fnd RU ((r.1 ++ P.flatMap (·.1)).take m)) with h | h
  · exact h
  · exfalso
    obtain ⟨x, hx1, hx2⟩ := fnd_some h
    have hxm := List.mem_of_getElem? hx1
    obtain ⟨a', t', he', ha', ht'⟩ := sep_of hxm
    have hxl : x.1.length = m := by rw [hx2, List.length_take]; omega
    rcases ht' with rfl | ⟨b, rfl, hb⟩
    · rw [he'] at hxl; simp at hxl; omega
    · rw [he'] at hxl
      simp at hxl
      have ht0 : t = [] := by
        rcases ht with rfl | ⟨c, rfl, _⟩
        · rfl
        · rw [he] at h1; simp at h1; omega
      subst ht0
      cases P with
      | nil => rw [he] at h2; simp at h2; omega
      | cons y P =>
        obtain ⟨c, u, hc, hcn, _⟩ := sep_of (hP y (List.mem_cons_self ..))
        rw [he'] at hx2
        rw [← hxl, he, List.flatMap_cons, hc] at hx2
        simp at hx2
        exact hcn (by rw [← hx2.2]; exact hb)
theorem read_sep : ∀ (P : List Rl) (a : Int), (∀ x ∈ P, x ∈ RU) → whole (allU RU (P.flatMap (·.1)) a) ∧ outs (allU RU (P.flatMap (·.1)) a) = P.flatMap (·.2)
  | [], a, _ => ⟨fun t h => (by cases h), rfl⟩
  | r :: P, a, hP => by
    have hr := hP r (List.mem_cons_self ..)
    have hP' : ∀ x ∈ P, x ∈ RU := fun x hx => hP x (List.mem_cons_of_mem _ hx)
    obtain ⟨h1, h2⟩ := lgs_sep hr hP'
    obtain ⟨j, hjl, hjr⟩ := List.getElem_of_mem hr
    have hgj : RU[j]? = some r := by rw [List.getElem?_eq_getElem hjl, hjr]
    have hfj := fnd_at RU_right.2 hgj
    have hR := RU_right
    have h0 := (side_len (hR.1 r hr).1).1
    have hne : r.1 ++ P.flatMap (·.1) ≠ [] := fun e => by rw [(List.append_eq_nil_iff.1 e).1] at h0; simp at h0
    have hone : oneT RU (r.1 ++ P.flatMap (·.1)) a = ⟨a, r.1.length, r.2, 0⟩ := by
      unfold oneT
      rw [h1, h2, hfj, if_neg (by omega)]
      simp only [Int.toNat_natCast, hgj]
    obtain ⟨w1, w2⟩ := read_sep P (a + r.1.length) hP'
    rw [List.flatMap_cons, allU_cons hR hne, hone]
    simp only [Int.toNat_natCast, List.drop_left]
    refine ⟨fun t ht => ?_, ?_⟩
    · rcases List.mem_cons.1 ht with rfl | ht
      · rfl
      · exact w1 t ht
    · unfold outs at w2 ⊢
      rw [List.flatMap_cons, List.flatMap_cons, w2]
/-- The numbers below 128 have rules of their own. -/
theorem low_all : (List.range 128).all (fun c => RU.any fun r => decide (r = ([(c : Int)], [(c : Int)]))) = true := by kernel_rfl
theorem low_in {c : Nat} (h : c < 128) : (([(c : Int)], [(c : Int)]) : Rl) ∈ RU := by
  have := List.all_eq_true.1 low_all c (List.mem_range.2 h)
  rw [List.any_eq_true] at this
  obtain ⟨r, h1, h2⟩ := this
  rw [decide_eq_true_eq] at h2
  rw [← h2]
  exact h1
end Go.Proofs.Ytfhchimfdlhmaaa

/-! Bytes, read from memory. -/
set_option linter.unusedSimpArgs false
set_option linter.unusedVariables false
namespace Go.Proofs.Ytfhchimfdlhmaaa
open Go Lon
set_option maxRecDepth 100000
def bytes (l : List Int) : Prop := ∀ u ∈ l, 0 ≤ u ∧ u < 256
theorem op_u8s : Opener Try.prog 48 1 (List Int) (qSlice Try.prog 1 1 (qInt .u8)) := Opener.slice (Opener.int Try.underlying5) (qInt_mono _) Try.underlying48 (by kernel_rfl) (by kernel_rfl) (by decide) (by kernel_rfl)
abbrev qB : AHeap → List Value → List Int → Prop := qSlice Try.prog 1 1 (qInt .u8)
theorem bytes_of {L : List Int} (h : ∀ n ∈ L, (Lit.int .u8 n).wf = true) : bytes L := fun u hu => by
  have := h u hu
  simp [Lit.wf, IntKind.min, IntKind.max, IntKind.signed, IntKind.bits] at this
  omega
theorem reach_lt {n b : Nat} (h : n * b ≤ reachBytes) (hb : 0 < b) : n < 4611686018427387904 := by
  have h1 : n ≤ n * b := Nat.le_mul_of_pos_right _ hb
  unfold reachBytes at h
  omega
theorem bytes_at {H : AHeap} {acs : List Value} {L : List Int} (h : qB H acs L) : ∃ v, acs = [v] ∧ Nums H .u8 v L ∧ Cut Try.prog H v 1 ∧ bytes L ∧ tiny L := by
  obtain ⟨v, h1, h2, h3, h4, h5⟩ := qSlice_nums h
  exact ⟨v, h1, h2, h3, bytes_of h5, reach_lt h4 (by decide)⟩
def U8s (H : AHeap) (v : Value) (L : List Int) : Prop := Nums H .u8 v L ∧ Cut Try.prog H v 1 ∧ bytes L ∧ tiny L
theorem U8s.ext {H H' : AHeap} (hx : Ext H H') {v : Value} {L : List Int} (h : U8s H v L) : U8s H' v L := ⟨h.1.ext hx, h.2.1.ext hx, h.2.2⟩
theorem u8s_of {H : AHeap} {acs : List Value} {L : List Int} (h : qB H acs L) : ∃ v, acs = [v] ∧ U8s H v L := bytes_at h
theorem slice_cells {W : World} {b : Nat} {t e : TypeId} {v : Value} (ht : Try.prog.underlying t = some (.slice e)) (hv : Value.okWide Try.prog W .any b t v) : v.cells.toList = [v] := by
  unfold Value.okWide at hv
  rw [ht] at hv
  simp only at hv
  unfold Cell.okWide at hv
  rw [ht] at hv
  cases v <;> first | rfl | (simp [Cell.ok, ht] at hv)
theorem v_nilp {H : AHeap} {t : Nat} : vIsNil 0 false (.pointer (some ⟨t, 0, none⟩)) H = some (.bool false, H) := rfl
theorem min_of {m n : Nat} : ∃ k : Nat, k ≤ n ∧ k ≤ m ∧ (if (m : Int) < (n : Int) then (m : Int) else (n : Int)) = (k : Int) := by
  refine ⟨min n m, Nat.min_le_left _ _, Nat.min_le_right _ _, ?_⟩
  split <;> omega
/-- Two slices of one's own lie apart. -/
def Dis (v w : Value) : Prop := ∀ i, ¬ NotAt v i → NotAt w i
theorem Dis.sym {v w : Value} (h : Dis v w) : Dis w v := fun i hi => Classical.byContradiction fun hn => hi (h i hn)
theorem Dis.nil {w : Value} : Dis (.slice none 0 0) w := fun i hi => absurd trivial hi
theorem Dis.new {H : AHeap} {el : TypeId} {sz n : Nat} {v w : Value} {cs : List Value} (hf : From H.n v) (h : Own H el sz w n cs) : Dis v w := fun i hi => by
  rcases Nat.lt_or_ge i H.n with hl | hg
  · exact absurd (NotAt.of_from hf hl) hi
  · exact h.notAt hg
theorem Own.apart {H H' : AHeap} {el : TypeId} {sz n : Nat} {v w : Value} {cs : List Value} (h : Own H el sz w n cs) (hd : Dis v w) (hk : ∀ i, i < H.n → NotAt v i → H'.get i = H.get i) : Own H' el sz w n cs := by
  obtain ⟨h0, h1 | ⟨b, ver, anc, rfl, h2, hg⟩⟩ := h
  · exact ⟨h0, .inl h1⟩
  · refine ⟨h0, .inr ⟨b, ver, anc, rfl, h2, ?_⟩⟩
    rw [hk b (AHeap.lt_of_get hg) (Classical.byContradiction fun hn => hd b hn rfl)]
    exact hg
theorem OwnI.add3 {H0 H : AHeap} {v x : Value} {l m : List Int} (ho : OwnI H v l) (hf : From H0.n v) (hx : Ext H0 H) (hi : Ints H x m) (hm : m ≠ []) (hs : l.length + m.length < 10000000000) :
    ∃ v' H', appendA H v x 3 1 8 = some (v', H') ∧ OwnI H' v' (l ++ m) ∧ From H.n v' ∧ Ext H0 H' ∧ H.n ≤ H'.n ∧ ∀ i, i < H.n → NotAt v i → H'.get i = H.get i := by
  obtain ⟨v2, H2, q1, q2, q3, q4, q5, q6⟩ := Own.append2 (bytes := 8) ho hi (List.length_pos_iff.2 hm) (ones_ints m) (by omega)
  refine ⟨v2, H2, q1, ?_, q3, Ext.grow hx q5 q6 hf, q5, q6⟩
  unfold OwnI
  rw [List.length_append]
  have : ints l ++ ints m = ints (l ++ m) := by simp [Lon.ints]
  rw [← this]
  exact q2
/-- The rule that a byte draws. -/
def ru (u : Int) : Rl := RU.getD (u % 262).toNat ([], [])
theorem ru_get {u : Int} (h : 0 ≤ u) : RU[(u % 262).toNat]? = some (ru u) := by
  have : (u % 262).toNat < RU.length := by rw [RU_len]; omega
  unfold ru
  rw [List.getD_eq_getElem?_getD, List.getElem?_eq_getElem this]
  rfl
theorem ru_in {u : Int} (h : 0 ≤ u) : ru u ∈ RU := List.mem_of_getElem? (ru_get h)
theorem rem262 {u : Int} (h : 0 ≤ u) : intOp .rem .i64 u 262 = some (.int .i64 ((u % 262).toNat : Nat)) := by
  simp only [intOp]
  rw [if_neg (by decide), Int.tmod_eq_emod_of_nonneg h]
  congr 2
  omega
def Pq0 (H0 : AHeap) (l : List Int) (z4 : Value) (y : AEx) (e' : Env) (H' : AHeap) : Prop := y = .exit 0 ∧ eget e' 4 = z4 ∧ OwnI H' (eget e' 6) (l.flatMap fun u => (ru u).1) ∧ OwnI H' (eget e' 7) (l.flatMap fun u => (ru u).2) ∧ Ext H0 H'
theorem fl_len {f : Int → List Int} : ∀ {l : List Int}, (∀ u ∈ l, (f u).length ≤ 8) → (l.flatMap f).length ≤ 8 * l.length
  | [], _ => by simp
  | u :: l, h => by
    have h1 := h u (List.mem_cons_self ..)
    have h2 := fl_len (l := l) fun x hx => h x (List.mem_cons_of_mem _ hx)
    rw [List.flatMap_cons, List.length_append, List.length_cons]
    omega
theorem l_q0 {H0 : AHeap} {z4 w x : Value} {l : List Int} (hr : Rules H0 w RU) (hi : Nums H0 .u8 x l) (hb : bytes l) (hl : l.length ≤ 40) : ∀ (c k : Nat) (H : AHeap) (us ws : Value), k + c = l.length → Ext H0 H → OwnI H us ((l.take k).flatMap fun u => (ru u).1) → OwnI H ws ((l.take k).flatMap fun u => (ru u).2) → From H0.n us → From H0.n ws → Dis us ws →
    Out (run Try.prog (tabF tab) om1 (.loop [3, 4, 6, 7, 36, 37, 38] b_lontarlaw13_VniReads_0) [(3, w), (4, z4), (6, us), (7, ws), (36, x), (37, .int .i64 l.length), (38, .int .i64 k)] H) (Pq0 H0 l z4) := by
  intro c
  induction c with
  | zero =>
    intro k H us ws hk hx ho hp hf hg hd
    obtain rfl : k = l.length := by omega
    have z : (((l.length : Nat) : Int) < (l.length : Nat)) = False := by simp
    rw [w_loop_b b_lontarlaw13_VniReads_0.eq_1]
    simp only [WA, isStore, isCall, isK, freshI, stampO, List.nil_append, Option.map_some, Option.map_none, Option.bind_some, List.map_cons, List.map_nil, if_true, if_false, Nat.reduceEqDiff, Int.reduceEq, Nat.reduceAdd, Nat.reduceMul, reduceCtorEq, eq_self, Int.reduceLT, Int.reduceLE, Int.reduceToNat, List.length_cons, List.length_nil, List.all_cons, List.all_nil, List.take_zero, List.drop_nil, List.append_nil, List.getElem?_cons_zero, List.getElem?_cons_succ, List.drop_succ_cons, List.drop_zero, List.take_succ_cons, List.cons_append, Nat.reduceLeDiff, Int.cast_ofNat_Int, z]
    rw [List.take_of_length_le (Nat.le_refl _)] at ho hp
    exact ⟨rfl, rfl, ho, hp, hx⟩
  | succ c ih =>
    intro k H us ws hk hx ho hp hf hg hd
    have hlt : ((k : Int) < (l.length : Nat)) = True := eq_true (by omega)
    obtain ⟨u, hu, _⟩ := drop_at (L := l) (i := k) (by omega)
    have hub := hb u (List.mem_of_getElem? hu)
    obtain ⟨i0, o0, a0, b0⟩ := (hi.ext hx).at hu
    have hw : IntKind.i64.wrap u = u := wrap64 (by omega) (by omega)
    have hw2 : IntKind.i64.wrap ((k : Int) + 1) = ((k + 1 : Nat) : Int) := by rw [wrap64 (by omega) (by omega)]; omega
    have r262 := rem262 hub.1
    have hlr := fun H9 => hr.len (H2 := H9)
    rw [RU_len] at hlr
    simp only [Int.cast_ofNat_Int] at hlr
    have hur := ru_get hub.1
    obtain ⟨s1, s2⟩ := RU_right.1 _ (ru_in hub.1)
    have s1 := side_len s1
    have s2 := side_len s2
    have hfl : ∀ v ∈ l.take k, (ru v).1.length ≤ 8 := fun v hv => (side_len (RU_right.1 _ (ru_in (hb v (List.mem_of_mem_take hv)).1)).1).2
    have hfl2 : ∀ v ∈ l.take k, (ru v).2.length ≤ 8 := fun v hv => (side_len (RU_right.1 _ (ru_in (hb v (List.mem_of_mem_take hv)).1)).2).2
    have hfl := fl_len hfl
    have hfl2 := fl_len hfl2
    rw [List.length_take] at hfl hfl2
    obtain ⟨i1, o1, vi, vo, h1, _, _, h4, h5, h6, h7, h8⟩ := hr.at hur
    have h5' := h5
    have h6' := h6
    obtain ⟨⟨ai, ci, rfl⟩, _⟩ := h5'
    obtain ⟨⟨ao, co, rfl⟩, _⟩ := h6'
    have h4 := got_ext hx h4
    obtain ⟨H1, hH1⟩ : ∃ H1, H1 = H.push ⟨[.slice ai (ru u).1.length ci, .slice ao (ru u).2.length co], 46, .tip, 1, []⟩ := ⟨_, rfl⟩
    have x1 : Ext H H1 := by rw [hH1]; exact Ext.push H _
    have g1 : H1.get H.n = some ⟨[.slice ai (ru u).1.length ci, .slice ao (ru u).2.length co], 46, .tip, 1, []⟩ := by rw [hH1]; exact get_push_self
    have n1 : H1.n = H.n + 1 := by rw [hH1]; exact AHeap.n_push ..
    have ht1 : (l.take (k + 1)).flatMap (fun u => (ru u).1) = (l.take k).flatMap (fun u => (ru u).1) ++ (ru u).1 := by rw [List.take_add_one, hu]; simp
    have ht2 : (l.take (k + 1)).flatMap (fun u => (ru u).2) = (l.take k).flatMap (fun u => (ru u).2) ++ (ru u).2 := by rw [List.take_add_one, hu]; simp
    obtain ⟨us', H2, m1, m2, m3, m4, m5, m6⟩ := OwnI.add3 (ho.ext x1) hf (hx.trans x1) (h5.ext (hx.trans x1)) (List.length_pos_iff.1 s1.1) (by omega)
    have g2 : H2.get H.n = some ⟨[.slice ai (ru u).1.length ci, .slice ao (ru u).2.length co], 46, .tip, 1, []⟩ := by
      rw [m6 H.n (by omega) (ho.notAt (Nat.le_refl _))]
      exact g1
    have hp2 : OwnI H2 ws ((l.take k).flatMap fun u => (ru u).2) := Own.apart (hp.ext x1) hd m6
    have hd2 : Dis us' ws := Dis.new m3 (hp.ext x1)
    obtain ⟨ws', H3, q1, q2, q3, q4, q5, q6⟩ := OwnI.add3 hp2 hg m4 (h6.ext m4) (List.length_pos_iff.1 s2.1) (by omega)
    rw [← ht1] at m2
    rw [← ht2] at q2
    have m23 : OwnI H3 us' ((l.take (k + 1)).flatMap fun u => (ru u).1) := Own.apart m2 hd2.sym q6
    have hd3 : Dis us' ws' := (Dis.new q3 m2).sym
    have hn0 := hx.1
    obtain ⟨y, e', H', r1, r2⟩ := ih (k + 1) H3 us' ws' (by omega) q4 m23 q2 (m3.mono (by omega)) (q3.mono (by omega)) hd3
    rw [w_loop_b b_lontarlaw13_VniReads_0.eq_1]
    simp only [WA, isStore, isCall, isK, freshI, stampO, List.nil_append, Option.map_some, Option.map_none, Option.bind_some, List.map_cons, List.map_nil, if_true, if_false, Nat.reduceEqDiff, Int.reduceEq, Nat.reduceAdd, Nat.reduceMul, reduceCtorEq, eq_self, Int.reduceLT, Int.reduceLE, Int.reduceToNat, List.length_cons, List.length_nil, List.all_cons, List.all_nil, List.take_zero, List.drop_nil, List.append_nil, List.getElem?_cons_zero, List.getElem?_cons_succ, List.drop_succ_cons, List.drop_zero, List.take_succ_cons, List.cons_append, Nat.reduceLeDiff, Int.cast_ofNat_Int, hlt, a0, b0, hw, hlr, r262, h1, h4, ← hH1, g1, m1, g2, q1, hw2]
    rw [w_enter]
    simp only [WA, isStore, isCall, isK, freshI, stampO, List.nil_append, Option.map_some, Option.map_none, Option.bind_some, List.map_cons, List.map_nil, if_true, if_false, Nat.reduceEqDiff, Int.reduceEq, Nat.reduceAdd, Nat.reduceMul, reduceCtorEq, eq_self, Int.reduceLT, Int.reduceLE, Int.reduceToNat, List.length_cons, List.length_nil, List.all_cons, List.all_nil, List.take_zero, List.drop_nil, List.append_nil, List.getElem?_cons_zero, List.getElem?_cons_succ, List.drop_succ_cons, List.drop_zero, List.take_succ_cons, List.cons_append, Nat.reduceLeDiff, Int.cast_ofNat_Int, r1]
    exact r2
theorem law_Reads {b : Value} {l : List Int} {H : AHeap} (hb : U8s H b l) : Gives (cw Try.prog (tabF tab) om1 7 [b] H) fun v H' => v = .bool true := by
  obtain ⟨hb, hbc, hbb, hbt⟩ := hb
  rw [cw_run (F := F_lontarlaw13_VniReads) rfl rfl rfl]
  unfold F_lontarlaw13_VniReads k_lontarlaw13_VniReads
  obtain ⟨v1, H1, c1, x1, rfl⟩ := c_awake (H := H)
  obtain ⟨v2, H2, c2, x2, r2, k2⟩ := c_Rules (H := H1)
  obtain ⟨v3, H3, c3, x3, t, rfl, hT⟩ := c_OfT r2 k2 RU_right (by rw [RU_len]; omega)
  have x03 := (x1.trans x2).trans x3
  have hlr := fun H9 => r2.len (H2 := H9)
  rw [RU_len] at hlr
  simp only [Int.cast_ofNat_Int] at hlr
  obtain ⟨k, hk1, hk2, hk3⟩ := min_of (m := 40) (n := l.length)
  simp only [Int.cast_ofNat_Int] at hk3
  obtain ⟨b', s1, s2, s3⟩ := (hb.ext x03).take (hbc.ext x03) hk1
  have s1' := s1 .i64
  have hlb := fun H2 => Sl.len (H2 := H2) hb
  have hll : (l.take k).length ≤ 40 := by rw [List.length_take]; omega
  have hl2 := fun H2 => Nums.len (H2 := H2) s2
  have hby : bytes (l.take k) := fun u hu => hbb u (List.mem_of_mem_take hu)
  obtain ⟨y, e4, H4, p1, rfl, p2, p3, p4, x4⟩ := l_q0 (z4 := .pointer (some ⟨t, 0, none⟩)) (r2.ext x3) s2 hby hll (l.take k).length 0 H3 (.slice none 0 0) (.slice none 0 0) (by omega) (Ext.refl _) OwnI.nil OwnI.nil trivial trivial Dis.nil
  rw [show ((0 : Nat) : Int) = 0 from rfl] at p1
  have hP : ∀ r ∈ (l.take k).map ru, r ∈ RU := fun r hr => by
    obtain ⟨u, hu, rfl⟩ := List.mem_map.1 hr
    exact ru_in (hby u hu).1
  obtain ⟨w1, w2⟩ := read_sep ((l.take k).map ru) 0 hP
  have e1 : ((l.take k).map ru).flatMap (·.1) = (l.take k).flatMap fun u => (ru u).1 := by rw [List.flatMap_map]
  have e2 : ((l.take k).map ru).flatMap (·.2) = (l.take k).flatMap fun u => (ru u).2 := by rw [List.flatMap_map]
  rw [e1] at w1 w2
  rw [e2] at w2
  have hf1 : ((l.take k).flatMap fun u => (ru u).1).length ≤ 8 * (l.take k).length := fl_len fun v hv => (side_len (RU_right.1 _ (ru_in (hby v hv).1)).1).2
  have hf2 : ((l.take k).flatMap fun u => (ru u).2).length ≤ 8 * (l.take k).length := fl_len fun v hv => (side_len (RU_right.1 _ (ru_in (hby v hv).1)).2).2
  obtain ⟨v5, H5, c5, x5, y5, _, _⟩ := c_AllR (hT.ext x4) p3.asI p3.cutI (by omega)
  obtain ⟨T, hTT⟩ : ∃ T, T = allU RU ((l.take k).flatMap fun u => (ru u).1) 0 := ⟨_, rfl⟩
  rw [← hTT] at w1 w2 y5
  obtain ⟨v6, H6, c6, x6, vo, pp, kk, rfl, o6, _, _⟩ := c_UT y5.rws (by rw [w2]; omega)
  obtain ⟨H7, hH7⟩ : ∃ H7, H7 = H6.push ⟨tokC pp kk (fstB tok0 T), 53, .tip, 1, []⟩ := ⟨_, rfl⟩
  have x7 : Ext H6 H7 := by rw [hH7]; exact Ext.push H6 _
  have g7 : H7.get H6.n = some ⟨tokC pp kk (fstB tok0 T), 53, .tip, 1, []⟩ := by rw [hH7]; exact get_push_self
  have hz : ([.int .i64 0, .int .i64 0, .slice none 0 0, .int .i64 0] : List Value) = tokC none 0 tok0 := rfl
  have he : (fstB tok0 T).err = 0 := by rw [fstB_whole w1]; rfl
  have he' : ((fstB tok0 T).err = 0) = True := eq_true he
  have cU := c_Units (o6.asI.ext x7) (p4.asI.ext ((x5.trans x6).trans x7)) (by rw [w2]; omega)
  rw [w2, decide_eq_true rfl] at cU
  have z : ((0 : Int) ≠ 0) = False := by simp
  have z2 : ((262 : Int) = 0) = False := by simp
  simp only [WA, isStore, isCall, isK, freshI, stampO, List.nil_append, Option.map_some, Option.map_none, Option.bind_some, List.map_cons, List.map_nil, if_true, if_false, Nat.reduceEqDiff, Int.reduceEq, Nat.reduceAdd, Nat.reduceMul, reduceCtorEq, eq_self, Int.reduceLT, Int.reduceLE, Int.reduceToNat, List.length_cons, List.length_nil, List.all_cons, List.all_nil, List.take_zero, List.drop_nil, List.append_nil, List.getElem?_cons_zero, List.getElem?_cons_succ, List.drop_succ_cons, List.drop_zero, List.take_succ_cons, List.cons_append, Nat.reduceLeDiff, Int.cast_ofNat_Int, c1, c2, c3, v_nilp, z, hlr, z2, hlb, hk3, s1', hl2]
  rw [w_enter]
  simp only [WA, isStore, isCall, isK, freshI, stampO, List.nil_append, Option.map_some, Option.map_none, Option.bind_some, List.map_cons, List.map_nil, if_true, if_false, Nat.reduceEqDiff, Int.reduceEq, Nat.reduceAdd, Nat.reduceMul, reduceCtorEq, eq_self, Int.reduceLT, Int.reduceLE, Int.reduceToNat, List.length_cons, List.length_nil, List.all_cons, List.all_nil, List.take_zero, List.drop_nil, List.append_nil, List.getElem?_cons_zero, List.getElem?_cons_succ, List.drop_succ_cons, List.drop_zero, List.take_succ_cons, List.cons_append, Nat.reduceLeDiff, Int.cast_ofNat_Int, p1, p2, c5, c6, got_tok, ← hH7, g7, tk3, he', cU]
end Go.Proofs.Ytfhchimfdlhmaaa

/-! Layer 13: bytes of ASCII are themselves. -/
set_option linter.unusedSimpArgs false
set_option linter.unusedVariables false
namespace Go.Proofs.Ytfhchimfdlhmaaa
open Go Lon
set_option maxRecDepth 100000
/-- A byte's lower half. -/
noncomputable def andV (w u : Value) : Option Value := if ground u = true then
    match pureRun Try.prog (do eqGuard .and 5 (.tmp 0) (.const w) u w; Next.value <$> binOp .and 5 u w) with
    | some (.value v) => if ground v = true then some v else none
    | _ => none
  else none
theorem st_and {cf : CallF} {e : Env} {H : AHeap} {i : Nat} {w : Value} (hw : ground w = true) : stepA Try.prog cf e H (.gen ⟨none, (.binOp .and 5 (.tmp i) (.const w) 5), 5, "", #[], none⟩) = (andV w (ev e (.tmp i))).map fun v => (v, H) := by
  simp [stepA, pureA, andV, runG, execOp, Op.operands, ev, hw]
  rfl
def sameV (v : Option Value) (k : Nat) : Bool := match v with
  | some (.int .u8 m) => decide (m = (k : Int))
  | _ => false
theorem same_of {v : Option Value} {k : Nat} (h : sameV v k = true) : v = some (.int .u8 k) := by
  unfold sameV at h
  split at h
  · rw [decide_eq_true_eq] at h
    rw [h]
  · cases h
theorem and_all : (List.range 256).all (fun m => sameV (andV (.int .u8 127) (.int .u8 (m : Nat))) (m % 128)) = true := by kernel_rfl
theorem and_is {u : Int} (h : 0 ≤ u ∧ u < 256) : andV (.int .u8 127) (.int .u8 u) = some (.int .u8 (u % 128)) := by
  obtain ⟨m, rfl⟩ : ∃ m : Nat, u = m := ⟨u.toNat, by omega⟩
  exact same_of (List.all_eq_true.1 and_all m (List.mem_range.2 (by omega)))
def Pa0 (H0 : AHeap) (l : List Int) (z3 : Value) (y : AEx) (e' : Env) (H' : AHeap) : Prop := y = .exit 0 ∧ eget e' 3 = z3 ∧ OwnI H' (eget e' 5) (l.map fun u => u % 128) ∧ Ext H0 H'
theorem l_a0 {H0 : AHeap} {z3 x : Value} {l : List Int} (hi : Nums H0 .u8 x l) (hb : bytes l) (hl : l.length ≤ 60) : ∀ (c k : Nat) (H : AHeap) (us : Value), k + c = l.length → Ext H0 H → OwnI H us ((l.take k).map fun u => u % 128) → From H0.n us →
    Out (run Try.prog (tabF tab) om1 (.loop [3, 5, 27, 28, 29] b_lontarlaw13_VniAscii_0) [(3, z3), (5, us), (27, x), (28, .int .i64 l.length), (29, .int .i64 k)] H) (Pa0 H0 l z3) := by
  intro c
  induction c with
  | zero =>
    intro k H us hk hx ho hf
    obtain rfl : k = l.length := by omega
    have z : (((l.length : Nat) : Int) < (l.length : Nat)) = False := by simp
    rw [w_loop_b b_lontarlaw13_VniAscii_0.eq_1]
    simp only [WA, isStore, isCall, isK, freshI, stampO, List.nil_append, Option.map_some, Option.map_none, Option.bind_some, List.map_cons, List.map_nil, if_true, if_false, Nat.reduceEqDiff, Int.reduceEq, Nat.reduceAdd, Nat.reduceMul, reduceCtorEq, eq_self, Int.reduceLT, Int.reduceLE, Int.reduceToNat, List.length_cons, List.length_nil, List.all_cons, List.all_nil, List.take_zero, List.drop_nil, List.append_nil, List.getElem?_cons_zero, List.getElem?_cons_succ, List.drop_succ_cons, List.drop_zero, List.take_succ_cons, List.cons_append, Nat.reduceLeDiff, Int.cast_ofNat_Int, z]
    rw [List.take_of_length_le (Nat.le_refl _)] at ho
    exact ⟨rfl, rfl, ho, hx⟩
  | succ c ih =>
    intro k H us hk hx ho hf
    have hlt : ((k : Int) < (l.length : Nat)) = True := eq_true (by omega)
    obtain ⟨u, hu, _⟩ := drop_at (L := l) (i := k) (by omega)
    have hub := hb u (List.mem_of_getElem? hu)
    obtain ⟨i0, o0, a0, b0⟩ := (hi.ext hx).at hu
    have hw : IntKind.i64.wrap (u % 128) = u % 128 := wrap64 (by omega) (by omega)
    have hw2 : IntKind.i64.wrap ((k : Int) + 1) = ((k + 1 : Nat) : Int) := by rw [wrap64 (by omega) (by omega)]; omega
    have ha := and_is hub
    have hg : ground (.int .u8 127) = true := rfl
    have ht1 : (l.take (k + 1)).map (fun u => u % 128) = (l.take k).map (fun u => u % 128) ++ [u % 128] := by rw [List.take_add_one, hu]; simp
    obtain ⟨H2, vi, x2, i2⟩ := new_one (H := H) (a := u % 128)
    obtain ⟨us', H3, m1, m2, m3, m4⟩ := OwnI.add (ho.ext x2) hf (hx.trans x2) i2 (by simp; omega)
    rw [← ht1] at m2
    obtain ⟨y, e', H', r1, r2⟩ := ih (k + 1) H3 us' (by omega) m4 m2 m3
    rw [w_loop_b b_lontarlaw13_VniAscii_0.eq_1]
    simp only [WA, isStore, isCall, isK, freshI, stampO, List.nil_append, Option.map_some, Option.map_none, Option.bind_some, List.map_cons, List.map_nil, if_true, if_false, Nat.reduceEqDiff, Int.reduceEq, Nat.reduceAdd, Nat.reduceMul, reduceCtorEq, eq_self, Int.reduceLT, Int.reduceLE, Int.reduceToNat, List.length_cons, List.length_nil, List.all_cons, List.all_nil, List.take_zero, List.drop_nil, List.append_nil, List.getElem?_cons_zero, List.getElem?_cons_succ, List.drop_succ_cons, List.drop_zero, List.take_succ_cons, List.cons_append, Nat.reduceLeDiff, Int.cast_ofNat_Int, hlt, a0, b0, st_and hg, ha, hw, vi, m1, hw2]
    rw [w_enter]
    simp only [WA, isStore, isCall, isK, freshI, stampO, List.nil_append, Option.map_some, Option.map_none, Option.bind_some, List.map_cons, List.map_nil, if_true, if_false, Nat.reduceEqDiff, Int.reduceEq, Nat.reduceAdd, Nat.reduceMul, reduceCtorEq, eq_self, Int.reduceLT, Int.reduceLE, Int.reduceToNat, List.length_cons, List.length_nil, List.all_cons, List.all_nil, List.take_zero, List.drop_nil, List.append_nil, List.getElem?_cons_zero, List.getElem?_cons_succ, List.drop_succ_cons, List.drop_zero, List.take_succ_cons, List.cons_append, Nat.reduceLeDiff, Int.cast_ofNat_Int, r1]
    exact r2
def lowR (u : Int) : Rl := ([u], [u])
theorem flat_low : ∀ (l : List Int), (l.map lowR).flatMap (·.1) = l ∧ (l.map lowR).flatMap (·.2) = l
  | [] => ⟨rfl, rfl⟩
  | u :: l => by
    obtain ⟨h1, h2⟩ := flat_low l
    rw [List.map_cons, List.flatMap_cons, List.flatMap_cons, h1, h2]
    exact ⟨rfl, rfl⟩
theorem law_Ascii {b : Value} {l : List Int} {H : AHeap} (hb : U8s H b l) : Gives (cw Try.prog (tabF tab) om1 8 [b] H) fun v H' => v = .bool true := by
  obtain ⟨hb, hbc, hbb, hbt⟩ := hb
  rw [cw_run (F := F_lontarlaw13_VniAscii) rfl rfl rfl]
  unfold F_lontarlaw13_VniAscii k_lontarlaw13_VniAscii
  obtain ⟨v1, H1, c1, x1, rfl⟩ := c_awake (H := H)
  obtain ⟨v2, H2, c2, x2, r2, k2⟩ := c_Rules (H := H1)
  obtain ⟨v3, H3, c3, x3, t, rfl, hT⟩ := c_OfT r2 k2 RU_right (by rw [RU_len]; omega)
  have x03 := (x1.trans x2).trans x3
  obtain ⟨k, hk1, hk2, hk3⟩ := min_of (m := 60) (n := l.length)
  simp only [Int.cast_ofNat_Int] at hk3
  obtain ⟨b', s1, s2, s3⟩ := (hb.ext x03).take (hbc.ext x03) hk1
  have s1' := s1 .i64
  have hlb := fun H2 => Sl.len (H2 := H2) hb
  have hll : (l.take k).length ≤ 60 := by rw [List.length_take]; omega
  have hl2 := fun H2 => Nums.len (H2 := H2) s2
  have hby : bytes (l.take k) := fun u hu => hbb u (List.mem_of_mem_take hu)
  obtain ⟨y, e4, H4, p1, rfl, p2, p3, x4⟩ := l_a0 (z3 := .pointer (some ⟨t, 0, none⟩)) s2 hby hll (l.take k).length 0 H3 (.slice none 0 0) (by omega) (Ext.refl _) OwnI.nil trivial
  rw [show ((0 : Nat) : Int) = 0 from rfl] at p1
  obtain ⟨U, hU⟩ : ∃ U, U = (l.take k).map fun u => u % 128 := ⟨_, rfl⟩
  rw [← hU] at p3
  have hUl : U.length ≤ 60 := by rw [hU, List.length_map]; exact hll
  have hP : ∀ r ∈ U.map lowR, r ∈ RU := fun r hr => by
    obtain ⟨v, hv, rfl⟩ := List.mem_map.1 hr
    rw [hU] at hv
    obtain ⟨u, hu, rfl⟩ := List.mem_map.1 hv
    have := hby u hu
    have := low_in (c := (u % 128).toNat) (by omega)
    rw [show (((u % 128).toNat : Nat) : Int) = u % 128 by omega] at this
    exact this
  obtain ⟨w1, w2⟩ := read_sep (U.map lowR) 0 hP
  rw [(flat_low U).1] at w1 w2
  rw [(flat_low U).2] at w2
  obtain ⟨v5, H5, c5, x5, y5, _, _⟩ := c_AllR (hT.ext x4) p3.asI p3.cutI (by omega)
  obtain ⟨T, hTT⟩ : ∃ T, T = allU RU U 0 := ⟨_, rfl⟩
  rw [← hTT] at w1 w2 y5
  obtain ⟨v6, H6, c6, x6, vo, pp, kk, rfl, o6, _, _⟩ := c_UT y5.rws (by rw [w2]; omega)
  obtain ⟨H7, hH7⟩ : ∃ H7, H7 = H6.push ⟨tokC pp kk (fstB tok0 T), 53, .tip, 1, []⟩ := ⟨_, rfl⟩
  have x7 : Ext H6 H7 := by rw [hH7]; exact Ext.push H6 _
  have g7 : H7.get H6.n = some ⟨tokC pp kk (fstB tok0 T), 53, .tip, 1, []⟩ := by rw [hH7]; exact get_push_self
  have he : (fstB tok0 T).err = 0 := by rw [fstB_whole w1]; rfl
  have he' : ((fstB tok0 T).err = 0) = True := eq_true he
  have cU := c_Units (o6.asI.ext x7) (p3.asI.ext ((x5.trans x6).trans x7)) (by rw [w2]; omega)
  rw [w2, decide_eq_true rfl] at cU
  have z : ((0 : Int) ≠ 0) = False := by simp
  simp only [WA, isStore, isCall, isK, freshI, stampO, List.nil_append, Option.map_some, Option.map_none, Option.bind_some, List.map_cons, List.map_nil, if_true, if_false, Nat.reduceEqDiff, Int.reduceEq, Nat.reduceAdd, Nat.reduceMul, reduceCtorEq, eq_self, Int.reduceLT, Int.reduceLE, Int.reduceToNat, List.length_cons, List.length_nil, List.all_cons, List.all_nil, List.take_zero, List.drop_nil, List.append_nil, List.getElem?_cons_zero, List.getElem?_cons_succ, List.drop_succ_cons, List.drop_zero, List.take_succ_cons, List.cons_append, Nat.reduceLeDiff, Int.cast_ofNat_Int, c1, c2, c3, v_nilp, z, hlb, hk3, s1', hl2]
  rw [w_enter]
  simp only [WA, isStore, isCall, isK, freshI, stampO, List.nil_append, Option.map_some, Option.map_none, Option.bind_some, List.map_cons, List.map_nil, if_true, if_false, Nat.reduceEqDiff, Int.reduceEq, Nat.reduceAdd, Nat.reduceMul, reduceCtorEq, eq_self, Int.reduceLT, Int.reduceLE, Int.reduceToNat, List.length_cons, List.length_nil, List.all_cons, List.all_nil, List.take_zero, List.drop_nil, List.append_nil, List.getElem?_cons_zero, List.getElem?_cons_succ, List.drop_succ_cons, List.drop_zero, List.take_succ_cons, List.cons_append, Nat.reduceLeDiff, Int.cast_ofNat_Int, p1, p2, c5, c6, got_tok, ← hH7, g7, tk3, he', cU]
end Go.Proofs.Ytfhchimfdlhmaaa

