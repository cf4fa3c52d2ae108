/- What is proved here: what the program's functions come to, as far as the claimed statement asks. Conditions: those that each theorem names, and no others. -/
import Derived.Test.YtfhchimfdlhmaaaP1
import Derived.Test.YtfhchimfdlhmaaaP2
/-! Layer 13: all letters. -/
set_option linter.unusedSimpArgs false
set_option linter.unusedVariables false
namespace Go.Proofs.Ytfhchimfdlhmaaa
open Go Lon
set_option maxRecDepth 100000
def upp (s : Int) : Int := if s < 256 then s - 32 else s - 1
theorem c_Upper {s : Int} {H : AHeap} (h : 0 ≤ s ∧ s < 100000) : cw Try.prog (tabF tab) om1 40 [.int .i64 s] H = some (.int .i64 (upp s), H) := by
  rw [cw_run (F := F_viet_Upper) rfl rfl rfl]
  unfold F_viet_Upper k_viet_Upper upp
  have w1 : IntKind.i64.wrap (s - 32) = s - 32 := wrap64 (by omega) (by omega)
  have w2 : IntKind.i64.wrap (s - 1) = s - 1 := wrap64 (by omega) (by omega)
  by_cases hs : s < 256
  · rw [if_pos hs]
    simp only [WA, isStore, isCall, isK, freshI, stampO, List.nil_append, Option.map_some, Option.map_none, Option.bind_some, List.map_cons, List.map_nil, if_true, if_false, Nat.reduceEqDiff, Int.reduceEq, Nat.reduceAdd, Nat.reduceMul, reduceCtorEq, eq_self, Int.reduceLT, Int.reduceLE, Int.reduceToNat, List.length_cons, List.length_nil, List.all_cons, List.all_nil, List.take_zero, List.drop_nil, List.append_nil, List.getElem?_cons_zero, List.getElem?_cons_succ, List.drop_succ_cons, List.drop_zero, List.take_succ_cons, List.cons_append, Nat.reduceLeDiff, Int.cast_ofNat_Int, hs, w1]
  · rw [if_neg hs]
    simp only [WA, isStore, isCall, isK, freshI, stampO, List.nil_append, Option.map_some, Option.map_none, Option.bind_some, List.map_cons, List.map_nil, if_true, if_false, Nat.reduceEqDiff, Int.reduceEq, Nat.reduceAdd, Nat.reduceMul, reduceCtorEq, eq_self, Int.reduceLT, Int.reduceLE, Int.reduceToNat, List.length_cons, List.length_nil, List.all_cons, List.all_nil, List.take_zero, List.drop_nil, List.append_nil, List.getElem?_cons_zero, List.getElem?_cons_succ, List.drop_succ_cons, List.drop_zero, List.take_succ_cons, List.cons_append, Nat.reduceLeDiff, Int.cast_ofNat_Int, hs, w2]
theorem c_upper {s : Int} {H : AHeap} (h : 0 ≤ s ∧ s < 100000) : cw Try.prog (tabF tab) om1 27 [.int .i64 s] H = some (.int .i64 (upp s), H) := by
  rw [cw_run (F := F_lontarlaw09_upper) rfl rfl rfl]
  unfold F_lontarlaw09_upper k_lontarlaw09_upper upp
  have w1 : IntKind.i64.wrap (s - 32) = s - 32 := wrap64 (by omega) (by omega)
  have w2 : IntKind.i64.wrap (s - 1) = s - 1 := wrap64 (by omega) (by omega)
  by_cases hs : s < 256
  · rw [if_pos hs]
    simp only [WA, isStore, isCall, isK, freshI, stampO, List.nil_append, Option.map_some, Option.map_none, Option.bind_some, List.map_cons, List.map_nil, if_true, if_false, Nat.reduceEqDiff, Int.reduceEq, Nat.reduceAdd, Nat.reduceMul, reduceCtorEq, eq_self, Int.reduceLT, Int.reduceLE, Int.reduceToNat, List.length_cons, List.length_nil, List.all_cons, List.all_nil, List.take_zero, List.drop_nil, List.append_nil, List.getElem?_cons_zero, List.getElem?_cons_succ, List.drop_succ_cons, List.drop_zero, List.take_succ_cons, List.cons_append, Nat.reduceLeDiff, Int.cast_ofNat_Int, hs, w1]
  · rw [if_neg hs]
    simp only [WA, isStore, isCall, isK, freshI, stampO, List.nil_append, Option.map_some, Option.map_none, Option.bind_some, List.map_cons, List.map_nil, if_true, if_false, Nat.reduceEqDiff, Int.reduceEq, Nat.reduceAdd, Nat.reduceMul, reduceCtorEq, eq_self, Int.reduceLT, Int.reduceLE, Int.reduceToNat, List.length_cons, List.length_nil, List.all_cons, List.all_nil, List.take_zero, List.drop_nil, List.append_nil, List.getElem?_cons_zero, List.getElem?_cons_succ, List.drop_succ_cons, List.drop_zero, List.take_succ_cons, List.cons_append, Nat.reduceLeDiff, Int.cast_ofNat_Int, hs, w2]
/-- A letter: base, mark, tone, scalar. -/
structure Lt where
  base : Int
  mark : Nat
  tone : Nat
  sc : Int
def upB (up : Bool) (s : Int) : Int := if up then upp s else s
/-- The letters of a row from a tone on. -/
def letF (up : Bool) (b : Int) (m : Nat) : Nat → List Int → List Lt
  | _, [] => []
  | k, s :: l => if s = 0 then letF up b m (k + 1) l else ⟨upB up b, m, k, upB up s⟩ :: letF up b m (k + 1) l
def ltC (x : Lt) : List Value := [.int .i64 x.base, .complex .f64 (fb x.mark) (fb x.tone)]
structure OwnL (H : AHeap) (v w : Value) (L : List Lt) : Prop where
  ls : Own H 26 2 v L.length (L.flatMap ltC)
  ss : Own H 3 1 w L.length (ints (L.map (·.sc)))
/-- A letter more. -/
theorem OwnL.add {H : AHeap} {v w : Value} {L : List Lt} {x : Lt} (h : OwnL H v w L) (hl : L.length < 1000) :
    ∃ v' H1 w' H2, appendA (H.push ⟨ltC x, 26, .tip, 0, []⟩) v (.slice (some ⟨H.n, 0, none⟩) 1 2) 26 2 24 = some (v', H1) ∧ appendA (H1.push ⟨[.int .i64 x.sc], 3, .tip, 0, []⟩) w (.slice (some ⟨H1.n, 0, none⟩) 1 2) 3 1 8 = some (w', H2) ∧ OwnL H2 v' w' (L ++ [x]) ∧ From H.n v' ∧ From H.n w' ∧ H.n ≤ H2.n ∧ ∀ i, i < H.n → NotAt v i → NotAt w i → H2.get i = H.get i := by
  have x1 := Ext.push H ⟨ltC x, 26, .tip, 0, []⟩
  have g1 := get_push_self (H := H) (b := ⟨ltC x, 26, .tip, 0, []⟩)
  obtain ⟨v', H1, a1, a2, a3, a4, a5, a6⟩ := Own.append2 (bytes := 24) (m := 1) (h.ls.ext x1) (Sl.new (n := 1) (c := 2) g1 mem_tip rfl) (by omega) rfl (by omega)
  rw [AHeap.n_push] at a3 a5 a6
  have hne : (26 : TypeId) ≠ 3 := by decide
  have hw1 : Own H1 3 1 w L.length (ints (L.map (·.sc))) := Own.move (h.ss.ext x1) fun i b hi he => by
    rw [a6 i (by have := AHeap.lt_of_get hi; rwa [AHeap.n_push] at this) ((h.ls.ext x1).notAt_elem hi (by rw [he]; decide))]
    exact hi
  have x2 := Ext.push H1 ⟨[.int .i64 x.sc], 3, .tip, 0, []⟩
  have g2 := get_push_self (H := H1) (b := ⟨[.int .i64 x.sc], 3, .tip, 0, []⟩)
  obtain ⟨w', H2, b1, b2, b3, b4, b5, b6⟩ := Own.append2 (bytes := 8) (m := 1) (hw1.ext x2) (Sl.new (n := 1) (c := 2) g2 mem_tip rfl) (by omega) rfl (by omega)
  rw [AHeap.n_push] at b3 b5 b6
  have hv2 : Own H2 26 2 v' (L.length + 1) (L.flatMap ltC ++ ltC x) := Own.move (a2.ext x2) fun i b hi he => by
    rw [b6 i (by have := AHeap.lt_of_get hi; rwa [AHeap.n_push] at this) ((hw1.ext x2).notAt_elem hi (by rw [he]; decide))]
    exact hi
  refine ⟨v', H1, w', H2, a1, b1, ⟨?_, ?_⟩, a3.mono (by omega), b3.mono (by omega), by omega, fun i hi n1 n2 => by rw [b6 i (by omega) n2, x2.2 i (by omega), a6 i (by omega) n1, x1.2 i hi]⟩
  · rw [List.length_append, List.flatMap_append]
    simpa using hv2
  · rw [List.length_append, List.map_append]
    simpa [ints] using b2
theorem v_let {H : AHeap} {el : TypeId} {x y : Value} : vBslice el 1 2 [.int .i64 0, .complex .f64 0 0] [(0, 2, .agg ⟨[x, y]⟩)] H = some (.slice (some ⟨H.n, 0, none⟩) 1 2, H.push ⟨[x, y], el, .tip, 0, []⟩) := rfl
theorem v_letB {H : AHeap} {a : Int} {x y : Nat} : vBuild [.int .i64 0, .complex .f64 0 0] [(0, 1, .int .i64 a), (1, 1, .complex .f64 x y)] H = some (.agg ⟨[.int .i64 a, .complex .f64 x y]⟩, H) := rfl
theorem v_ix6 {H : AHeap} {l : List Int} {k : Nat} {s : Int} (hl : l.length = 6) (hk : l[k]? = some s) : vIndex (.agg ⟨ints l⟩) (.int .i64 k) 6 false 1 H = some (.int .i64 s, H) := by
  have hk6 := (List.getElem?_eq_some_iff.1 hk).1
  unfold vIndex
  simp only
  rw [if_pos ⟨by omega, by omega⟩]
  simp [ints, hk]
/-- What is no letter's, and no number's, stays. -/
def KL (H H' : AHeap) : Prop := ∀ j blk, H.get j = some blk → blk.elem ≠ 26 → blk.elem ≠ 3 → H'.get j = some blk
theorem KL.trans {a b c : AHeap} (h : KL a b) (k : KL b c) : KL a c := fun j x h1 h2 h3 => k j x (h j x h1 h2 h3) h2 h3
theorem Ext.kl {H H' : AHeap} (h : Ext H H') : KL H H' := fun j x h1 _ _ => h.get h1
theorem Sl.kl {H H' : AHeap} (hk : KL H H') {x : Value} {n : Nat} {cs : List Value} (h : Sl H 8 x n cs) (hc : Cut Try.prog H x 8) : Sl H' 8 x n cs ∧ Cut Try.prog H' x 8 := by
  obtain ⟨⟨a, c, rfl⟩, h2⟩ := h
  cases a with
  | none => exact ⟨⟨⟨_, _, rfl⟩, by rw [← h2]; cases n <;> cases c <;> rfl⟩, trivial⟩
  | some a =>
    obtain ⟨i, o, sp⟩ := a
    cases sp with
    | some s => exact ⟨⟨⟨_, _, rfl⟩, by rw [← h2]; cases n <;> cases c <;> rfl⟩, trivial⟩
    | none =>
      obtain ⟨b, g1, g2⟩ := hc
      have l2 : (Try.prog.info? 26).map (·.size) = some 2 := by kernel_rfl
      have l1 : (Try.prog.info? 3).map (·.size) = some 1 := by kernel_rfl
      have g3 := hk i b g1 (fun e => by rw [e, l2] at g2; exact absurd g2 (by decide)) (fun e => by rw [e, l1] at g2; exact absurd g2 (by decide))
      refine ⟨⟨⟨_, _, rfl⟩, ?_⟩, b, g3, g2⟩
      rw [← h2]
      unfold cellsOf
      simp only
      rw [g1, g3]
theorem l_A0 {H0 : AHeap} {z11 z12 z13 z17 z18 z19 : Value} {up : Bool} {b : Int} {m q7 : Nat} {l : List Int} (hl : l.length = 6) (hb : 0 ≤ b ∧ b < 100000) (hm : m < 6) (hs : ∀ s ∈ l, 0 ≤ s ∧ s < 100000) : ∀ (c k : Nat) (H : AHeap) (v w : Value) (L : List Lt), k + c = 6 → OwnL H v w L → From H0.n v → From H0.n w → Ext H0 H → H.get q7 = some ⟨.int .i64 b :: .int .i64 m :: ints l, 90, .tip, 1, []⟩ → L.length + c < 900 →
    Out (run Try.prog (tabF tab) om1 (.loop [2, 3, 5, 7, 11, 12, 13, 17, 18, 19, 24, 25] b_viet_All_0) [(2, v), (3, w), (5, .bool up), (7, .pointer (some ⟨q7, 0, none⟩)), (11, z11), (12, z12), (13, z13), (17, z17), (18, z18), (19, z19), (24, .agg ⟨ints l⟩), (25, .int .i64 k)] H) fun y e' H' => y = .exit 4 ∧ eget e' 5 = .bool up ∧ eget e' 11 = z11 ∧ eget e' 12 = z12 ∧ eget e' 13 = z13 ∧ eget e' 17 = z17 ∧ eget e' 18 = z18 ∧ eget e' 19 = z19 ∧ OwnL H' (eget e' 2) (eget e' 3) (L ++ letF up b m k (l.drop k)) ∧ From H0.n (eget e' 2) ∧ From H0.n (eget e' 3) ∧ Ext H0 H' ∧ KL H H' := by
  intro c
  induction c with
  | zero =>
    intro k H v w L hk ho f1 f2 hx hg hL
    obtain rfl : k = 6 := by omega
    have z : (((6 : Nat) : Int) < 6) = False := by simp
    rw [w_loop_b b_viet_All_0.eq_1, List.drop_of_length_le (by omega)]
    simp only [WA, isStore, isCall, isK, freshI, stampO, List.nil_append, Option.map_some, Option.map_none, Option.bind_some, List.map_cons, List.map_nil, if_true, if_false, Nat.reduceEqDiff, Int.reduceEq, Nat.reduceAdd, Nat.reduceMul, reduceCtorEq, eq_self, Int.reduceLT, Int.reduceLE, Int.reduceToNat, List.length_cons, List.length_nil, List.all_cons, List.all_nil, List.take_zero, List.drop_nil, List.append_nil, List.getElem?_cons_zero, List.getElem?_cons_succ, List.drop_succ_cons, List.drop_zero, List.take_succ_cons, List.cons_append, Nat.reduceLeDiff, Int.cast_ofNat_Int, z, letF]
    exact ⟨ho, f1, f2, hx, fun _ _ h _ _ => h⟩
  | succ c ih =>
    intro k H v w L hk ho f1 f2 hx hg hL
    have hlt : (k : Int) < 6 := by omega
    obtain ⟨s, hsk, hd⟩ := drop_at (L := l) (i := k) (by omega)
    have hss := hs s (List.mem_of_getElem? hsk)
    have ix := fun H => v_ix6 (H := H) hl hsk
    have hw2 : IntKind.i64.wrap ((k : Int) + 1) = ((k + 1 : Nat) : Int) := by rw [wrap64 (by omega) (by omega)]; omega
    rw [hd]
    unfold letF
    by_cases h0 : s = 0
    · subst h0
      obtain ⟨y, e', H', r1, r2⟩ := ih (k + 1) H v w L (by omega) ho f1 f2 hx hg (by omega)
      have z0 : ((0 : Int) = 0) = True := by simp
      rw [if_pos rfl]
      rw [w_loop_b b_viet_All_0.eq_1]
      simp only [WA, isStore, isCall, isK, freshI, stampO, List.nil_append, Option.map_some, Option.map_none, Option.bind_some, List.map_cons, List.map_nil, if_true, if_false, Nat.reduceEqDiff, Int.reduceEq, Nat.reduceAdd, Nat.reduceMul, reduceCtorEq, eq_self, Int.reduceLT, Int.reduceLE, Int.reduceToNat, List.length_cons, List.length_nil, List.all_cons, List.all_nil, List.take_zero, List.drop_nil, List.append_nil, List.getElem?_cons_zero, List.getElem?_cons_succ, List.drop_succ_cons, List.drop_zero, List.take_succ_cons, List.cons_append, Nat.reduceLeDiff, Int.cast_ofNat_Int, hlt, ix, z0, hw2]
      rw [w_enter]
      simp only [WA, isStore, isCall, isK, freshI, stampO, List.nil_append, Option.map_some, Option.map_none, Option.bind_some, List.map_cons, List.map_nil, if_true, if_false, Nat.reduceEqDiff, Int.reduceEq, Nat.reduceAdd, Nat.reduceMul, reduceCtorEq, eq_self, Int.reduceLT, Int.reduceLE, Int.reduceToNat, List.length_cons, List.length_nil, List.all_cons, List.all_nil, List.take_zero, List.drop_nil, List.append_nil, List.getElem?_cons_zero, List.getElem?_cons_succ, List.drop_succ_cons, List.drop_zero, List.take_succ_cons, List.cons_append, Nat.reduceLeDiff, Int.cast_ofNat_Int, r1]
      exact r2
    · have z0 : (s = 0) = False := eq_false h0
      rw [if_neg h0]
      obtain ⟨v', H1, w', H2, a1, a2, a3, a4, a5, a6, a7⟩ := ho.add (x := ⟨upB up b, m, k, upB up s⟩) (by omega)
      have n1 : NotAt v q7 := ho.ls.notAt_elem hg (by simp only; decide)
      have n2 : NotAt w q7 := ho.ss.notAt_elem hg (by simp only; decide)
      have hg2 : H2.get q7 = some ⟨.int .i64 b :: .int .i64 m :: ints l, 90, .tip, 1, []⟩ := by rw [a7 q7 (AHeap.lt_of_get hg) n1 n2]; exact hg
      have x2 : Ext H0 H2 := ⟨by have := hx.1; omega, fun j hj => by rw [a7 j (by have := hx.1; omega) (NotAt.of_from f1 hj) (NotAt.of_from f2 hj)]; exact hx.2 j hj⟩
      have kl2 : KL H H2 := fun j blk hj e1 e2 => by rw [a7 j (AHeap.lt_of_get hj) (ho.ls.notAt_elem hj e1) (ho.ss.notAt_elem hj e2)]; exact hj
      obtain ⟨y, e', H', r1, p1, p2, p3, p4, p5, p6, p7, p8, p9, p10, p11, p12, p13⟩ := ih (k + 1) H2 v' w' (L ++ [⟨upB up b, m, k, upB up s⟩]) (by omega) a3 (a4.mono hx.1) (a5.mono hx.1) x2 hg2 (by simp; omega)
      have hap : (L ++ [⟨upB up b, m, k, upB up s⟩]) ++ letF up b m (k + 1) (l.drop (k + 1)) = L ++ (⟨upB up b, m, k, upB up s⟩ :: letF up b m (k + 1) (l.drop (k + 1))) := by simp
      rw [hap] at p9
      have r2 := (⟨p1, p2, p3, p4, p5, p6, p7, p8, p9, p10, p11, p12, kl2.trans p13⟩ : y = .exit 4 ∧ eget e' 5 = .bool up ∧ eget e' 11 = z11 ∧ eget e' 12 = z12 ∧ eget e' 13 = z13 ∧ eget e' 17 = z17 ∧ eget e' 18 = z18 ∧ eget e' 19 = z19 ∧ _ ∧ _ ∧ _ ∧ _ ∧ KL H H')
      have cm := cvt_is m hm
      have ck := cvt_is k (by omega)
      rw [w_loop_b b_viet_All_0.eq_1]
      cases up with
      | false =>
        simp only [upB, Bool.false_eq_true, if_false, ltC] at a1 a2
        simp only [WA, isStore, isCall, isK, freshI, stampO, List.nil_append, Option.map_some, Option.map_none, Option.bind_some, List.map_cons, List.map_nil, if_true, if_false, Nat.reduceEqDiff, Int.reduceEq, Nat.reduceAdd, Nat.reduceMul, reduceCtorEq, eq_self, Int.reduceLT, Int.reduceLE, Int.reduceToNat, List.length_cons, List.length_nil, List.all_cons, List.all_nil, List.take_zero, List.drop_nil, List.append_nil, List.getElem?_cons_zero, List.getElem?_cons_succ, List.drop_succ_cons, List.drop_zero, List.take_succ_cons, List.cons_append, Nat.reduceLeDiff, Int.cast_ofNat_Int, hlt, ix, z0, hg, st_cvt, cm, ck, st_cpl, cpl_is, v_letB, v_let, a1, v_int1, a2, hw2]
        rw [w_enter]
        simp only [WA, isStore, isCall, isK, freshI, stampO, List.nil_append, Option.map_some, Option.map_none, Option.bind_some, List.map_cons, List.map_nil, if_true, if_false, Nat.reduceEqDiff, Int.reduceEq, Nat.reduceAdd, Nat.reduceMul, reduceCtorEq, eq_self, Int.reduceLT, Int.reduceLE, Int.reduceToNat, List.length_cons, List.length_nil, List.all_cons, List.all_nil, List.take_zero, List.drop_nil, List.append_nil, List.getElem?_cons_zero, List.getElem?_cons_succ, List.drop_succ_cons, List.drop_zero, List.take_succ_cons, List.cons_append, Nat.reduceLeDiff, Int.cast_ofNat_Int, r1]
        exact r2
      | true =>
        have cb := c_Upper (H := H) hb
        have cs := c_Upper (H := H) hss
        simp only [upB, if_true, ltC] at a1 a2
        simp only [WA, isStore, isCall, isK, freshI, stampO, List.nil_append, Option.map_some, Option.map_none, Option.bind_some, List.map_cons, List.map_nil, if_true, if_false, Nat.reduceEqDiff, Int.reduceEq, Nat.reduceAdd, Nat.reduceMul, reduceCtorEq, eq_self, Int.reduceLT, Int.reduceLE, Int.reduceToNat, List.length_cons, List.length_nil, List.all_cons, List.all_nil, List.take_zero, List.drop_nil, List.append_nil, List.getElem?_cons_zero, List.getElem?_cons_succ, List.drop_succ_cons, List.drop_zero, List.take_succ_cons, List.cons_append, Nat.reduceLeDiff, Int.cast_ofNat_Int, hlt, ix, z0, hg, cb, cs, st_cvt, cm, ck, st_cpl, cpl_is, v_letB, v_let, a1, v_int1, a2, hw2]
        rw [w_enter]
        simp only [WA, isStore, isCall, isK, freshI, stampO, List.nil_append, Option.map_some, Option.map_none, Option.bind_some, List.map_cons, List.map_nil, if_true, if_false, Nat.reduceEqDiff, Int.reduceEq, Nat.reduceAdd, Nat.reduceMul, reduceCtorEq, eq_self, Int.reduceLT, Int.reduceLE, Int.reduceToNat, List.length_cons, List.length_nil, List.all_cons, List.all_nil, List.take_zero, List.drop_nil, List.append_nil, List.getElem?_cons_zero, List.getElem?_cons_succ, List.drop_succ_cons, List.drop_zero, List.take_succ_cons, List.cons_append, Nat.reduceLeDiff, Int.cast_ofNat_Int, r1]
        exact r2
def lets (up : Bool) (r : Int × Int × List Int) : List Lt := letF up r.1 r.2.1.toNat 0 (pad6 r.2.2)
theorem letF_len {up : Bool} {b : Int} {m : Nat} : ∀ {l : List Int} {k : Nat}, (letF up b m k l).length ≤ l.length
  | [], k => Nat.le_refl _
  | s :: l, k => by
    unfold letF
    have := letF_len (up := up) (b := b) (m := m) (l := l) (k := k + 1)
    split <;> simp only [List.length_cons] <;> omega
theorem RV_ok : ∀ r ∈ RV, (0 ≤ r.1 ∧ r.1 < 100000) ∧ (0 ≤ r.2.1 ∧ r.2.1 < 6) ∧ (pad6 r.2.2).length = 6 ∧ ∀ s ∈ pad6 r.2.2, 0 ≤ s ∧ s < 100000 := by
  have h : RV.all (fun r => (decide (0 ≤ r.1) && decide (r.1 < 100000)) && ((decide (0 ≤ r.2.1) && decide (r.2.1 < 6)) && (Nat.beq (pad6 r.2.2).length 6 && (pad6 r.2.2).all fun s => decide (0 ≤ s) && decide (s < 100000)))) = true := by kernel_rfl
  intro r hr
  have := List.all_eq_true.1 h r hr
  simp only [Bool.and_eq_true, decide_eq_true_eq, List.all_eq_true, Nat.beq_eq_true_eq] at this
  exact ⟨this.1, this.2.1, Nat.eq_of_beq_eq_true this.2.2.1, this.2.2.2⟩
theorem drop_rows : ∀ (R : List (Int × Int × List Int)) (k : Nat), (∀ r ∈ R, (vrow r).length = 8) → (R.flatMap vrow).drop (k * 8) = (R.drop k).flatMap vrow
  | [], k, _ => by simp
  | r :: R, 0, _ => by simp
  | r :: R, k + 1, h => by
    have h8 := h r (List.mem_cons_self ..)
    rw [List.flatMap_cons, List.drop_succ_cons, ← drop_rows R k fun x hx => h x (List.mem_cons_of_mem _ hx)]
    rw [show (k + 1) * 8 = (vrow r).length + k * 8 by omega, List.drop_append, List.drop_of_length_le (by omega), List.nil_append]
    congr 1
    omega
theorem vrow_len {r : Int × Int × List Int} (h : (pad6 r.2.2).length = 6) : (vrow r).length = 8 := by unfold vrow; simp [ints, h]
theorem st_vrow {H : AHeap} {i : Nat} {r : Int × Int × List Int} (h : (pad6 r.2.2).length = 6) : gotStore (some ⟨[.int .i64 0, .int .i64 0, .int .i64 0, .int .i64 0, .int .i64 0, .int .i64 0, .int .i64 0, .int .i64 0], 90, .tip, 0, []⟩) i 0 (.agg ⟨vrow r⟩) 8 H = some (.tuple ⟨[]⟩, H.upd i ⟨vrow r, 90, .tip, 1, []⟩) := by
  have hl := vrow_len h
  have ho : (vrow r).all one = true := by unfold vrow; simp [one, ints]
  have := got_store (H := H) (cells := [.int .i64 0, .int .i64 0, .int .i64 0, .int .i64 0, .int .i64 0, .int .i64 0, .int .i64 0, .int .i64 0]) (el := 90) (ver := 0) (anc := []) (i := i) (o := 0) (n := 8) (v := .agg ⟨vrow r⟩) hl ho (Nat.le_refl 8)
  rw [this]
  simp [Value.cells]
  rfl
theorem ld_vrow {H : AHeap} {r : Int × Int × List Int} {el : TypeId} {ver : Nat} (h : (pad6 r.2.2).length = 6) : gotLoad (some ⟨vrow r, el, .tip, ver, []⟩) 2 (some 6) H = some (.agg ⟨ints (pad6 r.2.2)⟩, H) := by
  unfold gotLoad
  have hl : (ints (pad6 r.2.2)).length = 6 := by simp [ints, h]
  simp only [vrow, List.length_cons, hl]
  rw [if_pos (by rfl)]
  simp
  exact List.take_of_length_le (by omega)
theorem l_A1 {H0 : AHeap} {z11 z12 z13 x : Value} {up : Bool} : ∀ (c k : Nat) (H : AHeap) (v w : Value) (L : List Lt), k + c = 14 → OwnL H v w L → From H0.n v → From H0.n w → Ext H0 H → Sl H 8 x 14 (RV.flatMap vrow) → Cut Try.prog H x 8 → L.length + 6 * c < 800 →
    Out (run Try.prog (tabF tab) om1 (.loop [2, 3, 5, 11, 12, 13, 17, 18, 19] b_viet_All_1) [(2, v), (3, w), (5, .bool up), (11, z11), (12, z12), (13, z13), (17, x), (18, .int .i64 14), (19, .int .i64 k)] H) fun y e' H' => y = .exit 2 ∧ eget e' 11 = z11 ∧ eget e' 12 = z12 ∧ eget e' 13 = z13 ∧ OwnL H' (eget e' 2) (eget e' 3) (L ++ (RV.drop k).flatMap (lets up)) ∧ From H0.n (eget e' 2) ∧ From H0.n (eget e' 3) ∧ Ext H0 H' ∧ KL H H' := by
  intro c
  induction c with
  | zero =>
    intro k H v w L hk ho f1 f2 hx hxr hxc hL
    obtain rfl : k = 14 := by omega
    have z : (((14 : Nat) : Int) < 14) = False := by simp
    rw [w_loop_b b_viet_All_1.eq_1, show RV.drop 14 = [] from rfl, List.flatMap_nil]
    simp only [WA, isStore, isCall, isK, freshI, stampO, List.nil_append, Option.map_some, Option.map_none, Option.bind_some, List.map_cons, List.map_nil, if_true, if_false, Nat.reduceEqDiff, Int.reduceEq, Nat.reduceAdd, Nat.reduceMul, reduceCtorEq, eq_self, Int.reduceLT, Int.reduceLE, Int.reduceToNat, List.length_cons, List.length_nil, List.all_cons, List.all_nil, List.take_zero, List.drop_nil, List.append_nil, List.getElem?_cons_zero, List.getElem?_cons_succ, List.drop_succ_cons, List.drop_zero, List.take_succ_cons, List.cons_append, Nat.reduceLeDiff, Int.cast_ofNat_Int, z]
    exact ⟨ho, f1, f2, hx, fun _ _ h _ _ => h⟩
  | succ c ih =>
    intro k H v w L hk ho f1 f2 hx hxr hxc hL
    have hlt : (k : Int) < 14 := by omega
    obtain ⟨r, hr, hd⟩ := drop_at (L := RV) (i := k) (by show k < 14; omega)
    obtain ⟨⟨r1, r2⟩, ⟨r3, r4⟩, r5, r6⟩ := RV_ok r (List.mem_of_getElem? hr)
    obtain ⟨m, hm⟩ : ∃ m : Nat, r.2.1 = m := ⟨r.2.1.toNat, by omega⟩
    obtain ⟨i, o, a1, a2, a3⟩ := Sl.at hxr (k := k) (by omega)
    rw [drop_rows RV k fun x hx => vrow_len (RV_ok x hx).2.2.1, hd, List.flatMap_cons, show (8 : Nat) = (vrow r).length from (vrow_len r5).symm, List.take_left, vrow_len r5] at a3
    have hw2 : IntKind.i64.wrap ((k : Int) + 1) = ((k + 1 : Nat) : Int) := by rw [wrap64 (by omega) (by omega)]; omega
    obtain ⟨H1, hH1⟩ : ∃ H1, H1 = H.push ⟨vrow r, 90, .tip, 1, []⟩ := ⟨_, rfl⟩
    have x1 : Ext H H1 := by rw [hH1]; exact Ext.push H _
    have g1 : H1.get H.n = some ⟨vrow r, 90, .tip, 1, []⟩ := by rw [hH1]; exact get_push_self
    have hst := st_vrow (H := H.push ⟨[.int .i64 0, .int .i64 0, .int .i64 0, .int .i64 0, .int .i64 0, .int .i64 0, .int .i64 0, .int .i64 0], 90, .tip, 0, []⟩) (i := H.n) r5
    have g1' : H1.get H.n = some ⟨.int .i64 r.1 :: .int .i64 (m : Nat) :: ints (pad6 r.2.2), 90, .tip, 1, []⟩ := by rw [g1]; unfold vrow; rw [hm]
    have hlen := letF_len (up := up) (b := r.1) (m := m) (l := pad6 r.2.2) (k := 0)
    obtain ⟨y, e', H2, q1, rfl, q2, q3, q4, q5, q6, q7, q8, q9, q10, q11, q12, q13⟩ := l_A0 (z11 := z11) (z12 := z12) (z13 := z13) (z17 := x) (z18 := .int .i64 14) (z19 := .int .i64 k) (up := up) r5 ⟨r1, r2⟩ (m := m) (by omega) r6 6 0 H1 v w L (by omega) ⟨ho.ls.ext x1, ho.ss.ext x1⟩ f1 f2 (hx.trans x1) g1' (by omega)
    rw [List.drop_zero] at q9
    have e1 : letF up r.1 m 0 (pad6 r.2.2) = lets up r := by unfold lets; rw [hm]; rfl
    rw [e1] at q9
    have hxk : KL H H2 := (Ext.kl x1).trans q13
    obtain ⟨hx2, hxc2⟩ := Sl.kl hxk hxr hxc
    obtain ⟨y, e2, H3, p1, p2, p3, p4, p5, p6, p7, p8, p9, p10⟩ := ih (k + 1) H2 (eget e' 2) (eget e' 3) (L ++ lets up r) (by omega) q9 q10 q11 q12 hx2 hxc2 (by rw [List.length_append]; rw [e1, r5] at hlen; omega)
    have hap : (L ++ lets up r) ++ (RV.drop (k + 1)).flatMap (lets up) = L ++ (RV.drop k).flatMap (lets up) := by rw [hd]; simp
    rw [hap] at p6
    rw [show ((0 : Nat) : Int) = 0 from rfl] at q1
    rw [w_loop_b b_viet_All_1.eq_1]
    simp only [WA, isStore, isCall, isK, freshI, stampO, List.nil_append, Option.map_some, Option.map_none, Option.bind_some, List.map_cons, List.map_nil, if_true, if_false, Nat.reduceEqDiff, Int.reduceEq, Nat.reduceAdd, Nat.reduceMul, reduceCtorEq, eq_self, Int.reduceLT, Int.reduceLE, Int.reduceToNat, List.length_cons, List.length_nil, List.all_cons, List.all_nil, List.take_zero, List.drop_nil, List.append_nil, List.getElem?_cons_zero, List.getElem?_cons_succ, List.drop_succ_cons, List.drop_zero, List.take_succ_cons, List.cons_append, Nat.reduceLeDiff, Int.cast_ofNat_Int, hlt, a1, a3, hst, ← hH1, g1, ld_vrow r5]
    rw [w_enter]
    simp only [WA, isStore, isCall, isK, freshI, stampO, List.nil_append, Option.map_some, Option.map_none, Option.bind_some, List.map_cons, List.map_nil, if_true, if_false, Nat.reduceEqDiff, Int.reduceEq, Nat.reduceAdd, Nat.reduceMul, reduceCtorEq, eq_self, Int.reduceLT, Int.reduceLE, Int.reduceToNat, List.length_cons, List.length_nil, List.all_cons, List.all_nil, List.take_zero, List.drop_nil, List.append_nil, List.getElem?_cons_zero, List.getElem?_cons_succ, List.drop_succ_cons, List.drop_zero, List.take_succ_cons, List.cons_append, Nat.reduceLeDiff, Int.cast_ofNat_Int, q1, q2, q3, q4, q5, q6, q7, q8, hw2]
    rw [w_enter]
    simp only [WA, isStore, isCall, isK, freshI, stampO, List.nil_append, Option.map_some, Option.map_none, Option.bind_some, List.map_cons, List.map_nil, if_true, if_false, Nat.reduceEqDiff, Int.reduceEq, Nat.reduceAdd, Nat.reduceMul, reduceCtorEq, eq_self, Int.reduceLT, Int.reduceLE, Int.reduceToNat, List.length_cons, List.length_nil, List.all_cons, List.all_nil, List.take_zero, List.drop_nil, List.append_nil, List.getElem?_cons_zero, List.getElem?_cons_succ, List.drop_succ_cons, List.drop_zero, List.take_succ_cons, List.cons_append, Nat.reduceLeDiff, Int.cast_ofNat_Int, q2, q3, q4, q5, q6, q7, p1]
    exact ⟨p2, p3, p4, p5, p6, p7, p8, p9, hxk.trans p10⟩
def LA (up : Bool) : List Lt := RV.flatMap (lets up)
theorem LA_len (up : Bool) : (LA up).length = 74 := by cases up <;> kernel_rfl
theorem l_A2 {H0 : AHeap} {qz : Nat} : ∀ (c k : Nat) (H : AHeap) (v w : Value) (L : List Lt), k + c = 2 → OwnL H v w L → From H0.n v → From H0.n w → Ext H0 H → H.get qz = some ⟨[.bool false, .bool true], 4, .tip, 0, []⟩ → L.length = 74 * k →
    Out (run Try.prog (tabF tab) om1 (.loop [2, 3, 11, 12, 13] b_viet_All_2) [(2, v), (3, w), (11, .slice (some ⟨qz, 0, none⟩) 2 3), (12, .int .i64 2), (13, .int .i64 k)] H) fun y e' H' => y = .exit 0 ∧ OwnL H' (eget e' 2) (eget e' 3) (L ++ ([false, true].drop k).flatMap LA) ∧ From H0.n (eget e' 2) ∧ From H0.n (eget e' 3) ∧ Ext H0 H' := by
  intro c
  induction c with
  | zero =>
    intro k H v w L hk ho f1 f2 hx hg hL
    obtain rfl : k = 2 := by omega
    have z : (((2 : Nat) : Int) < 2) = False := by simp
    rw [w_loop_b b_viet_All_2.eq_1, show ([false, true] : List Bool).drop 2 = [] from rfl, List.flatMap_nil]
    simp only [WA, isStore, isCall, isK, freshI, stampO, List.nil_append, Option.map_some, Option.map_none, Option.bind_some, List.map_cons, List.map_nil, if_true, if_false, Nat.reduceEqDiff, Int.reduceEq, Nat.reduceAdd, Nat.reduceMul, reduceCtorEq, eq_self, Int.reduceLT, Int.reduceLE, Int.reduceToNat, List.length_cons, List.length_nil, List.all_cons, List.all_nil, List.take_zero, List.drop_nil, List.append_nil, List.getElem?_cons_zero, List.getElem?_cons_succ, List.drop_succ_cons, List.drop_zero, List.take_succ_cons, List.cons_append, Nat.reduceLeDiff, Int.cast_ofNat_Int, z]
    exact ⟨ho, f1, f2, hx⟩
  | succ c ih =>
    intro k H v w L hk ho f1 f2 hx hg hL
    have hlt : (k : Int) < 2 := by omega
    obtain ⟨up, hup, hd⟩ := drop_at (L := [false, true]) (i := k) (by show k < 2; omega)
    have hs : Sl H 1 (.slice (some ⟨qz, 0, none⟩) 2 3) 2 [.bool false, .bool true] := Sl.new (n := 2) (c := 3) hg mem_tip rfl
    obtain ⟨i, o, a1, a2, _⟩ := Sl.at hs (k := k) (by omega)
    have a2' := a2 0 (.bool up) (by decide) (by
      have : ([false, true] : List Bool)[k]? = some up := hup
      match k, hk with
      | 0, _ => simp at this; subst this; rfl
      | 1, _ => simp at this; subst this; rfl)
    rw [Nat.add_zero] at a2'
    obtain ⟨H1, hH1⟩ : ∃ H1, H1 = H.push ⟨RV.flatMap vrow, 90, .tip, 0, []⟩ := ⟨_, rfl⟩
    have x1 : Ext H H1 := by rw [hH1]; exact Ext.push H _
    have g1 : H1.get H.n = some ⟨RV.flatMap vrow, 90, .tip, 0, []⟩ := by rw [hH1]; exact get_push_self
    have cr := c_vrows H
    rw [← hH1] at cr
    have hw2 : IntKind.i64.wrap ((k : Int) + 1) = ((k + 1 : Nat) : Int) := by rw [wrap64 (by omega) (by omega)]; omega
    obtain ⟨y, e', H2, q1, rfl, q2, q3, q4, q5, q6, q7, q8, q9⟩ := l_A1 (z11 := .slice (some ⟨qz, 0, none⟩) 2 3) (z12 := .int .i64 2) (z13 := .int .i64 k) (x := .slice (some ⟨H.n, 0, none⟩) 14 15) (up := up) 14 0 H1 v w L (by omega) ⟨ho.ls.ext x1, ho.ss.ext x1⟩ f1 f2 (hx.trans x1) (Sl.new (n := 14) (c := 15) g1 mem_tip (by kernel_rfl)) (Cut.new g1 (by kernel_rfl)) (by omega)
    rw [List.drop_zero] at q5
    have hg2 := q9 qz _ (x1.get hg) (by simp only; decide) (by simp only; decide)
    obtain ⟨y, e2, H3, p1, p2, p3⟩ := ih (k + 1) H2 (eget e' 2) (eget e' 3) (L ++ LA up) (by omega) q5 q6 q7 q8 hg2 (by rw [List.length_append, LA_len]; omega)
    have hap : (L ++ LA up) ++ (([false, true] : List Bool).drop (k + 1)).flatMap LA = L ++ (([false, true] : List Bool).drop k).flatMap LA := by rw [hd]; simp
    rw [hap] at p3
    have hl14 : ∀ H2 : AHeap, vLen false (.slice (some ⟨H.n, 0, none⟩) 14 15) H2 = some (.int .i64 14, H2) := fun _ => rfl
    rw [show ((0 : Nat) : Int) = 0 from rfl] at q1
    rw [w_loop_b b_viet_All_2.eq_1]
    simp only [WA, isStore, isCall, isK, freshI, stampO, List.nil_append, Option.map_some, Option.map_none, Option.bind_some, List.map_cons, List.map_nil, if_true, if_false, Nat.reduceEqDiff, Int.reduceEq, Nat.reduceAdd, Nat.reduceMul, reduceCtorEq, eq_self, Int.reduceLT, Int.reduceLE, Int.reduceToNat, List.length_cons, List.length_nil, List.all_cons, List.all_nil, List.take_zero, List.drop_nil, List.append_nil, List.getElem?_cons_zero, List.getElem?_cons_succ, List.drop_succ_cons, List.drop_zero, List.take_succ_cons, List.cons_append, Nat.reduceLeDiff, Int.cast_ofNat_Int, hlt, a1, a2', cr, hl14]
    rw [w_enter]
    simp only [WA, isStore, isCall, isK, freshI, stampO, List.nil_append, Option.map_some, Option.map_none, Option.bind_some, List.map_cons, List.map_nil, if_true, if_false, Nat.reduceEqDiff, Int.reduceEq, Nat.reduceAdd, Nat.reduceMul, reduceCtorEq, eq_self, Int.reduceLT, Int.reduceLE, Int.reduceToNat, List.length_cons, List.length_nil, List.all_cons, List.all_nil, List.take_zero, List.drop_nil, List.append_nil, List.getElem?_cons_zero, List.getElem?_cons_succ, List.drop_succ_cons, List.drop_zero, List.take_succ_cons, List.cons_append, Nat.reduceLeDiff, Int.cast_ofNat_Int, q1, q2, q3, q4, hw2]
    rw [w_enter]
    simp only [WA, isStore, isCall, isK, freshI, stampO, List.nil_append, Option.map_some, Option.map_none, Option.bind_some, List.map_cons, List.map_nil, if_true, if_false, Nat.reduceEqDiff, Int.reduceEq, Nat.reduceAdd, Nat.reduceMul, reduceCtorEq, eq_self, Int.reduceLT, Int.reduceLE, Int.reduceToNat, List.length_cons, List.length_nil, List.all_cons, List.all_nil, List.take_zero, List.drop_nil, List.append_nil, List.getElem?_cons_zero, List.getElem?_cons_succ, List.drop_succ_cons, List.drop_zero, List.take_succ_cons, List.cons_append, Nat.reduceLeDiff, Int.cast_ofNat_Int, q2, q3, p1]
    exact ⟨p2, p3⟩
/-- All letters. -/
def VL : List Lt := LA false ++ LA true
theorem VL_len : VL.length = 148 := by unfold VL; rw [List.length_append, LA_len, LA_len]
theorem v_bools {H : AHeap} : vBslice 4 2 1 [.bool false] [(0, 1, .bool false), (1, 1, .bool true)] H = some (.slice (some ⟨H.n, 0, none⟩) 2 3, H.push ⟨[.bool false, .bool true], 4, .tip, 0, []⟩) := rfl
theorem c_All {H : AHeap} : Gives (cw Try.prog (tabF tab) om1 30 [] H) fun v H' => Ext H H' ∧ ∃ a b, v = .tuple ⟨[a, b]⟩ ∧ OwnL H' a b VL := by
  rw [cw_run (F := F_viet_All) rfl rfl rfl]
  unfold F_viet_All k_viet_All
  obtain ⟨H1, hH1⟩ : ∃ H1, H1 = H.push ⟨[.bool false, .bool true], 4, .tip, 0, []⟩ := ⟨_, rfl⟩
  have x1 : Ext H H1 := by rw [hH1]; exact Ext.push H _
  have g1 : H1.get H.n = some ⟨[.bool false, .bool true], 4, .tip, 0, []⟩ := by rw [hH1]; exact get_push_self
  have cb := v_bools (H := H)
  rw [← hH1] at cb
  obtain ⟨y, e', H2, q1, rfl, q2, q3, q4, q5⟩ := l_A2 (H0 := H) 2 0 H1 (.slice none 0 0) (.slice none 0 0) [] (by omega) ⟨⟨rfl, .inl ⟨rfl, rfl⟩⟩, ⟨rfl, .inl ⟨rfl, rfl⟩⟩⟩ trivial trivial x1 g1 rfl
  have e1 : ([] : List Lt) ++ ([false, true].drop 0).flatMap LA = VL := by simp [VL]
  rw [e1] at q2
  rw [show ((0 : Nat) : Int) = 0 from rfl] at q1
  have hl2 : ∀ H2 : AHeap, vLen false (.slice (some ⟨H.n, 0, none⟩) 2 3) H2 = some (.int .i64 2, H2) := fun _ => rfl
  simp only [WA, isStore, isCall, isK, freshI, stampO, List.nil_append, Option.map_some, Option.map_none, Option.bind_some, List.map_cons, List.map_nil, if_true, if_false, Nat.reduceEqDiff, Int.reduceEq, Nat.reduceAdd, Nat.reduceMul, reduceCtorEq, eq_self, Int.reduceLT, Int.reduceLE, Int.reduceToNat, List.length_cons, List.length_nil, List.all_cons, List.all_nil, List.take_zero, List.drop_nil, List.append_nil, List.getElem?_cons_zero, List.getElem?_cons_succ, List.drop_succ_cons, List.drop_zero, List.take_succ_cons, List.cons_append, Nat.reduceLeDiff, Int.cast_ofNat_Int, cb, hl2]
  rw [w_enter]
  simp only [WA, isStore, isCall, isK, freshI, stampO, List.nil_append, Option.map_some, Option.map_none, Option.bind_some, List.map_cons, List.map_nil, if_true, if_false, Nat.reduceEqDiff, Int.reduceEq, Nat.reduceAdd, Nat.reduceMul, reduceCtorEq, eq_self, Int.reduceLT, Int.reduceLE, Int.reduceToNat, List.length_cons, List.length_nil, List.all_cons, List.all_nil, List.take_zero, List.drop_nil, List.append_nil, List.getElem?_cons_zero, List.getElem?_cons_succ, List.drop_succ_cons, List.drop_zero, List.take_succ_cons, List.cons_append, Nat.reduceLeDiff, Int.cast_ofNat_Int, q1]
  exact ⟨q5, _, _, rfl, q2⟩
end Go.Proofs.Ytfhchimfdlhmaaa

/-! Layer 13: a letter's scalar. -/
set_option linter.unusedSimpArgs false
set_option linter.unusedVariables false
namespace Go.Proofs.Ytfhchimfdlhmaaa
open Go Lon
set_option maxRecDepth 100000
/-- Whether a letter is one of a base and a sign. -/
def alike (x : Lt) (b : Int) (r i : Nat) : Bool := x.base == b && (Op.floatEq .f64 (fb x.mark) r && Op.floatEq .f64 (fb x.tone) i)
def jn : List Lt → Int → Nat → Nat → Option Int
  | [], _, _, _ => none
  | x :: L, b, r, i => if alike x b r i = true then some x.sc else jn L b r i
theorem drop_lts : ∀ (L : List Lt) (k : Nat), (L.flatMap ltC).drop (k * 2) = (L.drop k).flatMap ltC
  | [], k => by simp
  | x :: L, 0 => by simp
  | x :: L, k + 1 => by rw [show (k + 1) * 2 = k * 2 + 1 + 1 by omega]; exact drop_lts L k
theorem v_boxL {H : AHeap} {a b : Value} : vBox (.agg ⟨[a, b]⟩) 26 H = some (.pointer (some ⟨H.n, 0, none⟩), H.push ⟨[a, b], 26, .tip, 0, []⟩) := rfl
theorem l_J0 {H0 : AHeap} {q1 : Nat} {a bb : Value} {b : Int} {r i : Nat} (hA : OwnL H0 a bb VL) (hg : H0.get q1 = some ⟨[.int .i64 b, .complex .f64 r i], 26, .tip, 0, []⟩) : ∀ (c k : Nat) (H : AHeap), k + c = 148 → Ext H0 H →
    Out (run Try.prog (tabF tab) om1 (.loop [1, 5, 12, 13, 14] b_viet_Join_0) [(1, .pointer (some ⟨q1, 0, none⟩)), (5, bb), (12, a), (13, .int .i64 148), (14, .int .i64 k)] H) fun y e' H' => Ext H0 H' ∧ ((jn (VL.drop k) b r i = none ∧ y = .exit 0) ∨ (∃ s, jn (VL.drop k) b r i = some s ∧ y = .ret ∧ eget e' 2 = .int .i64 s ∧ eget e' 3 = .bool true)) := by
  intro c
  induction c with
  | zero =>
    intro k H hk hx
    obtain rfl : k = 148 := by omega
    have z : (((148 : Nat) : Int) < 148) = False := by simp
    rw [w_loop_b b_viet_Join_0.eq_1, List.drop_of_length_le (by rw [VL_len]; exact Nat.le_refl _)]
    simp only [WA, isStore, isCall, isK, freshI, stampO, List.nil_append, Option.map_some, Option.map_none, Option.bind_some, List.map_cons, List.map_nil, if_true, if_false, Nat.reduceEqDiff, Int.reduceEq, Nat.reduceAdd, Nat.reduceMul, reduceCtorEq, eq_self, Int.reduceLT, Int.reduceLE, Int.reduceToNat, List.length_cons, List.length_nil, List.all_cons, List.all_nil, List.take_zero, List.drop_nil, List.append_nil, List.getElem?_cons_zero, List.getElem?_cons_succ, List.drop_succ_cons, List.drop_zero, List.take_succ_cons, List.cons_append, Nat.reduceLeDiff, Int.cast_ofNat_Int, z]
    exact ⟨hx, .inl rfl⟩
  | succ c ih =>
    intro k H hk hx
    have hlt : (k : Int) < 148 := by omega
    obtain ⟨x, hxk, hd⟩ := drop_at (L := VL) (i := k) (by rw [VL_len]; omega)
    obtain ⟨i1, o1, a1, a2, a3⟩ := Sl.at (hA.ls.sl.ext hx) (k := k) (by rw [VL_len]; omega)
    rw [drop_lts, hd] at a3
    have a3' : gotLoad (H.get i1) o1 (some 2) H = some (.agg ⟨ltC x⟩, H) := a3
    have hsc : (VL.map (·.sc))[k]? = some x.sc := by rw [List.getElem?_map, hxk]; rfl
    have hss : Ints H bb (VL.map (·.sc)) := by
      have := hA.ss.sl.ext hx
      unfold Ints
      rw [List.length_map]
      exact this
    obtain ⟨i2, o2, d1, d2⟩ := hss.at hsc
    have hw2 : IntKind.i64.wrap ((k : Int) + 1) = ((k + 1 : Nat) : Int) := by rw [wrap64 (by omega) (by omega)]; omega
    unfold ltC at a3'
    obtain ⟨H1, hH1⟩ : ∃ H1, H1 = H.push ⟨[.int .i64 x.base, .complex .f64 (fb x.mark) (fb x.tone)], 26, .tip, 1, []⟩ := ⟨_, rfl⟩
    have x1 : Ext H H1 := by rw [hH1]; exact Ext.push H _
    have g1 : H1.get H.n = some ⟨[.int .i64 x.base, .complex .f64 (fb x.mark) (fb x.tone)], 26, .tip, 1, []⟩ := by rw [hH1]; exact get_push_self
    have x01 := hx.trans x1
    have hq := x01.get hg
    have d2' := got_ext x1 d2
    rw [hd]
    unfold jn
    rw [w_loop_b b_viet_Join_0.eq_1]
    cases he : alike x b r i with
    | true =>
      have he' : (x.base == b && (Op.floatEq .f64 (fb x.mark) r && Op.floatEq .f64 (fb x.tone) i)) = true := he
      simp only [WA, isStore, isCall, isK, freshI, stampO, List.nil_append, Option.map_some, Option.map_none, Option.bind_some, List.map_cons, List.map_nil, if_true, if_false, Nat.reduceEqDiff, Int.reduceEq, Nat.reduceAdd, Nat.reduceMul, reduceCtorEq, eq_self, Int.reduceLT, Int.reduceLE, Int.reduceToNat, List.length_cons, List.length_nil, List.all_cons, List.all_nil, List.take_zero, List.drop_nil, List.append_nil, List.getElem?_cons_zero, List.getElem?_cons_succ, List.drop_succ_cons, List.drop_zero, List.take_succ_cons, List.cons_append, Nat.reduceLeDiff, Int.cast_ofNat_Int, hlt, a1, a3', ← hH1, g1, hq, st_eqL, eqV_is, he', d1, d2']
      exact ⟨x01, .inr ⟨x.sc, rfl, rfl⟩⟩
    | false =>
      have he' : (x.base == b && (Op.floatEq .f64 (fb x.mark) r && Op.floatEq .f64 (fb x.tone) i)) = false := he
      obtain ⟨y, e', H', r1, r2⟩ := ih (k + 1) H1 (by omega) x01
      simp only [WA, isStore, isCall, isK, freshI, stampO, List.nil_append, Option.map_some, Option.map_none, Option.bind_some, List.map_cons, List.map_nil, if_true, if_false, Nat.reduceEqDiff, Int.reduceEq, Nat.reduceAdd, Nat.reduceMul, reduceCtorEq, eq_self, Int.reduceLT, Int.reduceLE, Int.reduceToNat, List.length_cons, List.length_nil, List.all_cons, List.all_nil, List.take_zero, List.drop_nil, List.append_nil, List.getElem?_cons_zero, List.getElem?_cons_succ, List.drop_succ_cons, List.drop_zero, List.take_succ_cons, List.cons_append, Nat.reduceLeDiff, Int.cast_ofNat_Int, hlt, a1, a3', ← hH1, g1, hq, st_eqL, eqV_is, he', hw2, Bool.false_eq_true]
      rw [w_enter]
      simp only [WA, isStore, isCall, isK, freshI, stampO, List.nil_append, Option.map_some, Option.map_none, Option.bind_some, List.map_cons, List.map_nil, if_true, if_false, Nat.reduceEqDiff, Int.reduceEq, Nat.reduceAdd, Nat.reduceMul, reduceCtorEq, eq_self, Int.reduceLT, Int.reduceLE, Int.reduceToNat, List.length_cons, List.length_nil, List.all_cons, List.all_nil, List.take_zero, List.drop_nil, List.append_nil, List.getElem?_cons_zero, List.getElem?_cons_succ, List.drop_succ_cons, List.drop_zero, List.take_succ_cons, List.cons_append, Nat.reduceLeDiff, Int.cast_ofNat_Int, r1]
      exact r2
theorem c_Join {b : Int} {r i : Nat} {H : AHeap} : Gives (cw Try.prog (tabF tab) om1 14 [.agg ⟨[.int .i64 b, .complex .f64 r i]⟩] H) fun v H' => Ext H H' ∧ v = .tuple ⟨[.int .i64 ((jn VL b r i).getD 0), .bool (jn VL b r i).isSome]⟩ := by
  rw [cw_run (F := F_viet_Join) rfl rfl rfl]
  unfold F_viet_Join k_viet_Join
  obtain ⟨H1, hH1⟩ : ∃ H1, H1 = H.push ⟨[.int .i64 b, .complex .f64 r i], 26, .tip, 0, []⟩ := ⟨_, rfl⟩
  have x1 : Ext H H1 := by rw [hH1]; exact Ext.push H _
  have g1 : H1.get H.n = some ⟨[.int .i64 b, .complex .f64 r i], 26, .tip, 0, []⟩ := by rw [hH1]; exact get_push_self
  obtain ⟨v2, H2, c2, x2, va, vb, rfl, oA⟩ := c_All (H := H1)
  have hl := fun H2 => oA.ls.sl.len (H2 := H2)
  rw [VL_len] at hl
  simp only [Int.cast_ofNat_Int] at hl
  obtain ⟨y, e', H3, r1, x3, r2⟩ := l_J0 (q1 := H.n) (b := b) (r := r) (i := i) oA (x2.get g1) 148 0 H2 (by omega) (Ext.refl _)
  rw [List.drop_zero] at r2
  rw [show ((0 : Nat) : Int) = 0 from rfl] at r1
  have xx := (x1.trans x2).trans x3
  rcases r2 with ⟨n1, rfl⟩ | ⟨s, n1, rfl, n2, n3⟩
  · rw [n1]
    simp only [WA, isStore, isCall, isK, freshI, stampO, List.nil_append, Option.map_some, Option.map_none, Option.bind_some, List.map_cons, List.map_nil, if_true, if_false, Nat.reduceEqDiff, Int.reduceEq, Nat.reduceAdd, Nat.reduceMul, reduceCtorEq, eq_self, Int.reduceLT, Int.reduceLE, Int.reduceToNat, List.length_cons, List.length_nil, List.all_cons, List.all_nil, List.take_zero, List.drop_nil, List.append_nil, List.getElem?_cons_zero, List.getElem?_cons_succ, List.drop_succ_cons, List.drop_zero, List.take_succ_cons, List.cons_append, Nat.reduceLeDiff, Int.cast_ofNat_Int, v_boxL, ← hH1, c2, hl]
    rw [w_enter]
    simp only [WA, isStore, isCall, isK, freshI, stampO, List.nil_append, Option.map_some, Option.map_none, Option.bind_some, List.map_cons, List.map_nil, if_true, if_false, Nat.reduceEqDiff, Int.reduceEq, Nat.reduceAdd, Nat.reduceMul, reduceCtorEq, eq_self, Int.reduceLT, Int.reduceLE, Int.reduceToNat, List.length_cons, List.length_nil, List.all_cons, List.all_nil, List.take_zero, List.drop_nil, List.append_nil, List.getElem?_cons_zero, List.getElem?_cons_succ, List.drop_succ_cons, List.drop_zero, List.take_succ_cons, List.cons_append, Nat.reduceLeDiff, Int.cast_ofNat_Int, r1, Option.getD_none, Option.isSome_none]
    exact xx
  · rw [n1]
    simp only [WA, isStore, isCall, isK, freshI, stampO, List.nil_append, Option.map_some, Option.map_none, Option.bind_some, List.map_cons, List.map_nil, if_true, if_false, Nat.reduceEqDiff, Int.reduceEq, Nat.reduceAdd, Nat.reduceMul, reduceCtorEq, eq_self, Int.reduceLT, Int.reduceLE, Int.reduceToNat, List.length_cons, List.length_nil, List.all_cons, List.all_nil, List.take_zero, List.drop_nil, List.append_nil, List.getElem?_cons_zero, List.getElem?_cons_succ, List.drop_succ_cons, List.drop_zero, List.take_succ_cons, List.cons_append, Nat.reduceLeDiff, Int.cast_ofNat_Int, v_boxL, ← hH1, c2, hl]
    rw [w_enter]
    simp only [WA, isStore, isCall, isK, freshI, stampO, List.nil_append, Option.map_some, Option.map_none, Option.bind_some, List.map_cons, List.map_nil, if_true, if_false, Nat.reduceEqDiff, Int.reduceEq, Nat.reduceAdd, Nat.reduceMul, reduceCtorEq, eq_self, Int.reduceLT, Int.reduceLE, Int.reduceToNat, List.length_cons, List.length_nil, List.all_cons, List.all_nil, List.take_zero, List.drop_nil, List.append_nil, List.getElem?_cons_zero, List.getElem?_cons_succ, List.drop_succ_cons, List.drop_zero, List.take_succ_cons, List.cons_append, Nat.reduceLeDiff, Int.cast_ofNat_Int, r1, n2, n3, Option.getD_some, Option.isSome_some]
    exact xx
end Go.Proofs.Ytfhchimfdlhmaaa

/-! Layer 13: a small letter's bytes. -/
set_option linter.unusedSimpArgs false
set_option linter.unusedVariables false
namespace Go.Proofs.Ytfhchimfdlhmaaa
open Go Lon
set_option maxRecDepth 100000
def alV (s : Int) : Int := if s = 236 then 236 else if s = 237 then 237 else if s = 7881 then 230 else if s = 297 then 243 else if s = 7883 then 242 else if s = 7925 then 238 else if s = 273 then 241 else 0
theorem c_alone {s : Int} {H : AHeap} : cw Try.prog (tabF tab) om1 28 [.int .i64 s] H = some (.int .i64 (alV s), H) := by
  rw [cw_run (F := F_vni_alone) rfl rfl rfl]
  unfold F_vni_alone k_vni_alone alV
  by_cases h1 : s = 236
  · have z1 : (s = 236) = True := eq_true h1
    rw [if_pos h1]; simp only [WA, isStore, isCall, isK, freshI, stampO, List.nil_append, Option.map_some, Option.map_none, Option.bind_some, List.map_cons, List.map_nil, if_true, if_false, Nat.reduceEqDiff, Int.reduceEq, Nat.reduceAdd, Nat.reduceMul, reduceCtorEq, eq_self, Int.reduceLT, Int.reduceLE, Int.reduceToNat, List.length_cons, List.length_nil, List.all_cons, List.all_nil, List.take_zero, List.drop_nil, List.append_nil, List.getElem?_cons_zero, List.getElem?_cons_succ, List.drop_succ_cons, List.drop_zero, List.take_succ_cons, List.cons_append, Nat.reduceLeDiff, Int.cast_ofNat_Int, z1]
  · have z1 : (s = 236) = False := eq_false h1
    rw [if_neg h1]
    by_cases h2 : s = 237
    · have z2 : (s = 237) = True := eq_true h2
      rw [if_pos h2]; simp only [WA, isStore, isCall, isK, freshI, stampO, List.nil_append, Option.map_some, Option.map_none, Option.bind_some, List.map_cons, List.map_nil, if_true, if_false, Nat.reduceEqDiff, Int.reduceEq, Nat.reduceAdd, Nat.reduceMul, reduceCtorEq, eq_self, Int.reduceLT, Int.reduceLE, Int.reduceToNat, List.length_cons, List.length_nil, List.all_cons, List.all_nil, List.take_zero, List.drop_nil, List.append_nil, List.getElem?_cons_zero, List.getElem?_cons_succ, List.drop_succ_cons, List.drop_zero, List.take_succ_cons, List.cons_append, Nat.reduceLeDiff, Int.cast_ofNat_Int, z1, z2]
    · have z2 : (s = 237) = False := eq_false h2
      rw [if_neg h2]
      by_cases h3 : s = 7881
      · have z3 : (s = 7881) = True := eq_true h3
        rw [if_pos h3]; simp only [WA, isStore, isCall, isK, freshI, stampO, List.nil_append, Option.map_some, Option.map_none, Option.bind_some, List.map_cons, List.map_nil, if_true, if_false, Nat.reduceEqDiff, Int.reduceEq, Nat.reduceAdd, Nat.reduceMul, reduceCtorEq, eq_self, Int.reduceLT, Int.reduceLE, Int.reduceToNat, List.length_cons, List.length_nil, List.all_cons, List.all_nil, List.take_zero, List.drop_nil, List.append_nil, List.getElem?_cons_zero, List.getElem?_cons_succ, List.drop_succ_cons, List.drop_zero, List.take_succ_cons, List.cons_append, Nat.reduceLeDiff, Int.cast_ofNat_Int, z1, z2, z3]
      · have z3 : (s = 7881) = False := eq_false h3
        rw [if_neg h3]
        by_cases h4 : s = 297
        · have z4 : (s = 297) = True := eq_true h4
          rw [if_pos h4]; simp only [WA, isStore, isCall, isK, freshI, stampO, List.nil_append, Option.map_some, Option.map_none, Option.bind_some, List.map_cons, List.map_nil, if_true, if_false, Nat.reduceEqDiff, Int.reduceEq, Nat.reduceAdd, Nat.reduceMul, reduceCtorEq, eq_self, Int.reduceLT, Int.reduceLE, Int.reduceToNat, List.length_cons, List.length_nil, List.all_cons, List.all_nil, List.take_zero, List.drop_nil, List.append_nil, List.getElem?_cons_zero, List.getElem?_cons_succ, List.drop_succ_cons, List.drop_zero, List.take_succ_cons, List.cons_append, Nat.reduceLeDiff, Int.cast_ofNat_Int, z1, z2, z3, z4]
        · have z4 : (s = 297) = False := eq_false h4
          rw [if_neg h4]
          by_cases h5 : s = 7883
          · have z5 : (s = 7883) = True := eq_true h5
            rw [if_pos h5]; simp only [WA, isStore, isCall, isK, freshI, stampO, List.nil_append, Option.map_some, Option.map_none, Option.bind_some, List.map_cons, List.map_nil, if_true, if_false, Nat.reduceEqDiff, Int.reduceEq, Nat.reduceAdd, Nat.reduceMul, reduceCtorEq, eq_self, Int.reduceLT, Int.reduceLE, Int.reduceToNat, List.length_cons, List.length_nil, List.all_cons, List.all_nil, List.take_zero, List.drop_nil, List.append_nil, List.getElem?_cons_zero, List.getElem?_cons_succ, List.drop_succ_cons, List.drop_zero, List.take_succ_cons, List.cons_append, Nat.reduceLeDiff, Int.cast_ofNat_Int, z1, z2, z3, z4, z5]
          · have z5 : (s = 7883) = False := eq_false h5
            rw [if_neg h5]
            by_cases h6 : s = 7925
            · have z6 : (s = 7925) = True := eq_true h6
              rw [if_pos h6]; simp only [WA, isStore, isCall, isK, freshI, stampO, List.nil_append, Option.map_some, Option.map_none, Option.bind_some, List.map_cons, List.map_nil, if_true, if_false, Nat.reduceEqDiff, Int.reduceEq, Nat.reduceAdd, Nat.reduceMul, reduceCtorEq, eq_self, Int.reduceLT, Int.reduceLE, Int.reduceToNat, List.length_cons, List.length_nil, List.all_cons, List.all_nil, List.take_zero, List.drop_nil, List.append_nil, List.getElem?_cons_zero, List.getElem?_cons_succ, List.drop_succ_cons, List.drop_zero, List.take_succ_cons, List.cons_append, Nat.reduceLeDiff, Int.cast_ofNat_Int, z1, z2, z3, z4, z5, z6]
            · have z6 : (s = 7925) = False := eq_false h6
              rw [if_neg h6]
              by_cases h7 : s = 273
              · have z7 : (s = 273) = True := eq_true h7
                rw [if_pos h7]; simp only [WA, isStore, isCall, isK, freshI, stampO, List.nil_append, Option.map_some, Option.map_none, Option.bind_some, List.map_cons, List.map_nil, if_true, if_false, Nat.reduceEqDiff, Int.reduceEq, Nat.reduceAdd, Nat.reduceMul, reduceCtorEq, eq_self, Int.reduceLT, Int.reduceLE, Int.reduceToNat, List.length_cons, List.length_nil, List.all_cons, List.all_nil, List.take_zero, List.drop_nil, List.append_nil, List.getElem?_cons_zero, List.getElem?_cons_succ, List.drop_succ_cons, List.drop_zero, List.take_succ_cons, List.cons_append, Nat.reduceLeDiff, Int.cast_ofNat_Int, z1, z2, z3, z4, z5, z6, z7]
              · have z7 : (s = 273) = False := eq_false h7
                rw [if_neg h7]; simp only [WA, isStore, isCall, isK, freshI, stampO, List.nil_append, Option.map_some, Option.map_none, Option.bind_some, List.map_cons, List.map_nil, if_true, if_false, Nat.reduceEqDiff, Int.reduceEq, Nat.reduceAdd, Nat.reduceMul, reduceCtorEq, eq_self, Int.reduceLT, Int.reduceLE, Int.reduceToNat, List.length_cons, List.length_nil, List.all_cons, List.all_nil, List.take_zero, List.drop_nil, List.append_nil, List.getElem?_cons_zero, List.getElem?_cons_succ, List.drop_succ_cons, List.drop_zero, List.take_succ_cons, List.cons_append, Nat.reduceLeDiff, Int.cast_ofNat_Int, z1, z2, z3, z4, z5, z6, z7]
def sgV (m : Int) : List Int := if m = 1 then [234, 232, 233, 250, 252, 235] else if m = 2 then [226, 224, 225, 229, 227, 228] else [0, 248, 249, 251, 245, 239]
theorem v_sgA {H : AHeap} : vBuild [.int .i64 0, .int .i64 0, .int .i64 0, .int .i64 0, .int .i64 0, .int .i64 0] [(0, 1, .int .i64 234), (1, 1, .int .i64 232), (2, 1, .int .i64 233), (3, 1, .int .i64 250), (4, 1, .int .i64 252), (5, 1, .int .i64 235)] H = some (.agg ⟨ints [234, 232, 233, 250, 252, 235]⟩, H) := rfl
theorem v_sgB {H : AHeap} : vBuild [.int .i64 0, .int .i64 0, .int .i64 0, .int .i64 0, .int .i64 0, .int .i64 0] [(0, 1, .int .i64 226), (1, 1, .int .i64 224), (2, 1, .int .i64 225), (3, 1, .int .i64 229), (4, 1, .int .i64 227), (5, 1, .int .i64 228)] H = some (.agg ⟨ints [226, 224, 225, 229, 227, 228]⟩, H) := rfl
theorem v_sgC {H : AHeap} : vBuild [.int .i64 0, .int .i64 0, .int .i64 0, .int .i64 0, .int .i64 0, .int .i64 0] [(0, 1, .int .i64 0), (1, 1, .int .i64 248), (2, 1, .int .i64 249), (3, 1, .int .i64 251), (4, 1, .int .i64 245), (5, 1, .int .i64 239)] H = some (.agg ⟨ints [0, 248, 249, 251, 245, 239]⟩, H) := rfl
theorem st_six {H : AHeap} {i : Nat} {l : List Int} (h : l.length = 6) : gotStore (some ⟨[.int .i64 0, .int .i64 0, .int .i64 0, .int .i64 0, .int .i64 0, .int .i64 0], 67, .tip, 0, []⟩) i 0 (.agg ⟨ints l⟩) 6 H = some (.tuple ⟨[]⟩, H.upd i ⟨ints l, 67, .tip, 1, []⟩) := by
  have hl : (ints l).length = 6 := by simp [ints, h]
  have ho : (ints l).all one = true := by simp [one, ints]
  have := got_store (H := H) (cells := [.int .i64 0, .int .i64 0, .int .i64 0, .int .i64 0, .int .i64 0, .int .i64 0]) (el := 67) (ver := 0) (anc := []) (i := i) (o := 0) (n := 6) (v := .agg ⟨ints l⟩) hl ho (Nat.le_refl 6)
  rw [this]
  simp [Value.cells]
  rfl
theorem ld_six {H : AHeap} {l : List Int} {el : TypeId} {ver : Nat} (h : l.length = 6) : gotLoad (some ⟨ints l, el, .tip, ver, []⟩) 0 (some 6) H = some (.agg ⟨ints l⟩, H) := by
  have hl : (ints l).length = 6 := by simp [ints, h]
  unfold gotLoad
  simp only [hl]
  rw [if_pos (by rfl)]
  simp
  exact List.take_of_length_le (by omega)
theorem c_signs {m : Int} {H : AHeap} : Gives (cw Try.prog (tabF tab) om1 29 [.int .i64 m] H) fun v H' => Ext H H' ∧ v = .agg ⟨ints (sgV m)⟩ := by
  rw [cw_run (F := F_vni_signs) rfl rfl rfl]
  unfold F_vni_signs k_vni_signs sgV
  have fin : ∀ l : List Int, l.length = 6 → ∃ H1, H1 = H.push ⟨ints l, 67, .tip, 1, []⟩ ∧ Ext H H1 ∧ H1.get H.n = some ⟨ints l, 67, .tip, 1, []⟩ := fun l _ => ⟨_, rfl, Ext.push H _, get_push_self⟩
  by_cases h1 : m = 1
  · have z1 : (m = 1) = True := eq_true h1
    obtain ⟨H1, hH1, x1, g1⟩ := fin [234, 232, 233, 250, 252, 235] rfl
    have hs := st_six (H := H.push ⟨[.int .i64 0, .int .i64 0, .int .i64 0, .int .i64 0, .int .i64 0, .int .i64 0], 67, .tip, 0, []⟩) (i := H.n) (l := [234, 232, 233, 250, 252, 235]) rfl
    rw [if_pos h1]
    simp only [WA, isStore, isCall, isK, freshI, stampO, List.nil_append, Option.map_some, Option.map_none, Option.bind_some, List.map_cons, List.map_nil, if_true, if_false, Nat.reduceEqDiff, Int.reduceEq, Nat.reduceAdd, Nat.reduceMul, reduceCtorEq, eq_self, Int.reduceLT, Int.reduceLE, Int.reduceToNat, List.length_cons, List.length_nil, List.all_cons, List.all_nil, List.take_zero, List.drop_nil, List.append_nil, List.getElem?_cons_zero, List.getElem?_cons_succ, List.drop_succ_cons, List.drop_zero, List.take_succ_cons, List.cons_append, Nat.reduceLeDiff, Int.cast_ofNat_Int, z1, v_sgA, hs, ← hH1, ress_cell, rd_load, g1, ld_six (l := [234, 232, 233, 250, 252, 235]) rfl]
    exact x1
  · have z1 : (m = 1) = False := eq_false h1
    rw [if_neg h1]
    by_cases h2 : m = 2
    · have z2 : (m = 2) = True := eq_true h2
      obtain ⟨H1, hH1, x1, g1⟩ := fin [226, 224, 225, 229, 227, 228] rfl
      have hs := st_six (H := H.push ⟨[.int .i64 0, .int .i64 0, .int .i64 0, .int .i64 0, .int .i64 0, .int .i64 0], 67, .tip, 0, []⟩) (i := H.n) (l := [226, 224, 225, 229, 227, 228]) rfl
      rw [if_pos h2]
      simp only [WA, isStore, isCall, isK, freshI, stampO, List.nil_append, Option.map_some, Option.map_none, Option.bind_some, List.map_cons, List.map_nil, if_true, if_false, Nat.reduceEqDiff, Int.reduceEq, Nat.reduceAdd, Nat.reduceMul, reduceCtorEq, eq_self, Int.reduceLT, Int.reduceLE, Int.reduceToNat, List.length_cons, List.length_nil, List.all_cons, List.all_nil, List.take_zero, List.drop_nil, List.append_nil, List.getElem?_cons_zero, List.getElem?_cons_succ, List.drop_succ_cons, List.drop_zero, List.take_succ_cons, List.cons_append, Nat.reduceLeDiff, Int.cast_ofNat_Int, z1, z2, v_sgB, hs, ← hH1, ress_cell, rd_load, g1, ld_six (l := [226, 224, 225, 229, 227, 228]) rfl]
      exact x1
    · have z2 : (m = 2) = False := eq_false h2
      obtain ⟨H1, hH1, x1, g1⟩ := fin [0, 248, 249, 251, 245, 239] rfl
      have hs := st_six (H := H.push ⟨[.int .i64 0, .int .i64 0, .int .i64 0, .int .i64 0, .int .i64 0, .int .i64 0], 67, .tip, 0, []⟩) (i := H.n) (l := [0, 248, 249, 251, 245, 239]) rfl
      rw [if_neg h2]
      simp only [WA, isStore, isCall, isK, freshI, stampO, List.nil_append, Option.map_some, Option.map_none, Option.bind_some, List.map_cons, List.map_nil, if_true, if_false, Nat.reduceEqDiff, Int.reduceEq, Nat.reduceAdd, Nat.reduceMul, reduceCtorEq, eq_self, Int.reduceLT, Int.reduceLE, Int.reduceToNat, List.length_cons, List.length_nil, List.all_cons, List.all_nil, List.take_zero, List.drop_nil, List.append_nil, List.getElem?_cons_zero, List.getElem?_cons_succ, List.drop_succ_cons, List.drop_zero, List.take_succ_cons, List.cons_append, Nat.reduceLeDiff, Int.cast_ofNat_Int, z1, z2, v_sgC, hs, ← hH1, ress_cell, rd_load, g1, ld_six (l := [0, 248, 249, 251, 245, 239]) rfl]
      exact x1
end Go.Proofs.Ytfhchimfdlhmaaa

/-! Layer 13: vni.Small. -/
set_option linter.unusedSimpArgs false
set_option linter.unusedVariables false
namespace Go.Proofs.Ytfhchimfdlhmaaa
open Go Lon
set_option maxRecDepth 100000
def hornB (b : Int) : Int := if b = 111 then 244 else if b = 117 then 246 else 0
theorem m_set1 {H : AHeap} : mapSet (.map (some H.n)) (.int .i64 111) (.int .i64 244) (H.push ⟨[], 66, .map, 0, []⟩) = some (.tuple ⟨[]⟩, H.push ⟨[.int .i64 111, .int .i64 244], 66, .map, 1, []⟩) := by
  unfold mapSet
  simp only [get_push_self, setC, Option.map_some, upd_push]
  rfl
theorem m_set2 {H : AHeap} : mapSet (.map (some H.n)) (.int .i64 117) (.int .i64 246) (H.push ⟨[.int .i64 111, .int .i64 244], 66, .map, 1, []⟩) = some (.tuple ⟨[]⟩, H.push ⟨[.int .i64 111, .int .i64 244, .int .i64 117, .int .i64 246], 66, .map, 2, []⟩) := by
  unfold mapSet
  simp only [get_push_self, setC, if_true, Option.map_some, upd_push]
  rfl
theorem m_get {H : AHeap} {b : Int} : mapGet (.map (some H.n)) (.int .i64 b) (.int .i64 0) false (H.push ⟨[.int .i64 111, .int .i64 244, .int .i64 117, .int .i64 246], 66, .map, 2, []⟩) = some (.int .i64 (hornB b), H.push ⟨[.int .i64 111, .int .i64 244, .int .i64 117, .int .i64 246], 66, .map, 2, []⟩) := by
  unfold mapGet hornB
  simp only [get_push_self, findC, if_true, if_pos]
  by_cases h1 : b = 111
  · simp [h1]
  · by_cases h2 : b = 117
    · simp [h2]
    · simp [h1, h2]
/-- Where a letter has no scalar it has no bytes. -/
theorem c_SmallNo {b : Int} {r i : Nat} {H : AHeap} (hn : jn VL b r i = none) : Gives (cw Try.prog (tabF tab) om1 12 [.agg ⟨[.int .i64 b, .complex .f64 r i]⟩] H) fun v H' => Ext H H' ∧ v = .slice none 0 0 := by
  rw [cw_run (F := F_vni_Small) rfl rfl rfl]
  unfold F_vni_Small k_vni_Small
  obtain ⟨H1, hH1⟩ : ∃ H1, H1 = H.push ⟨[.int .i64 b, .complex .f64 r i], 26, .tip, 0, []⟩ := ⟨_, rfl⟩
  have x1 : Ext H H1 := by rw [hH1]; exact Ext.push H _
  have g1 : H1.get H.n = some ⟨[.int .i64 b, .complex .f64 r i], 26, .tip, 0, []⟩ := by rw [hH1]; exact get_push_self
  obtain ⟨v2, H2, c2, x2, rfl⟩ := c_Join (b := b) (r := r) (i := i) (H := H1)
  rw [hn] at c2
  simp only [WA, isStore, isCall, isK, freshI, stampO, List.nil_append, Option.map_some, Option.map_none, Option.bind_some, List.map_cons, List.map_nil, if_true, if_false, Nat.reduceEqDiff, Int.reduceEq, Nat.reduceAdd, Nat.reduceMul, reduceCtorEq, eq_self, Int.reduceLT, Int.reduceLE, Int.reduceToNat, List.length_cons, List.length_nil, List.all_cons, List.all_nil, List.take_zero, List.drop_nil, List.append_nil, List.getElem?_cons_zero, List.getElem?_cons_succ, List.drop_succ_cons, List.drop_zero, List.take_succ_cons, List.cons_append, Nat.reduceLeDiff, Int.cast_ofNat_Int, v_boxL, ← hH1, g1, c2, Option.isSome_none]
  exact x1.trans x2
def smF (b : Int) (m t : Nat) (s : Int) : List Int := if alV s > 0 then [alV s] else if (sgV m).getD t 0 > 0 then [if m = 3 then hornB b else b, (sgV m).getD t 0] else [if m = 3 then hornB b else b]
theorem sgV_len {m : Int} : (sgV m).length = 6 := by
  unfold sgV
  split
  · rfl
  · split <;> rfl
theorem v_ints2 {H : AHeap} {el : TypeId} {a b : Int} : vBslice el 2 1 [.int .i64 0] [(0, 1, .int .i64 a), (1, 1, .int .i64 b)] H = some (.slice (some ⟨H.n, 0, none⟩) 2 3, H.push ⟨[.int .i64 a, .int .i64 b], el, .tip, 0, []⟩) := rfl
theorem ints1 {H H' : AHeap} {a : Int} (hx : Ext H H') : Ext H (H'.push ⟨[.int .i64 a], 3, .tip, 0, []⟩) ∧ Ints (H'.push ⟨[.int .i64 a], 3, .tip, 0, []⟩) (.slice (some ⟨H'.n, 0, none⟩) 1 2) [a] := ⟨hx.trans (Ext.push H' _), Sl.new (n := 1) (c := 2) get_push_self mem_tip rfl⟩
theorem ints2 {H H' : AHeap} {a b : Int} (hx : Ext H H') : Ext H (H'.push ⟨[.int .i64 a, .int .i64 b], 3, .tip, 0, []⟩) ∧ Ints (H'.push ⟨[.int .i64 a, .int .i64 b], 3, .tip, 0, []⟩) (.slice (some ⟨H'.n, 0, none⟩) 2 3) [a, b] := ⟨hx.trans (Ext.push H' _), Sl.new (n := 2) (c := 3) get_push_self mem_tip rfl⟩
theorem c_Small {b s : Int} {m t : Nat} {H : AHeap} (hm : m < 6) (ht : t < 6) (hn : jn VL b (fb m) (fb t) = some s) : Gives (cw Try.prog (tabF tab) om1 12 [.agg ⟨[.int .i64 b, .complex .f64 (fb m) (fb t)]⟩] H) fun v H' => Ext H H' ∧ Ints H' v (smF b m t s) := by
  rw [cw_run (F := F_vni_Small) rfl rfl rfl]
  unfold F_vni_Small k_vni_Small smF
  obtain ⟨H1, hH1⟩ : ∃ H1, H1 = H.push ⟨[.int .i64 b, .complex .f64 (fb m) (fb t)], 26, .tip, 0, []⟩ := ⟨_, rfl⟩
  have x1 : Ext H H1 := by rw [hH1]; exact Ext.push H _
  have g1 : H1.get H.n = some ⟨[.int .i64 b, .complex .f64 (fb m) (fb t)], 26, .tip, 0, []⟩ := by rw [hH1]; exact get_push_self
  obtain ⟨v2, H2, c2, x2, rfl⟩ := c_Join (b := b) (r := fb m) (i := fb t) (H := H1)
  rw [hn] at c2
  have x02 := x1.trans x2
  have ca := c_alone (s := s) (H := H2)
  by_cases ha : alV s > 0
  · rw [if_pos ha]
    simp only [WA, isStore, isCall, isK, freshI, stampO, List.nil_append, Option.map_some, Option.map_none, Option.bind_some, List.map_cons, List.map_nil, if_true, if_false, Nat.reduceEqDiff, Int.reduceEq, Nat.reduceAdd, Nat.reduceMul, reduceCtorEq, eq_self, Int.reduceLT, Int.reduceLE, Int.reduceToNat, List.length_cons, List.length_nil, List.all_cons, List.all_nil, List.take_zero, List.drop_nil, List.append_nil, List.getElem?_cons_zero, List.getElem?_cons_succ, List.drop_succ_cons, List.drop_zero, List.take_succ_cons, List.cons_append, Nat.reduceLeDiff, Int.cast_ofNat_Int, v_boxL, ← hH1, g1, c2, Option.isSome_some, Option.getD_some, ca, ha, v_int1]
    exact ints1 x02
  · rw [if_neg ha]
    have g2 := x2.get g1
    have b1 := back_is m hm
    have b2 := back_is t ht
    obtain ⟨c, hc⟩ : ∃ c, (sgV m)[t]? = some c := ⟨_, List.getElem?_eq_getElem (by rw [sgV_len]; exact ht)⟩
    have hcd : (sgV m).getD t 0 = c := by rw [List.getD_eq_getElem?_getD, hc]; rfl
    have ix := fun H => v_ix6 (H := H) (sgV_len (m := m)) hc
    rw [hcd]
    by_cases h3 : m = 3
    · subst h3
      simp only [Int.cast_ofNat_Int] at b1 hc
      have ix := fun H => v_ix6 (H := H) (sgV_len (m := 3)) hc
      have z3 : ((3 : Int) = 3) = True := by simp
      have x3 : Ext H (H2.push ⟨[.int .i64 111, .int .i64 244, .int .i64 117, .int .i64 246], 66, .map, 2, []⟩) := x02.trans (Ext.push H2 _)
      obtain ⟨v4, H4, c4, x4, rfl⟩ := c_signs (m := 3) (H := H2.push ⟨[.int .i64 111, .int .i64 244, .int .i64 117, .int .i64 246], 66, .map, 2, []⟩)
      rw [if_pos rfl]
      by_cases hc0 : c > 0
      · rw [if_pos hc0]
        simp only [WA, isStore, isCall, isK, freshI, stampO, List.nil_append, Option.map_some, Option.map_none, Option.bind_some, List.map_cons, List.map_nil, if_true, if_false, Nat.reduceEqDiff, Int.reduceEq, Nat.reduceAdd, Nat.reduceMul, reduceCtorEq, eq_self, Int.reduceLT, Int.reduceLE, Int.reduceToNat, List.length_cons, List.length_nil, List.all_cons, List.all_nil, List.take_zero, List.drop_nil, List.append_nil, List.getElem?_cons_zero, List.getElem?_cons_succ, List.drop_succ_cons, List.drop_zero, List.take_succ_cons, List.cons_append, Nat.reduceLeDiff, Int.cast_ofNat_Int, v_boxL, ← hH1, g1, g2, c2, Option.isSome_some, Option.getD_some, ca, ha, st_re, re_is, st_im, im_is, st_back, b1, b2, z3, st_mmake, st_mset, m_set1, m_set2, st_mget, m_get, c4, ix, hc0, v_ints2]
        exact ints2 (x3.trans x4)
      · rw [if_neg hc0]
        simp only [WA, isStore, isCall, isK, freshI, stampO, List.nil_append, Option.map_some, Option.map_none, Option.bind_some, List.map_cons, List.map_nil, if_true, if_false, Nat.reduceEqDiff, Int.reduceEq, Nat.reduceAdd, Nat.reduceMul, reduceCtorEq, eq_self, Int.reduceLT, Int.reduceLE, Int.reduceToNat, List.length_cons, List.length_nil, List.all_cons, List.all_nil, List.take_zero, List.drop_nil, List.append_nil, List.getElem?_cons_zero, List.getElem?_cons_succ, List.drop_succ_cons, List.drop_zero, List.take_succ_cons, List.cons_append, Nat.reduceLeDiff, Int.cast_ofNat_Int, v_boxL, ← hH1, g1, g2, c2, Option.isSome_some, Option.getD_some, ca, ha, st_re, re_is, st_im, im_is, st_back, b1, b2, z3, st_mmake, st_mset, m_set1, m_set2, st_mget, m_get, c4, ix, hc0, v_int1]
        exact ints1 (x3.trans x4)
    · have z3 : ((m : Int) = 3) = False := by simp; omega
      obtain ⟨v4, H4, c4, x4, rfl⟩ := c_signs (m := (m : Int)) (H := H2)
      rw [if_neg h3]
      by_cases hc0 : c > 0
      · rw [if_pos hc0]
        simp only [WA, isStore, isCall, isK, freshI, stampO, List.nil_append, Option.map_some, Option.map_none, Option.bind_some, List.map_cons, List.map_nil, if_true, if_false, Nat.reduceEqDiff, Int.reduceEq, Nat.reduceAdd, Nat.reduceMul, reduceCtorEq, eq_self, Int.reduceLT, Int.reduceLE, Int.reduceToNat, List.length_cons, List.length_nil, List.all_cons, List.all_nil, List.take_zero, List.drop_nil, List.append_nil, List.getElem?_cons_zero, List.getElem?_cons_succ, List.drop_succ_cons, List.drop_zero, List.take_succ_cons, List.cons_append, Nat.reduceLeDiff, Int.cast_ofNat_Int, v_boxL, ← hH1, g1, g2, c2, Option.isSome_some, Option.getD_some, ca, ha, st_re, re_is, st_im, im_is, st_back, b1, b2, z3, c4, ix, hc0, v_ints2]
        exact ints2 (x02.trans x4)
      · rw [if_neg hc0]
        simp only [WA, isStore, isCall, isK, freshI, stampO, List.nil_append, Option.map_some, Option.map_none, Option.bind_some, List.map_cons, List.map_nil, if_true, if_false, Nat.reduceEqDiff, Int.reduceEq, Nat.reduceAdd, Nat.reduceMul, reduceCtorEq, eq_self, Int.reduceLT, Int.reduceLE, Int.reduceToNat, List.length_cons, List.length_nil, List.all_cons, List.all_nil, List.take_zero, List.drop_nil, List.append_nil, List.getElem?_cons_zero, List.getElem?_cons_succ, List.drop_succ_cons, List.drop_zero, List.take_succ_cons, List.cons_append, Nat.reduceLeDiff, Int.cast_ofNat_Int, v_boxL, ← hH1, g1, g2, c2, Option.isSome_some, Option.getD_some, ca, ha, st_re, re_is, st_im, im_is, st_back, b1, b2, z3, c4, ix, hc0, v_int1]
        exact ints1 (x02.trans x4)
end Go.Proofs.Ytfhchimfdlhmaaa

/-! Layer 13: a scalar's letter. -/
set_option linter.unusedSimpArgs false
set_option linter.unusedVariables false
namespace Go.Proofs.Ytfhchimfdlhmaaa
open Go Lon
set_option maxRecDepth 100000
def sp : List Lt → Int → Option Lt
  | [], _ => none
  | x :: L, s => if x.sc = s then some x else sp L s
theorem st_let {H : AHeap} {i ver : Nat} {el : TypeId} {a b x y : Value} (h1 : [x, y].all one = true) : gotStore (some ⟨[a, b], el, .tip, ver, []⟩) i 0 (.agg ⟨[x, y]⟩) 2 H = some (.tuple ⟨[]⟩, H.upd i ⟨[x, y], el, .tip, ver + 1, []⟩) := by
  have := got_store (H := H) (cells := [a, b]) (el := el) (ver := ver) (anc := []) (i := i) (o := 0) (n := 2) (v := .agg ⟨[x, y]⟩) rfl h1 (Nat.le_refl 2)
  rw [this]
  rfl
theorem v_letZ {H : AHeap} : vBuild [.int .i64 0, .complex .f64 0 0] [] H = some (.agg ⟨[.int .i64 0, .complex .f64 0 0]⟩, H) := rfl
theorem l_P0 {H0 : AHeap} {q : Nat} {a bb : Value} {s : Int} (hA : OwnL H0 a bb VL) (hg : H0.get q = some ⟨[.int .i64 0, .complex .f64 0 0], 26, .tip, 0, []⟩) : ∀ (c k : Nat), k + c = 148 →
    Out (run Try.prog (tabF tab) om1 (.loop [0, 2, 4, 12, 13, 14] b_viet_Split_0) [(0, .int .i64 s), (2, .pointer (some ⟨q, 0, none⟩)), (4, a), (12, bb), (13, .int .i64 148), (14, .int .i64 k)] H0) fun y e' H' => eget e' 2 = .pointer (some ⟨q, 0, none⟩) ∧ ((sp (VL.drop k) s = none ∧ y = .exit 0 ∧ H' = H0) ∨ (∃ x, sp (VL.drop k) s = some x ∧ y = .ret ∧ eget e' 3 = .bool true ∧ H' = H0.upd q ⟨ltC x, 26, .tip, 1, []⟩)) := by
  intro c
  induction c with
  | zero =>
    intro k hk
    obtain rfl : k = 148 := by omega
    have z : (((148 : Nat) : Int) < 148) = False := by simp
    rw [w_loop_b b_viet_Split_0.eq_1, List.drop_of_length_le (by rw [VL_len]; exact Nat.le_refl _)]
    simp only [WA, isStore, isCall, isK, freshI, stampO, List.nil_append, Option.map_some, Option.map_none, Option.bind_some, List.map_cons, List.map_nil, if_true, if_false, Nat.reduceEqDiff, Int.reduceEq, Nat.reduceAdd, Nat.reduceMul, reduceCtorEq, eq_self, Int.reduceLT, Int.reduceLE, Int.reduceToNat, List.length_cons, List.length_nil, List.all_cons, List.all_nil, List.take_zero, List.drop_nil, List.append_nil, List.getElem?_cons_zero, List.getElem?_cons_succ, List.drop_succ_cons, List.drop_zero, List.take_succ_cons, List.cons_append, Nat.reduceLeDiff, Int.cast_ofNat_Int, z]
    exact .inl rfl
  | succ c ih =>
    intro k hk
    have hlt : (k : Int) < 148 := by omega
    obtain ⟨x, hxk, hd⟩ := drop_at (L := VL) (i := k) (by rw [VL_len]; omega)
    obtain ⟨i1, o1, a1, a2, a3⟩ := Sl.at hA.ls.sl (k := k) (by rw [VL_len]; omega)
    rw [drop_lts, hd] at a3
    have a3' : gotLoad (H0.get i1) o1 (some 2) H0 = some (.agg ⟨ltC x⟩, H0) := a3
    have hsc : (VL.map (·.sc))[k]? = some x.sc := by rw [List.getElem?_map, hxk]; rfl
    have hss : Ints H0 bb (VL.map (·.sc)) := by
      have := hA.ss.sl
      unfold Ints
      rw [List.length_map]
      exact this
    obtain ⟨i2, o2, d1, d2⟩ := hss.at hsc
    have hw2 : IntKind.i64.wrap ((k : Int) + 1) = ((k + 1 : Nat) : Int) := by rw [wrap64 (by omega) (by omega)]; omega
    unfold ltC at a3'
    have hst := st_let (H := H0) (i := q) (ver := 0) (el := 26) (a := .int .i64 0) (b := .complex .f64 0 0) (x := .int .i64 x.base) (y := .complex .f64 (fb x.mark) (fb x.tone)) rfl
    rw [hd]
    unfold sp
    rw [w_loop_b b_viet_Split_0.eq_1]
    by_cases he : x.sc = s
    · have he' : (x.sc = s) = True := eq_true he
      rw [if_pos he]
      simp only [WA, isStore, isCall, isK, freshI, stampO, List.nil_append, Option.map_some, Option.map_none, Option.bind_some, List.map_cons, List.map_nil, if_true, if_false, Nat.reduceEqDiff, Int.reduceEq, Nat.reduceAdd, Nat.reduceMul, reduceCtorEq, eq_self, Int.reduceLT, Int.reduceLE, Int.reduceToNat, List.length_cons, List.length_nil, List.all_cons, List.all_nil, List.take_zero, List.drop_nil, List.append_nil, List.getElem?_cons_zero, List.getElem?_cons_succ, List.drop_succ_cons, List.drop_zero, List.take_succ_cons, List.cons_append, Nat.reduceLeDiff, Int.cast_ofNat_Int, hlt, d1, d2, he', a1, a3', hg, hst]
      exact .inr ⟨x, rfl, rfl⟩
    · have he' : (x.sc = s) = False := eq_false he
      rw [if_neg he]
      obtain ⟨y, e', H', r1, r2⟩ := ih (k + 1) (by omega)
      simp only [WA, isStore, isCall, isK, freshI, stampO, List.nil_append, Option.map_some, Option.map_none, Option.bind_some, List.map_cons, List.map_nil, if_true, if_false, Nat.reduceEqDiff, Int.reduceEq, Nat.reduceAdd, Nat.reduceMul, reduceCtorEq, eq_self, Int.reduceLT, Int.reduceLE, Int.reduceToNat, List.length_cons, List.length_nil, List.all_cons, List.all_nil, List.take_zero, List.drop_nil, List.append_nil, List.getElem?_cons_zero, List.getElem?_cons_succ, List.drop_succ_cons, List.drop_zero, List.take_succ_cons, List.cons_append, Nat.reduceLeDiff, Int.cast_ofNat_Int, hlt, d1, d2, he', hw2]
      rw [w_enter]
      simp only [WA, isStore, isCall, isK, freshI, stampO, List.nil_append, Option.map_some, Option.map_none, Option.bind_some, List.map_cons, List.map_nil, if_true, if_false, Nat.reduceEqDiff, Int.reduceEq, Nat.reduceAdd, Nat.reduceMul, reduceCtorEq, eq_self, Int.reduceLT, Int.reduceLE, Int.reduceToNat, List.length_cons, List.length_nil, List.all_cons, List.all_nil, List.take_zero, List.drop_nil, List.append_nil, List.getElem?_cons_zero, List.getElem?_cons_succ, List.drop_succ_cons, List.drop_zero, List.take_succ_cons, List.cons_append, Nat.reduceLeDiff, Int.cast_ofNat_Int, r1]
      exact r2
def spV (s : Int) : Value := match sp VL s with
  | some x => .tuple ⟨[.agg ⟨ltC x⟩, .bool true]⟩
  | none => .tuple ⟨[.agg ⟨[.int .i64 0, .complex .f64 0 0]⟩, .bool false]⟩
theorem c_Split {s : Int} {H : AHeap} : Gives (cw Try.prog (tabF tab) om1 25 [.int .i64 s] H) fun v H' => Ext H H' ∧ v = spV s := by
  rw [cw_run (F := F_viet_Split) rfl rfl rfl]
  unfold F_viet_Split k_viet_Split spV
  obtain ⟨H1, hH1⟩ : ∃ H1, H1 = H.push ⟨[.int .i64 0, .complex .f64 0 0], 26, .tip, 0, []⟩ := ⟨_, rfl⟩
  have x1 : Ext H H1 := by rw [hH1]; exact Ext.push H _
  have g1 : H1.get H.n = some ⟨[.int .i64 0, .complex .f64 0 0], 26, .tip, 0, []⟩ := by rw [hH1]; exact get_push_self
  obtain ⟨v2, H2, c2, x2, va, vb, rfl, oA⟩ := c_All (H := H1)
  have g2 := x2.get g1
  have hl := fun H2 => oA.ss.sl.len (H2 := H2)
  rw [VL_len] at hl
  simp only [Int.cast_ofNat_Int] at hl
  obtain ⟨y, e', H3, r1, r0, r2⟩ := l_P0 (q := H.n) (s := s) oA g2 148 0 (by omega)
  rw [List.drop_zero] at r2
  rw [show ((0 : Nat) : Int) = 0 from rfl] at r1
  have x02 := x1.trans x2
  rcases r2 with ⟨n1, rfl, rfl⟩ | ⟨x, n1, rfl, n2, rfl⟩
  · have hst := st_let (H := H3) (i := H.n) (ver := 0) (el := 26) (a := .int .i64 0) (b := .complex .f64 0 0) (x := .int .i64 0) (y := .complex .f64 0 0) rfl
    have g3 := upd_self (c := ⟨[.int .i64 0, .complex .f64 0 0], 26, .tip, 0 + 1, []⟩) g2
    have x3 : Ext H (H3.upd H.n ⟨[.int .i64 0, .complex .f64 0 0], 26, .tip, 0 + 1, []⟩) := Ext.upd x02 g2 (Nat.le_refl _)
    rw [n1]
    simp only [Nat.zero_add] at hst g3 x3
    simp only [WA, isStore, isCall, isK, freshI, stampO, List.nil_append, Option.map_some, Option.map_none, Option.bind_some, List.map_cons, List.map_nil, if_true, if_false, Nat.reduceEqDiff, Int.reduceEq, Nat.reduceAdd, Nat.reduceMul, reduceCtorEq, eq_self, Int.reduceLT, Int.reduceLE, Int.reduceToNat, List.length_cons, List.length_nil, List.all_cons, List.all_nil, List.take_zero, List.drop_nil, List.append_nil, List.getElem?_cons_zero, List.getElem?_cons_succ, List.drop_succ_cons, List.drop_zero, List.take_succ_cons, List.cons_append, Nat.reduceLeDiff, Int.cast_ofNat_Int, ← hH1, c2, hl]
    rw [w_enter]
    simp only [WA, isStore, isCall, isK, freshI, stampO, List.nil_append, Option.map_some, Option.map_none, Option.bind_some, List.map_cons, List.map_nil, if_true, if_false, Nat.reduceEqDiff, Int.reduceEq, Nat.reduceAdd, Nat.reduceMul, reduceCtorEq, eq_self, Int.reduceLT, Int.reduceLE, Int.reduceToNat, List.length_cons, List.length_nil, List.all_cons, List.all_nil, List.take_zero, List.drop_nil, List.append_nil, List.getElem?_cons_zero, List.getElem?_cons_succ, List.drop_succ_cons, List.drop_zero, List.take_succ_cons, List.cons_append, Nat.reduceLeDiff, Int.cast_ofNat_Int, r1, r0, v_letZ, g2, hst, ress_cell, rd_load, g3]
    exact x3
  · have g3 := upd_self (c := ⟨ltC x, 26, .tip, 1, []⟩) g2
    have x3 : Ext H (H2.upd H.n ⟨ltC x, 26, .tip, 1, []⟩) := Ext.upd x02 g2 (Nat.le_refl _)
    rw [n1]
    unfold ltC at g3 x3 r1 ⊢
    simp only [WA, isStore, isCall, isK, freshI, stampO, List.nil_append, Option.map_some, Option.map_none, Option.bind_some, List.map_cons, List.map_nil, if_true, if_false, Nat.reduceEqDiff, Int.reduceEq, Nat.reduceAdd, Nat.reduceMul, reduceCtorEq, eq_self, Int.reduceLT, Int.reduceLE, Int.reduceToNat, List.length_cons, List.length_nil, List.all_cons, List.all_nil, List.take_zero, List.drop_nil, List.append_nil, List.getElem?_cons_zero, List.getElem?_cons_succ, List.drop_succ_cons, List.drop_zero, List.take_succ_cons, List.cons_append, Nat.reduceLeDiff, Int.cast_ofNat_Int, ← hH1, c2, hl]
    rw [w_enter]
    simp only [WA, isStore, isCall, isK, freshI, stampO, List.nil_append, Option.map_some, Option.map_none, Option.bind_some, List.map_cons, List.map_nil, if_true, if_false, Nat.reduceEqDiff, Int.reduceEq, Nat.reduceAdd, Nat.reduceMul, reduceCtorEq, eq_self, Int.reduceLT, Int.reduceLE, Int.reduceToNat, List.length_cons, List.length_nil, List.all_cons, List.all_nil, List.take_zero, List.drop_nil, List.append_nil, List.getElem?_cons_zero, List.getElem?_cons_succ, List.drop_succ_cons, List.drop_zero, List.take_succ_cons, List.cons_append, Nat.reduceLeDiff, Int.cast_ofNat_Int, r1, r0, n2, ress_cell, rd_load, g3]
    exact x3
end Go.Proofs.Ytfhchimfdlhmaaa

/-! Layer 13: the document's n-th letter. -/
set_option linter.unusedSimpArgs false
set_option linter.unusedVariables false
namespace Go.Proofs.Ytfhchimfdlhmaaa
open Go Lon
set_option maxRecDepth 100000
theorem st_row3 {H : AHeap} {i : Nat} {el : TypeId} {x y z : Value} (h1 : [x, y, z].all one = true) : gotStore (some ⟨[.int .i64 0, .int .i64 0, .slice none 0 0], el, .tip, 0, []⟩) i 0 (.agg ⟨[x, y, z]⟩) 3 H = some (.tuple ⟨[]⟩, H.upd i ⟨[x, y, z], el, .tip, 1, []⟩) := by
  have := got_store (H := H) (cells := [.int .i64 0, .int .i64 0, .slice none 0 0]) (el := el) (ver := 0) (anc := []) (i := i) (o := 0) (n := 3) (v := .agg ⟨[x, y, z]⟩) rfl h1 (Nat.le_refl 3)
  rw [this]
  rfl
theorem letF_no {up : Bool} {b : Int} {m : Nat} : ∀ {l : List Int} {k : Nat}, (∀ s ∈ l, s ≠ 0) → (letF up b m k l).length = l.length
  | [], k, _ => rfl
  | s :: l, k, h => by
    unfold letF
    rw [if_neg (h s (List.mem_cons_self ..))]
    simp [letF_no (up := up) (b := b) (m := m) (l := l) (k := k + 1) fun x hx => h x (List.mem_cons_of_mem _ hx)]
/-- A letter was found, and lies where it is told. -/
def Hit (H0 : AHeap) (q : Nat) (x : Lt) (y : AEx) (e' : Env) (H' : AHeap) : Prop := y = .ret ∧ eget e' 2 = .pointer (some ⟨q, 0, none⟩) ∧ eget e' 3 = .int .i64 x.sc ∧ eget e' 4 = .bool true ∧ Ext H0 H' ∧ H'.get q = some ⟨ltC x, 26, .tip, 1, []⟩
def P0 (up : Bool) (b g : Int) (m n q : Nat) (l : List Int) (H0 H : AHeap) (z16 z17 z18 : Value) (k c : Nat) (y : AEx) (e' : Env) (H' : AHeap) : Prop := (∃ x, (letF up b m k (l.drop k))[n - c]? = some x ∧ Hit H0 q x y e' H') ∨ ((l.length - k ≤ n - c) ∧ y = .exit 4 ∧ eget e' 0 = .int .i64 n ∧ eget e' 2 = .pointer (some ⟨q, 0, none⟩) ∧ eget e' 5 = .int .i64 ((c + (l.length - k) : Nat) : Int) ∧ eget e' 6 = .int .i64 g ∧ eget e' 16 = z16 ∧ eget e' 17 = z17 ∧ eget e' 18 = z18 ∧ H' = H)
theorem l_L0 {H0 H : AHeap} {z16 z17 z18 z23 : Value} {up : Bool} {b g : Int} {m q q8 n : Nat} {el : TypeId} {l : List Int} (hg : (up = true ∧ g = 1) ∨ (up = false ∧ g = 0)) (hb : 0 ≤ b ∧ b < 100000) (hm : m < 6) (hl : l.length ≤ 6) (hs : ∀ s ∈ l, s ≠ 0 ∧ 0 ≤ s ∧ s < 100000) (hx : Ext H0 H) (hq : H0.n ≤ q) (hgq : H.get q = some ⟨[.int .i64 0, .complex .f64 0 0], 26, .tip, 0, []⟩) (hg8 : H.get q8 = some ⟨[.int .i64 b, .int .i64 m, z23], el, .tip, 1, []⟩) (hi : Ints H z23 l) : ∀ (r k c : Nat), k + r = l.length → c ≤ n → c + r < 1000 →
    Out (run Try.prog (tabF tab) om1 (.loop [0, 2, 5, 6, 8, 16, 17, 18, 23, 24, 25] b_lontarlaw09_Letter_0) [(0, .int .i64 n), (2, .pointer (some ⟨q, 0, none⟩)), (5, .int .i64 c), (6, .int .i64 g), (8, .pointer (some ⟨q8, 0, none⟩)), (16, z16), (17, z17), (18, z18), (23, z23), (24, .int .i64 l.length), (25, .int .i64 k)] H) (P0 up b g m n q l H0 H z16 z17 z18 k c) := by
  intro r
  induction r with
  | zero =>
    intro k c hk hc hc2
    obtain rfl : k = l.length := by omega
    have z : (((l.length : Nat) : Int) < (l.length : Nat)) = False := by simp
    rw [w_loop_b b_lontarlaw09_Letter_0.eq_1]
    simp only [WA, isStore, isCall, isK, freshI, stampO, List.nil_append, Option.map_some, Option.map_none, Option.bind_some, List.map_cons, List.map_nil, if_true, if_false, Nat.reduceEqDiff, Int.reduceEq, Nat.reduceAdd, Nat.reduceMul, reduceCtorEq, eq_self, Int.reduceLT, Int.reduceLE, Int.reduceToNat, List.length_cons, List.length_nil, List.all_cons, List.all_nil, List.take_zero, List.drop_nil, List.append_nil, List.getElem?_cons_zero, List.getElem?_cons_succ, List.drop_succ_cons, List.drop_zero, List.take_succ_cons, List.cons_append, Nat.reduceLeDiff, Int.cast_ofNat_Int, z]
    unfold P0
    rw [Nat.sub_self]
    exact .inr ⟨Nat.zero_le _, rfl, rfl, rfl, rfl, rfl, rfl, rfl, rfl, rfl⟩
  | succ r ih =>
    intro k c hk hc hc2
    have hlt : ((k : Int) < (l.length : Nat)) = True := eq_true (by omega)
    obtain ⟨s, hsk, hd⟩ := drop_at (L := l) (i := k) (by omega)
    obtain ⟨h0, hss⟩ := hs s (List.mem_of_getElem? hsk)
    obtain ⟨i2, o2, d1, d2⟩ := hi.at hsk
    have hw2 : IntKind.i64.wrap ((k : Int) + 1) = ((k + 1 : Nat) : Int) := by rw [wrap64 (by omega) (by omega)]; omega
    have hw3 : IntKind.i64.wrap ((c : Int) + 1) = ((c + 1 : Nat) : Int) := by rw [wrap64 (by omega) (by omega)]; omega
    have hF : letF up b m k (l.drop k) = ⟨upB up b, m, k, upB up s⟩ :: letF up b m (k + 1) (l.drop (k + 1)) := by
      rw [hd]
      show (if s = 0 then _ else _) = _
      rw [if_neg h0]
    by_cases he : c = n
    · subst he
      have z1 : ((c : Int) = (c : Int)) = True := by simp
      have cm := cvt_is m hm
      have ck := cvt_is k (by omega)
      have hst := st_let (H := H) (i := q) (ver := 0) (el := 26) (a := .int .i64 0) (b := .complex .f64 0 0) (x := .int .i64 (upB up b)) (y := .complex .f64 (fb m) (fb k)) rfl
      have g3 := upd_self (c := ⟨ltC ⟨upB up b, m, k, upB up s⟩, 26, .tip, 1, []⟩) hgq
      have x3 : Ext H0 (H.upd q ⟨ltC ⟨upB up b, m, k, upB up s⟩, 26, .tip, 1, []⟩) := Ext.upd hx hgq hq
      rw [w_loop_b b_lontarlaw09_Letter_0.eq_1]
      rcases hg with ⟨rfl, rfl⟩ | ⟨rfl, rfl⟩
      · have cb := c_upper (H := H) hb
        have cs := c_upper (H := H) hss
        simp only [upB, if_true, ltC] at hst g3 x3
        simp only [WA, isStore, isCall, isK, freshI, stampO, List.nil_append, Option.map_some, Option.map_none, Option.bind_some, List.map_cons, List.map_nil, if_true, if_false, Nat.reduceEqDiff, Int.reduceEq, Nat.reduceAdd, Nat.reduceMul, reduceCtorEq, eq_self, Int.reduceLT, Int.reduceLE, Int.reduceToNat, List.length_cons, List.length_nil, List.all_cons, List.all_nil, List.take_zero, List.drop_nil, List.append_nil, List.getElem?_cons_zero, List.getElem?_cons_succ, List.drop_succ_cons, List.drop_zero, List.take_succ_cons, List.cons_append, Nat.reduceLeDiff, Int.cast_ofNat_Int, hlt, d1, d2, z1, hg8, cb, cs, st_cvt, cm, ck, st_cpl, cpl_is, v_letB, hgq, hst]
        unfold P0
        rw [hF, Nat.sub_self]
        exact .inl ⟨_, rfl, rfl, rfl, rfl, rfl, x3, g3⟩
      · simp only [upB, Bool.false_eq_true, if_false, ltC] at hst g3 x3
        have z2 : ((0 : Int) = 1) = False := by simp
        simp only [WA, isStore, isCall, isK, freshI, stampO, List.nil_append, Option.map_some, Option.map_none, Option.bind_some, List.map_cons, List.map_nil, if_true, if_false, Nat.reduceEqDiff, Int.reduceEq, Nat.reduceAdd, Nat.reduceMul, reduceCtorEq, eq_self, Int.reduceLT, Int.reduceLE, Int.reduceToNat, List.length_cons, List.length_nil, List.all_cons, List.all_nil, List.take_zero, List.drop_nil, List.append_nil, List.getElem?_cons_zero, List.getElem?_cons_succ, List.drop_succ_cons, List.drop_zero, List.take_succ_cons, List.cons_append, Nat.reduceLeDiff, Int.cast_ofNat_Int, hlt, d1, d2, z1, z2, hg8, st_cvt, cm, ck, st_cpl, cpl_is, v_letB, hgq, hst]
        unfold P0
        rw [hF, Nat.sub_self]
        exact .inl ⟨_, rfl, rfl, rfl, rfl, rfl, x3, g3⟩
    · have z1 : ((c : Int) = (n : Int)) = False := eq_false (by omega)
      obtain ⟨y, e', H', r1, r2⟩ := ih (k + 1) (c + 1) (by omega) (by omega) (by omega)
      rw [w_loop_b b_lontarlaw09_Letter_0.eq_1]
      simp only [WA, isStore, isCall, isK, freshI, stampO, List.nil_append, Option.map_some, Option.map_none, Option.bind_some, List.map_cons, List.map_nil, if_true, if_false, Nat.reduceEqDiff, Int.reduceEq, Nat.reduceAdd, Nat.reduceMul, reduceCtorEq, eq_self, Int.reduceLT, Int.reduceLE, Int.reduceToNat, List.length_cons, List.length_nil, List.all_cons, List.all_nil, List.take_zero, List.drop_nil, List.append_nil, List.getElem?_cons_zero, List.getElem?_cons_succ, List.drop_succ_cons, List.drop_zero, List.take_succ_cons, List.cons_append, Nat.reduceLeDiff, Int.cast_ofNat_Int, hlt, d1, d2, z1, hw2, hw3]
      rw [w_enter]
      simp only [WA, isStore, isCall, isK, freshI, stampO, List.nil_append, Option.map_some, Option.map_none, Option.bind_some, List.map_cons, List.map_nil, if_true, if_false, Nat.reduceEqDiff, Int.reduceEq, Nat.reduceAdd, Nat.reduceMul, reduceCtorEq, eq_self, Int.reduceLT, Int.reduceLE, Int.reduceToNat, List.length_cons, List.length_nil, List.all_cons, List.all_nil, List.take_zero, List.drop_nil, List.append_nil, List.getElem?_cons_zero, List.getElem?_cons_succ, List.drop_succ_cons, List.drop_zero, List.take_succ_cons, List.cons_append, Nat.reduceLeDiff, Int.cast_ofNat_Int, r1]
      unfold P0 at r2 ⊢
      rw [hF]
      rcases r2 with ⟨x, p1, p2⟩ | ⟨p1, p2, p3, p4, p5, p6⟩
      · refine .inl ⟨x, ?_, p2⟩
        rw [show n - c = (n - (c + 1)) + 1 by omega]
        exact p1
      · refine .inr ⟨by omega, p2, p3, p4, ?_, p6⟩
        rw [p5]
        congr 2
        omega
end Go.Proofs.Ytfhchimfdlhmaaa

/-! Layer 13: the document's n-th letter: rows. -/
set_option linter.unusedSimpArgs false
set_option linter.unusedVariables false
namespace Go.Proofs.Ytfhchimfdlhmaaa
open Go Lon
set_option maxRecDepth 100000
def letsR (up : Bool) (r : Int × Int × List Int) : List Lt := letF up r.1 r.2.1.toNat 0 r.2.2
theorem LA_R (up : Bool) : RV.flatMap (letsR up) = LA up := by cases up <;> kernel_rfl
theorem RV_no : ∀ r ∈ RV, (0 ≤ r.1 ∧ r.1 < 100000) ∧ (0 ≤ r.2.1 ∧ r.2.1 < 6) ∧ r.2.2.length ≤ 6 ∧ ∀ s ∈ r.2.2, s ≠ 0 ∧ 0 ≤ s ∧ s < 100000 := by
  have h : RV.all (fun r => (decide (0 ≤ r.1) && decide (r.1 < 100000)) && ((decide (0 ≤ r.2.1) && decide (r.2.1 < 6)) && (Nat.ble r.2.2.length 6 && r.2.2.all fun s => decide (s ≠ 0) && (decide (0 ≤ s) && decide (s < 100000))))) = true := by kernel_rfl
  intro r hr
  have := List.all_eq_true.1 h r hr
  simp only [Bool.and_eq_true, decide_eq_true_eq, List.all_eq_true] at this
  exact ⟨this.1, this.2.1, Nat.le_of_ble_eq_true this.2.2.1, this.2.2.2⟩
theorem drop_lrow {n : Nat} : ∀ (R : List (Int × Int × List Int)) (k i : Nat), (lrow n k R).drop (i * 3) = lrow n (k + i) (R.drop i)
  | [], k, i => by simp [lrow]
  | r :: R, k, 0 => by simp
  | r :: R, k, i + 1 => by
    rw [show (i + 1) * 3 = i * 3 + 1 + 1 + 1 by omega]
    show (lrow n (k + 1) R).drop (i * 3) = _
    rw [drop_lrow R (k + 1) i, List.drop_succ_cons, show k + 1 + i = k + (i + 1) by omega]
theorem lrow_len {n : Nat} : ∀ (R : List (Int × Int × List Int)) (k : Nat), (lrow n k R).length = R.length * 3
  | [], k => rfl
  | r :: R, k => by show (lrow n (k + 1) R).length + 1 + 1 + 1 = _; rw [lrow_len R (k + 1), List.length_cons]; omega
def P1 (up : Bool) (g : Int) (n q : Nat) (H0 H : AHeap) (k c : Nat) (y : AEx) (e' : Env) (H' : AHeap) : Prop := (∃ x, ((RV.drop k).flatMap (letsR up))[n - c]? = some x ∧ Hit H0 q x y e' H') ∨ (((RV.drop k).flatMap (letsR up)).length ≤ n - c ∧ y = .exit 2 ∧ eget e' 0 = .int .i64 n ∧ eget e' 2 = .pointer (some ⟨q, 0, none⟩) ∧ eget e' 5 = .int .i64 ((c + ((RV.drop k).flatMap (letsR up)).length : Nat) : Int) ∧ eget e' 6 = .int .i64 g ∧ Ext H H')
theorem l_L1 {H0 : AHeap} {up : Bool} {g : Int} {q n n0 ib : Nat} (hg : (up = true ∧ g = 1) ∨ (up = false ∧ g = 0)) (hq : H0.n ≤ q) : ∀ (r k c : Nat) (H : AHeap), k + r = 14 → c ≤ n → c + 6 * r < 900 → Ext H0 H → H.get q = some ⟨[.int .i64 0, .complex .f64 0 0], 26, .tip, 0, []⟩ → H.get ib = some ⟨lrow n0 0 RV, 64, .tip, 0, []⟩ → (∀ k r, RV[k]? = some r → H.get (n0 + k) = some (lblk r)) →
    Out (run Try.prog (tabF tab) om1 (.loop [0, 2, 5, 6, 16, 17, 18] b_lontarlaw09_Letter_1) [(0, .int .i64 n), (2, .pointer (some ⟨q, 0, none⟩)), (5, .int .i64 c), (6, .int .i64 g), (16, .slice (some ⟨ib, 0, none⟩) 14 15), (17, .int .i64 14), (18, .int .i64 k)] H) (P1 up g n q H0 H k c) := by
  intro r
  induction r with
  | zero =>
    intro k c H hk hc hc2 hx hgq hgi hgr
    obtain rfl : k = 14 := by omega
    have z : (((14 : Nat) : Int) < 14) = False := by simp
    rw [w_loop_b b_lontarlaw09_Letter_1.eq_1]
    simp only [WA, isStore, isCall, isK, freshI, stampO, List.nil_append, Option.map_some, Option.map_none, Option.bind_some, List.map_cons, List.map_nil, if_true, if_false, Nat.reduceEqDiff, Int.reduceEq, Nat.reduceAdd, Nat.reduceMul, reduceCtorEq, eq_self, Int.reduceLT, Int.reduceLE, Int.reduceToNat, List.length_cons, List.length_nil, List.all_cons, List.all_nil, List.take_zero, List.drop_nil, List.append_nil, List.getElem?_cons_zero, List.getElem?_cons_succ, List.drop_succ_cons, List.drop_zero, List.take_succ_cons, List.cons_append, Nat.reduceLeDiff, Int.cast_ofNat_Int, z]
    exact .inr ⟨Nat.zero_le _, rfl, rfl, rfl, rfl, rfl, Ext.refl _⟩
  | succ r ih =>
    intro k c H hk hc hc2 hx hgq hgi hgr
    have hlt : ((k : Int) < 14) = True := eq_true (by omega)
    obtain ⟨w, hwk, hd⟩ := drop_at (L := RV) (i := k) (by show k < 14; omega)
    obtain ⟨hb, hm, hl, hs⟩ := RV_no w (List.mem_of_getElem? hwk)
    obtain ⟨m, hm'⟩ : ∃ m : Nat, w.2.1 = m := ⟨w.2.1.toNat, by omega⟩
    have hsl : Sl H 3 (.slice (some ⟨ib, 0, none⟩) 14 15) 14 (lrow n0 0 RV) := Sl.new (n := 14) (c := 15) hgi mem_tip (by rw [lrow_len]; rfl)
    obtain ⟨i, o, a1, a2, a3⟩ := hsl.at (k := k) (by omega)
    rw [drop_lrow, hd] at a3
    have a3' : gotLoad (H.get i) o (some 3) H = some (.agg ⟨[.int .i64 w.1, .int .i64 w.2.1, .slice (some ⟨n0 + (0 + k), 0, none⟩) w.2.2.length (w.2.2.length + 1)]⟩, H) := a3
    rw [Nat.zero_add, hm'] at a3'
    obtain ⟨x, hxe⟩ : ∃ x : Value, x = .slice (some ⟨n0 + k, 0, none⟩) w.2.2.length (w.2.2.length + 1) := ⟨_, rfl⟩
    rw [← hxe] at a3'
    have hst := st_row3 (H := H.push ⟨[.int .i64 0, .int .i64 0, .slice none 0 0], 64, .tip, 0, []⟩) (i := H.n) (el := 64) (x := .int .i64 w.1) (y := .int .i64 m) (z := x) (by rw [hxe]; rfl)
    obtain ⟨H1, hH1⟩ : ∃ H1, H1 = H.push ⟨[.int .i64 w.1, .int .i64 m, x], 64, .tip, 1, []⟩ := ⟨_, rfl⟩
    have x1 : Ext H H1 := by rw [hH1]; exact Ext.push H _
    have g1 : H1.get H.n = some ⟨[.int .i64 w.1, .int .i64 m, x], 64, .tip, 1, []⟩ := by rw [hH1]; exact get_push_self
    have hgw := hgr k w hwk
    have hin : Ints H1 x w.2.2 := by
      rw [hxe]
      exact Sl.new (n := w.2.2.length) (c := w.2.2.length + 1) (x1.get hgw) mem_tip (by simp [ints])
    have hlen : ∀ H2, vLen false x H2 = some (.int .i64 w.2.2.length, H2) := fun _ => by rw [hxe]; rfl
    have hw2 : IntKind.i64.wrap ((k : Int) + 1) = ((k + 1 : Nat) : Int) := by rw [wrap64 (by omega) (by omega)]; omega
    have hLR : letsR up w = letF up w.1 m 0 (w.2.2.drop 0) := by unfold letsR; rw [hm']; rfl
    have hlR : (letsR up w).length = w.2.2.length := letF_no fun s h => (hs s h).1
    have hfl : (RV.drop k).flatMap (letsR up) = letsR up w ++ (RV.drop (k + 1)).flatMap (letsR up) := by rw [hd]; rfl
    obtain ⟨y, e', H2, q1, q2⟩ := l_L0 (H0 := H0) (z16 := .slice (some ⟨ib, 0, none⟩) 14 15) (z17 := .int .i64 14) (z18 := .int .i64 k) (el := 64) (n := n) hg hb (m := m) (by omega) hl hs (hx.trans x1) hq (x1.get hgq) g1 hin w.2.2.length 0 c (by omega) hc (by omega)
    rw [show ((0 : Nat) : Int) = 0 from rfl] at q1
    unfold P0 at q2
    rw [← hLR] at q2
    rw [w_loop_b b_lontarlaw09_Letter_1.eq_1]
    rcases q2 with ⟨x', p1, p2⟩ | ⟨p1, rfl, p3, p4, p5, p6, p7, p8, p9, rfl⟩
    · obtain ⟨rfl, p3, p4, p5, p6⟩ := p2
      have hlt' := (List.getElem?_eq_some_iff.1 p1).1
      simp only [WA, isStore, isCall, isK, freshI, stampO, List.nil_append, Option.map_some, Option.map_none, Option.bind_some, List.map_cons, List.map_nil, if_true, if_false, Nat.reduceEqDiff, Int.reduceEq, Nat.reduceAdd, Nat.reduceMul, reduceCtorEq, eq_self, Int.reduceLT, Int.reduceLE, Int.reduceToNat, List.length_cons, List.length_nil, List.all_cons, List.all_nil, List.take_zero, List.drop_nil, List.append_nil, List.getElem?_cons_zero, List.getElem?_cons_succ, List.drop_succ_cons, List.drop_zero, List.take_succ_cons, List.cons_append, Nat.reduceLeDiff, Int.cast_ofNat_Int, hlt, a1, a3', hst, ← hH1, g1, hlen]
      rw [w_enter]
      simp only [WA, isStore, isCall, isK, freshI, stampO, List.nil_append, Option.map_some, Option.map_none, Option.bind_some, List.map_cons, List.map_nil, if_true, if_false, Nat.reduceEqDiff, Int.reduceEq, Nat.reduceAdd, Nat.reduceMul, reduceCtorEq, eq_self, Int.reduceLT, Int.reduceLE, Int.reduceToNat, List.length_cons, List.length_nil, List.all_cons, List.all_nil, List.take_zero, List.drop_nil, List.append_nil, List.getElem?_cons_zero, List.getElem?_cons_succ, List.drop_succ_cons, List.drop_zero, List.take_succ_cons, List.cons_append, Nat.reduceLeDiff, Int.cast_ofNat_Int, q1]
      refine .inl ⟨x', ?_, rfl, p3, p4, p5, p6⟩
      rw [hfl, List.getElem?_append_left hlt']
      exact p1
    · rw [Nat.sub_zero] at p1 p5
      obtain ⟨y, e2, H3, r1, r2⟩ := ih (k + 1) (c + w.2.2.length) H2 (by omega) (by omega) (by omega) (hx.trans x1) (x1.get hgq) (x1.get hgi) (fun k r h => x1.get (hgr k r h))
      simp only [WA, isStore, isCall, isK, freshI, stampO, List.nil_append, Option.map_some, Option.map_none, Option.bind_some, List.map_cons, List.map_nil, if_true, if_false, Nat.reduceEqDiff, Int.reduceEq, Nat.reduceAdd, Nat.reduceMul, reduceCtorEq, eq_self, Int.reduceLT, Int.reduceLE, Int.reduceToNat, List.length_cons, List.length_nil, List.all_cons, List.all_nil, List.take_zero, List.drop_nil, List.append_nil, List.getElem?_cons_zero, List.getElem?_cons_succ, List.drop_succ_cons, List.drop_zero, List.take_succ_cons, List.cons_append, Nat.reduceLeDiff, Int.cast_ofNat_Int, hlt, a1, a3', hst, ← hH1, g1, hlen]
      rw [w_enter]
      simp only [WA, isStore, isCall, isK, freshI, stampO, List.nil_append, Option.map_some, Option.map_none, Option.bind_some, List.map_cons, List.map_nil, if_true, if_false, Nat.reduceEqDiff, Int.reduceEq, Nat.reduceAdd, Nat.reduceMul, reduceCtorEq, eq_self, Int.reduceLT, Int.reduceLE, Int.reduceToNat, List.length_cons, List.length_nil, List.all_cons, List.all_nil, List.take_zero, List.drop_nil, List.append_nil, List.getElem?_cons_zero, List.getElem?_cons_succ, List.drop_succ_cons, List.drop_zero, List.take_succ_cons, List.cons_append, Nat.reduceLeDiff, Int.cast_ofNat_Int, q1, p3, p4, p5, p6, p7, p8, p9, hw2]
      rw [w_enter]
      simp only [WA, isStore, isCall, isK, freshI, stampO, List.nil_append, Option.map_some, Option.map_none, Option.bind_some, List.map_cons, List.map_nil, if_true, if_false, Nat.reduceEqDiff, Int.reduceEq, Nat.reduceAdd, Nat.reduceMul, reduceCtorEq, eq_self, Int.reduceLT, Int.reduceLE, Int.reduceToNat, List.length_cons, List.length_nil, List.all_cons, List.all_nil, List.take_zero, List.drop_nil, List.append_nil, List.getElem?_cons_zero, List.getElem?_cons_succ, List.drop_succ_cons, List.drop_zero, List.take_succ_cons, List.cons_append, Nat.reduceLeDiff, Int.cast_ofNat_Int, p3, p4, p5, p6, p7, p8, p9, r1]
      unfold P1 at r2 ⊢
      rw [hfl]
      rcases r2 with ⟨x', s1, s2⟩ | ⟨s1, s2, s3, s4, s5, s6, s7⟩
      · refine .inl ⟨x', ?_, s2⟩
        rw [List.getElem?_append_right (by omega), hlR]
        rw [show n - c - w.2.2.length = n - (c + w.2.2.length) by omega]
        exact s1
      · refine .inr ⟨by rw [List.length_append, hlR]; omega, s2, s3, s4, ?_, s6, x1.trans s7⟩
        rw [s5, List.length_append, hlR]
        congr 2
        omega
/-- The letters from the small ones, or the great ones, on. -/
def LL : Nat → List Lt
  | 0 => LA false ++ LA true
  | 1 => LA true
  | _ => []
def P2 (n q : Nat) (H0 : AHeap) (k c : Nat) (y : AEx) (e' : Env) (H' : AHeap) : Prop := (∃ x, (LL k)[n - c]? = some x ∧ Hit H0 q x y e' H') ∨ ((LL k).length ≤ n - c ∧ y = .exit 0 ∧ eget e' 2 = .pointer (some ⟨q, 0, none⟩) ∧ Ext H0 H' ∧ H'.get q = some ⟨[.int .i64 0, .complex .f64 0 0], 26, .tip, 0, []⟩)
theorem l_L2 {H0 : AHeap} {q n : Nat} (hq : H0.n ≤ q) : ∀ (r k c : Nat) (H : AHeap), k + r = 2 → c ≤ n → c + 100 * r < 600 → Ext H0 H → H.get q = some ⟨[.int .i64 0, .complex .f64 0 0], 26, .tip, 0, []⟩ →
    Out (run Try.prog (tabF tab) om1 (.loop [0, 2, 5, 6] b_lontarlaw09_Letter_2) [(0, .int .i64 n), (2, .pointer (some ⟨q, 0, none⟩)), (5, .int .i64 c), (6, .int .i64 k)] H) (P2 n q H0 k c) := by
  intro r
  induction r with
  | zero =>
    intro k c H hk hc hc2 hx hgq
    obtain rfl : k = 2 := by omega
    have z : (((2 : Nat) : Int) < 2) = False := by simp
    rw [w_loop_b b_lontarlaw09_Letter_2.eq_1]
    simp only [WA, isStore, isCall, isK, freshI, stampO, List.nil_append, Option.map_some, Option.map_none, Option.bind_some, List.map_cons, List.map_nil, if_true, if_false, Nat.reduceEqDiff, Int.reduceEq, Nat.reduceAdd, Nat.reduceMul, reduceCtorEq, eq_self, Int.reduceLT, Int.reduceLE, Int.reduceToNat, List.length_cons, List.length_nil, List.all_cons, List.all_nil, List.take_zero, List.drop_nil, List.append_nil, List.getElem?_cons_zero, List.getElem?_cons_succ, List.drop_succ_cons, List.drop_zero, List.take_succ_cons, List.cons_append, Nat.reduceLeDiff, Int.cast_ofNat_Int, z]
    exact .inr ⟨Nat.zero_le _, rfl, rfl, hx, hgq⟩
  | succ r ih =>
    intro k c H hk hc hc2 hx hgq
    have hlt : ((k : Int) < 2) = True := eq_true (by omega)
    obtain ⟨up, hup⟩ : ∃ up : Bool, (up = true ∧ (k : Int) = 1) ∨ (up = false ∧ (k : Int) = 0) := by
      by_cases h : k = 1
      · exact ⟨true, .inl ⟨rfl, by omega⟩⟩
      · exact ⟨false, .inr ⟨rfl, by omega⟩⟩
    have hLL : LL k = LA up ++ LL (k + 1) := by
      rcases hup with ⟨rfl, h⟩ | ⟨rfl, h⟩
      · obtain rfl : k = 1 := by omega
        show LA true = LA true ++ []
        rw [List.append_nil]
      · obtain rfl : k = 0 := by omega
        rfl
    obtain ⟨H1, hH1⟩ : ∃ H1, H1 = (pushAll H (RV.map lblk)).push ⟨lrow H.n 0 RV, 64, .tip, 0, []⟩ := ⟨_, rfl⟩
    have hn1 : (pushAll H (RV.map lblk)).n = H.n + 14 := pushAll_n _ _
    have x0 := pushAll_ext (RV.map lblk) H
    have x1 : Ext H H1 := by rw [hH1]; exact x0.trans (Ext.push _ _)
    have g1 : H1.get (H.n + 14) = some ⟨lrow H.n 0 RV, 64, .tip, 0, []⟩ := by rw [hH1, ← hn1]; exact get_push_self
    have gr : ∀ k r, RV[k]? = some r → H1.get (H.n + k) = some (lblk r) := fun k r h => by
      rw [hH1]
      exact (Ext.push _ _).get (pushAll_get (RV.map lblk) H k (lblk r) (by rw [List.getElem?_map, h]; rfl))
    have cr := c_LRows H
    rw [← hH1] at cr
    have hw2 : IntKind.i64.wrap ((k : Int) + 1) = ((k + 1 : Nat) : Int) := by rw [wrap64 (by omega) (by omega)]; omega
    obtain ⟨y, e', H2, q1, q2⟩ := l_L1 (H0 := H0) (n := n) hup hq 14 0 c H1 (by omega) hc (by omega) (hx.trans x1) (x1.get hgq) g1 gr
    rw [show ((0 : Nat) : Int) = 0 from rfl] at q1
    unfold P1 at q2
    rw [List.drop_zero, LA_R] at q2
    have hl14 : ∀ H2 : AHeap, vLen false (.slice (some ⟨H.n + 14, 0, none⟩) 14 15) H2 = some (.int .i64 14, H2) := fun _ => rfl
    rw [w_loop_b b_lontarlaw09_Letter_2.eq_1]
    rcases q2 with ⟨x', p1, p2⟩ | ⟨p1, rfl, p3, p4, p5, p6, p7⟩
    · obtain ⟨rfl, p3, p4, p5, p6⟩ := p2
      have hlt' := (List.getElem?_eq_some_iff.1 p1).1
      simp only [WA, isStore, isCall, isK, freshI, stampO, List.nil_append, Option.map_some, Option.map_none, Option.bind_some, List.map_cons, List.map_nil, if_true, if_false, Nat.reduceEqDiff, Int.reduceEq, Nat.reduceAdd, Nat.reduceMul, reduceCtorEq, eq_self, Int.reduceLT, Int.reduceLE, Int.reduceToNat, List.length_cons, List.length_nil, List.all_cons, List.all_nil, List.take_zero, List.drop_nil, List.append_nil, List.getElem?_cons_zero, List.getElem?_cons_succ, List.drop_succ_cons, List.drop_zero, List.take_succ_cons, List.cons_append, Nat.reduceLeDiff, Int.cast_ofNat_Int, hlt, cr, hl14]
      rw [w_enter]
      simp only [WA, isStore, isCall, isK, freshI, stampO, List.nil_append, Option.map_some, Option.map_none, Option.bind_some, List.map_cons, List.map_nil, if_true, if_false, Nat.reduceEqDiff, Int.reduceEq, Nat.reduceAdd, Nat.reduceMul, reduceCtorEq, eq_self, Int.reduceLT, Int.reduceLE, Int.reduceToNat, List.length_cons, List.length_nil, List.all_cons, List.all_nil, List.take_zero, List.drop_nil, List.append_nil, List.getElem?_cons_zero, List.getElem?_cons_succ, List.drop_succ_cons, List.drop_zero, List.take_succ_cons, List.cons_append, Nat.reduceLeDiff, Int.cast_ofNat_Int, q1]
      refine .inl ⟨x', ?_, rfl, p3, p4, p5, p6⟩
      rw [hLL, List.getElem?_append_left hlt']
      exact p1
    · rw [LA_len] at p1 p5
      obtain ⟨y, e2, H3, r1, r2⟩ := ih (k + 1) (c + 74) H2 (by omega) (by omega) (by omega) ((hx.trans x1).trans p7) (p7.get (x1.get hgq))
      simp only [WA, isStore, isCall, isK, freshI, stampO, List.nil_append, Option.map_some, Option.map_none, Option.bind_some, List.map_cons, List.map_nil, if_true, if_false, Nat.reduceEqDiff, Int.reduceEq, Nat.reduceAdd, Nat.reduceMul, reduceCtorEq, eq_self, Int.reduceLT, Int.reduceLE, Int.reduceToNat, List.length_cons, List.length_nil, List.all_cons, List.all_nil, List.take_zero, List.drop_nil, List.append_nil, List.getElem?_cons_zero, List.getElem?_cons_succ, List.drop_succ_cons, List.drop_zero, List.take_succ_cons, List.cons_append, Nat.reduceLeDiff, Int.cast_ofNat_Int, hlt, cr, hl14]
      rw [w_enter]
      simp only [WA, isStore, isCall, isK, freshI, stampO, List.nil_append, Option.map_some, Option.map_none, Option.bind_some, List.map_cons, List.map_nil, if_true, if_false, Nat.reduceEqDiff, Int.reduceEq, Nat.reduceAdd, Nat.reduceMul, reduceCtorEq, eq_self, Int.reduceLT, Int.reduceLE, Int.reduceToNat, List.length_cons, List.length_nil, List.all_cons, List.all_nil, List.take_zero, List.drop_nil, List.append_nil, List.getElem?_cons_zero, List.getElem?_cons_succ, List.drop_succ_cons, List.drop_zero, List.take_succ_cons, List.cons_append, Nat.reduceLeDiff, Int.cast_ofNat_Int, q1, p3, p4, p5, p6, hw2]
      rw [w_enter]
      simp only [WA, isStore, isCall, isK, freshI, stampO, List.nil_append, Option.map_some, Option.map_none, Option.bind_some, List.map_cons, List.map_nil, if_true, if_false, Nat.reduceEqDiff, Int.reduceEq, Nat.reduceAdd, Nat.reduceMul, reduceCtorEq, eq_self, Int.reduceLT, Int.reduceLE, Int.reduceToNat, List.length_cons, List.length_nil, List.all_cons, List.all_nil, List.take_zero, List.drop_nil, List.append_nil, List.getElem?_cons_zero, List.getElem?_cons_succ, List.drop_succ_cons, List.drop_zero, List.take_succ_cons, List.cons_append, Nat.reduceLeDiff, Int.cast_ofNat_Int, p3, p4, p5, p6, r1]
      unfold P2 at r2 ⊢
      rw [hLL]
      rcases r2 with ⟨x', s1, s2⟩ | ⟨s1, s2⟩
      · refine .inl ⟨x', ?_, s2⟩
        rw [List.getElem?_append_right (by rw [LA_len]; omega), LA_len, show n - c - 74 = n - (c + 74) by omega]
        exact s1
      · exact .inr ⟨by rw [List.length_append, LA_len]; omega, s2⟩
def ltV (n : Nat) : Value := match VL[n]? with
  | some x => .tuple ⟨[.agg ⟨ltC x⟩, .int .i64 x.sc, .bool true]⟩
  | none => .tuple ⟨[.agg ⟨[.int .i64 0, .complex .f64 0 0]⟩, .int .i64 0, .bool false]⟩
/-- The document's n-th letter. -/
theorem c_Letter {n : Nat} {H : AHeap} : Gives (cw Try.prog (tabF tab) om1 10 [.int .i64 n] H) fun v H' => Ext H H' ∧ v = ltV n := by
  rw [cw_run (F := F_lontarlaw09_Letter) rfl rfl rfl]
  unfold F_lontarlaw09_Letter k_lontarlaw09_Letter ltV
  obtain ⟨H1, hH1⟩ : ∃ H1, H1 = H.push ⟨[.int .i64 0, .complex .f64 0 0], 26, .tip, 0, []⟩ := ⟨_, rfl⟩
  have x1 : Ext H H1 := by rw [hH1]; exact Ext.push H _
  have g1 : H1.get H.n = some ⟨[.int .i64 0, .complex .f64 0 0], 26, .tip, 0, []⟩ := by rw [hH1]; exact get_push_self
  obtain ⟨y, e', H2, q1, q2⟩ := l_L2 (H0 := H) (n := n) (Nat.le_refl _) 2 0 0 H1 (by omega) (Nat.zero_le _) (by omega) x1 g1
  rw [show ((0 : Nat) : Int) = 0 from rfl] at q1
  unfold P2 at q2
  rw [show LL 0 = VL from rfl, Nat.sub_zero] at q2
  rcases q2 with ⟨x, p1, p2⟩ | ⟨p1, rfl, p2, p3, p4⟩
  · obtain ⟨rfl, p3, p4, p5, p6, p7⟩ := p2
    rw [p1]
    unfold ltC at p7 ⊢
    simp only [WA, isStore, isCall, isK, freshI, stampO, List.nil_append, Option.map_some, Option.map_none, Option.bind_some, List.map_cons, List.map_nil, if_true, if_false, Nat.reduceEqDiff, Int.reduceEq, Nat.reduceAdd, Nat.reduceMul, reduceCtorEq, eq_self, Int.reduceLT, Int.reduceLE, Int.reduceToNat, List.length_cons, List.length_nil, List.all_cons, List.all_nil, List.take_zero, List.drop_nil, List.append_nil, List.getElem?_cons_zero, List.getElem?_cons_succ, List.drop_succ_cons, List.drop_zero, List.take_succ_cons, List.cons_append, Nat.reduceLeDiff, Int.cast_ofNat_Int, ← hH1]
    rw [w_enter]
    simp only [WA, isStore, isCall, isK, freshI, stampO, List.nil_append, Option.map_some, Option.map_none, Option.bind_some, List.map_cons, List.map_nil, if_true, if_false, Nat.reduceEqDiff, Int.reduceEq, Nat.reduceAdd, Nat.reduceMul, reduceCtorEq, eq_self, Int.reduceLT, Int.reduceLE, Int.reduceToNat, List.length_cons, List.length_nil, List.all_cons, List.all_nil, List.take_zero, List.drop_nil, List.append_nil, List.getElem?_cons_zero, List.getElem?_cons_succ, List.drop_succ_cons, List.drop_zero, List.take_succ_cons, List.cons_append, Nat.reduceLeDiff, Int.cast_ofNat_Int, q1, p3, p4, p5, ress_cell, rd_load, p7]
    exact p6
  · have hst := st_let (H := H2) (i := H.n) (ver := 0) (el := 26) (a := .int .i64 0) (b := .complex .f64 0 0) (x := .int .i64 0) (y := .complex .f64 0 0) rfl
    have g3 := upd_self (c := ⟨[.int .i64 0, .complex .f64 0 0], 26, .tip, 0 + 1, []⟩) p4
    have x3 : Ext H (H2.upd H.n ⟨[.int .i64 0, .complex .f64 0 0], 26, .tip, 0 + 1, []⟩) := Ext.upd p3 p4 (Nat.le_refl _)
    rw [List.getElem?_eq_none p1]
    simp only [Nat.zero_add] at hst g3 x3
    simp only [WA, isStore, isCall, isK, freshI, stampO, List.nil_append, Option.map_some, Option.map_none, Option.bind_some, List.map_cons, List.map_nil, if_true, if_false, Nat.reduceEqDiff, Int.reduceEq, Nat.reduceAdd, Nat.reduceMul, reduceCtorEq, eq_self, Int.reduceLT, Int.reduceLE, Int.reduceToNat, List.length_cons, List.length_nil, List.all_cons, List.all_nil, List.take_zero, List.drop_nil, List.append_nil, List.getElem?_cons_zero, List.getElem?_cons_succ, List.drop_succ_cons, List.drop_zero, List.take_succ_cons, List.cons_append, Nat.reduceLeDiff, Int.cast_ofNat_Int, ← hH1]
    rw [w_enter]
    simp only [WA, isStore, isCall, isK, freshI, stampO, List.nil_append, Option.map_some, Option.map_none, Option.bind_some, List.map_cons, List.map_nil, if_true, if_false, Nat.reduceEqDiff, Int.reduceEq, Nat.reduceAdd, Nat.reduceMul, reduceCtorEq, eq_self, Int.reduceLT, Int.reduceLE, Int.reduceToNat, List.length_cons, List.length_nil, List.all_cons, List.all_nil, List.take_zero, List.drop_nil, List.append_nil, List.getElem?_cons_zero, List.getElem?_cons_succ, List.drop_succ_cons, List.drop_zero, List.take_succ_cons, List.cons_append, Nat.reduceLeDiff, Int.cast_ofNat_Int, q1, p2, v_letZ, p4, hst, ress_cell, rd_load, g3]
    exact x3
end Go.Proofs.Ytfhchimfdlhmaaa

/-! Layer 13: a scalar's letter, and a small letter's bytes, by the document. -/
set_option linter.unusedSimpArgs false
set_option linter.unusedVariables false
namespace Go.Proofs.Ytfhchimfdlhmaaa
open Go Lon
set_option maxRecDepth 100000
def PS (s : Int) (q : Nat) (H0 : AHeap) (k : Nat) (y : AEx) (e' : Env) (H' : AHeap) : Prop := eget e' 2 = .pointer (some ⟨q, 0, none⟩) ∧ ((sp (VL.drop k) s = none ∧ y = .exit 0 ∧ Ext H0 H' ∧ H'.get q = some ⟨[.int .i64 0, .complex .f64 0 0], 26, .tip, 0, []⟩) ∨ (∃ x, sp (VL.drop k) s = some x ∧ y = .ret ∧ eget e' 3 = .bool true ∧ Ext H0 H' ∧ H'.get q = some ⟨ltC x, 26, .tip, 1, []⟩))
theorem l_S0 {H0 : AHeap} {q : Nat} {s : Int} (hq : H0.n ≤ q) : ∀ (c k : Nat) (H : AHeap), k + c = 148 → Ext H0 H → H.get q = some ⟨[.int .i64 0, .complex .f64 0 0], 26, .tip, 0, []⟩ →
    Out (run Try.prog (tabF tab) om1 (.loop [0, 2, 4] b_lontarlaw09_Split_0) [(0, .int .i64 s), (2, .pointer (some ⟨q, 0, none⟩)), (4, .int .i64 k)] H) (PS s q H0 k) := by
  intro c
  induction c with
  | zero =>
    intro k H hk hx hgq
    obtain rfl : k = 148 := by omega
    have z : (((148 : Nat) : Int) < 148) = False := by simp
    rw [w_loop_b b_lontarlaw09_Split_0.eq_1]
    simp only [WA, isStore, isCall, isK, freshI, stampO, List.nil_append, Option.map_some, Option.map_none, Option.bind_some, List.map_cons, List.map_nil, if_true, if_false, Nat.reduceEqDiff, Int.reduceEq, Nat.reduceAdd, Nat.reduceMul, reduceCtorEq, eq_self, Int.reduceLT, Int.reduceLE, Int.reduceToNat, List.length_cons, List.length_nil, List.all_cons, List.all_nil, List.take_zero, List.drop_nil, List.append_nil, List.getElem?_cons_zero, List.getElem?_cons_succ, List.drop_succ_cons, List.drop_zero, List.take_succ_cons, List.cons_append, Nat.reduceLeDiff, Int.cast_ofNat_Int, z]
    unfold PS
    rw [List.drop_of_length_le (by rw [VL_len]; exact Nat.le_refl _)]
    exact ⟨rfl, .inl ⟨rfl, rfl, hx, hgq⟩⟩
  | succ c ih =>
    intro k H hk hx hgq
    have hlt : ((k : Int) < 148) = True := eq_true (by omega)
    obtain ⟨x, hxk, hd⟩ := drop_at (L := VL) (i := k) (by rw [VL_len]; omega)
    have hw2 : IntKind.i64.wrap ((k : Int) + 1) = ((k + 1 : Nat) : Int) := by rw [wrap64 (by omega) (by omega)]; omega
    obtain ⟨v, H1, c1, x1, rfl⟩ := c_Letter (n := k) (H := H)
    unfold ltV at c1
    rw [hxk] at c1
    unfold ltC at c1
    have hst := st_let (H := H1.push ⟨[.int .i64 0, .complex .f64 0 0], 26, .tip, 0, []⟩) (i := H1.n) (ver := 0) (el := 26) (a := .int .i64 0) (b := .complex .f64 0 0) (x := .int .i64 x.base) (y := .complex .f64 (fb x.mark) (fb x.tone)) rfl
    simp only [Nat.zero_add] at hst
    obtain ⟨H2, hH2⟩ : ∃ H2, H2 = H1.push ⟨[.int .i64 x.base, .complex .f64 (fb x.mark) (fb x.tone)], 26, .tip, 1, []⟩ := ⟨_, rfl⟩
    have x2 : Ext H1 H2 := by rw [hH2]; exact Ext.push H1 _
    have g2 : H2.get H1.n = some ⟨[.int .i64 x.base, .complex .f64 (fb x.mark) (fb x.tone)], 26, .tip, 1, []⟩ := by rw [hH2]; exact get_push_self
    have hgq2 := (x1.trans x2).get hgq
    have x02 := hx.trans (x1.trans x2)
    have hsp : sp (VL.drop k) s = if x.sc = s then some x else sp (VL.drop (k + 1)) s := by rw [hd]; rfl
    rw [w_loop_b b_lontarlaw09_Split_0.eq_1]
    by_cases he : x.sc = s
    · have he' : (x.sc = s) = True := eq_true he
      have hs3 := st_let (H := H2) (i := q) (ver := 0) (el := 26) (a := .int .i64 0) (b := .complex .f64 0 0) (x := .int .i64 x.base) (y := .complex .f64 (fb x.mark) (fb x.tone)) rfl
      have g3 := upd_self (c := ⟨ltC x, 26, .tip, 1, []⟩) hgq2
      have x3 : Ext H0 (H2.upd q ⟨ltC x, 26, .tip, 1, []⟩) := Ext.upd x02 hgq2 hq
      unfold ltC at g3 x3
      simp only [WA, isStore, isCall, isK, freshI, stampO, List.nil_append, Option.map_some, Option.map_none, Option.bind_some, List.map_cons, List.map_nil, if_true, if_false, Nat.reduceEqDiff, Int.reduceEq, Nat.reduceAdd, Nat.reduceMul, reduceCtorEq, eq_self, Int.reduceLT, Int.reduceLE, Int.reduceToNat, List.length_cons, List.length_nil, List.all_cons, List.all_nil, List.take_zero, List.drop_nil, List.append_nil, List.getElem?_cons_zero, List.getElem?_cons_succ, List.drop_succ_cons, List.drop_zero, List.take_succ_cons, List.cons_append, Nat.reduceLeDiff, Int.cast_ofNat_Int, hlt, c1, hst, ← hH2, g2, he', hgq2, hs3]
      unfold PS
      rw [hsp, if_pos he]
      exact ⟨rfl, .inr ⟨x, rfl, rfl, rfl, x3, g3⟩⟩
    · have he' : (x.sc = s) = False := eq_false he
      obtain ⟨y, e', H', r1, r2⟩ := ih (k + 1) H2 (by omega) x02 hgq2
      simp only [WA, isStore, isCall, isK, freshI, stampO, List.nil_append, Option.map_some, Option.map_none, Option.bind_some, List.map_cons, List.map_nil, if_true, if_false, Nat.reduceEqDiff, Int.reduceEq, Nat.reduceAdd, Nat.reduceMul, reduceCtorEq, eq_self, Int.reduceLT, Int.reduceLE, Int.reduceToNat, List.length_cons, List.length_nil, List.all_cons, List.all_nil, List.take_zero, List.drop_nil, List.append_nil, List.getElem?_cons_zero, List.getElem?_cons_succ, List.drop_succ_cons, List.drop_zero, List.take_succ_cons, List.cons_append, Nat.reduceLeDiff, Int.cast_ofNat_Int, hlt, c1, hst, ← hH2, g2, he', hw2]
      rw [w_enter]
      simp only [WA, isStore, isCall, isK, freshI, stampO, List.nil_append, Option.map_some, Option.map_none, Option.bind_some, List.map_cons, List.map_nil, if_true, if_false, Nat.reduceEqDiff, Int.reduceEq, Nat.reduceAdd, Nat.reduceMul, reduceCtorEq, eq_self, Int.reduceLT, Int.reduceLE, Int.reduceToNat, List.length_cons, List.length_nil, List.all_cons, List.all_nil, List.take_zero, List.drop_nil, List.append_nil, List.getElem?_cons_zero, List.getElem?_cons_succ, List.drop_succ_cons, List.drop_zero, List.take_succ_cons, List.cons_append, Nat.reduceLeDiff, Int.cast_ofNat_Int, r1]
      unfold PS at r2 ⊢
      rw [hsp, if_neg he]
      exact r2
/-- A scalar's letter, by the document. -/
theorem c_SplitD {s : Int} {H : AHeap} : Gives (cw Try.prog (tabF tab) om1 31 [.int .i64 s] H) fun v H' => Ext H H' ∧ v = spV s := by
  rw [cw_run (F := F_lontarlaw09_Split) rfl rfl rfl]
  unfold F_lontarlaw09_Split k_lontarlaw09_Split spV
  obtain ⟨H1, hH1⟩ : ∃ H1, H1 = H.push ⟨[.int .i64 0, .complex .f64 0 0], 26, .tip, 0, []⟩ := ⟨_, rfl⟩
  have x1 : Ext H H1 := by rw [hH1]; exact Ext.push H _
  have g1 : H1.get H.n = some ⟨[.int .i64 0, .complex .f64 0 0], 26, .tip, 0, []⟩ := by rw [hH1]; exact get_push_self
  obtain ⟨y, e', H3, r1, r0, r2⟩ := l_S0 (q := H.n) (s := s) (Nat.le_refl _) 148 0 H1 (by omega) x1 g1
  rw [List.drop_zero] at r2
  rw [show ((0 : Nat) : Int) = 0 from rfl] at r1
  rcases r2 with ⟨n1, rfl, x3, g3⟩ | ⟨x, n1, rfl, n2, x3, g3⟩
  · have hst := st_let (H := H3) (i := H.n) (ver := 0) (el := 26) (a := .int .i64 0) (b := .complex .f64 0 0) (x := .int .i64 0) (y := .complex .f64 0 0) rfl
    have g4 := upd_self (c := ⟨[.int .i64 0, .complex .f64 0 0], 26, .tip, 0 + 1, []⟩) g3
    have x4 : Ext H (H3.upd H.n ⟨[.int .i64 0, .complex .f64 0 0], 26, .tip, 0 + 1, []⟩) := Ext.upd x3 g3 (Nat.le_refl _)
    rw [n1]
    simp only [Nat.zero_add] at hst g4 x4
    simp only [WA, isStore, isCall, isK, freshI, stampO, List.nil_append, Option.map_some, Option.map_none, Option.bind_some, List.map_cons, List.map_nil, if_true, if_false, Nat.reduceEqDiff, Int.reduceEq, Nat.reduceAdd, Nat.reduceMul, reduceCtorEq, eq_self, Int.reduceLT, Int.reduceLE, Int.reduceToNat, List.length_cons, List.length_nil, List.all_cons, List.all_nil, List.take_zero, List.drop_nil, List.append_nil, List.getElem?_cons_zero, List.getElem?_cons_succ, List.drop_succ_cons, List.drop_zero, List.take_succ_cons, List.cons_append, Nat.reduceLeDiff, Int.cast_ofNat_Int, ← hH1]
    rw [w_enter]
    simp only [WA, isStore, isCall, isK, freshI, stampO, List.nil_append, Option.map_some, Option.map_none, Option.bind_some, List.map_cons, List.map_nil, if_true, if_false, Nat.reduceEqDiff, Int.reduceEq, Nat.reduceAdd, Nat.reduceMul, reduceCtorEq, eq_self, Int.reduceLT, Int.reduceLE, Int.reduceToNat, List.length_cons, List.length_nil, List.all_cons, List.all_nil, List.take_zero, List.drop_nil, List.append_nil, List.getElem?_cons_zero, List.getElem?_cons_succ, List.drop_succ_cons, List.drop_zero, List.take_succ_cons, List.cons_append, Nat.reduceLeDiff, Int.cast_ofNat_Int, r1, r0, v_letZ, g3, hst, ress_cell, rd_load, g4]
    exact x4
  · rw [n1]
    unfold ltC at g3 ⊢
    simp only [WA, isStore, isCall, isK, freshI, stampO, List.nil_append, Option.map_some, Option.map_none, Option.bind_some, List.map_cons, List.map_nil, if_true, if_false, Nat.reduceEqDiff, Int.reduceEq, Nat.reduceAdd, Nat.reduceMul, reduceCtorEq, eq_self, Int.reduceLT, Int.reduceLE, Int.reduceToNat, List.length_cons, List.length_nil, List.all_cons, List.all_nil, List.take_zero, List.drop_nil, List.append_nil, List.getElem?_cons_zero, List.getElem?_cons_succ, List.drop_succ_cons, List.drop_zero, List.take_succ_cons, List.cons_append, Nat.reduceLeDiff, Int.cast_ofNat_Int, ← hH1]
    rw [w_enter]
    simp only [WA, isStore, isCall, isK, freshI, stampO, List.nil_append, Option.map_some, Option.map_none, Option.bind_some, List.map_cons, List.map_nil, if_true, if_false, Nat.reduceEqDiff, Int.reduceEq, Nat.reduceAdd, Nat.reduceMul, reduceCtorEq, eq_self, Int.reduceLT, Int.reduceLE, Int.reduceToNat, List.length_cons, List.length_nil, List.all_cons, List.all_nil, List.take_zero, List.drop_nil, List.append_nil, List.getElem?_cons_zero, List.getElem?_cons_succ, List.drop_succ_cons, List.drop_zero, List.take_succ_cons, List.cons_append, Nat.reduceLeDiff, Int.cast_ofNat_Int, r1, r0, n2, ress_cell, rd_load, g3]
    exact x3
/-- Whether floats are alike. -/
noncomputable def feqV (w u : Value) : Option Value := if ground u = true then
    match pureRun Try.prog (do eqGuard .eql 22 (.tmp 0) (.const w) u w; Next.value <$> binOp .eql 22 u w) with
    | some (.value v) => if ground v = true then some v else none
    | _ => none
  else none
theorem st_feq {cf : CallF} {e : Env} {H : AHeap} {i : Nat} {w : Value} (hw : ground w = true) : stepA Try.prog cf e H (.gen ⟨none, (.binOp .eql 22 (.tmp i) (.const w) 22), 4, "", #[], none⟩) = (feqV w (ev e (.tmp i))).map fun v => (v, H) := by
  simp [stepA, pureA, feqV, runG, execOp, Op.operands, ev, hw]
  rfl
theorem feq1 : ∀ m, m < 6 → feqV (.float .f64 4607182418800017408) (.float .f64 (fb m)) = some (.bool (Nat.beq m 1)) := six_of (by kernel_rfl) (by kernel_rfl) (by kernel_rfl) (by kernel_rfl) (by kernel_rfl) (by kernel_rfl)
theorem feq2 : ∀ m, m < 6 → feqV (.float .f64 4611686018427387904) (.float .f64 (fb m)) = some (.bool (Nat.beq m 2)) := six_of (by kernel_rfl) (by kernel_rfl) (by kernel_rfl) (by kernel_rfl) (by kernel_rfl) (by kernel_rfl)
theorem feq3 : ∀ m, m < 6 → feqV (.float .f64 4613937818241073152) (.float .f64 (fb m)) = some (.bool (Nat.beq m 3)) := six_of (by kernel_rfl) (by kernel_rfl) (by kernel_rfl) (by kernel_rfl) (by kernel_rfl) (by kernel_rfl)
end Go.Proofs.Ytfhchimfdlhmaaa

/-! Layer 13: a small letter's bytes, by the document. -/
set_option linter.unusedSimpArgs false
set_option linter.unusedVariables false
namespace Go.Proofs.Ytfhchimfdlhmaaa
open Go Lon
set_option maxRecDepth 100000
def PA : List (Int × Int) := [(236, 236), (237, 237), (7881, 230), (297, 243), (7883, 242), (7925, 238), (273, 241)]
def prC (p : Int × Int) : List Value := [.int .i64 p.1, .int .i64 p.2]
def pa : List (Int × Int) → Int → Option Int
  | [], _ => none
  | p :: L, s => if p.1 = s then some p.2 else pa L s
theorem pa_al {s : Int} : pa PA s = if alV s > 0 then some (alV s) else none := by
  unfold PA pa pa pa pa pa pa pa pa alV
  by_cases h1 : s = 236
  · subst h1; rfl
  by_cases h2 : s = 237
  · subst h2; rfl
  by_cases h3 : s = 7881
  · subst h3; rfl
  by_cases h4 : s = 297
  · subst h4; rfl
  by_cases h5 : s = 7883
  · subst h5; rfl
  by_cases h6 : s = 7925
  · subst h6; rfl
  by_cases h7 : s = 273
  · subst h7; rfl
  rw [if_neg (Ne.symm h1), if_neg (Ne.symm h2), if_neg (Ne.symm h3), if_neg (Ne.symm h4), if_neg (Ne.symm h5), if_neg (Ne.symm h6), if_neg (Ne.symm h7), if_neg h1, if_neg h2, if_neg h3, if_neg h4, if_neg h5, if_neg h6, if_neg h7]
  rfl
theorem drop_prs : ∀ (L : List (Int × Int)) (k : Nat), (L.flatMap prC).drop (k * 2) = (L.drop k).flatMap prC
  | [], k => by simp
  | x :: L, 0 => by simp
  | x :: L, k + 1 => by rw [show (k + 1) * 2 = k * 2 + 1 + 1 by omega]; exact drop_prs L k
theorem st_pr2 {H : AHeap} {i : Nat} {a b : Int} {el : TypeId} : gotStore (some ⟨[.int .i64 0, .int .i64 0], el, .tip, 0, []⟩) i 0 (.agg ⟨[.int .i64 a, .int .i64 b]⟩) 2 H = some (.tuple ⟨[]⟩, H.upd i ⟨[.int .i64 a, .int .i64 b], el, .tip, 1, []⟩) := by
  have := got_store (H := H) (cells := [.int .i64 0, .int .i64 0]) (el := el) (ver := 0) (anc := []) (i := i) (o := 0) (n := 2) (v := .agg ⟨[.int .i64 a, .int .i64 b]⟩) rfl rfl (Nat.le_refl 2)
  rw [this]
  rfl
theorem ld_c0 {H : AHeap} {a b : Value} {el : TypeId} {ver : Nat} (ha : one a = true) : gotLoad (some ⟨[a, b], el, .tip, ver, []⟩) 0 none H = some (a, H) := by
  cases a <;> first | rfl | simp [one] at ha
/-- New numbers, that may be written. -/
def NewI (H H' : AHeap) (v : Value) (l : List Int) : Prop := ∃ q, v = .slice (some ⟨q, 0, none⟩) l.length (l.length + 1) ∧ H.n ≤ q ∧ H'.get q = some ⟨ints l, 3, .tip, 0, []⟩
theorem NewI.mono {H H1 H' : AHeap} {v : Value} {l : List Int} (h : NewI H1 H' v l) (hx : Ext H H1) : NewI H H' v l := by
  obtain ⟨q, h1, h2, h3⟩ := h
  exact ⟨q, h1, Nat.le_trans hx.1 h2, h3⟩
theorem NewI.ints {H H' : AHeap} {v : Value} {l : List Int} (h : NewI H H' v l) : Ints H' v l := by
  obtain ⟨q, rfl, h2, h3⟩ := h
  exact Sl.new (n := l.length) (c := l.length + 1) h3 mem_tip (by simp [Lon.ints])
theorem new1 {H H' : AHeap} {a : Int} (hx : Ext H H') : Ext H (H'.push ⟨[.int .i64 a], 3, .tip, 0, []⟩) ∧ NewI H (H'.push ⟨[.int .i64 a], 3, .tip, 0, []⟩) (.slice (some ⟨H'.n, 0, none⟩) 1 2) [a] := ⟨hx.trans (Ext.push H' _), H'.n, rfl, hx.1, get_push_self⟩
theorem new2 {H H' : AHeap} {a b : Int} (hx : Ext H H') : Ext H (H'.push ⟨[.int .i64 a, .int .i64 b], 3, .tip, 0, []⟩) ∧ NewI H (H'.push ⟨[.int .i64 a, .int .i64 b], 3, .tip, 0, []⟩) (.slice (some ⟨H'.n, 0, none⟩) 2 3) [a, b] := ⟨hx.trans (Ext.push H' _), H'.n, rfl, hx.1, get_push_self⟩
def Psm (s : Int) (z3 : Value) (H0 : AHeap) (k : Nat) (y : AEx) (e' : Env) (H' : AHeap) : Prop := Ext H0 H' ∧ ((pa (PA.drop k) s = none ∧ y = .exit 0 ∧ eget e' 3 = z3) ∨ (∃ v, pa (PA.drop k) s = some v ∧ y = .ret ∧ NewI H0 H' (eget e' 2) [v]))
theorem l_m0 {H0 : AHeap} {z3 : Value} {s : Int} {ib : Nat} : ∀ (c k : Nat) (H : AHeap), k + c = 7 → Ext H0 H → H.get ib = some ⟨PA.flatMap prC, 69, .tip, 0, []⟩ →
    Out (run Try.prog (tabF tab) om1 (.loop [3, 4, 24, 25, 26] b_lontarlaw13_small_0) [(3, z3), (4, .int .i64 s), (24, .slice (some ⟨ib, 0, none⟩) 7 8), (25, .int .i64 7), (26, .int .i64 k)] H) (Psm s z3 H0 k) := by
  intro c
  induction c with
  | zero =>
    intro k H hk hx hg
    obtain rfl : k = 7 := by omega
    have z : (((7 : Nat) : Int) < 7) = False := by simp
    rw [w_loop_b b_lontarlaw13_small_0.eq_1]
    simp only [WA, isStore, isCall, isK, freshI, stampO, List.nil_append, Option.map_some, Option.map_none, Option.bind_some, List.map_cons, List.map_nil, if_true, if_false, Nat.reduceEqDiff, Int.reduceEq, Nat.reduceAdd, Nat.reduceMul, reduceCtorEq, eq_self, Int.reduceLT, Int.reduceLE, Int.reduceToNat, List.length_cons, List.length_nil, List.all_cons, List.all_nil, List.take_zero, List.drop_nil, List.append_nil, List.getElem?_cons_zero, List.getElem?_cons_succ, List.drop_succ_cons, List.drop_zero, List.take_succ_cons, List.cons_append, Nat.reduceLeDiff, Int.cast_ofNat_Int, z]
    exact ⟨hx, .inl ⟨rfl, rfl, rfl⟩⟩
  | succ c ih =>
    intro k H hk hx hg
    have hlt : ((k : Int) < 7) = True := eq_true (by omega)
    obtain ⟨p, hpk, hd⟩ := drop_at (L := PA) (i := k) (by show k < 7; omega)
    have hsl : Sl H 2 (.slice (some ⟨ib, 0, none⟩) 7 8) 7 (PA.flatMap prC) := Sl.new (n := 7) (c := 8) hg mem_tip rfl
    obtain ⟨i, o, a1, a2, a3⟩ := hsl.at (k := k) (by omega)
    rw [drop_prs, hd] at a3
    have a3' : gotLoad (H.get i) o (some 2) H = some (.agg ⟨[.int .i64 p.1, .int .i64 p.2]⟩, H) := a3
    have hst := st_pr2 (H := H.push ⟨[.int .i64 0, .int .i64 0], 69, .tip, 0, []⟩) (i := H.n) (a := p.1) (b := p.2) (el := 69)
    obtain ⟨H1, hH1⟩ : ∃ H1, H1 = H.push ⟨[.int .i64 p.1, .int .i64 p.2], 69, .tip, 1, []⟩ := ⟨_, rfl⟩
    have x1 : Ext H H1 := by rw [hH1]; exact Ext.push H _
    have g1 : H1.get H.n = some ⟨[.int .i64 p.1, .int .i64 p.2], 69, .tip, 1, []⟩ := by rw [hH1]; exact get_push_self
    have hw2 : IntKind.i64.wrap ((k : Int) + 1) = ((k + 1 : Nat) : Int) := by rw [wrap64 (by omega) (by omega)]; omega
    have hpa : pa (PA.drop k) s = if p.1 = s then some p.2 else pa (PA.drop (k + 1)) s := by rw [hd]; rfl
    rw [w_loop_b b_lontarlaw13_small_0.eq_1]
    by_cases he : p.1 = s
    · have he' : (p.1 = s) = True := eq_true he
      simp only [WA, isStore, isCall, isK, freshI, stampO, List.nil_append, Option.map_some, Option.map_none, Option.bind_some, List.map_cons, List.map_nil, if_true, if_false, Nat.reduceEqDiff, Int.reduceEq, Nat.reduceAdd, Nat.reduceMul, reduceCtorEq, eq_self, Int.reduceLT, Int.reduceLE, Int.reduceToNat, List.length_cons, List.length_nil, List.all_cons, List.all_nil, List.take_zero, List.drop_nil, List.append_nil, List.getElem?_cons_zero, List.getElem?_cons_succ, List.drop_succ_cons, List.drop_zero, List.take_succ_cons, List.cons_append, Nat.reduceLeDiff, Int.cast_ofNat_Int, hlt, a1, a3', hst, ← hH1, g1, he', v_int1]
      unfold Psm
      rw [hpa, if_pos he]
      have := new1 (H := H0) (a := p.2) (hx.trans x1)
      exact ⟨this.1, .inr ⟨p.2, rfl, rfl, this.2⟩⟩
    · have he' : (p.1 = s) = False := eq_false he
      obtain ⟨y, e', H', r1, r2⟩ := ih (k + 1) H1 (by omega) (hx.trans x1) (x1.get hg)
      simp only [WA, isStore, isCall, isK, freshI, stampO, List.nil_append, Option.map_some, Option.map_none, Option.bind_some, List.map_cons, List.map_nil, if_true, if_false, Nat.reduceEqDiff, Int.reduceEq, Nat.reduceAdd, Nat.reduceMul, reduceCtorEq, eq_self, Int.reduceLT, Int.reduceLE, Int.reduceToNat, List.length_cons, List.length_nil, List.all_cons, List.all_nil, List.take_zero, List.drop_nil, List.append_nil, List.getElem?_cons_zero, List.getElem?_cons_succ, List.drop_succ_cons, List.drop_zero, List.take_succ_cons, List.cons_append, Nat.reduceLeDiff, Int.cast_ofNat_Int, hlt, a1, a3', hst, ← hH1, g1, he', hw2]
      rw [w_enter]
      simp only [WA, isStore, isCall, isK, freshI, stampO, List.nil_append, Option.map_some, Option.map_none, Option.bind_some, List.map_cons, List.map_nil, if_true, if_false, Nat.reduceEqDiff, Int.reduceEq, Nat.reduceAdd, Nat.reduceMul, reduceCtorEq, eq_self, Int.reduceLT, Int.reduceLE, Int.reduceToNat, List.length_cons, List.length_nil, List.all_cons, List.all_nil, List.take_zero, List.drop_nil, List.append_nil, List.getElem?_cons_zero, List.getElem?_cons_succ, List.drop_succ_cons, List.drop_zero, List.take_succ_cons, List.cons_append, Nat.reduceLeDiff, Int.cast_ofNat_Int, r1]
      unfold Psm at r2 ⊢
      rw [hpa, if_neg he]
      exact r2
theorem v_prs {H : AHeap} : vBslice 69 7 2 [.int .i64 0, .int .i64 0] [(0, 2, .agg ⟨[.int .i64 236, .int .i64 236]⟩), (2, 2, .agg ⟨[.int .i64 237, .int .i64 237]⟩), (4, 2, .agg ⟨[.int .i64 7881, .int .i64 230]⟩), (6, 2, .agg ⟨[.int .i64 297, .int .i64 243]⟩), (8, 2, .agg ⟨[.int .i64 7883, .int .i64 242]⟩), (10, 2, .agg ⟨[.int .i64 7925, .int .i64 238]⟩), (12, 2, .agg ⟨[.int .i64 273, .int .i64 241]⟩)] H = some (.slice (some ⟨H.n, 0, none⟩) 7 8, H.push ⟨PA.flatMap prC, 69, .tip, 0, []⟩) := rfl
theorem v_pr {H : AHeap} {a b : Int} : vBuild [.int .i64 0, .int .i64 0] [(0, 1, .int .i64 a), (1, 1, .int .i64 b)] H = some (.agg ⟨[.int .i64 a, .int .i64 b]⟩, H) := rfl
theorem v_ints6 {H : AHeap} {a b c d e f : Int} : vBslice 3 6 1 [.int .i64 0] [(0, 1, .int .i64 a), (1, 1, .int .i64 b), (2, 1, .int .i64 c), (3, 1, .int .i64 d), (4, 1, .int .i64 e), (5, 1, .int .i64 f)] H = some (.slice (some ⟨H.n, 0, none⟩) 6 7, H.push ⟨ints [a, b, c, d, e, f], 3, .tip, 0, []⟩) := rfl
/-- A small letter's bytes, by the document. -/
theorem c_small {n : Nat} {x : Lt} {H : AHeap} (hn : VL[n]? = some x) (hm : x.mark < 6) (ht : x.tone < 6) (h3 : x.mark = 3 → x.base = 111 ∨ x.base = 117) : Gives (cw Try.prog (tabF tab) om1 13 [.int .i64 n] H) fun v H' => Ext H H' ∧ NewI H H' v (smF x.base x.mark x.tone x.sc) := by
  rw [cw_run (F := F_lontarlaw13_small) rfl rfl rfl]
  unfold F_lontarlaw13_small k_lontarlaw13_small smF
  obtain ⟨b, m, t, s⟩ := x
  simp only at hm ht h3 ⊢
  obtain ⟨v, H1, c1, x1, rfl⟩ := c_Letter (n := n) (H := H)
  unfold ltV at c1
  rw [hn] at c1
  unfold ltC at c1
  simp only at c1
  have hst := st_let (H := H1.push ⟨[.int .i64 0, .complex .f64 0 0], 26, .tip, 0, []⟩) (i := H1.n) (ver := 0) (el := 26) (a := .int .i64 0) (b := .complex .f64 0 0) (x := .int .i64 b) (y := .complex .f64 (fb m) (fb t)) rfl
  simp only [Nat.zero_add] at hst
  obtain ⟨H2, hH2⟩ : ∃ H2, H2 = H1.push ⟨[.int .i64 b, .complex .f64 (fb m) (fb t)], 26, .tip, 1, []⟩ := ⟨_, rfl⟩
  have x2 : Ext H1 H2 := by rw [hH2]; exact Ext.push H1 _
  have g2 : H2.get H1.n = some ⟨[.int .i64 b, .complex .f64 (fb m) (fb t)], 26, .tip, 1, []⟩ := by rw [hH2]; exact get_push_self
  obtain ⟨H3, hH3⟩ : ∃ H3, H3 = H2.push ⟨PA.flatMap prC, 69, .tip, 0, []⟩ := ⟨_, rfl⟩
  have x3 : Ext H2 H3 := by rw [hH3]; exact Ext.push H2 _
  have g3 : H3.get H2.n = some ⟨PA.flatMap prC, 69, .tip, 0, []⟩ := by rw [hH3]; exact get_push_self
  have vp := v_prs (H := H2)
  rw [← hH3] at vp
  have hl7 : ∀ H4 : AHeap, vLen false (.slice (some ⟨H2.n, 0, none⟩) 7 8) H4 = some (.int .i64 7, H4) := fun _ => rfl
  obtain ⟨y, e', H4, q1, x4, q2⟩ := l_m0 (H0 := H3) (z3 := .pointer (some ⟨H1.n, 0, none⟩)) (s := s) 7 0 H3 (by omega) (Ext.refl _) g3
  rw [show ((0 : Nat) : Int) = 0 from rfl] at q1
  rw [List.drop_zero, pa_al] at q2
  have x04 := ((x1.trans x2).trans x3).trans x4
  rcases q2 with ⟨n1, rfl, n2⟩ | ⟨v, n1, rfl, n2⟩
  · have ha : ¬ alV s > 0 := fun h => by rw [if_pos h] at n1; exact absurd n1 (by simp)
    rw [if_neg ha]
    have g4 := (x3.trans x4).get g2
    obtain ⟨c, hc⟩ : ∃ c, (sgV m)[t]? = some c := ⟨_, List.getElem?_eq_getElem (by rw [sgV_len]; exact ht)⟩
    have hcd : (sgV m).getD t 0 = c := by rw [List.getD_eq_getElem?_getD, hc]; rfl
    rw [hcd]
    have b2 := back_is t ht
    have f1 := feq1 m hm
    have f2 := feq2 m hm
    have f3 := feq3 m hm
    have gr : ∀ w : Nat, ground (.float .f64 w) = true := fun _ => rfl
    obtain ⟨H5, hH5⟩ : ∃ H5, H5 = H4.push ⟨ints [0, 248, 249, 251, 245, 239], 3, .tip, 0, []⟩ := ⟨_, rfl⟩
    have x5 : Ext H4 H5 := by rw [hH5]; exact Ext.push H4 _
    have g5 := x5.get g4
    have v5 := v_ints6 (H := H4) (a := 0) (b := 248) (c := 249) (d := 251) (e := 245) (f := 239)
    rw [← hH5] at v5
    have i5 : Ints H5 (.slice (some ⟨H4.n, 0, none⟩) 6 7) [0, 248, 249, 251, 245, 239] := by rw [hH5]; exact Sl.new (n := 6) (c := 7) get_push_self mem_tip rfl
    have x05 := x04.trans x5
    by_cases m1 : m = 1
    · subst m1
      obtain ⟨H6, hH6⟩ : ∃ H6, H6 = H5.push ⟨ints [234, 232, 233, 250, 252, 235], 3, .tip, 0, []⟩ := ⟨_, rfl⟩
      have x6 : Ext H5 H6 := by rw [hH6]; exact Ext.push H5 _
      have g6 := x6.get g5
      have v6 := v_ints6 (H := H5) (a := 234) (b := 232) (c := 233) (d := 250) (e := 252) (f := 235)
      rw [← hH6] at v6
      have i6 : Ints H6 (.slice (some ⟨H5.n, 0, none⟩) 6 7) [234, 232, 233, 250, 252, 235] := by rw [hH6]; exact Sl.new (n := 6) (c := 7) get_push_self mem_tip rfl
      obtain ⟨i, o, d1, d2⟩ := i6.at (k := t) (x := c) hc
      rw [show Nat.beq 1 1 = true from rfl] at f1
      rw [if_neg (show ¬ (1 : Nat) = 3 by decide)]
      by_cases hc0 : c > 0
      · rw [if_pos hc0]
        simp only [WA, isStore, isCall, isK, freshI, stampO, List.nil_append, Option.map_some, Option.map_none, Option.bind_some, List.map_cons, List.map_nil, if_true, if_false, Nat.reduceEqDiff, Int.reduceEq, Nat.reduceAdd, Nat.reduceMul, reduceCtorEq, eq_self, Int.reduceLT, Int.reduceLE, Int.reduceToNat, List.length_cons, List.length_nil, List.all_cons, List.all_nil, List.take_zero, List.drop_nil, List.append_nil, List.getElem?_cons_zero, List.getElem?_cons_succ, List.drop_succ_cons, List.drop_zero, List.take_succ_cons, List.cons_append, Nat.reduceLeDiff, Int.cast_ofNat_Int, c1, hst, ← hH2, v_pr, vp, hl7]
        rw [w_enter]
        simp only [WA, isStore, isCall, isK, freshI, stampO, List.nil_append, Option.map_some, Option.map_none, Option.bind_some, List.map_cons, List.map_nil, if_true, if_false, Nat.reduceEqDiff, Int.reduceEq, Nat.reduceAdd, Nat.reduceMul, reduceCtorEq, eq_self, Int.reduceLT, Int.reduceLE, Int.reduceToNat, List.length_cons, List.length_nil, List.all_cons, List.all_nil, List.take_zero, List.drop_nil, List.append_nil, List.getElem?_cons_zero, List.getElem?_cons_succ, List.drop_succ_cons, List.drop_zero, List.take_succ_cons, List.cons_append, Nat.reduceLeDiff, Int.cast_ofNat_Int, q1, n2, g4, v5, g5, st_re, re_is, st_feq (gr _), f1, v6, g6, st_im, im_is, st_back, b2, d1, d2, hc0, v_ints2]
        exact new2 (x05.trans x6)
      · rw [if_neg hc0]
        simp only [WA, isStore, isCall, isK, freshI, stampO, List.nil_append, Option.map_some, Option.map_none, Option.bind_some, List.map_cons, List.map_nil, if_true, if_false, Nat.reduceEqDiff, Int.reduceEq, Nat.reduceAdd, Nat.reduceMul, reduceCtorEq, eq_self, Int.reduceLT, Int.reduceLE, Int.reduceToNat, List.length_cons, List.length_nil, List.all_cons, List.all_nil, List.take_zero, List.drop_nil, List.append_nil, List.getElem?_cons_zero, List.getElem?_cons_succ, List.drop_succ_cons, List.drop_zero, List.take_succ_cons, List.cons_append, Nat.reduceLeDiff, Int.cast_ofNat_Int, c1, hst, ← hH2, v_pr, vp, hl7]
        rw [w_enter]
        simp only [WA, isStore, isCall, isK, freshI, stampO, List.nil_append, Option.map_some, Option.map_none, Option.bind_some, List.map_cons, List.map_nil, if_true, if_false, Nat.reduceEqDiff, Int.reduceEq, Nat.reduceAdd, Nat.reduceMul, reduceCtorEq, eq_self, Int.reduceLT, Int.reduceLE, Int.reduceToNat, List.length_cons, List.length_nil, List.all_cons, List.all_nil, List.take_zero, List.drop_nil, List.append_nil, List.getElem?_cons_zero, List.getElem?_cons_succ, List.drop_succ_cons, List.drop_zero, List.take_succ_cons, List.cons_append, Nat.reduceLeDiff, Int.cast_ofNat_Int, q1, n2, g4, v5, g5, st_re, re_is, st_feq (gr _), f1, v6, g6, st_im, im_is, st_back, b2, d1, d2, hc0, v_int1]
        exact new1 (x05.trans x6)
    · have e1 : Nat.beq m 1 = false := by cases h : Nat.beq m 1 with | false => rfl | true => exact absurd (Nat.eq_of_beq_eq_true h) m1
      rw [e1] at f1
      by_cases m2 : m = 2
      · subst m2
        obtain ⟨H6, hH6⟩ : ∃ H6, H6 = H5.push ⟨ints [226, 224, 225, 229, 227, 228], 3, .tip, 0, []⟩ := ⟨_, rfl⟩
        have x6 : Ext H5 H6 := by rw [hH6]; exact Ext.push H5 _
        have g6 := x6.get g5
        have v6 := v_ints6 (H := H5) (a := 226) (b := 224) (c := 225) (d := 229) (e := 227) (f := 228)
        rw [← hH6] at v6
        have i6 : Ints H6 (.slice (some ⟨H5.n, 0, none⟩) 6 7) [226, 224, 225, 229, 227, 228] := by rw [hH6]; exact Sl.new (n := 6) (c := 7) get_push_self mem_tip rfl
        obtain ⟨i, o, d1, d2⟩ := i6.at (k := t) (x := c) hc
        rw [show Nat.beq 2 2 = true from rfl] at f2
        rw [if_neg (show ¬ (2 : Nat) = 3 by decide)]
        by_cases hc0 : c > 0
        · rw [if_pos hc0]
          simp only [WA, isStore, isCall, isK, freshI, stampO, List.nil_append, Option.map_some, Option.map_none, Option.bind_some, List.map_cons, List.map_nil, if_true, if_false, Nat.reduceEqDiff, Int.reduceEq, Nat.reduceAdd, Nat.reduceMul, reduceCtorEq, eq_self, Int.reduceLT, Int.reduceLE, Int.reduceToNat, List.length_cons, List.length_nil, List.all_cons, List.all_nil, List.take_zero, List.drop_nil, List.append_nil, List.getElem?_cons_zero, List.getElem?_cons_succ, List.drop_succ_cons, List.drop_zero, List.take_succ_cons, List.cons_append, Nat.reduceLeDiff, Int.cast_ofNat_Int, c1, hst, ← hH2, v_pr, vp, hl7]
          rw [w_enter]
          simp only [WA, isStore, isCall, isK, freshI, stampO, List.nil_append, Option.map_some, Option.map_none, Option.bind_some, List.map_cons, List.map_nil, if_true, if_false, Nat.reduceEqDiff, Int.reduceEq, Nat.reduceAdd, Nat.reduceMul, reduceCtorEq, eq_self, Int.reduceLT, Int.reduceLE, Int.reduceToNat, List.length_cons, List.length_nil, List.all_cons, List.all_nil, List.take_zero, List.drop_nil, List.append_nil, List.getElem?_cons_zero, List.getElem?_cons_succ, List.drop_succ_cons, List.drop_zero, List.take_succ_cons, List.cons_append, Nat.reduceLeDiff, Int.cast_ofNat_Int, q1, n2, g4, v5, g5, st_re, re_is, st_feq (gr _), f1, f2, v6, g6, st_im, im_is, st_back, b2, d1, d2, hc0, v_ints2]
          exact new2 (x05.trans x6)
        · rw [if_neg hc0]
          simp only [WA, isStore, isCall, isK, freshI, stampO, List.nil_append, Option.map_some, Option.map_none, Option.bind_some, List.map_cons, List.map_nil, if_true, if_false, Nat.reduceEqDiff, Int.reduceEq, Nat.reduceAdd, Nat.reduceMul, reduceCtorEq, eq_self, Int.reduceLT, Int.reduceLE, Int.reduceToNat, List.length_cons, List.length_nil, List.all_cons, List.all_nil, List.take_zero, List.drop_nil, List.append_nil, List.getElem?_cons_zero, List.getElem?_cons_succ, List.drop_succ_cons, List.drop_zero, List.take_succ_cons, List.cons_append, Nat.reduceLeDiff, Int.cast_ofNat_Int, c1, hst, ← hH2, v_pr, vp, hl7]
          rw [w_enter]
          simp only [WA, isStore, isCall, isK, freshI, stampO, List.nil_append, Option.map_some, Option.map_none, Option.bind_some, List.map_cons, List.map_nil, if_true, if_false, Nat.reduceEqDiff, Int.reduceEq, Nat.reduceAdd, Nat.reduceMul, reduceCtorEq, eq_self, Int.reduceLT, Int.reduceLE, Int.reduceToNat, List.length_cons, List.length_nil, List.all_cons, List.all_nil, List.take_zero, List.drop_nil, List.append_nil, List.getElem?_cons_zero, List.getElem?_cons_succ, List.drop_succ_cons, List.drop_zero, List.take_succ_cons, List.cons_append, Nat.reduceLeDiff, Int.cast_ofNat_Int, q1, n2, g4, v5, g5, st_re, re_is, st_feq (gr _), f1, f2, v6, g6, st_im, im_is, st_back, b2, d1, d2, hc0, v_int1]
          exact new1 (x05.trans x6)
      · have e2 : Nat.beq m 2 = false := by cases h : Nat.beq m 2 with | false => rfl | true => exact absurd (Nat.eq_of_beq_eq_true h) m2
        rw [e2] at f2
        have hsg : sgV m = [0, 248, 249, 251, 245, 239] := by
          unfold sgV
          rw [if_neg (by omega), if_neg (by omega)]
        rw [hsg] at hc
        obtain ⟨i, o, d1, d2⟩ := i5.at (k := t) (x := c) hc
        by_cases m3 : m = 3
        · subst m3
          rw [show Nat.beq 3 3 = true from rfl] at f3
          rw [if_pos rfl]
          rcases h3 rfl with rfl | rfl
          · rw [show hornB 111 = 244 from rfl]
            have z : ((111 : Int) = 117) = False := by simp
            by_cases hc0 : c > 0
            · rw [if_pos hc0]
              simp only [WA, isStore, isCall, isK, freshI, stampO, List.nil_append, Option.map_some, Option.map_none, Option.bind_some, List.map_cons, List.map_nil, if_true, if_false, Nat.reduceEqDiff, Int.reduceEq, Nat.reduceAdd, Nat.reduceMul, reduceCtorEq, eq_self, Int.reduceLT, Int.reduceLE, Int.reduceToNat, List.length_cons, List.length_nil, List.all_cons, List.all_nil, List.take_zero, List.drop_nil, List.append_nil, List.getElem?_cons_zero, List.getElem?_cons_succ, List.drop_succ_cons, List.drop_zero, List.take_succ_cons, List.cons_append, Nat.reduceLeDiff, Int.cast_ofNat_Int, c1, hst, ← hH2, v_pr, vp, hl7]
              rw [w_enter]
              simp only [WA, isStore, isCall, isK, freshI, stampO, List.nil_append, Option.map_some, Option.map_none, Option.bind_some, List.map_cons, List.map_nil, if_true, if_false, Nat.reduceEqDiff, Int.reduceEq, Nat.reduceAdd, Nat.reduceMul, reduceCtorEq, eq_self, Int.reduceLT, Int.reduceLE, Int.reduceToNat, List.length_cons, List.length_nil, List.all_cons, List.all_nil, List.take_zero, List.drop_nil, List.append_nil, List.getElem?_cons_zero, List.getElem?_cons_succ, List.drop_succ_cons, List.drop_zero, List.take_succ_cons, List.cons_append, Nat.reduceLeDiff, Int.cast_ofNat_Int, q1, n2, g4, v5, g5, st_re, re_is, st_feq (gr _), f1, f2, f3, z, st_im, im_is, st_back, b2, d1, d2, hc0, v_ints2]
              exact new2 x05
            · rw [if_neg hc0]
              simp only [WA, isStore, isCall, isK, freshI, stampO, List.nil_append, Option.map_some, Option.map_none, Option.bind_some, List.map_cons, List.map_nil, if_true, if_false, Nat.reduceEqDiff, Int.reduceEq, Nat.reduceAdd, Nat.reduceMul, reduceCtorEq, eq_self, Int.reduceLT, Int.reduceLE, Int.reduceToNat, List.length_cons, List.length_nil, List.all_cons, List.all_nil, List.take_zero, List.drop_nil, List.append_nil, List.getElem?_cons_zero, List.getElem?_cons_succ, List.drop_succ_cons, List.drop_zero, List.take_succ_cons, List.cons_append, Nat.reduceLeDiff, Int.cast_ofNat_Int, c1, hst, ← hH2, v_pr, vp, hl7]
              rw [w_enter]
              simp only [WA, isStore, isCall, isK, freshI, stampO, List.nil_append, Option.map_some, Option.map_none, Option.bind_some, List.map_cons, List.map_nil, if_true, if_false, Nat.reduceEqDiff, Int.reduceEq, Nat.reduceAdd, Nat.reduceMul, reduceCtorEq, eq_self, Int.reduceLT, Int.reduceLE, Int.reduceToNat, List.length_cons, List.length_nil, List.all_cons, List.all_nil, List.take_zero, List.drop_nil, List.append_nil, List.getElem?_cons_zero, List.getElem?_cons_succ, List.drop_succ_cons, List.drop_zero, List.take_succ_cons, List.cons_append, Nat.reduceLeDiff, Int.cast_ofNat_Int, q1, n2, g4, v5, g5, st_re, re_is, st_feq (gr _), f1, f2, f3, z, st_im, im_is, st_back, b2, d1, d2, hc0, v_int1]
              exact new1 x05
          · rw [show hornB 117 = 246 from rfl]
            have z : ((117 : Int) = 117) = True := by simp
            by_cases hc0 : c > 0
            · rw [if_pos hc0]
              simp only [WA, isStore, isCall, isK, freshI, stampO, List.nil_append, Option.map_some, Option.map_none, Option.bind_some, List.map_cons, List.map_nil, if_true, if_false, Nat.reduceEqDiff, Int.reduceEq, Nat.reduceAdd, Nat.reduceMul, reduceCtorEq, eq_self, Int.reduceLT, Int.reduceLE, Int.reduceToNat, List.length_cons, List.length_nil, List.all_cons, List.all_nil, List.take_zero, List.drop_nil, List.append_nil, List.getElem?_cons_zero, List.getElem?_cons_succ, List.drop_succ_cons, List.drop_zero, List.take_succ_cons, List.cons_append, Nat.reduceLeDiff, Int.cast_ofNat_Int, c1, hst, ← hH2, v_pr, vp, hl7]
              rw [w_enter]
              simp only [WA, isStore, isCall, isK, freshI, stampO, List.nil_append, Option.map_some, Option.map_none, Option.bind_some, List.map_cons, List.map_nil, if_true, if_false, Nat.reduceEqDiff, Int.reduceEq, Nat.reduceAdd, Nat.reduceMul, reduceCtorEq, eq_self, Int.reduceLT, Int.reduceLE, Int.reduceToNat, List.length_cons, List.length_nil, List.all_cons, List.all_nil, List.take_zero, List.drop_nil, List.append_nil, List.getElem?_cons_zero, List.getElem?_cons_succ, List.drop_succ_cons, List.drop_zero, List.take_succ_cons, List.cons_append, Nat.reduceLeDiff, Int.cast_ofNat_Int, q1, n2, g4, v5, g5, st_re, re_is, st_feq (gr _), f1, f2, f3, z, st_im, im_is, st_back, b2, d1, d2, hc0, v_ints2]
              exact new2 x05
            · rw [if_neg hc0]
              simp only [WA, isStore, isCall, isK, freshI, stampO, List.nil_append, Option.map_some, Option.map_none, Option.bind_some, List.map_cons, List.map_nil, if_true, if_false, Nat.reduceEqDiff, Int.reduceEq, Nat.reduceAdd, Nat.reduceMul, reduceCtorEq, eq_self, Int.reduceLT, Int.reduceLE, Int.reduceToNat, List.length_cons, List.length_nil, List.all_cons, List.all_nil, List.take_zero, List.drop_nil, List.append_nil, List.getElem?_cons_zero, List.getElem?_cons_succ, List.drop_succ_cons, List.drop_zero, List.take_succ_cons, List.cons_append, Nat.reduceLeDiff, Int.cast_ofNat_Int, c1, hst, ← hH2, v_pr, vp, hl7]
              rw [w_enter]
              simp only [WA, isStore, isCall, isK, freshI, stampO, List.nil_append, Option.map_some, Option.map_none, Option.bind_some, List.map_cons, List.map_nil, if_true, if_false, Nat.reduceEqDiff, Int.reduceEq, Nat.reduceAdd, Nat.reduceMul, reduceCtorEq, eq_self, Int.reduceLT, Int.reduceLE, Int.reduceToNat, List.length_cons, List.length_nil, List.all_cons, List.all_nil, List.take_zero, List.drop_nil, List.append_nil, List.getElem?_cons_zero, List.getElem?_cons_succ, List.drop_succ_cons, List.drop_zero, List.take_succ_cons, List.cons_append, Nat.reduceLeDiff, Int.cast_ofNat_Int, q1, n2, g4, v5, g5, st_re, re_is, st_feq (gr _), f1, f2, f3, z, st_im, im_is, st_back, b2, d1, d2, hc0, v_int1]
              exact new1 x05
        · have e3 : Nat.beq m 3 = false := by cases h : Nat.beq m 3 with | false => rfl | true => exact absurd (Nat.eq_of_beq_eq_true h) m3
          rw [e3] at f3
          rw [if_neg m3]
          by_cases hc0 : c > 0
          · rw [if_pos hc0]
            simp only [WA, isStore, isCall, isK, freshI, stampO, List.nil_append, Option.map_some, Option.map_none, Option.bind_some, List.map_cons, List.map_nil, if_true, if_false, Nat.reduceEqDiff, Int.reduceEq, Nat.reduceAdd, Nat.reduceMul, reduceCtorEq, eq_self, Int.reduceLT, Int.reduceLE, Int.reduceToNat, List.length_cons, List.length_nil, List.all_cons, List.all_nil, List.take_zero, List.drop_nil, List.append_nil, List.getElem?_cons_zero, List.getElem?_cons_succ, List.drop_succ_cons, List.drop_zero, List.take_succ_cons, List.cons_append, Nat.reduceLeDiff, Int.cast_ofNat_Int, c1, hst, ← hH2, v_pr, vp, hl7]
            rw [w_enter]
            simp only [WA, isStore, isCall, isK, freshI, stampO, List.nil_append, Option.map_some, Option.map_none, Option.bind_some, List.map_cons, List.map_nil, if_true, if_false, Nat.reduceEqDiff, Int.reduceEq, Nat.reduceAdd, Nat.reduceMul, reduceCtorEq, eq_self, Int.reduceLT, Int.reduceLE, Int.reduceToNat, List.length_cons, List.length_nil, List.all_cons, List.all_nil, List.take_zero, List.drop_nil, List.append_nil, List.getElem?_cons_zero, List.getElem?_cons_succ, List.drop_succ_cons, List.drop_zero, List.take_succ_cons, List.cons_append, Nat.reduceLeDiff, Int.cast_ofNat_Int, q1, n2, g4, v5, g5, st_re, re_is, st_feq (gr _), f1, f2, f3, st_im, im_is, st_back, b2, d1, d2, hc0, v_ints2]
            exact new2 x05
          · rw [if_neg hc0]
            simp only [WA, isStore, isCall, isK, freshI, stampO, List.nil_append, Option.map_some, Option.map_none, Option.bind_some, List.map_cons, List.map_nil, if_true, if_false, Nat.reduceEqDiff, Int.reduceEq, Nat.reduceAdd, Nat.reduceMul, reduceCtorEq, eq_self, Int.reduceLT, Int.reduceLE, Int.reduceToNat, List.length_cons, List.length_nil, List.all_cons, List.all_nil, List.take_zero, List.drop_nil, List.append_nil, List.getElem?_cons_zero, List.getElem?_cons_succ, List.drop_succ_cons, List.drop_zero, List.take_succ_cons, List.cons_append, Nat.reduceLeDiff, Int.cast_ofNat_Int, c1, hst, ← hH2, v_pr, vp, hl7]
            rw [w_enter]
            simp only [WA, isStore, isCall, isK, freshI, stampO, List.nil_append, Option.map_some, Option.map_none, Option.bind_some, List.map_cons, List.map_nil, if_true, if_false, Nat.reduceEqDiff, Int.reduceEq, Nat.reduceAdd, Nat.reduceMul, reduceCtorEq, eq_self, Int.reduceLT, Int.reduceLE, Int.reduceToNat, List.length_cons, List.length_nil, List.all_cons, List.all_nil, List.take_zero, List.drop_nil, List.append_nil, List.getElem?_cons_zero, List.getElem?_cons_succ, List.drop_succ_cons, List.drop_zero, List.take_succ_cons, List.cons_append, Nat.reduceLeDiff, Int.cast_ofNat_Int, q1, n2, g4, v5, g5, st_re, re_is, st_feq (gr _), f1, f2, f3, st_im, im_is, st_back, b2, d1, d2, hc0, v_int1]
            exact new1 x05
  · have ha : alV s > 0 := by
      by_cases h : alV s > 0
      · exact h
      · rw [if_neg h] at n1; exact absurd n1 (by simp)
    rw [if_pos ha] at n1 ⊢
    injection n1 with n1
    rw [← n1] at n2
    simp only [WA, isStore, isCall, isK, freshI, stampO, List.nil_append, Option.map_some, Option.map_none, Option.bind_some, List.map_cons, List.map_nil, if_true, if_false, Nat.reduceEqDiff, Int.reduceEq, Nat.reduceAdd, Nat.reduceMul, reduceCtorEq, eq_self, Int.reduceLT, Int.reduceLE, Int.reduceToNat, List.length_cons, List.length_nil, List.all_cons, List.all_nil, List.take_zero, List.drop_nil, List.append_nil, List.getElem?_cons_zero, List.getElem?_cons_succ, List.drop_succ_cons, List.drop_zero, List.take_succ_cons, List.cons_append, Nat.reduceLeDiff, Int.cast_ofNat_Int, c1, hst, ← hH2, v_pr, vp, hl7]
    rw [w_enter]
    simp only [WA, isStore, isCall, isK, freshI, stampO, List.nil_append, Option.map_some, Option.map_none, Option.bind_some, List.map_cons, List.map_nil, if_true, if_false, Nat.reduceEqDiff, Int.reduceEq, Nat.reduceAdd, Nat.reduceMul, reduceCtorEq, eq_self, Int.reduceLT, Int.reduceLE, Int.reduceToNat, List.length_cons, List.length_nil, List.all_cons, List.all_nil, List.take_zero, List.drop_nil, List.append_nil, List.getElem?_cons_zero, List.getElem?_cons_succ, List.drop_succ_cons, List.drop_zero, List.take_succ_cons, List.cons_append, Nat.reduceLeDiff, Int.cast_ofNat_Int, q1]
    exact ⟨x04, n2.mono ((x1.trans x2).trans x3)⟩
end Go.Proofs.Ytfhchimfdlhmaaa

/-! Layer 13: the document's rules. -/
set_option linter.unusedSimpArgs false
set_option linter.unusedVariables false
namespace Go.Proofs.Ytfhchimfdlhmaaa
open Go Lon
set_option maxRecDepth 100000
def okS (x : Lt) : Bool := (Nat.ble x.mark 5 && Nat.ble x.tone 5) && ((!Nat.beq x.mark 3 || (decide (x.base = 111) || decide (x.base = 117))) && ((Nat.ble (smF x.base x.mark x.tone x.sc).length 2 && (smF x.base x.mark x.tone x.sc).all fun s => decide (0 ≤ s) && decide (s < 1000)) && (decide (0 ≤ x.sc) && (decide (x.sc < 100000) && decide (jn VL x.base (fb x.mark) (fb x.tone) = some x.sc)))))
theorem okS_all : (LA false).all okS = true := by kernel_rfl
theorem VL_lt {n : Nat} {x : Lt} (h : VL[n]? = some x) (hn : n < 74) : x ∈ LA false := by
  unfold VL at h
  rw [List.getElem?_append_left (by rw [LA_len]; exact hn)] at h
  exact List.mem_of_getElem? h
theorem okS_of {x : Lt} (hx : x ∈ LA false) : x.mark < 6 ∧ x.tone < 6 ∧ (x.mark = 3 → x.base = 111 ∨ x.base = 117) ∧ (smF x.base x.mark x.tone x.sc).length ≤ 2 ∧ (∀ s ∈ smF x.base x.mark x.tone x.sc, 0 ≤ s ∧ s < 1000) ∧ (0 ≤ x.sc ∧ x.sc < 100000) ∧ jn VL x.base (fb x.mark) (fb x.tone) = some x.sc := by
  have h := List.all_eq_true.1 okS_all x hx
  unfold okS at h
  simp only [Bool.and_eq_true, Bool.or_eq_true, decide_eq_true_eq, List.all_eq_true, Bool.not_eq_true'] at h
  obtain ⟨⟨h1, h2⟩, h3, ⟨h4, h5⟩, h6, h7, h8⟩ := h
  refine ⟨Nat.lt_succ_of_le (Nat.le_of_ble_eq_true h1), Nat.lt_succ_of_le (Nat.le_of_ble_eq_true h2), fun e => ?_, Nat.le_of_ble_eq_true h4, h5, ⟨h6, h7⟩, h8⟩
  rcases h3 with h3 | h3
  · rw [e] at h3; exact absurd h3 (by decide)
  · exact h3
def smL (x : Lt) : List Int := smF x.base x.mark x.tone x.sc
def smX (n : Nat) : List Int := match VL[n]? with
  | some x => smL x
  | none => []
def scX (n : Nat) : Int := match VL[n]? with
  | some x => x.sc
  | none => 0
/-- The rule of the n-th letter. -/
def rl (n : Nat) : Rl := (if n < 74 then smX n else (smX (n - 74)).map fun c => c - 32, [scX n])
/-- Less by 32, as far as told. -/
def sb (k : Nat) (l : List Int) : List Int := ((l.take k).map fun c => c - 32) ++ l.drop k
theorem sb_len {k : Nat} {l : List Int} (h : k ≤ l.length) : (sb k l).length = l.length := by
  unfold sb
  rw [List.length_append, List.length_map, List.length_take, List.length_drop]
  omega
theorem sb_at {k : Nat} {l : List Int} {x : Int} (h : l[k]? = some x) : (sb k l)[k]? = some x := by
  have hk := (List.getElem?_eq_some_iff.1 h).1
  unfold sb
  rw [List.getElem?_append_right (by rw [List.length_map, List.length_take]; omega), List.length_map, List.length_take, Nat.min_eq_left (by omega), Nat.sub_self, List.getElem?_drop, Nat.add_zero]
  exact h
theorem sb_next {k : Nat} {l : List Int} {x : Int} (h : l[k]? = some x) : ints (sb (k + 1) l) = (ints (sb k l)).take k ++ [.int .i64 (x - 32)] ++ (ints (sb k l)).drop (k + 1) := by
  have hk := (List.getElem?_eq_some_iff.1 h).1
  have hl : ((l.take k).map fun c => c - 32).length = k := by rw [List.length_map, List.length_take]; omega
  have h1 : (sb k l).take k = (l.take k).map fun c => c - 32 := by
    unfold sb
    rw [List.take_append_of_le_length (by omega), List.take_of_length_le (by omega)]
  have h2 : (sb k l).drop (k + 1) = l.drop (k + 1) := by
    unfold sb
    rw [List.drop_append, List.drop_of_length_le (by omega), List.nil_append, hl, List.drop_drop]
    congr 1
    omega
  have h3 : sb (k + 1) l = ((sb k l).take k ++ [x - 32]) ++ (sb k l).drop (k + 1) := by
    rw [h1, h2]
    unfold sb
    rw [List.take_add_one, h]
    simp
  rw [h3]
  unfold ints
  rw [List.map_append, List.map_append, List.map_take, List.map_drop]
  rfl
theorem st_sub {H : AHeap} {q k ver : Nat} {l : List Int} {x : Int} (h : l[k]? = some x) : gotStore (some ⟨ints (sb k l), 3, .tip, ver, []⟩) q k (.int .i64 (x - 32)) 1 H = some (.tuple ⟨[]⟩, H.upd q ⟨ints (sb (k + 1) l), 3, .tip, ver + 1, []⟩) := by
  have hk := (List.getElem?_eq_some_iff.1 h).1
  have hl : (ints (sb k l)).length = l.length := by unfold ints; rw [List.length_map, sb_len (by omega)]
  rw [got_store (v := .int .i64 (x - 32)) (n := 1) rfl rfl (by omega), sb_next h]
  rfl
theorem ia_n {q n c k : Nat} {H2 : AHeap} (hk : k < n) : vIaddr (.slice (some ⟨q, 0, none⟩) n c) (.int .i64 k) 1 H2 = some (.pointer (some ⟨q, k, none⟩), H2) := by
  rw [v_iaddr ⟨by omega, by omega⟩]
  simp
theorem ld_sub {H : AHeap} {k ver : Nat} {l : List Int} {x : Int} (h : l[k]? = some x) : gotLoad (some ⟨ints (sb k l), 3, .tip, ver, []⟩) k none H = some (.int .i64 x, H) := by
  rw [got_one mem_tip]
  have := sb_at h
  unfold ints
  rw [List.getElem?_map, this]
  rfl
def Pr0 (z1 z2 z4 v : Value) (q : Nat) (l : List Int) (H0 : AHeap) (y : AEx) (e' : Env) (H' : AHeap) : Prop := y = .exit 2 ∧ eget e' 1 = z1 ∧ eget e' 2 = z2 ∧ eget e' 4 = z4 ∧ eget e' 6 = v ∧ Ext H0 H' ∧ ∃ ver, H'.get q = some ⟨ints (l.map fun c => c - 32), 3, .tip, ver, []⟩
theorem l_r0 {H0 : AHeap} {z1 z2 z4 : Value} {q m : Nat} {l : List Int} (hq : H0.n ≤ q) (hl : ∀ s ∈ l, 0 ≤ s ∧ s < 1000) (hl2 : l.length < 100) : ∀ (c k ver : Nat) (H : AHeap), k + c = l.length → Ext H0 H → H.get q = some ⟨ints (sb k l), 3, .tip, ver, []⟩ →
    Out (run Try.prog (tabF tab) om1 (.loop [1, 2, 4, 6, 27, 28] b_lontarlaw13_rules_0) [(1, z1), (2, z2), (4, z4), (6, .slice (some ⟨q, 0, none⟩) l.length m), (27, .int .i64 l.length), (28, .int .i64 k)] H) (Pr0 z1 z2 z4 (.slice (some ⟨q, 0, none⟩) l.length m) q l H0) := by
  intro c
  induction c with
  | zero =>
    intro k ver H hk hx hg
    obtain rfl : k = l.length := by omega
    have z : (((l.length : Nat) : Int) < (l.length : Nat)) = False := by simp
    rw [w_loop_b b_lontarlaw13_rules_0.eq_1]
    simp only [WA, isStore, isCall, isK, freshI, stampO, List.nil_append, Option.map_some, Option.map_none, Option.bind_some, List.map_cons, List.map_nil, if_true, if_false, Nat.reduceEqDiff, Int.reduceEq, Nat.reduceAdd, Nat.reduceMul, reduceCtorEq, eq_self, Int.reduceLT, Int.reduceLE, Int.reduceToNat, List.length_cons, List.length_nil, List.all_cons, List.all_nil, List.take_zero, List.drop_nil, List.append_nil, List.getElem?_cons_zero, List.getElem?_cons_succ, List.drop_succ_cons, List.drop_zero, List.take_succ_cons, List.cons_append, Nat.reduceLeDiff, Int.cast_ofNat_Int, z]
    refine ⟨rfl, rfl, rfl, rfl, rfl, hx, ver, ?_⟩
    rw [hg]
    unfold sb
    rw [List.take_of_length_le (Nat.le_refl _), List.drop_of_length_le (Nat.le_refl _), List.append_nil]
  | succ c ih =>
    intro k ver H hk hx hg
    have hlt : ((k : Int) < (l.length : Nat)) = True := eq_true (by omega)
    obtain ⟨x, hxk, hd⟩ := drop_at (L := l) (i := k) (by omega)
    have hxs := hl x (List.mem_of_getElem? hxk)
    have ia := fun H2 => ia_n (q := q) (n := l.length) (c := m) (k := k) (H2 := H2) (by omega)
    have hw2 : IntKind.i64.wrap ((k : Int) + 1) = ((k + 1 : Nat) : Int) := by rw [wrap64 (by omega) (by omega)]; omega
    have hw3 : IntKind.i64.wrap (x - 32) = x - 32 := wrap64 (by omega) (by omega)
    obtain ⟨y, e', H', r1, r2⟩ := ih (k + 1) (ver + 1) (H.upd q ⟨ints (sb (k + 1) l), 3, .tip, ver + 1, []⟩) (by omega) (Ext.upd hx hg hq) (upd_self hg)
    rw [w_loop_b b_lontarlaw13_rules_0.eq_1]
    simp only [WA, isStore, isCall, isK, freshI, stampO, List.nil_append, Option.map_some, Option.map_none, Option.bind_some, List.map_cons, List.map_nil, if_true, if_false, Nat.reduceEqDiff, Int.reduceEq, Nat.reduceAdd, Nat.reduceMul, reduceCtorEq, eq_self, Int.reduceLT, Int.reduceLE, Int.reduceToNat, List.length_cons, List.length_nil, List.all_cons, List.all_nil, List.take_zero, List.drop_nil, List.append_nil, List.getElem?_cons_zero, List.getElem?_cons_succ, List.drop_succ_cons, List.drop_zero, List.take_succ_cons, List.cons_append, Nat.reduceLeDiff, Int.cast_ofNat_Int, hlt, ia, hg, ld_sub hxk, hw3, st_sub hxk, hw2]
    rw [w_enter]
    simp only [WA, isStore, isCall, isK, freshI, stampO, List.nil_append, Option.map_some, Option.map_none, Option.bind_some, List.map_cons, List.map_nil, if_true, if_false, Nat.reduceEqDiff, Int.reduceEq, Nat.reduceAdd, Nat.reduceMul, reduceCtorEq, eq_self, Int.reduceLT, Int.reduceLE, Int.reduceToNat, List.length_cons, List.length_nil, List.all_cons, List.all_nil, List.take_zero, List.drop_nil, List.append_nil, List.getElem?_cons_zero, List.getElem?_cons_succ, List.drop_succ_cons, List.drop_zero, List.take_succ_cons, List.cons_append, Nat.reduceLeDiff, Int.cast_ofNat_Int, r1]
    exact r2
end Go.Proofs.Ytfhchimfdlhmaaa

/-! Layer 13: the document's rules, in all. -/
set_option linter.unusedSimpArgs false
set_option linter.unusedVariables false
namespace Go.Proofs.Ytfhchimfdlhmaaa
open Go Lon
set_option maxRecDepth 100000
/-- What is no rule's stays. -/
def KR (H H' : AHeap) : Prop := H.n ≤ H'.n ∧ ∀ j blk, H.get j = some blk → blk.elem ≠ 46 → H'.get j = some blk
theorem KR.trans {a b c : AHeap} (h : KR a b) (k : KR b c) : KR a c := ⟨Nat.le_trans h.1 k.1, fun j x h1 h2 => k.2 j x (h.2 j x h1 h2) h2⟩
theorem Ext.kr {H H' : AHeap} (h : Ext H H') : KR H H' := ⟨h.1, fun j x h1 _ => h.get h1⟩
theorem add_rule {H0 H : AHeap} {out : Value} {T : List Rl} {pi po : Option Addr} {ci co : Nat} {r : Rl} (ho : OwnRules H 46 out T) (hf : From H0.n out) (hx : Ext H0 H) (hi : Ints H (.slice pi r.1.length ci) r.1) (hq : Ints H (.slice po r.2.length co) r.2) (t1 : r.1.length < 1000) (t2 : r.2.length < 1000) (hT : T.length < 1000) :
    ∃ out' H', appendA (H.push ⟨[.slice pi r.1.length ci, .slice po r.2.length co], 46, .tip, 0, []⟩) out (.slice (some ⟨H.n, 0, none⟩) 1 2) 46 2 48 = some (out', H') ∧ OwnRules H' 46 out' (T ++ [r]) ∧ From H0.n out' ∧ Ext H0 H' ∧ KR H H' := by
  have hx1 := Ext.push H ⟨[.slice pi r.1.length ci, .slice po r.2.length co], 46, .tip, 0, []⟩
  obtain ⟨v', H6, m1, m2, m3, m4, m5, m6⟩ := OwnRules.append2 (el := 46) (bytes := 48) (r := r) (ho.ext hx1)
    (Sl.new (n := 1) (c := 2) (get_push_self (H := H) (b := ⟨[.slice pi r.1.length ci, .slice po r.2.length co], 46, .tip, 0, []⟩)) mem_tip rfl)
    (hi.ext hx1) (hq.ext hx1) (by unfold tiny; omega) (by unfold tiny; omega) (by omega)
  rw [AHeap.n_push] at m3 m5 m6
  refine ⟨v', H6, m1, m2, m3.mono (by have := hx.1; omega), ⟨by have := hx.1; omega, fun j hj => ?_⟩, by omega, fun j blk hj he => ?_⟩
  · have := hx.1
    rw [m6 j (by omega) (NotAt.of_from hf hj), hx1.2 j (by omega), hx.2 j hj]
  · have hlt := AHeap.lt_of_get hj
    obtain ⟨cs, hown, _⟩ := ho
    rw [m6 j (by omega) (hown.notAt_elem hj he), hx1.2 j hlt, hj]
theorem new_one {H : AHeap} {a : Int} : ∃ H4, vBslice 3 1 1 [.int .i64 0] [(0, 1, .int .i64 a)] H = some (.slice (some ⟨H.n, 0, none⟩) 1 2, H4) ∧ Ext H H4 ∧ Ints H4 (.slice (some ⟨H.n, 0, none⟩) 1 2) [a] := ⟨_, v_int1, Ext.push H _, Sl.new (n := 1) (c := 2) get_push_self mem_tip rfl⟩
/-- The letters' rules as far as told; the numbers that are no letters'. -/
def RD (n : Nat) : List Rl := (List.range n).map rl
theorem RD_succ (n : Nat) : RD (n + 1) = RD n ++ [rl n] := by unfold RD; rw [List.range_succ, List.map_append]; rfl
theorem RD_len (n : Nat) : (RD n).length = n := by unfold RD; simp
def asc : Nat → List Rl
  | 0 => []
  | c + 1 => if (sp VL c).isNone = true then asc c ++ [([(c : Int)], [(c : Int)])] else asc c
theorem asc_len : ∀ c, (asc c).length ≤ c
  | 0 => Nat.le_refl _
  | c + 1 => by
    have := asc_len c
    unfold asc
    split
    · rw [List.length_append]; simp; omega
    · omega
def RU : List Rl := RD 148 ++ asc 128
theorem rem74 {k : Nat} (hk : k < 1000) : intOp .rem .i64 (k : Int) 74 = some (.int .i64 ((k % 74 : Nat) : Int)) := by
  simp only [intOp]
  rw [if_neg (by decide), Int.tmod_eq_emod_of_nonneg (by omega)]
  rfl
def Pr1 (H0 : AHeap) (y : AEx) (e' : Env) (H' : AHeap) : Prop := y = .exit 0 ∧ OwnRules H' 46 (eget e' 1) (RD 148) ∧ From H0.n (eget e' 1) ∧ Ext H0 H'
theorem smX_of {n : Nat} {x : Lt} (h : VL[n]? = some x) : smX n = smL x := by unfold smX; rw [h]
theorem scX_of {n : Nat} {x : Lt} (h : VL[n]? = some x) : scX n = x.sc := by unfold scX; rw [h]
theorem rl_lo {n : Nat} {x : Lt} (hn : n < 74) (h : VL[n]? = some x) : rl n = (smL x, [x.sc]) := by unfold rl; rw [if_pos hn, smX_of h, scX_of h]
theorem rl_hi {n : Nat} {x u : Lt} (hn : ¬ n < 74) (h : VL[n]? = some x) (h2 : VL[n - 74]? = some u) : rl n = ((smL u).map fun c => c - 32, [x.sc]) := by unfold rl; rw [if_neg hn, smX_of h2, scX_of h]
theorem l_r1 {H0 : AHeap} : ∀ (c n : Nat) (H : AHeap) (out : Value), n + c = 148 → Ext H0 H → OwnRules H 46 out (RD n) → From H0.n out →
    Out (run Try.prog (tabF tab) om1 (.loop [1, 2] b_lontarlaw13_rules_1) [(1, out), (2, .int .i64 n)] H) (Pr1 H0) := by
  intro c
  induction c with
  | zero =>
    intro n H out hn hx ho hf
    obtain rfl : n = 148 := by omega
    have z : (((148 : Nat) : Int) < 148) = False := by simp
    rw [w_loop_b b_lontarlaw13_rules_1.eq_1]
    simp only [WA, isStore, isCall, isK, freshI, stampO, List.nil_append, Option.map_some, Option.map_none, Option.bind_some, List.map_cons, List.map_nil, if_true, if_false, Nat.reduceEqDiff, Int.reduceEq, Nat.reduceAdd, Nat.reduceMul, reduceCtorEq, eq_self, Int.reduceLT, Int.reduceLE, Int.reduceToNat, List.length_cons, List.length_nil, List.all_cons, List.all_nil, List.take_zero, List.drop_nil, List.append_nil, List.getElem?_cons_zero, List.getElem?_cons_succ, List.drop_succ_cons, List.drop_zero, List.take_succ_cons, List.cons_append, Nat.reduceLeDiff, Int.cast_ofNat_Int, z]
    exact ⟨rfl, ho, hf, hx⟩
  | succ c ih =>
    intro n H out hn hx ho hf
    have hlt : ((n : Int) < 148) = True := eq_true (by omega)
    obtain ⟨x, hxn, _⟩ := drop_at (L := VL) (i := n) (by rw [VL_len]; omega)
    have hw2 : IntKind.i64.wrap ((n : Int) + 1) = ((n + 1 : Nat) : Int) := by rw [wrap64 (by omega) (by omega)]; omega
    obtain ⟨v, H1, c1, x1, rfl⟩ := c_Letter (n := n) (H := H)
    unfold ltV at c1
    rw [hxn] at c1
    unfold ltC at c1
    have hst := st_let (H := H1.push ⟨[.int .i64 0, .complex .f64 0 0], 26, .tip, 0, []⟩) (i := H1.n) (ver := 0) (el := 26) (a := .int .i64 0) (b := .complex .f64 0 0) (x := .int .i64 x.base) (y := .complex .f64 (fb x.mark) (fb x.tone)) rfl
    simp only [Nat.zero_add] at hst
    obtain ⟨H2, hH2⟩ : ∃ H2, H2 = H1.push ⟨[.int .i64 x.base, .complex .f64 (fb x.mark) (fb x.tone)], 26, .tip, 1, []⟩ := ⟨_, rfl⟩
    have x2 : Ext H1 H2 := by rw [hH2]; exact Ext.push H1 _
    have r74 := rem74 (k := n) (by omega)
    obtain ⟨u, hun, _⟩ := drop_at (L := VL) (i := n % 74) (by rw [VL_len]; omega)
    obtain ⟨o1, o2, o3, o4, o5, o6, o7⟩ := okS_of (VL_lt hun (Nat.mod_lt _ (by omega)))
    obtain ⟨v3, H3, c3, x3, n3⟩ := c_small (H := H2) hun o1 o2 o3
    have x03 := (x1.trans x2).trans x3
    obtain ⟨q, hv3, q1, q2⟩ := n3
    have hls : (smL u).length ≤ 2 := o4
    have hI3 := NewI.ints ⟨q, hv3, q1, q2⟩
    rw [w_loop_b b_lontarlaw13_rules_1.eq_1]
    by_cases hge : n < 74
    · have hg' : ((n : Int) ≥ 74) = False := eq_false (by omega)
      rw [Nat.mod_eq_of_lt hge] at hun
      obtain rfl : u = x := by rw [hxn] at hun; injection hun with h; exact h.symm
      have hrl := rl_lo hge hxn
      obtain ⟨H4, vi, x4, i4⟩ := new_one (H := H3) (a := u.sc)
      rw [hv3] at hI3
      obtain ⟨out', H5, a1, a2, a3, a4, a5⟩ := add_rule (r := (smL u, [u.sc])) ((ho.ext x03).ext x4) hf ((hx.trans x03).trans x4) (hI3.ext x4) i4 (by simp only; omega) (by simp) (by rw [RD_len]; omega)
      rw [← hrl, ← RD_succ] at a2
      obtain ⟨y, e', H', r1, r2⟩ := ih (n + 1) H5 out' (by omega) a4 a2 a3
      simp only [List.length_cons, List.length_nil, Nat.zero_add, smL] at a1
      simp only [WA, isStore, isCall, isK, freshI, stampO, List.nil_append, Option.map_some, Option.map_none, Option.bind_some, List.map_cons, List.map_nil, if_true, if_false, Nat.reduceEqDiff, Int.reduceEq, Nat.reduceAdd, Nat.reduceMul, reduceCtorEq, eq_self, Int.reduceLT, Int.reduceLE, Int.reduceToNat, List.length_cons, List.length_nil, List.all_cons, List.all_nil, List.take_zero, List.drop_nil, List.append_nil, List.getElem?_cons_zero, List.getElem?_cons_succ, List.drop_succ_cons, List.drop_zero, List.take_succ_cons, List.cons_append, Nat.reduceLeDiff, Int.cast_ofNat_Int, hlt, c1, hst, ← hH2, r74, c3, hv3, hg', vi, v_rule, v_rule1, a1, hw2]
      rw [w_enter]
      simp only [WA, isStore, isCall, isK, freshI, stampO, List.nil_append, Option.map_some, Option.map_none, Option.bind_some, List.map_cons, List.map_nil, if_true, if_false, Nat.reduceEqDiff, Int.reduceEq, Nat.reduceAdd, Nat.reduceMul, reduceCtorEq, eq_self, Int.reduceLT, Int.reduceLE, Int.reduceToNat, List.length_cons, List.length_nil, List.all_cons, List.all_nil, List.take_zero, List.drop_nil, List.append_nil, List.getElem?_cons_zero, List.getElem?_cons_succ, List.drop_succ_cons, List.drop_zero, List.take_succ_cons, List.cons_append, Nat.reduceLeDiff, Int.cast_ofNat_Int, r1]
      exact r2
    · have hg' : ((n : Int) ≥ 74) = True := eq_true (by omega)
      have hm : n % 74 = n - 74 := by omega
      have hun' : VL[n - 74]? = some u := by rw [← hm]; exact hun
      have hrl := rl_hi hge hxn hun'
      obtain ⟨y, e1, H4, p1, rfl, p2, p3, p4, p5, x4, ver, p6⟩ := l_r0 (H0 := H2) (z1 := out) (z2 := .int .i64 n) (z4 := .int .i64 x.sc) (q := q) (l := smF u.base u.mark u.tone u.sc) (m := (smF u.base u.mark u.tone u.sc).length + 1) q1 o5 (by omega) (smF u.base u.mark u.tone u.sc).length 0 0 H3 (by omega) x3 (by unfold sb; simpa using q2)
      rw [show ((0 : Nat) : Int) = 0 from rfl] at p1
      have x04 := (x1.trans x2).trans x4
      obtain ⟨H5, vi, x5, i5⟩ := new_one (H := H4) (a := x.sc)
      have hI4 : Ints H4 (.slice (some ⟨q, 0, none⟩) ((smL u).map fun c => c - 32).length ((smL u).length + 1)) ((smL u).map fun c => c - 32) := Sl.new (n := ((smL u).map fun c => c - 32).length) (c := (smL u).length + 1) p6 mem_tip (by simp [ints, smL])
      obtain ⟨out', H6, a1, a2, a3, a4, a5⟩ := add_rule (r := ((smL u).map fun c => c - 32, [x.sc])) ((ho.ext x04).ext x5) hf ((hx.trans x04).trans x5) (hI4.ext x5) i5 (by simp only [List.length_map]; omega) (by simp) (by rw [RD_len]; omega)
      rw [← hrl, ← RD_succ] at a2
      obtain ⟨y, e', H', r1, r2⟩ := ih (n + 1) H6 out' (by omega) a4 a2 a3
      have hlen : ∀ H9, vLen false (.slice (some ⟨q, 0, none⟩) (smF u.base u.mark u.tone u.sc).length ((smF u.base u.mark u.tone u.sc).length + 1)) H9 = some (.int .i64 (smF u.base u.mark u.tone u.sc).length, H9) := fun _ => rfl
      simp only [List.length_cons, List.length_nil, List.length_map, Nat.zero_add, smL] at a1
      simp only [WA, isStore, isCall, isK, freshI, stampO, List.nil_append, Option.map_some, Option.map_none, Option.bind_some, List.map_cons, List.map_nil, if_true, if_false, Nat.reduceEqDiff, Int.reduceEq, Nat.reduceAdd, Nat.reduceMul, reduceCtorEq, eq_self, Int.reduceLT, Int.reduceLE, Int.reduceToNat, List.length_cons, List.length_nil, List.all_cons, List.all_nil, List.take_zero, List.drop_nil, List.append_nil, List.getElem?_cons_zero, List.getElem?_cons_succ, List.drop_succ_cons, List.drop_zero, List.take_succ_cons, List.cons_append, Nat.reduceLeDiff, Int.cast_ofNat_Int, hlt, c1, hst, ← hH2, r74, c3, hv3, hg', hlen]
      rw [w_enter]
      simp only [WA, isStore, isCall, isK, freshI, stampO, List.nil_append, Option.map_some, Option.map_none, Option.bind_some, List.map_cons, List.map_nil, if_true, if_false, Nat.reduceEqDiff, Int.reduceEq, Nat.reduceAdd, Nat.reduceMul, reduceCtorEq, eq_self, Int.reduceLT, Int.reduceLE, Int.reduceToNat, List.length_cons, List.length_nil, List.all_cons, List.all_nil, List.take_zero, List.drop_nil, List.append_nil, List.getElem?_cons_zero, List.getElem?_cons_succ, List.drop_succ_cons, List.drop_zero, List.take_succ_cons, List.cons_append, Nat.reduceLeDiff, Int.cast_ofNat_Int, p1, p2, p3, p4, p5, vi, v_rule, v_rule1, a1, hw2]
      rw [w_enter]
      simp only [WA, isStore, isCall, isK, freshI, stampO, List.nil_append, Option.map_some, Option.map_none, Option.bind_some, List.map_cons, List.map_nil, if_true, if_false, Nat.reduceEqDiff, Int.reduceEq, Nat.reduceAdd, Nat.reduceMul, reduceCtorEq, eq_self, Int.reduceLT, Int.reduceLE, Int.reduceToNat, List.length_cons, List.length_nil, List.all_cons, List.all_nil, List.take_zero, List.drop_nil, List.append_nil, List.getElem?_cons_zero, List.getElem?_cons_succ, List.drop_succ_cons, List.drop_zero, List.take_succ_cons, List.cons_append, Nat.reduceLeDiff, Int.cast_ofNat_Int, r1]
      exact r2
def Pr2 (H0 : AHeap) (T : List Rl) (y : AEx) (e' : Env) (H' : AHeap) : Prop := y = .exit 4 ∧ OwnRules H' 46 (eget e' 1) (T ++ asc 128) ∧ Ext H0 H'
theorem l_r2 {H0 : AHeap} {T : List Rl} (hT : T.length ≤ 200) : ∀ (c n : Nat) (H : AHeap) (out : Value), n + c = 128 → Ext H0 H → OwnRules H 46 out (T ++ asc n) → From H0.n out →
    Out (run Try.prog (tabF tab) om1 (.loop [1, 8] b_lontarlaw13_rules_2) [(1, out), (8, .int .i64 n)] H) (Pr2 H0 T) := by
  intro c
  induction c with
  | zero =>
    intro n H out hn hx ho hf
    obtain rfl : n = 128 := by omega
    have z : (((128 : Nat) : Int) < 128) = False := by simp
    rw [w_loop_b b_lontarlaw13_rules_2.eq_1]
    simp only [WA, isStore, isCall, isK, freshI, stampO, List.nil_append, Option.map_some, Option.map_none, Option.bind_some, List.map_cons, List.map_nil, if_true, if_false, Nat.reduceEqDiff, Int.reduceEq, Nat.reduceAdd, Nat.reduceMul, reduceCtorEq, eq_self, Int.reduceLT, Int.reduceLE, Int.reduceToNat, List.length_cons, List.length_nil, List.all_cons, List.all_nil, List.take_zero, List.drop_nil, List.append_nil, List.getElem?_cons_zero, List.getElem?_cons_succ, List.drop_succ_cons, List.drop_zero, List.take_succ_cons, List.cons_append, Nat.reduceLeDiff, Int.cast_ofNat_Int, z]
    exact ⟨rfl, ho, hx⟩
  | succ c ih =>
    intro n H out hn hx ho hf
    have hlt : ((n : Int) < 128) = True := eq_true (by omega)
    have hw2 : IntKind.i64.wrap ((n : Int) + 1) = ((n + 1 : Nat) : Int) := by rw [wrap64 (by omega) (by omega)]; omega
    have hal := asc_len n
    obtain ⟨v, H1, c1, x1, rfl⟩ := c_SplitD (s := n) (H := H)
    have hasc : asc (n + 1) = if (sp VL n).isNone = true then asc n ++ [([(n : Int)], [(n : Int)])] else asc n := rfl
    rw [w_loop_b b_lontarlaw13_rules_2.eq_1]
    unfold spV at c1
    cases hs : sp VL n with
    | none =>
      rw [hs] at c1 hasc
      rw [show (none : Option Lt).isNone = true from rfl, if_pos rfl] at hasc
      simp only at c1
      have hst := st_let (H := H1.push ⟨[.int .i64 0, .complex .f64 0 0], 26, .tip, 0, []⟩) (i := H1.n) (ver := 0) (el := 26) (a := .int .i64 0) (b := .complex .f64 0 0) (x := .int .i64 0) (y := .complex .f64 0 0) rfl
      simp only [Nat.zero_add] at hst
      obtain ⟨H2, hH2⟩ : ∃ H2, H2 = H1.push ⟨[.int .i64 0, .complex .f64 0 0], 26, .tip, 1, []⟩ := ⟨_, rfl⟩
      have x2 : Ext H1 H2 := by rw [hH2]; exact Ext.push H1 _
      have x02 := x1.trans x2
      obtain ⟨H3, vi, x3, i3⟩ := new_one (H := H2) (a := (n : Int))
      obtain ⟨H4, vj, x4, i4⟩ := new_one (H := H3) (a := (n : Int))
      obtain ⟨out', H5, a1, a2, a3, a4, a5⟩ := add_rule (r := ([(n : Int)], [(n : Int)])) (((ho.ext x02).ext x3).ext x4) hf (((hx.trans x02).trans x3).trans x4) (i3.ext x4) i4 (by simp) (by simp) (by rw [List.length_append]; omega)
      rw [List.append_assoc, ← hasc] at a2
      obtain ⟨y, e', H', r1, r2⟩ := ih (n + 1) H5 out' (by omega) a4 a2 a3
      simp only [List.length_cons, List.length_nil, Nat.zero_add] at a1
      simp only [WA, isStore, isCall, isK, freshI, stampO, List.nil_append, Option.map_some, Option.map_none, Option.bind_some, List.map_cons, List.map_nil, if_true, if_false, Nat.reduceEqDiff, Int.reduceEq, Nat.reduceAdd, Nat.reduceMul, reduceCtorEq, eq_self, Int.reduceLT, Int.reduceLE, Int.reduceToNat, List.length_cons, List.length_nil, List.all_cons, List.all_nil, List.take_zero, List.drop_nil, List.append_nil, List.getElem?_cons_zero, List.getElem?_cons_succ, List.drop_succ_cons, List.drop_zero, List.take_succ_cons, List.cons_append, Nat.reduceLeDiff, Int.cast_ofNat_Int, hlt, c1, hst, ← hH2, vi, vj, v_rule, v_rule1, a1, hw2]
      rw [w_enter]
      simp only [WA, isStore, isCall, isK, freshI, stampO, List.nil_append, Option.map_some, Option.map_none, Option.bind_some, List.map_cons, List.map_nil, if_true, if_false, Nat.reduceEqDiff, Int.reduceEq, Nat.reduceAdd, Nat.reduceMul, reduceCtorEq, eq_self, Int.reduceLT, Int.reduceLE, Int.reduceToNat, List.length_cons, List.length_nil, List.all_cons, List.all_nil, List.take_zero, List.drop_nil, List.append_nil, List.getElem?_cons_zero, List.getElem?_cons_succ, List.drop_succ_cons, List.drop_zero, List.take_succ_cons, List.cons_append, Nat.reduceLeDiff, Int.cast_ofNat_Int, r1]
      exact r2
    | some x =>
      rw [hs] at c1 hasc
      rw [show (some x : Option Lt).isNone = false from rfl, if_neg (by simp)] at hasc
      simp only [ltC] at c1
      have hst := st_let (H := H1.push ⟨[.int .i64 0, .complex .f64 0 0], 26, .tip, 0, []⟩) (i := H1.n) (ver := 0) (el := 26) (a := .int .i64 0) (b := .complex .f64 0 0) (x := .int .i64 x.base) (y := .complex .f64 (fb x.mark) (fb x.tone)) rfl
      simp only [Nat.zero_add] at hst
      obtain ⟨H2, hH2⟩ : ∃ H2, H2 = H1.push ⟨[.int .i64 x.base, .complex .f64 (fb x.mark) (fb x.tone)], 26, .tip, 1, []⟩ := ⟨_, rfl⟩
      have x2 : Ext H1 H2 := by rw [hH2]; exact Ext.push H1 _
      have x02 := x1.trans x2
      obtain ⟨y, e', H', r1, r2⟩ := ih (n + 1) H2 out (by omega) (hx.trans x02) (by rw [hasc]; exact ho.ext x02) hf
      simp only [WA, isStore, isCall, isK, freshI, stampO, List.nil_append, Option.map_some, Option.map_none, Option.bind_some, List.map_cons, List.map_nil, if_true, if_false, Nat.reduceEqDiff, Int.reduceEq, Nat.reduceAdd, Nat.reduceMul, reduceCtorEq, eq_self, Int.reduceLT, Int.reduceLE, Int.reduceToNat, List.length_cons, List.length_nil, List.all_cons, List.all_nil, List.take_zero, List.drop_nil, List.append_nil, List.getElem?_cons_zero, List.getElem?_cons_succ, List.drop_succ_cons, List.drop_zero, List.take_succ_cons, List.cons_append, Nat.reduceLeDiff, Int.cast_ofNat_Int, hlt, c1, hst, ← hH2, hw2]
      rw [w_enter]
      simp only [WA, isStore, isCall, isK, freshI, stampO, List.nil_append, Option.map_some, Option.map_none, Option.bind_some, List.map_cons, List.map_nil, if_true, if_false, Nat.reduceEqDiff, Int.reduceEq, Nat.reduceAdd, Nat.reduceMul, reduceCtorEq, eq_self, Int.reduceLT, Int.reduceLE, Int.reduceToNat, List.length_cons, List.length_nil, List.all_cons, List.all_nil, List.take_zero, List.drop_nil, List.append_nil, List.getElem?_cons_zero, List.getElem?_cons_succ, List.drop_succ_cons, List.drop_zero, List.take_succ_cons, List.cons_append, Nat.reduceLeDiff, Int.cast_ofNat_Int, r1]
      exact r2
theorem RU_small : RU.length < 1000 := by
  have := asc_len 128
  unfold RU
  rw [List.length_append, RD_len]
  omega
/-- The document's rules. -/
theorem c_rules {H : AHeap} : Gives (cw Try.prog (tabF tab) om1 17 [] H) fun v H' => Ext H H' ∧ Rules H' v RU := by
  rw [cw_run (F := F_lontarlaw13_rules) rfl rfl rfl]
  unfold F_lontarlaw13_rules k_lontarlaw13_rules
  obtain ⟨y, e', H1, p1, rfl, p2, p3, p4⟩ := l_r1 (H0 := H) 148 0 H (.slice none 0 0) (by omega) (Ext.refl _) (OwnRules.nil _ _) trivial
  obtain ⟨y, e2, H2, s1, rfl, s2, s3⟩ := l_r2 (H0 := H) (T := RD 148) (by rw [RD_len]; omega) 128 0 H1 (eget e' 1) (by omega) p4 (by rw [show asc 0 = [] from rfl, List.append_nil]; exact p2) p3
  rw [show ((0 : Nat) : Int) = 0 from rfl] at p1 s1
  simp only [WA, isStore, isCall, isK, freshI, stampO, List.nil_append, Option.map_some, Option.map_none, Option.bind_some, List.map_cons, List.map_nil, if_true, if_false, Nat.reduceEqDiff, Int.reduceEq, Nat.reduceAdd, Nat.reduceMul, reduceCtorEq, eq_self, Int.reduceLT, Int.reduceLE, Int.reduceToNat, List.length_cons, List.length_nil, List.all_cons, List.all_nil, List.take_zero, List.drop_nil, List.append_nil, List.getElem?_cons_zero, List.getElem?_cons_succ, List.drop_succ_cons, List.drop_zero, List.take_succ_cons, List.cons_append, Nat.reduceLeDiff, Int.cast_ofNat_Int]
  rw [w_enter]
  simp only [WA, isStore, isCall, isK, freshI, stampO, List.nil_append, Option.map_some, Option.map_none, Option.bind_some, List.map_cons, List.map_nil, if_true, if_false, Nat.reduceEqDiff, Int.reduceEq, Nat.reduceAdd, Nat.reduceMul, reduceCtorEq, eq_self, Int.reduceLT, Int.reduceLE, Int.reduceToNat, List.length_cons, List.length_nil, List.all_cons, List.all_nil, List.take_zero, List.drop_nil, List.append_nil, List.getElem?_cons_zero, List.getElem?_cons_succ, List.drop_succ_cons, List.drop_zero, List.take_succ_cons, List.cons_append, Nat.reduceLeDiff, Int.cast_ofNat_Int, p1]
  rw [w_enter]
  simp only [WA, isStore, isCall, isK, freshI, stampO, List.nil_append, Option.map_some, Option.map_none, Option.bind_some, List.map_cons, List.map_nil, if_true, if_false, Nat.reduceEqDiff, Int.reduceEq, Nat.reduceAdd, Nat.reduceMul, reduceCtorEq, eq_self, Int.reduceLT, Int.reduceLE, Int.reduceToNat, List.length_cons, List.length_nil, List.all_cons, List.all_nil, List.take_zero, List.drop_nil, List.append_nil, List.getElem?_cons_zero, List.getElem?_cons_succ, List.drop_succ_cons, List.drop_zero, List.take_succ_cons, List.cons_append, Nat.reduceLeDiff, Int.cast_ofNat_Int, s1]
  exact ⟨s3, s2.rules (by have := RU_small; unfold RU at this; omega)⟩
end Go.Proofs.Ytfhchimfdlhmaaa

/-! Layer 13: vni's rules. -/
set_option linter.unusedSimpArgs false
set_option linter.unusedVariables false
namespace Go.Proofs.Ytfhchimfdlhmaaa
open Go Lon
set_option maxRecDepth 100000
theorem Sl.onMap {H : AHeap} {q sz n : Nat} {b c : ABlk} {v : Value} {cs : List Value} (hg : H.get q = some b) (hb : b.st = .map) (h : Sl H sz v n cs) : Sl (H.upd q c) sz v n cs := by
  obtain ⟨⟨a, cc, rfl⟩, h2⟩ := h
  refine ⟨⟨a, cc, rfl⟩, ?_⟩
  rw [← h2]
  cases a with
  | none => cases n <;> cases cc <;> rfl
  | some a =>
    obtain ⟨i, o, sp⟩ := a
    cases sp with
    | some s => cases n <;> cases cc <;> rfl
    | none =>
      unfold cellsOf at h2 ⊢
      simp only at h2 ⊢
      by_cases hn : n = 0
      · rw [if_pos hn, if_pos hn]
      · rw [if_neg hn] at h2
        rw [if_neg hn, if_neg hn]
        by_cases hi : i = q
        · subst hi
          rw [hg] at h2
          simp only at h2
          rw [if_neg (fun hh => by rw [hb] at hh; exact absurd hh.1 (by decide))] at h2
          cases h2
        · rw [upd_other hg hi]
theorem OwnRules.onMap {H : AHeap} {q : Nat} {b c : ABlk} {el : TypeId} {v : Value} {L : List Rl} (hg : H.get q = some b) (hb : b.st = .map) (hne : b.elem ≠ el) (h : OwnRules H el v L) : OwnRules (H.upd q c) el v L := by
  obtain ⟨cs, h1, h2⟩ := h
  refine ⟨cs, h1.move fun i x hx he => ?_, fun k r hr => ?_⟩
  · rw [upd_other hg (fun e => by subst e; rw [hg] at hx; injection hx with hx; subst hx; exact hne he)]
    exact hx
  · obtain ⟨⟨vi, vo, q1, q2, q3, q4⟩, q5⟩ := h2 k r hr
    exact ⟨⟨vi, vo, q1, q2, Sl.onMap hg hb q3, Sl.onMap hg hb q4⟩, q5⟩
/-- A set of numbers, as a map. -/
def mp (ks : List Int) : List Value := ks.flatMap fun a => [.int .i64 a, .bool true]
theorem find_mp : ∀ {ks : List Int} {a : Int}, findC .i64 a (mp ks) = some (if a ∈ ks then some (.bool true) else none)
  | [], a => rfl
  | k :: ks, a => by
    show findC .i64 a (.int .i64 k :: .bool true :: mp ks) = _
    unfold findC
    rw [if_pos rfl]
    by_cases h : a = k
    · rw [if_pos h, if_pos (by rw [h]; exact List.mem_cons_self ..)]
    · rw [if_neg h, find_mp]
      by_cases h2 : a ∈ ks
      · rw [if_pos h2, if_pos (List.mem_cons_of_mem _ h2)]
      · rw [if_neg h2, if_neg (by simp [h, h2])]
theorem set_mp : ∀ {ks : List Int} {a : Int}, a ∉ ks → setC .i64 a (.bool true) (mp ks) = some (mp (ks ++ [a]))
  | [], a, _ => rfl
  | k :: ks, a, h => by
    show setC .i64 a (.bool true) (.int .i64 k :: .bool true :: mp ks) = _
    have h1 : a ≠ k := fun e => h (by rw [e]; exact List.mem_cons_self ..)
    have h2 : a ∉ ks := fun e => h (List.mem_cons_of_mem _ e)
    unfold setC
    rw [if_pos rfl, if_neg h1, set_mp h2]
    rfl
theorem get_mp {H : AHeap} {q ver : Nat} {el : TypeId} {ks : List Int} {a : Int} (hg : H.get q = some ⟨mp ks, el, .map, ver, []⟩) : mapGet (.map (some q)) (.int .i64 a) (.bool false) false H = some (.bool (decide (a ∈ ks)), H) := by
  unfold mapGet
  simp only [hg, find_mp, Option.map_some, if_true]
  by_cases h : a ∈ ks <;> simp [h]
theorem map_set {H : AHeap} {q ver : Nat} {el : TypeId} {ks : List Int} {a : Int} (hg : H.get q = some ⟨mp ks, el, .map, ver, []⟩) (hn : a ∉ ks) : mapSet (.map (some q)) (.int .i64 a) (.bool true) H = some (.tuple ⟨[]⟩, H.upd q ⟨mp (ks ++ [a]), el, .map, ver + 1, []⟩) := by
  unfold mapSet
  simp only [hg, set_mp hn, Option.map_some]
  rfl
def ndB : List Int → List Int → Bool
  | _, [] => true
  | acc, s :: l => (acc.all fun a => decide (a ≠ s)) && ndB (s :: acc) l
theorem ndB_of : ∀ {l acc : List Int}, ndB acc l = true → ∀ k s, l[k]? = some s → s ∉ acc ∧ s ∉ l.take k
  | [], acc, _, k, s, h => by simp at h
  | u :: l, acc, hb, k, s, h => by
    unfold ndB at hb
    rw [Bool.and_eq_true] at hb
    obtain ⟨h1, h2⟩ := hb
    cases k with
    | zero =>
      have h : u = s := by simpa using h
      subst h
      refine ⟨fun hm => ?_, by simp⟩
      have := List.all_eq_true.1 h1 u hm
      simp at this
    | succ k =>
      obtain ⟨g1, g2⟩ := ndB_of h2 k s (by simpa using h)
      refine ⟨fun hm => g1 (List.mem_cons_of_mem _ hm), fun hm => ?_⟩
      rw [List.take_succ_cons] at hm
      rcases List.mem_cons.1 hm with rfl | hm
      · exact g1 (List.mem_cons_self ..)
      · exact g2 hm
/-- The letters' scalars. -/
def SC : List Int := VL.map (·.sc)
theorem SC_nd : ndB [] SC = true := by kernel_rfl
theorem SC_new {k : Nat} {x : Lt} (h : VL[k]? = some x) : x.sc ∉ SC.take k := (ndB_of SC_nd k x.sc (by unfold SC; rw [List.getElem?_map, h]; rfl)).2
theorem SC_next {k : Nat} {x : Lt} (h : VL[k]? = some x) : SC.take (k + 1) = SC.take k ++ [x.sc] := by
  have : SC[k]? = some x.sc := by unfold SC; rw [List.getElem?_map, h]; rfl
  rw [List.take_add_one, this]
  rfl
theorem sp_mem {s : Int} : ∀ {L : List Lt}, (sp L s).isNone = !decide (s ∈ L.map (·.sc))
  | [] => by simp [sp]
  | x :: L => by
    unfold sp
    by_cases h : x.sc = s
    · rw [if_pos h]; simp [h]
    · rw [if_neg h, sp_mem]
      have : s ≠ x.sc := fun e => h e.symm
      simp [this]
def upI (up : Bool) (c : Int) : Int := if up then c - 32 else c
def Pv0 (H0 : AHeap) (up : Bool) (l : List Int) (z1 z2 z3 z4 z5 z6 z21 z22 z23 : Value) (y : AEx) (e' : Env) (H' : AHeap) : Prop := y = .exit 2 ∧ eget e' 1 = z1 ∧ eget e' 2 = z2 ∧ eget e' 3 = z3 ∧ eget e' 4 = z4 ∧ eget e' 5 = z5 ∧ eget e' 6 = z6 ∧ eget e' 21 = z21 ∧ eget e' 22 = z22 ∧ eget e' 23 = z23 ∧ OwnI H' (eget e' 9) (l.map (upI up)) ∧ Ext H0 H'
theorem l_v0 {H0 : AHeap} {up : Bool} {l : List Int} {z1 z2 z3 z4 z5 z6 z21 z22 z23 v : Value} (hi : Ints H0 v l) (hl : ∀ s ∈ l, 0 ≤ s ∧ s < 1000) (hl2 : l.length < 100) : ∀ (c k : Nat) (H : AHeap) (w : Value), k + c = l.length → Ext H0 H → OwnI H w ((l.take k).map (upI up)) → From H0.n w →
    Out (run Try.prog (tabF tab) om1 (.loop [1, 2, 3, 4, 5, 6, 8, 9, 21, 22, 23, 39, 40, 41] b_vni_Rules_0) [(1, z1), (2, z2), (3, z3), (4, z4), (5, z5), (6, z6), (8, .bool up), (9, w), (21, z21), (22, z22), (23, z23), (39, v), (40, .int .i64 l.length), (41, .int .i64 k)] H) (Pv0 H0 up l z1 z2 z3 z4 z5 z6 z21 z22 z23) := by
  intro c
  induction c with
  | zero =>
    intro k H w hk hx ho hf
    obtain rfl : k = l.length := by omega
    have z : (((l.length : Nat) : Int) < (l.length : Nat)) = False := by simp
    rw [w_loop_b b_vni_Rules_0.eq_1]
    simp only [WA, isStore, isCall, isK, freshI, stampO, List.nil_append, Option.map_some, Option.map_none, Option.bind_some, List.map_cons, List.map_nil, if_true, if_false, Nat.reduceEqDiff, Int.reduceEq, Nat.reduceAdd, Nat.reduceMul, reduceCtorEq, eq_self, Int.reduceLT, Int.reduceLE, Int.reduceToNat, List.length_cons, List.length_nil, List.all_cons, List.all_nil, List.take_zero, List.drop_nil, List.append_nil, List.getElem?_cons_zero, List.getElem?_cons_succ, List.drop_succ_cons, List.drop_zero, List.take_succ_cons, List.cons_append, Nat.reduceLeDiff, Int.cast_ofNat_Int, z]
    refine ⟨rfl, rfl, rfl, rfl, rfl, rfl, rfl, rfl, rfl, rfl, ?_, hx⟩
    rw [List.take_of_length_le (Nat.le_refl _)] at ho
    exact ho
  | succ c ih =>
    intro k H w hk hx ho hf
    have hlt : ((k : Int) < (l.length : Nat)) = True := eq_true (by omega)
    obtain ⟨x, hxk, _⟩ := drop_at (L := l) (i := k) (by omega)
    have hxs := hl x (List.mem_of_getElem? hxk)
    obtain ⟨i, o, a1, a2⟩ := (hi.ext hx).at hxk
    have hw2 : IntKind.i64.wrap ((k : Int) + 1) = ((k + 1 : Nat) : Int) := by rw [wrap64 (by omega) (by omega)]; omega
    have hw3 : IntKind.i64.wrap (x - 32) = x - 32 := wrap64 (by omega) (by omega)
    have htk : (l.take (k + 1)).map (upI up) = (l.take k).map (upI up) ++ [upI up x] := by rw [List.take_add_one, hxk]; simp
    obtain ⟨H2, vi, x2, i2⟩ := new_one (H := H) (a := upI up x)
    obtain ⟨w', H3, b1, b2, b3, b4⟩ := OwnI.add (ho.ext x2) hf (hx.trans x2) i2 (by simp; omega)
    rw [← htk] at b2
    obtain ⟨y, e', H', r1, r2⟩ := ih (k + 1) H3 w' (by omega) b4 b2 b3
    rw [w_loop_b b_vni_Rules_0.eq_1]
    cases up with
    | false =>
      simp only [upI, Bool.false_eq_true, if_false] at vi
      simp only [WA, isStore, isCall, isK, freshI, stampO, List.nil_append, Option.map_some, Option.map_none, Option.bind_some, List.map_cons, List.map_nil, if_true, if_false, Nat.reduceEqDiff, Int.reduceEq, Nat.reduceAdd, Nat.reduceMul, reduceCtorEq, eq_self, Int.reduceLT, Int.reduceLE, Int.reduceToNat, List.length_cons, List.length_nil, List.all_cons, List.all_nil, List.take_zero, List.drop_nil, List.append_nil, List.getElem?_cons_zero, List.getElem?_cons_succ, List.drop_succ_cons, List.drop_zero, List.take_succ_cons, List.cons_append, Nat.reduceLeDiff, Int.cast_ofNat_Int, hlt, a1, a2, vi, b1, hw2]
      rw [w_enter]
      simp only [WA, isStore, isCall, isK, freshI, stampO, List.nil_append, Option.map_some, Option.map_none, Option.bind_some, List.map_cons, List.map_nil, if_true, if_false, Nat.reduceEqDiff, Int.reduceEq, Nat.reduceAdd, Nat.reduceMul, reduceCtorEq, eq_self, Int.reduceLT, Int.reduceLE, Int.reduceToNat, List.length_cons, List.length_nil, List.all_cons, List.all_nil, List.take_zero, List.drop_nil, List.append_nil, List.getElem?_cons_zero, List.getElem?_cons_succ, List.drop_succ_cons, List.drop_zero, List.take_succ_cons, List.cons_append, Nat.reduceLeDiff, Int.cast_ofNat_Int, r1]
      exact r2
    | true =>
      simp only [upI, if_true] at vi
      simp only [WA, isStore, isCall, isK, freshI, stampO, List.nil_append, Option.map_some, Option.map_none, Option.bind_some, List.map_cons, List.map_nil, if_true, if_false, Nat.reduceEqDiff, Int.reduceEq, Nat.reduceAdd, Nat.reduceMul, reduceCtorEq, eq_self, Int.reduceLT, Int.reduceLE, Int.reduceToNat, List.length_cons, List.length_nil, List.all_cons, List.all_nil, List.take_zero, List.drop_nil, List.append_nil, List.getElem?_cons_zero, List.getElem?_cons_succ, List.drop_succ_cons, List.drop_zero, List.take_succ_cons, List.cons_append, Nat.reduceLeDiff, Int.cast_ofNat_Int, hlt, a1, a2, hw3, vi, b1, hw2]
      rw [w_enter]
      simp only [WA, isStore, isCall, isK, freshI, stampO, List.nil_append, Option.map_some, Option.map_none, Option.bind_some, List.map_cons, List.map_nil, if_true, if_false, Nat.reduceEqDiff, Int.reduceEq, Nat.reduceAdd, Nat.reduceMul, reduceCtorEq, eq_self, Int.reduceLT, Int.reduceLE, Int.reduceToNat, List.length_cons, List.length_nil, List.all_cons, List.all_nil, List.take_zero, List.drop_nil, List.append_nil, List.getElem?_cons_zero, List.getElem?_cons_succ, List.drop_succ_cons, List.drop_zero, List.take_succ_cons, List.cons_append, Nat.reduceLeDiff, Int.cast_ofNat_Int, r1]
      exact r2
end Go.Proofs.Ytfhchimfdlhmaaa

