/- What is proved here: what the program's functions come to, as far as the claimed statement asks. Conditions: those that each theorem names, and no others. -/
import Derived.Test.YthnccfmmeaeibaaP1
import Derived.Test.YthnccfmmeaeibaaP2
import Derived.Test.YthnccfmmeaeibaaLonZj
/-! The document's longest rule. -/
set_option linter.unusedSimpArgs false
set_option linter.unusedVariables false
namespace Go.Proofs.Ythnccfmmeaeibaa
open Go Lon
set_option maxRecDepth 100000
theorem l_Doc {a b : Value} {us : List Int} {L : List Rl} (hL : L.length < 1000000) (hus : tiny us) : ∀ (c i : Nat) (H : AHeap) (k : Int) (n : Nat) (o : Bool), i + c = L.length → Rules H a L → CutR H a → Ints H b us → Cut Try.prog H b 1 →
    Out (run Try.prog (tabF tab) om1 (.loop [1, 7, 8, 9, 12, 13, 14] b_lontarlaw04_Longest_0) [(1, b), (7, .int .i64 k), (8, .int .i64 n), (9, .bool o), (12, a), (13, .int .i64 L.length), (14, .int .i64 i)] H) fun y e' H' => y = .exit 0 ∧ Ext H H' ∧ eget e' 7 = .int .i64 (docF us (L.drop i) i k n o).1 ∧ eget e' 8 = .int .i64 (docF us (L.drop i) i k n o).2.1 ∧ eget e' 9 = .bool (docF us (L.drop i) i k n o).2.2 := by
  intro c
  induction c with
  | zero =>
    intro i H k n o hi ha hac hb hbc
    have hlt : ¬ ((i : Int) < L.length) := by omega
    rw [w_loop_b b_lontarlaw04_Longest_0.eq_1, List.drop_of_length_le (by omega)]
    simp only [WA, isStore, isCall, isK, freshI, stampO, List.nil_append, Option.map_some, Option.map_none, Option.bind_some, List.map_cons, List.map_nil, if_true, if_false, Nat.reduceEqDiff, Int.reduceEq, Nat.reduceAdd, Nat.reduceMul, reduceCtorEq, eq_self, Int.reduceLT, Int.reduceLE, Int.reduceToNat, List.length_cons, List.length_nil, List.all_cons, List.all_nil, List.take_zero, List.drop_nil, List.append_nil, List.getElem?_cons_zero, List.getElem?_cons_succ, List.drop_succ_cons, List.drop_zero, List.take_succ_cons, List.cons_append, Nat.reduceLeDiff, Int.cast_ofNat_Int, hlt, docF]
    exact Ext.refl _
  | succ c ih =>
    intro i H k n o hi ha hac hb hbc
    have hlt : (i : Int) < L.length := by omega
    obtain ⟨r, hr, hdr⟩ := drop_at (L := L) (i := i) (by omega)
    obtain ⟨i1, o1, vi, vo, h1, h2, h3, h4, h5, h6, h7, h8, h9, h10⟩ := Rules.atC ha hac hr
    have h5' := h5
    have h6' := h6
    obtain ⟨⟨ai, ci, rfl⟩, _⟩ := h5'
    obtain ⟨⟨ao, co, rfl⟩, _⟩ := h6'
    have hx1 := Ext.push H ⟨[.slice ai r.1.length ci, .slice ao r.2.length co], 51, .tip, 1, []⟩
    obtain ⟨H1, hH1⟩ : ∃ H1, H1 = H.push ⟨[.slice ai r.1.length ci, .slice ao r.2.length co], 51, .tip, 1, []⟩ := ⟨_, rfl⟩
    have hg1 : H1.get H.n = some ⟨[.slice ai r.1.length ci, .slice ao r.2.length co], 51, .tip, 1, []⟩ := by rw [hH1]; exact get_push_self
    have hw2 : IntKind.i64.wrap ((i : Int) + 1) = ((i + 1 : Nat) : Int) := by rw [wrap64 (by omega) (by omega)]; omega
    have hlr : ∀ H2 : AHeap, vLen false (.slice ai r.1.length ci) H2 = some (.int .i64 r.1.length, H2) := fun H2 => Sl.len h5
    have hlb : ∀ H2 : AHeap, vLen false b H2 = some (.int .i64 us.length, H2) := fun H2 => Sl.len hb
    rw [w_loop_b b_lontarlaw04_Longest_0.eq_1, hdr]
    unfold docF
    rw [← hH1] at hx1
    by_cases hle : r.1.length ≤ us.length
    · obtain ⟨b', s1, s2, s3⟩ := (hb.ext hx1).take (hbc.ext hx1) hle
      have s1' := s1 .i64
      have cU := c_Units (h5.ext hx1) s2 h7
      have hle' : (r.1.length : Int) ≤ us.length := by omega
      have hgt : ¬ (r.1.length : Int) > us.length := by omega
      have hd : (decide (us.length < r.1.length) && decide (r.1.take us.length = us)) = false := by
        rw [decide_eq_false (by omega)]; rfl
      rw [hd, Bool.or_false]
      by_cases he : r.1 = us.take r.1.length
      · have he' : decide (r.1 = us.take r.1.length) = true := decide_eq_true he
        rw [he'] at cU
        by_cases hn : n < r.1.length
        · have hn' : (r.1.length : Int) > n := by omega
          rw [if_pos ⟨hle, he, hn⟩]
          obtain ⟨y, e', H', r1, r2, r3, r4, r5, r6⟩ := ih (i + 1) H1 i r.1.length o (by omega) (ha.ext hx1) (hac.ext hx1) (hb.ext hx1) (hbc.ext hx1)
          cases o <;>
          · simp only [WA, isStore, isCall, isK, freshI, stampO, List.nil_append, Option.map_some, Option.map_none, Option.bind_some, List.map_cons, List.map_nil, if_true, if_false, Nat.reduceEqDiff, Int.reduceEq, Nat.reduceAdd, Nat.reduceMul, reduceCtorEq, eq_self, Int.reduceLT, Int.reduceLE, Int.reduceToNat, List.length_cons, List.length_nil, List.all_cons, List.all_nil, List.take_zero, List.drop_nil, List.append_nil, List.getElem?_cons_zero, List.getElem?_cons_succ, List.drop_succ_cons, List.drop_zero, List.take_succ_cons, List.cons_append, Nat.reduceLeDiff, Int.cast_ofNat_Int, hlt, h1, h4, ← hH1, hg1, hlr, hlb, hle', s1', cU, hn', hgt, hw2]
            rw [w_enter]
            simp only [WA, isStore, isCall, isK, freshI, stampO, List.nil_append, Option.map_some, Option.map_none, Option.bind_some, List.map_cons, List.map_nil, if_true, if_false, Nat.reduceEqDiff, Int.reduceEq, Nat.reduceAdd, Nat.reduceMul, reduceCtorEq, eq_self, Int.reduceLT, Int.reduceLE, Int.reduceToNat, List.length_cons, List.length_nil, List.all_cons, List.all_nil, List.take_zero, List.drop_nil, List.append_nil, List.getElem?_cons_zero, List.getElem?_cons_succ, List.drop_succ_cons, List.drop_zero, List.take_succ_cons, List.cons_append, Nat.reduceLeDiff, Int.cast_ofNat_Int, r1]
            exact ⟨r2, hx1.trans r3, r4, r5, r6⟩
        · have hn' : ¬ (r.1.length : Int) > n := by omega
          rw [if_neg (fun h => hn h.2.2)]
          obtain ⟨y, e', H', r1, r2, r3, r4, r5, r6⟩ := ih (i + 1) H1 k n o (by omega) (ha.ext hx1) (hac.ext hx1) (hb.ext hx1) (hbc.ext hx1)
          cases o <;>
          · simp only [WA, isStore, isCall, isK, freshI, stampO, List.nil_append, Option.map_some, Option.map_none, Option.bind_some, List.map_cons, List.map_nil, if_true, if_false, Nat.reduceEqDiff, Int.reduceEq, Nat.reduceAdd, Nat.reduceMul, reduceCtorEq, eq_self, Int.reduceLT, Int.reduceLE, Int.reduceToNat, List.length_cons, List.length_nil, List.all_cons, List.all_nil, List.take_zero, List.drop_nil, List.append_nil, List.getElem?_cons_zero, List.getElem?_cons_succ, List.drop_succ_cons, List.drop_zero, List.take_succ_cons, List.cons_append, Nat.reduceLeDiff, Int.cast_ofNat_Int, hlt, h1, h4, ← hH1, hg1, hlr, hlb, hle', s1', cU, hn', hgt, hw2]
            rw [w_enter]
            simp only [WA, isStore, isCall, isK, freshI, stampO, List.nil_append, Option.map_some, Option.map_none, Option.bind_some, List.map_cons, List.map_nil, if_true, if_false, Nat.reduceEqDiff, Int.reduceEq, Nat.reduceAdd, Nat.reduceMul, reduceCtorEq, eq_self, Int.reduceLT, Int.reduceLE, Int.reduceToNat, List.length_cons, List.length_nil, List.all_cons, List.all_nil, List.take_zero, List.drop_nil, List.append_nil, List.getElem?_cons_zero, List.getElem?_cons_succ, List.drop_succ_cons, List.drop_zero, List.take_succ_cons, List.cons_append, Nat.reduceLeDiff, Int.cast_ofNat_Int, r1]
            exact ⟨r2, hx1.trans r3, r4, r5, r6⟩
      · have he' : decide (r.1 = us.take r.1.length) = false := decide_eq_false he
        rw [he'] at cU
        rw [if_neg (fun h => he h.2.1)]
        obtain ⟨y, e', H', r1, r2, r3, r4, r5, r6⟩ := ih (i + 1) H1 k n o (by omega) (ha.ext hx1) (hac.ext hx1) (hb.ext hx1) (hbc.ext hx1)
        cases o <;>
        · simp only [WA, isStore, isCall, isK, freshI, stampO, List.nil_append, Option.map_some, Option.map_none, Option.bind_some, List.map_cons, List.map_nil, if_true, if_false, Nat.reduceEqDiff, Int.reduceEq, Nat.reduceAdd, Nat.reduceMul, reduceCtorEq, eq_self, Int.reduceLT, Int.reduceLE, Int.reduceToNat, List.length_cons, List.length_nil, List.all_cons, List.all_nil, List.take_zero, List.drop_nil, List.append_nil, List.getElem?_cons_zero, List.getElem?_cons_succ, List.drop_succ_cons, List.drop_zero, List.take_succ_cons, List.cons_append, Nat.reduceLeDiff, Int.cast_ofNat_Int, hlt, h1, h4, ← hH1, hg1, hlr, hlb, hle', s1', cU, hgt, hw2]
          rw [w_enter]
          simp only [WA, isStore, isCall, isK, freshI, stampO, List.nil_append, Option.map_some, Option.map_none, Option.bind_some, List.map_cons, List.map_nil, if_true, if_false, Nat.reduceEqDiff, Int.reduceEq, Nat.reduceAdd, Nat.reduceMul, reduceCtorEq, eq_self, Int.reduceLT, Int.reduceLE, Int.reduceToNat, List.length_cons, List.length_nil, List.all_cons, List.all_nil, List.take_zero, List.drop_nil, List.append_nil, List.getElem?_cons_zero, List.getElem?_cons_succ, List.drop_succ_cons, List.drop_zero, List.take_succ_cons, List.cons_append, Nat.reduceLeDiff, Int.cast_ofNat_Int, r1]
          exact ⟨r2, hx1.trans r3, r4, r5, r6⟩
    · have hle' : ¬ (r.1.length : Int) ≤ us.length := by omega
      have hgt : (r.1.length : Int) > us.length := by omega
      rw [if_neg (fun h => hle h.1), decide_eq_true (show us.length < r.1.length by omega), Bool.true_and]
      obtain ⟨b', s1, s2, s3⟩ := (h5.ext hx1).take (h9.ext hx1) (show us.length ≤ r.1.length by omega)
      have s1' := s1 .i64
      have cU := c_Units s2 (hb.ext hx1) (by rw [List.length_take]; unfold Lon.tiny at hus; omega)
      obtain ⟨y, e', H', r1, r2, r3, r4, r5, r6⟩ := ih (i + 1) H1 k n (o || decide (r.1.take us.length = us)) (by omega) (ha.ext hx1) (hac.ext hx1) (hb.ext hx1) (hbc.ext hx1)
      cases o with
      | true =>
        simp only [Bool.true_or] at r1 r4 r5 r6 ⊢
        simp only [WA, isStore, isCall, isK, freshI, stampO, List.nil_append, Option.map_some, Option.map_none, Option.bind_some, List.map_cons, List.map_nil, if_true, if_false, Nat.reduceEqDiff, Int.reduceEq, Nat.reduceAdd, Nat.reduceMul, reduceCtorEq, eq_self, Int.reduceLT, Int.reduceLE, Int.reduceToNat, List.length_cons, List.length_nil, List.all_cons, List.all_nil, List.take_zero, List.drop_nil, List.append_nil, List.getElem?_cons_zero, List.getElem?_cons_succ, List.drop_succ_cons, List.drop_zero, List.take_succ_cons, List.cons_append, Nat.reduceLeDiff, Int.cast_ofNat_Int, hlt, h1, h4, ← hH1, hg1, hlr, hlb, hle', hw2]
        rw [w_enter]
        simp only [WA, isStore, isCall, isK, freshI, stampO, List.nil_append, Option.map_some, Option.map_none, Option.bind_some, List.map_cons, List.map_nil, if_true, if_false, Nat.reduceEqDiff, Int.reduceEq, Nat.reduceAdd, Nat.reduceMul, reduceCtorEq, eq_self, Int.reduceLT, Int.reduceLE, Int.reduceToNat, List.length_cons, List.length_nil, List.all_cons, List.all_nil, List.take_zero, List.drop_nil, List.append_nil, List.getElem?_cons_zero, List.getElem?_cons_succ, List.drop_succ_cons, List.drop_zero, List.take_succ_cons, List.cons_append, Nat.reduceLeDiff, Int.cast_ofNat_Int, r1]
        exact ⟨r2, hx1.trans r3, r4, r5, r6⟩
      | false =>
        simp only [Bool.false_or] at r1 r4 r5 r6 ⊢
        simp only [WA, isStore, isCall, isK, freshI, stampO, List.nil_append, Option.map_some, Option.map_none, Option.bind_some, List.map_cons, List.map_nil, if_true, if_false, Nat.reduceEqDiff, Int.reduceEq, Nat.reduceAdd, Nat.reduceMul, reduceCtorEq, eq_self, Int.reduceLT, Int.reduceLE, Int.reduceToNat, List.length_cons, List.length_nil, List.all_cons, List.all_nil, List.take_zero, List.drop_nil, List.append_nil, List.getElem?_cons_zero, List.getElem?_cons_succ, List.drop_succ_cons, List.drop_zero, List.take_succ_cons, List.cons_append, Nat.reduceLeDiff, Int.cast_ofNat_Int, hlt, h1, h4, ← hH1, hg1, hlr, hlb, hle', hgt, s1', cU, hw2]
        rw [w_enter]
        simp only [WA, isStore, isCall, isK, freshI, stampO, List.nil_append, Option.map_some, Option.map_none, Option.bind_some, List.map_cons, List.map_nil, if_true, if_false, Nat.reduceEqDiff, Int.reduceEq, Nat.reduceAdd, Nat.reduceMul, reduceCtorEq, eq_self, Int.reduceLT, Int.reduceLE, Int.reduceToNat, List.length_cons, List.length_nil, List.all_cons, List.all_nil, List.take_zero, List.drop_nil, List.append_nil, List.getElem?_cons_zero, List.getElem?_cons_succ, List.drop_succ_cons, List.drop_zero, List.take_succ_cons, List.cons_append, Nat.reduceLeDiff, Int.cast_ofNat_Int, r1]
        exact ⟨r2, hx1.trans r3, r4, r5, r6⟩
theorem c_Doc {a b : Value} {us : List Int} {L : List Rl} {H : AHeap} (ha : Rules H a L) (hac : CutR H a) (hb : Ints H b us) (hbc : Cut Try.prog H b 1) (hL : L.length < 1000000) (hus : tiny us) : Gives (cw Try.prog (tabF tab) om1 29 [a, b] H) fun v H' => Ext H H' ∧ v = .tuple ⟨[.int .i64 (docF us L 0 (-1) 0 false).1, .int .i64 (docF us L 0 (-1) 0 false).2.1, .bool (docF us L 0 (-1) 0 false).2.2]⟩ := by
  rw [cw_run (F := F_lontarlaw04_Longest) rfl rfl rfl]
  unfold F_lontarlaw04_Longest k_lontarlaw04_Longest
  obtain ⟨y, e', H', r1, rfl, r3, r4, r5, r6⟩ := l_Doc (a := a) hL hus L.length 0 H (-1) 0 false (by omega) ha hac hb hbc
  have hl := ha.len (H2 := H)
  rw [List.drop_zero] at r4 r5 r6
  simp only [Int.cast_ofNat_Int] at r1
  simp only [WA, isStore, isCall, isK, freshI, stampO, List.nil_append, Option.map_some, Option.map_none, Option.bind_some, List.map_cons, List.map_nil, if_true, if_false, Nat.reduceEqDiff, Int.reduceEq, Nat.reduceAdd, Nat.reduceMul, reduceCtorEq, eq_self, Int.reduceLT, Int.reduceLE, Int.reduceToNat, List.length_cons, List.length_nil, List.all_cons, List.all_nil, List.take_zero, List.drop_nil, List.append_nil, List.getElem?_cons_zero, List.getElem?_cons_succ, List.drop_succ_cons, List.drop_zero, List.take_succ_cons, List.cons_append, Nat.reduceLeDiff, Int.cast_ofNat_Int, hl]
  rw [w_enter]
  simp only [WA, isStore, isCall, isK, freshI, stampO, List.nil_append, Option.map_some, Option.map_none, Option.bind_some, List.map_cons, List.map_nil, if_true, if_false, Nat.reduceEqDiff, Int.reduceEq, Nat.reduceAdd, Nat.reduceMul, reduceCtorEq, eq_self, Int.reduceLT, Int.reduceLE, Int.reduceToNat, List.length_cons, List.length_nil, List.all_cons, List.all_nil, List.take_zero, List.drop_nil, List.append_nil, List.getElem?_cons_zero, List.getElem?_cons_succ, List.drop_succ_cons, List.drop_zero, List.take_succ_cons, List.cons_append, Nat.reduceLeDiff, Int.cast_ofNat_Int, r1, r4, r5, r6]
  exact r3
end Go.Proofs.Ythnccfmmeaeibaa

/-! Units by numbers. -/
set_option linter.unusedSimpArgs false
set_option linter.unusedVariables false
namespace Go.Proofs.Ythnccfmmeaeibaa
open Go Lon
def som (l : List Int) : List Int := (l.take 60).map fun u => 97 + u % 6
theorem som_len {l : List Int} : (som l).length ≤ 60 := by unfold som; rw [List.length_map, List.length_take]; omega
theorem som_map {l : List Int} {i : Nat} : (l.map fun u => 97 + u % 6).take i = (l.take i).map fun u => 97 + u % 6 := by rw [List.map_take]
theorem l_Some {a : Value} {l : List Int} {B : Nat} (hl : l.length ≤ 60) (hb : bytes l) : ∀ (k i : Nat) (H : AHeap) (out : Value), i + k = l.length → Nums H .u8 a l → Own H 3 1 out i (ints ((l.take i).map fun u => 97 + u % 6)) → From B out → B ≤ H.n →
    Out (run Try.prog (tabF tab) om1 (.loop [3, 10, 11, 12] b_lontarlaw04_Some_0) [(3, out), (10, a), (11, .int .i64 l.length), (12, .int .i64 i)] H) fun y e' H' => y = .exit 0 ∧ Own H' 3 1 (eget e' 3) l.length (ints (l.map fun u => 97 + u % 6)) ∧ From B (eget e' 3) ∧ B ≤ H'.n ∧ (∀ j, j < B → H'.get j = H.get j) := by
  intro k
  induction k with
  | zero =>
    intro i H out hi ha ho hf hB
    obtain rfl : i = l.length := by omega
    have hlt : ¬ ((l.length : Int) < l.length) := by omega
    rw [w_loop_b b_lontarlaw04_Some_0.eq_1]
    rw [List.take_length] at ho
    simp only [WA, isStore, isCall, isK, freshI, stampO, List.nil_append, Option.map_some, Option.map_none, Option.bind_some, List.map_cons, List.map_nil, if_true, if_false, Nat.reduceEqDiff, Int.reduceEq, Nat.reduceAdd, Nat.reduceMul, reduceCtorEq, eq_self, Int.reduceLT, Int.reduceLE, Int.reduceToNat, List.length_cons, List.length_nil, List.all_cons, List.all_nil, List.take_zero, List.drop_nil, List.append_nil, List.getElem?_cons_zero, List.getElem?_cons_succ, List.drop_succ_cons, List.drop_zero, List.take_succ_cons, List.cons_append, Nat.reduceLeDiff, Int.cast_ofNat_Int, hlt]
    exact ⟨ho, hf, hB, fun _ _ => trivial⟩
  | succ k ih =>
    intro i H out hi ha ho hf hB
    have hlt : (i : Int) < l.length := by omega
    obtain ⟨u, hu, hd⟩ := drop_at (L := l) (i := i) (by omega)
    obtain ⟨u1, u2⟩ := hb u (List.mem_of_getElem? hu)
    obtain ⟨i1, o1, h1, h2⟩ := ha.at hu
    have hw2 : IntKind.i64.wrap ((i : Int) + 1) = ((i + 1 : Nat) : Int) := by rw [wrap64 (by omega) (by omega)]; omega
    have q1 : intOp .rem .u8 u 6 = some (.int .u8 (u % 6)) := by rw [int_rem (by decide), Int.tmod_eq_emod_of_nonneg (by omega)]
    have q2 : IntKind.i64.wrap (u % 6) = u % 6 := wrap64 (by omega) (by omega)
    have q3 : IntKind.i64.wrap (97 + u % 6) = 97 + u % 6 := wrap64 (by omega) (by omega)
    have hx1 := Ext.push H ⟨[.int .i64 (97 + u % 6)], 3, .tip, 0, []⟩
    obtain ⟨v', H5, m1, m2, m3, m4, m5, m6⟩ := Own.append2 (bytes := 8) (m := 1) (ho.ext hx1) (Sl.new (n := 1) (c := 2) (get_push_self (H := H) (b := ⟨[.int .i64 (97 + u % 6)], 3, .tip, 0, []⟩)) mem_tip rfl) (by omega) rfl (by omega)
    have hdone : ints ((l.take i).map fun u => 97 + u % 6) ++ [.int .i64 (97 + u % 6)] = ints ((l.take (i + 1)).map fun u => 97 + u % 6) := by
      rw [List.take_add_one, hu]; simp [ints]
    rw [hdone] at m2
    obtain ⟨y, e', H', r1, r2, r4, r5, r6, r7⟩ := ih (i + 1) H5 v' (by omega) (((ha.ext hx1)).keeps m4) m2 (m3.mono (by simp; omega)) (by simp at m5; omega)
    rw [w_loop_b b_lontarlaw04_Some_0.eq_1]
    simp only [WA, isStore, isCall, isK, freshI, stampO, List.nil_append, Option.map_some, Option.map_none, Option.bind_some, List.map_cons, List.map_nil, if_true, if_false, Nat.reduceEqDiff, Int.reduceEq, Nat.reduceAdd, Nat.reduceMul, reduceCtorEq, eq_self, Int.reduceLT, Int.reduceLE, Int.reduceToNat, List.length_cons, List.length_nil, List.all_cons, List.all_nil, List.take_zero, List.drop_nil, List.append_nil, List.getElem?_cons_zero, List.getElem?_cons_succ, List.drop_succ_cons, List.drop_zero, List.take_succ_cons, List.cons_append, Nat.reduceLeDiff, Int.cast_ofNat_Int, hlt, h1, h2, q1, q2, q3, v_int1, m1, hw2]
    rw [w_enter]
    simp only [WA, isStore, isCall, isK, freshI, stampO, List.nil_append, Option.map_some, Option.map_none, Option.bind_some, List.map_cons, List.map_nil, if_true, if_false, Nat.reduceEqDiff, Int.reduceEq, Nat.reduceAdd, Nat.reduceMul, reduceCtorEq, eq_self, Int.reduceLT, Int.reduceLE, Int.reduceToNat, List.length_cons, List.length_nil, List.all_cons, List.all_nil, List.take_zero, List.drop_nil, List.append_nil, List.getElem?_cons_zero, List.getElem?_cons_succ, List.drop_succ_cons, List.drop_zero, List.take_succ_cons, List.cons_append, Nat.reduceLeDiff, Int.cast_ofNat_Int, r1]
    refine ⟨r2, r4, r5, r6, fun j hj => ?_⟩
    rw [r7 j hj, m6 j (by simp; omega) (NotAt.of_from hf hj), hx1.2 j (by omega)]
theorem c_Some {a : Value} {l : List Int} {H : AHeap} (ha : Nums H .u8 a l) (hc : Cut Try.prog H a 1) (hb : bytes l) (hs : tiny l) : Gives (cw Try.prog (tabF tab) om1 19 [a] H) fun v H' => Ext H H' ∧ Ints H' v (som l) ∧ Cut Try.prog H' v 1 := by
  rw [cw_run (F := F_lontarlaw04_Some) rfl rfl rfl]
  unfold F_lontarlaw04_Some k_lontarlaw04_Some
  obtain ⟨k, hk⟩ : ∃ k : Nat, k = min l.length 60 := ⟨_, rfl⟩
  obtain ⟨a', s1, s2, s3⟩ := ha.take hc (show k ≤ l.length by omega)
  have hmin : (if (60 : Int) < (l.length : Int) then (60 : Int) else (l.length : Int)) = (k : Int) := by split <;> omega
  have hkl : (l.take k).length = k := by simp; omega
  have hk4 : l.take 60 = l.take k := by
    subst hk
    rcases Nat.le_total l.length 60 with h | h
    · rw [Nat.min_eq_left h, List.take_of_length_le h, List.take_length]
    · rw [Nat.min_eq_right h]
  obtain ⟨y, e', H', r1, rfl, r4, r5, r6, r7⟩ := l_Some (a := a') (l := l.take k) (B := H.n) (by omega) (fun u hu => hb u (List.mem_of_mem_take hu)) (l.take k).length 0 H (.slice none 0 0) (by omega) s2 ⟨rfl, .inl ⟨rfl, rfl⟩⟩ trivial (Nat.le_refl _)
  have hl0 := ha.len (H2 := H)
  have hl1 := Nums.len s2 (H2 := H)
  rw [hkl] at hl1 r1 r4
  simp only [Int.cast_ofNat_Int] at r1
  have s1' := s1 .i64
  simp only [WA, isStore, isCall, isK, freshI, stampO, List.nil_append, Option.map_some, Option.map_none, Option.bind_some, List.map_cons, List.map_nil, if_true, if_false, Nat.reduceEqDiff, Int.reduceEq, Nat.reduceAdd, Nat.reduceMul, reduceCtorEq, eq_self, Int.reduceLT, Int.reduceLE, Int.reduceToNat, List.length_cons, List.length_nil, List.all_cons, List.all_nil, List.take_zero, List.drop_nil, List.append_nil, List.getElem?_cons_zero, List.getElem?_cons_succ, List.drop_succ_cons, List.drop_zero, List.take_succ_cons, List.cons_append, Nat.reduceLeDiff, Int.cast_ofNat_Int, hl0, hmin, s1', hl1]
  rw [w_enter]
  simp only [WA, isStore, isCall, isK, freshI, stampO, List.nil_append, Option.map_some, Option.map_none, Option.bind_some, List.map_cons, List.map_nil, if_true, if_false, Nat.reduceEqDiff, Int.reduceEq, Nat.reduceAdd, Nat.reduceMul, reduceCtorEq, eq_self, Int.reduceLT, Int.reduceLE, Int.reduceToNat, List.length_cons, List.length_nil, List.all_cons, List.all_nil, List.take_zero, List.drop_nil, List.append_nil, List.getElem?_cons_zero, List.getElem?_cons_succ, List.drop_succ_cons, List.drop_zero, List.take_succ_cons, List.cons_append, Nat.reduceLeDiff, Int.cast_ofNat_Int, r1]
  refine ⟨⟨r6, r7⟩, ?_, r4.cut (by kernel_rfl)⟩
  have := r4.sl
  unfold Ints som
  rw [hk4, List.length_map, hkl]
  exact this
end Go.Proofs.Ythnccfmmeaeibaa

/-! A trie of rules, as those who use it see it. -/
set_option linter.unusedSimpArgs false
set_option linter.unusedVariables false
namespace Go.Proofs.Ythnccfmmeaeibaa
open Go Lon
/-- At block t lies the trie of the rules L. -/
structure TrieOk (H : AHeap) (t : Nat) (L : List Rl) : Prop where
  right : Right L
  few : L.length ≤ 512
  rest : ∃ N vr, TrieAt H t N vr ∧ Rules H vr ((L.map (·.2)).map fun o => ([], o)) ∧ Fits (paths L) N ∧ RF (fnd L) (paths L) N ∧ ∀ q, q ∉ paths L → fnd L q = -1
theorem TrieOk.ext {H H' : AHeap} (hx : Ext H H') {t : Nat} {L : List Rl} (h : TrieOk H t L) : TrieOk H' t L := by
  obtain ⟨N, vr, h1, h2, h3⟩ := h.rest
  exact ⟨h.right, h.few, N, vr, h1.ext hx, h2.ext hx, h3⟩
/-- The longest rule that units begin with. -/
def lgs (L : List Rl) (us : List Int) : Int × Nat × Bool := docF us L 0 (-1) 0 false
theorem c_LongT {t : Nat} {L : List Rl} {b : Value} {us : List Int} {H : AHeap} (hT : TrieOk H t L) (hb : Ints H b us) (hs : tiny us) :
    cw Try.prog (tabF tab) om1 28 [.pointer (some ⟨t, 0, none⟩), b] H = some (.tuple ⟨[.int .i64 (lgs L us).1, .int .i64 (lgs L us).2.1, .bool (lgs L us).2.2]⟩, H) := by
  obtain ⟨N, vr, h1, h2, h3, h4, h5⟩ := hT.rest
  have := c_Long h1 h3 hb hs
  rw [lon_doc hT.right h3 h4 h5] at this
  exact this
theorem c_OutT {t i : Nat} {L : List Rl} {r : Rl} {H : AHeap} (hT : TrieOk H t L) (hr : L[i]? = some r) :
    Gives (cw Try.prog (tabF tab) om1 44 [.pointer (some ⟨t, 0, none⟩), .int .i64 (i : Int)] H) fun v H' => Ext H H' ∧ Ints H' v r.2 ∧ From H.n v ∧ Cut Try.prog H' v 1 := by
  obtain ⟨N, vr, h1, h2, _⟩ := hT.rest
  have h8 := side_len ((hT.right.1 r (List.mem_of_getElem? hr)).2)
  exact c_Out h1 h2 (by rw [List.getElem?_map, hr]; rfl) (by omega)
theorem c_OfT {a : Value} {L : List Rl} {H : AHeap} (ha : Rules H a L) (hC : Cut Try.prog H a 2) (hR : Right L) (hL : L.length ≤ 512) :
    Gives (cw Try.prog (tabF tab) om1 16 [a] H) fun v H' => Ext H H' ∧ ∃ t, v = .tuple ⟨[.pointer (some ⟨t, 0, none⟩), .int .i64 0]⟩ ∧ TrieOk H' t L := by
  obtain ⟨v, H', c, x, t, b, vr, N, rfl, hT, h3, h4, h5⟩ := c_Of ha hC hR hL
  exact ⟨_, H', c, x, t, rfl, hR, hL, N, vr, hT.at, hT.rules (by simp; omega), h3, h4, h5⟩
/-! What the longest rule is. -/
theorem lgs_pre {L : List Rl} (hR : Right L) (us : List Int) : Pre L us (lgs L us).1 (lgs L us).2.1 ∧ ((lgs L us).2.2 = true ↔ ∃ r ∈ L, us.length < r.1.length ∧ us <+: r.1) := by
  have := docF_is (us := us) L [] (-1) 0 false (by simpa using hR.2) ⟨Nat.zero_le _, fun _ => rfl, fun h => by omega, fun m _ _ => by have : fnd [] (us.take m) = -1 := rfl; rw [this]; decide⟩ (by simp)
  rw [List.nil_append] at this
  exact this
theorem fnd_some {L : List Rl} {x : List Int} (h : 0 ≤ fnd L x) : ∃ r, L[(fnd L x).toNat]? = some r ∧ r.1 = x := by
  unfold fnd at h ⊢
  split at h
  · rename_i k hk
    obtain ⟨r, h1, h2, _⟩ := fdx_some hk
    exact ⟨r, by simpa [hk] using h1, h2⟩
  · omega
theorem lgs_neg {L : List Rl} (hR : Right L) {us : List Int} (h : (lgs L us).1 < 0) : (lgs L us).2.1 = 0 := by
  obtain ⟨h1, h2, h3, h4⟩ := (lgs_pre hR us).1
  rcases Nat.eq_zero_or_pos (lgs L us).2.1 with h0 | h0
  · exact h0
  · have := (h3 h0).2; omega
theorem lgs_pos {L : List Rl} (hR : Right L) {us : List Int} (h : ¬ (lgs L us).1 < 0) : 0 < (lgs L us).2.1 ∧ (lgs L us).2.1 ≤ us.length ∧ ∃ r, L[(lgs L us).1.toNat]? = some r ∧ r.1 = us.take (lgs L us).2.1 ∧ 0 ≤ (lgs L us).1 := by
  obtain ⟨h1, h2, h3, h4⟩ := (lgs_pre hR us).1
  rcases Nat.eq_zero_or_pos (lgs L us).2.1 with h0 | h0
  · have := h2 h0; omega
  · obtain ⟨a1, a2⟩ := h3 h0
    rw [a1] at a2 ⊢
    obtain ⟨r, b1, b2⟩ := fnd_some a2
    exact ⟨h0, h1, r, b1, b2, a2⟩
/-- The token that units begin with. -/
def oneT (L : List Rl) (us : List Int) (a : Int) : Tok := if (lgs L us).1 < 0 then ⟨a, 1, [], 3⟩ else ⟨a, (lgs L us).2.1, (match L[(lgs L us).1.toNat]? with | some r => r.2 | none => []), 0⟩
theorem oneT_len {L : List Rl} (hR : Right L) {us : List Int} (hn : us ≠ []) (a : Int) : ∃ n : Nat, (oneT L us a).len = n ∧ 0 < n ∧ n ≤ us.length := by
  have hp := List.length_pos_iff.2 hn
  unfold oneT
  split
  · exact ⟨1, rfl, by decide, hp⟩
  · rename_i h
    obtain ⟨h1, h2, _⟩ := lgs_pos hR h
    exact ⟨_, rfl, h1, h2⟩
/-- All tokens of units. -/
def allT (L : List Rl) : Nat → List Int → Int → List Tok
  | 0, _, _ => []
  | c + 1, us, a => if us = [] then [] else oneT L us a :: allT L c (us.drop (oneT L us a).len.toNat) (a + (oneT L us a).len)
theorem allT_succ {L : List Rl} {c : Nat} {us : List Int} {a : Int} : allT L (c + 1) us a = if us = [] then [] else oneT L us a :: allT L c (us.drop (oneT L us a).len.toNat) (a + (oneT L us a).len) := rfl
theorem allT_nil {L : List Rl} {c : Nat} {a : Int} : allT L c [] a = [] := by cases c <;> simp [allT]
theorem allT_fuel {L : List Rl} (hR : Right L) : ∀ {c d : Nat} {us : List Int} {a : Int}, us.length ≤ c → us.length ≤ d → allT L c us a = allT L d us a := by
  intro c
  induction c with
  | zero =>
    intro d us a h1 h2
    have : us = [] := List.length_eq_zero_iff.1 (by omega)
    subst this
    rw [allT_nil, allT_nil]
  | succ c ih =>
    intro d us a h1 h2
    by_cases hn : us = []
    · subst hn; rw [allT_nil, allT_nil]
    · obtain ⟨n, e, n1, n2⟩ := oneT_len hR hn a
      cases d with
      | zero => exact absurd (List.length_eq_zero_iff.1 (by omega)) hn
      | succ d =>
        unfold allT
        rw [if_neg hn, if_neg hn, e]
        congr 1
        refine ih ?_ ?_ <;> rw [List.length_drop, Int.toNat_natCast] <;> omega
def allU (L : List Rl) (us : List Int) (a : Int) : List Tok := allT L us.length us a
theorem allU_nil {L : List Rl} {a : Int} : allU L [] a = [] := rfl
theorem allU_cons {L : List Rl} (hR : Right L) {us : List Int} (hn : us ≠ []) (a : Int) : allU L us a = oneT L us a :: allU L (us.drop (oneT L us a).len.toNat) (a + (oneT L us a).len) := by
  obtain ⟨n, e, n1, n2⟩ := oneT_len hR hn a
  unfold allU
  obtain ⟨c, hc⟩ : ∃ c, us.length = c + 1 := ⟨us.length - 1, by omega⟩
  rw [hc, allT_succ, if_neg hn, e]
  congr 1
  refine allT_fuel hR ?_ (Nat.le_refl _)
  rw [List.length_drop, Int.toNat_natCast]
  omega
theorem allU_len {L : List Rl} (hR : Right L) : ∀ (c : Nat) (us : List Int) (a : Int), us.length ≤ c → (allU L us a).length ≤ us.length := by
  intro c
  induction c with
  | zero =>
    intro us a h
    have : us = [] := List.length_eq_zero_iff.1 (by omega)
    subst this
    rw [allU_nil]; exact Nat.le_refl _
  | succ c ih =>
    intro us a h
    by_cases hn : us = []
    · subst hn; rw [allU_nil]; exact Nat.le_refl _
    · obtain ⟨n, e, n1, n2⟩ := oneT_len hR hn a
      rw [allU_cons hR hn, e, List.length_cons]
      have := ih (us.drop n) (a + n) (by rw [List.length_drop]; omega)
      rw [List.length_drop] at this
      show (allU L (us.drop n) (a + n)).length + 1 ≤ us.length
      omega
theorem oneT_out {L : List Rl} (hR : Right L) {us : List Int} {a : Int} : (oneT L us a).out.length ≤ 8 := by
  unfold oneT
  split
  · exact Nat.zero_le _
  · rename_i h
    obtain ⟨_, _, r, h1, _⟩ := lgs_pos hR h
    simp only [h1]
    exact (side_len (hR.1 r (List.mem_of_getElem? h1)).2).2
end Go.Proofs.Ythnccfmmeaeibaa

/-! Units made into tokens: the program's way, and the document's. -/
set_option linter.unusedSimpArgs false
set_option linter.unusedVariables false
namespace Go.Proofs.Ythnccfmmeaeibaa
open Go Lon
set_option maxRecDepth 100000
theorem ress_cell {P : Program} {e : Env} {H : AHeap} {t : Nat} {k : Option Nat} {r : List ARes} : ressA P e H (.cell t k :: r) = (match (readA P e H (.load (.tmp t) k)), ressA P e H r with | some v, some vs => some (v :: vs) | _, _ => none) := rfl
theorem rd_load {P : Program} {e : Env} {H : AHeap} {x : Operand} {k : Option Nat} : readA P e H (.load x k) = (vLoad (ev e x) k H).map (·.1) := by
  have := st_load (P := P) (cf := fun _ _ _ => none) (e := e) (H := H) (x := x) (k := k)
  rw [← this]
  simp only [stepA]
  cases readA P e H (.load x k) <;> rfl
def tokC (a : Option Addr) (c : Nat) (t : Tok) : List Value := [.int .i64 t.at_, .int .i64 t.len, .slice a t.out.length c, .int .i64 t.err]
theorem v_tokBad {H : AHeap} {a : Int} : vBuild [.int .i64 0, .int .i64 0, .slice none 0 0, .int .i64 0] [(0, 1, .int .i64 a), (1, 1, .int .i64 1), (3, 1, .int .i64 3)] H = some (.agg ⟨tokC none 0 ⟨a, 1, [], 3⟩⟩, H) := rfl
theorem v_tok {H : AHeap} {a n : Int} {p : Option Addr} {c : Nat} {o : List Int} : vBuild [.int .i64 0, .int .i64 0, .slice none 0 0, .int .i64 0] [(0, 1, .int .i64 a), (1, 1, .int .i64 n), (2, 1, .slice p o.length c)] H = some (.agg ⟨tokC p c ⟨a, n, o, 0⟩⟩, H) := rfl
theorem v_tok1 {H : AHeap} {el : TypeId} {p : Option Addr} {c : Nat} {t : Tok} : vBslice el 1 4 [.int .i64 0, .int .i64 0, .slice none 0 0, .int .i64 0] [(0, 4, .agg ⟨tokC p c t⟩)] H = some (.slice (some ⟨H.n, 0, none⟩) 1 2, H.push ⟨tokC p c t, el, .tip, 0, []⟩) := rfl
theorem tokC_one {p : Option Addr} {c : Nat} {t : Tok} : (tokC p c t).all one = true := rfl
theorem got_tok {H : AHeap} {i ver c : Nat} {el : TypeId} {p : Option Addr} {t : Tok} {a1 a2 a3 a4 : Value} : gotStore (some ⟨[a1, a2, a3, a4], el, .tip, ver, []⟩) i 0 (.agg ⟨tokC p c t⟩) 4 H = some (.tuple ⟨[]⟩, H.upd i ⟨tokC p c t, el, .tip, ver + 1, []⟩) := by
  have := got_store (H := H) (cells := [a1, a2, a3, a4]) (el := el) (ver := ver) (anc := []) (i := i) (o := 0) (n := 4) (v := .agg ⟨tokC p c t⟩) rfl rfl (Nat.le_refl 4)
  rw [this]
  rfl
theorem ld_tok {H : AHeap} {el : TypeId} {ver c : Nat} {anc : List Nat} {p : Option Addr} {t : Tok} : gotLoad (some ⟨tokC p c t, el, .tip, ver, anc⟩) 0 (some 4) H = some (.agg ⟨tokC p c t⟩, H) := rfl
theorem Ints.upd' {H : AHeap} {i B : Nat} {v : Value} {l : List Int} {b c : ABlk} (h : Ints H v l) (hg : H.get i = some b) (hf : From B v) (hi : i < B) : Ints (H.upd i c) v l := Sl.upd h hg (NotAt.of_from hf hi)
theorem c_one {t : Nat} {L : List Rl} {b : Value} {us : List Int} {a : Int} {H : AHeap} (hT : TrieOk H t L) (hb : Ints H b us) (hs : tiny us) :
    Gives (cw Try.prog (tabF tab) om1 37 [.pointer (some ⟨t, 0, none⟩), b, .int .i64 a] H) fun v H' => Ext H H' ∧ ∃ p c, v = .agg ⟨tokC p c (oneT L us a)⟩ ∧ tokQ Try.prog H' (tokC p c (oneT L us a)) (oneT L us a) := by
  rw [cw_run (F := F_rewrite_one) rfl rfl rfl]
  unfold F_rewrite_one k_rewrite_one
  have hx1 := Ext.push H ⟨[.int .i64 0, .int .i64 0, .slice none 0 0, .int .i64 0], 39, .tip, 0, []⟩
  have cL := c_LongT (hT.ext hx1) (hb.ext hx1) hs
  by_cases h0 : (lgs L us).1 < 0
  · have e : oneT L us a = ⟨a, 1, [], 3⟩ := by unfold oneT; rw [if_pos h0]
    rw [e]
    obtain ⟨u, hu⟩ : ∃ u : Tok, u = ⟨a, 1, [], 3⟩ := ⟨_, rfl⟩
    have hg := get_push_self (H := H) (b := ⟨[.int .i64 0, .int .i64 0, .slice none 0 0, .int .i64 0], 39, .tip, 0, []⟩)
    have hs2 := upd_self (c := ⟨tokC none 0 u, 39, .tip, 0 + 1, []⟩) hg
    simp only [WA, isStore, isCall, isK, freshI, stampO, List.nil_append, Option.map_some, Option.map_none, Option.bind_some, List.map_cons, List.map_nil, if_true, if_false, Nat.reduceEqDiff, Int.reduceEq, Nat.reduceAdd, Nat.reduceMul, reduceCtorEq, eq_self, Int.reduceLT, Int.reduceLE, Int.reduceToNat, List.length_cons, List.length_nil, List.all_cons, List.all_nil, List.take_zero, List.drop_nil, List.append_nil, List.getElem?_cons_zero, List.getElem?_cons_succ, List.drop_succ_cons, List.drop_zero, List.take_succ_cons, List.cons_append, Nat.reduceLeDiff, Int.cast_ofNat_Int, cL, h0, v_tokBad, ← hu, hg, got_tok, ress_cell, rd_load, hs2, ld_tok]
    exact ⟨Ext.push H _, none, 0, rfl, none, 0, by rw [hu]; rfl, by rw [hu]; exact Sl.nil _ 1, by rw [hu]; exact (by decide : (0 : Nat) < 4611686018427387904), trivial⟩
  · obtain ⟨p1, p2, r, p3, p4, p5⟩ := lgs_pos hT.right h0
    obtain ⟨k, hk⟩ : ∃ k : Nat, (lgs L us).1 = k := ⟨(lgs L us).1.toNat, by omega⟩
    rw [hk] at p3
    have p3' : L[k]? = some r := p3
    have e : oneT L us a = ⟨a, (lgs L us).2.1, r.2, 0⟩ := by unfold oneT; rw [if_neg h0, hk]; simp only [Int.toNat_natCast, p3']
    rw [e]
    obtain ⟨v, H2, cO, x2, o2, f2, u2⟩ := c_OutT (hT.ext hx1) p3'
    rw [hk] at cL h0
    have o2' := o2
    obtain ⟨⟨ao, co, rfl⟩, _⟩ := o2'
    have hg := x2.get (get_push_self (H := H) (b := ⟨[.int .i64 0, .int .i64 0, .slice none 0 0, .int .i64 0], 39, .tip, 0, []⟩))
    have ht : tiny r.2 := by
      have := (side_len (hT.right.1 r (List.mem_of_getElem? p3')).2).2
      unfold Lon.tiny; omega
    have hs2 := upd_self (c := ⟨tokC ao co ⟨a, (lgs L us).2.1, r.2, 0⟩, 39, .tip, 0 + 1, []⟩) hg
    simp only [WA, isStore, isCall, isK, freshI, stampO, List.nil_append, Option.map_some, Option.map_none, Option.bind_some, List.map_cons, List.map_nil, if_true, if_false, Nat.reduceEqDiff, Int.reduceEq, Nat.reduceAdd, Nat.reduceMul, reduceCtorEq, eq_self, Int.reduceLT, Int.reduceLE, Int.reduceToNat, List.length_cons, List.length_nil, List.all_cons, List.all_nil, List.take_zero, List.drop_nil, List.append_nil, List.getElem?_cons_zero, List.getElem?_cons_succ, List.drop_succ_cons, List.drop_zero, List.take_succ_cons, List.cons_append, Nat.reduceLeDiff, Int.cast_ofNat_Int, cL, h0, cO, v_tok, hg, got_tok, ress_cell, rd_load, hs2, ld_tok]
    exact ⟨Ext.upd (hx1.trans x2) hg (Nat.le_refl _), ao, co, rfl, ao, co, rfl, Ints.upd' o2 hg f2 (by simp), ht, u2.upd hg rfl⟩
theorem l_AllR {H0 : AHeap} {t : Nat} {L : List Rl} {b : Value} {us : List Int} (hT : TrieOk H0 t L) (hb : Ints H0 b us) (hC : Cut Try.prog H0 b 1) (hs : us.length < 1000000) : ∀ (c a : Nat) (H : AHeap) (out : Value) (T : List Tok), us.length - a ≤ c → a ≤ us.length → Ext H0 H → OwnToks Try.prog H 39 out T → From H0.n out → AncB H0.n H 39 out → T.length ≤ a →
    Out (run Try.prog (tabF tab) om1 (.loop [0, 1, 5, 6] b_rewrite_All_0) [(0, .pointer (some ⟨t, 0, none⟩)), (1, b), (5, out), (6, .int .i64 a)] H) fun y e' H' => y = .exit 0 ∧ Ext H0 H' ∧ OwnToks Try.prog H' 39 (eget e' 5) (T ++ allU L (us.drop a) a) ∧ From H0.n (eget e' 5) ∧ AncB H0.n H' 39 (eget e' 5) := by
  intro c
  induction c with
  | zero =>
    intro a H out T hc ha hx ho hf hA hl
    have hlt : ¬ ((a : Int) < us.length) := by omega
    have hlen := hb.len (H2 := H)
    rw [w_loop_b b_rewrite_All_0.eq_1, List.drop_of_length_le (by omega), allU_nil, List.append_nil]
    simp only [WA, isStore, isCall, isK, freshI, stampO, List.nil_append, Option.map_some, Option.map_none, Option.bind_some, List.map_cons, List.map_nil, if_true, if_false, Nat.reduceEqDiff, Int.reduceEq, Nat.reduceAdd, Nat.reduceMul, reduceCtorEq, eq_self, Int.reduceLT, Int.reduceLE, Int.reduceToNat, List.length_cons, List.length_nil, List.all_cons, List.all_nil, List.take_zero, List.drop_nil, List.append_nil, List.getElem?_cons_zero, List.getElem?_cons_succ, List.drop_succ_cons, List.drop_zero, List.take_succ_cons, List.cons_append, Nat.reduceLeDiff, Int.cast_ofNat_Int, hlen, hlt]
    exact ⟨hx, ho, hf, hA⟩
  | succ c ih =>
    intro a H out T hc ha hx ho hf hA hl
    have hlen := hb.len (H2 := H)
    by_cases hlt : (a : Int) < us.length
    · obtain ⟨b', s1, s2, s3⟩ := (hb.ext hx).drop (hC.ext hx) ha
      have s1' := s1 .i64
      have hne : us.drop a ≠ [] := fun e => by have := congrArg List.length e; rw [List.length_drop, List.length_nil] at this; omega
      obtain ⟨v, H1, cO, x1, p, cc, rfl, q1⟩ := c_one (a := (a : Int)) (hT.ext hx) s2 (by unfold Lon.tiny; rw [List.length_drop]; omega)
      obtain ⟨n, e, n1, n2⟩ := oneT_len hT.right hne (a : Int)
      rw [allU_cons hT.right hne, e, List.drop_drop, ← Int.natCast_add]
      rw [List.length_drop] at n2
      generalize hu : oneT L (us.drop a) (a : Int) = u at *
      have hx2 := Ext.push H1 ⟨tokC p cc u, 39, .tip, 1, []⟩
      have hx3 := Ext.push (H1.push ⟨tokC p cc u, 39, .tip, 1, []⟩) ⟨tokC p cc u, 39, .tip, 0, []⟩
      obtain ⟨H2, hH2⟩ : ∃ H2, H2 = H1.push ⟨tokC p cc u, 39, .tip, 1, []⟩ := ⟨_, rfl⟩
      have g2 : H2.get H1.n = some ⟨tokC p cc u, 39, .tip, 1, []⟩ := by rw [hH2]; exact get_push_self
      rw [← hH2] at hx2 hx3
      have hn2 : H2.n = H1.n + 1 := by rw [hH2]; simp
      have g3 := get_push_self (H := H2) (b := ⟨tokC p cc u, 39, .tip, 0, []⟩)
      have ho3 := ho.ext tokQ_mono ((x1.trans hx2).trans hx3)
      obtain ⟨v', H4, m1, m2, m3, m4, m5, m6⟩ := ho3.push tokQ_mono (bytes := 48) (c := 2) g3 rfl (tokQ_mono (hx2.trans hx3).kp q1) tokC_one (by omega) (by omega)
      have hn3 : (H2.push ⟨tokC p cc u, 39, .tip, 0, []⟩).n = H1.n + 2 := by simp [hn2]
      rw [hn3] at m3 m5 m6
      have g4 : H4.get H1.n = some ⟨tokC p cc u, 39, .tip, 1, []⟩ := by
        rw [m6 H1.n (by omega) (ho.notAt x1.1), get_push_lt (by omega), g2]
      have hx4 : Ext H0 H4 := Ext.grow (((hx.trans x1).trans hx2).trans hx3) (by omega) (by rw [hn3]; exact m6) hf
      have hld : gotLoad (some ⟨tokC p cc u, 39, .tip, 1, []⟩) 1 none H4 = some (.int .i64 u.len, H4) := rfl
      have hw : IntKind.i64.wrap ((a : Int) + u.len) = ((a + n : Nat) : Int) := by rw [e, wrap64 (by omega) (by omega)]; omega
      obtain ⟨y, e', H', r1, r2, r3, r4, r5⟩ := ih (a + n) H4 v' (T ++ [u]) (by omega) (by omega) hx4 m2 (m3.mono (by have := hx.1; have := x1.1; omega)) (appendA_anc m1 hf (((hA.ext x1).ext hx2).ext hx3)) (by rw [List.length_append, List.length_singleton]; omega)
      rw [List.append_assoc] at r4
      rw [w_loop_b b_rewrite_All_0.eq_1]
      simp only [WA, isStore, isCall, isK, freshI, stampO, List.nil_append, Option.map_some, Option.map_none, Option.bind_some, List.map_cons, List.map_nil, if_true, if_false, Nat.reduceEqDiff, Int.reduceEq, Nat.reduceAdd, Nat.reduceMul, reduceCtorEq, eq_self, Int.reduceLT, Int.reduceLE, Int.reduceToNat, List.length_cons, List.length_nil, List.all_cons, List.all_nil, List.take_zero, List.drop_nil, List.append_nil, List.getElem?_cons_zero, List.getElem?_cons_succ, List.drop_succ_cons, List.drop_zero, List.take_succ_cons, List.cons_append, Nat.reduceLeDiff, Int.cast_ofNat_Int, hlen, hlt, s1', cO, got_tok, ← hH2, g2, ld_tok, v_tok1, m1, g4, hld, hw]
      rw [w_enter]
      simp only [WA, isStore, isCall, isK, freshI, stampO, List.nil_append, Option.map_some, Option.map_none, Option.bind_some, List.map_cons, List.map_nil, if_true, if_false, Nat.reduceEqDiff, Int.reduceEq, Nat.reduceAdd, Nat.reduceMul, reduceCtorEq, eq_self, Int.reduceLT, Int.reduceLE, Int.reduceToNat, List.length_cons, List.length_nil, List.all_cons, List.all_nil, List.take_zero, List.drop_nil, List.append_nil, List.getElem?_cons_zero, List.getElem?_cons_succ, List.drop_succ_cons, List.drop_zero, List.take_succ_cons, List.cons_append, Nat.reduceLeDiff, Int.cast_ofNat_Int, r1]
      exact ⟨r2, r3, r4, r5⟩
    · rw [w_loop_b b_rewrite_All_0.eq_1, List.drop_of_length_le (by omega), allU_nil, List.append_nil]
      simp only [WA, isStore, isCall, isK, freshI, stampO, List.nil_append, Option.map_some, Option.map_none, Option.bind_some, List.map_cons, List.map_nil, if_true, if_false, Nat.reduceEqDiff, Int.reduceEq, Nat.reduceAdd, Nat.reduceMul, reduceCtorEq, eq_self, Int.reduceLT, Int.reduceLE, Int.reduceToNat, List.length_cons, List.length_nil, List.all_cons, List.all_nil, List.take_zero, List.drop_nil, List.append_nil, List.getElem?_cons_zero, List.getElem?_cons_succ, List.drop_succ_cons, List.drop_zero, List.take_succ_cons, List.cons_append, Nat.reduceLeDiff, Int.cast_ofNat_Int, hlen, hlt]
      exact ⟨hx, ho, hf, hA⟩
theorem c_AllR {t : Nat} {L : List Rl} {b : Value} {us : List Int} {H : AHeap} (hT : TrieOk H t L) (hb : Ints H b us) (hC : Cut Try.prog H b 1) (hs : us.length < 1000000) :
    Gives (cw Try.prog (tabF tab) om1 18 [.pointer (some ⟨t, 0, none⟩), b] H) fun v H' => Ext H H' ∧ OwnToks Try.prog H' 39 v (allU L us 0) ∧ From H.n v ∧ AncB H.n H' 39 v := by
  rw [cw_run (F := F_rewrite_All) rfl rfl rfl]
  unfold F_rewrite_All k_rewrite_All
  obtain ⟨y, e', H', r1, rfl, r3, r4, r5⟩ := l_AllR hT hb hC hs us.length 0 H (.slice none 0 0) [] (by omega) (Nat.zero_le _) (Ext.refl H) OwnRws.nil trivial AncB.nil (Nat.le_refl _)
  simp only [Int.cast_ofNat_Int] at r1
  rw [List.drop_zero, List.nil_append] at r4
  simp only [WA, isStore, isCall, isK, freshI, stampO, List.nil_append, Option.map_some, Option.map_none, Option.bind_some, List.map_cons, List.map_nil, if_true, if_false, Nat.reduceEqDiff, Int.reduceEq, Nat.reduceAdd, Nat.reduceMul, reduceCtorEq, eq_self, Int.reduceLT, Int.reduceLE, Int.reduceToNat, List.length_cons, List.length_nil, List.all_cons, List.all_nil, List.take_zero, List.drop_nil, List.append_nil, List.getElem?_cons_zero, List.getElem?_cons_succ, List.drop_succ_cons, List.drop_zero, List.take_succ_cons, List.cons_append, Nat.reduceLeDiff, Int.cast_ofNat_Int]
  rw [w_enter]
  simp only [WA, isStore, isCall, isK, freshI, stampO, List.nil_append, Option.map_some, Option.map_none, Option.bind_some, List.map_cons, List.map_nil, if_true, if_false, Nat.reduceEqDiff, Int.reduceEq, Nat.reduceAdd, Nat.reduceMul, reduceCtorEq, eq_self, Int.reduceLT, Int.reduceLE, Int.reduceToNat, List.length_cons, List.length_nil, List.all_cons, List.all_nil, List.take_zero, List.drop_nil, List.append_nil, List.getElem?_cons_zero, List.getElem?_cons_succ, List.drop_succ_cons, List.drop_zero, List.take_succ_cons, List.cons_append, Nat.reduceLeDiff, Int.cast_ofNat_Int, r1]
  exact ⟨r3, r4, r5⟩
end Go.Proofs.Ythnccfmmeaeibaa

/-! Tokens: the document's; whether they are the same. -/
set_option linter.unusedSimpArgs false
set_option linter.unusedVariables false
namespace Go.Proofs.Ythnccfmmeaeibaa
open Go Lon
set_option maxRecDepth 100000
theorem l_AllD {H0 : AHeap} {x : Value} {L : List Rl} {b : Value} {us : List Int} (hR : Right L) (hL : L.length ≤ 512) (hr : Rules H0 x L) (hrc : CutR H0 x) (hb : Ints H0 b us) (hC : Cut Try.prog H0 b 1) (hs : us.length < 1000000) : ∀ (c a : Nat) (H : AHeap) (out : Value) (T : List Tok), us.length - a ≤ c → a ≤ us.length → Ext H0 H → OwnToks Try.prog H 39 out T → From H0.n out → AncB H0.n H 39 out → T.length ≤ a →
    Out (run Try.prog (tabF tab) om1 (.loop [0, 1, 5, 6] b_lontarlaw05_All_0) [(0, x), (1, b), (5, out), (6, .int .i64 a)] H) fun y e' H' => y = .exit 0 ∧ Ext H0 H' ∧ OwnToks Try.prog H' 39 (eget e' 5) (T ++ allU L (us.drop a) a) ∧ From H0.n (eget e' 5) ∧ AncB H0.n H' 39 (eget e' 5) := by
  intro c
  induction c with
  | zero =>
    intro a H out T hc ha hx ho hf hA hl
    have hlt : ¬ ((a : Int) < us.length) := by omega
    have hlen := hb.len (H2 := H)
    rw [w_loop_b b_lontarlaw05_All_0.eq_1, List.drop_of_length_le (by omega), allU_nil, List.append_nil]
    simp only [WA, isStore, isCall, isK, freshI, stampO, List.nil_append, Option.map_some, Option.map_none, Option.bind_some, List.map_cons, List.map_nil, if_true, if_false, Nat.reduceEqDiff, Int.reduceEq, Nat.reduceAdd, Nat.reduceMul, reduceCtorEq, eq_self, Int.reduceLT, Int.reduceLE, Int.reduceToNat, List.length_cons, List.length_nil, List.all_cons, List.all_nil, List.take_zero, List.drop_nil, List.append_nil, List.getElem?_cons_zero, List.getElem?_cons_succ, List.drop_succ_cons, List.drop_zero, List.take_succ_cons, List.cons_append, Nat.reduceLeDiff, Int.cast_ofNat_Int, hlen, hlt]
    exact ⟨hx, ho, hf, hA⟩
  | succ c ih =>
    intro a H out T hc ha hx ho hf hA hl
    have hlen := hb.len (H2 := H)
    by_cases hlt : (a : Int) < us.length
    · obtain ⟨b', s1, s2, s3⟩ := (hb.ext hx).drop (hC.ext hx) ha
      have s1' := s1 .i64
      have hne : us.drop a ≠ [] := fun e => by have := congrArg List.length e; rw [List.length_drop, List.length_nil] at this; omega
      obtain ⟨v, H1, cD, x1, rfl⟩ := c_Doc (hr.ext hx) (hrc.ext hx) s2 s3 (by omega) (by unfold Lon.tiny; rw [List.length_drop]; omega)
      rw [show docF (us.drop a) L 0 (-1) 0 false = lgs L (us.drop a) from rfl] at cD
      obtain ⟨n, e, n1, n2⟩ := oneT_len hR hne (a : Int)
      rw [allU_cons hR hne, e, List.drop_drop, ← Int.natCast_add]
      rw [List.length_drop] at n2
      have step : ∀ {p : Option Addr} {cc : Nat} {u : Tok}, u = oneT L (us.drop a) (a : Int) → tokQ Try.prog H1 (tokC p cc u) u → ∃ v' H4, appendA (H1.push ⟨tokC p cc u, 39, .tip, 0, []⟩) out (.slice (some ⟨H1.n, 0, none⟩) 1 2) 39 4 48 = some (v', H4) ∧ Ext H0 H4 ∧ OwnToks Try.prog H4 39 v' (T ++ [oneT L (us.drop a) (a : Int)]) ∧ From H0.n v' ∧ AncB H0.n H4 39 v' := by
        intro p cc u hu q1
        have hx3 := Ext.push H1 ⟨tokC p cc u, 39, .tip, 0, []⟩
        have g3 := get_push_self (H := H1) (b := ⟨tokC p cc u, 39, .tip, 0, []⟩)
        obtain ⟨v', H4, m1, m2, m3, m4, m5, m6⟩ := (ho.ext tokQ_mono (x1.trans hx3)).push tokQ_mono (bytes := 48) (c := 2) g3 rfl (tokQ_mono hx3.kp q1) tokC_one (by omega) (by omega)
        rw [hu] at m2
        exact ⟨v', H4, m1, Ext.grow ((hx.trans x1).trans hx3) m5 m6 hf, m2, m3.mono ((hx.trans x1).trans hx3).1, appendA_anc m1 hf ((hA.ext x1).ext hx3)⟩
      by_cases h0 : (lgs L (us.drop a)).1 < 0
      · have eu : oneT L (us.drop a) (a : Int) = ⟨a, 1, [], 3⟩ := by unfold oneT; rw [if_pos h0]
        have en : n = 1 := by rw [eu] at e; simp only at e; omega
        subst en
        obtain ⟨v', H4, m1, m2, m3, m4, m5⟩ := step (p := none) (cc := 0) (u := ⟨a, 1, [], 3⟩) eu.symm ⟨none, 0, rfl, Sl.nil _ 1, (by decide : (0 : Nat) < 4611686018427387904), trivial⟩
        have hw : IntKind.i64.wrap ((a : Int) + 1) = ((a + 1 : Nat) : Int) := by rw [wrap64 (by omega) (by omega)]; omega
        obtain ⟨y, e', H', r1, r2, r3, r4, r5⟩ := ih (a + 1) H4 v' _ (by omega) (by omega) m2 m3 m4 m5 (by rw [List.length_append, List.length_singleton]; omega)
        rw [List.append_assoc] at r4
        rw [w_loop_b b_lontarlaw05_All_0.eq_1]
        simp only [WA, isStore, isCall, isK, freshI, stampO, List.nil_append, Option.map_some, Option.map_none, Option.bind_some, List.map_cons, List.map_nil, if_true, if_false, Nat.reduceEqDiff, Int.reduceEq, Nat.reduceAdd, Nat.reduceMul, reduceCtorEq, eq_self, Int.reduceLT, Int.reduceLE, Int.reduceToNat, List.length_cons, List.length_nil, List.all_cons, List.all_nil, List.take_zero, List.drop_nil, List.append_nil, List.getElem?_cons_zero, List.getElem?_cons_succ, List.drop_succ_cons, List.drop_zero, List.take_succ_cons, List.cons_append, Nat.reduceLeDiff, Int.cast_ofNat_Int, hlen, hlt, s1', cD, h0, v_tokBad, v_tok1, m1, hw]
        rw [w_enter]
        simp only [WA, isStore, isCall, isK, freshI, stampO, List.nil_append, Option.map_some, Option.map_none, Option.bind_some, List.map_cons, List.map_nil, if_true, if_false, Nat.reduceEqDiff, Int.reduceEq, Nat.reduceAdd, Nat.reduceMul, reduceCtorEq, eq_self, Int.reduceLT, Int.reduceLE, Int.reduceToNat, List.length_cons, List.length_nil, List.all_cons, List.all_nil, List.take_zero, List.drop_nil, List.append_nil, List.getElem?_cons_zero, List.getElem?_cons_succ, List.drop_succ_cons, List.drop_zero, List.take_succ_cons, List.cons_append, Nat.reduceLeDiff, Int.cast_ofNat_Int, r1]
        exact ⟨r2, r3, r4, r5⟩
      · obtain ⟨p1, p2, r, p3, p4, p5⟩ := lgs_pos hR h0
        obtain ⟨k, hk⟩ : ∃ k : Nat, (lgs L (us.drop a)).1 = k := ⟨(lgs L (us.drop a)).1.toNat, by omega⟩
        rw [hk] at p3
        have p3' : L[k]? = some r := p3
        have eu : oneT L (us.drop a) (a : Int) = ⟨a, (lgs L (us.drop a)).2.1, r.2, 0⟩ := by unfold oneT; rw [if_neg h0, hk]; simp only [Int.toNat_natCast, p3']
        obtain ⟨i1, o1, vi, vo, h1, h2, h3, h4, h5, h6, h7, h8, h9, h10⟩ := Rules.atC ((hr.ext hx).ext x1) ((hrc.ext hx).ext x1) p3'
        have h6' := h6
        obtain ⟨⟨ao, co, rfl⟩, _⟩ := h6'
        have en : (lgs L (us.drop a)).2.1 = n := by rw [eu] at e; simp only at e; omega
        obtain ⟨v', H4, m1, m2, m3, m4, m5⟩ := step (p := ao) (cc := co) (u := ⟨a, (lgs L (us.drop a)).2.1, r.2, 0⟩) eu.symm ⟨ao, co, rfl, h6, h8, h10⟩
        rw [hk] at cD h0
        rw [en] at cD m1
        have hw : IntKind.i64.wrap ((a : Int) + (n : Int)) = ((a + n : Nat) : Int) := by rw [wrap64 (by omega) (by omega)]; omega
        obtain ⟨y, e', H', r1, r2, r3, r4, r5⟩ := ih (a + n) H4 v' _ (by omega) (by omega) m2 m3 m4 m5 (by rw [List.length_append, List.length_singleton]; omega)
        rw [List.append_assoc] at r4
        rw [w_loop_b b_lontarlaw05_All_0.eq_1]
        simp only [WA, isStore, isCall, isK, freshI, stampO, List.nil_append, Option.map_some, Option.map_none, Option.bind_some, List.map_cons, List.map_nil, if_true, if_false, Nat.reduceEqDiff, Int.reduceEq, Nat.reduceAdd, Nat.reduceMul, reduceCtorEq, eq_self, Int.reduceLT, Int.reduceLE, Int.reduceToNat, List.length_cons, List.length_nil, List.all_cons, List.all_nil, List.take_zero, List.drop_nil, List.append_nil, List.getElem?_cons_zero, List.getElem?_cons_succ, List.drop_succ_cons, List.drop_zero, List.take_succ_cons, List.cons_append, Nat.reduceLeDiff, Int.cast_ofNat_Int, hlen, hlt, s1', cD, h0, h1, h3, v_tok, v_tok1, m1, hw]
        rw [w_enter]
        simp only [WA, isStore, isCall, isK, freshI, stampO, List.nil_append, Option.map_some, Option.map_none, Option.bind_some, List.map_cons, List.map_nil, if_true, if_false, Nat.reduceEqDiff, Int.reduceEq, Nat.reduceAdd, Nat.reduceMul, reduceCtorEq, eq_self, Int.reduceLT, Int.reduceLE, Int.reduceToNat, List.length_cons, List.length_nil, List.all_cons, List.all_nil, List.take_zero, List.drop_nil, List.append_nil, List.getElem?_cons_zero, List.getElem?_cons_succ, List.drop_succ_cons, List.drop_zero, List.take_succ_cons, List.cons_append, Nat.reduceLeDiff, Int.cast_ofNat_Int, r1]
        exact ⟨r2, r3, r4, r5⟩
    · rw [w_loop_b b_lontarlaw05_All_0.eq_1, List.drop_of_length_le (by omega), allU_nil, List.append_nil]
      simp only [WA, isStore, isCall, isK, freshI, stampO, List.nil_append, Option.map_some, Option.map_none, Option.bind_some, List.map_cons, List.map_nil, if_true, if_false, Nat.reduceEqDiff, Int.reduceEq, Nat.reduceAdd, Nat.reduceMul, reduceCtorEq, eq_self, Int.reduceLT, Int.reduceLE, Int.reduceToNat, List.length_cons, List.length_nil, List.all_cons, List.all_nil, List.take_zero, List.drop_nil, List.append_nil, List.getElem?_cons_zero, List.getElem?_cons_succ, List.drop_succ_cons, List.drop_zero, List.take_succ_cons, List.cons_append, Nat.reduceLeDiff, Int.cast_ofNat_Int, hlen, hlt]
      exact ⟨hx, ho, hf, hA⟩
theorem c_AllD {x : Value} {L : List Rl} {b : Value} {us : List Int} {H : AHeap} (hR : Right L) (hL : L.length ≤ 512) (hr : Rules H x L) (hrc : CutR H x) (hb : Ints H b us) (hC : Cut Try.prog H b 1) (hs : us.length < 1000000) :
    Gives (cw Try.prog (tabF tab) om1 20 [x, b] H) fun v H' => Ext H H' ∧ OwnToks Try.prog H' 39 v (allU L us 0) ∧ From H.n v ∧ AncB H.n H' 39 v := by
  rw [cw_run (F := F_lontarlaw05_All) rfl rfl rfl]
  unfold F_lontarlaw05_All k_lontarlaw05_All
  obtain ⟨y, e', H', r1, rfl, r3, r4, r5⟩ := l_AllD hR hL hr hrc hb hC hs us.length 0 H (.slice none 0 0) [] (by omega) (Nat.zero_le _) (Ext.refl H) OwnRws.nil trivial AncB.nil (Nat.le_refl _)
  simp only [Int.cast_ofNat_Int] at r1
  rw [List.drop_zero, List.nil_append] at r4
  simp only [WA, isStore, isCall, isK, freshI, stampO, List.nil_append, Option.map_some, Option.map_none, Option.bind_some, List.map_cons, List.map_nil, if_true, if_false, Nat.reduceEqDiff, Int.reduceEq, Nat.reduceAdd, Nat.reduceMul, reduceCtorEq, eq_self, Int.reduceLT, Int.reduceLE, Int.reduceToNat, List.length_cons, List.length_nil, List.all_cons, List.all_nil, List.take_zero, List.drop_nil, List.append_nil, List.getElem?_cons_zero, List.getElem?_cons_succ, List.drop_succ_cons, List.drop_zero, List.take_succ_cons, List.cons_append, Nat.reduceLeDiff, Int.cast_ofNat_Int]
  rw [w_enter]
  simp only [WA, isStore, isCall, isK, freshI, stampO, List.nil_append, Option.map_some, Option.map_none, Option.bind_some, List.map_cons, List.map_nil, if_true, if_false, Nat.reduceEqDiff, Int.reduceEq, Nat.reduceAdd, Nat.reduceMul, reduceCtorEq, eq_self, Int.reduceLT, Int.reduceLE, Int.reduceToNat, List.length_cons, List.length_nil, List.all_cons, List.all_nil, List.take_zero, List.drop_nil, List.append_nil, List.getElem?_cons_zero, List.getElem?_cons_succ, List.drop_succ_cons, List.drop_zero, List.take_succ_cons, List.cons_append, Nat.reduceLeDiff, Int.cast_ofNat_Int, r1]
  exact ⟨r3, r4, r5⟩
/-- A token's fields, read. -/
theorem Toks.at' {H : AHeap} {v : Value} {A : List Tok} (h : Toks Try.prog H v A) {k : Nat} {x : Tok} (hk : A[k]? = some x) : ∃ i o p c, (∀ (kd : IntKind) (H2 : AHeap), vIaddr v (.int kd k) 4 H2 = some (.pointer (some ⟨i, o, none⟩), H2)) ∧ gotLoad (H.get i) o none H = some (.int .i64 x.at_, H) ∧ gotLoad (H.get i) (o + 1) none H = some (.int .i64 x.len, H) ∧ gotLoad (H.get i) (o + 2) none H = some (.slice p x.out.length c, H) ∧ gotLoad (H.get i) (o + 3) none H = some (.int .i64 x.err, H) ∧ gotLoad (H.get i) o (some 4) H = some (.agg ⟨tokC p c x⟩, H) ∧ Ints H (.slice p x.out.length c) x.out ∧ tiny x.out ∧ Cut Try.prog H (.slice p x.out.length c) 1 := by
  obtain ⟨i, o, row, a1, a2, a3, a4, p, c, rfl, a5, a6, a7⟩ := Rws.at h hk
  exact ⟨i, o, p, c, a1, a2 _ rfl, a3 1 _ rfl, a3 2 _ rfl, a3 3 _ rfl, a4, a5, a6, a7⟩
theorem l_SameT {a b : Value} {A B : List Tok} {H : AHeap} (ha : Toks Try.prog H a A) (hb : Toks Try.prog H b B) (hl : A.length = B.length) : ∀ (k i : Nat), i + k = A.length →
    Out (run Try.prog (tabF tab) om1 (.loop [0, 1, 12, 13] b_lontarlaw01_Same_0) [(0, a), (1, b), (12, .int .i64 A.length), (13, .int .i64 i)] H) fun y e' H' => H' = H ∧ if A.drop i = B.drop i then y = .exit 0 else y = .ret ∧ eget e' 4 = .bool false := by
  have hA := ha.1
  intro k
  induction k with
  | zero =>
    intro i hi
    have hlt : ¬ ((i : Int) < A.length) := by omega
    rw [w_loop_b b_lontarlaw01_Same_0.eq_1, List.drop_of_length_le (by omega), List.drop_of_length_le (by omega)]
    simp only [WA, isStore, isCall, isK, freshI, stampO, List.nil_append, Option.map_some, Option.map_none, Option.bind_some, List.map_cons, List.map_nil, if_true, if_false, Nat.reduceEqDiff, Int.reduceEq, Nat.reduceAdd, Nat.reduceMul, reduceCtorEq, eq_self, Int.reduceLT, Int.reduceLE, Int.reduceToNat, List.length_cons, List.length_nil, List.all_cons, List.all_nil, List.take_zero, List.drop_nil, List.append_nil, List.getElem?_cons_zero, List.getElem?_cons_succ, List.drop_succ_cons, List.drop_zero, List.take_succ_cons, List.cons_append, Nat.reduceLeDiff, Int.cast_ofNat_Int, hlt]
  | succ k ih =>
    intro i hi
    have hlt : (i : Int) < A.length := by omega
    obtain ⟨x, hx, hdx⟩ := drop_at (L := A) (i := i) (by omega)
    obtain ⟨y, hy, hdy⟩ := drop_at (L := B) (i := i) (by omega)
    obtain ⟨i1, o1, p1, c1, a1, a2, a3, a4, a5, a6, a7, a8, _⟩ := Toks.at' ha hx
    obtain ⟨i2, o2, p2, c2, b1, b2, b3, b4, b5, b6, b7, b8, _⟩ := Toks.at' hb hy
    have cU := c_Units a7 b7 a8
    have hw2 : IntKind.i64.wrap ((i : Int) + 1) = ((i + 1 : Nat) : Int) := by rw [wrap64 (by omega) (by omega)]; omega
    have he : (A.drop i = B.drop i) = ((x.at_ = y.at_ ∧ x.len = y.len ∧ x.err = y.err ∧ x.out = y.out) ∧ A.drop (i + 1) = B.drop (i + 1)) := by
      rw [hdx, hdy, List.cons.injEq]
      congr 1
      refine propext ⟨fun h => by subst h; exact ⟨rfl, rfl, rfl, rfl⟩, fun ⟨h1, h2, h3, h4⟩ => ?_⟩
      cases x; cases y; simp only at h1 h2 h3 h4; subst h1 h2 h3 h4; rfl
    rw [w_loop_b b_lontarlaw01_Same_0.eq_1]
    by_cases e1 : x.at_ = y.at_
    · have z1 : (x.at_ ≠ y.at_) = False := by simp [e1]
      by_cases e2 : x.len = y.len
      · have z2 : (x.len ≠ y.len) = False := by simp [e2]
        by_cases e3 : x.err = y.err
        · have z3 : (x.err ≠ y.err) = False := by simp [e3]
          by_cases e4 : x.out = y.out
          · rw [decide_eq_true e4] at cU
            obtain ⟨y', e', H', r1, rfl, r3⟩ := ih (i + 1) (by omega)
            simp only [WA, isStore, isCall, isK, freshI, stampO, List.nil_append, Option.map_some, Option.map_none, Option.bind_some, List.map_cons, List.map_nil, if_true, if_false, Nat.reduceEqDiff, Int.reduceEq, Nat.reduceAdd, Nat.reduceMul, reduceCtorEq, eq_self, Int.reduceLT, Int.reduceLE, Int.reduceToNat, List.length_cons, List.length_nil, List.all_cons, List.all_nil, List.take_zero, List.drop_nil, List.append_nil, List.getElem?_cons_zero, List.getElem?_cons_succ, List.drop_succ_cons, List.drop_zero, List.take_succ_cons, List.cons_append, Nat.reduceLeDiff, Int.cast_ofNat_Int, hlt, a1, a2, a3, a4, a5, b1, b2, b3, b4, b5, z1, z2, z3, cU, hw2]
            rw [w_enter]
            simp only [WA, isStore, isCall, isK, freshI, stampO, List.nil_append, Option.map_some, Option.map_none, Option.bind_some, List.map_cons, List.map_nil, if_true, if_false, Nat.reduceEqDiff, Int.reduceEq, Nat.reduceAdd, Nat.reduceMul, reduceCtorEq, eq_self, Int.reduceLT, Int.reduceLE, Int.reduceToNat, List.length_cons, List.length_nil, List.all_cons, List.all_nil, List.take_zero, List.drop_nil, List.append_nil, List.getElem?_cons_zero, List.getElem?_cons_succ, List.drop_succ_cons, List.drop_zero, List.take_succ_cons, List.cons_append, Nat.reduceLeDiff, Int.cast_ofNat_Int, r1]
            simpa [he, e1, e2, e3, e4] using r3
          · rw [decide_eq_false e4] at cU
            simp only [WA, isStore, isCall, isK, freshI, stampO, List.nil_append, Option.map_some, Option.map_none, Option.bind_some, List.map_cons, List.map_nil, if_true, if_false, Nat.reduceEqDiff, Int.reduceEq, Nat.reduceAdd, Nat.reduceMul, reduceCtorEq, eq_self, Int.reduceLT, Int.reduceLE, Int.reduceToNat, List.length_cons, List.length_nil, List.all_cons, List.all_nil, List.take_zero, List.drop_nil, List.append_nil, List.getElem?_cons_zero, List.getElem?_cons_succ, List.drop_succ_cons, List.drop_zero, List.take_succ_cons, List.cons_append, Nat.reduceLeDiff, Int.cast_ofNat_Int, hlt, a1, a2, a3, a4, a5, b1, b2, b3, b4, b5, z1, z2, z3, cU]
            simp [he, e4]
        · have z3 : (x.err ≠ y.err) = True := by simp [e3]
          simp only [WA, isStore, isCall, isK, freshI, stampO, List.nil_append, Option.map_some, Option.map_none, Option.bind_some, List.map_cons, List.map_nil, if_true, if_false, Nat.reduceEqDiff, Int.reduceEq, Nat.reduceAdd, Nat.reduceMul, reduceCtorEq, eq_self, Int.reduceLT, Int.reduceLE, Int.reduceToNat, List.length_cons, List.length_nil, List.all_cons, List.all_nil, List.take_zero, List.drop_nil, List.append_nil, List.getElem?_cons_zero, List.getElem?_cons_succ, List.drop_succ_cons, List.drop_zero, List.take_succ_cons, List.cons_append, Nat.reduceLeDiff, Int.cast_ofNat_Int, hlt, a1, a2, a3, a4, a5, b1, b2, b3, b4, b5, z1, z2, z3]
          simp [he, e3]
      · have z2 : (x.len ≠ y.len) = True := by simp [e2]
        simp only [WA, isStore, isCall, isK, freshI, stampO, List.nil_append, Option.map_some, Option.map_none, Option.bind_some, List.map_cons, List.map_nil, if_true, if_false, Nat.reduceEqDiff, Int.reduceEq, Nat.reduceAdd, Nat.reduceMul, reduceCtorEq, eq_self, Int.reduceLT, Int.reduceLE, Int.reduceToNat, List.length_cons, List.length_nil, List.all_cons, List.all_nil, List.take_zero, List.drop_nil, List.append_nil, List.getElem?_cons_zero, List.getElem?_cons_succ, List.drop_succ_cons, List.drop_zero, List.take_succ_cons, List.cons_append, Nat.reduceLeDiff, Int.cast_ofNat_Int, hlt, a1, a2, a3, a4, a5, b1, b2, b3, b4, b5, z1, z2]
        simp [he, e2]
    · have z1 : (x.at_ ≠ y.at_) = True := by simp [e1]
      simp only [WA, isStore, isCall, isK, freshI, stampO, List.nil_append, Option.map_some, Option.map_none, Option.bind_some, List.map_cons, List.map_nil, if_true, if_false, Nat.reduceEqDiff, Int.reduceEq, Nat.reduceAdd, Nat.reduceMul, reduceCtorEq, eq_self, Int.reduceLT, Int.reduceLE, Int.reduceToNat, List.length_cons, List.length_nil, List.all_cons, List.all_nil, List.take_zero, List.drop_nil, List.append_nil, List.getElem?_cons_zero, List.getElem?_cons_succ, List.drop_succ_cons, List.drop_zero, List.take_succ_cons, List.cons_append, Nat.reduceLeDiff, Int.cast_ofNat_Int, hlt, a1, a2, a3, a4, a5, b1, b2, b3, b4, b5, z1]
      simp [he, e1]
theorem c_SameT {a b : Value} {A B : List Tok} {H : AHeap} (ha : Toks Try.prog H a A) (hb : Toks Try.prog H b B) : cw Try.prog (tabF tab) om1 17 [a, b] H = some (.bool (decide (A = B)), H) := by
  rw [cw_run (F := F_lontarlaw01_Same) rfl rfl rfl]
  unfold F_lontarlaw01_Same k_lontarlaw01_Same
  have la := fun H2 => ha.len (H2 := H2)
  have lb := fun H2 => hb.len (H2 := H2)
  by_cases hl : A.length = B.length
  · obtain ⟨x, e', H', r1, rfl, r3⟩ := l_SameT ha hb hl A.length 0 (by omega)
    have hne : (((A.length : Nat) : Int) ≠ ((B.length : Nat) : Int)) = False := by simp [hl]
    simp only [Int.cast_ofNat_Int] at r1
    simp only [WA, isStore, isCall, isK, freshI, stampO, List.nil_append, Option.map_some, Option.map_none, Option.bind_some, List.map_cons, List.map_nil, if_true, if_false, Nat.reduceEqDiff, Int.reduceEq, Nat.reduceAdd, Nat.reduceMul, reduceCtorEq, eq_self, Int.reduceLT, Int.reduceLE, Int.reduceToNat, List.length_cons, List.length_nil, List.all_cons, List.all_nil, List.take_zero, List.drop_nil, List.append_nil, List.getElem?_cons_zero, List.getElem?_cons_succ, List.drop_succ_cons, List.drop_zero, List.take_succ_cons, List.cons_append, Nat.reduceLeDiff, Int.cast_ofNat_Int, la, lb, hne]
    rw [w_enter]
    simp only [WA, isStore, isCall, isK, freshI, stampO, List.nil_append, Option.map_some, Option.map_none, Option.bind_some, List.map_cons, List.map_nil, if_true, if_false, Nat.reduceEqDiff, Int.reduceEq, Nat.reduceAdd, Nat.reduceMul, reduceCtorEq, eq_self, Int.reduceLT, Int.reduceLE, Int.reduceToNat, List.length_cons, List.length_nil, List.all_cons, List.all_nil, List.take_zero, List.drop_nil, List.append_nil, List.getElem?_cons_zero, List.getElem?_cons_succ, List.drop_succ_cons, List.drop_zero, List.take_succ_cons, List.cons_append, Nat.reduceLeDiff, Int.cast_ofNat_Int, r1]
    simp only [List.drop_zero] at r3
    split at r3
    · rename_i h
      subst r3
      simp only [WA, isStore, isCall, isK, freshI, stampO, List.nil_append, Option.map_some, Option.map_none, Option.bind_some, List.map_cons, List.map_nil, if_true, if_false, Nat.reduceEqDiff, Int.reduceEq, Nat.reduceAdd, Nat.reduceMul, reduceCtorEq, eq_self, Int.reduceLT, Int.reduceLE, Int.reduceToNat, List.length_cons, List.length_nil, List.all_cons, List.all_nil, List.take_zero, List.drop_nil, List.append_nil, List.getElem?_cons_zero, List.getElem?_cons_succ, List.drop_succ_cons, List.drop_zero, List.take_succ_cons, List.cons_append, Nat.reduceLeDiff, Int.cast_ofNat_Int, h]
    · rename_i h
      obtain ⟨rfl, r4⟩ := r3
      simp only [WA, isStore, isCall, isK, freshI, stampO, List.nil_append, Option.map_some, Option.map_none, Option.bind_some, List.map_cons, List.map_nil, if_true, if_false, Nat.reduceEqDiff, Int.reduceEq, Nat.reduceAdd, Nat.reduceMul, reduceCtorEq, eq_self, Int.reduceLT, Int.reduceLE, Int.reduceToNat, List.length_cons, List.length_nil, List.all_cons, List.all_nil, List.take_zero, List.drop_nil, List.append_nil, List.getElem?_cons_zero, List.getElem?_cons_succ, List.drop_succ_cons, List.drop_zero, List.take_succ_cons, List.cons_append, Nat.reduceLeDiff, Int.cast_ofNat_Int, r4, h]
  · have hne : (((A.length : Nat) : Int) ≠ ((B.length : Nat) : Int)) = True := by simp; omega
    have hab : ¬ A = B := fun h => hl (by rw [h])
    simp only [WA, isStore, isCall, isK, freshI, stampO, List.nil_append, Option.map_some, Option.map_none, Option.bind_some, List.map_cons, List.map_nil, if_true, if_false, Nat.reduceEqDiff, Int.reduceEq, Nat.reduceAdd, Nat.reduceMul, reduceCtorEq, eq_self, Int.reduceLT, Int.reduceLE, Int.reduceToNat, List.length_cons, List.length_nil, List.all_cons, List.all_nil, List.take_zero, List.drop_nil, List.append_nil, List.getElem?_cons_zero, List.getElem?_cons_succ, List.drop_succ_cons, List.drop_zero, List.take_succ_cons, List.cons_append, Nat.reduceLeDiff, Int.cast_ofNat_Int, la, lb, hne, hab]
theorem tk0 {c : Nat} {p : Option Addr} {t : Tok} : (tokC p c t)[0]? = some (.int .i64 t.at_) := rfl
theorem tk1 {c : Nat} {p : Option Addr} {t : Tok} : (tokC p c t)[1]? = some (.int .i64 t.len) := rfl
theorem tk2 {c : Nat} {p : Option Addr} {t : Tok} : (tokC p c t)[2]? = some (.slice p t.out.length c) := rfl
theorem tk3 {c : Nat} {p : Option Addr} {t : Tok} : (tokC p c t)[3]? = some (.int .i64 t.err) := rfl
/-- A token is right or wrong. -/
theorem oneT_is {L : List Rl} (hR : Right L) {us : List Int} (hn : us ≠ []) (a : Int) : (oneT L us a = ⟨a, 1, [], 3⟩ ∧ (lgs L us).1 < 0) ∨ ∃ (k n : Nat) (r : Rl), (lgs L us).1 = k ∧ (lgs L us).2.1 = n ∧ 0 < n ∧ n ≤ us.length ∧ L[k]? = some r ∧ r.1 = us.take n ∧ 0 < r.2.length ∧ r.2.length ≤ 8 ∧ oneT L us a = ⟨a, n, r.2, 0⟩ := by
  by_cases h0 : (lgs L us).1 < 0
  · left
    exact ⟨by unfold oneT; rw [if_pos h0], h0⟩
  · right
    obtain ⟨p1, p2, r, p3, p4, p5⟩ := lgs_pos hR h0
    obtain ⟨k, hk⟩ : ∃ k : Nat, (lgs L us).1 = k := ⟨(lgs L us).1.toNat, by omega⟩
    rw [hk] at p3
    have p3' : L[k]? = some r := p3
    obtain ⟨q1, q2⟩ := side_len ((hR.1 r (List.mem_of_getElem? p3')).2)
    refine ⟨k, _, r, hk, rfl, p1, p2, p3', p4, q1, q2, ?_⟩
    unfold oneT
    rw [if_neg h0, hk]
    simp only [Int.toNat_natCast, p3']
end Go.Proofs.Ythnccfmmeaeibaa

/-! What all laws begin with: rules that are right, and their trie. -/
set_option linter.unusedSimpArgs false
set_option linter.unusedVariables false
namespace Go.Proofs.Ythnccfmmeaeibaa
open Go Lon
set_option maxRecDepth 100000
theorem v_nilp {H : AHeap} {t : Nat} : vIsNil 0 false (.pointer (some ⟨t, 0, none⟩)) H = some (.bool false, H) := rfl
theorem start {a : Value} {R : List RowD} {H : AHeap} (ha : RowsAt H a R) : ∃ (v : Value) (H1 : AHeap) (t : Nat) (H2 : AHeap) (L : List Rl), cw Try.prog (tabF tab) om1 15 [a] H = some (v, H1) ∧ cw Try.prog (tabF tab) om1 16 [v] H1 = some (.tuple ⟨[.pointer (some ⟨t, 0, none⟩), .int .i64 0]⟩, H2) ∧ Ext H H2 ∧ TrieOk H2 t L ∧ Rules H2 v L ∧ CutR H2 v ∧ L.length ≤ 40 ∧ Right L := by
  obtain ⟨v1, H1, c1, x1, o1, k1⟩ := c_Right ha
  have h40 := RL_len R
  have hlen := rgt_len (L := RL R) (T := [])
  simp only [List.length_nil, Nat.zero_add] at hlen
  have hR := o1.rules (by omega)
  have hC : Cut Try.prog H1 v1 2 := o1.cut (by kernel_rfl)
  have hgood := rgt_good (L := RL R) Good.nil
  obtain ⟨v2, H2, c2, x2, t, rfl, hT⟩ := c_OfT hR hC hgood (by omega)
  exact ⟨v1, H1, t, H2, _, c1, c2, x1.trans x2, hT, hR.ext x2, k1.ext x2, by omega, hgood⟩
theorem min60 {n : Nat} : ∃ k : Nat, k ≤ n ∧ k ≤ 60 ∧ (if (60 : Int) < (n : Int) then (60 : Int) else (n : Int)) = (k : Int) := by
  refine ⟨min n 60, Nat.min_le_left _ _, Nat.min_le_right _ _, ?_⟩
  split <;> omega
end Go.Proofs.Ythnccfmmeaeibaa

/-! Units that come one by one: the matcher. -/
set_option linter.unusedSimpArgs false
set_option linter.unusedVariables false
namespace Go.Proofs.Ythnccfmmeaeibaa
open Go Lon
set_option maxRecDepth 100000
/-- A matcher at block m: what waits, where it begins, the steps. -/
structure MS (H0 H : AHeap) (m t : Nat) (w : List Int) (a st : Int) : Prop where
  mB : H0.n ≤ m
  ext : Ext H0 H
  hm : ∃ vw ver, H.get m = some ⟨[.pointer (some ⟨t, 0, none⟩), vw, .int .i64 a, .int .i64 st], 77, .tip, ver, []⟩ ∧ Own H 3 1 vw w.length (ints w) ∧ From H0.n vw
/-- What is taken off what waits. -/
def takeF (L : List Rl) (e : Bool) : Nat → List Int → Int → Int → List Tok × List Int × Int × Int
  | 0, w, a, st => ([], w, a, st)
  | c + 1, w, a, st => if w = [] then ([], w, a, st) else if (lgs L w).2.2 = true ∧ e = false then ([], w, a, st + w.length) else
      (oneT L w a :: (takeF L e c (w.drop (oneT L w a).len.toNat) (a + (oneT L w a).len) (st + w.length)).1, (takeF L e c (w.drop (oneT L w a).len.toNat) (a + (oneT L w a).len) (st + w.length)).2)
theorem takeF_succ {L : List Rl} {e : Bool} {c : Nat} {w : List Int} {a st : Int} : takeF L e (c + 1) w a st = if w = [] then ([], w, a, st) else if (lgs L w).2.2 = true ∧ e = false then ([], w, a, st + w.length) else
      (oneT L w a :: (takeF L e c (w.drop (oneT L w a).len.toNat) (a + (oneT L w a).len) (st + w.length)).1, (takeF L e c (w.drop (oneT L w a).len.toNat) (a + (oneT L w a).len) (st + w.length)).2) := rfl
theorem v_mk {H : AHeap} {a n : Int} : vBuild [.int .i64 0, .int .i64 0, .slice none 0 0, .int .i64 0] [(0, 1, .int .i64 a), (1, 1, .int .i64 n)] H = some (.agg ⟨[.int .i64 a, .int .i64 n, .slice none 0 0, .int .i64 0]⟩, H) := rfl
theorem v_mk1 {H : AHeap} {el : TypeId} {x y z u : Value} : vBslice el 1 4 [.int .i64 0, .int .i64 0, .slice none 0 0, .int .i64 0] [(0, 4, .agg ⟨[x, y, z, u]⟩)] H = some (.slice (some ⟨H.n, 0, none⟩) 1 2, H.push ⟨[x, y, z, u], el, .tip, 0, []⟩) := rfl
set_option maxHeartbeats 1600000 in
theorem l_take {H0 Hs : AHeap} {m t : Nat} {L : List Rl} {e : Bool} (hT : TrieOk H0 t L) (hms : m < Hs.n) (h0s : H0.n ≤ Hs.n) : ∀ (c : Nat) (w : List Int) (a st : Int) (H : AHeap) (out : Value) (T : List Tok), w.length ≤ c → MS H0 H m t w a st → OwnToks Try.prog H 39 out T → From Hs.n out → AncB Hs.n H 39 out → Hs.n ≤ H.n → (∀ j, j < Hs.n → j ≠ m → H.get j = Hs.get j) → 0 ≤ a ∧ a + w.length < 1000000000 → 0 ≤ st ∧ st + w.length * w.length < 1000000000 → T.length + w.length < 1000000 → w.length < 10000 →
    Out (run Try.prog (tabF tab) om1 (.loop [0, 1, 5] b_match_Match__take_0) [(0, .pointer (some ⟨m, 0, none⟩)), (1, .bool e), (5, out)] H) fun y e' H' => y = .exit 0 ∧ MS H0 H' m t (takeF L e c w a st).2.1 (takeF L e c w a st).2.2.1 (takeF L e c w a st).2.2.2 ∧ OwnToks Try.prog H' 39 (eget e' 5) (T ++ (takeF L e c w a st).1) ∧ From Hs.n (eget e' 5) ∧ AncB Hs.n H' 39 (eget e' 5) ∧ Hs.n ≤ H'.n ∧ (∀ j, j < Hs.n → j ≠ m → H'.get j = Hs.get j) := by
  intro c
  induction c with
  | zero =>
    intro w a st H out T hw hM ho hf hA hn hk ha hst hTl hw1
    have : w = [] := List.length_eq_zero_iff.1 (by omega)
    subst this
    obtain ⟨vw, ver, hm, hv, hvf⟩ := hM.hm
    have hlw := hv.sl.len (H2 := H)
    have z0 : ((0 : Int) > 0) = False := by simp
    simp only [List.length_nil] at hlw
    rw [w_loop_b b_match_Match__take_0.eq_1]
    simp only [WA, isStore, isCall, isK, freshI, stampO, List.nil_append, Option.map_some, Option.map_none, Option.bind_some, List.map_cons, List.map_nil, if_true, if_false, Nat.reduceEqDiff, Int.reduceEq, Nat.reduceAdd, Nat.reduceMul, reduceCtorEq, eq_self, Int.reduceLT, Int.reduceLE, Int.reduceToNat, List.length_cons, List.length_nil, List.all_cons, List.all_nil, List.take_zero, List.drop_nil, List.append_nil, List.getElem?_cons_zero, List.getElem?_cons_succ, List.drop_succ_cons, List.drop_zero, List.take_succ_cons, List.cons_append, Nat.reduceLeDiff, Int.cast_ofNat_Int, hm, hlw, z0]
    unfold takeF
    simp only [List.append_nil]
    exact ⟨hM, ho, hf, hA, hn, hk⟩
  | succ c ih =>
    intro w a st H out T hw hM ho hf hA hn hk ha hst hTl hw1
    obtain ⟨vw, ver, hm, hv, hvf⟩ := hM.hm
    have hlw := fun H2 => hv.sl.len (H2 := H2)
    rw [takeF_succ]
    by_cases hne : w = []
    · subst hne
      have z0 : ((0 : Int) > 0) = False := by simp
      simp only [List.length_nil] at hlw
      rw [w_loop_b b_match_Match__take_0.eq_1, if_pos rfl]
      simp only [WA, isStore, isCall, isK, freshI, stampO, List.nil_append, Option.map_some, Option.map_none, Option.bind_some, List.map_cons, List.map_nil, if_true, if_false, Nat.reduceEqDiff, Int.reduceEq, Nat.reduceAdd, Nat.reduceMul, reduceCtorEq, eq_self, Int.reduceLT, Int.reduceLE, Int.reduceToNat, List.length_cons, List.length_nil, List.all_cons, List.all_nil, List.take_zero, List.drop_nil, List.append_nil, List.getElem?_cons_zero, List.getElem?_cons_succ, List.drop_succ_cons, List.drop_zero, List.take_succ_cons, List.cons_append, Nat.reduceLeDiff, Int.cast_ofNat_Int, hm, hlw, z0]
      exact ⟨hM, ho, hf, hA, hn, hk⟩
    · rw [if_neg hne]
      have hpos := List.length_pos_iff.2 hne
      have z0 : ((w.length : Int) > 0) = True := by simp; omega
      have cL := c_LongT (hT.ext hM.ext) hv.sl (by unfold Lon.tiny; omega)
      have hws : IntKind.i64.wrap (st + w.length) = st + w.length := wrap64 (by omega) (by have : w.length ≤ w.length * w.length := Nat.le_mul_of_pos_left _ hpos; omega)
      have hm3 : (77 : TypeId) ≠ 3 := by decide
      have hm39 : (77 : TypeId) ≠ 39 := by decide
      have hmb : m < H.n := by omega
      obtain ⟨H1, hH1⟩ : ∃ H1, H1 = H.upd m ⟨[.pointer (some ⟨t, 0, none⟩), vw, .int .i64 a, .int .i64 (st + w.length)], 77, .tip, ver + 1, []⟩ := ⟨_, rfl⟩
      have g1 : H1.get m = some ⟨[.pointer (some ⟨t, 0, none⟩), vw, .int .i64 a, .int .i64 (st + w.length)], 77, .tip, ver + 1, []⟩ := by rw [hH1]; exact upd_self hm
      have hn1 : H1.n = H.n := by rw [hH1]; simp
      have k1 : ∀ j, j ≠ m → H1.get j = H.get j := fun j hj => by rw [hH1]; exact upd_other hm hj
      have hv1 : Own H1 3 1 vw w.length (ints w) := hv.move fun i b hi he => by
        rw [k1 i (fun e => by subst e; rw [hm] at hi; injection hi with hi; subst hi; exact absurd he hm3)]; exact hi
      have ho1 : OwnToks Try.prog H1 39 out T := by
        obtain ⟨q0, cs, q1, q2⟩ := ho
        refine ⟨q0, cs, q1.move fun i b hi he => ?_, fun k r hr => tokQ_elem (el := 77) (s := 4) (by kernel_rfl) (by decide) (fun j b hj he => ?_) (q2 k r hr)⟩
        · rw [k1 i (fun e => by subst e; rw [hm] at hi; injection hi with hi; subst hi; exact absurd he hm39)]; exact hi
        · rw [k1 j (fun e => by subst e; rw [hm] at hj; injection hj with hj; subst hj; exact he rfl)]; exact hj
      have hver1 : VerLe H H1 := by rw [hH1]; exact VerLe.upd hm (Nat.le_succ ver) rfl (fun e => by simp only at e; omega)
      have ho_m : NotAt out m := by
        obtain ⟨q0, cs, q1, q2⟩ := ho
        exact q1.notAt_elem hm hm39
      have hA1 : AncB Hs.n H1 39 out := hA.move hver1 fun i b hi hna => by
        rw [k1 i (fun e => by subst e; exact hna ho_m)]; exact hi
      have hx1 : Ext H0 H1 := ⟨by rw [hn1]; exact hM.ext.1, fun j hj => by rw [k1 j (by have := hM.mB; omega)]; exact hM.ext.2 j hj⟩
      have hwsq : w.length ≤ w.length * w.length := Nat.le_mul_of_pos_left _ hpos
      by_cases hop : (lgs L w).2.2 = true ∧ e = false
      · rw [if_pos hop]
        obtain ⟨o1, rfl⟩ := hop
        rw [o1] at cL
        rw [w_loop_b b_match_Match__take_0.eq_1]
        simp only [WA, isStore, isCall, isK, freshI, stampO, List.nil_append, Option.map_some, Option.map_none, Option.bind_some, List.map_cons, List.map_nil, if_true, if_false, Nat.reduceEqDiff, Int.reduceEq, Nat.reduceAdd, Nat.reduceMul, reduceCtorEq, eq_self, Int.reduceLT, Int.reduceLE, Int.reduceToNat, List.length_cons, List.length_nil, List.all_cons, List.all_nil, List.take_zero, List.drop_nil, List.append_nil, List.getElem?_cons_zero, List.getElem?_cons_succ, List.drop_succ_cons, List.drop_zero, List.take_succ_cons, List.cons_append, Nat.reduceLeDiff, Int.cast_ofNat_Int, hm, hlw, z0, cL, hws, ← hH1]
        exact ⟨⟨hM.mB, hx1, vw, ver + 1, g1, hv1, hvf⟩, ho1, hf, hA1, by omega, fun j hj hjm => by rw [k1 j hjm]; exact hk j hj hjm⟩
      · rw [if_neg hop]
        obtain ⟨n, en, n1, n2⟩ := oneT_len hT.right hne a
        generalize hu : oneT L w a = u at *
        rw [en, Int.toNat_natCast]
        have hsq : w.length + (w.length - n) * (w.length - n) ≤ w.length * w.length := by
          have e1 : (w.length - n) * (w.length - n) ≤ (w.length - n) * w.length := Nat.mul_le_mul_left _ (Nat.sub_le _ _)
          have e2 : (w.length - n + 1) * w.length ≤ w.length * w.length := Nat.mul_le_mul_right _ (by omega)
          rw [Nat.succ_mul] at e2
          omega
        have hwn : (w.drop n).length = w.length - n := List.length_drop
        have hwa : IntKind.i64.wrap (a + n) = a + n := wrap64 (by omega) (by omega)
        have tail : ∀ {H3 : AHeap} {p : Option Addr} {cc : Nat}, Ext H1 H3 → H3.get H1.n = some ⟨tokC p cc u, 39, .tip, 2, []⟩ → tokQ Try.prog H3 (tokC p cc u) u → ∃ (v' : Value) (H5 : AHeap) (vw' : Value) (a2 : Option Addr) (c2 : Nat) (H6 H7 H8 : AHeap), appendA (H3.push ⟨tokC p cc u, 39, .tip, 0, []⟩) out (.slice (some ⟨H3.n, 0, none⟩) 1 2) 39 4 48 = some (v', H5) ∧
            H5.get m = some ⟨[.pointer (some ⟨t, 0, none⟩), vw, .int .i64 a, .int .i64 (st + w.length)], 77, .tip, ver + 1, []⟩ ∧ H5.get H1.n = some ⟨tokC p cc u, 39, .tip, 2, []⟩ ∧ vSlice (P := Try.prog) vw (some (.int .i64 n)) none 1 H5 = some (vw', H5) ∧ appendA H5 (.slice none 0 0) vw' 3 1 8 = some (.slice a2 (w.drop n).length c2, H6) ∧ H6.get m = some ⟨[.pointer (some ⟨t, 0, none⟩), vw, .int .i64 a, .int .i64 (st + w.length)], 77, .tip, ver + 1, []⟩ ∧ H6.get H1.n = some ⟨tokC p cc u, 39, .tip, 2, []⟩ ∧
            H7 = H6.upd m ⟨[.pointer (some ⟨t, 0, none⟩), (.slice a2 (w.drop n).length c2), .int .i64 a, .int .i64 (st + w.length)], 77, .tip, ver + 1 + 1, []⟩ ∧ H7.get m = some ⟨[.pointer (some ⟨t, 0, none⟩), (.slice a2 (w.drop n).length c2), .int .i64 a, .int .i64 (st + w.length)], 77, .tip, ver + 1 + 1, []⟩ ∧ H7.get H1.n = some ⟨tokC p cc u, 39, .tip, 2, []⟩ ∧ H8 = H7.upd m ⟨[.pointer (some ⟨t, 0, none⟩), (.slice a2 (w.drop n).length c2), .int .i64 (a + n), .int .i64 (st + w.length)], 77, .tip, ver + 1 + 1 + 1, []⟩ ∧
            MS H0 H8 m t (w.drop n) (a + n) (st + w.length) ∧ OwnToks Try.prog H8 39 v' (T ++ [u]) ∧ From Hs.n v' ∧ AncB Hs.n H8 39 v' ∧ Hs.n ≤ H8.n ∧ ∀ j, j < Hs.n → j ≠ m → H8.get j = Hs.get j := by
          intro H3 p cc x3 g3 t3
          have x4 := Ext.push H3 ⟨tokC p cc u, 39, .tip, 0, []⟩
          have g4 := get_push_self (H := H3) (b := ⟨tokC p cc u, 39, .tip, 0, []⟩)
          obtain ⟨v', H5, m1, m2, m3, m4, m5, m6⟩ := (ho1.ext tokQ_mono (x3.trans x4)).push tokQ_mono (bytes := 48) (c := 2) g4 rfl (tokQ_mono x4.kp t3) tokC_one (by omega) (by omega)
          have hn4 : (H3.push ⟨tokC p cc u, 39, .tip, 0, []⟩).n = H3.n + 1 := by simp
          have x3n := x3.1
          rw [hn4] at m3 m5 m6
          have gm3 := x3.get g1
          have gm5 : H5.get m = some ⟨[.pointer (some ⟨t, 0, none⟩), vw, .int .i64 a, .int .i64 (st + w.length)], 77, .tip, ver + 1, []⟩ := by rw [m6 m (by omega) ho_m, get_push_lt (by omega)]; exact gm3
          have hoN : NotAt out H1.n := ho1.notAt (Nat.le_refl _)
          have hlt3 := AHeap.lt_of_get g3
          have gt5 : H5.get H1.n = some ⟨tokC p cc u, 39, .tip, 2, []⟩ := by rw [m6 _ (by omega) hoN, get_push_lt hlt3]; exact g3
          have hv5 : Own H5 3 1 vw w.length (ints w) := (hv1.ext (x3.trans x4)).move fun i b hi he => by
            have hil := AHeap.lt_of_get hi
            rw [hn4] at hil
            obtain ⟨q0, cs, q1, q2⟩ := ho1.ext tokQ_mono (x3.trans x4)
            rw [m6 i hil (q1.notAt_elem hi (by rw [he]; decide))]
            exact hi
          obtain ⟨vw', s1, s2, s3⟩ := Ints.drop (P := Try.prog) (l := w) hv5.sl (hv5.cut (by kernel_rfl)) n2
          obtain ⟨v2, H6, w1, w2, w3, w4, w5⟩ := app_own (el := 3) s2 (by rw [hwn]; omega)
          have w3' := w3
          obtain ⟨⟨a2, c2, rfl⟩, _⟩ := w3'.sl
          have gm6 := w2.get gm5
          have gt6 := w2.get gt5
          have hmN : H1.n ≠ m := by omega
          have gm7 := upd_self (c := ⟨[.pointer (some ⟨t, 0, none⟩), (.slice a2 (w.drop n).length c2), .int .i64 a, .int .i64 (st + w.length)], 77, .tip, ver + 1 + 1, []⟩) gm6
          have gm8 := upd_self (c := ⟨[.pointer (some ⟨t, 0, none⟩), (.slice a2 (w.drop n).length c2), .int .i64 (a + n), .int .i64 (st + w.length)], 77, .tip, ver + 1 + 1 + 1, []⟩) gm7
          have k8 : ∀ j, j ≠ m → ((H6.upd m ⟨[.pointer (some ⟨t, 0, none⟩), (.slice a2 (w.drop n).length c2), .int .i64 a, .int .i64 (st + w.length)], 77, .tip, ver + 1 + 1, []⟩).upd m ⟨[.pointer (some ⟨t, 0, none⟩), (.slice a2 (w.drop n).length c2), .int .i64 (a + n), .int .i64 (st + w.length)], 77, .tip, ver + 1 + 1 + 1, []⟩).get j = H6.get j := fun j hj => by rw [upd_other gm7 hj, upd_other gm6 hj]
          have n5 := w2.1
          have n8 : ((H6.upd m ⟨[.pointer (some ⟨t, 0, none⟩), (.slice a2 (w.drop n).length c2), .int .i64 a, .int .i64 (st + w.length)], 77, .tip, ver + 1 + 1, []⟩).upd m ⟨[.pointer (some ⟨t, 0, none⟩), (.slice a2 (w.drop n).length c2), .int .i64 (a + n), .int .i64 (st + w.length)], 77, .tip, ver + 1 + 1 + 1, []⟩).n = H6.n := by simp
          have hd8 : ∀ j b, H6.get j = some b → b.elem ≠ 77 → ((H6.upd m ⟨[.pointer (some ⟨t, 0, none⟩), (.slice a2 (w.drop n).length c2), .int .i64 a, .int .i64 (st + w.length)], 77, .tip, ver + 1 + 1, []⟩).upd m ⟨[.pointer (some ⟨t, 0, none⟩), (.slice a2 (w.drop n).length c2), .int .i64 (a + n), .int .i64 (st + w.length)], 77, .tip, ver + 1 + 1 + 1, []⟩).get j = some b := fun j b hj he => by
            rw [k8 j (fun e => by subst e; rw [gm6] at hj; injection hj with hj; subst hj; exact he rfl)]; exact hj
          have hv68 : VerLe H6 ((H6.upd m ⟨[.pointer (some ⟨t, 0, none⟩), (.slice a2 (w.drop n).length c2), .int .i64 a, .int .i64 (st + w.length)], 77, .tip, ver + 1 + 1, []⟩).upd m ⟨[.pointer (some ⟨t, 0, none⟩), (.slice a2 (w.drop n).length c2), .int .i64 (a + n), .int .i64 (st + w.length)], 77, .tip, ver + 1 + 1 + 1, []⟩) := (VerLe.upd (b' := ⟨[.pointer (some ⟨t, 0, none⟩), (.slice a2 (w.drop n).length c2), .int .i64 a, .int .i64 (st + w.length)], 77, .tip, ver + 1 + 1, []⟩) gm6 (Nat.le_succ _) rfl (fun e => by simp only at e; omega)).trans (VerLe.upd (b' := ⟨[.pointer (some ⟨t, 0, none⟩), (.slice a2 (w.drop n).length c2), .int .i64 (a + n), .int .i64 (st + w.length)], 77, .tip, ver + 1 + 1 + 1, []⟩) gm7 (Nat.le_succ _) rfl (fun e => by simp only at e; omega))
          have low : ∀ j, j < Hs.n → j ≠ m → ((H6.upd m ⟨[.pointer (some ⟨t, 0, none⟩), (.slice a2 (w.drop n).length c2), .int .i64 a, .int .i64 (st + w.length)], 77, .tip, ver + 1 + 1, []⟩).upd m ⟨[.pointer (some ⟨t, 0, none⟩), (.slice a2 (w.drop n).length c2), .int .i64 (a + n), .int .i64 (st + w.length)], 77, .tip, ver + 1 + 1 + 1, []⟩).get j = Hs.get j := fun j hj hjm => by
            rw [k8 j hjm, w2.2 j (by omega), m6 j (by omega) (NotAt.of_from hf hj), get_push_lt (by omega), x3.2 j (by omega), k1 j hjm, hk j hj hjm]
          refine ⟨v', H5, vw', a2, c2, H6, _, _, m1, gm5, gt5, s1 .i64, w1, gm6, gt6, rfl, gm7, by rw [upd_other gm6 hmN]; exact gt6, rfl, ⟨hM.mB, ⟨by rw [n8]; omega, fun j hj => ?_⟩, .slice a2 (w.drop n).length c2, _, gm8, w3.move fun i b hi he => hd8 i b hi (by rw [he]; decide), w4.mono (by omega)⟩, ?_, m3.mono (by omega), ?_, by rw [n8]; omega, low⟩
          · have hmB := hM.mB
            rw [low j (by omega) (by omega), ← hk j (by omega) (by omega)]
            exact hM.ext.2 j hj
          · obtain ⟨q0, cs, q1, q2⟩ := m2.ext tokQ_mono w2
            exact ⟨q0, cs, q1.move fun i b hi he => hd8 i b hi (by rw [he]; decide), fun k r hr => tokQ_elem (el := 77) (s := 4) (by kernel_rfl) (by decide) hd8 (q2 k r hr)⟩
          · refine ((appendA_anc m1 hf ((hA1.ext x3).ext x4)).ext w2).move hv68 fun i b hi hna => ?_
            have hne2 : b.elem ≠ 77 := fun e => hna (by
              obtain ⟨q0, cs, q1, q2⟩ := m2.ext tokQ_mono w2
              exact q1.notAt_elem hi (by rw [e]; decide))
            exact hd8 i b hi hne2
        have hopn : ((lgs L w).2.2 && !e) = false := by
          cases h1 : (lgs L w).2.2 <;> cases h2 : e <;> simp_all
        have fin : ∀ {H8 : AHeap} {v' : Value}, MS H0 H8 m t (w.drop n) (a + n) (st + w.length) → OwnToks Try.prog H8 39 v' (T ++ [u]) → From Hs.n v' → AncB Hs.n H8 39 v' → Hs.n ≤ H8.n → (∀ j, j < Hs.n → j ≠ m → H8.get j = Hs.get j) → _ := fun {H8 v'} b1 b2 b3 b4 b5 b6 => ih (w.drop n) (a + n) (st + w.length) H8 v' (T ++ [u]) (by omega) b1 b2 b3 b4 b5 b6 (by rw [hwn]; omega) (by rw [hwn]; omega) (by rw [hwn, List.length_append, List.length_singleton]; omega) (by omega)
        obtain ⟨H2, hH2⟩ : ∃ H2, H2 = H1.push ⟨[.int .i64 a, .int .i64 n, .slice none 0 0, .int .i64 0], 39, .tip, 1, []⟩ := ⟨_, rfl⟩
        have x2 : Ext H1 H2 := by rw [hH2]; exact Ext.push H1 _
        have g2 : H2.get H1.n = some ⟨[.int .i64 a, .int .i64 n, .slice none 0 0, .int .i64 0], 39, .tip, 1, []⟩ := by rw [hH2]; exact get_push_self
        have gm2 := x2.get g1
        rcases oneT_is hT.right hne a with ⟨q1, q0⟩ | ⟨k, nn, r, q1, q2, q3, q4, q5, q6, q7, q8, q9⟩
        · rw [hu] at q1
          have en1 : n = 1 := by rw [q1] at en; simp only at en; omega
          subst en1
          have hmax : (if ((lgs L w).2.1 : Int) > 1 then ((lgs L w).2.1 : Int) else 1) = ((1 : Nat) : Int) := by rw [lgs_neg hT.right q0]; rfl
          obtain ⟨v', H5, vw', a2, c2, H6, H7, H8, f1, f2, f3, f4, f5, f6, f7, f8, f9, f10, f11, f12, f13, f14, f15, f16, f17⟩ := tail (H3 := H2.upd H1.n ⟨tokC none 0 u, 39, .tip, 2, []⟩) (Ext.upd x2 g2 (Nat.le_refl _)) (upd_self g2) ⟨none, 0, by rw [q1]; rfl, by rw [q1]; exact Sl.nil _ 1, by rw [q1]; exact (by decide : (0 : Nat) < 4611686018427387904), by rw [q1]; trivial⟩
          have e3 : tokC none 0 u = [.int .i64 a, .int .i64 1, .slice none 0 0, .int .i64 3] := by rw [q1]; rfl
          rw [e3] at f1 f3 f7 f10
          obtain ⟨H3, hH3⟩ : ∃ H3, H3 = H2.upd H1.n ⟨[.int .i64 a, .int .i64 1, .slice none 0 0, .int .i64 3], 39, .tip, 2, []⟩ := ⟨_, rfl⟩
          rw [← hH3] at f1
          have g3 : H3.get H1.n = some ⟨[.int .i64 a, .int .i64 1, .slice none 0 0, .int .i64 3], 39, .tip, 2, []⟩ := by rw [hH3]; exact upd_self g2
          have hmax' : (if ((lgs L w).2.1 : Int) > 1 then ((lgs L w).2.1 : Int) else 1) = 1 := hmax
          have hH2' : H2 = H1.push ⟨[.int .i64 a, .int .i64 1, .slice none 0 0, .int .i64 0], 39, .tip, 1, []⟩ := hH2
          have g2' : H2.get H1.n = some ⟨[.int .i64 a, .int .i64 1, .slice none 0 0, .int .i64 0], 39, .tip, 1, []⟩ := g2
          have f4' : vSlice (P := Try.prog) vw (some (.int .i64 1)) none 1 H5 = some (vw', H5) := f4
          have hwa' : IntKind.i64.wrap (a + 1) = a + 1 := hwa
          have hc1 : ((1 : Nat) : Int) = 1 := rfl
          rw [hc1] at f11
          obtain ⟨y, e', H', r1, r2, r3, r4, r5, r6, r7, r8⟩ := fin f12 f13 f14 f15 f16 f17
          rw [List.append_assoc] at r4
          have hcase : (lgs L w).2.2 = false ∨ ((lgs L w).2.2 = true ∧ e = true) := by
            cases h1 : (lgs L w).2.2 <;> cases h2 : e <;> simp_all
          rcases hcase with h1 | ⟨h1, rfl⟩ <;>
          · rw [h1] at cL
            rw [w_loop_b b_match_Match__take_0.eq_1]
            simp only [WA, isStore, isCall, isK, freshI, stampO, List.nil_append, Option.map_some, Option.map_none, Option.bind_some, List.map_cons, List.map_nil, if_true, if_false, Nat.reduceEqDiff, Int.reduceEq, Nat.reduceAdd, Nat.reduceMul, reduceCtorEq, eq_self, Int.reduceLT, Int.reduceLE, Int.reduceToNat, List.length_cons, List.length_nil, List.all_cons, List.all_nil, List.take_zero, List.drop_nil, List.append_nil, List.getElem?_cons_zero, List.getElem?_cons_succ, List.drop_succ_cons, List.drop_zero, List.take_succ_cons, List.cons_append, Nat.reduceLeDiff, Int.cast_ofNat_Int, hm, hlw, z0, cL, hws, ← hH1, g1, hmax', v_mk, ← hH2', g2', q0, ← hH3, g3, v_mk1, f1, f2, f3, f4', f5, f6, f7, ← f8, f9, f10, hwa', ← f11]
            rw [w_enter]
            simp only [WA, isStore, isCall, isK, freshI, stampO, List.nil_append, Option.map_some, Option.map_none, Option.bind_some, List.map_cons, List.map_nil, if_true, if_false, Nat.reduceEqDiff, Int.reduceEq, Nat.reduceAdd, Nat.reduceMul, reduceCtorEq, eq_self, Int.reduceLT, Int.reduceLE, Int.reduceToNat, List.length_cons, List.length_nil, List.all_cons, List.all_nil, List.take_zero, List.drop_nil, List.append_nil, List.getElem?_cons_zero, List.getElem?_cons_succ, List.drop_succ_cons, List.drop_zero, List.take_succ_cons, List.cons_append, Nat.reduceLeDiff, Int.cast_ofNat_Int, r1]
            exact ⟨r2, r3, r4, r5, r6, r7, r8⟩
        · rw [hu] at q9
          have en1 : nn = n := by rw [q9] at en; simp only at en; omega
          subst en1
          have hmax : (if ((lgs L w).2.1 : Int) > 1 then ((lgs L w).2.1 : Int) else 1) = (nn : Int) := by rw [q2]; split <;> omega
          obtain ⟨vo, HO, cO, xO, iO, fO, uO⟩ := c_OutT ((hT.ext hx1).ext x2) q5
          have iO' := iO
          obtain ⟨⟨ao, co, rfl⟩, _⟩ := iO'
          have gO := xO.get g2
          have gmO := xO.get gm2
          obtain ⟨v', H5, vw', a2, c2, H6, H7, H8, f1, f2, f3, f4, f5, f6, f7, f8, f9, f10, f11, f12, f13, f14, f15, f16, f17⟩ := tail (H3 := HO.upd H1.n ⟨tokC ao co u, 39, .tip, 2, []⟩) (Ext.upd (x2.trans xO) gO (Nat.le_refl _)) (upd_self gO) ⟨ao, co, by rw [q9]; rfl, by rw [q9]; exact Ints.upd' iO gO fO (by rw [hH2]; simp), by rw [q9]; unfold Lon.tiny; simp only; omega, by rw [q9]; exact uO.upd gO rfl⟩
          have e3 : tokC ao co u = [.int .i64 a, .int .i64 nn, .slice ao r.2.length co, .int .i64 0] := by rw [q9]; rfl
          rw [e3] at f1 f3 f7 f10
          obtain ⟨H3, hH3⟩ : ∃ H3, H3 = HO.upd H1.n ⟨[.int .i64 a, .int .i64 nn, .slice ao r.2.length co, .int .i64 0], 39, .tip, 2, []⟩ := ⟨_, rfl⟩
          rw [← hH3] at f1
          have g3 : H3.get H1.n = some ⟨[.int .i64 a, .int .i64 nn, .slice ao r.2.length co, .int .i64 0], 39, .tip, 2, []⟩ := by rw [hH3]; exact upd_self gO
          obtain ⟨y, e', H', r1, r2, r3, r4, r5, r6, r7, r8⟩ := fin f12 f13 f14 f15 f16 f17
          rw [List.append_assoc] at r4
          have hcase : (lgs L w).2.2 = false ∨ ((lgs L w).2.2 = true ∧ e = true) := by
            cases h1 : (lgs L w).2.2 <;> cases h2 : e <;> simp_all
          have q0 : ¬ ((k : Int) < 0) := by omega
          rw [q1] at cL
          rcases hcase with h1 | ⟨h1, rfl⟩ <;>
          · rw [h1] at cL
            rw [w_loop_b b_match_Match__take_0.eq_1]
            simp only [WA, isStore, isCall, isK, freshI, stampO, List.nil_append, Option.map_some, Option.map_none, Option.bind_some, List.map_cons, List.map_nil, if_true, if_false, Nat.reduceEqDiff, Int.reduceEq, Nat.reduceAdd, Nat.reduceMul, reduceCtorEq, eq_self, Int.reduceLT, Int.reduceLE, Int.reduceToNat, List.length_cons, List.length_nil, List.all_cons, List.all_nil, List.take_zero, List.drop_nil, List.append_nil, List.getElem?_cons_zero, List.getElem?_cons_succ, List.drop_succ_cons, List.drop_zero, List.take_succ_cons, List.cons_append, Nat.reduceLeDiff, Int.cast_ofNat_Int, hm, hlw, z0, cL, hws, ← hH1, g1, hmax, v_mk, ← hH2, g2, gm2, q0, cO, gO, gmO, ← hH3, g3, v_mk1, f1, f2, f3, f4, f5, f6, f7, ← f8, f9, f10, hwa, ← f11]
            rw [w_enter]
            simp only [WA, isStore, isCall, isK, freshI, stampO, List.nil_append, Option.map_some, Option.map_none, Option.bind_some, List.map_cons, List.map_nil, if_true, if_false, Nat.reduceEqDiff, Int.reduceEq, Nat.reduceAdd, Nat.reduceMul, reduceCtorEq, eq_self, Int.reduceLT, Int.reduceLE, Int.reduceToNat, List.length_cons, List.length_nil, List.all_cons, List.all_nil, List.take_zero, List.drop_nil, List.append_nil, List.getElem?_cons_zero, List.getElem?_cons_succ, List.drop_succ_cons, List.drop_zero, List.take_succ_cons, List.cons_append, Nat.reduceLeDiff, Int.cast_ofNat_Int, r1]
            exact ⟨r2, r3, r4, r5, r6, r7, r8⟩
end Go.Proofs.Ythnccfmmeaeibaa

/-! The matcher's calls. -/
set_option linter.unusedSimpArgs false
set_option linter.unusedVariables false
namespace Go.Proofs.Ythnccfmmeaeibaa
open Go Lon
set_option maxRecDepth 100000
/-- What a matcher's calls leave as it was. -/
def Kx (H H' : AHeap) : Prop := H.n ≤ H'.n ∧ ∀ j b, H.get j = some b → b.elem ≠ 77 → (b.elem ≠ 3 → H'.get j = some b) ∧ ∃ b', H'.get j = some b' ∧ b'.elem = b.elem ∧ (b.st.mem = true → b'.cells = b.cells ∧ b'.st.mem = true)
theorem Kx.of {H H' : AHeap} {m : Nat} {cs : List Value} {ver : Nat} (hn : H.n ≤ H'.n) (hm : H.get m = some ⟨cs, 77, .tip, ver, []⟩) (h : ∀ j, j < H.n → j ≠ m → H'.get j = H.get j) : Kx H H' := ⟨hn, fun j b hj he => by
  have hne : j ≠ m := fun e => by subst e; rw [hm] at hj; injection hj with hj; subst hj; exact he rfl
  have := h j (AHeap.lt_of_get hj) hne
  rw [hj] at this
  exact ⟨fun _ => this, b, this, rfl, fun hmm => ⟨rfl, hmm⟩⟩⟩
theorem Kx.trans {a b c : AHeap} (h : Kx a b) (k : Kx b c) : Kx a c := ⟨Nat.le_trans h.1 k.1, fun j x hj he => by
  obtain ⟨h1, y, hy, h2, h3⟩ := h.2 j x hj he
  obtain ⟨k1, z, hz, k2, k3⟩ := k.2 j y hy (by rw [h2]; exact he)
  refine ⟨fun hi => (k.2 j x (h1 hi) he).1 hi, z, hz, k2.trans h2, fun hm => ?_⟩
  obtain ⟨p1, p2⟩ := h3 hm
  obtain ⟨q1, q2⟩ := k3 p2
  exact ⟨q1.trans p1, q2⟩⟩
theorem Ext.kx {H H' : AHeap} (h : Ext H H') : Kx H H' := ⟨h.1, fun j b hj _ => ⟨fun _ => h.get hj, b, h.get hj, rfl, fun hm => ⟨rfl, hm⟩⟩⟩
theorem Ints.kx {H H' : AHeap} (hk : Kx H H') {v : Value} {l : List Int} (h : Ints H v l) (hc : Cut Try.prog H v 1) : Ints H' v l ∧ Cut Try.prog H' v 1 := by
  have ne : ∀ {b : ABlk}, (Try.prog.info? b.elem).map (·.size) = some 1 → b.elem ≠ 77 := fun {b} hb e => by
    rw [e] at hb
    have h4 : (Try.prog.info? 77).map (·.size) = some 4 := by kernel_rfl
    rw [h4] at hb
    injection hb with hb
    omega
  obtain ⟨⟨a, c, rfl⟩, h2⟩ := h
  unfold cellsOf at h2
  split at h2
  · rename_i hv
    exact ⟨⟨⟨_, _, rfl⟩, by rw [hv]; unfold cellsOf; exact h2⟩, by rw [hv]; trivial⟩
  · rename_i i o n' c' hv
    injection hv with e1 e2 e3
    subst e1 e2 e3
    obtain ⟨b, hb1, hb2⟩ := hc
    obtain ⟨_, b', hb', hbe, hbm⟩ := hk.2 _ _ hb1 (ne hb2)
    refine ⟨⟨⟨_, _, rfl⟩, ?_⟩, ⟨b', hb', by rw [hbe]; exact hb2⟩⟩
    unfold cellsOf
    simp only [hb']
    rw [hb1] at h2
    simp only at h2
    split at h2
    · rename_i h0
      rw [if_pos h0]; exact h2
    · rename_i h0
      rw [if_neg h0]
      split at h2
      · rename_i h1
        obtain ⟨p1, p2⟩ := hbm h1.1
        rw [if_pos ⟨p2, by rw [p1]; exact h1.2⟩, p1]
        exact h2
      · cases h2
  · rename_i hv
    exact ⟨⟨⟨_, _, rfl⟩, by rw [hv]; unfold cellsOf; exact h2⟩, by rw [hv]; trivial⟩
  · cases h2
theorem OwnToks.kx {H H' : AHeap} (hk : Kx H H') {v : Value} {L : List Tok} (h : OwnToks Try.prog H 39 v L) : OwnToks Try.prog H' 39 v L := by
  obtain ⟨q0, cs, q1, q2⟩ := h
  refine ⟨q0, cs, q1.move fun i b hi he => (hk.2 i b hi (by rw [he]; decide)).1 (by rw [he]; decide), fun k r hr => ?_⟩
  obtain ⟨a, c, h1, h2, h3, h4⟩ := q2 k r hr
  obtain ⟨g1, g2⟩ := Ints.kx hk h2 h4
  exact ⟨a, c, h1, g1, h3, g2⟩
theorem MS.move {H0 H H' : AHeap} {m t : Nat} {w : List Int} {a st : Int} (h : MS H0 H m t w a st) (hx : Ext H0 H') (hk : ∀ j b, H.get j = some b → b.elem ≠ 39 → H'.get j = some b) : MS H0 H' m t w a st := by
  obtain ⟨vw, ver, h1, h2, h3⟩ := h.hm
  exact ⟨h.mB, hx, vw, ver, hk _ _ h1 (by simp only; decide), h2.move fun i b hi he => hk i b hi (by rw [he]; decide), h3⟩
theorem MS.ext' {H0 H H' : AHeap} {m t : Nat} {w : List Int} {a st : Int} (h : MS H0 H m t w a st) (hx : Ext H H') : MS H0 H' m t w a st := by
  obtain ⟨vw, ver, h1, h2, h3⟩ := h.hm
  exact ⟨h.mB, h.ext.trans hx, vw, ver, hx.get h1, h2.ext hx, h3⟩
theorem v_match {H : AHeap} {t : Nat} : vBuild [.pointer none, .slice none 0 0, .int .i64 0, .int .i64 0] [(0, 1, .pointer (some ⟨t, 0, none⟩))] H = some (.agg ⟨[.pointer (some ⟨t, 0, none⟩), .slice none 0 0, .int .i64 0, .int .i64 0]⟩, H) := rfl
theorem c_MOf {H : AHeap} {t : Nat} : Gives (cw Try.prog (tabF tab) om1 24 [.pointer (some ⟨t, 0, none⟩)] H) fun v H' => Ext H H' ∧ v = .pointer (some ⟨H.n, 0, none⟩) ∧ MS H H' H.n t [] 0 0 := by
  rw [cw_run (F := F_match_Of) rfl rfl rfl]
  unfold F_match_Of k_match_Of
  have hbx := v_box (H := H) (v := .agg ⟨[.pointer (some ⟨t, 0, none⟩), .slice none 0 0, .int .i64 0, .int .i64 0]⟩) (el := 77) rfl
  simp only [WA, isStore, isCall, isK, freshI, stampO, List.nil_append, Option.map_some, Option.map_none, Option.bind_some, List.map_cons, List.map_nil, if_true, if_false, Nat.reduceEqDiff, Int.reduceEq, Nat.reduceAdd, Nat.reduceMul, reduceCtorEq, eq_self, Int.reduceLT, Int.reduceLE, Int.reduceToNat, List.length_cons, List.length_nil, List.all_cons, List.all_nil, List.take_zero, List.drop_nil, List.append_nil, List.getElem?_cons_zero, List.getElem?_cons_succ, List.drop_succ_cons, List.drop_zero, List.take_succ_cons, List.cons_append, Nat.reduceLeDiff, Int.cast_ofNat_Int, v_match, hbx]
  exact ⟨Ext.push H _, Nat.le_refl _, Ext.push H _, .slice none 0 0, 0, get_push_self, ⟨rfl, .inl ⟨rfl, rfl⟩⟩, trivial⟩
theorem c_Held {H0 H : AHeap} {m t : Nat} {w : List Int} {a st : Int} (hM : MS H0 H m t w a st) : cw Try.prog (tabF tab) om1 27 [.pointer (some ⟨m, 0, none⟩)] H = some (.int .i64 w.length, H) := by
  rw [cw_run (F := F_match_Match__Held) rfl rfl rfl]
  unfold F_match_Match__Held k_match_Match__Held
  obtain ⟨vw, ver, hm, hv, hvf⟩ := hM.hm
  have hlw := fun H2 => hv.sl.len (H2 := H2)
  simp only [WA, isStore, isCall, isK, freshI, stampO, List.nil_append, Option.map_some, Option.map_none, Option.bind_some, List.map_cons, List.map_nil, if_true, if_false, Nat.reduceEqDiff, Int.reduceEq, Nat.reduceAdd, Nat.reduceMul, reduceCtorEq, eq_self, Int.reduceLT, Int.reduceLE, Int.reduceToNat, List.length_cons, List.length_nil, List.all_cons, List.all_nil, List.take_zero, List.drop_nil, List.append_nil, List.getElem?_cons_zero, List.getElem?_cons_succ, List.drop_succ_cons, List.drop_zero, List.take_succ_cons, List.cons_append, Nat.reduceLeDiff, Int.cast_ofNat_Int, hm, hlw]
theorem c_Steps {H0 H : AHeap} {m t : Nat} {w : List Int} {a st : Int} (hM : MS H0 H m t w a st) : cw Try.prog (tabF tab) om1 30 [.pointer (some ⟨m, 0, none⟩)] H = some (.int .i64 st, H) := by
  rw [cw_run (F := F_match_Match__Steps) rfl rfl rfl]
  unfold F_match_Match__Steps k_match_Match__Steps
  obtain ⟨vw, ver, hm, hv, hvf⟩ := hM.hm
  simp only [WA, isStore, isCall, isK, freshI, stampO, List.nil_append, Option.map_some, Option.map_none, Option.bind_some, List.map_cons, List.map_nil, if_true, if_false, Nat.reduceEqDiff, Int.reduceEq, Nat.reduceAdd, Nat.reduceMul, reduceCtorEq, eq_self, Int.reduceLT, Int.reduceLE, Int.reduceToNat, List.length_cons, List.length_nil, List.all_cons, List.all_nil, List.take_zero, List.drop_nil, List.append_nil, List.getElem?_cons_zero, List.getElem?_cons_succ, List.drop_succ_cons, List.drop_zero, List.take_succ_cons, List.cons_append, Nat.reduceLeDiff, Int.cast_ofNat_Int, hm]
/-- What a call takes off all that waits. -/
def takeW (L : List Rl) (e : Bool) (w : List Int) (a st : Int) : List Tok × List Int × Int × Int := takeF L e w.length w a st
theorem c_take {H0 H : AHeap} {m t : Nat} {L : List Rl} {e : Bool} {w : List Int} {a st : Int} (hT : TrieOk H0 t L) (hM : MS H0 H m t w a st) (ha : 0 ≤ a ∧ a + w.length < 1000000000) (hst : 0 ≤ st ∧ st + w.length * w.length < 1000000000) (hw1 : w.length < 10000) :
    Gives (cw Try.prog (tabF tab) om1 38 [.pointer (some ⟨m, 0, none⟩), .bool e] H) fun v H' => MS H0 H' m t (takeW L e w a st).2.1 (takeW L e w a st).2.2.1 (takeW L e w a st).2.2.2 ∧ OwnToks Try.prog H' 39 v (takeW L e w a st).1 ∧ From H.n v ∧ AncB H.n H' 39 v ∧ H.n ≤ H'.n ∧ ∀ j, j < H.n → j ≠ m → H'.get j = H.get j := by
  rw [cw_run (F := F_match_Match__take) rfl rfl rfl]
  unfold F_match_Match__take k_match_Match__take
  obtain ⟨vw, ver, hm, _⟩ := hM.hm
  obtain ⟨y, e', H', r1, rfl, r3, r4, r5, r6, r7, r8⟩ := l_take (e := e) hT (AHeap.lt_of_get hm) hM.ext.1 w.length w a st H (.slice none 0 0) [] (Nat.le_refl _) hM OwnRws.nil trivial AncB.nil (Nat.le_refl _) (fun j _ _ => rfl) ha hst (by simp only [List.length_nil]; omega) hw1
  rw [List.nil_append] at r4
  simp only [WA, isStore, isCall, isK, freshI, stampO, List.nil_append, Option.map_some, Option.map_none, Option.bind_some, List.map_cons, List.map_nil, if_true, if_false, Nat.reduceEqDiff, Int.reduceEq, Nat.reduceAdd, Nat.reduceMul, reduceCtorEq, eq_self, Int.reduceLT, Int.reduceLE, Int.reduceToNat, List.length_cons, List.length_nil, List.all_cons, List.all_nil, List.take_zero, List.drop_nil, List.append_nil, List.getElem?_cons_zero, List.getElem?_cons_succ, List.drop_succ_cons, List.drop_zero, List.take_succ_cons, List.cons_append, Nat.reduceLeDiff, Int.cast_ofNat_Int]
  rw [w_enter]
  simp only [WA, isStore, isCall, isK, freshI, stampO, List.nil_append, Option.map_some, Option.map_none, Option.bind_some, List.map_cons, List.map_nil, if_true, if_false, Nat.reduceEqDiff, Int.reduceEq, Nat.reduceAdd, Nat.reduceMul, reduceCtorEq, eq_self, Int.reduceLT, Int.reduceLE, Int.reduceToNat, List.length_cons, List.length_nil, List.all_cons, List.all_nil, List.take_zero, List.drop_nil, List.append_nil, List.getElem?_cons_zero, List.getElem?_cons_succ, List.drop_succ_cons, List.drop_zero, List.take_succ_cons, List.cons_append, Nat.reduceLeDiff, Int.cast_ofNat_Int, r1]
  exact ⟨r3, r4, r5, r6, r7, r8⟩
theorem c_End {H0 H : AHeap} {m t : Nat} {L : List Rl} {w : List Int} {a st : Int} (hT : TrieOk H0 t L) (hM : MS H0 H m t w a st) (ha : 0 ≤ a ∧ a + w.length < 1000000000) (hst : 0 ≤ st ∧ st + w.length * w.length < 1000000000) (hw1 : w.length < 10000) :
    Gives (cw Try.prog (tabF tab) om1 26 [.pointer (some ⟨m, 0, none⟩)] H) fun v H' => MS H0 H' m t (takeW L true w a st).2.1 (takeW L true w a st).2.2.1 (takeW L true w a st).2.2.2 ∧ OwnToks Try.prog H' 39 v (takeW L true w a st).1 ∧ From H.n v ∧ Kx H H' := by
  rw [cw_run (F := F_match_Match__End) rfl rfl rfl]
  unfold F_match_Match__End k_match_Match__End
  obtain ⟨vw, ver, hm, _⟩ := hM.hm
  obtain ⟨v, H', c1, r3, r4, r5, r6, r7, r8⟩ := c_take (e := true) hT hM ha hst hw1
  simp only [WA, isStore, isCall, isK, freshI, stampO, List.nil_append, Option.map_some, Option.map_none, Option.bind_some, List.map_cons, List.map_nil, if_true, if_false, Nat.reduceEqDiff, Int.reduceEq, Nat.reduceAdd, Nat.reduceMul, reduceCtorEq, eq_self, Int.reduceLT, Int.reduceLE, Int.reduceToNat, List.length_cons, List.length_nil, List.all_cons, List.all_nil, List.take_zero, List.drop_nil, List.append_nil, List.getElem?_cons_zero, List.getElem?_cons_succ, List.drop_succ_cons, List.drop_zero, List.take_succ_cons, List.cons_append, Nat.reduceLeDiff, Int.cast_ofNat_Int, c1]
  exact ⟨r3, r4, r5, Kx.of r7 hm r8⟩
theorem c_Put {H0 H : AHeap} {m t : Nat} {L : List Rl} {w : List Int} {a st u : Int} (hT : TrieOk H0 t L) (hM : MS H0 H m t w a st) (ha : 0 ≤ a ∧ a + (w.length + 1) < 1000000000) (hst : 0 ≤ st ∧ st + (w.length + 1) * (w.length + 1) < 1000000000) (hw1 : w.length + 1 < 10000) :
    Gives (cw Try.prog (tabF tab) om1 25 [.pointer (some ⟨m, 0, none⟩), .int .i64 u] H) fun v H' => MS H0 H' m t (takeW L false (w ++ [u]) a st).2.1 (takeW L false (w ++ [u]) a st).2.2.1 (takeW L false (w ++ [u]) a st).2.2.2 ∧ OwnToks Try.prog H' 39 v (takeW L false (w ++ [u]) a st).1 ∧ From H.n v ∧ Kx H H' := by
  rw [cw_run (F := F_match_Match__Put) rfl rfl rfl]
  unfold F_match_Match__Put k_match_Match__Put
  obtain ⟨vw, ver, hm, hv, hvf⟩ := hM.hm
  have hx1 := Ext.push H ⟨[.int .i64 u], 3, .tip, 0, []⟩
  obtain ⟨v1, H2, m1, m2, m3, m4, m5, m6⟩ := Own.append2 (bytes := 8) (m := 1) (hv.ext hx1) (Sl.new (n := 1) (c := 2) (get_push_self (H := H) (b := ⟨[.int .i64 u], 3, .tip, 0, []⟩)) mem_tip rfl) (by omega) rfl (by omega)
  have n1 : (H.push ⟨[.int .i64 u], 3, .tip, 0, []⟩).n = H.n + 1 := by simp
  rw [n1] at m3 m5 m6
  have hver := appendA_ver m1
  have hml := AHeap.lt_of_get hm
  have hvm : NotAt vw m := hv.notAt_elem hm (by simp only; decide)
  have gm1 := hx1.get hm
  have gm2 : H2.get m = some ⟨[.pointer (some ⟨t, 0, none⟩), vw, .int .i64 a, .int .i64 st], 77, .tip, ver, []⟩ := by rw [m6 m (by omega) hvm]; exact gm1
  have hs1 := m2.sl
  obtain ⟨⟨a1, c1, rfl⟩, _⟩ := hs1
  have gm3 := upd_self (c := ⟨[.pointer (some ⟨t, 0, none⟩), .slice a1 (w.length + 1) c1, .int .i64 a, .int .i64 st], 77, .tip, ver + 1, []⟩) gm2
  obtain ⟨H3, hH3⟩ : ∃ H3, H3 = H2.upd m ⟨[.pointer (some ⟨t, 0, none⟩), .slice a1 (w.length + 1) c1, .int .i64 a, .int .i64 st], 77, .tip, ver + 1, []⟩ := ⟨_, rfl⟩
  rw [← hH3] at gm3
  have n3 : H3.n = H2.n := by rw [hH3]; simp
  have k3 : ∀ j, j ≠ m → H3.get j = H2.get j := fun j hj => by rw [hH3]; exact upd_other gm2 hj
  have hints : ints w ++ [.int .i64 u] = ints (w ++ [u]) := by simp [ints]
  rw [hints] at m2
  have hx0 : Ext H0 H3 := ⟨by have := hM.ext.1; omega, fun j hj => by
    have := hM.mB
    rw [k3 j (by omega), m6 j (by have := hM.ext.1; omega) (NotAt.of_from hvf hj), hx1.2 j (by have := hM.ext.1; omega), hM.ext.2 j hj]⟩
  have hlw : (w ++ [u]).length = w.length + 1 := by simp
  have hM3 : MS H0 H3 m t (w ++ [u]) a st := ⟨hM.mB, hx0, .slice a1 (w.length + 1) c1, ver + 1, gm3, by
    rw [hlw]
    exact m2.move fun i b hi he => by
      rw [k3 i (fun e => by subst e; rw [gm2] at hi; injection hi with hi; subst hi; revert he; simp only; decide)]; exact hi, m3.mono (by have := hM.ext.1; omega)⟩
  obtain ⟨v, H', cT, r3, r4, r5, r6, r7, r8⟩ := c_take (e := false) hT hM3 (by rw [hlw]; omega) (by rw [hlw]; push_cast; exact hst) (by rw [hlw]; omega)
  have hkx : Kx H H3 := ⟨by omega, fun j b hj he => by
    have hjl := AHeap.lt_of_get hj
    have hjm : j ≠ m := fun e => by subst e; rw [hm] at hj; injection hj with hj; subst hj; exact he rfl
    have hj1 := hx1.get hj
    refine ⟨fun hi => ?_, ?_⟩
    · rw [k3 j hjm, m6 j (by omega) (hv.notAt_elem hj hi)]
      exact hj1
    · obtain ⟨b', e1, _, e2, _⟩ := hver.2 _ _ hj1
      refine ⟨b', by rw [k3 j hjm]; exact e1, e2, fun hmm => ?_⟩
      obtain ⟨b2, f1, f2, f3⟩ := m4 _ _ hj1 hmm
      rw [e1] at f1
      injection f1 with f1
      subst f1
      exact ⟨f2, f3⟩⟩
  simp only [WA, isStore, isCall, isK, freshI, stampO, List.nil_append, Option.map_some, Option.map_none, Option.bind_some, List.map_cons, List.map_nil, if_true, if_false, Nat.reduceEqDiff, Int.reduceEq, Nat.reduceAdd, Nat.reduceMul, reduceCtorEq, eq_self, Int.reduceLT, Int.reduceLE, Int.reduceToNat, List.length_cons, List.length_nil, List.all_cons, List.all_nil, List.take_zero, List.drop_nil, List.append_nil, List.getElem?_cons_zero, List.getElem?_cons_succ, List.drop_succ_cons, List.drop_zero, List.take_succ_cons, List.cons_append, Nat.reduceLeDiff, Int.cast_ofNat_Int, hm, gm1, gm2, m1, v_int1, ← hH3, cT]
  exact ⟨r3, r4, r5.mono (by omega), hkx.trans (Kx.of r7 gm3 r8)⟩
end Go.Proofs.Ythnccfmmeaeibaa

/-! What the matcher takes: plain laws. -/
set_option linter.unusedSimpArgs false
set_option linter.unusedVariables false
namespace Go.Proofs.Ythnccfmmeaeibaa
open Go Lon
/-- Behind units after which no more may come, more units change nothing. -/
theorem lgs_more {L : List Rl} (hR : Right L) {w r : List Int} (ho : (lgs L w).2.2 = false) : (lgs L (w ++ r)).1 = (lgs L w).1 ∧ (lgs L (w ++ r)).2.1 = (lgs L w).2.1 := by
  obtain ⟨⟨a1, a2, a3, a4⟩, a5⟩ := lgs_pre hR w
  refine (lgs_pre hR (w ++ r)).1.uniq ⟨by rw [List.length_append]; omega, a2, fun h => ?_, fun m h1 h2 => ?_⟩
  · rw [List.take_append_of_le_length a1]
    exact a3 h
  · rcases Nat.lt_or_ge w.length m with hl | hl
    · rcases (by omega : fnd L ((w ++ r).take m) < 0 ∨ 0 ≤ fnd L ((w ++ r).take m)) with h0 | h0
      · exact h0
      · obtain ⟨x, hx, he⟩ := fnd_some h0
        have hop : (lgs L w).2.2 = true := a5.2 ⟨x, List.mem_of_getElem? hx, by rw [he, List.length_take]; omega, by
          rw [he, List.take_append, List.take_of_length_le (by omega)]
          exact List.prefix_append _ _⟩
        rw [ho] at hop
        cases hop
    · rw [List.take_append_of_le_length hl]
      exact a4 m h1 hl
theorem oneT_more {L : List Rl} (hR : Right L) {w r : List Int} {a : Int} (ho : (lgs L w).2.2 = false) : oneT L (w ++ r) a = oneT L w a := by
  obtain ⟨h1, h2⟩ := lgs_more hR (r := r) ho
  unfold oneT
  rw [h1, h2]
/-- What a take leaves. -/
theorem takeF_bd {L : List Rl} (hR : Right L) {e : Bool} : ∀ (c : Nat) (w : List Int) (a st : Int), ∃ n : Nat, n ≤ w.length ∧ (takeF L e c w a st).2.1 = w.drop n ∧ (takeF L e c w a st).2.2.1 = a + n ∧ st ≤ (takeF L e c w a st).2.2.2 ∧ (takeF L e c w a st).2.2.2 ≤ st + w.length * w.length ∧ (takeF L e c w a st).1.length ≤ n ∧ (w.length ≤ 8 → (takeF L e c w a st).2.2.2 ≤ st + 8 * n + 8) := by
  intro c
  induction c with
  | zero => intro w a st; exact ⟨0, Nat.zero_le _, rfl, by simp [takeF], Int.le_refl _, by simp only [takeF]; have := Int.mul_nonneg (Int.natCast_nonneg w.length) (Int.natCast_nonneg w.length); omega, Nat.zero_le _, fun _ => by simp only [takeF]; omega⟩
  | succ c ih =>
    intro w a st
    rw [takeF_succ]
    have hnn := Int.mul_nonneg (Int.natCast_nonneg w.length) (Int.natCast_nonneg w.length)
    split
    · exact ⟨0, Nat.zero_le _, rfl, by simp, Int.le_refl _, by simp only; omega, Nat.zero_le _, fun _ => by simp only; omega⟩
    · rename_i hne
      have hpos := List.length_pos_iff.2 hne
      have hsq0 : w.length ≤ w.length * w.length := Nat.le_mul_of_pos_left _ hpos
      split
      · exact ⟨0, Nat.zero_le _, rfl, by simp, by simp only; omega, by simp only; rw [← Int.natCast_mul]; omega, Nat.zero_le _, fun _ => by simp only; omega⟩
      · obtain ⟨n, en, n1, n2⟩ := oneT_len hR hne a
        rw [en, Int.toNat_natCast]
        obtain ⟨k, k1, k2, k3, k4, k5, k6, k7⟩ := ih (w.drop n) (a + n) (st + w.length)
        rw [List.length_drop] at k1 k5 k7
        have hsq : w.length + (w.length - n) * (w.length - n) ≤ w.length * w.length := by
          have e1 : (w.length - n) * (w.length - n) ≤ (w.length - n) * w.length := Nat.mul_le_mul_left _ (Nat.sub_le _ _)
          have e2 : (w.length - n + 1) * w.length ≤ w.length * w.length := Nat.mul_le_mul_right _ (by omega)
          rw [Nat.succ_mul] at e2
          omega
        refine ⟨n + k, by omega, by rw [k2, List.drop_drop], by rw [k3]; omega, by simp only; omega, ?_, by simp only [List.length_cons]; omega, fun h8 => ?_⟩
        · simp only
          rw [← Int.natCast_mul] at k5 ⊢
          omega
        · have := k7 (by omega)
          simp only
          omega
/-- What is taken, and what all are. -/
theorem takeF_all {L : List Rl} (hR : Right L) {e : Bool} {r : List Int} (hr : e = true → r = []) : ∀ (c : Nat) (w : List Int) (a st : Int), allU L (w ++ r) a = (takeF L e c w a st).1 ++ allU L ((takeF L e c w a st).2.1 ++ r) (takeF L e c w a st).2.2.1 := by
  intro c
  induction c with
  | zero => intro w a st; rfl
  | succ c ih =>
    intro w a st
    rw [takeF_succ]
    split
    · rfl
    · rename_i hne
      split
      · rfl
      · rename_i hop
        have hone : oneT L (w ++ r) a = oneT L w a := by
          cases e with
          | true => rw [hr rfl, List.append_nil]
          | false => exact oneT_more hR (by cases h : (lgs L w).2.2 <;> simp_all)
        obtain ⟨n, en, n1, n2⟩ := oneT_len hR hne a
        rw [allU_cons hR (by simp [hne]), hone, en, Int.toNat_natCast, List.drop_append_of_le_length n2, ih (w.drop n) (a + n) (st + w.length)]
        rfl
/-- What waits behind a take is open, or nothing. -/
theorem takeF_open {L : List Rl} (hR : Right L) {e : Bool} : ∀ (c : Nat) (w : List Int) (a st : Int), w.length ≤ c → (takeF L e c w a st).2.1 = [] ∨ (e = false ∧ (lgs L (takeF L e c w a st).2.1).2.2 = true) := by
  intro c
  induction c with
  | zero => intro w a st h; left; exact List.length_eq_zero_iff.1 (by simpa [takeF] using h)
  | succ c ih =>
    intro w a st h
    rw [takeF_succ]
    split
    · left; assumption
    · rename_i hne
      split
      · rename_i hop; exact .inr ⟨hop.2, hop.1⟩
      · obtain ⟨n, en, n1, n2⟩ := oneT_len hR hne a
        rw [en, Int.toNat_natCast]
        exact ih _ _ _ (by rw [List.length_drop]; omega)
theorem open_len {L : List Rl} (hR : Right L) {w : List Int} (h : (lgs L w).2.2 = true) : w.length ≤ 7 ∧ ∃ r ∈ L, w.length < r.1.length := by
  obtain ⟨r, h1, h2, _⟩ := (lgs_pre hR w).2.1 h
  have := (side_len (hR.1 r h1).1).2
  exact ⟨by omega, r, h1, h2⟩
/-- Units fed one by one. -/
def feed (L : List Rl) : List Int → List Tok × List Int × Int × Int → List Tok × List Int × Int × Int
  | [], s => s
  | u :: us, s => feed L us (s.1 ++ (takeW L false (s.2.1 ++ [u]) s.2.2.1 s.2.2.2).1, (takeW L false (s.2.1 ++ [u]) s.2.2.1 s.2.2.2).2)
/-- What waits is no longer than a rule. -/
structure Wt (L : List Rl) (w : List Int) : Prop where
  is : w = [] ∨ (lgs L w).2.2 = true
theorem Wt.len {L : List Rl} (hR : Right L) {w : List Int} (h : Wt L w) : w.length ≤ 7 := by
  rcases h.is with rfl | h
  · exact Nat.zero_le _
  · exact (open_len hR h).1
theorem Wt.put {L : List Rl} (hR : Right L) {w : List Int} {u a st : Int} : Wt L (takeW L false (w ++ [u]) a st).2.1 := ⟨by
  rcases takeF_open hR (e := false) (w ++ [u]).length (w ++ [u]) a st (Nat.le_refl _) with h | h
  · exact .inl h
  · exact .inr h.2⟩
theorem put_bd {L : List Rl} (hR : Right L) {w : List Int} {u a st : Int} (hw : Wt L w) : (takeW L false (w ++ [u]) a st).2.2.1 + (takeW L false (w ++ [u]) a st).2.1.length = a + w.length + 1 ∧ a ≤ (takeW L false (w ++ [u]) a st).2.2.1 ∧ st ≤ (takeW L false (w ++ [u]) a st).2.2.2 ∧ (takeW L false (w ++ [u]) a st).2.2.2 + 8 * a ≤ st + 8 * (takeW L false (w ++ [u]) a st).2.2.1 + 8 ∧ ((takeW L false (w ++ [u]) a st).1.length : Int) + a ≤ (takeW L false (w ++ [u]) a st).2.2.1 := by
  have hl := hw.len hR
  obtain ⟨n, n1, n2, n3, n4, n5, n6, n7⟩ := takeF_bd hR (e := false) (w ++ [u]).length (w ++ [u]) a st
  have hlen : (w ++ [u]).length = w.length + 1 := by simp
  have h7 := n7 (by omega)
  unfold takeW
  rw [n2, n3, List.length_drop]
  refine ⟨by omega, by omega, n4, by omega, by omega⟩
theorem end_is {L : List Rl} (hR : Right L) {w : List Int} {a st : Int} : (takeW L true w a st).1 = allU L w a ∧ (takeW L true w a st).2.1 = [] ∧ (takeW L true w a st).2.2.1 = a + w.length := by
  have h1 := takeF_all hR (e := true) (r := []) (fun _ => rfl) w.length w a st
  have h2 : (takeF L true w.length w a st).2.1 = [] := by
    rcases takeF_open hR (e := true) w.length w a st (Nat.le_refl _) with h | h
    · exact h
    · cases h.1
  obtain ⟨n, n1, n2, n3, _⟩ := takeF_bd hR (e := true) w.length w a st
  rw [List.append_nil, List.append_nil, h2, allU_nil, List.append_nil] at h1
  rw [h2] at n2
  have := congrArg List.length n2
  rw [List.length_drop, List.length_nil] at this
  exact ⟨h1.symm, h2, by unfold takeW; rw [n3]; omega⟩
theorem feed_all {L : List Rl} (hR : Right L) : ∀ (us : List Int) (s : List Tok × List Int × Int × Int), Wt L s.2.1 → (feed L us s).1 ++ allU L (feed L us s).2.1 (feed L us s).2.2.1 = s.1 ++ allU L (s.2.1 ++ us) s.2.2.1 ∧ (feed L us s).2.2.1 + (feed L us s).2.1.length = s.2.2.1 + s.2.1.length + us.length ∧ Wt L (feed L us s).2.1
  | [], s, h => by unfold feed; rw [List.append_nil]; exact ⟨rfl, by simp, h⟩
  | u :: us, s, h => by
    unfold feed
    obtain ⟨h1, h2, h3⟩ := feed_all hR us (s.1 ++ (takeW L false (s.2.1 ++ [u]) s.2.2.1 s.2.2.2).1, (takeW L false (s.2.1 ++ [u]) s.2.2.1 s.2.2.2).2) (Wt.put hR)
    refine ⟨?_, ?_, h3⟩
    · rw [h1, List.append_assoc]
      congr 1
      have := takeF_all hR (e := false) (r := us) (fun h => by cases h) (s.2.1 ++ [u]).length (s.2.1 ++ [u]) s.2.2.1 s.2.2.2
      rw [List.append_assoc, List.singleton_append] at this
      exact this.symm
    · have := (put_bd hR (u := u) (a := s.2.2.1) (st := s.2.2.2) h).1
      rw [h2, List.length_cons]
      simp only at this ⊢
      omega
end Go.Proofs.Ythnccfmmeaeibaa

/-! Units fed to a matcher, and what comes of them gathered. -/
set_option linter.unusedSimpArgs false
set_option linter.unusedVariables false
namespace Go.Proofs.Ythnccfmmeaeibaa
open Go Lon
set_option maxRecDepth 100000
structure FS (H0 H : AHeap) (m t : Nat) (out : Value) (L : List Rl) (K : Int) (i : Nat) (s : List Tok × List Int × Int × Int) : Prop where
  ms : MS H0 H m t s.2.1 s.2.2.1 s.2.2.2
  own : OwnToks Try.prog H 39 out s.1
  frm : From H0.n out
  wt : Wt L s.2.1
  a0 : 0 ≤ s.2.2.1
  an : s.2.2.1 + s.2.1.length = i
  st0 : 0 ≤ s.2.2.2
  stn : s.2.2.2 ≤ 8 * s.2.2.1 + 8 * i + K
  tn : (s.1.length : Int) ≤ s.2.2.1
def nxt (L : List Rl) (u : Int) (s : List Tok × List Int × Int × Int) : List Tok × List Int × Int × Int := (s.1 ++ (takeW L false (s.2.1 ++ [u]) s.2.2.1 s.2.2.2).1, (takeW L false (s.2.1 ++ [u]) s.2.2.1 s.2.2.2).2)
theorem feed_cons {L : List Rl} {u : Int} {us : List Int} {s : List Tok × List Int × Int × Int} : feed L (u :: us) s = feed L us (nxt L u s) := rfl
theorem gather {H0 H H1 : AHeap} {m t : Nat} {out v : Value} {T T' : List Tok} {w : List Int} {a st : Int} (hown : OwnToks Try.prog H 39 out T) (hf : From H0.n out) (hM : MS H0 H1 m t w a st) (hv : OwnToks Try.prog H1 39 v T') (hk : Kx H H1) (hn : T.length + T'.length < 1000000) :
    ∃ v2 H2, appendA H1 out v 39 4 48 = some (v2, H2) ∧ MS H0 H2 m t w a st ∧ OwnToks Try.prog H2 39 v2 (T ++ T') ∧ From H0.n v2 := by
  have hown1 := OwnToks.kx hk hown
  obtain ⟨v2, H2, m1, m2, m3, m4, m5, m6⟩ := hown1.append tokQ_mono (bytes := 48) hv.rws (fun _ => hv.rws.ones) (by omega) (by omega)
  refine ⟨v2, H2, m1, hM.move ⟨by have := hM.ext.1; omega, fun j hj => by rw [m6 j (by have := hM.ext.1; omega) (NotAt.of_from hf hj), hM.ext.2 j hj]⟩ (fun j b hj he => ?_), m2, ?_⟩
  · obtain ⟨q0, cs, q1, q2⟩ := hown1
    rw [m6 j (AHeap.lt_of_get hj) (q1.notAt_elem hj he)]
    exact hj
  · rcases m3 with h | rfl
    · exact h.mono hM.ext.1
    · exact hf
theorem FS.put {H0 H : AHeap} {m t : Nat} {out : Value} {L : List Rl} {K : Int} {i : Nat} {s : List Tok × List Int × Int × Int} {u : Int} (hT : TrieOk H0 t L) (h : FS H0 H m t out L K i s) (hi : i < 1000) (hK : 0 ≤ K ∧ K < 10000) :
    ∃ v H1 v2 H2, cw Try.prog (tabF tab) om1 25 [.pointer (some ⟨m, 0, none⟩), .int .i64 u] H = some (v, H1) ∧ appendA H1 out v 39 4 48 = some (v2, H2) ∧ FS H0 H2 m t v2 L K (i + 1) (nxt L u s) := by
  obtain ⟨T, w, a, st⟩ := s
  obtain ⟨h1, h2, h3, h4, h5, h6, h7, h8, h9⟩ := h
  simp only at h1 h2 h4 h5 h6 h7 h8 h9
  have hl := h4.len hT.right
  have hsq : ((w.length : Int) + 1) * ((w.length : Int) + 1) ≤ 8 * 8 := Int.mul_le_mul (by omega) (by omega) (by omega) (by omega)
  obtain ⟨v, H1, c1, r1, r2, r3, r4⟩ := c_Put (u := u) hT h1 (by omega) (by omega) (by omega)
  obtain ⟨b1, b2, b3, b4, b5⟩ := put_bd hT.right (u := u) (a := a) (st := st) h4
  obtain ⟨v2, H2, m1, m2, m3, m4⟩ := gather h2 h3 r1 r2 r4 (by omega)
  refine ⟨v, H1, v2, H2, c1, m1, m2, m3, m4, Wt.put hT.right, ?_, ?_, ?_, ?_, ?_⟩ <;> unfold nxt <;> simp only [List.length_append, Int.natCast_add] <;> omega
theorem FS.finish {H0 H : AHeap} {m t : Nat} {out : Value} {L : List Rl} {K : Int} {i : Nat} {s : List Tok × List Int × Int × Int} (hT : TrieOk H0 t L) (h : FS H0 H m t out L K i s) (hi : i < 1000) (hK : 0 ≤ K ∧ K < 10000) :
    ∃ v H1 v2 H2, cw Try.prog (tabF tab) om1 26 [.pointer (some ⟨m, 0, none⟩)] H = some (v, H1) ∧ appendA H1 out v 39 4 48 = some (v2, H2) ∧ ∃ st', FS H0 H2 m t v2 L (K + 8) i (s.1 ++ allU L s.2.1 s.2.2.1, [], (i : Int), st') := by
  obtain ⟨T, w, a, st⟩ := s
  obtain ⟨h1, h2, h3, h4, h5, h6, h7, h8, h9⟩ := h
  simp only at h1 h2 h4 h5 h6 h7 h8 h9
  have hl := h4.len hT.right
  have hsq : (w.length : Int) * (w.length : Int) ≤ 8 * 8 := Int.mul_le_mul (by omega) (by omega) (by omega) (by omega)
  obtain ⟨v, H1, c1, r1, r2, r3, r4⟩ := c_End hT h1 (by omega) (by omega) (by omega)
  obtain ⟨e1, e2, e3⟩ := end_is hT.right (w := w) (a := a) (st := st)
  obtain ⟨n, n1, n2, n3, n4, n5, n6, n7⟩ := takeF_bd hT.right (e := true) w.length w a st
  have hal := allU_len hT.right w.length w a (Nat.le_refl _)
  rw [e1] at r2
  rw [e2, e3] at r1
  have h77 : (takeW L true w a st).2.2.2 ≤ st + 8 * n + 8 := n7 (by omega)
  have h44 : st ≤ (takeW L true w a st).2.2.2 := n4
  have hn : n = w.length := by
    have h33 : (takeW L true w a st).2.2.1 = a + n := n3
    omega
  rw [h6] at r1
  obtain ⟨v2, H2, m1, m2, m3, m4⟩ := gather h2 h3 r1 r2 r4 (by omega)
  refine ⟨v, H1, v2, H2, c1, m1, (takeW L true w a st).2.2.2, m2, m3, m4, ⟨.inl rfl⟩, ?_, ?_, ?_, ?_, ?_⟩ <;> simp only [List.length_append, Int.natCast_add, List.length_nil, Int.natCast_zero] <;> omega
end Go.Proofs.Ythnccfmmeaeibaa

/-! Units fed to a matcher, what comes of them left. -/
set_option linter.unusedSimpArgs false
set_option linter.unusedVariables false
namespace Go.Proofs.Ythnccfmmeaeibaa
open Go Lon
set_option maxRecDepth 100000
structure GS (H0 H : AHeap) (m t : Nat) (L : List Rl) (i : Nat) (w : List Int) (a st : Int) : Prop where
  ms : MS H0 H m t w a st
  wt : Wt L w
  a0 : 0 ≤ a
  an : a + w.length = i
  st0 : 0 ≤ st
  stn : st ≤ 8 * a + 8 * i
theorem GS.put {H0 H : AHeap} {m t : Nat} {L : List Rl} {i : Nat} {w : List Int} {a st u : Int} (hT : TrieOk H0 t L) (h : GS H0 H m t L i w a st) (hi : i < 1000) :
    ∃ v H1, cw Try.prog (tabF tab) om1 25 [.pointer (some ⟨m, 0, none⟩), .int .i64 u] H = some (v, H1) ∧ OwnToks Try.prog H1 39 v (takeW L false (w ++ [u]) a st).1 ∧ GS H0 H1 m t L (i + 1) (takeW L false (w ++ [u]) a st).2.1 (takeW L false (w ++ [u]) a st).2.2.1 (takeW L false (w ++ [u]) a st).2.2.2 ∧ Kx H H1 := by
  obtain ⟨h1, h4, h5, h6, h7, h8⟩ := h
  have hl := h4.len hT.right
  have hsq : ((w.length : Int) + 1) * ((w.length : Int) + 1) ≤ 8 * 8 := Int.mul_le_mul (by omega) (by omega) (by omega) (by omega)
  obtain ⟨v, H1, c1, r1, r2, r3, r4⟩ := c_Put (u := u) hT h1 (by omega) (by omega) (by omega)
  obtain ⟨b1, b2, b3, b4, b5⟩ := put_bd hT.right (u := u) (a := a) (st := st) h4
  exact ⟨v, H1, c1, r2, ⟨r1, Wt.put hT.right, by omega, by omega, by omega, by omega⟩, r4⟩
theorem GS.start {H H1 : AHeap} {t m : Nat} {L : List Rl} (h : MS H H1 m t [] 0 0) : GS H H1 m t L 0 [] 0 0 := ⟨h, ⟨.inl rfl⟩, Int.le_refl _, rfl, Int.le_refl _, by decide⟩
theorem GS.ext {H0 H H' : AHeap} {m t : Nat} {L : List Rl} {i : Nat} {w : List Int} {a st : Int} (h : GS H0 H m t L i w a st) (hx : Ext H H') : GS H0 H' m t L i w a st := ⟨h.ms.ext' hx, h.wt, h.a0, h.an, h.st0, h.stn⟩
theorem lg_mem {L : List Rl} {r : Rl} (h : r ∈ L) : r.1.length ≤ lg L 0 := by
  induction L with
  | nil => cases h
  | cons x L ih =>
    unfold lg
    rw [lg_max]
    rcases List.mem_cons.1 h with rfl | h
    · omega
    · have := ih h; omega
/-- What waits, told by units alone: the end of those that came. -/
theorem put_suffix {L : List Rl} (hR : Right L) {w us : List Int} {u a st : Int} {i : Nat} (hw : w = (us.take i).drop (i - w.length)) (hl : w.length ≤ i) (hi : i < us.length) (hu : us[i]? = some u) : (takeW L false (w ++ [u]) a st).2.1 = (us.take (i + 1)).drop (i + 1 - (takeW L false (w ++ [u]) a st).2.1.length) ∧ (takeW L false (w ++ [u]) a st).2.1.length ≤ i + 1 := by
  obtain ⟨n, n1, n2, _⟩ := takeF_bd hR (e := false) (w ++ [u]).length (w ++ [u]) a st
  have hlen : (w ++ [u]).length = w.length + 1 := by simp
  have e1 : w ++ [u] = (us.take (i + 1)).drop (i - w.length) := by
    rw [List.take_add_one, hu, List.drop_append_of_le_length (by rw [List.length_take]; omega), ← hw]
    rfl
  unfold takeW
  rw [n2, List.length_drop]
  refine ⟨?_, by omega⟩
  have e2 : i + 1 - ((w ++ [u]).length - n) = i - w.length + n := by omega
  rw [e2, ← List.drop_drop, ← e1]
end Go.Proofs.Ythnccfmmeaeibaa

/-! The matcher, where what waits lies in no block below B. -/
set_option linter.unusedSimpArgs false
set_option linter.unusedVariables false
namespace Go.Proofs.Ythnccfmmeaeibaa
open Go Lon
set_option maxRecDepth 100000
/-- A matcher at block m, its units in no block below B: what waits, where it begins, the steps. -/
structure MSW (H0 : AHeap) (B : Nat) (H : AHeap) (m t : Nat) (w : List Int) (a st : Int) : Prop where
  mB : H0.n ≤ m
  ext : Ext H0 H
  hB : H0.n ≤ B
  hm : ∃ vw ver, H.get m = some ⟨[.pointer (some ⟨t, 0, none⟩), vw, .int .i64 a, .int .i64 st], 77, .tip, ver, []⟩ ∧ Own H 3 1 vw w.length (ints w) ∧ From B vw
set_option maxHeartbeats 1600000 in
theorem l_takeW {H0 Hs : AHeap} {B m t : Nat} {L : List Rl} {e : Bool} (hT : TrieOk H0 t L) (hms : m < Hs.n) (h0s : H0.n ≤ Hs.n) (hBs : B ≤ Hs.n) : ∀ (c : Nat) (w : List Int) (a st : Int) (H : AHeap) (out : Value) (T : List Tok), w.length ≤ c → MSW H0 B H m t w a st → OwnToks Try.prog H 39 out T → From Hs.n out → AncB Hs.n H 39 out → Hs.n ≤ H.n → (∀ j, j < Hs.n → j ≠ m → H.get j = Hs.get j) → 0 ≤ a ∧ a + w.length < 1000000000 → 0 ≤ st ∧ st + w.length * w.length < 1000000000 → T.length + w.length < 1000000 → w.length < 10000 →
    Out (run Try.prog (tabF tab) om1 (.loop [0, 1, 5] b_match_Match__take_0) [(0, .pointer (some ⟨m, 0, none⟩)), (1, .bool e), (5, out)] H) fun y e' H' => y = .exit 0 ∧ MSW H0 B H' m t (takeF L e c w a st).2.1 (takeF L e c w a st).2.2.1 (takeF L e c w a st).2.2.2 ∧ OwnToks Try.prog H' 39 (eget e' 5) (T ++ (takeF L e c w a st).1) ∧ From Hs.n (eget e' 5) ∧ AncB Hs.n H' 39 (eget e' 5) ∧ Hs.n ≤ H'.n ∧ (∀ j, j < Hs.n → j ≠ m → H'.get j = Hs.get j) := by
  intro c
  induction c with
  | zero =>
    intro w a st H out T hw hM ho hf hA hn hk ha hst hTl hw1
    have : w = [] := List.length_eq_zero_iff.1 (by omega)
    subst this
    obtain ⟨vw, ver, hm, hv, hvf⟩ := hM.hm
    have hlw := hv.sl.len (H2 := H)
    have z0 : ((0 : Int) > 0) = False := by simp
    simp only [List.length_nil] at hlw
    rw [w_loop_b b_match_Match__take_0.eq_1]
    simp only [WA, isStore, isCall, isK, freshI, stampO, List.nil_append, Option.map_some, Option.map_none, Option.bind_some, List.map_cons, List.map_nil, if_true, if_false, Nat.reduceEqDiff, Int.reduceEq, Nat.reduceAdd, Nat.reduceMul, reduceCtorEq, eq_self, Int.reduceLT, Int.reduceLE, Int.reduceToNat, List.length_cons, List.length_nil, List.all_cons, List.all_nil, List.take_zero, List.drop_nil, List.append_nil, List.getElem?_cons_zero, List.getElem?_cons_succ, List.drop_succ_cons, List.drop_zero, List.take_succ_cons, List.cons_append, Nat.reduceLeDiff, Int.cast_ofNat_Int, hm, hlw, z0]
    unfold takeF
    simp only [List.append_nil]
    exact ⟨hM, ho, hf, hA, hn, hk⟩
  | succ c ih =>
    intro w a st H out T hw hM ho hf hA hn hk ha hst hTl hw1
    obtain ⟨vw, ver, hm, hv, hvf⟩ := hM.hm
    have hlw := fun H2 => hv.sl.len (H2 := H2)
    rw [takeF_succ]
    by_cases hne : w = []
    · subst hne
      have z0 : ((0 : Int) > 0) = False := by simp
      simp only [List.length_nil] at hlw
      rw [w_loop_b b_match_Match__take_0.eq_1, if_pos rfl]
      simp only [WA, isStore, isCall, isK, freshI, stampO, List.nil_append, Option.map_some, Option.map_none, Option.bind_some, List.map_cons, List.map_nil, if_true, if_false, Nat.reduceEqDiff, Int.reduceEq, Nat.reduceAdd, Nat.reduceMul, reduceCtorEq, eq_self, Int.reduceLT, Int.reduceLE, Int.reduceToNat, List.length_cons, List.length_nil, List.all_cons, List.all_nil, List.take_zero, List.drop_nil, List.append_nil, List.getElem?_cons_zero, List.getElem?_cons_succ, List.drop_succ_cons, List.drop_zero, List.take_succ_cons, List.cons_append, Nat.reduceLeDiff, Int.cast_ofNat_Int, hm, hlw, z0]
      exact ⟨hM, ho, hf, hA, hn, hk⟩
    · rw [if_neg hne]
      have hpos := List.length_pos_iff.2 hne
      have z0 : ((w.length : Int) > 0) = True := by simp; omega
      have cL := c_LongT (hT.ext hM.ext) hv.sl (by unfold Lon.tiny; omega)
      have hws : IntKind.i64.wrap (st + w.length) = st + w.length := wrap64 (by omega) (by have : w.length ≤ w.length * w.length := Nat.le_mul_of_pos_left _ hpos; omega)
      have hm3 : (77 : TypeId) ≠ 3 := by decide
      have hm39 : (77 : TypeId) ≠ 39 := by decide
      have hmb : m < H.n := by omega
      obtain ⟨H1, hH1⟩ : ∃ H1, H1 = H.upd m ⟨[.pointer (some ⟨t, 0, none⟩), vw, .int .i64 a, .int .i64 (st + w.length)], 77, .tip, ver + 1, []⟩ := ⟨_, rfl⟩
      have g1 : H1.get m = some ⟨[.pointer (some ⟨t, 0, none⟩), vw, .int .i64 a, .int .i64 (st + w.length)], 77, .tip, ver + 1, []⟩ := by rw [hH1]; exact upd_self hm
      have hn1 : H1.n = H.n := by rw [hH1]; simp
      have k1 : ∀ j, j ≠ m → H1.get j = H.get j := fun j hj => by rw [hH1]; exact upd_other hm hj
      have hv1 : Own H1 3 1 vw w.length (ints w) := hv.move fun i b hi he => by
        rw [k1 i (fun e => by subst e; rw [hm] at hi; injection hi with hi; subst hi; exact absurd he hm3)]; exact hi
      have ho1 : OwnToks Try.prog H1 39 out T := by
        obtain ⟨q0, cs, q1, q2⟩ := ho
        refine ⟨q0, cs, q1.move fun i b hi he => ?_, fun k r hr => tokQ_elem (el := 77) (s := 4) (by kernel_rfl) (by decide) (fun j b hj he => ?_) (q2 k r hr)⟩
        · rw [k1 i (fun e => by subst e; rw [hm] at hi; injection hi with hi; subst hi; exact absurd he hm39)]; exact hi
        · rw [k1 j (fun e => by subst e; rw [hm] at hj; injection hj with hj; subst hj; exact he rfl)]; exact hj
      have hver1 : VerLe H H1 := by rw [hH1]; exact VerLe.upd hm (Nat.le_succ ver) rfl (fun e => by simp only at e; omega)
      have ho_m : NotAt out m := by
        obtain ⟨q0, cs, q1, q2⟩ := ho
        exact q1.notAt_elem hm hm39
      have hA1 : AncB Hs.n H1 39 out := hA.move hver1 fun i b hi hna => by
        rw [k1 i (fun e => by subst e; exact hna ho_m)]; exact hi
      have hx1 : Ext H0 H1 := ⟨by rw [hn1]; exact hM.ext.1, fun j hj => by rw [k1 j (by have := hM.mB; omega)]; exact hM.ext.2 j hj⟩
      have hwsq : w.length ≤ w.length * w.length := Nat.le_mul_of_pos_left _ hpos
      by_cases hop : (lgs L w).2.2 = true ∧ e = false
      · rw [if_pos hop]
        obtain ⟨o1, rfl⟩ := hop
        rw [o1] at cL
        rw [w_loop_b b_match_Match__take_0.eq_1]
        simp only [WA, isStore, isCall, isK, freshI, stampO, List.nil_append, Option.map_some, Option.map_none, Option.bind_some, List.map_cons, List.map_nil, if_true, if_false, Nat.reduceEqDiff, Int.reduceEq, Nat.reduceAdd, Nat.reduceMul, reduceCtorEq, eq_self, Int.reduceLT, Int.reduceLE, Int.reduceToNat, List.length_cons, List.length_nil, List.all_cons, List.all_nil, List.take_zero, List.drop_nil, List.append_nil, List.getElem?_cons_zero, List.getElem?_cons_succ, List.drop_succ_cons, List.drop_zero, List.take_succ_cons, List.cons_append, Nat.reduceLeDiff, Int.cast_ofNat_Int, hm, hlw, z0, cL, hws, ← hH1]
        exact ⟨⟨hM.mB, hx1, hM.hB, vw, ver + 1, g1, hv1, hvf⟩, ho1, hf, hA1, by omega, fun j hj hjm => by rw [k1 j hjm]; exact hk j hj hjm⟩
      · rw [if_neg hop]
        obtain ⟨n, en, n1, n2⟩ := oneT_len hT.right hne a
        generalize hu : oneT L w a = u at *
        rw [en, Int.toNat_natCast]
        have hsq : w.length + (w.length - n) * (w.length - n) ≤ w.length * w.length := by
          have e1 : (w.length - n) * (w.length - n) ≤ (w.length - n) * w.length := Nat.mul_le_mul_left _ (Nat.sub_le _ _)
          have e2 : (w.length - n + 1) * w.length ≤ w.length * w.length := Nat.mul_le_mul_right _ (by omega)
          rw [Nat.succ_mul] at e2
          omega
        have hwn : (w.drop n).length = w.length - n := List.length_drop
        have hwa : IntKind.i64.wrap (a + n) = a + n := wrap64 (by omega) (by omega)
        have tail : ∀ {H3 : AHeap} {p : Option Addr} {cc : Nat}, Ext H1 H3 → H3.get H1.n = some ⟨tokC p cc u, 39, .tip, 2, []⟩ → tokQ Try.prog H3 (tokC p cc u) u → ∃ (v' : Value) (H5 : AHeap) (vw' : Value) (a2 : Option Addr) (c2 : Nat) (H6 H7 H8 : AHeap), appendA (H3.push ⟨tokC p cc u, 39, .tip, 0, []⟩) out (.slice (some ⟨H3.n, 0, none⟩) 1 2) 39 4 48 = some (v', H5) ∧
            H5.get m = some ⟨[.pointer (some ⟨t, 0, none⟩), vw, .int .i64 a, .int .i64 (st + w.length)], 77, .tip, ver + 1, []⟩ ∧ H5.get H1.n = some ⟨tokC p cc u, 39, .tip, 2, []⟩ ∧ vSlice (P := Try.prog) vw (some (.int .i64 n)) none 1 H5 = some (vw', H5) ∧ appendA H5 (.slice none 0 0) vw' 3 1 8 = some (.slice a2 (w.drop n).length c2, H6) ∧ H6.get m = some ⟨[.pointer (some ⟨t, 0, none⟩), vw, .int .i64 a, .int .i64 (st + w.length)], 77, .tip, ver + 1, []⟩ ∧ H6.get H1.n = some ⟨tokC p cc u, 39, .tip, 2, []⟩ ∧
            H7 = H6.upd m ⟨[.pointer (some ⟨t, 0, none⟩), (.slice a2 (w.drop n).length c2), .int .i64 a, .int .i64 (st + w.length)], 77, .tip, ver + 1 + 1, []⟩ ∧ H7.get m = some ⟨[.pointer (some ⟨t, 0, none⟩), (.slice a2 (w.drop n).length c2), .int .i64 a, .int .i64 (st + w.length)], 77, .tip, ver + 1 + 1, []⟩ ∧ H7.get H1.n = some ⟨tokC p cc u, 39, .tip, 2, []⟩ ∧ H8 = H7.upd m ⟨[.pointer (some ⟨t, 0, none⟩), (.slice a2 (w.drop n).length c2), .int .i64 (a + n), .int .i64 (st + w.length)], 77, .tip, ver + 1 + 1 + 1, []⟩ ∧
            MSW H0 B H8 m t (w.drop n) (a + n) (st + w.length) ∧ OwnToks Try.prog H8 39 v' (T ++ [u]) ∧ From Hs.n v' ∧ AncB Hs.n H8 39 v' ∧ Hs.n ≤ H8.n ∧ ∀ j, j < Hs.n → j ≠ m → H8.get j = Hs.get j := by
          intro H3 p cc x3 g3 t3
          have x4 := Ext.push H3 ⟨tokC p cc u, 39, .tip, 0, []⟩
          have g4 := get_push_self (H := H3) (b := ⟨tokC p cc u, 39, .tip, 0, []⟩)
          obtain ⟨v', H5, m1, m2, m3, m4, m5, m6⟩ := (ho1.ext tokQ_mono (x3.trans x4)).push tokQ_mono (bytes := 48) (c := 2) g4 rfl (tokQ_mono x4.kp t3) tokC_one (by omega) (by omega)
          have hn4 : (H3.push ⟨tokC p cc u, 39, .tip, 0, []⟩).n = H3.n + 1 := by simp
          have x3n := x3.1
          rw [hn4] at m3 m5 m6
          have gm3 := x3.get g1
          have gm5 : H5.get m = some ⟨[.pointer (some ⟨t, 0, none⟩), vw, .int .i64 a, .int .i64 (st + w.length)], 77, .tip, ver + 1, []⟩ := by rw [m6 m (by omega) ho_m, get_push_lt (by omega)]; exact gm3
          have hoN : NotAt out H1.n := ho1.notAt (Nat.le_refl _)
          have hlt3 := AHeap.lt_of_get g3
          have gt5 : H5.get H1.n = some ⟨tokC p cc u, 39, .tip, 2, []⟩ := by rw [m6 _ (by omega) hoN, get_push_lt hlt3]; exact g3
          have hv5 : Own H5 3 1 vw w.length (ints w) := (hv1.ext (x3.trans x4)).move fun i b hi he => by
            have hil := AHeap.lt_of_get hi
            rw [hn4] at hil
            obtain ⟨q0, cs, q1, q2⟩ := ho1.ext tokQ_mono (x3.trans x4)
            rw [m6 i hil (q1.notAt_elem hi (by rw [he]; decide))]
            exact hi
          obtain ⟨vw', s1, s2, s3⟩ := Ints.drop (P := Try.prog) (l := w) hv5.sl (hv5.cut (by kernel_rfl)) n2
          obtain ⟨v2, H6, w1, w2, w3, w4, w5⟩ := app_own (el := 3) s2 (by rw [hwn]; omega)
          have w3' := w3
          obtain ⟨⟨a2, c2, rfl⟩, _⟩ := w3'.sl
          have gm6 := w2.get gm5
          have gt6 := w2.get gt5
          have hmN : H1.n ≠ m := by omega
          have gm7 := upd_self (c := ⟨[.pointer (some ⟨t, 0, none⟩), (.slice a2 (w.drop n).length c2), .int .i64 a, .int .i64 (st + w.length)], 77, .tip, ver + 1 + 1, []⟩) gm6
          have gm8 := upd_self (c := ⟨[.pointer (some ⟨t, 0, none⟩), (.slice a2 (w.drop n).length c2), .int .i64 (a + n), .int .i64 (st + w.length)], 77, .tip, ver + 1 + 1 + 1, []⟩) gm7
          have k8 : ∀ j, j ≠ m → ((H6.upd m ⟨[.pointer (some ⟨t, 0, none⟩), (.slice a2 (w.drop n).length c2), .int .i64 a, .int .i64 (st + w.length)], 77, .tip, ver + 1 + 1, []⟩).upd m ⟨[.pointer (some ⟨t, 0, none⟩), (.slice a2 (w.drop n).length c2), .int .i64 (a + n), .int .i64 (st + w.length)], 77, .tip, ver + 1 + 1 + 1, []⟩).get j = H6.get j := fun j hj => by rw [upd_other gm7 hj, upd_other gm6 hj]
          have n5 := w2.1
          have n8 : ((H6.upd m ⟨[.pointer (some ⟨t, 0, none⟩), (.slice a2 (w.drop n).length c2), .int .i64 a, .int .i64 (st + w.length)], 77, .tip, ver + 1 + 1, []⟩).upd m ⟨[.pointer (some ⟨t, 0, none⟩), (.slice a2 (w.drop n).length c2), .int .i64 (a + n), .int .i64 (st + w.length)], 77, .tip, ver + 1 + 1 + 1, []⟩).n = H6.n := by simp
          have hd8 : ∀ j b, H6.get j = some b → b.elem ≠ 77 → ((H6.upd m ⟨[.pointer (some ⟨t, 0, none⟩), (.slice a2 (w.drop n).length c2), .int .i64 a, .int .i64 (st + w.length)], 77, .tip, ver + 1 + 1, []⟩).upd m ⟨[.pointer (some ⟨t, 0, none⟩), (.slice a2 (w.drop n).length c2), .int .i64 (a + n), .int .i64 (st + w.length)], 77, .tip, ver + 1 + 1 + 1, []⟩).get j = some b := fun j b hj he => by
            rw [k8 j (fun e => by subst e; rw [gm6] at hj; injection hj with hj; subst hj; exact he rfl)]; exact hj
          have hv68 : VerLe H6 ((H6.upd m ⟨[.pointer (some ⟨t, 0, none⟩), (.slice a2 (w.drop n).length c2), .int .i64 a, .int .i64 (st + w.length)], 77, .tip, ver + 1 + 1, []⟩).upd m ⟨[.pointer (some ⟨t, 0, none⟩), (.slice a2 (w.drop n).length c2), .int .i64 (a + n), .int .i64 (st + w.length)], 77, .tip, ver + 1 + 1 + 1, []⟩) := (VerLe.upd (b' := ⟨[.pointer (some ⟨t, 0, none⟩), (.slice a2 (w.drop n).length c2), .int .i64 a, .int .i64 (st + w.length)], 77, .tip, ver + 1 + 1, []⟩) gm6 (Nat.le_succ _) rfl (fun e => by simp only at e; omega)).trans (VerLe.upd (b' := ⟨[.pointer (some ⟨t, 0, none⟩), (.slice a2 (w.drop n).length c2), .int .i64 (a + n), .int .i64 (st + w.length)], 77, .tip, ver + 1 + 1 + 1, []⟩) gm7 (Nat.le_succ _) rfl (fun e => by simp only at e; omega))
          have low : ∀ j, j < Hs.n → j ≠ m → ((H6.upd m ⟨[.pointer (some ⟨t, 0, none⟩), (.slice a2 (w.drop n).length c2), .int .i64 a, .int .i64 (st + w.length)], 77, .tip, ver + 1 + 1, []⟩).upd m ⟨[.pointer (some ⟨t, 0, none⟩), (.slice a2 (w.drop n).length c2), .int .i64 (a + n), .int .i64 (st + w.length)], 77, .tip, ver + 1 + 1 + 1, []⟩).get j = Hs.get j := fun j hj hjm => by
            rw [k8 j hjm, w2.2 j (by omega), m6 j (by omega) (NotAt.of_from hf hj), get_push_lt (by omega), x3.2 j (by omega), k1 j hjm, hk j hj hjm]
          refine ⟨v', H5, vw', a2, c2, H6, _, _, m1, gm5, gt5, s1 .i64, w1, gm6, gt6, rfl, gm7, by rw [upd_other gm6 hmN]; exact gt6, rfl, ⟨hM.mB, ⟨by rw [n8]; omega, fun j hj => ?_⟩, hM.hB, .slice a2 (w.drop n).length c2, _, gm8, w3.move fun i b hi he => hd8 i b hi (by rw [he]; decide), w4.mono (by omega)⟩, ?_, m3.mono (by omega), ?_, by rw [n8]; omega, low⟩
          · have hmB := hM.mB
            rw [low j (by omega) (by omega), ← hk j (by omega) (by omega)]
            exact hM.ext.2 j hj
          · obtain ⟨q0, cs, q1, q2⟩ := m2.ext tokQ_mono w2
            exact ⟨q0, cs, q1.move fun i b hi he => hd8 i b hi (by rw [he]; decide), fun k r hr => tokQ_elem (el := 77) (s := 4) (by kernel_rfl) (by decide) hd8 (q2 k r hr)⟩
          · refine ((appendA_anc m1 hf ((hA1.ext x3).ext x4)).ext w2).move hv68 fun i b hi hna => ?_
            have hne2 : b.elem ≠ 77 := fun e => hna (by
              obtain ⟨q0, cs, q1, q2⟩ := m2.ext tokQ_mono w2
              exact q1.notAt_elem hi (by rw [e]; decide))
            exact hd8 i b hi hne2
        have hopn : ((lgs L w).2.2 && !e) = false := by
          cases h1 : (lgs L w).2.2 <;> cases h2 : e <;> simp_all
        have fin : ∀ {H8 : AHeap} {v' : Value}, MSW H0 B H8 m t (w.drop n) (a + n) (st + w.length) → OwnToks Try.prog H8 39 v' (T ++ [u]) → From Hs.n v' → AncB Hs.n H8 39 v' → Hs.n ≤ H8.n → (∀ j, j < Hs.n → j ≠ m → H8.get j = Hs.get j) → _ := fun {H8 v'} b1 b2 b3 b4 b5 b6 => ih (w.drop n) (a + n) (st + w.length) H8 v' (T ++ [u]) (by omega) b1 b2 b3 b4 b5 b6 (by rw [hwn]; omega) (by rw [hwn]; omega) (by rw [hwn, List.length_append, List.length_singleton]; omega) (by omega)
        obtain ⟨H2, hH2⟩ : ∃ H2, H2 = H1.push ⟨[.int .i64 a, .int .i64 n, .slice none 0 0, .int .i64 0], 39, .tip, 1, []⟩ := ⟨_, rfl⟩
        have x2 : Ext H1 H2 := by rw [hH2]; exact Ext.push H1 _
        have g2 : H2.get H1.n = some ⟨[.int .i64 a, .int .i64 n, .slice none 0 0, .int .i64 0], 39, .tip, 1, []⟩ := by rw [hH2]; exact get_push_self
        have gm2 := x2.get g1
        rcases oneT_is hT.right hne a with ⟨q1, q0⟩ | ⟨k, nn, r, q1, q2, q3, q4, q5, q6, q7, q8, q9⟩
        · rw [hu] at q1
          have en1 : n = 1 := by rw [q1] at en; simp only at en; omega
          subst en1
          have hmax : (if ((lgs L w).2.1 : Int) > 1 then ((lgs L w).2.1 : Int) else 1) = ((1 : Nat) : Int) := by rw [lgs_neg hT.right q0]; rfl
          obtain ⟨v', H5, vw', a2, c2, H6, H7, H8, f1, f2, f3, f4, f5, f6, f7, f8, f9, f10, f11, f12, f13, f14, f15, f16, f17⟩ := tail (H3 := H2.upd H1.n ⟨tokC none 0 u, 39, .tip, 2, []⟩) (Ext.upd x2 g2 (Nat.le_refl _)) (upd_self g2) ⟨none, 0, by rw [q1]; rfl, by rw [q1]; exact Sl.nil _ 1, by rw [q1]; exact (by decide : (0 : Nat) < 4611686018427387904), by rw [q1]; trivial⟩
          have e3 : tokC none 0 u = [.int .i64 a, .int .i64 1, .slice none 0 0, .int .i64 3] := by rw [q1]; rfl
          rw [e3] at f1 f3 f7 f10
          obtain ⟨H3, hH3⟩ : ∃ H3, H3 = H2.upd H1.n ⟨[.int .i64 a, .int .i64 1, .slice none 0 0, .int .i64 3], 39, .tip, 2, []⟩ := ⟨_, rfl⟩
          rw [← hH3] at f1
          have g3 : H3.get H1.n = some ⟨[.int .i64 a, .int .i64 1, .slice none 0 0, .int .i64 3], 39, .tip, 2, []⟩ := by rw [hH3]; exact upd_self g2
          have hmax' : (if ((lgs L w).2.1 : Int) > 1 then ((lgs L w).2.1 : Int) else 1) = 1 := hmax
          have hH2' : H2 = H1.push ⟨[.int .i64 a, .int .i64 1, .slice none 0 0, .int .i64 0], 39, .tip, 1, []⟩ := hH2
          have g2' : H2.get H1.n = some ⟨[.int .i64 a, .int .i64 1, .slice none 0 0, .int .i64 0], 39, .tip, 1, []⟩ := g2
          have f4' : vSlice (P := Try.prog) vw (some (.int .i64 1)) none 1 H5 = some (vw', H5) := f4
          have hwa' : IntKind.i64.wrap (a + 1) = a + 1 := hwa
          have hc1 : ((1 : Nat) : Int) = 1 := rfl
          rw [hc1] at f11
          obtain ⟨y, e', H', r1, r2, r3, r4, r5, r6, r7, r8⟩ := fin f12 f13 f14 f15 f16 f17
          rw [List.append_assoc] at r4
          have hcase : (lgs L w).2.2 = false ∨ ((lgs L w).2.2 = true ∧ e = true) := by
            cases h1 : (lgs L w).2.2 <;> cases h2 : e <;> simp_all
          rcases hcase with h1 | ⟨h1, rfl⟩ <;>
          · rw [h1] at cL
            rw [w_loop_b b_match_Match__take_0.eq_1]
            simp only [WA, isStore, isCall, isK, freshI, stampO, List.nil_append, Option.map_some, Option.map_none, Option.bind_some, List.map_cons, List.map_nil, if_true, if_false, Nat.reduceEqDiff, Int.reduceEq, Nat.reduceAdd, Nat.reduceMul, reduceCtorEq, eq_self, Int.reduceLT, Int.reduceLE, Int.reduceToNat, List.length_cons, List.length_nil, List.all_cons, List.all_nil, List.take_zero, List.drop_nil, List.append_nil, List.getElem?_cons_zero, List.getElem?_cons_succ, List.drop_succ_cons, List.drop_zero, List.take_succ_cons, List.cons_append, Nat.reduceLeDiff, Int.cast_ofNat_Int, hm, hlw, z0, cL, hws, ← hH1, g1, hmax', v_mk, ← hH2', g2', q0, ← hH3, g3, v_mk1, f1, f2, f3, f4', f5, f6, f7, ← f8, f9, f10, hwa', ← f11]
            rw [w_enter]
            simp only [WA, isStore, isCall, isK, freshI, stampO, List.nil_append, Option.map_some, Option.map_none, Option.bind_some, List.map_cons, List.map_nil, if_true, if_false, Nat.reduceEqDiff, Int.reduceEq, Nat.reduceAdd, Nat.reduceMul, reduceCtorEq, eq_self, Int.reduceLT, Int.reduceLE, Int.reduceToNat, List.length_cons, List.length_nil, List.all_cons, List.all_nil, List.take_zero, List.drop_nil, List.append_nil, List.getElem?_cons_zero, List.getElem?_cons_succ, List.drop_succ_cons, List.drop_zero, List.take_succ_cons, List.cons_append, Nat.reduceLeDiff, Int.cast_ofNat_Int, r1]
            exact ⟨r2, r3, r4, r5, r6, r7, r8⟩
        · rw [hu] at q9
          have en1 : nn = n := by rw [q9] at en; simp only at en; omega
          subst en1
          have hmax : (if ((lgs L w).2.1 : Int) > 1 then ((lgs L w).2.1 : Int) else 1) = (nn : Int) := by rw [q2]; split <;> omega
          obtain ⟨vo, HO, cO, xO, iO, fO, uO⟩ := c_OutT ((hT.ext hx1).ext x2) q5
          have iO' := iO
          obtain ⟨⟨ao, co, rfl⟩, _⟩ := iO'
          have gO := xO.get g2
          have gmO := xO.get gm2
          obtain ⟨v', H5, vw', a2, c2, H6, H7, H8, f1, f2, f3, f4, f5, f6, f7, f8, f9, f10, f11, f12, f13, f14, f15, f16, f17⟩ := tail (H3 := HO.upd H1.n ⟨tokC ao co u, 39, .tip, 2, []⟩) (Ext.upd (x2.trans xO) gO (Nat.le_refl _)) (upd_self gO) ⟨ao, co, by rw [q9]; rfl, by rw [q9]; exact Ints.upd' iO gO fO (by rw [hH2]; simp), by rw [q9]; unfold Lon.tiny; simp only; omega, by rw [q9]; exact uO.upd gO rfl⟩
          have e3 : tokC ao co u = [.int .i64 a, .int .i64 nn, .slice ao r.2.length co, .int .i64 0] := by rw [q9]; rfl
          rw [e3] at f1 f3 f7 f10
          obtain ⟨H3, hH3⟩ : ∃ H3, H3 = HO.upd H1.n ⟨[.int .i64 a, .int .i64 nn, .slice ao r.2.length co, .int .i64 0], 39, .tip, 2, []⟩ := ⟨_, rfl⟩
          rw [← hH3] at f1
          have g3 : H3.get H1.n = some ⟨[.int .i64 a, .int .i64 nn, .slice ao r.2.length co, .int .i64 0], 39, .tip, 2, []⟩ := by rw [hH3]; exact upd_self gO
          obtain ⟨y, e', H', r1, r2, r3, r4, r5, r6, r7, r8⟩ := fin f12 f13 f14 f15 f16 f17
          rw [List.append_assoc] at r4
          have hcase : (lgs L w).2.2 = false ∨ ((lgs L w).2.2 = true ∧ e = true) := by
            cases h1 : (lgs L w).2.2 <;> cases h2 : e <;> simp_all
          have q0 : ¬ ((k : Int) < 0) := by omega
          rw [q1] at cL
          rcases hcase with h1 | ⟨h1, rfl⟩ <;>
          · rw [h1] at cL
            rw [w_loop_b b_match_Match__take_0.eq_1]
            simp only [WA, isStore, isCall, isK, freshI, stampO, List.nil_append, Option.map_some, Option.map_none, Option.bind_some, List.map_cons, List.map_nil, if_true, if_false, Nat.reduceEqDiff, Int.reduceEq, Nat.reduceAdd, Nat.reduceMul, reduceCtorEq, eq_self, Int.reduceLT, Int.reduceLE, Int.reduceToNat, List.length_cons, List.length_nil, List.all_cons, List.all_nil, List.take_zero, List.drop_nil, List.append_nil, List.getElem?_cons_zero, List.getElem?_cons_succ, List.drop_succ_cons, List.drop_zero, List.take_succ_cons, List.cons_append, Nat.reduceLeDiff, Int.cast_ofNat_Int, hm, hlw, z0, cL, hws, ← hH1, g1, hmax, v_mk, ← hH2, g2, gm2, q0, cO, gO, gmO, ← hH3, g3, v_mk1, f1, f2, f3, f4, f5, f6, f7, ← f8, f9, f10, hwa, ← f11]
            rw [w_enter]
            simp only [WA, isStore, isCall, isK, freshI, stampO, List.nil_append, Option.map_some, Option.map_none, Option.bind_some, List.map_cons, List.map_nil, if_true, if_false, Nat.reduceEqDiff, Int.reduceEq, Nat.reduceAdd, Nat.reduceMul, reduceCtorEq, eq_self, Int.reduceLT, Int.reduceLE, Int.reduceToNat, List.length_cons, List.length_nil, List.all_cons, List.all_nil, List.take_zero, List.drop_nil, List.append_nil, List.getElem?_cons_zero, List.getElem?_cons_succ, List.drop_succ_cons, List.drop_zero, List.take_succ_cons, List.cons_append, Nat.reduceLeDiff, Int.cast_ofNat_Int, r1]
            exact ⟨r2, r3, r4, r5, r6, r7, r8⟩

end Go.Proofs.Ythnccfmmeaeibaa

/-! The matcher, where what waits lies in no block below B. -/
set_option linter.unusedSimpArgs false
set_option linter.unusedVariables false
namespace Go.Proofs.Ythnccfmmeaeibaa
open Go Lon
set_option maxRecDepth 100000
theorem c_takeW {H0 H : AHeap} {B m t : Nat} {L : List Rl} {e : Bool} {w : List Int} {a st : Int} (hT : TrieOk H0 t L) (hBH : B ≤ H.n) (hM : MSW H0 B H m t w a st) (ha : 0 ≤ a ∧ a + w.length < 1000000000) (hst : 0 ≤ st ∧ st + w.length * w.length < 1000000000) (hw1 : w.length < 10000) :
    Gives (cw Try.prog (tabF tab) om1 38 [.pointer (some ⟨m, 0, none⟩), .bool e] H) fun v H' => MSW H0 B H' m t (takeW L e w a st).2.1 (takeW L e w a st).2.2.1 (takeW L e w a st).2.2.2 ∧ OwnToks Try.prog H' 39 v (takeW L e w a st).1 ∧ From H.n v ∧ AncB H.n H' 39 v ∧ H.n ≤ H'.n ∧ ∀ j, j < H.n → j ≠ m → H'.get j = H.get j := by
  rw [cw_run (F := F_match_Match__take) rfl rfl rfl]
  unfold F_match_Match__take k_match_Match__take
  obtain ⟨vw, ver, hm, _⟩ := hM.hm
  obtain ⟨y, e', H', r1, rfl, r3, r4, r5, r6, r7, r8⟩ := l_takeW (e := e) hT (AHeap.lt_of_get hm) hM.ext.1 hBH w.length w a st H (.slice none 0 0) [] (Nat.le_refl _) hM OwnRws.nil trivial AncB.nil (Nat.le_refl _) (fun j _ _ => rfl) ha hst (by simp only [List.length_nil]; omega) hw1
  rw [List.nil_append] at r4
  simp only [WA, isStore, isCall, isK, freshI, stampO, List.nil_append, Option.map_some, Option.map_none, Option.bind_some, List.map_cons, List.map_nil, if_true, if_false, Nat.reduceEqDiff, Int.reduceEq, Nat.reduceAdd, Nat.reduceMul, reduceCtorEq, eq_self, Int.reduceLT, Int.reduceLE, Int.reduceToNat, List.length_cons, List.length_nil, List.all_cons, List.all_nil, List.take_zero, List.drop_nil, List.append_nil, List.getElem?_cons_zero, List.getElem?_cons_succ, List.drop_succ_cons, List.drop_zero, List.take_succ_cons, List.cons_append, Nat.reduceLeDiff, Int.cast_ofNat_Int]
  rw [w_enter]
  simp only [WA, isStore, isCall, isK, freshI, stampO, List.nil_append, Option.map_some, Option.map_none, Option.bind_some, List.map_cons, List.map_nil, if_true, if_false, Nat.reduceEqDiff, Int.reduceEq, Nat.reduceAdd, Nat.reduceMul, reduceCtorEq, eq_self, Int.reduceLT, Int.reduceLE, Int.reduceToNat, List.length_cons, List.length_nil, List.all_cons, List.all_nil, List.take_zero, List.drop_nil, List.append_nil, List.getElem?_cons_zero, List.getElem?_cons_succ, List.drop_succ_cons, List.drop_zero, List.take_succ_cons, List.cons_append, Nat.reduceLeDiff, Int.cast_ofNat_Int, r1]
  exact ⟨r3, r4, r5, r6, r7, r8⟩
theorem c_PutW {H0 H : AHeap} {B m t : Nat} {L : List Rl} {w : List Int} {a st u : Int} (hT : TrieOk H0 t L) (hM : MSW H0 B H m t w a st) (ha : 0 ≤ a ∧ a + (w.length + 1) < 1000000000) (hst : 0 ≤ st ∧ st + (w.length + 1) * (w.length + 1) < 1000000000) (hw1 : w.length + 1 < 10000) :
    Gives (cw Try.prog (tabF tab) om1 25 [.pointer (some ⟨m, 0, none⟩), .int .i64 u] H) fun v H' => MSW H0 H.n H' m t (takeW L false (w ++ [u]) a st).2.1 (takeW L false (w ++ [u]) a st).2.2.1 (takeW L false (w ++ [u]) a st).2.2.2 ∧ OwnToks Try.prog H' 39 v (takeW L false (w ++ [u]) a st).1 ∧ From H.n v ∧ Kx H H' ∧ H.n ≤ H'.n ∧ ∀ vw ver, H.get m = some ⟨[.pointer (some ⟨t, 0, none⟩), vw, .int .i64 a, .int .i64 st], 77, .tip, ver, []⟩ → ∀ j, j < H.n → j ≠ m → NotAt vw j → H'.get j = H.get j := by
  rw [cw_run (F := F_match_Match__Put) rfl rfl rfl]
  unfold F_match_Match__Put k_match_Match__Put
  obtain ⟨vw, ver, hm, hv, hvf⟩ := hM.hm
  have hx1 := Ext.push H ⟨[.int .i64 u], 3, .tip, 0, []⟩
  obtain ⟨v1, H2, m1, m2, m3, m4, m5, m6⟩ := Own.append2 (bytes := 8) (m := 1) (hv.ext hx1) (Sl.new (n := 1) (c := 2) (get_push_self (H := H) (b := ⟨[.int .i64 u], 3, .tip, 0, []⟩)) mem_tip rfl) (by omega) rfl (by omega)
  have n1 : (H.push ⟨[.int .i64 u], 3, .tip, 0, []⟩).n = H.n + 1 := by simp
  rw [n1] at m3 m5 m6
  have hver := appendA_ver m1
  have hml := AHeap.lt_of_get hm
  have hvm : NotAt vw m := hv.notAt_elem hm (by simp only; decide)
  have gm1 := hx1.get hm
  have gm2 : H2.get m = some ⟨[.pointer (some ⟨t, 0, none⟩), vw, .int .i64 a, .int .i64 st], 77, .tip, ver, []⟩ := by rw [m6 m (by omega) hvm]; exact gm1
  have hs1 := m2.sl
  obtain ⟨⟨a1, c1, rfl⟩, _⟩ := hs1
  have gm3 := upd_self (c := ⟨[.pointer (some ⟨t, 0, none⟩), .slice a1 (w.length + 1) c1, .int .i64 a, .int .i64 st], 77, .tip, ver + 1, []⟩) gm2
  obtain ⟨H3, hH3⟩ : ∃ H3, H3 = H2.upd m ⟨[.pointer (some ⟨t, 0, none⟩), .slice a1 (w.length + 1) c1, .int .i64 a, .int .i64 st], 77, .tip, ver + 1, []⟩ := ⟨_, rfl⟩
  rw [← hH3] at gm3
  have n3 : H3.n = H2.n := by rw [hH3]; simp
  have k3 : ∀ j, j ≠ m → H3.get j = H2.get j := fun j hj => by rw [hH3]; exact upd_other gm2 hj
  have hints : ints w ++ [.int .i64 u] = ints (w ++ [u]) := by simp [ints]
  rw [hints] at m2
  have hx0 : Ext H0 H3 := ⟨by have := hM.ext.1; omega, fun j hj => by
    have := hM.mB
    rw [k3 j (by omega), m6 j (by have := hM.ext.1; omega) (NotAt.of_from hvf (Nat.lt_of_lt_of_le hj hM.hB)), hx1.2 j (by have := hM.ext.1; omega), hM.ext.2 j hj]⟩
  have hlw : (w ++ [u]).length = w.length + 1 := by simp
  have hM3 : MSW H0 H.n H3 m t (w ++ [u]) a st := ⟨hM.mB, hx0, hM.ext.1, .slice a1 (w.length + 1) c1, ver + 1, gm3, by
    rw [hlw]
    exact m2.move fun i b hi he => by
      rw [k3 i (fun e => by subst e; rw [gm2] at hi; injection hi with hi; subst hi; revert he; simp only; decide)]; exact hi, m3.mono (by omega)⟩
  obtain ⟨v, H', cT, r3, r4, r5, r6, r7, r8⟩ := c_takeW (e := false) hT (by omega) hM3 (by rw [hlw]; omega) (by rw [hlw]; push_cast; exact hst) (by rw [hlw]; omega)
  have hkx : Kx H H3 := ⟨by omega, fun j b hj he => by
    have hjl := AHeap.lt_of_get hj
    have hjm : j ≠ m := fun e => by subst e; rw [hm] at hj; injection hj with hj; subst hj; exact he rfl
    have hj1 := hx1.get hj
    refine ⟨fun hi => ?_, ?_⟩
    · rw [k3 j hjm, m6 j (by omega) (hv.notAt_elem hj hi)]
      exact hj1
    · obtain ⟨b', e1, _, e2, _⟩ := hver.2 _ _ hj1
      refine ⟨b', by rw [k3 j hjm]; exact e1, e2, fun hmm => ?_⟩
      obtain ⟨b2, f1, f2, f3⟩ := m4 _ _ hj1 hmm
      rw [e1] at f1
      injection f1 with f1
      subst f1
      exact ⟨f2, f3⟩⟩
  simp only [WA, isStore, isCall, isK, freshI, stampO, List.nil_append, Option.map_some, Option.map_none, Option.bind_some, List.map_cons, List.map_nil, if_true, if_false, Nat.reduceEqDiff, Int.reduceEq, Nat.reduceAdd, Nat.reduceMul, reduceCtorEq, eq_self, Int.reduceLT, Int.reduceLE, Int.reduceToNat, List.length_cons, List.length_nil, List.all_cons, List.all_nil, List.take_zero, List.drop_nil, List.append_nil, List.getElem?_cons_zero, List.getElem?_cons_succ, List.drop_succ_cons, List.drop_zero, List.take_succ_cons, List.cons_append, Nat.reduceLeDiff, Int.cast_ofNat_Int, hm, gm1, gm2, m1, v_int1, ← hH3, cT]
  exact ⟨r3, r4, r5.mono (by omega), hkx.trans (Kx.of r7 gm3 r8), by omega, fun vw2 ver2 h2 j hj hjm hnj => by
    injection h2 with h2
    injection h2 with h2
    injection h2 with _ h2
    injection h2 with h2 _
    subst h2
    rw [r8 j (by omega) hjm, k3 j hjm, m6 j (by omega) hnj, hx1.2 j hj]⟩
end Go.Proofs.Ythnccfmmeaeibaa

/-! Layer 6: what waits is told as soon as it is sure. -/
set_option linter.unusedSimpArgs false
set_option linter.unusedVariables false
namespace Go.Proofs.Ythnccfmmeaeibaa
open Go Lon
set_option maxRecDepth 100000
def At (v : Value) (i : Nat) : Prop := ∃ o n c, v = .slice (some ⟨i, o, none⟩) n c
theorem Sl.same {H H' : AHeap} {sz n : Nat} {v : Value} {cs : List Value} (h : Sl H sz v n cs) (hs : ∀ j, At v j → H'.get j = H.get j) : Sl H' sz v n cs := by
  obtain ⟨⟨a, c, rfl⟩, h2⟩ := h
  refine ⟨⟨a, c, rfl⟩, ?_⟩
  rw [← h2]
  cases a with
  | none => cases n <;> cases c <;> rfl
  | some a =>
    obtain ⟨i, o, sp⟩ := a
    cases sp with
    | some s => cases n <;> cases c <;> rfl
    | none =>
      unfold cellsOf
      simp only
      rw [hs i ⟨_, _, _, rfl⟩]
theorem Cut.same {H H' : AHeap} {sz : Nat} {v : Value} (h : Cut Try.prog H v sz) (hs : ∀ j, At v j → H'.get j = H.get j) : Cut Try.prog H' v sz := by
  unfold Cut at h ⊢
  split at h
  · rename_i i o n c
    obtain ⟨b, h1, h2⟩ := h
    exact ⟨b, by rw [hs i ⟨_, _, _, rfl⟩]; exact h1, h2⟩
  · trivial
/-- The end of one's own units, however much was cut off ahead; all in no block below B. -/
def TailI (B : Nat) (H : AHeap) (v : Value) (w : List Int) : Prop := (v = .slice none 0 0 ∧ w = []) ∨ ∃ b o c cells ver anc, v = .slice (some ⟨b, o, none⟩) w.length (c + 1) ∧ H.get b = some ⟨cells, 3, .tip, ver, anc⟩ ∧ o + w.length = cells.length ∧ cells.drop o = ints w ∧ B ≤ b ∧ ∀ x ∈ anc, B ≤ x ∧ x < b
def top (v : Value) : Nat := match v with
  | .slice (some a) _ _ => a.block + 1
  | _ => 0
theorem TailI.sl {B : Nat} {H : AHeap} {v : Value} {w : List Int} (h : TailI B H v w) : Ints H v w := by
  rcases h with ⟨rfl, rfl⟩ | ⟨b, o, c, cells, ver, anc, rfl, hg, h1, h2, _⟩
  · exact Sl.nil H 1
  · refine ⟨⟨_, _, rfl⟩, ?_⟩
    unfold cellsOf
    simp only
    by_cases hw : w.length = 0
    · rw [if_pos hw]
      have : w = [] := List.length_eq_zero_iff.1 hw
      subst this
      rfl
    · rw [if_neg hw, hg]
      simp only
      rw [if_pos ⟨rfl, by omega⟩, h2, Nat.mul_one]
      congr 1
      exact List.take_of_length_le (by simp [ints])
theorem TailI.cut {B : Nat} {H : AHeap} {v : Value} {w : List Int} (h : TailI B H v w) : Cut Try.prog H v 1 := by
  rcases h with ⟨rfl, rfl⟩ | ⟨b, o, c, cells, ver, anc, rfl, hg, h1, h2, _⟩
  · trivial
  · exact ⟨_, hg, by kernel_rfl⟩
theorem TailI.ext {B : Nat} {H H' : AHeap} {v : Value} {w : List Int} (h : TailI B H v w) (hx : Ext H H') : TailI B H' v w := by
  rcases h with h | ⟨b, o, c, cells, ver, anc, h0, hg, h1⟩
  · exact .inl h
  · exact .inr ⟨b, o, c, cells, ver, anc, h0, hx.get hg, h1⟩
theorem TailI.same {B : Nat} {H H' : AHeap} {v : Value} {w : List Int} (h : TailI B H v w) (hs : ∀ j, At v j → H'.get j = H.get j) : TailI B H' v w := by
  rcases h with h | ⟨b, o, c, cells, ver, anc, rfl, hg, h1⟩
  · exact .inl h
  · exact .inr ⟨b, o, c, cells, ver, anc, rfl, by rw [hs b ⟨_, _, _, rfl⟩]; exact hg, h1⟩
theorem TailI.drop {B n : Nat} {H : AHeap} {v : Value} {w : List Int} (h : TailI B H v w) (hn : n ≤ w.length) : ∃ v', (∀ kd : IntKind, vSlice (P := Try.prog) v (some (.int kd n)) none 1 H = some (v', H)) ∧ TailI B H v' (w.drop n) ∧ top v' = top v := by
  rcases h with ⟨rfl, rfl⟩ | ⟨b, o, c, cells, ver, anc, rfl, hg, h1, h2, h3, h4⟩
  · obtain rfl : n = 0 := by simpa using hn
    exact ⟨_, fun kd => rfl, .inl ⟨rfl, rfl⟩, rfl⟩
  · have hi : (Try.prog.info? 3).map (·.size) = some 1 := by kernel_rfl
    refine ⟨.slice (some ⟨b, o + n, none⟩) (w.drop n).length (max (w.length - n) (c - n) + 1), fun kd => ?_, .inr ⟨b, o + n, max (w.length - n) (c - n), cells, ver, anc, rfl, hg, by rw [List.length_drop]; omega, ?_, h3, h4⟩, rfl⟩
    · unfold vSlice
      simp only [bndV, hg, Option.map_some, hi, Option.map_none]
      rw [if_pos ⟨by omega, by omega, by omega, trivial⟩]
      simp [List.length_drop]
    · rw [← List.drop_drop, h2]
      simp [ints, List.map_drop]
theorem TailI.push {B i c0 : Nat} {H : AHeap} {v : Value} {w : List Int} {u : Int} (h : TailI B H v w) (hB : B ≤ H.n) (hx : Ints H (.slice (some ⟨i, 0, none⟩) 1 c0) [u]) (hw : w.length < 1000) :
    ∃ v' H', appendA H v (.slice (some ⟨i, 0, none⟩) 1 c0) 3 1 8 = some (v', H') ∧ TailI B H' v' (w ++ [u]) ∧ top v' = H.n + 1 ∧ H'.n = H.n + 1 ∧ ∀ j, j < H.n → (j < B ∨ top v ≤ j) → H'.get j = H.get j := by
  have hsl := h.sl.2
  have hxc := hx.2
  have hone : (ints [u]).all one = true := by simp [ints, one]
  have hi : ints w ++ ints [u] = ints (w ++ [u]) := by simp [ints]
  rcases h with ⟨rfl, rfl⟩ | ⟨b, o, c, cells, ver, anc, rfl, hg, h1, h2, h3, h4⟩
  · refine ⟨.slice (some ⟨H.n, 0, none⟩) (0 + 1) (0 + 1 + 1), H.push ⟨[] ++ ints [u], 3, .tip, 0, []⟩, ?_, .inr ⟨H.n, 0, 1, _, 0, [], rfl, get_push_self, rfl, rfl, hB, fun x hx => by cases hx⟩, rfl, by simp, fun j hj _ => get_push_lt hj⟩
    unfold appendA
    simp only [hxc, show cellsOf H 1 (.slice none 0 0) = some [] from rfl]
    rw [if_neg (by omega), if_pos ⟨by omega, hone⟩]
  · have hb := AHeap.lt_of_get hg
    by_cases hw0 : w.length = 0
    · have : w = [] := List.length_eq_zero_iff.1 hw0
      subst this
      refine ⟨.slice (some ⟨H.n, 0, none⟩) (0 + 1) (0 + 1 + 1), (killAll H (b :: anc)).push ⟨ints [] ++ ints [u], 3, .tip, 0, []⟩, ?_, ?_, ?_, ?_, ?_⟩
      · unfold appendA
        simp only [List.length_nil] at hsl
        simp only [List.length_nil, hsl, hxc]
        rw [if_neg (by omega), if_pos ⟨by omega, hone⟩, if_neg (by omega), hg]
        simp only
        rw [if_pos ⟨trivial, trivial⟩, if_neg (by omega)]
      · have := get_push_self (H := killAll H (b :: anc)) (b := ⟨ints [] ++ ints [u], 3, .tip, 0, []⟩)
        rw [killAll_n] at this
        exact .inr ⟨H.n, 0, 1, _, 0, [], rfl, this, rfl, rfl, hB, fun x hx => by cases hx⟩
      · rfl
      · rw [AHeap.n_push, killAll_n]
      · intro j hj hor
        rw [get_push_lt (by rw [killAll_n]; exact hj), killAll_get_not]
        intro hm
        unfold top at hor
        simp only at hor
        rcases List.mem_cons.1 hm with rfl | hm
        · omega
        · have := h4 j hm; omega
    · refine ⟨.slice (some ⟨H.n, 0, none⟩) (w.length + 1) (w.length + 1 + 1), (H.upd b ⟨cells, 3, .ret, ver, anc⟩).push ⟨ints w ++ ints [u], 3, .tip, 0, b :: anc⟩, ?_, ?_, ?_, ?_, ?_⟩
      · unfold appendA
        simp only [hsl, hxc]
        rw [if_neg (by omega), if_pos ⟨by omega, hone⟩, if_neg (by omega), hg]
        simp only
        rw [if_pos ⟨trivial, trivial⟩, if_pos ⟨by omega, by omega⟩]
      · have := get_push_self (H := H.upd b ⟨cells, 3, .ret, ver, anc⟩) (b := ⟨ints w ++ ints [u], 3, .tip, 0, b :: anc⟩)
        rw [AHeap.n_upd] at this
        refine .inr ⟨H.n, 0, w.length + 1, _, 0, b :: anc, by simp, this, by simp [ints], by rw [List.drop_zero]; exact hi, hB, fun x hx => ?_⟩
        rcases List.mem_cons.1 hx with rfl | hx
        · exact ⟨h3, hb⟩
        · have := h4 x hx; exact ⟨this.1, by omega⟩
      · rfl
      · rw [AHeap.n_push, AHeap.n_upd]
      · intro j hj hor
        unfold top at hor
        simp only at hor
        rw [get_push_lt (by rw [AHeap.n_upd]; exact hj), AHeap.get_upd hg, if_neg (by rcases hor with h | h <;> omega)]
theorem l_W0 {H0 : AHeap} {B : Nat} {L : List Rl} {z5 z8 z12 z35 z36 z37 : Value} (hR : Right L) (hr : Rules H0 z5 L) (hrc : CutR H0 z5) (hL : L.length < 1000000) : ∀ (c : Nat) (H : AHeap) (v : Value) (w : List Int) (a st : Int) (n : Nat), w.length ≤ c → TailI B H v w → Ext H0 H → w.length < 1000 → 0 ≤ st ∧ st + w.length * w.length < 1000000000 → n + w.length < 1000000 →
    Out (run Try.prog (tabF tab) om1 (.loop [5, 8, 9, 10, 12, 13, 35, 36, 37] b_lontarlaw06_MatchWaits_0) [(5, z5), (8, z8), (9, v), (10, .int .i64 st), (12, z12), (13, .int .i64 n), (35, z35), (36, z36), (37, z37)] H) fun y e' H' => y = .exit 2 ∧ eget e' 5 = z5 ∧ eget e' 8 = z8 ∧ eget e' 12 = z12 ∧ eget e' 35 = z35 ∧ eget e' 36 = z36 ∧ eget e' 37 = z37 ∧ eget e' 10 = .int .i64 (takeF L false c w a st).2.2.2 ∧ eget e' 13 = .int .i64 ((n + (takeF L false c w a st).1.length : Nat) : Int) ∧ TailI B H' (eget e' 9) (takeF L false c w a st).2.1 ∧ top (eget e' 9) = top v ∧ Ext H H' := by
  intro c
  induction c with
  | zero =>
    intro H v w a st n hw hv hx hw1 hst hn
    have : w = [] := List.length_eq_zero_iff.1 (by omega)
    subst this
    have hl := fun H2 => hv.sl.len (H2 := H2)
    have z0 : ((0 : Int) > 0) = False := by simp
    simp only [List.length_nil, Int.cast_ofNat_Int] at hl
    rw [w_loop_b b_lontarlaw06_MatchWaits_0.eq_1, show takeF L false 0 [] a st = ([], [], a, st) from rfl]
    simp only [WA, isStore, isCall, isK, freshI, stampO, List.nil_append, Option.map_some, Option.map_none, Option.bind_some, List.map_cons, List.map_nil, if_true, if_false, Nat.reduceEqDiff, Int.reduceEq, Nat.reduceAdd, Nat.reduceMul, reduceCtorEq, eq_self, Int.reduceLT, Int.reduceLE, Int.reduceToNat, List.length_cons, List.length_nil, List.all_cons, List.all_nil, List.take_zero, List.drop_nil, List.append_nil, List.getElem?_cons_zero, List.getElem?_cons_succ, List.drop_succ_cons, List.drop_zero, List.take_succ_cons, List.cons_append, Nat.reduceLeDiff, Int.cast_ofNat_Int, hl, z0]
    exact ⟨hv, Ext.refl _⟩
  | succ c ih =>
    intro H v w a st n hw hv hx hw1 hst hn
    have hl := fun H2 => hv.sl.len (H2 := H2)
    rw [takeF_succ]
    by_cases hne : w = []
    · subst hne
      have z0 : ((0 : Int) > 0) = False := by simp
      simp only [List.length_nil, Int.cast_ofNat_Int] at hl
      rw [w_loop_b b_lontarlaw06_MatchWaits_0.eq_1, if_pos rfl]
      simp only [WA, isStore, isCall, isK, freshI, stampO, List.nil_append, Option.map_some, Option.map_none, Option.bind_some, List.map_cons, List.map_nil, if_true, if_false, Nat.reduceEqDiff, Int.reduceEq, Nat.reduceAdd, Nat.reduceMul, reduceCtorEq, eq_self, Int.reduceLT, Int.reduceLE, Int.reduceToNat, List.length_cons, List.length_nil, List.all_cons, List.all_nil, List.take_zero, List.drop_nil, List.append_nil, List.getElem?_cons_zero, List.getElem?_cons_succ, List.drop_succ_cons, List.drop_zero, List.take_succ_cons, List.cons_append, Nat.reduceLeDiff, Int.cast_ofNat_Int, hl, z0]
      exact ⟨hv, Ext.refl _⟩
    · rw [if_neg hne]
      have hpos := List.length_pos_iff.2 hne
      have hwsq : w.length ≤ w.length * w.length := Nat.le_mul_of_pos_left _ hpos
      have z0 : ((w.length : Int) > 0) = True := by simp; omega
      obtain ⟨u1, H1, cL, x1, rfl⟩ := c_Doc (us := w) (hr.ext hx) (hrc.ext hx) hv.sl hv.cut hL (by unfold Lon.tiny; omega)
      have e1 : docF w L 0 (-1) 0 false = lgs L w := rfl
      rw [e1] at cL
      have hws : IntKind.i64.wrap (st + w.length) = st + w.length := wrap64 (by omega) (by rw [← Int.natCast_mul] at hst; omega)
      by_cases ho : (lgs L w).2.2 = true
      · rw [if_pos ⟨ho, rfl⟩]
        rw [ho] at cL
        rw [w_loop_b b_lontarlaw06_MatchWaits_0.eq_1]
        simp only [WA, isStore, isCall, isK, freshI, stampO, List.nil_append, Option.map_some, Option.map_none, Option.bind_some, List.map_cons, List.map_nil, if_true, if_false, Nat.reduceEqDiff, Int.reduceEq, Nat.reduceAdd, Nat.reduceMul, reduceCtorEq, eq_self, Int.reduceLT, Int.reduceLE, Int.reduceToNat, List.length_cons, List.length_nil, List.all_cons, List.all_nil, List.take_zero, List.drop_nil, List.append_nil, List.getElem?_cons_zero, List.getElem?_cons_succ, List.drop_succ_cons, List.drop_zero, List.take_succ_cons, List.cons_append, Nat.reduceLeDiff, Int.cast_ofNat_Int, hl, z0, cL, hws]
        exact ⟨hv.ext x1, x1⟩
      · rw [if_neg (fun hh => ho hh.1)]
        have ho' : (lgs L w).2.2 = false := by cases h : (lgs L w).2.2 <;> simp_all
        rw [ho'] at cL
        obtain ⟨m, em, m1, m2⟩ := oneT_len hR hne a
        obtain ⟨v', s1, s2, s3⟩ := (hv.ext x1).drop m2
        have s1' := s1 .i64
        have hsq : w.length + (w.length - m) * (w.length - m) ≤ w.length * w.length := by
          have e1 : (w.length - m) * (w.length - m) ≤ (w.length - m) * w.length := Nat.mul_le_mul_left _ (Nat.sub_le _ _)
          have e2 : (w.length - m + 1) * w.length ≤ w.length * w.length := Nat.mul_le_mul_right _ (by omega)
          rw [Nat.succ_mul] at e2
          omega
        have hwn : (w.drop m).length = w.length - m := List.length_drop
        have hw2 : IntKind.i64.wrap ((n : Int) + 1) = ((n + 1 : Nat) : Int) := by rw [wrap64 (by omega) (by omega)]; omega
        rw [em, Int.toNat_natCast]
        obtain ⟨y, e', H', r1, r2, r3, r4, r5, r6, r7, r8, r9, r10, r11, r12, x2⟩ := ih H1 v' (w.drop m) (a + m) (st + w.length) (n + 1) (by rw [hwn]; omega) s2 (hx.trans x1) (by rw [hwn]; omega) (by rw [hwn]; rw [← Int.natCast_mul] at hst ⊢; omega) (by rw [hwn]; omega)
        have hn13 : n + 1 + (takeF L false c (w.drop m) (a + m) (st + w.length)).1.length = n + ((oneT L w a) :: (takeF L false c (w.drop m) (a + m) (st + w.length)).1).length := by rw [List.length_cons]; omega
        rw [hn13] at r10
        rw [s3] at r12
        have hm0 : (oneT L w a).len = if (lgs L w).1 < 0 then 1 else ((lgs L w).2.1 : Int) := by unfold oneT; split <;> rfl
        by_cases hk : (lgs L w).1 < 0
        · rw [if_pos hk, em] at hm0
          obtain rfl : m = 1 := by omega
          rw [show ((1 : Nat) : Int) = 1 from rfl] at s1'
          rw [w_loop_b b_lontarlaw06_MatchWaits_0.eq_1]
          simp only [WA, isStore, isCall, isK, freshI, stampO, List.nil_append, Option.map_some, Option.map_none, Option.bind_some, List.map_cons, List.map_nil, if_true, if_false, Nat.reduceEqDiff, Int.reduceEq, Nat.reduceAdd, Nat.reduceMul, reduceCtorEq, eq_self, Int.reduceLT, Int.reduceLE, Int.reduceToNat, List.length_cons, List.length_nil, List.all_cons, List.all_nil, List.take_zero, List.drop_nil, List.append_nil, List.getElem?_cons_zero, List.getElem?_cons_succ, List.drop_succ_cons, List.drop_zero, List.take_succ_cons, List.cons_append, Nat.reduceLeDiff, Int.cast_ofNat_Int, hl, z0, cL, hws, hk, s1', hw2]
          rw [w_enter]
          simp only [WA, isStore, isCall, isK, freshI, stampO, List.nil_append, Option.map_some, Option.map_none, Option.bind_some, List.map_cons, List.map_nil, if_true, if_false, Nat.reduceEqDiff, Int.reduceEq, Nat.reduceAdd, Nat.reduceMul, reduceCtorEq, eq_self, Int.reduceLT, Int.reduceLE, Int.reduceToNat, List.length_cons, List.length_nil, List.all_cons, List.all_nil, List.take_zero, List.drop_nil, List.append_nil, List.getElem?_cons_zero, List.getElem?_cons_succ, List.drop_succ_cons, List.drop_zero, List.take_succ_cons, List.cons_append, Nat.reduceLeDiff, Int.cast_ofNat_Int, r1]
          exact ⟨r2, r3, r4, r5, r6, r7, r8, r9, r10, r11, r12, x1.trans x2⟩
        · rw [if_neg hk, em] at hm0
          obtain rfl : m = (lgs L w).2.1 := by omega
          rw [w_loop_b b_lontarlaw06_MatchWaits_0.eq_1]
          simp only [WA, isStore, isCall, isK, freshI, stampO, List.nil_append, Option.map_some, Option.map_none, Option.bind_some, List.map_cons, List.map_nil, if_true, if_false, Nat.reduceEqDiff, Int.reduceEq, Nat.reduceAdd, Nat.reduceMul, reduceCtorEq, eq_self, Int.reduceLT, Int.reduceLE, Int.reduceToNat, List.length_cons, List.length_nil, List.all_cons, List.all_nil, List.take_zero, List.drop_nil, List.append_nil, List.getElem?_cons_zero, List.getElem?_cons_succ, List.drop_succ_cons, List.drop_zero, List.take_succ_cons, List.cons_append, Nat.reduceLeDiff, Int.cast_ofNat_Int, hl, z0, cL, hws, hk, s1', hw2]
          rw [w_enter]
          simp only [WA, isStore, isCall, isK, freshI, stampO, List.nil_append, Option.map_some, Option.map_none, Option.bind_some, List.map_cons, List.map_nil, if_true, if_false, Nat.reduceEqDiff, Int.reduceEq, Nat.reduceAdd, Nat.reduceMul, reduceCtorEq, eq_self, Int.reduceLT, Int.reduceLE, Int.reduceToNat, List.length_cons, List.length_nil, List.all_cons, List.all_nil, List.take_zero, List.drop_nil, List.append_nil, List.getElem?_cons_zero, List.getElem?_cons_succ, List.drop_succ_cons, List.drop_zero, List.take_succ_cons, List.cons_append, Nat.reduceLeDiff, Int.cast_ofNat_Int, r1]
          exact ⟨r2, r3, r4, r5, r6, r7, r8, r9, r10, r11, r12, x1.trans x2⟩
theorem MSW.ms {H0 H : AHeap} {B m t : Nat} {w : List Int} {a st : Int} (h : MSW H0 B H m t w a st) : MS H0 H m t w a st := by
  obtain ⟨vw, ver, h1, h2, h3⟩ := h.hm
  exact ⟨h.mB, h.ext, vw, ver, h1, h2, h3.mono h.hB⟩
theorem MS.nilW {H0 H : AHeap} {B m t : Nat} {a st : Int} (h : MS H0 H m t [] a st) (hB : H0.n ≤ B) : MSW H0 B H m t [] a st := by
  obtain ⟨vw, ver, h1, h2, h3⟩ := h.hm
  refine ⟨h.mB, h.ext, hB, vw, ver, h1, h2, ?_⟩
  obtain ⟨_, ⟨rfl, _⟩ | ⟨b, _, _, _, hn, _⟩⟩ := h2
  · trivial
  · exact absurd hn (by simp)
structure GW (H0 : AHeap) (B1 : Nat) (H : AHeap) (m t : Nat) (L : List Rl) (i : Nat) (w : List Int) (a st : Int) : Prop where
  ms : MSW H0 B1 H m t w a st
  wt : Wt L w
  a0 : 0 ≤ a
  an : a + w.length = i
  st0 : 0 ≤ st
  stn : st ≤ 8 * a + 8 * i
theorem GW.step {H0 Hp H2 : AHeap} {B B1 m t : Nat} {L : List Rl} {i : Nat} {w : List Int} {a st u : Int} (hT : TrieOk H0 t L) (h : GW H0 B1 Hp m t L i w a st) (hi : i < 1000) (h0 : H0.n ≤ B) (hm : m < B) (h1 : B ≤ B1) (hF : ∀ j, j < Hp.n → (j < B ∨ B1 ≤ j) → H2.get j = Hp.get j) (hn : Hp.n ≤ H2.n) :
    ∃ v H3, cw Try.prog (tabF tab) om1 25 [.pointer (some ⟨m, 0, none⟩), .int .i64 u] H2 = some (v, H3) ∧ OwnToks Try.prog H3 39 v (takeW L false (w ++ [u]) a st).1 ∧ GW H0 H2.n H3 m t L (i + 1) (takeW L false (w ++ [u]) a st).2.1 (takeW L false (w ++ [u]) a st).2.2.1 (takeW L false (w ++ [u]) a st).2.2.2 ∧ H2.n ≤ H3.n ∧ ∀ j, j < H2.n → ((j < B ∧ j ≠ m) ∨ Hp.n ≤ j) → H3.get j = H2.get j := by
  obtain ⟨g1, g4, g5, g6, g7, g8⟩ := h
  obtain ⟨vw, ver, k1, k2, k3⟩ := g1.hm
  have hmp := AHeap.lt_of_get k1
  have k1' : H2.get m = some ⟨[.pointer (some ⟨t, 0, none⟩), vw, .int .i64 a, .int .i64 st], 77, .tip, ver, []⟩ := by rw [hF m hmp (.inl hm)]; exact k1
  have k2' : Own H2 3 1 vw w.length (ints w) := by
    obtain ⟨hl, ⟨rfl, e⟩ | ⟨b, vr, anc, rfl, hpos, hg⟩⟩ := k2
    · exact ⟨hl, .inl ⟨rfl, e⟩⟩
    · exact ⟨hl, .inr ⟨b, vr, anc, rfl, hpos, by rw [hF b (AHeap.lt_of_get hg) (.inr k3)]; exact hg⟩⟩
  have hx : Ext H0 H2 := ⟨by have := g1.ext.1; omega, fun j hj => by rw [hF j (by have := g1.ext.1; omega) (.inl (by omega))]; exact g1.ext.2 j hj⟩
  have hl := g4.len hT.right
  have hsq : ((w.length : Int) + 1) * ((w.length : Int) + 1) ≤ 8 * 8 := Int.mul_le_mul (by omega) (by omega) (by omega) (by omega)
  obtain ⟨v, H3, c1, r1, r2, r3, r4, r5, r6⟩ := c_PutW (u := u) hT ⟨g1.mB, hx, g1.hB, vw, ver, k1', k2', k3⟩ (by omega) (by omega) (by omega)
  obtain ⟨b1, b2, b3, b4, b5⟩ := put_bd hT.right (u := u) (a := a) (st := st) g4
  refine ⟨v, H3, c1, r2, ⟨r1, Wt.put hT.right, by omega, by omega, by omega, by omega⟩, r5, fun j hj hor => ?_⟩
  rcases hor with ⟨o1, o2⟩ | o
  · exact r6 vw ver k1' j hj o2 (NotAt.of_from k3 (by omega))
  · exact r6 vw ver k1' j hj (by omega) (k2.notAt o)
theorem l_W1 {H0 : AHeap} {B m t : Nat} {L : List Rl} {z5 x : Value} {us : List Int} (hT : TrieOk H0 t L) (hr : Rules H0 z5 L) (hrc : CutR H0 z5) (hL : L.length < 1000000) (hus : us.length < 100) (h0 : H0.n ≤ B) (hm : m < B) (hxa : ∀ i, At x i → i < B ∧ i ≠ m) : ∀ (c i : Nat) (H : AHeap) (v : Value) (w : List Int) (a st : Int) (B1 : Nat), i + c = us.length → GW H0 B1 H m t L i w a st → TailI B H v w → top v ≤ B1 → B ≤ B1 → B ≤ H.n → Ints H x us → Cut Try.prog H x 1 →
    Out (run Try.prog (tabF tab) om1 (.loop [5, 8, 9, 10, 35, 36, 37] b_lontarlaw06_MatchWaits_1) [(5, z5), (8, .pointer (some ⟨m, 0, none⟩)), (9, v), (10, .int .i64 st), (35, x), (36, .int .i64 us.length), (37, .int .i64 i)] H) fun y e' H' => y = .exit 0 := by
  intro c
  induction c with
  | zero =>
    intro i H v w a st B1 hi hG hv hv1 hB1 hBn hx hxc
    have hlt : ¬ ((i : Int) < us.length) := by omega
    rw [w_loop_b b_lontarlaw06_MatchWaits_1.eq_1]
    simp only [WA, isStore, isCall, isK, freshI, stampO, List.nil_append, Option.map_some, Option.map_none, Option.bind_some, List.map_cons, List.map_nil, if_true, if_false, Nat.reduceEqDiff, Int.reduceEq, Nat.reduceAdd, Nat.reduceMul, reduceCtorEq, eq_self, Int.reduceLT, Int.reduceLE, Int.reduceToNat, List.length_cons, List.length_nil, List.all_cons, List.all_nil, List.take_zero, List.drop_nil, List.append_nil, List.getElem?_cons_zero, List.getElem?_cons_succ, List.drop_succ_cons, List.drop_zero, List.take_succ_cons, List.cons_append, Nat.reduceLeDiff, Int.cast_ofNat_Int, hlt]
  | succ c ih =>
    intro i H v w a st B1 hi hG hv hv1 hB1 hBn hx hxc
    have hlt : (i : Int) < us.length := by omega
    obtain ⟨u, hu, hdu⟩ := drop_at (L := us) (i := i) (by omega)
    obtain ⟨i1, o1, a1, a2⟩ := hx.at hu
    have hR := hT.right
    have hlw := hG.wt.len hR
    obtain ⟨Hb, hHb⟩ : ∃ Hb, Hb = H.push ⟨[.int .i64 u], 3, .tip, 0, []⟩ := ⟨_, rfl⟩
    have xb : Ext H Hb := by rw [hHb]; exact Ext.push H _
    have gb : Hb.get H.n = some ⟨[.int .i64 u], 3, .tip, 0, []⟩ := by rw [hHb]; exact get_push_self
    have nb : Hb.n = H.n + 1 := by rw [hHb, AHeap.n_push]
    have ib : Ints Hb (.slice (some ⟨H.n, 0, none⟩) 1 2) [u] := Sl.new (n := 1) (c := 2) gb mem_tip rfl
    obtain ⟨v1, H2, m1, m2, m3, m4, m5⟩ := (hv.ext xb).push (by omega) ib (by omega)
    have hF2 : ∀ j, j < H.n → (j < B ∨ B1 ≤ j) → H2.get j = H.get j := fun j hj hor => by
      rw [m5 j (by omega) (by rcases hor with h | h; exact .inl h; exact .inr (by omega)), xb.2 j hj]
    have x02 : Ext H0 H2 := ⟨by omega, fun j hj => by rw [hF2 j (by omega) (.inl (by omega))]; exact hG.ms.ext.2 j hj⟩
    have hst0 := hG.st0
    have hstn := hG.stn
    have han := hG.an
    have ha0 := hG.a0
    have hlw1 : (w ++ [u]).length = w.length + 1 := by simp
    have hsq : ((w.length : Int) + 1) * ((w.length : Int) + 1) ≤ 8 * 8 := Int.mul_le_mul (by omega) (by omega) (by omega) (by omega)
    obtain ⟨y, e', H3, r1, rfl, r2, r3, r4, r5, r6, r7, r8, r9, r10, r11, x3⟩ := l_W0 (B := B) (z5 := z5) (z8 := .pointer (some ⟨m, 0, none⟩)) (z12 := .int .i64 u) (z35 := x) (z36 := .int .i64 us.length) (z37 := .int .i64 i) hR hr hrc hL (w ++ [u]).length H2 v1 (w ++ [u]) a st 0 (Nat.le_refl _) m2 x02 (by omega) (by rw [hlw1]; push_cast; omega) (by omega)
    have hF3 : ∀ j, j < H.n → (j < B ∨ B1 ≤ j) → H3.get j = H.get j := fun j hj hor => by rw [x3.2 j (by omega), hF2 j hj hor]
    have x3n := x3.1
    obtain ⟨v4, H4, c4, t4, hG4, n4, f4⟩ := hG.step (H2 := H3) (u := u) hT (by omega) h0 hm hB1 hF3 (by omega)
    have hw2 : IntKind.i64.wrap ((i : Int) + 1) = ((i + 1 : Nat) : Int) := by rw [wrap64 (by omega) (by omega)]; omega
    rw [Nat.zero_add] at r9
    have e1 : takeF L false (w ++ [u]).length (w ++ [u]) a st = takeW L false (w ++ [u]) a st := rfl
    rw [e1] at r8 r9 r10
    generalize takeW L false (w ++ [u]) a st = tk at *
    have tt : top (eget e' 9) = H.n + 2 := by rw [r11, m3, nb]
    have v3' : TailI B H4 (eget e' 9) tk.2.1 := r10.same fun j hj => by
      obtain ⟨o, n, cc, hj⟩ := hj
      rw [hj] at tt
      unfold top at tt
      simp only at tt
      exact f4 j (by omega) (.inr (by omega))
    have hx4 : ∀ j, At x j → H4.get j = H.get j := fun j hj => by
      obtain ⟨q1, q2⟩ := hxa j hj
      rw [f4 j (by omega) (.inl ⟨q1, q2⟩), hF3 j (by omega) (.inl q1)]
    have cH := c_Held hG4.ms.ms
    have cS := c_Steps hG4.ms.ms
    have hl4 := fun H2 => t4.rws.len (H2 := H2)
    have hl9 := fun H2 => v3'.sl.len (H2 := H2)
    obtain ⟨y, e2, H5, s1, s2⟩ := ih (i + 1) H4 (eget e' 9) tk.2.1 tk.2.2.1 tk.2.2.2 H3.n (by omega) hG4 v3' (by omega) (by omega) (by omega) (Sl.same hx hx4) (Cut.same hxc hx4)
    rw [show ((0 : Nat) : Int) = 0 from rfl] at r1
    have z1 : ((tk.1.length : Int) ≠ tk.1.length) = False := by simp
    have z2 : ((tk.2.1.length : Int) ≠ tk.2.1.length) = False := by simp
    have z3 : (tk.2.2.2 ≠ tk.2.2.2) = False := by simp
    rw [w_loop_b b_lontarlaw06_MatchWaits_1.eq_1]
    simp only [WA, isStore, isCall, isK, freshI, stampO, List.nil_append, Option.map_some, Option.map_none, Option.bind_some, List.map_cons, List.map_nil, if_true, if_false, Nat.reduceEqDiff, Int.reduceEq, Nat.reduceAdd, Nat.reduceMul, reduceCtorEq, eq_self, Int.reduceLT, Int.reduceLE, Int.reduceToNat, List.length_cons, List.length_nil, List.all_cons, List.all_nil, List.take_zero, List.drop_nil, List.append_nil, List.getElem?_cons_zero, List.getElem?_cons_succ, List.drop_succ_cons, List.drop_zero, List.take_succ_cons, List.cons_append, Nat.reduceLeDiff, Int.cast_ofNat_Int, hlt, a1, a2, v_int1, ← hHb, m1]
    rw [w_enter]
    simp only [WA, isStore, isCall, isK, freshI, stampO, List.nil_append, Option.map_some, Option.map_none, Option.bind_some, List.map_cons, List.map_nil, if_true, if_false, Nat.reduceEqDiff, Int.reduceEq, Nat.reduceAdd, Nat.reduceMul, reduceCtorEq, eq_self, Int.reduceLT, Int.reduceLE, Int.reduceToNat, List.length_cons, List.length_nil, List.all_cons, List.all_nil, List.take_zero, List.drop_nil, List.append_nil, List.getElem?_cons_zero, List.getElem?_cons_succ, List.drop_succ_cons, List.drop_zero, List.take_succ_cons, List.cons_append, Nat.reduceLeDiff, Int.cast_ofNat_Int, r1, r2, r3, r4, r5, r6, r7, r8, r9, c4, hl4, z1, cH, hl9, z2, cS, z3, hw2]
    rw [w_enter]
    simp only [WA, isStore, isCall, isK, freshI, stampO, List.nil_append, Option.map_some, Option.map_none, Option.bind_some, List.map_cons, List.map_nil, if_true, if_false, Nat.reduceEqDiff, Int.reduceEq, Nat.reduceAdd, Nat.reduceMul, reduceCtorEq, eq_self, Int.reduceLT, Int.reduceLE, Int.reduceToNat, List.length_cons, List.length_nil, List.all_cons, List.all_nil, List.take_zero, List.drop_nil, List.append_nil, List.getElem?_cons_zero, List.getElem?_cons_succ, List.drop_succ_cons, List.drop_zero, List.take_succ_cons, List.cons_append, Nat.reduceLeDiff, Int.cast_ofNat_Int, r2, r3, r5, r6, r8, s1]
    exact s2
theorem law_Waits {a b : Value} {R : List RowD} {l : List Int} {H : AHeap} (ha : RowsAt H a R) (hb : U8s H b l) : Gives (cw Try.prog (tabF tab) om1 11 [a, b] H) fun v H' => v = .bool true := by
  obtain ⟨hb, hbc, hbb, hbt⟩ := hb
  rw [cw_run (F := F_lontarlaw06_MatchWaits) rfl rfl rfl]
  unfold F_lontarlaw06_MatchWaits k_lontarlaw06_MatchWaits
  obtain ⟨v1, H1, t, H2, L, c1, c2, x2, hT, hr, hrc, h40, hR⟩ := start ha
  obtain ⟨vm, H3, c3, x3, rfl, hM⟩ := c_MOf (H := H2) (t := t)
  obtain ⟨w1, H4, c4, x4, y4, z4⟩ := c_Some ((hb.ext x2).ext x3) ((hbc.ext x2).ext x3) hbb hbt
  have hsl := som_len (l := l)
  generalize som l = us at *
  have hl4 := fun H2 => y4.len (H2 := H2)
  obtain ⟨vw, ver, hm, _⟩ := hM.hm
  have hm4 := x4.get hm
  have hmlt := AHeap.lt_of_get hm4
  have hxa : ∀ i, At w1 i → i < H4.n ∧ i ≠ H2.n := fun i ⟨o, n, c, e⟩ => by
    subst e
    obtain ⟨bl, q1, q2⟩ := z4
    refine ⟨AHeap.lt_of_get q1, fun e => ?_⟩
    subst e
    rw [hm4] at q1
    injection q1 with q1
    subst q1
    have : (Try.prog.info? 77).map (·.size) = some 4 := by kernel_rfl
    rw [this] at q2
    exact absurd q2 (by decide)
  have hx34 := x3.trans x4
  have hG0 : GW H2 H4.n H4 H2.n t L 0 [] 0 0 := ⟨(hM.ext' x4).nilW hx34.1, ⟨.inl rfl⟩, Int.le_refl _, rfl, Int.le_refl _, by decide⟩
  obtain ⟨y, e', H5, r1, rfl⟩ := l_W1 (B := H4.n) (z5 := v1) (x := w1) hT hr hrc (by omega) (by omega) hx34.1 hmlt hxa us.length 0 H4 (.slice none 0 0) [] 0 0 H4.n (by omega) hG0 (.inl ⟨rfl, rfl⟩) (Nat.zero_le _) (Nat.le_refl _) (Nat.le_refl _) y4 z4
  have z : ((0 : Int) ≠ 0) = False := by simp
  simp only [Int.cast_ofNat_Int] at r1
  simp only [WA, isStore, isCall, isK, freshI, stampO, List.nil_append, Option.map_some, Option.map_none, Option.bind_some, List.map_cons, List.map_nil, if_true, if_false, Nat.reduceEqDiff, Int.reduceEq, Nat.reduceAdd, Nat.reduceMul, reduceCtorEq, eq_self, Int.reduceLT, Int.reduceLE, Int.reduceToNat, List.length_cons, List.length_nil, List.all_cons, List.all_nil, List.take_zero, List.drop_nil, List.append_nil, List.getElem?_cons_zero, List.getElem?_cons_succ, List.drop_succ_cons, List.drop_zero, List.take_succ_cons, List.cons_append, Nat.reduceLeDiff, Int.cast_ofNat_Int, o_awake6, c1, c2, v_nilp, z, c3, c4, hl4]
  rw [w_enter]
  simp only [WA, isStore, isCall, isK, freshI, stampO, List.nil_append, Option.map_some, Option.map_none, Option.bind_some, List.map_cons, List.map_nil, if_true, if_false, Nat.reduceEqDiff, Int.reduceEq, Nat.reduceAdd, Nat.reduceMul, reduceCtorEq, eq_self, Int.reduceLT, Int.reduceLE, Int.reduceToNat, List.length_cons, List.length_nil, List.all_cons, List.all_nil, List.take_zero, List.drop_nil, List.append_nil, List.getElem?_cons_zero, List.getElem?_cons_succ, List.drop_succ_cons, List.drop_zero, List.take_succ_cons, List.cons_append, Nat.reduceLeDiff, Int.cast_ofNat_Int, r1]
end Go.Proofs.Ythnccfmmeaeibaa

