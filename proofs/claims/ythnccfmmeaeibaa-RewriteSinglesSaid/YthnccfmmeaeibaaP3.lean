/- What is proved here: what the program's functions come to, as far as the claimed statement asks. Conditions: those that each theorem names, and no others. -/
import Derived.Test.YthnccfmmeaeibaaP1
import Derived.Test.YthnccfmmeaeibaaP2
import Derived.Test.YthnccfmmeaeibaaLonZj
/-! The document's longest rule. -/
set_option linter.unusedSimpArgs false
set_option linter.unusedVariables false
namespace Go.Proofs.Ythnccfmmeaeibaa
open Go Lon
set_option maxRecDepth 100000
theorem l_Doc {a b : Value} {us : List Int} {L : List Rl} (hL : L.length < 1000000) (hus : tiny us) : ∀ (c i : Nat) (H : AHeap) (k : Int) (n : Nat) (o : Bool), i + c = L.length → Rules H a L → CutR H a → Ints H b us → Cut Try.prog H b 1 →
    Out (run Try.prog (tabF tab) om1 (.loop [1, 7, 8, 9, 12, 13, 14] b_lontarlaw04_Longest_0) [(1, b), (7, .int .i64 k), (8, .int .i64 n), (9, .bool o), (12, a), (13, .int .i64 L.length), (14, .int .i64 i)] H) fun y e' H' => y = .exit 0 ∧ Ext H H' ∧ eget e' 7 = .int .i64 (docF us (L.drop i) i k n o).1 ∧ eget e' 8 = .int .i64 (docF us (L.drop i) i k n o).2.1 ∧ eget e' 9 = .bool (docF us (L.drop i) i k n o).2.2 := by
  intro c
  induction c with
  | zero =>
    intro i H k n o hi ha hac hb hbc
    have hlt : ¬ ((i : Int) < L.length) := by omega
    rw [w_loop_b b_lontarlaw04_Longest_0.eq_1, List.drop_of_length_le (by omega)]
    simp only [WA, isStore, isCall, isK, freshI, stampO, List.nil_append, Option.map_some, Option.map_none, Option.bind_some, List.map_cons, List.map_nil, if_true, if_false, Nat.reduceEqDiff, Int.reduceEq, Nat.reduceAdd, Nat.reduceMul, reduceCtorEq, eq_self, Int.reduceLT, Int.reduceLE, Int.reduceToNat, List.length_cons, List.length_nil, List.all_cons, List.all_nil, List.take_zero, List.drop_nil, List.append_nil, List.getElem?_cons_zero, List.getElem?_cons_succ, List.drop_succ_cons, List.drop_zero, List.take_succ_cons, List.cons_append, Nat.reduceLeDiff, Int.cast_ofNat_Int, hlt, docF]
    exact Ext.refl _
  | succ c ih =>
    intro i H k n o hi ha hac hb hbc
    have hlt : (i : Int) < L.length := by omega
    obtain ⟨r, hr, hdr⟩ := drop_at (L := L) (i := i) (by omega)
    obtain ⟨i1, o1, vi, vo, h1, h2, h3, h4, h5, h6, h7, h8, h9, h10⟩ := Rules.atC ha hac hr
    have h5' := h5
    have h6' := h6
    obtain ⟨⟨ai, ci, rfl⟩, _⟩ := h5'
    obtain ⟨⟨ao, co, rfl⟩, _⟩ := h6'
    have hx1 := Ext.push H ⟨[.slice ai r.1.length ci, .slice ao r.2.length co], 51, .tip, 1, []⟩
    obtain ⟨H1, hH1⟩ : ∃ H1, H1 = H.push ⟨[.slice ai r.1.length ci, .slice ao r.2.length co], 51, .tip, 1, []⟩ := ⟨_, rfl⟩
    have hg1 : H1.get H.n = some ⟨[.slice ai r.1.length ci, .slice ao r.2.length co], 51, .tip, 1, []⟩ := by rw [hH1]; exact get_push_self
    have hw2 : IntKind.i64.wrap ((i : Int) + 1) = ((i + 1 : Nat) : Int) := by rw [wrap64 (by omega) (by omega)]; omega
    have hlr : ∀ H2 : AHeap, vLen false (.slice ai r.1.length ci) H2 = some (.int .i64 r.1.length, H2) := fun H2 => Sl.len h5
    have hlb : ∀ H2 : AHeap, vLen false b H2 = some (.int .i64 us.length, H2) := fun H2 => Sl.len hb
    rw [w_loop_b b_lontarlaw04_Longest_0.eq_1, hdr]
    unfold docF
    rw [← hH1] at hx1
    by_cases hle : r.1.length ≤ us.length
    · obtain ⟨b', s1, s2, s3⟩ := (hb.ext hx1).take (hbc.ext hx1) hle
      have s1' := s1 .i64
      have cU := c_Units (h5.ext hx1) s2 h7
      have hle' : (r.1.length : Int) ≤ us.length := by omega
      have hgt : ¬ (r.1.length : Int) > us.length := by omega
      have hd : (decide (us.length < r.1.length) && decide (r.1.take us.length = us)) = false := by
        rw [decide_eq_false (by omega)]; rfl
      rw [hd, Bool.or_false]
      by_cases he : r.1 = us.take r.1.length
      · have he' : decide (r.1 = us.take r.1.length) = true := decide_eq_true he
        rw [he'] at cU
        by_cases hn : n < r.1.length
        · have hn' : (r.1.length : Int) > n := by omega
          rw [if_pos ⟨hle, he, hn⟩]
          obtain ⟨y, e', H', r1, r2, r3, r4, r5, r6⟩ := ih (i + 1) H1 i r.1.length o (by omega) (ha.ext hx1) (hac.ext hx1) (hb.ext hx1) (hbc.ext hx1)
          cases o <;>
          · simp only [WA, isStore, isCall, isK, freshI, stampO, List.nil_append, Option.map_some, Option.map_none, Option.bind_some, List.map_cons, List.map_nil, if_true, if_false, Nat.reduceEqDiff, Int.reduceEq, Nat.reduceAdd, Nat.reduceMul, reduceCtorEq, eq_self, Int.reduceLT, Int.reduceLE, Int.reduceToNat, List.length_cons, List.length_nil, List.all_cons, List.all_nil, List.take_zero, List.drop_nil, List.append_nil, List.getElem?_cons_zero, List.getElem?_cons_succ, List.drop_succ_cons, List.drop_zero, List.take_succ_cons, List.cons_append, Nat.reduceLeDiff, Int.cast_ofNat_Int, hlt, h1, h4, ← hH1, hg1, hlr, hlb, hle', s1', cU, hn', hgt, hw2]
            rw [w_enter]
            simp only [WA, isStore, isCall, isK, freshI, stampO, List.nil_append, Option.map_some, Option.map_none, Option.bind_some, List.map_cons, List.map_nil, if_true, if_false, Nat.reduceEqDiff, Int.reduceEq, Nat.reduceAdd, Nat.reduceMul, reduceCtorEq, eq_self, Int.reduceLT, Int.reduceLE, Int.reduceToNat, List.length_cons, List.length_nil, List.all_cons, List.all_nil, List.take_zero, List.drop_nil, List.append_nil, List.getElem?_cons_zero, List.getElem?_cons_succ, List.drop_succ_cons, List.drop_zero, List.take_succ_cons, List.cons_append, Nat.reduceLeDiff, Int.cast_ofNat_Int, r1]
            exact ⟨r2, hx1.trans r3, r4, r5, r6⟩
        · have hn' : ¬ (r.1.length : Int) > n := by omega
          rw [if_neg (fun h => hn h.2.2)]
          obtain ⟨y, e', H', r1, r2, r3, r4, r5, r6⟩ := ih (i + 1) H1 k n o (by omega) (ha.ext hx1) (hac.ext hx1) (hb.ext hx1) (hbc.ext hx1)
          cases o <;>
          · simp only [WA, isStore, isCall, isK, freshI, stampO, List.nil_append, Option.map_some, Option.map_none, Option.bind_some, List.map_cons, List.map_nil, if_true, if_false, Nat.reduceEqDiff, Int.reduceEq, Nat.reduceAdd, Nat.reduceMul, reduceCtorEq, eq_self, Int.reduceLT, Int.reduceLE, Int.reduceToNat, List.length_cons, List.length_nil, List.all_cons, List.all_nil, List.take_zero, List.drop_nil, List.append_nil, List.getElem?_cons_zero, List.getElem?_cons_succ, List.drop_succ_cons, List.drop_zero, List.take_succ_cons, List.cons_append, Nat.reduceLeDiff, Int.cast_ofNat_Int, hlt, h1, h4, ← hH1, hg1, hlr, hlb, hle', s1', cU, hn', hgt, hw2]
            rw [w_enter]
            simp only [WA, isStore, isCall, isK, freshI, stampO, List.nil_append, Option.map_some, Option.map_none, Option.bind_some, List.map_cons, List.map_nil, if_true, if_false, Nat.reduceEqDiff, Int.reduceEq, Nat.reduceAdd, Nat.reduceMul, reduceCtorEq, eq_self, Int.reduceLT, Int.reduceLE, Int.reduceToNat, List.length_cons, List.length_nil, List.all_cons, List.all_nil, List.take_zero, List.drop_nil, List.append_nil, List.getElem?_cons_zero, List.getElem?_cons_succ, List.drop_succ_cons, List.drop_zero, List.take_succ_cons, List.cons_append, Nat.reduceLeDiff, Int.cast_ofNat_Int, r1]
            exact ⟨r2, hx1.trans r3, r4, r5, r6⟩
      · have he' : decide (r.1 = us.take r.1.length) = false := decide_eq_false he
        rw [he'] at cU
        rw [if_neg (fun h => he h.2.1)]
        obtain ⟨y, e', H', r1, r2, r3, r4, r5, r6⟩ := ih (i + 1) H1 k n o (by omega) (ha.ext hx1) (hac.ext hx1) (hb.ext hx1) (hbc.ext hx1)
        cases o <;>
        · simp only [WA, isStore, isCall, isK, freshI, stampO, List.nil_append, Option.map_some, Option.map_none, Option.bind_some, List.map_cons, List.map_nil, if_true, if_false, Nat.reduceEqDiff, Int.reduceEq, Nat.reduceAdd, Nat.reduceMul, reduceCtorEq, eq_self, Int.reduceLT, Int.reduceLE, Int.reduceToNat, List.length_cons, List.length_nil, List.all_cons, List.all_nil, List.take_zero, List.drop_nil, List.append_nil, List.getElem?_cons_zero, List.getElem?_cons_succ, List.drop_succ_cons, List.drop_zero, List.take_succ_cons, List.cons_append, Nat.reduceLeDiff, Int.cast_ofNat_Int, hlt, h1, h4, ← hH1, hg1, hlr, hlb, hle', s1', cU, hgt, hw2]
          rw [w_enter]
          simp only [WA, isStore, isCall, isK, freshI, stampO, List.nil_append, Option.map_some, Option.map_none, Option.bind_some, List.map_cons, List.map_nil, if_true, if_false, Nat.reduceEqDiff, Int.reduceEq, Nat.reduceAdd, Nat.reduceMul, reduceCtorEq, eq_self, Int.reduceLT, Int.reduceLE, Int.reduceToNat, List.length_cons, List.length_nil, List.all_cons, List.all_nil, List.take_zero, List.drop_nil, List.append_nil, List.getElem?_cons_zero, List.getElem?_cons_succ, List.drop_succ_cons, List.drop_zero, List.take_succ_cons, List.cons_append, Nat.reduceLeDiff, Int.cast_ofNat_Int, r1]
          exact ⟨r2, hx1.trans r3, r4, r5, r6⟩
    · have hle' : ¬ (r.1.length : Int) ≤ us.length := by omega
      have hgt : (r.1.length : Int) > us.length := by omega
      rw [if_neg (fun h => hle h.1), decide_eq_true (show us.length < r.1.length by omega), Bool.true_and]
      obtain ⟨b', s1, s2, s3⟩ := (h5.ext hx1).take (h9.ext hx1) (show us.length ≤ r.1.length by omega)
      have s1' := s1 .i64
      have cU := c_Units s2 (hb.ext hx1) (by rw [List.length_take]; unfold Lon.tiny at hus; omega)
      obtain ⟨y, e', H', r1, r2, r3, r4, r5, r6⟩ := ih (i + 1) H1 k n (o || decide (r.1.take us.length = us)) (by omega) (ha.ext hx1) (hac.ext hx1) (hb.ext hx1) (hbc.ext hx1)
      cases o with
      | true =>
        simp only [Bool.true_or] at r1 r4 r5 r6 ⊢
        simp only [WA, isStore, isCall, isK, freshI, stampO, List.nil_append, Option.map_some, Option.map_none, Option.bind_some, List.map_cons, List.map_nil, if_true, if_false, Nat.reduceEqDiff, Int.reduceEq, Nat.reduceAdd, Nat.reduceMul, reduceCtorEq, eq_self, Int.reduceLT, Int.reduceLE, Int.reduceToNat, List.length_cons, List.length_nil, List.all_cons, List.all_nil, List.take_zero, List.drop_nil, List.append_nil, List.getElem?_cons_zero, List.getElem?_cons_succ, List.drop_succ_cons, List.drop_zero, List.take_succ_cons, List.cons_append, Nat.reduceLeDiff, Int.cast_ofNat_Int, hlt, h1, h4, ← hH1, hg1, hlr, hlb, hle', hw2]
        rw [w_enter]
        simp only [WA, isStore, isCall, isK, freshI, stampO, List.nil_append, Option.map_some, Option.map_none, Option.bind_some, List.map_cons, List.map_nil, if_true, if_false, Nat.reduceEqDiff, Int.reduceEq, Nat.reduceAdd, Nat.reduceMul, reduceCtorEq, eq_self, Int.reduceLT, Int.reduceLE, Int.reduceToNat, List.length_cons, List.length_nil, List.all_cons, List.all_nil, List.take_zero, List.drop_nil, List.append_nil, List.getElem?_cons_zero, List.getElem?_cons_succ, List.drop_succ_cons, List.drop_zero, List.take_succ_cons, List.cons_append, Nat.reduceLeDiff, Int.cast_ofNat_Int, r1]
        exact ⟨r2, hx1.trans r3, r4, r5, r6⟩
      | false =>
        simp only [Bool.false_or] at r1 r4 r5 r6 ⊢
        simp only [WA, isStore, isCall, isK, freshI, stampO, List.nil_append, Option.map_some, Option.map_none, Option.bind_some, List.map_cons, List.map_nil, if_true, if_false, Nat.reduceEqDiff, Int.reduceEq, Nat.reduceAdd, Nat.reduceMul, reduceCtorEq, eq_self, Int.reduceLT, Int.reduceLE, Int.reduceToNat, List.length_cons, List.length_nil, List.all_cons, List.all_nil, List.take_zero, List.drop_nil, List.append_nil, List.getElem?_cons_zero, List.getElem?_cons_succ, List.drop_succ_cons, List.drop_zero, List.take_succ_cons, List.cons_append, Nat.reduceLeDiff, Int.cast_ofNat_Int, hlt, h1, h4, ← hH1, hg1, hlr, hlb, hle', hgt, s1', cU, hw2]
        rw [w_enter]
        simp only [WA, isStore, isCall, isK, freshI, stampO, List.nil_append, Option.map_some, Option.map_none, Option.bind_some, List.map_cons, List.map_nil, if_true, if_false, Nat.reduceEqDiff, Int.reduceEq, Nat.reduceAdd, Nat.reduceMul, reduceCtorEq, eq_self, Int.reduceLT, Int.reduceLE, Int.reduceToNat, List.length_cons, List.length_nil, List.all_cons, List.all_nil, List.take_zero, List.drop_nil, List.append_nil, List.getElem?_cons_zero, List.getElem?_cons_succ, List.drop_succ_cons, List.drop_zero, List.take_succ_cons, List.cons_append, Nat.reduceLeDiff, Int.cast_ofNat_Int, r1]
        exact ⟨r2, hx1.trans r3, r4, r5, r6⟩
theorem c_Doc {a b : Value} {us : List Int} {L : List Rl} {H : AHeap} (ha : Rules H a L) (hac : CutR H a) (hb : Ints H b us) (hbc : Cut Try.prog H b 1) (hL : L.length < 1000000) (hus : tiny us) : Gives (cw Try.prog (tabF tab) om1 29 [a, b] H) fun v H' => Ext H H' ∧ v = .tuple ⟨[.int .i64 (docF us L 0 (-1) 0 false).1, .int .i64 (docF us L 0 (-1) 0 false).2.1, .bool (docF us L 0 (-1) 0 false).2.2]⟩ := by
  rw [cw_run (F := F_lontarlaw04_Longest) rfl rfl rfl]
  unfold F_lontarlaw04_Longest k_lontarlaw04_Longest
  obtain ⟨y, e', H', r1, rfl, r3, r4, r5, r6⟩ := l_Doc (a := a) hL hus L.length 0 H (-1) 0 false (by omega) ha hac hb hbc
  have hl := ha.len (H2 := H)
  rw [List.drop_zero] at r4 r5 r6
  simp only [Int.cast_ofNat_Int] at r1
  simp only [WA, isStore, isCall, isK, freshI, stampO, List.nil_append, Option.map_some, Option.map_none, Option.bind_some, List.map_cons, List.map_nil, if_true, if_false, Nat.reduceEqDiff, Int.reduceEq, Nat.reduceAdd, Nat.reduceMul, reduceCtorEq, eq_self, Int.reduceLT, Int.reduceLE, Int.reduceToNat, List.length_cons, List.length_nil, List.all_cons, List.all_nil, List.take_zero, List.drop_nil, List.append_nil, List.getElem?_cons_zero, List.getElem?_cons_succ, List.drop_succ_cons, List.drop_zero, List.take_succ_cons, List.cons_append, Nat.reduceLeDiff, Int.cast_ofNat_Int, hl]
  rw [w_enter]
  simp only [WA, isStore, isCall, isK, freshI, stampO, List.nil_append, Option.map_some, Option.map_none, Option.bind_some, List.map_cons, List.map_nil, if_true, if_false, Nat.reduceEqDiff, Int.reduceEq, Nat.reduceAdd, Nat.reduceMul, reduceCtorEq, eq_self, Int.reduceLT, Int.reduceLE, Int.reduceToNat, List.length_cons, List.length_nil, List.all_cons, List.all_nil, List.take_zero, List.drop_nil, List.append_nil, List.getElem?_cons_zero, List.getElem?_cons_succ, List.drop_succ_cons, List.drop_zero, List.take_succ_cons, List.cons_append, Nat.reduceLeDiff, Int.cast_ofNat_Int, r1, r4, r5, r6]
  exact r3
end Go.Proofs.Ythnccfmmeaeibaa

/-! Units by numbers. -/
set_option linter.unusedSimpArgs false
set_option linter.unusedVariables false
namespace Go.Proofs.Ythnccfmmeaeibaa
open Go Lon
def som (l : List Int) : List Int := (l.take 60).map fun u => 97 + u % 6
theorem som_len {l : List Int} : (som l).length ≤ 60 := by unfold som; rw [List.length_map, List.length_take]; omega
theorem som_map {l : List Int} {i : Nat} : (l.map fun u => 97 + u % 6).take i = (l.take i).map fun u => 97 + u % 6 := by rw [List.map_take]
theorem l_Some {a : Value} {l : List Int} {B : Nat} (hl : l.length ≤ 60) (hb : bytes l) : ∀ (k i : Nat) (H : AHeap) (out : Value), i + k = l.length → Nums H .u8 a l → Own H 3 1 out i (ints ((l.take i).map fun u => 97 + u % 6)) → From B out → B ≤ H.n →
    Out (run Try.prog (tabF tab) om1 (.loop [3, 10, 11, 12] b_lontarlaw04_Some_0) [(3, out), (10, a), (11, .int .i64 l.length), (12, .int .i64 i)] H) fun y e' H' => y = .exit 0 ∧ Own H' 3 1 (eget e' 3) l.length (ints (l.map fun u => 97 + u % 6)) ∧ From B (eget e' 3) ∧ B ≤ H'.n ∧ (∀ j, j < B → H'.get j = H.get j) := by
  intro k
  induction k with
  | zero =>
    intro i H out hi ha ho hf hB
    obtain rfl : i = l.length := by omega
    have hlt : ¬ ((l.length : Int) < l.length) := by omega
    rw [w_loop_b b_lontarlaw04_Some_0.eq_1]
    rw [List.take_length] at ho
    simp only [WA, isStore, isCall, isK, freshI, stampO, List.nil_append, Option.map_some, Option.map_none, Option.bind_some, List.map_cons, List.map_nil, if_true, if_false, Nat.reduceEqDiff, Int.reduceEq, Nat.reduceAdd, Nat.reduceMul, reduceCtorEq, eq_self, Int.reduceLT, Int.reduceLE, Int.reduceToNat, List.length_cons, List.length_nil, List.all_cons, List.all_nil, List.take_zero, List.drop_nil, List.append_nil, List.getElem?_cons_zero, List.getElem?_cons_succ, List.drop_succ_cons, List.drop_zero, List.take_succ_cons, List.cons_append, Nat.reduceLeDiff, Int.cast_ofNat_Int, hlt]
    exact ⟨ho, hf, hB, fun _ _ => trivial⟩
  | succ k ih =>
    intro i H out hi ha ho hf hB
    have hlt : (i : Int) < l.length := by omega
    obtain ⟨u, hu, hd⟩ := drop_at (L := l) (i := i) (by omega)
    obtain ⟨u1, u2⟩ := hb u (List.mem_of_getElem? hu)
    obtain ⟨i1, o1, h1, h2⟩ := ha.at hu
    have hw2 : IntKind.i64.wrap ((i : Int) + 1) = ((i + 1 : Nat) : Int) := by rw [wrap64 (by omega) (by omega)]; omega
    have q1 : intOp .rem .u8 u 6 = some (.int .u8 (u % 6)) := by rw [int_rem (by decide), Int.tmod_eq_emod_of_nonneg (by omega)]
    have q2 : IntKind.i64.wrap (u % 6) = u % 6 := wrap64 (by omega) (by omega)
    have q3 : IntKind.i64.wrap (97 + u % 6) = 97 + u % 6 := wrap64 (by omega) (by omega)
    have hx1 := Ext.push H ⟨[.int .i64 (97 + u % 6)], 3, .tip, 0, []⟩
    obtain ⟨v', H5, m1, m2, m3, m4, m5, m6⟩ := Own.append2 (bytes := 8) (m := 1) (ho.ext hx1) (Sl.new (n := 1) (c := 2) (get_push_self (H := H) (b := ⟨[.int .i64 (97 + u % 6)], 3, .tip, 0, []⟩)) mem_tip rfl) (by omega) rfl (by omega)
    have hdone : ints ((l.take i).map fun u => 97 + u % 6) ++ [.int .i64 (97 + u % 6)] = ints ((l.take (i + 1)).map fun u => 97 + u % 6) := by
      rw [List.take_add_one, hu]; simp [ints]
    rw [hdone] at m2
    obtain ⟨y, e', H', r1, r2, r4, r5, r6, r7⟩ := ih (i + 1) H5 v' (by omega) (((ha.ext hx1)).keeps m4) m2 (m3.mono (by simp; omega)) (by simp at m5; omega)
    rw [w_loop_b b_lontarlaw04_Some_0.eq_1]
    simp only [WA, isStore, isCall, isK, freshI, stampO, List.nil_append, Option.map_some, Option.map_none, Option.bind_some, List.map_cons, List.map_nil, if_true, if_false, Nat.reduceEqDiff, Int.reduceEq, Nat.reduceAdd, Nat.reduceMul, reduceCtorEq, eq_self, Int.reduceLT, Int.reduceLE, Int.reduceToNat, List.length_cons, List.length_nil, List.all_cons, List.all_nil, List.take_zero, List.drop_nil, List.append_nil, List.getElem?_cons_zero, List.getElem?_cons_succ, List.drop_succ_cons, List.drop_zero, List.take_succ_cons, List.cons_append, Nat.reduceLeDiff, Int.cast_ofNat_Int, hlt, h1, h2, q1, q2, q3, v_int1, m1, hw2]
    rw [w_enter]
    simp only [WA, isStore, isCall, isK, freshI, stampO, List.nil_append, Option.map_some, Option.map_none, Option.bind_some, List.map_cons, List.map_nil, if_true, if_false, Nat.reduceEqDiff, Int.reduceEq, Nat.reduceAdd, Nat.reduceMul, reduceCtorEq, eq_self, Int.reduceLT, Int.reduceLE, Int.reduceToNat, List.length_cons, List.length_nil, List.all_cons, List.all_nil, List.take_zero, List.drop_nil, List.append_nil, List.getElem?_cons_zero, List.getElem?_cons_succ, List.drop_succ_cons, List.drop_zero, List.take_succ_cons, List.cons_append, Nat.reduceLeDiff, Int.cast_ofNat_Int, r1]
    refine ⟨r2, r4, r5, r6, fun j hj => ?_⟩
    rw [r7 j hj, m6 j (by simp; omega) (NotAt.of_from hf hj), hx1.2 j (by omega)]
theorem c_Some {a : Value} {l : List Int} {H : AHeap} (ha : Nums H .u8 a l) (hc : Cut Try.prog H a 1) (hb : bytes l) (hs : tiny l) : Gives (cw Try.prog (tabF tab) om1 19 [a] H) fun v H' => Ext H H' ∧ Ints H' v (som l) ∧ Cut Try.prog H' v 1 := by
  rw [cw_run (F := F_lontarlaw04_Some) rfl rfl rfl]
  unfold F_lontarlaw04_Some k_lontarlaw04_Some
  obtain ⟨k, hk⟩ : ∃ k : Nat, k = min l.length 60 := ⟨_, rfl⟩
  obtain ⟨a', s1, s2, s3⟩ := ha.take hc (show k ≤ l.length by omega)
  have hmin : (if (60 : Int) < (l.length : Int) then (60 : Int) else (l.length : Int)) = (k : Int) := by split <;> omega
  have hkl : (l.take k).length = k := by simp; omega
  have hk4 : l.take 60 = l.take k := by
    subst hk
    rcases Nat.le_total l.length 60 with h | h
    · rw [Nat.min_eq_left h, List.take_of_length_le h, List.take_length]
    · rw [Nat.min_eq_right h]
  obtain ⟨y, e', H', r1, rfl, r4, r5, r6, r7⟩ := l_Some (a := a') (l := l.take k) (B := H.n) (by omega) (fun u hu => hb u (List.mem_of_mem_take hu)) (l.take k).length 0 H (.slice none 0 0) (by omega) s2 ⟨rfl, .inl ⟨rfl, rfl⟩⟩ trivial (Nat.le_refl _)
  have hl0 := ha.len (H2 := H)
  have hl1 := Nums.len s2 (H2 := H)
  rw [hkl] at hl1 r1 r4
  simp only [Int.cast_ofNat_Int] at r1
  have s1' := s1 .i64
  simp only [WA, isStore, isCall, isK, freshI, stampO, List.nil_append, Option.map_some, Option.map_none, Option.bind_some, List.map_cons, List.map_nil, if_true, if_false, Nat.reduceEqDiff, Int.reduceEq, Nat.reduceAdd, Nat.reduceMul, reduceCtorEq, eq_self, Int.reduceLT, Int.reduceLE, Int.reduceToNat, List.length_cons, List.length_nil, List.all_cons, List.all_nil, List.take_zero, List.drop_nil, List.append_nil, List.getElem?_cons_zero, List.getElem?_cons_succ, List.drop_succ_cons, List.drop_zero, List.take_succ_cons, List.cons_append, Nat.reduceLeDiff, Int.cast_ofNat_Int, hl0, hmin, s1', hl1]
  rw [w_enter]
  simp only [WA, isStore, isCall, isK, freshI, stampO, List.nil_append, Option.map_some, Option.map_none, Option.bind_some, List.map_cons, List.map_nil, if_true, if_false, Nat.reduceEqDiff, Int.reduceEq, Nat.reduceAdd, Nat.reduceMul, reduceCtorEq, eq_self, Int.reduceLT, Int.reduceLE, Int.reduceToNat, List.length_cons, List.length_nil, List.all_cons, List.all_nil, List.take_zero, List.drop_nil, List.append_nil, List.getElem?_cons_zero, List.getElem?_cons_succ, List.drop_succ_cons, List.drop_zero, List.take_succ_cons, List.cons_append, Nat.reduceLeDiff, Int.cast_ofNat_Int, r1]
  refine ⟨⟨r6, r7⟩, ?_, r4.cut (by kernel_rfl)⟩
  have := r4.sl
  unfold Ints som
  rw [hk4, List.length_map, hkl]
  exact this
end Go.Proofs.Ythnccfmmeaeibaa

/-! A trie of rules, as those who use it see it. -/
set_option linter.unusedSimpArgs false
set_option linter.unusedVariables false
namespace Go.Proofs.Ythnccfmmeaeibaa
open Go Lon
/-- At block t lies the trie of the rules L. -/
structure TrieOk (H : AHeap) (t : Nat) (L : List Rl) : Prop where
  right : Right L
  few : L.length ≤ 512
  rest : ∃ N vr, TrieAt H t N vr ∧ Rules H vr ((L.map (·.2)).map fun o => ([], o)) ∧ Fits (paths L) N ∧ RF (fnd L) (paths L) N ∧ ∀ q, q ∉ paths L → fnd L q = -1
theorem TrieOk.ext {H H' : AHeap} (hx : Ext H H') {t : Nat} {L : List Rl} (h : TrieOk H t L) : TrieOk H' t L := by
  obtain ⟨N, vr, h1, h2, h3⟩ := h.rest
  exact ⟨h.right, h.few, N, vr, h1.ext hx, h2.ext hx, h3⟩
/-- The longest rule that units begin with. -/
def lgs (L : List Rl) (us : List Int) : Int × Nat × Bool := docF us L 0 (-1) 0 false
theorem c_LongT {t : Nat} {L : List Rl} {b : Value} {us : List Int} {H : AHeap} (hT : TrieOk H t L) (hb : Ints H b us) (hs : tiny us) :
    cw Try.prog (tabF tab) om1 28 [.pointer (some ⟨t, 0, none⟩), b] H = some (.tuple ⟨[.int .i64 (lgs L us).1, .int .i64 (lgs L us).2.1, .bool (lgs L us).2.2]⟩, H) := by
  obtain ⟨N, vr, h1, h2, h3, h4, h5⟩ := hT.rest
  have := c_Long h1 h3 hb hs
  rw [lon_doc hT.right h3 h4 h5] at this
  exact this
theorem c_OutT {t i : Nat} {L : List Rl} {r : Rl} {H : AHeap} (hT : TrieOk H t L) (hr : L[i]? = some r) :
    Gives (cw Try.prog (tabF tab) om1 44 [.pointer (some ⟨t, 0, none⟩), .int .i64 (i : Int)] H) fun v H' => Ext H H' ∧ Ints H' v r.2 ∧ From H.n v ∧ Cut Try.prog H' v 1 := by
  obtain ⟨N, vr, h1, h2, _⟩ := hT.rest
  have h8 := side_len ((hT.right.1 r (List.mem_of_getElem? hr)).2)
  exact c_Out h1 h2 (by rw [List.getElem?_map, hr]; rfl) (by omega)
theorem c_OfT {a : Value} {L : List Rl} {H : AHeap} (ha : Rules H a L) (hC : Cut Try.prog H a 2) (hR : Right L) (hL : L.length ≤ 512) :
    Gives (cw Try.prog (tabF tab) om1 16 [a] H) fun v H' => Ext H H' ∧ ∃ t, v = .tuple ⟨[.pointer (some ⟨t, 0, none⟩), .int .i64 0]⟩ ∧ TrieOk H' t L := by
  obtain ⟨v, H', c, x, t, b, vr, N, rfl, hT, h3, h4, h5⟩ := c_Of ha hC hR hL
  exact ⟨_, H', c, x, t, rfl, hR, hL, N, vr, hT.at, hT.rules (by simp; omega), h3, h4, h5⟩
/-! What the longest rule is. -/
theorem lgs_pre {L : List Rl} (hR : Right L) (us : List Int) : Pre L us (lgs L us).1 (lgs L us).2.1 ∧ ((lgs L us).2.2 = true ↔ ∃ r ∈ L, us.length < r.1.length ∧ us <+: r.1) := by
  have := docF_is (us := us) L [] (-1) 0 false (by simpa using hR.2) ⟨Nat.zero_le _, fun _ => rfl, fun h => by omega, fun m _ _ => by have : fnd [] (us.take m) = -1 := rfl; rw [this]; decide⟩ (by simp)
  rw [List.nil_append] at this
  exact this
theorem fnd_some {L : List Rl} {x : List Int} (h : 0 ≤ fnd L x) : ∃ r, L[(fnd L x).toNat]? = some r ∧ r.1 = x := by
  unfold fnd at h ⊢
  split at h
  · rename_i k hk
    obtain ⟨r, h1, h2, _⟩ := fdx_some hk
    exact ⟨r, by simpa [hk] using h1, h2⟩
  · omega
theorem lgs_neg {L : List Rl} (hR : Right L) {us : List Int} (h : (lgs L us).1 < 0) : (lgs L us).2.1 = 0 := by
  obtain ⟨h1, h2, h3, h4⟩ := (lgs_pre hR us).1
  rcases Nat.eq_zero_or_pos (lgs L us).2.1 with h0 | h0
  · exact h0
  · have := (h3 h0).2; omega
theorem lgs_pos {L : List Rl} (hR : Right L) {us : List Int} (h : ¬ (lgs L us).1 < 0) : 0 < (lgs L us).2.1 ∧ (lgs L us).2.1 ≤ us.length ∧ ∃ r, L[(lgs L us).1.toNat]? = some r ∧ r.1 = us.take (lgs L us).2.1 ∧ 0 ≤ (lgs L us).1 := by
  obtain ⟨h1, h2, h3, h4⟩ := (lgs_pre hR us).1
  rcases Nat.eq_zero_or_pos (lgs L us).2.1 with h0 | h0
  · have := h2 h0; omega
  · obtain ⟨a1, a2⟩ := h3 h0
    rw [a1] at a2 ⊢
    obtain ⟨r, b1, b2⟩ := fnd_some a2
    exact ⟨h0, h1, r, b1, b2, a2⟩
/-- The token that units begin with. -/
def oneT (L : List Rl) (us : List Int) (a : Int) : Tok := if (lgs L us).1 < 0 then ⟨a, 1, [], 3⟩ else ⟨a, (lgs L us).2.1, (match L[(lgs L us).1.toNat]? with | some r => r.2 | none => []), 0⟩
theorem oneT_len {L : List Rl} (hR : Right L) {us : List Int} (hn : us ≠ []) (a : Int) : ∃ n : Nat, (oneT L us a).len = n ∧ 0 < n ∧ n ≤ us.length := by
  have hp := List.length_pos_iff.2 hn
  unfold oneT
  split
  · exact ⟨1, rfl, by decide, hp⟩
  · rename_i h
    obtain ⟨h1, h2, _⟩ := lgs_pos hR h
    exact ⟨_, rfl, h1, h2⟩
/-- All tokens of units. -/
def allT (L : List Rl) : Nat → List Int → Int → List Tok
  | 0, _, _ => []
  | c + 1, us, a => if us = [] then [] else oneT L us a :: allT L c (us.drop (oneT L us a).len.toNat) (a + (oneT L us a).len)
theorem allT_succ {L : List Rl} {c : Nat} {us : List Int} {a : Int} : allT L (c + 1) us a = if us = [] then [] else oneT L us a :: allT L c (us.drop (oneT L us a).len.toNat) (a + (oneT L us a).len) := rfl
theorem allT_nil {L : List Rl} {c : Nat} {a : Int} : allT L c [] a = [] := by cases c <;> simp [allT]
theorem allT_fuel {L : List Rl} (hR : Right L) : ∀ {c d : Nat} {us : List Int} {a : Int}, us.length ≤ c → us.length ≤ d → allT L c us a = allT L d us a := by
  intro c
  induction c with
  | zero =>
    intro d us a h1 h2
    have : us = [] := List.length_eq_zero_iff.1 (by omega)
    subst this
    rw [allT_nil, allT_nil]
  | succ c ih =>
    intro d us a h1 h2
    by_cases hn : us = []
    · subst hn; rw [allT_nil, allT_nil]
    · obtain ⟨n, e, n1, n2⟩ := oneT_len hR hn a
      cases d with
      | zero => exact absurd (List.length_eq_zero_iff.1 (by omega)) hn
      | succ d =>
        unfold allT
        rw [if_neg hn, if_neg hn, e]
        congr 1
        refine ih ?_ ?_ <;> rw [List.length_drop, Int.toNat_natCast] <;> omega
def allU (L : List Rl) (us : List Int) (a : Int) : List Tok := allT L us.length us a
theorem allU_nil {L : List Rl} {a : Int} : allU L [] a = [] := rfl
theorem allU_cons {L : List Rl} (hR : Right L) {us : List Int} (hn : us ≠ []) (a : Int) : allU L us a = oneT L us a :: allU L (us.drop (oneT L us a).len.toNat) (a + (oneT L us a).len) := by
  obtain ⟨n, e, n1, n2⟩ := oneT_len hR hn a
  unfold allU
  obtain ⟨c, hc⟩ : ∃ c, us.length = c + 1 := ⟨us.length - 1, by omega⟩
  rw [hc, allT_succ, if_neg hn, e]
  congr 1
  refine allT_fuel hR ?_ (Nat.le_refl _)
  rw [List.length_drop, Int.toNat_natCast]
  omega
theorem allU_len {L : List Rl} (hR : Right L) : ∀ (c : Nat) (us : List Int) (a : Int), us.length ≤ c → (allU L us a).length ≤ us.length := by
  intro c
  induction c with
  | zero =>
    intro us a h
    have : us = [] := List.length_eq_zero_iff.1 (by omega)
    subst this
    rw [allU_nil]; exact Nat.le_refl _
  | succ c ih =>
    intro us a h
    by_cases hn : us = []
    · subst hn; rw [allU_nil]; exact Nat.le_refl _
    · obtain ⟨n, e, n1, n2⟩ := oneT_len hR hn a
      rw [allU_cons hR hn, e, List.length_cons]
      have := ih (us.drop n) (a + n) (by rw [List.length_drop]; omega)
      rw [List.length_drop] at this
      show (allU L (us.drop n) (a + n)).length + 1 ≤ us.length
      omega
theorem oneT_out {L : List Rl} (hR : Right L) {us : List Int} {a : Int} : (oneT L us a).out.length ≤ 8 := by
  unfold oneT
  split
  · exact Nat.zero_le _
  · rename_i h
    obtain ⟨_, _, r, h1, _⟩ := lgs_pos hR h
    simp only [h1]
    exact (side_len (hR.1 r (List.mem_of_getElem? h1)).2).2
end Go.Proofs.Ythnccfmmeaeibaa

/-! Units made into tokens: the program's way, and the document's. -/
set_option linter.unusedSimpArgs false
set_option linter.unusedVariables false
namespace Go.Proofs.Ythnccfmmeaeibaa
open Go Lon
set_option maxRecDepth 100000
theorem ress_cell {P : Program} {e : Env} {H : AHeap} {t : Nat} {k : Option Nat} {r : List ARes} : ressA P e H (.cell t k :: r) = (match (readA P e H (.load (.tmp t) k)), ressA P e H r with | some v, some vs => some (v :: vs) | _, _ => none) := rfl
theorem rd_load {P : Program} {e : Env} {H : AHeap} {x : Operand} {k : Option Nat} : readA P e H (.load x k) = (vLoad (ev e x) k H).map (·.1) := by
  have := st_load (P := P) (cf := fun _ _ _ => none) (e := e) (H := H) (x := x) (k := k)
  rw [← this]
  simp only [stepA]
  cases readA P e H (.load x k) <;> rfl
def tokC (a : Option Addr) (c : Nat) (t : Tok) : List Value := [.int .i64 t.at_, .int .i64 t.len, .slice a t.out.length c, .int .i64 t.err]
theorem v_tokBad {H : AHeap} {a : Int} : vBuild [.int .i64 0, .int .i64 0, .slice none 0 0, .int .i64 0] [(0, 1, .int .i64 a), (1, 1, .int .i64 1), (3, 1, .int .i64 3)] H = some (.agg ⟨tokC none 0 ⟨a, 1, [], 3⟩⟩, H) := rfl
theorem v_tok {H : AHeap} {a n : Int} {p : Option Addr} {c : Nat} {o : List Int} : vBuild [.int .i64 0, .int .i64 0, .slice none 0 0, .int .i64 0] [(0, 1, .int .i64 a), (1, 1, .int .i64 n), (2, 1, .slice p o.length c)] H = some (.agg ⟨tokC p c ⟨a, n, o, 0⟩⟩, H) := rfl
theorem v_tok1 {H : AHeap} {el : TypeId} {p : Option Addr} {c : Nat} {t : Tok} : vBslice el 1 4 [.int .i64 0, .int .i64 0, .slice none 0 0, .int .i64 0] [(0, 4, .agg ⟨tokC p c t⟩)] H = some (.slice (some ⟨H.n, 0, none⟩) 1 2, H.push ⟨tokC p c t, el, .tip, 0, []⟩) := rfl
theorem tokC_one {p : Option Addr} {c : Nat} {t : Tok} : (tokC p c t).all one = true := rfl
theorem got_tok {H : AHeap} {i ver c : Nat} {el : TypeId} {p : Option Addr} {t : Tok} {a1 a2 a3 a4 : Value} : gotStore (some ⟨[a1, a2, a3, a4], el, .tip, ver, []⟩) i 0 (.agg ⟨tokC p c t⟩) 4 H = some (.tuple ⟨[]⟩, H.upd i ⟨tokC p c t, el, .tip, ver + 1, []⟩) := by
  have := got_store (H := H) (cells := [a1, a2, a3, a4]) (el := el) (ver := ver) (anc := []) (i := i) (o := 0) (n := 4) (v := .agg ⟨tokC p c t⟩) rfl rfl (Nat.le_refl 4)
  rw [this]
  rfl
theorem ld_tok {H : AHeap} {el : TypeId} {ver c : Nat} {anc : List Nat} {p : Option Addr} {t : Tok} : gotLoad (some ⟨tokC p c t, el, .tip, ver, anc⟩) 0 (some 4) H = some (.agg ⟨tokC p c t⟩, H) := rfl
theorem Ints.upd' {H : AHeap} {i B : Nat} {v : Value} {l : List Int} {b c : ABlk} (h : Ints H v l) (hg : H.get i = some b) (hf : From B v) (hi : i < B) : Ints (H.upd i c) v l := Sl.upd h hg (NotAt.of_from hf hi)
theorem c_one {t : Nat} {L : List Rl} {b : Value} {us : List Int} {a : Int} {H : AHeap} (hT : TrieOk H t L) (hb : Ints H b us) (hs : tiny us) :
    Gives (cw Try.prog (tabF tab) om1 37 [.pointer (some ⟨t, 0, none⟩), b, .int .i64 a] H) fun v H' => Ext H H' ∧ ∃ p c, v = .agg ⟨tokC p c (oneT L us a)⟩ ∧ tokQ Try.prog H' (tokC p c (oneT L us a)) (oneT L us a) := by
  rw [cw_run (F := F_rewrite_one) rfl rfl rfl]
  unfold F_rewrite_one k_rewrite_one
  have hx1 := Ext.push H ⟨[.int .i64 0, .int .i64 0, .slice none 0 0, .int .i64 0], 39, .tip, 0, []⟩
  have cL := c_LongT (hT.ext hx1) (hb.ext hx1) hs
  by_cases h0 : (lgs L us).1 < 0
  · have e : oneT L us a = ⟨a, 1, [], 3⟩ := by unfold oneT; rw [if_pos h0]
    rw [e]
    obtain ⟨u, hu⟩ : ∃ u : Tok, u = ⟨a, 1, [], 3⟩ := ⟨_, rfl⟩
    have hg := get_push_self (H := H) (b := ⟨[.int .i64 0, .int .i64 0, .slice none 0 0, .int .i64 0], 39, .tip, 0, []⟩)
    have hs2 := upd_self (c := ⟨tokC none 0 u, 39, .tip, 0 + 1, []⟩) hg
    simp only [WA, isStore, isCall, isK, freshI, stampO, List.nil_append, Option.map_some, Option.map_none, Option.bind_some, List.map_cons, List.map_nil, if_true, if_false, Nat.reduceEqDiff, Int.reduceEq, Nat.reduceAdd, Nat.reduceMul, reduceCtorEq, eq_self, Int.reduceLT, Int.reduceLE, Int.reduceToNat, List.length_cons, List.length_nil, List.all_cons, List.all_nil, List.take_zero, List.drop_nil, List.append_nil, List.getElem?_cons_zero, List.getElem?_cons_succ, List.drop_succ_cons, List.drop_zero, List.take_succ_cons, List.cons_append, Nat.reduceLeDiff, Int.cast_ofNat_Int, cL, h0, v_tokBad, ← hu, hg, got_tok, ress_cell, rd_load, hs2, ld_tok]
    exact ⟨Ext.push H _, none, 0, rfl, none, 0, by rw [hu]; rfl, by rw [hu]; exact Sl.nil _ 1, by rw [hu]; exact (by decide : (0 : Nat) < 4611686018427387904), trivial⟩
  · obtain ⟨p1, p2, r, p3, p4, p5⟩ := lgs_pos hT.right h0
    obtain ⟨k, hk⟩ : ∃ k : Nat, (lgs L us).1 = k := ⟨(lgs L us).1.toNat, by omega⟩
    rw [hk] at p3
    have p3' : L[k]? = some r := p3
    have e : oneT L us a = ⟨a, (lgs L us).2.1, r.2, 0⟩ := by unfold oneT; rw [if_neg h0, hk]; simp only [Int.toNat_natCast, p3']
    rw [e]
    obtain ⟨v, H2, cO, x2, o2, f2, u2⟩ := c_OutT (hT.ext hx1) p3'
    rw [hk] at cL h0
    have o2' := o2
    obtain ⟨⟨ao, co, rfl⟩, _⟩ := o2'
    have hg := x2.get (get_push_self (H := H) (b := ⟨[.int .i64 0, .int .i64 0, .slice none 0 0, .int .i64 0], 39, .tip, 0, []⟩))
    have ht : tiny r.2 := by
      have := (side_len (hT.right.1 r (List.mem_of_getElem? p3')).2).2
      unfold Lon.tiny; omega
    have hs2 := upd_self (c := ⟨tokC ao co ⟨a, (lgs L us).2.1, r.2, 0⟩, 39, .tip, 0 + 1, []⟩) hg
    simp only [WA, isStore, isCall, isK, freshI, stampO, List.nil_append, Option.map_some, Option.map_none, Option.bind_some, List.map_cons, List.map_nil, if_true, if_false, Nat.reduceEqDiff, Int.reduceEq, Nat.reduceAdd, Nat.reduceMul, reduceCtorEq, eq_self, Int.reduceLT, Int.reduceLE, Int.reduceToNat, List.length_cons, List.length_nil, List.all_cons, List.all_nil, List.take_zero, List.drop_nil, List.append_nil, List.getElem?_cons_zero, List.getElem?_cons_succ, List.drop_succ_cons, List.drop_zero, List.take_succ_cons, List.cons_append, Nat.reduceLeDiff, Int.cast_ofNat_Int, cL, h0, cO, v_tok, hg, got_tok, ress_cell, rd_load, hs2, ld_tok]
    exact ⟨Ext.upd (hx1.trans x2) hg (Nat.le_refl _), ao, co, rfl, ao, co, rfl, Ints.upd' o2 hg f2 (by simp), ht, u2.upd hg rfl⟩
theorem l_AllR {H0 : AHeap} {t : Nat} {L : List Rl} {b : Value} {us : List Int} (hT : TrieOk H0 t L) (hb : Ints H0 b us) (hC : Cut Try.prog H0 b 1) (hs : us.length < 1000000) : ∀ (c a : Nat) (H : AHeap) (out : Value) (T : List Tok), us.length - a ≤ c → a ≤ us.length → Ext H0 H → OwnToks Try.prog H 39 out T → From H0.n out → AncB H0.n H 39 out → T.length ≤ a →
    Out (run Try.prog (tabF tab) om1 (.loop [0, 1, 5, 6] b_rewrite_All_0) [(0, .pointer (some ⟨t, 0, none⟩)), (1, b), (5, out), (6, .int .i64 a)] H) fun y e' H' => y = .exit 0 ∧ Ext H0 H' ∧ OwnToks Try.prog H' 39 (eget e' 5) (T ++ allU L (us.drop a) a) ∧ From H0.n (eget e' 5) ∧ AncB H0.n H' 39 (eget e' 5) := by
  intro c
  induction c with
  | zero =>
    intro a H out T hc ha hx ho hf hA hl
    have hlt : ¬ ((a : Int) < us.length) := by omega
    have hlen := hb.len (H2 := H)
    rw [w_loop_b b_rewrite_All_0.eq_1, List.drop_of_length_le (by omega), allU_nil, List.append_nil]
    simp only [WA, isStore, isCall, isK, freshI, stampO, List.nil_append, Option.map_some, Option.map_none, Option.bind_some, List.map_cons, List.map_nil, if_true, if_false, Nat.reduceEqDiff, Int.reduceEq, Nat.reduceAdd, Nat.reduceMul, reduceCtorEq, eq_self, Int.reduceLT, Int.reduceLE, Int.reduceToNat, List.length_cons, List.length_nil, List.all_cons, List.all_nil, List.take_zero, List.drop_nil, List.append_nil, List.getElem?_cons_zero, List.getElem?_cons_succ, List.drop_succ_cons, List.drop_zero, List.take_succ_cons, List.cons_append, Nat.reduceLeDiff, Int.cast_ofNat_Int, hlen, hlt]
    exact ⟨hx, ho, hf, hA⟩
  | succ c ih =>
    intro a H out T hc ha hx ho hf hA hl
    have hlen := hb.len (H2 := H)
    by_cases hlt : (a : Int) < us.length
    · obtain ⟨b', s1, s2, s3⟩ := (hb.ext hx).drop (hC.ext hx) ha
      have s1' := s1 .i64
      have hne : us.drop a ≠ [] := fun e => by have := congrArg List.length e; rw [List.length_drop, List.length_nil] at this; omega
      obtain ⟨v, H1, cO, x1, p, cc, rfl, q1⟩ := c_one (a := (a : Int)) (hT.ext hx) s2 (by unfold Lon.tiny; rw [List.length_drop]; omega)
      obtain ⟨n, e, n1, n2⟩ := oneT_len hT.right hne (a : Int)
      rw [allU_cons hT.right hne, e, List.drop_drop, ← Int.natCast_add]
      rw [List.length_drop] at n2
      generalize hu : oneT L (us.drop a) (a : Int) = u at *
      have hx2 := Ext.push H1 ⟨tokC p cc u, 39, .tip, 1, []⟩
      have hx3 := Ext.push (H1.push ⟨tokC p cc u, 39, .tip, 1, []⟩) ⟨tokC p cc u, 39, .tip, 0, []⟩
      obtain ⟨H2, hH2⟩ : ∃ H2, H2 = H1.push ⟨tokC p cc u, 39, .tip, 1, []⟩ := ⟨_, rfl⟩
      have g2 : H2.get H1.n = some ⟨tokC p cc u, 39, .tip, 1, []⟩ := by rw [hH2]; exact get_push_self
      rw [← hH2] at hx2 hx3
      have hn2 : H2.n = H1.n + 1 := by rw [hH2]; simp
      have g3 := get_push_self (H := H2) (b := ⟨tokC p cc u, 39, .tip, 0, []⟩)
      have ho3 := ho.ext tokQ_mono ((x1.trans hx2).trans hx3)
      obtain ⟨v', H4, m1, m2, m3, m4, m5, m6⟩ := ho3.push tokQ_mono (bytes := 48) (c := 2) g3 rfl (tokQ_mono (hx2.trans hx3).kp q1) tokC_one (by omega) (by omega)
      have hn3 : (H2.push ⟨tokC p cc u, 39, .tip, 0, []⟩).n = H1.n + 2 := by simp [hn2]
      rw [hn3] at m3 m5 m6
      have g4 : H4.get H1.n = some ⟨tokC p cc u, 39, .tip, 1, []⟩ := by
        rw [m6 H1.n (by omega) (ho.notAt x1.1), get_push_lt (by omega), g2]
      have hx4 : Ext H0 H4 := Ext.grow (((hx.trans x1).trans hx2).trans hx3) (by omega) (by rw [hn3]; exact m6) hf
      have hld : gotLoad (some ⟨tokC p cc u, 39, .tip, 1, []⟩) 1 none H4 = some (.int .i64 u.len, H4) := rfl
      have hw : IntKind.i64.wrap ((a : Int) + u.len) = ((a + n : Nat) : Int) := by rw [e, wrap64 (by omega) (by omega)]; omega
      obtain ⟨y, e', H', r1, r2, r3, r4, r5⟩ := ih (a + n) H4 v' (T ++ [u]) (by omega) (by omega) hx4 m2 (m3.mono (by have := hx.1; have := x1.1; omega)) (appendA_anc m1 hf (((hA.ext x1).ext hx2).ext hx3)) (by rw [List.length_append, List.length_singleton]; omega)
      rw [List.append_assoc] at r4
      rw [w_loop_b b_rewrite_All_0.eq_1]
      simp only [WA, isStore, isCall, isK, freshI, stampO, List.nil_append, Option.map_some, Option.map_none, Option.bind_some, List.map_cons, List.map_nil, if_true, if_false, Nat.reduceEqDiff, Int.reduceEq, Nat.reduceAdd, Nat.reduceMul, reduceCtorEq, eq_self, Int.reduceLT, Int.reduceLE, Int.reduceToNat, List.length_cons, List.length_nil, List.all_cons, List.all_nil, List.take_zero, List.drop_nil, List.append_nil, List.getElem?_cons_zero, List.getElem?_cons_succ, List.drop_succ_cons, List.drop_zero, List.take_succ_cons, List.cons_append, Nat.reduceLeDiff, Int.cast_ofNat_Int, hlen, hlt, s1', cO, got_tok, ← hH2, g2, ld_tok, v_tok1, m1, g4, hld, hw]
      rw [w_enter]
      simp only [WA, isStore, isCall, isK, freshI, stampO, List.nil_append, Option.map_some, Option.map_none, Option.bind_some, List.map_cons, List.map_nil, if_true, if_false, Nat.reduceEqDiff, Int.reduceEq, Nat.reduceAdd, Nat.reduceMul, reduceCtorEq, eq_self, Int.reduceLT, Int.reduceLE, Int.reduceToNat, List.length_cons, List.length_nil, List.all_cons, List.all_nil, List.take_zero, List.drop_nil, List.append_nil, List.getElem?_cons_zero, List.getElem?_cons_succ, List.drop_succ_cons, List.drop_zero, List.take_succ_cons, List.cons_append, Nat.reduceLeDiff, Int.cast_ofNat_Int, r1]
      exact ⟨r2, r3, r4, r5⟩
    · rw [w_loop_b b_rewrite_All_0.eq_1, List.drop_of_length_le (by omega), allU_nil, List.append_nil]
      simp only [WA, isStore, isCall, isK, freshI, stampO, List.nil_append, Option.map_some, Option.map_none, Option.bind_some, List.map_cons, List.map_nil, if_true, if_false, Nat.reduceEqDiff, Int.reduceEq, Nat.reduceAdd, Nat.reduceMul, reduceCtorEq, eq_self, Int.reduceLT, Int.reduceLE, Int.reduceToNat, List.length_cons, List.length_nil, List.all_cons, List.all_nil, List.take_zero, List.drop_nil, List.append_nil, List.getElem?_cons_zero, List.getElem?_cons_succ, List.drop_succ_cons, List.drop_zero, List.take_succ_cons, List.cons_append, Nat.reduceLeDiff, Int.cast_ofNat_Int, hlen, hlt]
      exact ⟨hx, ho, hf, hA⟩
theorem c_AllR {t : Nat} {L : List Rl} {b : Value} {us : List Int} {H : AHeap} (hT : TrieOk H t L) (hb : Ints H b us) (hC : Cut Try.prog H b 1) (hs : us.length < 1000000) :
    Gives (cw Try.prog (tabF tab) om1 18 [.pointer (some ⟨t, 0, none⟩), b] H) fun v H' => Ext H H' ∧ OwnToks Try.prog H' 39 v (allU L us 0) ∧ From H.n v ∧ AncB H.n H' 39 v := by
  rw [cw_run (F := F_rewrite_All) rfl rfl rfl]
  unfold F_rewrite_All k_rewrite_All
  obtain ⟨y, e', H', r1, rfl, r3, r4, r5⟩ := l_AllR hT hb hC hs us.length 0 H (.slice none 0 0) [] (by omega) (Nat.zero_le _) (Ext.refl H) OwnRws.nil trivial AncB.nil (Nat.le_refl _)
  simp only [Int.cast_ofNat_Int] at r1
  rw [List.drop_zero, List.nil_append] at r4
  simp only [WA, isStore, isCall, isK, freshI, stampO, List.nil_append, Option.map_some, Option.map_none, Option.bind_some, List.map_cons, List.map_nil, if_true, if_false, Nat.reduceEqDiff, Int.reduceEq, Nat.reduceAdd, Nat.reduceMul, reduceCtorEq, eq_self, Int.reduceLT, Int.reduceLE, Int.reduceToNat, List.length_cons, List.length_nil, List.all_cons, List.all_nil, List.take_zero, List.drop_nil, List.append_nil, List.getElem?_cons_zero, List.getElem?_cons_succ, List.drop_succ_cons, List.drop_zero, List.take_succ_cons, List.cons_append, Nat.reduceLeDiff, Int.cast_ofNat_Int]
  rw [w_enter]
  simp only [WA, isStore, isCall, isK, freshI, stampO, List.nil_append, Option.map_some, Option.map_none, Option.bind_some, List.map_cons, List.map_nil, if_true, if_false, Nat.reduceEqDiff, Int.reduceEq, Nat.reduceAdd, Nat.reduceMul, reduceCtorEq, eq_self, Int.reduceLT, Int.reduceLE, Int.reduceToNat, List.length_cons, List.length_nil, List.all_cons, List.all_nil, List.take_zero, List.drop_nil, List.append_nil, List.getElem?_cons_zero, List.getElem?_cons_succ, List.drop_succ_cons, List.drop_zero, List.take_succ_cons, List.cons_append, Nat.reduceLeDiff, Int.cast_ofNat_Int, r1]
  exact ⟨r3, r4, r5⟩
end Go.Proofs.Ythnccfmmeaeibaa

/-! Tokens: the document's; whether they are the same. -/
set_option linter.unusedSimpArgs false
set_option linter.unusedVariables false
namespace Go.Proofs.Ythnccfmmeaeibaa
open Go Lon
set_option maxRecDepth 100000
theorem l_AllD {H0 : AHeap} {x : Value} {L : List Rl} {b : Value} {us : List Int} (hR : Right L) (hL : L.length ≤ 512) (hr : Rules H0 x L) (hrc : CutR H0 x) (hb : Ints H0 b us) (hC : Cut Try.prog H0 b 1) (hs : us.length < 1000000) : ∀ (c a : Nat) (H : AHeap) (out : Value) (T : List Tok), us.length - a ≤ c → a ≤ us.length → Ext H0 H → OwnToks Try.prog H 39 out T → From H0.n out → AncB H0.n H 39 out → T.length ≤ a →
    Out (run Try.prog (tabF tab) om1 (.loop [0, 1, 5, 6] b_lontarlaw05_All_0) [(0, x), (1, b), (5, out), (6, .int .i64 a)] H) fun y e' H' => y = .exit 0 ∧ Ext H0 H' ∧ OwnToks Try.prog H' 39 (eget e' 5) (T ++ allU L (us.drop a) a) ∧ From H0.n (eget e' 5) ∧ AncB H0.n H' 39 (eget e' 5) := by
  intro c
  induction c with
  | zero =>
    intro a H out T hc ha hx ho hf hA hl
    have hlt : ¬ ((a : Int) < us.length) := by omega
    have hlen := hb.len (H2 := H)
    rw [w_loop_b b_lontarlaw05_All_0.eq_1, List.drop_of_length_le (by omega), allU_nil, List.append_nil]
    simp only [WA, isStore, isCall, isK, freshI, stampO, List.nil_append, Option.map_some, Option.map_none, Option.bind_some, List.map_cons, List.map_nil, if_true, if_false, Nat.reduceEqDiff, Int.reduceEq, Nat.reduceAdd, Nat.reduceMul, reduceCtorEq, eq_self, Int.reduceLT, Int.reduceLE, Int.reduceToNat, List.length_cons, List.length_nil, List.all_cons, List.all_nil, List.take_zero, List.drop_nil, List.append_nil, List.getElem?_cons_zero, List.getElem?_cons_succ, List.drop_succ_cons, List.drop_zero, List.take_succ_cons, List.cons_append, Nat.reduceLeDiff, Int.cast_ofNat_Int, hlen, hlt]
    exact ⟨hx, ho, hf, hA⟩
  | succ c ih =>
    intro a H out T hc ha hx ho hf hA hl
    have hlen := hb.len (H2 := H)
    by_cases hlt : (a : Int) < us.length
    · obtain ⟨b', s1, s2, s3⟩ := (hb.ext hx).drop (hC.ext hx) ha
      have s1' := s1 .i64
      have hne : us.drop a ≠ [] := fun e => by have := congrArg List.length e; rw [List.length_drop, List.length_nil] at this; omega
      obtain ⟨v, H1, cD, x1, rfl⟩ := c_Doc (hr.ext hx) (hrc.ext hx) s2 s3 (by omega) (by unfold Lon.tiny; rw [List.length_drop]; omega)
      rw [show docF (us.drop a) L 0 (-1) 0 false = lgs L (us.drop a) from rfl] at cD
      obtain ⟨n, e, n1, n2⟩ := oneT_len hR hne (a : Int)
      rw [allU_cons hR hne, e, List.drop_drop, ← Int.natCast_add]
      rw [List.length_drop] at n2
      have step : ∀ {p : Option Addr} {cc : Nat} {u : Tok}, u = oneT L (us.drop a) (a : Int) → tokQ Try.prog H1 (tokC p cc u) u → ∃ v' H4, appendA (H1.push ⟨tokC p cc u, 39, .tip, 0, []⟩) out (.slice (some ⟨H1.n, 0, none⟩) 1 2) 39 4 48 = some (v', H4) ∧ Ext H0 H4 ∧ OwnToks Try.prog H4 39 v' (T ++ [oneT L (us.drop a) (a : Int)]) ∧ From H0.n v' ∧ AncB H0.n H4 39 v' := by
        intro p cc u hu q1
        have hx3 := Ext.push H1 ⟨tokC p cc u, 39, .tip, 0, []⟩
        have g3 := get_push_self (H := H1) (b := ⟨tokC p cc u, 39, .tip, 0, []⟩)
        obtain ⟨v', H4, m1, m2, m3, m4, m5, m6⟩ := (ho.ext tokQ_mono (x1.trans hx3)).push tokQ_mono (bytes := 48) (c := 2) g3 rfl (tokQ_mono hx3.kp q1) tokC_one (by omega) (by omega)
        rw [hu] at m2
        exact ⟨v', H4, m1, Ext.grow ((hx.trans x1).trans hx3) m5 m6 hf, m2, m3.mono ((hx.trans x1).trans hx3).1, appendA_anc m1 hf ((hA.ext x1).ext hx3)⟩
      by_cases h0 : (lgs L (us.drop a)).1 < 0
      · have eu : oneT L (us.drop a) (a : Int) = ⟨a, 1, [], 3⟩ := by unfold oneT; rw [if_pos h0]
        have en : n = 1 := by rw [eu] at e; simp only at e; omega
        subst en
        obtain ⟨v', H4, m1, m2, m3, m4, m5⟩ := step (p := none) (cc := 0) (u := ⟨a, 1, [], 3⟩) eu.symm ⟨none, 0, rfl, Sl.nil _ 1, (by decide : (0 : Nat) < 4611686018427387904), trivial⟩
        have hw : IntKind.i64.wrap ((a : Int) + 1) = ((a + 1 : Nat) : Int) := by rw [wrap64 (by omega) (by omega)]; omega
        obtain ⟨y, e', H', r1, r2, r3, r4, r5⟩ := ih (a + 1) H4 v' _ (by omega) (by omega) m2 m3 m4 m5 (by rw [List.length_append, List.length_singleton]; omega)
        rw [List.append_assoc] at r4
        rw [w_loop_b b_lontarlaw05_All_0.eq_1]
        simp only [WA, isStore, isCall, isK, freshI, stampO, List.nil_append, Option.map_some, Option.map_none, Option.bind_some, List.map_cons, List.map_nil, if_true, if_false, Nat.reduceEqDiff, Int.reduceEq, Nat.reduceAdd, Nat.reduceMul, reduceCtorEq, eq_self, Int.reduceLT, Int.reduceLE, Int.reduceToNat, List.length_cons, List.length_nil, List.all_cons, List.all_nil, List.take_zero, List.drop_nil, List.append_nil, List.getElem?_cons_zero, List.getElem?_cons_succ, List.drop_succ_cons, List.drop_zero, List.take_succ_cons, List.cons_append, Nat.reduceLeDiff, Int.cast_ofNat_Int, hlen, hlt, s1', cD, h0, v_tokBad, v_tok1, m1, hw]
        rw [w_enter]
        simp only [WA, isStore, isCall, isK, freshI, stampO, List.nil_append, Option.map_some, Option.map_none, Option.bind_some, List.map_cons, List.map_nil, if_true, if_false, Nat.reduceEqDiff, Int.reduceEq, Nat.reduceAdd, Nat.reduceMul, reduceCtorEq, eq_self, Int.reduceLT, Int.reduceLE, Int.reduceToNat, List.length_cons, List.length_nil, List.all_cons, List.all_nil, List.take_zero, List.drop_nil, List.append_nil, List.getElem?_cons_zero, List.getElem?_cons_succ, List.drop_succ_cons, List.drop_zero, List.take_succ_cons, List.cons_append, Nat.reduceLeDiff, Int.cast_ofNat_Int, r1]
        exact ⟨r2, r3, r4, r5⟩
      · obtain ⟨p1, p2, r, p3, p4, p5⟩ := lgs_pos hR h0
        obtain ⟨k, hk⟩ : ∃ k : Nat, (lgs L (us.drop a)).1 = k := ⟨(lgs L (us.drop a)).1.toNat, by omega⟩
        rw [hk] at p3
        have p3' : L[k]? = some r := p3
        have eu : oneT L (us.drop a) (a : Int) = ⟨a, (lgs L (us.drop a)).2.1, r.2, 0⟩ := by unfold oneT; rw [if_neg h0, hk]; simp only [Int.toNat_natCast, p3']
        obtain ⟨i1, o1, vi, vo, h1, h2, h3, h4, h5, h6, h7, h8, h9, h10⟩ := Rules.atC ((hr.ext hx).ext x1) ((hrc.ext hx).ext x1) p3'
        have h6' := h6
        obtain ⟨⟨ao, co, rfl⟩, _⟩ := h6'
        have en : (lgs L (us.drop a)).2.1 = n := by rw [eu] at e; simp only at e; omega
        obtain ⟨v', H4, m1, m2, m3, m4, m5⟩ := step (p := ao) (cc := co) (u := ⟨a, (lgs L (us.drop a)).2.1, r.2, 0⟩) eu.symm ⟨ao, co, rfl, h6, h8, h10⟩
        rw [hk] at cD h0
        rw [en] at cD m1
        have hw : IntKind.i64.wrap ((a : Int) + (n : Int)) = ((a + n : Nat) : Int) := by rw [wrap64 (by omega) (by omega)]; omega
        obtain ⟨y, e', H', r1, r2, r3, r4, r5⟩ := ih (a + n) H4 v' _ (by omega) (by omega) m2 m3 m4 m5 (by rw [List.length_append, List.length_singleton]; omega)
        rw [List.append_assoc] at r4
        rw [w_loop_b b_lontarlaw05_All_0.eq_1]
        simp only [WA, isStore, isCall, isK, freshI, stampO, List.nil_append, Option.map_some, Option.map_none, Option.bind_some, List.map_cons, List.map_nil, if_true, if_false, Nat.reduceEqDiff, Int.reduceEq, Nat.reduceAdd, Nat.reduceMul, reduceCtorEq, eq_self, Int.reduceLT, Int.reduceLE, Int.reduceToNat, List.length_cons, List.length_nil, List.all_cons, List.all_nil, List.take_zero, List.drop_nil, List.append_nil, List.getElem?_cons_zero, List.getElem?_cons_succ, List.drop_succ_cons, List.drop_zero, List.take_succ_cons, List.cons_append, Nat.reduceLeDiff, Int.cast_ofNat_Int, hlen, hlt, s1', cD, h0, h1, h3, v_tok, v_tok1, m1, hw]
        rw [w_enter]
        simp only [WA, isStore, isCall, isK, freshI, stampO, List.nil_append, Option.map_some, Option.map_none, Option.bind_some, List.map_cons, List.map_nil, if_true, if_false, Nat.reduceEqDiff, Int.reduceEq, Nat.reduceAdd, Nat.reduceMul, reduceCtorEq, eq_self, Int.reduceLT, Int.reduceLE, Int.reduceToNat, List.length_cons, List.length_nil, List.all_cons, List.all_nil, List.take_zero, List.drop_nil, List.append_nil, List.getElem?_cons_zero, List.getElem?_cons_succ, List.drop_succ_cons, List.drop_zero, List.take_succ_cons, List.cons_append, Nat.reduceLeDiff, Int.cast_ofNat_Int, r1]
        exact ⟨r2, r3, r4, r5⟩
    · rw [w_loop_b b_lontarlaw05_All_0.eq_1, List.drop_of_length_le (by omega), allU_nil, List.append_nil]
      simp only [WA, isStore, isCall, isK, freshI, stampO, List.nil_append, Option.map_some, Option.map_none, Option.bind_some, List.map_cons, List.map_nil, if_true, if_false, Nat.reduceEqDiff, Int.reduceEq, Nat.reduceAdd, Nat.reduceMul, reduceCtorEq, eq_self, Int.reduceLT, Int.reduceLE, Int.reduceToNat, List.length_cons, List.length_nil, List.all_cons, List.all_nil, List.take_zero, List.drop_nil, List.append_nil, List.getElem?_cons_zero, List.getElem?_cons_succ, List.drop_succ_cons, List.drop_zero, List.take_succ_cons, List.cons_append, Nat.reduceLeDiff, Int.cast_ofNat_Int, hlen, hlt]
      exact ⟨hx, ho, hf, hA⟩
theorem c_AllD {x : Value} {L : List Rl} {b : Value} {us : List Int} {H : AHeap} (hR : Right L) (hL : L.length ≤ 512) (hr : Rules H x L) (hrc : CutR H x) (hb : Ints H b us) (hC : Cut Try.prog H b 1) (hs : us.length < 1000000) :
    Gives (cw Try.prog (tabF tab) om1 20 [x, b] H) fun v H' => Ext H H' ∧ OwnToks Try.prog H' 39 v (allU L us 0) ∧ From H.n v ∧ AncB H.n H' 39 v := by
  rw [cw_run (F := F_lontarlaw05_All) rfl rfl rfl]
  unfold F_lontarlaw05_All k_lontarlaw05_All
  obtain ⟨y, e', H', r1, rfl, r3, r4, r5⟩ := l_AllD hR hL hr hrc hb hC hs us.length 0 H (.slice none 0 0) [] (by omega) (Nat.zero_le _) (Ext.refl H) OwnRws.nil trivial AncB.nil (Nat.le_refl _)
  simp only [Int.cast_ofNat_Int] at r1
  rw [List.drop_zero, List.nil_append] at r4
  simp only [WA, isStore, isCall, isK, freshI, stampO, List.nil_append, Option.map_some, Option.map_none, Option.bind_some, List.map_cons, List.map_nil, if_true, if_false, Nat.reduceEqDiff, Int.reduceEq, Nat.reduceAdd, Nat.reduceMul, reduceCtorEq, eq_self, Int.reduceLT, Int.reduceLE, Int.reduceToNat, List.length_cons, List.length_nil, List.all_cons, List.all_nil, List.take_zero, List.drop_nil, List.append_nil, List.getElem?_cons_zero, List.getElem?_cons_succ, List.drop_succ_cons, List.drop_zero, List.take_succ_cons, List.cons_append, Nat.reduceLeDiff, Int.cast_ofNat_Int]
  rw [w_enter]
  simp only [WA, isStore, isCall, isK, freshI, stampO, List.nil_append, Option.map_some, Option.map_none, Option.bind_some, List.map_cons, List.map_nil, if_true, if_false, Nat.reduceEqDiff, Int.reduceEq, Nat.reduceAdd, Nat.reduceMul, reduceCtorEq, eq_self, Int.reduceLT, Int.reduceLE, Int.reduceToNat, List.length_cons, List.length_nil, List.all_cons, List.all_nil, List.take_zero, List.drop_nil, List.append_nil, List.getElem?_cons_zero, List.getElem?_cons_succ, List.drop_succ_cons, List.drop_zero, List.take_succ_cons, List.cons_append, Nat.reduceLeDiff, Int.cast_ofNat_Int, r1]
  exact ⟨r3, r4, r5⟩
/-- A token's fields, read. -/
theorem Toks.at' {H : AHeap} {v : Value} {A : List Tok} (h : Toks Try.prog H v A) {k : Nat} {x : Tok} (hk : A[k]? = some x) : ∃ i o p c, (∀ (kd : IntKind) (H2 : AHeap), vIaddr v (.int kd k) 4 H2 = some (.pointer (some ⟨i, o, none⟩), H2)) ∧ gotLoad (H.get i) o none H = some (.int .i64 x.at_, H) ∧ gotLoad (H.get i) (o + 1) none H = some (.int .i64 x.len, H) ∧ gotLoad (H.get i) (o + 2) none H = some (.slice p x.out.length c, H) ∧ gotLoad (H.get i) (o + 3) none H = some (.int .i64 x.err, H) ∧ gotLoad (H.get i) o (some 4) H = some (.agg ⟨tokC p c x⟩, H) ∧ Ints H (.slice p x.out.length c) x.out ∧ tiny x.out ∧ Cut Try.prog H (.slice p x.out.length c) 1 := by
  obtain ⟨i, o, row, a1, a2, a3, a4, p, c, rfl, a5, a6, a7⟩ := Rws.at h hk
  exact ⟨i, o, p, c, a1, a2 _ rfl, a3 1 _ rfl, a3 2 _ rfl, a3 3 _ rfl, a4, a5, a6, a7⟩
theorem l_SameT {a b : Value} {A B : List Tok} {H : AHeap} (ha : Toks Try.prog H a A) (hb : Toks Try.prog H b B) (hl : A.length = B.length) : ∀ (k i : Nat), i + k = A.length →
    Out (run Try.prog (tabF tab) om1 (.loop [0, 1, 12, 13] b_lontarlaw01_Same_0) [(0, a), (1, b), (12, .int .i64 A.length), (13, .int .i64 i)] H) fun y e' H' => H' = H ∧ if A.drop i = B.drop i then y = .exit 0 else y = .ret ∧ eget e' 4 = .bool false := by
  have hA := ha.1
  intro k
  induction k with
  | zero =>
    intro i hi
    have hlt : ¬ ((i : Int) < A.length) := by omega
    rw [w_loop_b b_lontarlaw01_Same_0.eq_1, List.drop_of_length_le (by omega), List.drop_of_length_le (by omega)]
    simp only [WA, isStore, isCall, isK, freshI, stampO, List.nil_append, Option.map_some, Option.map_none, Option.bind_some, List.map_cons, List.map_nil, if_true, if_false, Nat.reduceEqDiff, Int.reduceEq, Nat.reduceAdd, Nat.reduceMul, reduceCtorEq, eq_self, Int.reduceLT, Int.reduceLE, Int.reduceToNat, List.length_cons, List.length_nil, List.all_cons, List.all_nil, List.take_zero, List.drop_nil, List.append_nil, List.getElem?_cons_zero, List.getElem?_cons_succ, List.drop_succ_cons, List.drop_zero, List.take_succ_cons, List.cons_append, Nat.reduceLeDiff, Int.cast_ofNat_Int, hlt]
  | succ k ih =>
    intro i hi
    have hlt : (i : Int) < A.length := by omega
    obtain ⟨x, hx, hdx⟩ := drop_at (L := A) (i := i) (by omega)
    obtain ⟨y, hy, hdy⟩ := drop_at (L := B) (i := i) (by omega)
    obtain ⟨i1, o1, p1, c1, a1, a2, a3, a4, a5, a6, a7, a8, _⟩ := Toks.at' ha hx
    obtain ⟨i2, o2, p2, c2, b1, b2, b3, b4, b5, b6, b7, b8, _⟩ := Toks.at' hb hy
    have cU := c_Units a7 b7 a8
    have hw2 : IntKind.i64.wrap ((i : Int) + 1) = ((i + 1 : Nat) : Int) := by rw [wrap64 (by omega) (by omega)]; omega
    have he : (A.drop i = B.drop i) = ((x.at_ = y.at_ ∧ x.len = y.len ∧ x.err = y.err ∧ x.out = y.out) ∧ A.drop (i + 1) = B.drop (i + 1)) := by
      rw [hdx, hdy, List.cons.injEq]
      congr 1
      refine propext ⟨fun h => by subst h; exact ⟨rfl, rfl, rfl, rfl⟩, fun ⟨h1, h2, h3, h4⟩ => ?_⟩
      cases x; cases y; simp only at h1 h2 h3 h4; subst h1 h2 h3 h4; rfl
    rw [w_loop_b b_lontarlaw01_Same_0.eq_1]
    by_cases e1 : x.at_ = y.at_
    · have z1 : (x.at_ ≠ y.at_) = False := by simp [e1]
      by_cases e2 : x.len = y.len
      · have z2 : (x.len ≠ y.len) = False := by simp [e2]
        by_cases e3 : x.err = y.err
        · have z3 : (x.err ≠ y.err) = False := by simp [e3]
          by_cases e4 : x.out = y.out
          · rw [decide_eq_true e4] at cU
            obtain ⟨y', e', H', r1, rfl, r3⟩ := ih (i + 1) (by omega)
            simp only [WA, isStore, isCall, isK, freshI, stampO, List.nil_append, Option.map_some, Option.map_none, Option.bind_some, List.map_cons, List.map_nil, if_true, if_false, Nat.reduceEqDiff, Int.reduceEq, Nat.reduceAdd, Nat.reduceMul, reduceCtorEq, eq_self, Int.reduceLT, Int.reduceLE, Int.reduceToNat, List.length_cons, List.length_nil, List.all_cons, List.all_nil, List.take_zero, List.drop_nil, List.append_nil, List.getElem?_cons_zero, List.getElem?_cons_succ, List.drop_succ_cons, List.drop_zero, List.take_succ_cons, List.cons_append, Nat.reduceLeDiff, Int.cast_ofNat_Int, hlt, a1, a2, a3, a4, a5, b1, b2, b3, b4, b5, z1, z2, z3, cU, hw2]
            rw [w_enter]
            simp only [WA, isStore, isCall, isK, freshI, stampO, List.nil_append, Option.map_some, Option.map_none, Option.bind_some, List.map_cons, List.map_nil, if_true, if_false, Nat.reduceEqDiff, Int.reduceEq, Nat.reduceAdd, Nat.reduceMul, reduceCtorEq, eq_self, Int.reduceLT, Int.reduceLE, Int.reduceToNat, List.length_cons, List.length_nil, List.all_cons, List.all_nil, List.take_zero, List.drop_nil, List.append_nil, List.getElem?_cons_zero, List.getElem?_cons_succ, List.drop_succ_cons, List.drop_zero, List.take_succ_cons, List.cons_append, Nat.reduceLeDiff, Int.cast_ofNat_Int, r1]
            simpa [he, e1, e2, e3, e4] using r3
          · rw [decide_eq_false e4] at cU
            simp only [WA, isStore, isCall, isK, freshI, stampO, List.nil_append, Option.map_some, Option.map_none, Option.bind_some, List.map_cons, List.map_nil, if_true, if_false, Nat.reduceEqDiff, Int.reduceEq, Nat.reduceAdd, Nat.reduceMul, reduceCtorEq, eq_self, Int.reduceLT, Int.reduceLE, Int.reduceToNat, List.length_cons, List.length_nil, List.all_cons, List.all_nil, List.take_zero, List.drop_nil, List.append_nil, List.getElem?_cons_zero, List.getElem?_cons_succ, List.drop_succ_cons, List.drop_zero, List.take_succ_cons, List.cons_append, Nat.reduceLeDiff, Int.cast_ofNat_Int, hlt, a1, a2, a3, a4, a5, b1, b2, b3, b4, b5, z1, z2, z3, cU]
            simp [he, e4]
        · have z3 : (x.err ≠ y.err) = True := by simp [e3]
          simp only [WA, isStore, isCall, isK, freshI, stampO, List.nil_append, Option.map_some, Option.map_none, Option.bind_some, List.map_cons, List.map_nil, if_true, if_false, Nat.reduceEqDiff, Int.reduceEq, Nat.reduceAdd, Nat.reduceMul, reduceCtorEq, eq_self, Int.reduceLT, Int.reduceLE, Int.reduceToNat, List.length_cons, List.length_nil, List.all_cons, List.all_nil, List.take_zero, List.drop_nil, List.append_nil, List.getElem?_cons_zero, List.getElem?_cons_succ, List.drop_succ_cons, List.drop_zero, List.take_succ_cons, List.cons_append, Nat.reduceLeDiff, Int.cast_ofNat_Int, hlt, a1, a2, a3, a4, a5, b1, b2, b3, b4, b5, z1, z2, z3]
          simp [he, e3]
      · have z2 : (x.len ≠ y.len) = True := by simp [e2]
        simp only [WA, isStore, isCall, isK, freshI, stampO, List.nil_append, Option.map_some, Option.map_none, Option.bind_some, List.map_cons, List.map_nil, if_true, if_false, Nat.reduceEqDiff, Int.reduceEq, Nat.reduceAdd, Nat.reduceMul, reduceCtorEq, eq_self, Int.reduceLT, Int.reduceLE, Int.reduceToNat, List.length_cons, List.length_nil, List.all_cons, List.all_nil, List.take_zero, List.drop_nil, List.append_nil, List.getElem?_cons_zero, List.getElem?_cons_succ, List.drop_succ_cons, List.drop_zero, List.take_succ_cons, List.cons_append, Nat.reduceLeDiff, Int.cast_ofNat_Int, hlt, a1, a2, a3, a4, a5, b1, b2, b3, b4, b5, z1, z2]
        simp [he, e2]
    · have z1 : (x.at_ ≠ y.at_) = True := by simp [e1]
      simp only [WA, isStore, isCall, isK, freshI, stampO, List.nil_append, Option.map_some, Option.map_none, Option.bind_some, List.map_cons, List.map_nil, if_true, if_false, Nat.reduceEqDiff, Int.reduceEq, Nat.reduceAdd, Nat.reduceMul, reduceCtorEq, eq_self, Int.reduceLT, Int.reduceLE, Int.reduceToNat, List.length_cons, List.length_nil, List.all_cons, List.all_nil, List.take_zero, List.drop_nil, List.append_nil, List.getElem?_cons_zero, List.getElem?_cons_succ, List.drop_succ_cons, List.drop_zero, List.take_succ_cons, List.cons_append, Nat.reduceLeDiff, Int.cast_ofNat_Int, hlt, a1, a2, a3, a4, a5, b1, b2, b3, b4, b5, z1]
      simp [he, e1]
theorem c_SameT {a b : Value} {A B : List Tok} {H : AHeap} (ha : Toks Try.prog H a A) (hb : Toks Try.prog H b B) : cw Try.prog (tabF tab) om1 17 [a, b] H = some (.bool (decide (A = B)), H) := by
  rw [cw_run (F := F_lontarlaw01_Same) rfl rfl rfl]
  unfold F_lontarlaw01_Same k_lontarlaw01_Same
  have la := fun H2 => ha.len (H2 := H2)
  have lb := fun H2 => hb.len (H2 := H2)
  by_cases hl : A.length = B.length
  · obtain ⟨x, e', H', r1, rfl, r3⟩ := l_SameT ha hb hl A.length 0 (by omega)
    have hne : (((A.length : Nat) : Int) ≠ ((B.length : Nat) : Int)) = False := by simp [hl]
    simp only [Int.cast_ofNat_Int] at r1
    simp only [WA, isStore, isCall, isK, freshI, stampO, List.nil_append, Option.map_some, Option.map_none, Option.bind_some, List.map_cons, List.map_nil, if_true, if_false, Nat.reduceEqDiff, Int.reduceEq, Nat.reduceAdd, Nat.reduceMul, reduceCtorEq, eq_self, Int.reduceLT, Int.reduceLE, Int.reduceToNat, List.length_cons, List.length_nil, List.all_cons, List.all_nil, List.take_zero, List.drop_nil, List.append_nil, List.getElem?_cons_zero, List.getElem?_cons_succ, List.drop_succ_cons, List.drop_zero, List.take_succ_cons, List.cons_append, Nat.reduceLeDiff, Int.cast_ofNat_Int, la, lb, hne]
    rw [w_enter]
    simp only [WA, isStore, isCall, isK, freshI, stampO, List.nil_append, Option.map_some, Option.map_none, Option.bind_some, List.map_cons, List.map_nil, if_true, if_false, Nat.reduceEqDiff, Int.reduceEq, Nat.reduceAdd, Nat.reduceMul, reduceCtorEq, eq_self, Int.reduceLT, Int.reduceLE, Int.reduceToNat, List.length_cons, List.length_nil, List.all_cons, List.all_nil, List.take_zero, List.drop_nil, List.append_nil, List.getElem?_cons_zero, List.getElem?_cons_succ, List.drop_succ_cons, List.drop_zero, List.take_succ_cons, List.cons_append, Nat.reduceLeDiff, Int.cast_ofNat_Int, r1]
    simp only [List.drop_zero] at r3
    split at r3
    · rename_i h
      subst r3
      simp only [WA, isStore, isCall, isK, freshI, stampO, List.nil_append, Option.map_some, Option.map_none, Option.bind_some, List.map_cons, List.map_nil, if_true, if_false, Nat.reduceEqDiff, Int.reduceEq, Nat.reduceAdd, Nat.reduceMul, reduceCtorEq, eq_self, Int.reduceLT, Int.reduceLE, Int.reduceToNat, List.length_cons, List.length_nil, List.all_cons, List.all_nil, List.take_zero, List.drop_nil, List.append_nil, List.getElem?_cons_zero, List.getElem?_cons_succ, List.drop_succ_cons, List.drop_zero, List.take_succ_cons, List.cons_append, Nat.reduceLeDiff, Int.cast_ofNat_Int, h]
    · rename_i h
      obtain ⟨rfl, r4⟩ := r3
      simp only [WA, isStore, isCall, isK, freshI, stampO, List.nil_append, Option.map_some, Option.map_none, Option.bind_some, List.map_cons, List.map_nil, if_true, if_false, Nat.reduceEqDiff, Int.reduceEq, Nat.reduceAdd, Nat.reduceMul, reduceCtorEq, eq_self, Int.reduceLT, Int.reduceLE, Int.reduceToNat, List.length_cons, List.length_nil, List.all_cons, List.all_nil, List.take_zero, List.drop_nil, List.append_nil, List.getElem?_cons_zero, List.getElem?_cons_succ, List.drop_succ_cons, List.drop_zero, List.take_succ_cons, List.cons_append, Nat.reduceLeDiff, Int.cast_ofNat_Int, r4, h]
  · have hne : (((A.length : Nat) : Int) ≠ ((B.length : Nat) : Int)) = True := by simp; omega
    have hab : ¬ A = B := fun h => hl (by rw [h])
    simp only [WA, isStore, isCall, isK, freshI, stampO, List.nil_append, Option.map_some, Option.map_none, Option.bind_some, List.map_cons, List.map_nil, if_true, if_false, Nat.reduceEqDiff, Int.reduceEq, Nat.reduceAdd, Nat.reduceMul, reduceCtorEq, eq_self, Int.reduceLT, Int.reduceLE, Int.reduceToNat, List.length_cons, List.length_nil, List.all_cons, List.all_nil, List.take_zero, List.drop_nil, List.append_nil, List.getElem?_cons_zero, List.getElem?_cons_succ, List.drop_succ_cons, List.drop_zero, List.take_succ_cons, List.cons_append, Nat.reduceLeDiff, Int.cast_ofNat_Int, la, lb, hne, hab]
theorem tk0 {c : Nat} {p : Option Addr} {t : Tok} : (tokC p c t)[0]? = some (.int .i64 t.at_) := rfl
theorem tk1 {c : Nat} {p : Option Addr} {t : Tok} : (tokC p c t)[1]? = some (.int .i64 t.len) := rfl
theorem tk2 {c : Nat} {p : Option Addr} {t : Tok} : (tokC p c t)[2]? = some (.slice p t.out.length c) := rfl
theorem tk3 {c : Nat} {p : Option Addr} {t : Tok} : (tokC p c t)[3]? = some (.int .i64 t.err) := rfl
/-- A token is right or wrong. -/
theorem oneT_is {L : List Rl} (hR : Right L) {us : List Int} (hn : us ≠ []) (a : Int) : (oneT L us a = ⟨a, 1, [], 3⟩ ∧ (lgs L us).1 < 0) ∨ ∃ (k n : Nat) (r : Rl), (lgs L us).1 = k ∧ (lgs L us).2.1 = n ∧ 0 < n ∧ n ≤ us.length ∧ L[k]? = some r ∧ r.1 = us.take n ∧ 0 < r.2.length ∧ r.2.length ≤ 8 ∧ oneT L us a = ⟨a, n, r.2, 0⟩ := by
  by_cases h0 : (lgs L us).1 < 0
  · left
    exact ⟨by unfold oneT; rw [if_pos h0], h0⟩
  · right
    obtain ⟨p1, p2, r, p3, p4, p5⟩ := lgs_pos hR h0
    obtain ⟨k, hk⟩ : ∃ k : Nat, (lgs L us).1 = k := ⟨(lgs L us).1.toNat, by omega⟩
    rw [hk] at p3
    have p3' : L[k]? = some r := p3
    obtain ⟨q1, q2⟩ := side_len ((hR.1 r (List.mem_of_getElem? p3')).2)
    refine ⟨k, _, r, hk, rfl, p1, p2, p3', p4, q1, q2, ?_⟩
    unfold oneT
    rw [if_neg h0, hk]
    simp only [Int.toNat_natCast, p3']
end Go.Proofs.Ythnccfmmeaeibaa

/-! What all laws begin with: rules that are right, and their trie. -/
set_option linter.unusedSimpArgs false
set_option linter.unusedVariables false
namespace Go.Proofs.Ythnccfmmeaeibaa
open Go Lon
set_option maxRecDepth 100000
theorem v_nilp {H : AHeap} {t : Nat} : vIsNil 0 false (.pointer (some ⟨t, 0, none⟩)) H = some (.bool false, H) := rfl
theorem start {a : Value} {R : List RowD} {H : AHeap} (ha : RowsAt H a R) : ∃ (v : Value) (H1 : AHeap) (t : Nat) (H2 : AHeap) (L : List Rl), cw Try.prog (tabF tab) om1 15 [a] H = some (v, H1) ∧ cw Try.prog (tabF tab) om1 16 [v] H1 = some (.tuple ⟨[.pointer (some ⟨t, 0, none⟩), .int .i64 0]⟩, H2) ∧ Ext H H2 ∧ TrieOk H2 t L ∧ Rules H2 v L ∧ CutR H2 v ∧ L.length ≤ 40 ∧ Right L := by
  obtain ⟨v1, H1, c1, x1, o1, k1⟩ := c_Right ha
  have h40 := RL_len R
  have hlen := rgt_len (L := RL R) (T := [])
  simp only [List.length_nil, Nat.zero_add] at hlen
  have hR := o1.rules (by omega)
  have hC : Cut Try.prog H1 v1 2 := o1.cut (by kernel_rfl)
  have hgood := rgt_good (L := RL R) Good.nil
  obtain ⟨v2, H2, c2, x2, t, rfl, hT⟩ := c_OfT hR hC hgood (by omega)
  exact ⟨v1, H1, t, H2, _, c1, c2, x1.trans x2, hT, hR.ext x2, k1.ext x2, by omega, hgood⟩
theorem min60 {n : Nat} : ∃ k : Nat, k ≤ n ∧ k ≤ 60 ∧ (if (60 : Int) < (n : Int) then (60 : Int) else (n : Int)) = (k : Int) := by
  refine ⟨min n 60, Nat.min_le_left _ _, Nat.min_le_right _ _, ?_⟩
  split <;> omega
end Go.Proofs.Ythnccfmmeaeibaa

/-! Units gathered from tokens. -/
set_option linter.unusedSimpArgs false
set_option linter.unusedVariables false
namespace Go.Proofs.Ythnccfmmeaeibaa
open Go Lon
set_option maxRecDepth 100000
abbrev OwnI (H : AHeap) (v : Value) (l : List Int) : Prop := Own H 3 1 v l.length (ints l)
theorem OwnI.nil {H : AHeap} : OwnI H (.slice none 0 0) [] := ⟨rfl, .inl ⟨rfl, rfl⟩⟩
theorem OwnI.asI {H : AHeap} {v : Value} {l : List Int} (h : OwnI H v l) : Ints H v l := h.sl
theorem OwnI.cutI {H : AHeap} {v : Value} {l : List Int} (h : OwnI H v l) : Cut Try.prog H v 1 := Own.cut h (by kernel_rfl)
theorem OwnI.add {H0 H : AHeap} {v x : Value} {l m : List Int} (ho : OwnI H v l) (hf : From H0.n v) (hx : Ext H0 H) (hi : Ints H x m) (hs : l.length + m.length < 100000000) :
    ∃ v' H', appendA H v x 3 1 8 = some (v', H') ∧ OwnI H' v' (l ++ m) ∧ From H0.n v' ∧ Ext H0 H' := by
  by_cases hm : m = []
  · subst hm
    refine ⟨v, H, ?_, by rw [List.append_nil]; exact ho, hf, hx⟩
    obtain ⟨⟨b1, b2, rfl⟩, hbc⟩ := hi
    obtain ⟨⟨d1, d2, rfl⟩, hdc⟩ := ho.sl
    unfold appendA
    simp only [hbc, hdc]
    exact if_pos List.length_nil
  · obtain ⟨v2, H2, q1, q2, q3, q4, q5, q6⟩ := Own.append2 (bytes := 8) ho hi (List.length_pos_iff.2 hm) (ones_ints m) (by omega)
    refine ⟨v2, H2, q1, ?_, q3.mono hx.1, Ext.grow hx q5 q6 hf⟩
    unfold OwnI
    rw [List.length_append]
    have : ints l ++ ints m = ints (l ++ m) := by simp [Lon.ints]
    rw [← this]
    exact q2
/-- A token's Out laid behind units. -/
theorem addTok {H0 H : AHeap} {w v : Value} {T : List Tok} {k : Nat} {x : Tok} {l : List Int} (hT : Toks Try.prog H0 w T) (hk : T[k]? = some x) (ho : OwnI H v l) (hf : From H0.n v) (hx : Ext H0 H) (hs : l.length + x.out.length < 100000000) :
    ∃ i o p c H1 v' H2, (∀ (kd : IntKind) (H2 : AHeap), vIaddr w (.int kd k) 4 H2 = some (.pointer (some ⟨i, o, none⟩), H2)) ∧ gotLoad (H.get i) o (some 4) H = some (.agg ⟨tokC p c x⟩, H) ∧ H1 = H.push ⟨tokC p c x, 39, .tip, 1, []⟩ ∧ H1.get H.n = some ⟨tokC p c x, 39, .tip, 1, []⟩ ∧
      appendA H1 v (.slice p x.out.length c) 3 1 8 = some (v', H2) ∧ OwnI H2 v' (l ++ x.out) ∧ From H0.n v' ∧ Ext H0 H2 ∧ Ext H0 H1 ∧ OwnI H1 v l := by
  obtain ⟨i, o, p, c, a1, a2, a3, a4, a5, a6, a7, a8, a9⟩ := Toks.at' (hT.ext tokQ_mono hx) hk
  have x1 := Ext.push H ⟨tokC p c x, 39, .tip, 1, []⟩
  obtain ⟨v', H2, m1, m2, m3, m4⟩ := OwnI.add (ho.ext x1) hf (hx.trans x1) (a7.ext x1) hs
  exact ⟨i, o, p, c, _, v', H2, a1, a6, rfl, get_push_self, m1, m2, m3, m4, hx.trans x1, ho.ext x1⟩
theorem outs_cons {x : Tok} {T : List Tok} : T.flatMap (·.out) = T.flatMap (·.out) := rfl
end Go.Proofs.Ythnccfmmeaeibaa

/-! Layer 5: rules of one unit each: plain laws, and pairs read from memory. -/
set_option linter.unusedSimpArgs false
set_option linter.unusedVariables false
namespace Go.Proofs.Ythnccfmmeaeibaa
open Go Lon
set_option maxRecDepth 100000
/-- The first pair of a unit. -/
def fD : List (Int × Int) → Int → Option Int
  | [], _ => none
  | d :: D, a => if a = d.1 then some d.2 else fD D a
/-- Pairs, each unit's first alone. -/
def ddp : List (Int × Int) → List (Int × Int) → List (Int × Int)
  | [], D => D
  | r :: R, D => ddp R (if (fD D r.1).isSome then D else D ++ [r])
def rlD (D : List (Int × Int)) : List Rl := D.map fun d => ([d.1], [d.2])
def mpD (D : List (Int × Int)) : List Value := D.flatMap fun d => [.int .i64 d.1, .int .i64 d.2]
theorem find_mpD : ∀ {D : List (Int × Int)} {a : Int}, findC .i64 a (mpD D) = some ((fD D a).map fun b => .int .i64 b)
  | [], a => rfl
  | d :: D, a => by
    show findC .i64 a (.int .i64 d.1 :: .int .i64 d.2 :: mpD D) = _
    unfold findC fD
    rw [if_pos rfl]
    by_cases h : a = d.1
    · rw [if_pos h, if_pos h]; rfl
    · rw [if_neg h, if_neg h, find_mpD]
theorem set_mpD : ∀ {D : List (Int × Int)} {a b : Int}, fD D a = none → setC .i64 a (.int .i64 b) (mpD D) = some (mpD (D ++ [(a, b)]))
  | [], a, b, _ => rfl
  | d :: D, a, b, h => by
    unfold fD at h
    split at h
    · cases h
    · rename_i hne
      show setC .i64 a (.int .i64 b) (.int .i64 d.1 :: .int .i64 d.2 :: mpD D) = _
      unfold setC
      rw [if_pos rfl, if_neg hne, set_mpD h]
      rfl
theorem fD_none {D : List (Int × Int)} {a : Int} : fD D a = none ↔ ∀ d ∈ D, d.1 ≠ a := by
  induction D with
  | nil => simp [fD]
  | cons d D ih =>
    unfold fD
    by_cases h : a = d.1
    · rw [if_pos h]; simp [h]
    · rw [if_neg h, ih]; simp [Ne.symm h]
theorem fD_some {D : List (Int × Int)} {a b : Int} (h : fD D a = some b) : (a, b) ∈ D := by
  induction D with
  | nil => cases h
  | cons d D ih =>
    unfold fD at h
    split at h
    · rename_i e
      injection h with h
      subst e h
      exact List.mem_cons_self ..
    · exact List.mem_cons_of_mem _ (ih h)
structure DB (D : List (Int × Int)) : Prop where
  by1 : ∀ d ∈ D, (0 ≤ d.1 ∧ d.1 < 256) ∧ 0 ≤ d.2 ∧ d.2 < 256
  nd : (D.map (·.1)).Nodup
theorem DB.add {D : List (Int × Int)} {r : Int × Int} (h : DB D) (hn : fD D r.1 = none) (hr : (0 ≤ r.1 ∧ r.1 < 256) ∧ 0 ≤ r.2 ∧ r.2 < 256) : DB (D ++ [r]) := by
  refine ⟨fun d hd => ?_, ?_⟩
  · rcases List.mem_append.1 hd with hd | hd
    · exact h.by1 d hd
    · rw [List.mem_singleton] at hd; subst hd; exact hr
  · rw [List.map_append, List.nodup_append]
    refine ⟨h.nd, by simp, fun x hx y hy => ?_⟩
    obtain ⟨d, hd, rfl⟩ := List.mem_map.1 hx
    simp at hy
    subst hy
    exact fD_none.1 hn d hd
theorem fD_mem {D : List (Int × Int)} (h : DB D) {a b : Int} (hm : (a, b) ∈ D) : fD D a = some b := by
  have hn := h.nd
  clear h
  induction D with
  | nil => cases hm
  | cons d D ih =>
    rw [List.map_cons, List.nodup_cons] at hn
    unfold fD
    rcases List.mem_cons.1 hm with e | hm
    · subst e; rw [if_pos rfl]
    · rw [if_neg (fun e => hn.1 (List.mem_map.2 ⟨(a, b), hm, e⟩))]
      exact ih hm hn.2
theorem rlD_right {D : List (Int × Int)} (h : DB D) : Right (rlD D) := by
  refine ⟨fun r hr => ?_, fun k r hr => ?_⟩
  · obtain ⟨d, hd, rfl⟩ := List.mem_map.1 hr
    have := h.by1 d hd
    exact ⟨side1 ⟨this.1.1, by omega⟩, side1 ⟨this.2.1, by omega⟩⟩
  · rw [fnd_neg]
    intro x hx e
    unfold rlD at hr hx
    rw [← List.map_take] at hx
    obtain ⟨d, hd, rfl⟩ := List.mem_map.1 hx
    rw [List.getElem?_map] at hr
    cases hk : D[k]? with
    | none => rw [hk] at hr; cases hr
    | some d2 =>
      rw [hk] at hr
      injection hr with hr
      subst hr
      obtain ⟨i, hi, rfl⟩ := List.getElem_of_mem hd
      obtain ⟨hkl, rfl⟩ := List.getElem?_eq_some_iff.1 hk
      rw [List.length_take] at hi
      rw [List.getElem_take] at e
      have := (List.pairwise_iff_getElem.1 h.nd) i k (by rw [List.length_map]; omega) (by rw [List.length_map]; exact hkl) (by omega)
      rw [List.getElem_map, List.getElem_map] at this
      simp at e
      exact this e
theorem fnd_rlD {D : List (Int × Int)} {u : Int} : fnd (rlD D) [u] < 0 ↔ fD D u = none := by
  rw [fnd_neg, fD_none]
  constructor
  · intro h d hd e
    exact h ([d.1], [d.2]) (List.mem_map.2 ⟨d, hd, rfl⟩) (by simp [e])
  · intro h r hr e
    obtain ⟨d, hd, rfl⟩ := List.mem_map.1 hr
    simp at e
    exact h d hd e
/-- What a unit is made into. -/
def tok1 (D : List (Int × Int)) (u a : Int) : Tok := match fD D u with
  | some b => ⟨a, 1, [b], 0⟩
  | none => ⟨a, 1, [], 3⟩
theorem one_rlD {D : List (Int × Int)} (h : DB D) {u a : Int} {us : List Int} : oneT (rlD D) (u :: us) a = tok1 D u a := by
  have hR := rlD_right h
  rcases oneT_is hR (us := u :: us) (by simp) a with ⟨q1, q2⟩ | ⟨k, n, r, q1, q2, q3, q4, q5, q6, q7, q8, q9⟩
  · rw [q1]
    have hp := (lgs_pre hR (u :: us)).1
    obtain ⟨p1, p2, p3, p4⟩ := hp
    have hn0 : (lgs (rlD D) (u :: us)).2.1 = 0 := lgs_neg hR q2
    have := p4 1 (by omega) (by simp)
    rw [show (u :: us).take 1 = [u] from rfl, fnd_rlD] at this
    unfold tok1
    rw [this]
  · rw [q9]
    have hm := List.mem_of_getElem? q5
    obtain ⟨d, hd, rfl⟩ := List.mem_map.1 hm
    simp only at q6
    have hn1 : n = 1 := by
      have := congrArg List.length q6
      rw [List.length_take] at this
      simp at this q4
      omega
    subst hn1
    rw [show (u :: us).take 1 = [u] from rfl] at q6
    injection q6 with q6 _
    have := fD_mem h (a := d.1) (b := d.2) hd
    rw [q6] at this
    unfold tok1
    rw [this]
    rfl
theorem all_rlD {D : List (Int × Int)} (h : DB D) : ∀ (us : List Int) (a : Int), (allU (rlD D) us a).length = us.length ∧ ∀ (k : Nat) (u : Int), us[k]? = some u → (allU (rlD D) us a)[k]? = some (tok1 D u (a + k))
  | [], a => ⟨rfl, fun k u hk => by simp at hk⟩
  | u :: us, a => by
    have hl : (tok1 D u a).len = 1 := by unfold tok1; split <;> rfl
    rw [allU_cons (rlD_right h) (by simp), one_rlD h, hl]
    obtain ⟨h1, h2⟩ := all_rlD h us (a + 1)
    refine ⟨by simp [h1], fun k v hk => ?_⟩
    cases k with
    | zero => simp at hk; subst hk; simp
    | succ k =>
      have := h2 k v (by simpa using hk)
      simp only [List.getElem?_cons_succ]
      rw [show (1 : Int).toNat = 1 from rfl, List.drop_succ_cons, List.drop_zero, this]
      congr 2
      omega
/-- An array of two. -/
theorem Opener.pair {B : Nat} {P : Program} {t el : TypeId} {ρ : Type} {Q : AHeap → List Value → ρ → Prop} (he : OpenerB B P el 1 ρ Q) (hQ : Mono Q) (ht : P.underlying t = some (.array 2 el)) (hc : P.cellsOf el = 1) (hct : P.cellsOf t = 2) :
    OpenerB B P t 2 (ρ × ρ) fun H acs r => Q H (acs.take 1) r.1 ∧ Q H (acs.drop 1) r.2 := by
  intro K enc W σ H fuel cs x hh hx hwt
  obtain ⟨xs, m, _, rfl, hl, hlen, hf⟩ := DataW.trod_array ht hx
  rw [hc] at hf
  have h0 := hf 0 (by decide)
  have h1 := hf 1 (by decide)
  rw [List.getElem?_eq_getElem (by omega)] at h0 h1
  have hw : ∀ (i : Nat) (hi : i < xs.length), ∀ n ∈ (xs[i]).1.weights P el, n ≤ B := fun i hi n hn => hwt n (by
    unfold DataW.weights
    simp only [ht]
    exact mem_weightsAll (List.mem_map.2 ⟨xs[i], List.getElem_mem hi, rfl⟩) hn)
  obtain ⟨σ1, H1, acs1, r1, a1, a2, a3, a4, a5, a6⟩ := he hh h0 (hw 0 (by omega))
  obtain ⟨σ2, H2, acs2, r2, b1, b2, b3, b4, b5, b6⟩ := he a1 h1 (hw 1 (by omega))
  refine ⟨σ2, H2, acs1 ++ acs2, (r1, r2), b1, Sub.trans a2 b2, a3.trans b3, ?_, by simp [a5, b5], ?_, ?_⟩
  · rw [hct] at hl
    have e : cs = (cs.drop (0 * 1)).take 1 ++ (cs.drop (1 * 1)).take 1 := by
      match cs, hl with
      | [p, q], _ => rfl
    rw [e]
    exact (a4.mono b2).append b4
  · rw [← a5, List.take_left]
    exact hQ b3 a6
  · rw [← a5, List.drop_left]
    exact b6
abbrev qB2 : AHeap → List Value → (Int × Int) → Prop := fun H acs r => qInt .u8 H (acs.take 1) r.1 ∧ qInt .u8 H (acs.drop 1) r.2
theorem op_b2 : Opener Try.prog 48 2 (Int × Int) qB2 := Opener.pair (Opener.int Try.underlying5) (qInt_mono _) Try.underlying48 (by kernel_rfl) (by kernel_rfl)
theorem qB2_mono : Mono qB2 := fun _ _ _ _ _ h => h
theorem op_b2s : Opener Try.prog 46 1 (List (Int × Int)) (qSlice Try.prog 2 2 qB2) := Opener.slice op_b2 qB2_mono Try.underlying46 (by kernel_rfl) (by kernel_rfl) (by decide) (by kernel_rfl)
/-- Pairs of bytes, as an argument holds them. -/
def B2s (H : AHeap) (v : Value) (R : List (Int × Int)) : Prop := Sl H 2 v R.length (R.flatMap fun r => [.int .u8 r.1, .int .u8 r.2]) ∧ Cut Try.prog H v 2 ∧ (∀ r ∈ R, (0 ≤ r.1 ∧ r.1 < 256) ∧ 0 ≤ r.2 ∧ r.2 < 256) ∧ R.length < 4611686018427387904
theorem B2s.ext {H H' : AHeap} (hx : Ext H H') {v : Value} {R : List (Int × Int)} (h : B2s H v R) : B2s H' v R := ⟨h.1.ext hx, h.2.1.ext hx, h.2.2⟩
theorem pair_cells : ∀ {R : List (Int × Int)} {cells : List Value}, cells.length = R.length * 2 → (∀ k r, R[k]? = some r → (cells.drop (k * 2)).take 2 = [.int .u8 r.1, .int .u8 r.2]) → cells = R.flatMap fun r => [.int .u8 r.1, .int .u8 r.2]
  | [], cells, hl, _ => List.length_eq_zero_iff.1 (by simpa using hl)
  | r :: R, cells, hl, h => by
    have h0 := h 0 r rfl
    match cells, hl with
    | a :: b :: cs, hl =>
      simp at h0
      obtain ⟨rfl, rfl⟩ := h0
      rw [List.flatMap_cons, ← pair_cells (R := R) (cells := cs) (by simp at hl ⊢; omega) (fun k r hk => by
        have := h (k + 1) r (by simpa using hk)
        rwa [show (k + 1) * 2 = k * 2 + 1 + 1 by omega, List.drop_succ_cons, List.drop_succ_cons] at this)]
      rfl
theorem b2s_of {H : AHeap} {acs : List Value} {R : List (Int × Int)} (h : qSlice Try.prog 2 2 qB2 H acs R) : ∃ v, acs = [v] ∧ B2s H v R := by
  obtain ⟨v, cells, rfl, h2, h3, h4, h5⟩ := h
  have hl := h2.length
  have hrow : ∀ k r, R[k]? = some r → (cells.drop (k * 2)).take 2 = [.int .u8 r.1, .int .u8 r.2] ∧ (0 ≤ r.1 ∧ r.1 < 256) ∧ 0 ≤ r.2 ∧ r.2 < 256 := fun k r hr => by
    have hk := (List.getElem?_eq_some_iff.1 hr).1
    have hk2 : (k + 1) * 2 ≤ R.length * 2 := Nat.mul_le_mul_right _ hk
    have hlen : ((cells.drop (k * 2)).take 2).length = 2 := by rw [List.length_take, List.length_drop, hl]; omega
    have h5' := h5 k r hr
    generalize (cells.drop (k * 2)).take 2 = acs at *
    obtain ⟨⟨e1, w1⟩, e2, w2⟩ := h5'
    match acs, hlen with
    | [x0, x1], _ =>
      simp at e1 e2
      subst e1 e2
      simp [Lit.wf, IntKind.min, IntKind.max, IntKind.signed, IntKind.bits] at w1 w2
      exact ⟨rfl, by omega, by omega⟩
  have hc := pair_cells hl fun k r hr => (hrow k r hr).1
  refine ⟨v, rfl, by rw [← hc]; exact h2, h4, fun r hr => ?_, by unfold reachBytes at h3; omega⟩
  obtain ⟨k, hk, rfl⟩ := List.getElem_of_mem hr
  exact (hrow k _ (List.getElem?_eq_getElem hk)).2
end Go.Proofs.Ythnccfmmeaeibaa

/-! Layer 5: rules of one unit each: the walk. -/
set_option linter.unusedSimpArgs false
set_option linter.unusedVariables false
namespace Go.Proofs.Ythnccfmmeaeibaa
open Go Lon
set_option maxRecDepth 100000
/-- A rule of one unit each way, laid as a literal, behind rules. -/
theorem app_oneC {H : AHeap} {out : Value} {L : List Rl} {a b : Int} (ho : OwnRules H 51 out L) (hc : CutR H out) (hb : L.length < 1000000) :
    ∃ v' H', appendA (((H.push ⟨[.int .i64 a], 3, .tip, 0, []⟩).push ⟨[.int .i64 b], 3, .tip, 0, []⟩).push ⟨[.slice (some ⟨H.n, 0, none⟩) 1 2, .slice (some ⟨H.n + 1, 0, none⟩) 1 2], 51, .tip, 0, []⟩) out (.slice (some ⟨H.n + 1 + 1, 0, none⟩) 1 2) 51 2 48 = some (v', H') ∧ OwnRules H' 51 v' (L ++ [([a], [b])]) ∧ CutR H' v' ∧ From H.n v' ∧ H.n ≤ H'.n ∧ (∀ i, i < H.n → NotAt out i → H'.get i = H.get i) := by
  have x1 := Ext.push H ⟨[.int .i64 a], 3, .tip, 0, []⟩
  have x2 := Ext.push (H.push ⟨[.int .i64 a], 3, .tip, 0, []⟩) ⟨[.int .i64 b], 3, .tip, 0, []⟩
  have x3 := Ext.push ((H.push ⟨[.int .i64 a], 3, .tip, 0, []⟩).push ⟨[.int .i64 b], 3, .tip, 0, []⟩) ⟨[.slice (some ⟨H.n, 0, none⟩) 1 2, .slice (some ⟨H.n + 1, 0, none⟩) 1 2], 51, .tip, 0, []⟩
  have g1 := get_push_self (H := H) (b := ⟨[.int .i64 a], 3, .tip, 0, []⟩)
  have g2 := get_push_self (H := H.push ⟨[.int .i64 a], 3, .tip, 0, []⟩) (b := ⟨[.int .i64 b], 3, .tip, 0, []⟩)
  have g3 := get_push_self (H := (H.push ⟨[.int .i64 a], 3, .tip, 0, []⟩).push ⟨[.int .i64 b], 3, .tip, 0, []⟩) (b := ⟨[.slice (some ⟨H.n, 0, none⟩) 1 2, .slice (some ⟨H.n + 1, 0, none⟩) 1 2], 51, .tip, 0, []⟩)
  rw [AHeap.n_push] at g2
  rw [AHeap.n_push, AHeap.n_push] at g3
  have x13 := x1.trans (x2.trans x3)
  obtain ⟨v', H', m1, m2, m3, m4, m5, m6, m7, m8⟩ := OwnRules.appendC (bytes := 48) (r := ([a], [b])) (ho.ext x13) (hc.ext x13) (Sl.new (n := 1) (c := 2) g3 mem_tip rfl) (Sl.new (n := 1) (c := 2) ((x2.trans x3).get g1) mem_tip rfl) (Sl.new (n := 1) (c := 2) (x3.get g2) mem_tip rfl) (by unfold Lon.tiny; exact (by decide : (1 : Nat) < 4611686018427387904)) (by unfold Lon.tiny; exact (by decide : (1 : Nat) < 4611686018427387904)) (Cut.new ((x2.trans x3).get g1) (by kernel_rfl)) (Cut.new (x3.get g2) (by kernel_rfl)) (by omega)
  rw [AHeap.n_push, AHeap.n_push, AHeap.n_push] at m3 m5 m6
  exact ⟨v', H', m1, m2, m7, m3.mono (by omega), by omega, fun i hi hn => by rw [m6 i (by omega) hn, x13.2 i hi]⟩
/-! What stands beside a map. -/
theorem Sl.onMap {H : AHeap} {q sz n : Nat} {b c : ABlk} {v : Value} {cs : List Value} (hg : H.get q = some b) (hb : b.st = .map) (h : Sl H sz v n cs) : Sl (H.upd q c) sz v n cs := by
  obtain ⟨⟨a, cc, rfl⟩, h2⟩ := h
  refine ⟨⟨a, cc, rfl⟩, ?_⟩
  rw [← h2]
  cases a with
  | none => cases n <;> cases cc <;> rfl
  | some a =>
    obtain ⟨i, o, sp⟩ := a
    cases sp with
    | some s => cases n <;> cases cc <;> rfl
    | none =>
      unfold cellsOf at h2 ⊢
      simp only at h2 ⊢
      by_cases hn : n = 0
      · rw [if_pos hn, if_pos hn]
      · rw [if_neg hn] at h2
        rw [if_neg hn, if_neg hn]
        by_cases hi : i = q
        · subst hi
          rw [hg] at h2
          simp only at h2
          rw [if_neg (fun hh => by rw [hb] at hh; exact absurd hh.1 (by decide))] at h2
          cases h2
        · rw [upd_other hg hi]
theorem Cut.onMap {H : AHeap} {q sz : Nat} {b c : ABlk} {v : Value} (hg : H.get q = some b) (he : c.elem = b.elem) (h : Cut Try.prog H v sz) : Cut Try.prog (H.upd q c) v sz := by
  unfold Cut at h ⊢
  split at h
  · rename_i i o n cc
    obtain ⟨x, h1, h2⟩ := h
    by_cases hi : i = q
    · subst hi
      rw [hg] at h1
      injection h1 with h1
      subst h1
      exact ⟨c, upd_self hg, by rw [he]; exact h2⟩
    · exact ⟨x, by rw [upd_other hg hi]; exact h1, h2⟩
  · trivial
theorem CutR.onMap {H : AHeap} {q : Nat} {b c : ABlk} {v : Value} (hg : H.get q = some b) (hb : b.st = .map) (he : c.elem = b.elem) (h : CutR H v) : CutR (H.upd q c) v := by
  obtain ⟨n, cs, h1, h2⟩ := h
  exact ⟨n, cs, Sl.onMap hg hb h1, fun x hx => Cut.onMap hg he (h2 x hx)⟩
theorem OwnRules.onMap {H : AHeap} {q : Nat} {b c : ABlk} {el : TypeId} {v : Value} {L : List Rl} (hg : H.get q = some b) (hb : b.st = .map) (hne : b.elem ≠ el) (h : OwnRules H el v L) : OwnRules (H.upd q c) el v L := by
  obtain ⟨cs, h1, h2⟩ := h
  refine ⟨cs, h1.move fun i x hx he => ?_, fun k r hr => ?_⟩
  · rw [upd_other hg (fun e => by subst e; rw [hg] at hx; injection hx with hx; subst hx; exact hne he)]
    exact hx
  · obtain ⟨⟨vi, vo, q1, q2, q3, q4⟩, q5⟩ := h2 k r hr
    exact ⟨⟨vi, vo, q1, q2, Sl.onMap hg hb q3, Sl.onMap hg hb q4⟩, q5⟩
theorem get_D {H : AHeap} {q ver : Nat} {el : TypeId} {D : List (Int × Int)} {a : Int} (hg : H.get q = some ⟨mpD D, el, .map, ver, []⟩) : mapGet (.map (some q)) (.int .i64 a) (.int .i64 0) true H = some (.tuple ⟨[.int .i64 ((fD D a).getD 0), .bool (fD D a).isSome]⟩, H) := by
  unfold mapGet
  simp only [hg, find_mpD, Option.map_some, if_true]
  cases fD D a <;> rfl
theorem set_D {H : AHeap} {q ver : Nat} {el : TypeId} {D : List (Int × Int)} {a b : Int} (hg : H.get q = some ⟨mpD D, el, .map, ver, []⟩) (hn : fD D a = none) : mapSet (.map (some q)) (.int .i64 a) (.int .i64 b) H = some (.tuple ⟨[]⟩, H.upd q ⟨mpD (D ++ [(a, b)]), el, .map, ver + 1, []⟩) := by
  unfold mapSet
  simp only [hg, set_mpD hn, Option.map_some]
  rfl
theorem st_two {H : AHeap} {i ver : Nat} {el : TypeId} {a b x y : Value} (h1 : [x, y].all one = true) : gotStore (some ⟨[a, b], el, .tip, ver, []⟩) i 0 (.agg ⟨[x, y]⟩) 2 H = some (.tuple ⟨[]⟩, H.upd i ⟨[x, y], el, .tip, ver + 1, []⟩) := by
  have := got_store (H := H) (cells := [a, b]) (el := el) (ver := ver) (anc := []) (i := i) (o := 0) (n := 2) (v := .agg ⟨[x, y]⟩) rfl h1 (Nat.le_refl 2)
  rw [this]
  rfl
theorem rlD_len {D : List (Int × Int)} : (rlD D).length = D.length := by unfold rlD; rw [List.length_map]
theorem rlD_add {D : List (Int × Int)} {r : Int × Int} : rlD (D ++ [r]) = rlD D ++ [([r.1], [r.2])] := by unfold rlD; rw [List.map_append]; rfl
theorem l_S0 {H0 : AHeap} {w z1 : Value} {q : Nat} {R : List (Int × Int)} (hw : Sl H0 2 w R.length (R.flatMap fun r => [.int .u8 r.1, .int .u8 r.2])) (hR : ∀ r ∈ R, (0 ≤ r.1 ∧ r.1 < 256) ∧ 0 ≤ r.2 ∧ r.2 < 256) (hl : R.length ≤ 40) (hq : H0.n ≤ q) : ∀ (c k : Nat) (H : AHeap) (out : Value) (D : List (Int × Int)) (ver : Nat), k + c = R.length → DB D → D.length ≤ k → OwnRules H 51 out (rlD D) → CutR H out → From H0.n out → Ext H0 H → H.get q = some ⟨mpD D, 47, .map, ver, []⟩ →
    Out (run Try.prog (tabF tab) om1 (.loop [1, 5, 6, 28, 29, 30] b_lontarlaw05_RewriteSingles_0) [(1, z1), (5, out), (6, .map (some q)), (28, w), (29, .int .i64 R.length), (30, .int .i64 k)] H) fun y e' H' => y = .exit 0 ∧ eget e' 1 = z1 ∧ eget e' 6 = .map (some q) ∧ ∃ D' ver', DB D' ∧ D'.length ≤ 40 ∧ OwnRules H' 51 (eget e' 5) (rlD D') ∧ CutR H' (eget e' 5) ∧ Ext H0 H' ∧ H'.get q = some ⟨mpD D', 47, .map, ver', []⟩ := by
  intro c
  induction c with
  | zero =>
    intro k H out D ver hk hD hDk ho hc hf hx hg
    have hlt : ¬ ((k : Int) < R.length) := by omega
    rw [w_loop_b b_lontarlaw05_RewriteSingles_0.eq_1]
    simp only [WA, isStore, isCall, isK, freshI, stampO, List.nil_append, Option.map_some, Option.map_none, Option.bind_some, List.map_cons, List.map_nil, if_true, if_false, Nat.reduceEqDiff, Int.reduceEq, Nat.reduceAdd, Nat.reduceMul, reduceCtorEq, eq_self, Int.reduceLT, Int.reduceLE, Int.reduceToNat, List.length_cons, List.length_nil, List.all_cons, List.all_nil, List.take_zero, List.drop_nil, List.append_nil, List.getElem?_cons_zero, List.getElem?_cons_succ, List.drop_succ_cons, List.drop_zero, List.take_succ_cons, List.cons_append, Nat.reduceLeDiff, Int.cast_ofNat_Int, hlt]
    exact ⟨D, ver, hD, by omega, ho, hc, hx, hg⟩
  | succ c ih =>
    intro k H out D ver hk hD hDk ho hc hf hx hg
    have hlt : (k : Int) < R.length := by omega
    obtain ⟨r, hr, hdr⟩ := drop_at (L := R) (i := k) (by omega)
    obtain ⟨⟨b1, b2⟩, b3, b4⟩ := hR r (List.mem_of_getElem? hr)
    obtain ⟨i1, o1, a1, a2, a3⟩ := Sl.at (hw.ext hx) (k := k) (by omega)
    have hrow : ((R.flatMap fun r => [Value.int .u8 r.1, Value.int .u8 r.2]).drop (k * 2)).take 2 = [.int .u8 r.1, .int .u8 r.2] := by
      have : ∀ (R : List (Int × Int)) (k : Nat), (R.flatMap fun r => [Value.int .u8 r.1, Value.int .u8 r.2]).drop (k * 2) = (R.drop k).flatMap fun r => [Value.int .u8 r.1, Value.int .u8 r.2] := by
        intro R
        induction R with
        | nil => intro k; simp
        | cons r R ih =>
          intro k
          cases k with
          | zero => rfl
          | succ k => rw [show (k + 1) * 2 = k * 2 + 1 + 1 by omega]; exact ih k
      rw [this, hdr]
      rfl
    rw [hrow] at a3
    have qa : IntKind.i64.wrap r.1 = r.1 := wrap64 (by omega) (by omega)
    have qb : IntKind.i64.wrap r.2 = r.2 := wrap64 (by omega) (by omega)
    have hw2 : IntKind.i64.wrap ((k : Int) + 1) = ((k + 1 : Nat) : Int) := by rw [wrap64 (by omega) (by omega)]; omega
    obtain ⟨H1, hH1⟩ : ∃ H1, H1 = H.push ⟨[.int .u8 r.1, .int .u8 r.2], 48, .tip, 1, []⟩ := ⟨_, rfl⟩
    have x1 : Ext H H1 := by rw [hH1]; exact Ext.push H _
    have g1 : H1.get H.n = some ⟨[.int .u8 r.1, .int .u8 r.2], 48, .tip, 1, []⟩ := by rw [hH1]; exact get_push_self
    have hs2 := st_two (H := H.push ⟨[.int .u8 0, .int .u8 0], 48, .tip, 0, []⟩) (i := H.n) (ver := 0) (el := 48) (a := .int .u8 0) (b := .int .u8 0) (x := .int .u8 r.1) (y := .int .u8 r.2) rfl
    have gq1 := x1.get hg
    have cg := get_D (a := r.1) gq1
    have hqn := AHeap.lt_of_get hg
    by_cases hs : fD D r.1 = none
    · have cs := set_D (b := r.2) gq1 hs
      rw [hs] at cg
      obtain ⟨H2, hH2⟩ : ∃ H2, H2 = H1.upd q ⟨mpD (D ++ [(r.1, r.2)]), 47, .map, ver + 1, []⟩ := ⟨_, rfl⟩
      rw [← hH2] at cs
      have gq2 : H2.get q = some ⟨mpD (D ++ [(r.1, r.2)]), 47, .map, ver + 1, []⟩ := by rw [hH2]; exact upd_self gq1
      have g2 : H2.get H.n = some ⟨[.int .u8 r.1, .int .u8 r.2], 48, .tip, 1, []⟩ := by rw [hH2, upd_other gq1 (by omega)]; exact g1
      have x2 : Ext H0 H2 := by rw [hH2]; exact Ext.upd (hx.trans x1) gq1 hq
      have ho2 : OwnRules H2 51 out (rlD D) := by rw [hH2]; exact OwnRules.onMap gq1 rfl (show (47 : TypeId) ≠ 51 by decide) (ho.ext x1)
      have hc2 : CutR H2 out := by rw [hH2]; exact CutR.onMap gq1 rfl rfl (hc.ext x1)
      obtain ⟨v', H', m1, m2, m3, m4, m5, m6⟩ := app_oneC (a := r.1) (b := r.2) ho2 hc2 (by rw [rlD_len]; omega)
      rw [← rlD_add (r := (r.1, r.2))] at m2
      have hno : NotAt out q := by
        obtain ⟨cs0, q1, _⟩ := ho2
        exact q1.notAt_elem gq2 (by simp only; decide)
      have gq3 : H'.get q = some ⟨mpD (D ++ [(r.1, r.2)]), 47, .map, ver + 1, []⟩ := by rw [m6 q (AHeap.lt_of_get gq2) hno]; exact gq2
      obtain ⟨y, e', H4, r1, r2⟩ := ih (k + 1) H' v' (D ++ [(r.1, r.2)]) (ver + 1) (by omega) (hD.add hs ⟨⟨b1, b2⟩, b3, b4⟩) (by simp; omega) m2 m3 (m4.mono x2.1) (Ext.grow x2 m5 m6 hf) gq3
      have g3 := (Ext.push H2 ⟨[.int .i64 r.1], 3, .tip, 0, []⟩).get g2
      rw [w_loop_b b_lontarlaw05_RewriteSingles_0.eq_1]
      simp only [WA, isStore, isCall, isK, freshI, stampO, List.nil_append, Option.map_some, Option.map_none, Option.bind_some, List.map_cons, List.map_nil, if_true, if_false, Nat.reduceEqDiff, Int.reduceEq, Nat.reduceAdd, Nat.reduceMul, reduceCtorEq, eq_self, Int.reduceLT, Int.reduceLE, Int.reduceToNat, List.length_cons, List.length_nil, List.all_cons, List.all_nil, List.take_zero, List.drop_nil, List.append_nil, List.getElem?_cons_zero, List.getElem?_cons_succ, List.drop_succ_cons, List.drop_zero, List.take_succ_cons, List.cons_append, Nat.reduceLeDiff, Int.cast_ofNat_Int, hlt, a1, a3, hs2, ← hH1, g1, qa, st_mget, cg, Option.getD_none, Option.isSome_none, qb, st_mset, cs, g2, g3, v_int1, v_rule, v_rule1, m1, hw2]
      rw [w_enter]
      simp only [WA, isStore, isCall, isK, freshI, stampO, List.nil_append, Option.map_some, Option.map_none, Option.bind_some, List.map_cons, List.map_nil, if_true, if_false, Nat.reduceEqDiff, Int.reduceEq, Nat.reduceAdd, Nat.reduceMul, reduceCtorEq, eq_self, Int.reduceLT, Int.reduceLE, Int.reduceToNat, List.length_cons, List.length_nil, List.all_cons, List.all_nil, List.take_zero, List.drop_nil, List.append_nil, List.getElem?_cons_zero, List.getElem?_cons_succ, List.drop_succ_cons, List.drop_zero, List.take_succ_cons, List.cons_append, Nat.reduceLeDiff, Int.cast_ofNat_Int, r1]
      exact r2
    · obtain ⟨b, hb⟩ := Option.isSome_iff_exists.1 (Option.isSome_iff_ne_none.2 hs)
      rw [hb] at cg
      obtain ⟨y, e', H4, r1, r2⟩ := ih (k + 1) H1 out D ver (by omega) hD (by omega) (ho.ext x1) (hc.ext x1) hf (hx.trans x1) gq1
      rw [w_loop_b b_lontarlaw05_RewriteSingles_0.eq_1]
      simp only [WA, isStore, isCall, isK, freshI, stampO, List.nil_append, Option.map_some, Option.map_none, Option.bind_some, List.map_cons, List.map_nil, if_true, if_false, Nat.reduceEqDiff, Int.reduceEq, Nat.reduceAdd, Nat.reduceMul, reduceCtorEq, eq_self, Int.reduceLT, Int.reduceLE, Int.reduceToNat, List.length_cons, List.length_nil, List.all_cons, List.all_nil, List.take_zero, List.drop_nil, List.append_nil, List.getElem?_cons_zero, List.getElem?_cons_succ, List.drop_succ_cons, List.drop_zero, List.take_succ_cons, List.cons_append, Nat.reduceLeDiff, Int.cast_ofNat_Int, hlt, a1, a3, hs2, ← hH1, g1, qa, st_mget, cg, Option.getD_some, Option.isSome_some, hw2]
      rw [w_enter]
      simp only [WA, isStore, isCall, isK, freshI, stampO, List.nil_append, Option.map_some, Option.map_none, Option.bind_some, List.map_cons, List.map_nil, if_true, if_false, Nat.reduceEqDiff, Int.reduceEq, Nat.reduceAdd, Nat.reduceMul, reduceCtorEq, eq_self, Int.reduceLT, Int.reduceLE, Int.reduceToNat, List.length_cons, List.length_nil, List.all_cons, List.all_nil, List.take_zero, List.drop_nil, List.append_nil, List.getElem?_cons_zero, List.getElem?_cons_succ, List.drop_succ_cons, List.drop_zero, List.take_succ_cons, List.cons_append, Nat.reduceLeDiff, Int.cast_ofNat_Int, r1]
      exact r2
theorem l_S1 {H0 : AHeap} {z6 z11 x : Value} {l : List Int} (hx : Nums H0 .u8 x l) (hl : l.length ≤ 60) (hb : bytes l) : ∀ (c i : Nat) (H : AHeap) (v : Value), i + c = l.length → Ext H0 H → OwnI H v (l.take i) → From H0.n v →
    Out (run Try.prog (tabF tab) om1 (.loop [6, 11, 13, 79, 80, 81] b_lontarlaw05_RewriteSingles_1) [(6, z6), (11, z11), (13, v), (79, x), (80, .int .i64 l.length), (81, .int .i64 i)] H) fun y e' H' => y = .exit 2 ∧ eget e' 6 = z6 ∧ eget e' 11 = z11 ∧ Ext H0 H' ∧ OwnI H' (eget e' 13) l := by
  intro c
  induction c with
  | zero =>
    intro i H v hi hxx ho hf
    have hlt : ¬ ((i : Int) < l.length) := by omega
    rw [w_loop_b b_lontarlaw05_RewriteSingles_1.eq_1]
    simp only [WA, isStore, isCall, isK, freshI, stampO, List.nil_append, Option.map_some, Option.map_none, Option.bind_some, List.map_cons, List.map_nil, if_true, if_false, Nat.reduceEqDiff, Int.reduceEq, Nat.reduceAdd, Nat.reduceMul, reduceCtorEq, eq_self, Int.reduceLT, Int.reduceLE, Int.reduceToNat, List.length_cons, List.length_nil, List.all_cons, List.all_nil, List.take_zero, List.drop_nil, List.append_nil, List.getElem?_cons_zero, List.getElem?_cons_succ, List.drop_succ_cons, List.drop_zero, List.take_succ_cons, List.cons_append, Nat.reduceLeDiff, Int.cast_ofNat_Int, hlt]
    rw [List.take_of_length_le (by omega)] at ho
    exact ⟨hxx, ho⟩
  | succ c ih =>
    intro i H v hi hxx ho hf
    have hlt : (i : Int) < l.length := by omega
    obtain ⟨u, hu, hdu⟩ := drop_at (L := l) (i := i) (by omega)
    obtain ⟨u1, u2⟩ := hb u (List.mem_of_getElem? hu)
    obtain ⟨i1, o1, h1, h2⟩ := (hx.ext hxx).at hu
    have hw2 : IntKind.i64.wrap ((i : Int) + 1) = ((i + 1 : Nat) : Int) := by rw [wrap64 (by omega) (by omega)]; omega
    have q2 : IntKind.i64.wrap u = u := wrap64 (by omega) (by omega)
    have x1 := Ext.push H ⟨[.int .i64 u], 3, .tip, 0, []⟩
    obtain ⟨v', H2, m1, m2, m3, m4⟩ := OwnI.add (m := [u]) (ho.ext x1) hf (hxx.trans x1) (Sl.new (n := 1) (c := 2) (get_push_self (H := H) (b := ⟨[.int .i64 u], 3, .tip, 0, []⟩)) mem_tip rfl) (by simp; omega)
    have hdone : l.take i ++ [u] = l.take (i + 1) := by rw [List.take_add_one, hu]; simp
    rw [hdone] at m2
    obtain ⟨y, e', H', r1, r2⟩ := ih (i + 1) H2 v' (by omega) m4 m2 m3
    rw [w_loop_b b_lontarlaw05_RewriteSingles_1.eq_1]
    simp only [WA, isStore, isCall, isK, freshI, stampO, List.nil_append, Option.map_some, Option.map_none, Option.bind_some, List.map_cons, List.map_nil, if_true, if_false, Nat.reduceEqDiff, Int.reduceEq, Nat.reduceAdd, Nat.reduceMul, reduceCtorEq, eq_self, Int.reduceLT, Int.reduceLE, Int.reduceToNat, List.length_cons, List.length_nil, List.all_cons, List.all_nil, List.take_zero, List.drop_nil, List.append_nil, List.getElem?_cons_zero, List.getElem?_cons_succ, List.drop_succ_cons, List.drop_zero, List.take_succ_cons, List.cons_append, Nat.reduceLeDiff, Int.cast_ofNat_Int, hlt, h1, h2, q2, v_int1, m1, hw2]
    rw [w_enter]
    simp only [WA, isStore, isCall, isK, freshI, stampO, List.nil_append, Option.map_some, Option.map_none, Option.bind_some, List.map_cons, List.map_nil, if_true, if_false, Nat.reduceEqDiff, Int.reduceEq, Nat.reduceAdd, Nat.reduceMul, reduceCtorEq, eq_self, Int.reduceLT, Int.reduceLE, Int.reduceToNat, List.length_cons, List.length_nil, List.all_cons, List.all_nil, List.take_zero, List.drop_nil, List.append_nil, List.getElem?_cons_zero, List.getElem?_cons_succ, List.drop_succ_cons, List.drop_zero, List.take_succ_cons, List.cons_append, Nat.reduceLeDiff, Int.cast_ofNat_Int, r1]
    exact r2
theorem l_S2 {H0 : AHeap} {q ver : Nat} {x t : Value} {us : List Int} {D : List (Int × Int)} {T : List Tok} (hg : H0.get q = some ⟨mpD D, 47, .map, ver, []⟩) (hx : Ints H0 x us) (ht : Toks Try.prog H0 t T) (hl : T.length = us.length) (hu60 : us.length ≤ 60) (hT : ∀ (k : Nat) (u : Int), us[k]? = some u → T[k]? = some (tok1 D u (0 + k))) : ∀ (c k : Nat) (H : AHeap), k + c = T.length → Ext H0 H →
    Out (run Try.prog (tabF tab) om1 (.loop [6, 13, 99, 100, 101] b_lontarlaw05_RewriteSingles_2) [(6, .map (some q)), (13, x), (99, t), (100, .int .i64 T.length), (101, .int .i64 k)] H) fun y e' H' => y = .exit 4 := by
  intro c
  induction c with
  | zero =>
    intro k H hk hxx
    have hlt : ¬ ((k : Int) < T.length) := by omega
    rw [w_loop_b b_lontarlaw05_RewriteSingles_2.eq_1]
    simp only [WA, isStore, isCall, isK, freshI, stampO, List.nil_append, Option.map_some, Option.map_none, Option.bind_some, List.map_cons, List.map_nil, if_true, if_false, Nat.reduceEqDiff, Int.reduceEq, Nat.reduceAdd, Nat.reduceMul, reduceCtorEq, eq_self, Int.reduceLT, Int.reduceLE, Int.reduceToNat, List.length_cons, List.length_nil, List.all_cons, List.all_nil, List.take_zero, List.drop_nil, List.append_nil, List.getElem?_cons_zero, List.getElem?_cons_succ, List.drop_succ_cons, List.drop_zero, List.take_succ_cons, List.cons_append, Nat.reduceLeDiff, Int.cast_ofNat_Int, hlt]
  | succ c ih =>
    intro k H hk hxx
    have hlt : (k : Int) < T.length := by omega
    obtain ⟨u, hu, hdu⟩ := drop_at (L := us) (i := k) (by omega)
    have hTk := hT k u hu
    obtain ⟨i1, o1, a1, a2⟩ := hx.at hu
    obtain ⟨i, o, p, cc, b1, b2, b3, b4, b5, b6, b7, b8, b9⟩ := Toks.at' ht hTk
    have hw2 : IntKind.i64.wrap ((k : Int) + 1) = ((k + 1 : Nat) : Int) := by rw [wrap64 (by omega) (by omega)]; omega
    have b6' := got_ext hxx b6
    obtain ⟨H1, hH1⟩ : ∃ H1, H1 = H.push ⟨tokC p cc (tok1 D u (0 + k)), 39, .tip, 1, []⟩ := ⟨_, rfl⟩
    have x1 : Ext H H1 := by rw [hH1]; exact Ext.push H _
    have g1 : H1.get H.n = some ⟨tokC p cc (tok1 D u (0 + k)), 39, .tip, 1, []⟩ := by rw [hH1]; exact get_push_self
    have x01 := hxx.trans x1
    have a2' := got_ext x01 a2
    have cg := get_D (a := u) (x01.get hg)
    obtain ⟨y, e', H', r1, r2⟩ := ih (k + 1) H1 (by omega) x01
    have hb1 : (false == false) = true := rfl
    have hb2 : (true == true) = true := rfl
    rw [w_loop_b b_lontarlaw05_RewriteSingles_2.eq_1]
    cases hf : fD D u with
    | none =>
      rw [hf] at cg
      have he : (tok1 D u (0 + k)).err = 3 := by unfold tok1; rw [hf]
      have z3 : ((3 : Int) = 0) = False := by simp
      simp only [WA, isStore, isCall, isK, freshI, stampO, List.nil_append, Option.map_some, Option.map_none, Option.bind_some, List.map_cons, List.map_nil, if_true, if_false, Nat.reduceEqDiff, Int.reduceEq, Nat.reduceAdd, Nat.reduceMul, reduceCtorEq, eq_self, Int.reduceLT, Int.reduceLE, Int.reduceToNat, List.length_cons, List.length_nil, List.all_cons, List.all_nil, List.take_zero, List.drop_nil, List.append_nil, List.getElem?_cons_zero, List.getElem?_cons_succ, List.drop_succ_cons, List.drop_zero, List.take_succ_cons, List.cons_append, Nat.reduceLeDiff, Int.cast_ofNat_Int, hlt, b1, b6', got_tok, ← hH1, a1, a2', st_mget, cg, Option.getD_none, Option.isSome_none, g1, tk3, he, z3, hb1, hw2]
      rw [w_enter]
      simp only [WA, isStore, isCall, isK, freshI, stampO, List.nil_append, Option.map_some, Option.map_none, Option.bind_some, List.map_cons, List.map_nil, if_true, if_false, Nat.reduceEqDiff, Int.reduceEq, Nat.reduceAdd, Nat.reduceMul, reduceCtorEq, eq_self, Int.reduceLT, Int.reduceLE, Int.reduceToNat, List.length_cons, List.length_nil, List.all_cons, List.all_nil, List.take_zero, List.drop_nil, List.append_nil, List.getElem?_cons_zero, List.getElem?_cons_succ, List.drop_succ_cons, List.drop_zero, List.take_succ_cons, List.cons_append, Nat.reduceLeDiff, Int.cast_ofNat_Int, r1]
      exact r2
    | some b =>
      rw [hf] at cg
      have he : (tok1 D u (0 + k)).err = 0 := by unfold tok1; rw [hf]
      have ho : (tok1 D u (0 + k)).out = [b] := by unfold tok1; rw [hf]
      have ho1 : (tok1 D u (0 + k)).out.length = 1 := by rw [ho]; rfl
      have z3 : ((0 : Int) = 0) = True := by simp
      have z4 : ((1 : Int) ≠ 1) = False := by simp
      have z5 : (b ≠ b) = False := by simp
      rw [ho] at b7
      obtain ⟨i2, o2, d1, d2⟩ := (b7.ext x01).at (k := 0) (x := b) rfl
      have d1' := fun H2 => d1 .i64 H2
      simp only [Int.cast_ofNat_Int, show ((0 : Nat) : Int) = 0 from rfl, List.length_cons, List.length_nil, Nat.zero_add] at d1'
      have htc : tokC p cc (tok1 D u (0 + k)) = [.int .i64 (tok1 D u (0 + k)).at_, .int .i64 (tok1 D u (0 + k)).len, .slice p 1 cc, .int .i64 0] := by unfold tokC; rw [ho1, he]
      rw [htc] at g1 b6' hH1
      simp only [WA, isStore, isCall, isK, freshI, stampO, List.nil_append, Option.map_some, Option.map_none, Option.bind_some, List.map_cons, List.map_nil, if_true, if_false, Nat.reduceEqDiff, Int.reduceEq, Nat.reduceAdd, Nat.reduceMul, reduceCtorEq, eq_self, Int.reduceLT, Int.reduceLE, Int.reduceToNat, List.length_cons, List.length_nil, List.all_cons, List.all_nil, List.take_zero, List.drop_nil, List.append_nil, List.getElem?_cons_zero, List.getElem?_cons_succ, List.drop_succ_cons, List.drop_zero, List.take_succ_cons, List.cons_append, Nat.reduceLeDiff, Int.cast_ofNat_Int, hlt, b1, b6', ← hH1, a1, a2', st_mget, cg, Option.getD_some, Option.isSome_some, g1, z3, z4, z5, hb2, d1', d2, hw2]
      rw [w_enter]
      simp only [WA, isStore, isCall, isK, freshI, stampO, List.nil_append, Option.map_some, Option.map_none, Option.bind_some, List.map_cons, List.map_nil, if_true, if_false, Nat.reduceEqDiff, Int.reduceEq, Nat.reduceAdd, Nat.reduceMul, reduceCtorEq, eq_self, Int.reduceLT, Int.reduceLE, Int.reduceToNat, List.length_cons, List.length_nil, List.all_cons, List.all_nil, List.take_zero, List.drop_nil, List.append_nil, List.getElem?_cons_zero, List.getElem?_cons_succ, List.drop_succ_cons, List.drop_zero, List.take_succ_cons, List.cons_append, Nat.reduceLeDiff, Int.cast_ofNat_Int, r1]
      exact r2
theorem vSlice_ext {H H1 : AHeap} {x v : Value} {lo hi : Option Value} {sz : Nat} (hx : Ext H H1) (h : vSlice (P := Try.prog) x lo hi sz H = some (v, H)) : vSlice (P := Try.prog) x lo hi sz H1 = some (v, H1) := by
  unfold vSlice at h ⊢
  simp only [Option.map_eq_some_iff] at h ⊢
  obtain ⟨v0, h1, h2⟩ := h
  injection h2 with h2 _
  subst h2
  refine ⟨v0, ?_, rfl⟩
  split at h1
  · rename_i i o n c
    cases hg : H.get i with
    | none =>
      rw [hg] at h1
      simp only [Option.map_none] at h1
      split at h1
      · rename_i h3; cases h3
      · cases h1
    | some b =>
      rw [hg] at h1
      simp only [hx.get hg]
      exact h1
  · exact h1
  · exact h1
  · cases h1
theorem take_pairs : ∀ (R : List (Int × Int)) (k : Nat), (R.flatMap fun r => [Value.int .u8 r.1, Value.int .u8 r.2]).take (k * 2) = (R.take k).flatMap fun r => [Value.int .u8 r.1, Value.int .u8 r.2]
  | [], k => by simp
  | r :: R, 0 => by simp
  | r :: R, k + 1 => by
    have h := take_pairs R k
    rw [show (k + 1) * 2 = k * 2 + 1 + 1 by omega]
    show Value.int .u8 r.1 :: Value.int .u8 r.2 :: List.take (k * 2) (R.flatMap fun r => [Value.int .u8 r.1, Value.int .u8 r.2]) = Value.int .u8 r.1 :: Value.int .u8 r.2 :: ((R.take k).flatMap fun r => [Value.int .u8 r.1, Value.int .u8 r.2])
    rw [h]
theorem min40 {n : Nat} : ∃ k : Nat, k ≤ n ∧ k ≤ 40 ∧ (if (40 : Int) < (n : Int) then (40 : Int) else (n : Int)) = (k : Int) := by
  refine ⟨min n 40, Nat.min_le_left _ _, Nat.min_le_right _ _, ?_⟩
  split <;> omega
theorem law_Singles {a b : Value} {R : List (Int × Int)} {l : List Int} {H : AHeap} (ha : B2s H a R) (hb : U8s H b l) : Gives (cw Try.prog (tabF tab) om1 7 [a, b] H) fun v H' => v = .bool true := by
  obtain ⟨ha, hac, har, _⟩ := ha
  obtain ⟨hb, hbc, hbb, hbt⟩ := hb
  rw [cw_run (F := F_lontarlaw05_RewriteSingles) rfl rfl rfl]
  unfold F_lontarlaw05_RewriteSingles k_lontarlaw05_RewriteSingles
  obtain ⟨H1, hH1⟩ : ∃ H1, H1 = H.push ⟨[], 47, .map, 0, []⟩ := ⟨_, rfl⟩
  have x1 : Ext H H1 := by rw [hH1]; exact Ext.push H _
  have g1 : H1.get H.n = some ⟨mpD [], 47, .map, 0, []⟩ := by rw [hH1]; exact get_push_self
  obtain ⟨k, k1, k2, k3⟩ := min40 (n := R.length)
  obtain ⟨w, s1, s2, s3⟩ := ha.take hac k1
  have s1' := vSlice_ext x1 (s1 .i64)
  rw [take_pairs] at s2
  have hkl : (R.take k).length = k := by rw [List.length_take]; omega
  have hl0 := fun H2 => ha.len (H2 := H2)
  have hl1 := fun H2 => s2.len (H2 := H2)
  obtain ⟨y, e', H2, r1, rfl, r2, r3, D, ver, hD, hD40, o2, c2, x2, g2⟩ := l_S0 (z1 := b) (q := H.n) (R := R.take k) (by rw [hkl]; exact s2) (fun r hr => har r (List.mem_of_mem_take hr)) (by omega) (Nat.le_refl _) (R.take k).length 0 H1 (.slice none 0 0) [] 0 (by omega) ⟨fun d hd => (by cases hd), List.nodup_nil⟩ (Nat.le_refl _) (OwnRules.nil _ _) (CutR.nil _) trivial x1 g1
  rw [hkl] at r1
  simp only [Int.cast_ofNat_Int] at r1
  have hrl : (rlD D).length = D.length := rlD_len
  obtain ⟨v3, H3, c3, x3, t, rfl, hT⟩ := c_OfT (o2.rules (by omega)) (o2.cut (by kernel_rfl)) (rlD_right hD) (by omega)
  obtain ⟨m, m1, m2, m3⟩ := min60 (n := l.length)
  have x03 := x2.trans x3
  obtain ⟨w4, t1, t2, t3⟩ := (hb.ext x03).take (hbc.ext x03) m1
  have t1' := t1 .i64
  have hml : (l.take m).length = m := by rw [List.length_take]; omega
  have hl2 := fun H2 => hb.len (H2 := H2)
  have hl3 := fun H2 => Nums.len t2 (H2 := H2)
  obtain ⟨y, e4, H4, u1, rfl, u2, u3, x4, o4⟩ := l_S1 (z6 := .map (some H.n)) (z11 := .pointer (some ⟨t, 0, none⟩)) t2 (by omega) (fun u hu => hbb u (List.mem_of_mem_take hu)) (l.take m).length 0 H3 (.slice none 0 0) (by omega) (Ext.refl _) OwnI.nil trivial
  simp only [hml] at hl3
  rw [hml] at u1
  simp only [Int.cast_ofNat_Int] at u1
  generalize hus : l.take m = us at *
  obtain ⟨v5, H5, c5, x5, o5, f5, A5⟩ := c_AllR (hT.ext x4) (OwnI.asI o4) (OwnI.cutI o4) (by omega)
  obtain ⟨n1, n2⟩ := all_rlD hD us 0
  have hl5 := fun H2 => o5.rws.len (H2 := H2)
  have hl6 := fun H2 => (OwnI.asI o4).len (H2 := H2)
  have g5 := (x3.trans (x4.trans x5)).get g2
  obtain ⟨y, e6, H6, p1, rfl⟩ := l_S2 g5 ((OwnI.asI o4).ext x5) o5.rws n1 (by omega) n2 (allU (rlD D) us 0).length 0 H5 (by omega) (Ext.refl _)
  simp only [Int.cast_ofNat_Int] at p1
  rw [n1] at hl5 p1
  have z : ((0 : Int) ≠ 0) = False := by simp
  have z2 : ((us.length : Int) ≠ us.length) = False := by simp
  simp only [WA, isStore, isCall, isK, freshI, stampO, List.nil_append, Option.map_some, Option.map_none, Option.bind_some, List.map_cons, List.map_nil, if_true, if_false, Nat.reduceEqDiff, Int.reduceEq, Nat.reduceAdd, Nat.reduceMul, reduceCtorEq, eq_self, Int.reduceLT, Int.reduceLE, Int.reduceToNat, List.length_cons, List.length_nil, List.all_cons, List.all_nil, List.take_zero, List.drop_nil, List.append_nil, List.getElem?_cons_zero, List.getElem?_cons_succ, List.drop_succ_cons, List.drop_zero, List.take_succ_cons, List.cons_append, Nat.reduceLeDiff, Int.cast_ofNat_Int, o_awake5, st_mmake, ← hH1, hl0, k3, s1', hl1]
  rw [w_enter]
  simp only [WA, isStore, isCall, isK, freshI, stampO, List.nil_append, Option.map_some, Option.map_none, Option.bind_some, List.map_cons, List.map_nil, if_true, if_false, Nat.reduceEqDiff, Int.reduceEq, Nat.reduceAdd, Nat.reduceMul, reduceCtorEq, eq_self, Int.reduceLT, Int.reduceLE, Int.reduceToNat, List.length_cons, List.length_nil, List.all_cons, List.all_nil, List.take_zero, List.drop_nil, List.append_nil, List.getElem?_cons_zero, List.getElem?_cons_succ, List.drop_succ_cons, List.drop_zero, List.take_succ_cons, List.cons_append, Nat.reduceLeDiff, Int.cast_ofNat_Int, r1, r2, r3, c3, v_nilp, z, hl2, m3, t1', hl3]
  rw [w_enter]
  simp only [WA, isStore, isCall, isK, freshI, stampO, List.nil_append, Option.map_some, Option.map_none, Option.bind_some, List.map_cons, List.map_nil, if_true, if_false, Nat.reduceEqDiff, Int.reduceEq, Nat.reduceAdd, Nat.reduceMul, reduceCtorEq, eq_self, Int.reduceLT, Int.reduceLE, Int.reduceToNat, List.length_cons, List.length_nil, List.all_cons, List.all_nil, List.take_zero, List.drop_nil, List.append_nil, List.getElem?_cons_zero, List.getElem?_cons_succ, List.drop_succ_cons, List.drop_zero, List.take_succ_cons, List.cons_append, Nat.reduceLeDiff, Int.cast_ofNat_Int, r3, u1, u2, u3, c5, hl5, hl6, z2]
  rw [w_enter]
  simp only [WA, isStore, isCall, isK, freshI, stampO, List.nil_append, Option.map_some, Option.map_none, Option.bind_some, List.map_cons, List.map_nil, if_true, if_false, Nat.reduceEqDiff, Int.reduceEq, Nat.reduceAdd, Nat.reduceMul, reduceCtorEq, eq_self, Int.reduceLT, Int.reduceLE, Int.reduceToNat, List.length_cons, List.length_nil, List.all_cons, List.all_nil, List.take_zero, List.drop_nil, List.append_nil, List.getElem?_cons_zero, List.getElem?_cons_succ, List.drop_succ_cons, List.drop_zero, List.take_succ_cons, List.cons_append, Nat.reduceLeDiff, Int.cast_ofNat_Int, u2, p1]
end Go.Proofs.Ythnccfmmeaeibaa

