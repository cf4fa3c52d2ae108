/- What is proved here: what the program's functions come to, as far as the claimed statement asks. Conditions: those that each theorem names, and no others. -/
import Derived.Test.YthnccfmmeaeibaaP1
import Derived.Test.YthnccfmmeaeibaaP2
import Derived.Test.YthnccfmmeaeibaaLonZj
/-! The document's longest rule. -/
set_option linter.unusedSimpArgs false
set_option linter.unusedVariables false
namespace Go.Proofs.Ythnccfmmeaeibaa
open Go Lon
set_option maxRecDepth 100000
theorem l_Doc {a b : Value} {us : List Int} {L : List Rl} (hL : L.length < 1000000) (hus : tiny us) : ∀ (c i : Nat) (H : AHeap) (k : Int) (n : Nat) (o : Bool), i + c = L.length → Rules H a L → CutR H a → Ints H b us → Cut Try.prog H b 1 →
    Out (run Try.prog (tabF tab) om1 (.loop [1, 7, 8, 9, 12, 13, 14] b_lontarlaw04_Longest_0) [(1, b), (7, .int .i64 k), (8, .int .i64 n), (9, .bool o), (12, a), (13, .int .i64 L.length), (14, .int .i64 i)] H) fun y e' H' => y = .exit 0 ∧ Ext H H' ∧ eget e' 7 = .int .i64 (docF us (L.drop i) i k n o).1 ∧ eget e' 8 = .int .i64 (docF us (L.drop i) i k n o).2.1 ∧ eget e' 9 = .bool (docF us (L.drop i) i k n o).2.2 := by
  intro c
  induction c with
  | zero =>
    intro i H k n o hi ha hac hb hbc
    have hlt : ¬ ((i : Int) < L.length) := by omega
    rw [w_loop_b b_lontarlaw04_Longest_0.eq_1, List.drop_of_length_le (by omega)]
    simp only [WA, isStore, isCall, isK, freshI, stampO, List.nil_append, Option.map_some, Option.map_none, Option.bind_some, List.map_cons, List.map_nil, if_true, if_false, Nat.reduceEqDiff, Int.reduceEq, Nat.reduceAdd, Nat.reduceMul, reduceCtorEq, eq_self, Int.reduceLT, Int.reduceLE, Int.reduceToNat, List.length_cons, List.length_nil, List.all_cons, List.all_nil, List.take_zero, List.drop_nil, List.append_nil, List.getElem?_cons_zero, List.getElem?_cons_succ, List.drop_succ_cons, List.drop_zero, List.take_succ_cons, List.cons_append, Nat.reduceLeDiff, Int.cast_ofNat_Int, hlt, docF]
    exact Ext.refl _
  | succ c ih =>
    intro i H k n o hi ha hac hb hbc
    have hlt : (i : Int) < L.length := by omega
    obtain ⟨r, hr, hdr⟩ := drop_at (L := L) (i := i) (by omega)
    obtain ⟨i1, o1, vi, vo, h1, h2, h3, h4, h5, h6, h7, h8, h9, h10⟩ := Rules.atC ha hac hr
    have h5' := h5
    have h6' := h6
    obtain ⟨⟨ai, ci, rfl⟩, _⟩ := h5'
    obtain ⟨⟨ao, co, rfl⟩, _⟩ := h6'
    have hx1 := Ext.push H ⟨[.slice ai r.1.length ci, .slice ao r.2.length co], 51, .tip, 1, []⟩
    obtain ⟨H1, hH1⟩ : ∃ H1, H1 = H.push ⟨[.slice ai r.1.length ci, .slice ao r.2.length co], 51, .tip, 1, []⟩ := ⟨_, rfl⟩
    have hg1 : H1.get H.n = some ⟨[.slice ai r.1.length ci, .slice ao r.2.length co], 51, .tip, 1, []⟩ := by rw [hH1]; exact get_push_self
    have hw2 : IntKind.i64.wrap ((i : Int) + 1) = ((i + 1 : Nat) : Int) := by rw [wrap64 (by omega) (by omega)]; omega
    have hlr : ∀ H2 : AHeap, vLen false (.slice ai r.1.length ci) H2 = some (.int .i64 r.1.length, H2) := fun H2 => Sl.len h5
    have hlb : ∀ H2 : AHeap, vLen false b H2 = some (.int .i64 us.length, H2) := fun H2 => Sl.len hb
    rw [w_loop_b b_lontarlaw04_Longest_0.eq_1, hdr]
    unfold docF
    rw [← hH1] at hx1
    by_cases hle : r.1.length ≤ us.length
    · obtain ⟨b', s1, s2, s3⟩ := (hb.ext hx1).take (hbc.ext hx1) hle
      have s1' := s1 .i64
      have cU := c_Units (h5.ext hx1) s2 h7
      have hle' : (r.1.length : Int) ≤ us.length := by omega
      have hgt : ¬ (r.1.length : Int) > us.length := by omega
      have hd : (decide (us.length < r.1.length) && decide (r.1.take us.length = us)) = false := by
        rw [decide_eq_false (by omega)]; rfl
      rw [hd, Bool.or_false]
      by_cases he : r.1 = us.take r.1.length
      · have he' : decide (r.1 = us.take r.1.length) = true := decide_eq_true he
        rw [he'] at cU
        by_cases hn : n < r.1.length
        · have hn' : (r.1.length : Int) > n := by omega
          rw [if_pos ⟨hle, he, hn⟩]
          obtain ⟨y, e', H', r1, r2, r3, r4, r5, r6⟩ := ih (i + 1) H1 i r.1.length o (by omega) (ha.ext hx1) (hac.ext hx1) (hb.ext hx1) (hbc.ext hx1)
          cases o <;>
          · simp only [WA, isStore, isCall, isK, freshI, stampO, List.nil_append, Option.map_some, Option.map_none, Option.bind_some, List.map_cons, List.map_nil, if_true, if_false, Nat.reduceEqDiff, Int.reduceEq, Nat.reduceAdd, Nat.reduceMul, reduceCtorEq, eq_self, Int.reduceLT, Int.reduceLE, Int.reduceToNat, List.length_cons, List.length_nil, List.all_cons, List.all_nil, List.take_zero, List.drop_nil, List.append_nil, List.getElem?_cons_zero, List.getElem?_cons_succ, List.drop_succ_cons, List.drop_zero, List.take_succ_cons, List.cons_append, Nat.reduceLeDiff, Int.cast_ofNat_Int, hlt, h1, h4, ← hH1, hg1, hlr, hlb, hle', s1', cU, hn', hgt, hw2]
            rw [w_enter]
            simp only [WA, isStore, isCall, isK, freshI, stampO, List.nil_append, Option.map_some, Option.map_none, Option.bind_some, List.map_cons, List.map_nil, if_true, if_false, Nat.reduceEqDiff, Int.reduceEq, Nat.reduceAdd, Nat.reduceMul, reduceCtorEq, eq_self, Int.reduceLT, Int.reduceLE, Int.reduceToNat, List.length_cons, List.length_nil, List.all_cons, List.all_nil, List.take_zero, List.drop_nil, List.append_nil, List.getElem?_cons_zero, List.getElem?_cons_succ, List.drop_succ_cons, List.drop_zero, List.take_succ_cons, List.cons_append, Nat.reduceLeDiff, Int.cast_ofNat_Int, r1]
            exact ⟨r2, hx1.trans r3, r4, r5, r6⟩
        · have hn' : ¬ (r.1.length : Int) > n := by omega
          rw [if_neg (fun h => hn h.2.2)]
          obtain ⟨y, e', H', r1, r2, r3, r4, r5, r6⟩ := ih (i + 1) H1 k n o (by omega) (ha.ext hx1) (hac.ext hx1) (hb.ext hx1) (hbc.ext hx1)
          cases o <;>
          · simp only [WA, isStore, isCall, isK, freshI, stampO, List.nil_append, Option.map_some, Option.map_none, Option.bind_some, List.map_cons, List.map_nil, if_true, if_false, Nat.reduceEqDiff, Int.reduceEq, Nat.reduceAdd, Nat.reduceMul, reduceCtorEq, eq_self, Int.reduceLT, Int.reduceLE, Int.reduceToNat, List.length_cons, List.length_nil, List.all_cons, List.all_nil, List.take_zero, List.drop_nil, List.append_nil, List.getElem?_cons_zero, List.getElem?_cons_succ, List.drop_succ_cons, List.drop_zero, List.take_succ_cons, List.cons_append, Nat.reduceLeDiff, Int.cast_ofNat_Int, hlt, h1, h4, ← hH1, hg1, hlr, hlb, hle', s1', cU, hn', hgt, hw2]
            rw [w_enter]
            simp only [WA, isStore, isCall, isK, freshI, stampO, List.nil_append, Option.map_some, Option.map_none, Option.bind_some, List.map_cons, List.map_nil, if_true, if_false, Nat.reduceEqDiff, Int.reduceEq, Nat.reduceAdd, Nat.reduceMul, reduceCtorEq, eq_self, Int.reduceLT, Int.reduceLE, Int.reduceToNat, List.length_cons, List.length_nil, List.all_cons, List.all_nil, List.take_zero, List.drop_nil, List.append_nil, List.getElem?_cons_zero, List.getElem?_cons_succ, List.drop_succ_cons, List.drop_zero, List.take_succ_cons, List.cons_append, Nat.reduceLeDiff, Int.cast_ofNat_Int, r1]
            exact ⟨r2, hx1.trans r3, r4, r5, r6⟩
      · have he' : decide (r.1 = us.take r.1.length) = false := decide_eq_false he
        rw [he'] at cU
        rw [if_neg (fun h => he h.2.1)]
        obtain ⟨y, e', H', r1, r2, r3, r4, r5, r6⟩ := ih (i + 1) H1 k n o (by omega) (ha.ext hx1) (hac.ext hx1) (hb.ext hx1) (hbc.ext hx1)
        cases o <;>
        · simp only [WA, isStore, isCall, isK, freshI, stampO, List.nil_append, Option.map_some, Option.map_none, Option.bind_some, List.map_cons, List.map_nil, if_true, if_false, Nat.reduceEqDiff, Int.reduceEq, Nat.reduceAdd, Nat.reduceMul, reduceCtorEq, eq_self, Int.reduceLT, Int.reduceLE, Int.reduceToNat, List.length_cons, List.length_nil, List.all_cons, List.all_nil, List.take_zero, List.drop_nil, List.append_nil, List.getElem?_cons_zero, List.getElem?_cons_succ, List.drop_succ_cons, List.drop_zero, List.take_succ_cons, List.cons_append, Nat.reduceLeDiff, Int.cast_ofNat_Int, hlt, h1, h4, ← hH1, hg1, hlr, hlb, hle', s1', cU, hgt, hw2]
          rw [w_enter]
          simp only [WA, isStore, isCall, isK, freshI, stampO, List.nil_append, Option.map_some, Option.map_none, Option.bind_some, List.map_cons, List.map_nil, if_true, if_false, Nat.reduceEqDiff, Int.reduceEq, Nat.reduceAdd, Nat.reduceMul, reduceCtorEq, eq_self, Int.reduceLT, Int.reduceLE, Int.reduceToNat, List.length_cons, List.length_nil, List.all_cons, List.all_nil, List.take_zero, List.drop_nil, List.append_nil, List.getElem?_cons_zero, List.getElem?_cons_succ, List.drop_succ_cons, List.drop_zero, List.take_succ_cons, List.cons_append, Nat.reduceLeDiff, Int.cast_ofNat_Int, r1]
          exact ⟨r2, hx1.trans r3, r4, r5, r6⟩
    · have hle' : ¬ (r.1.length : Int) ≤ us.length := by omega
      have hgt : (r.1.length : Int) > us.length := by omega
      rw [if_neg (fun h => hle h.1), decide_eq_true (show us.length < r.1.length by omega), Bool.true_and]
      obtain ⟨b', s1, s2, s3⟩ := (h5.ext hx1).take (h9.ext hx1) (show us.length ≤ r.1.length by omega)
      have s1' := s1 .i64
      have cU := c_Units s2 (hb.ext hx1) (by rw [List.length_take]; unfold Lon.tiny at hus; omega)
      obtain ⟨y, e', H', r1, r2, r3, r4, r5, r6⟩ := ih (i + 1) H1 k n (o || decide (r.1.take us.length = us)) (by omega) (ha.ext hx1) (hac.ext hx1) (hb.ext hx1) (hbc.ext hx1)
      cases o with
      | true =>
        simp only [Bool.true_or] at r1 r4 r5 r6 ⊢
        simp only [WA, isStore, isCall, isK, freshI, stampO, List.nil_append, Option.map_some, Option.map_none, Option.bind_some, List.map_cons, List.map_nil, if_true, if_false, Nat.reduceEqDiff, Int.reduceEq, Nat.reduceAdd, Nat.reduceMul, reduceCtorEq, eq_self, Int.reduceLT, Int.reduceLE, Int.reduceToNat, List.length_cons, List.length_nil, List.all_cons, List.all_nil, List.take_zero, List.drop_nil, List.append_nil, List.getElem?_cons_zero, List.getElem?_cons_succ, List.drop_succ_cons, List.drop_zero, List.take_succ_cons, List.cons_append, Nat.reduceLeDiff, Int.cast_ofNat_Int, hlt, h1, h4, ← hH1, hg1, hlr, hlb, hle', hw2]
        rw [w_enter]
        simp only [WA, isStore, isCall, isK, freshI, stampO, List.nil_append, Option.map_some, Option.map_none, Option.bind_some, List.map_cons, List.map_nil, if_true, if_false, Nat.reduceEqDiff, Int.reduceEq, Nat.reduceAdd, Nat.reduceMul, reduceCtorEq, eq_self, Int.reduceLT, Int.reduceLE, Int.reduceToNat, List.length_cons, List.length_nil, List.all_cons, List.all_nil, List.take_zero, List.drop_nil, List.append_nil, List.getElem?_cons_zero, List.getElem?_cons_succ, List.drop_succ_cons, List.drop_zero, List.take_succ_cons, List.cons_append, Nat.reduceLeDiff, Int.cast_ofNat_Int, r1]
        exact ⟨r2, hx1.trans r3, r4, r5, r6⟩
      | false =>
        simp only [Bool.false_or] at r1 r4 r5 r6 ⊢
        simp only [WA, isStore, isCall, isK, freshI, stampO, List.nil_append, Option.map_some, Option.map_none, Option.bind_some, List.map_cons, List.map_nil, if_true, if_false, Nat.reduceEqDiff, Int.reduceEq, Nat.reduceAdd, Nat.reduceMul, reduceCtorEq, eq_self, Int.reduceLT, Int.reduceLE, Int.reduceToNat, List.length_cons, List.length_nil, List.all_cons, List.all_nil, List.take_zero, List.drop_nil, List.append_nil, List.getElem?_cons_zero, List.getElem?_cons_succ, List.drop_succ_cons, List.drop_zero, List.take_succ_cons, List.cons_append, Nat.reduceLeDiff, Int.cast_ofNat_Int, hlt, h1, h4, ← hH1, hg1, hlr, hlb, hle', hgt, s1', cU, hw2]
        rw [w_enter]
        simp only [WA, isStore, isCall, isK, freshI, stampO, List.nil_append, Option.map_some, Option.map_none, Option.bind_some, List.map_cons, List.map_nil, if_true, if_false, Nat.reduceEqDiff, Int.reduceEq, Nat.reduceAdd, Nat.reduceMul, reduceCtorEq, eq_self, Int.reduceLT, Int.reduceLE, Int.reduceToNat, List.length_cons, List.length_nil, List.all_cons, List.all_nil, List.take_zero, List.drop_nil, List.append_nil, List.getElem?_cons_zero, List.getElem?_cons_succ, List.drop_succ_cons, List.drop_zero, List.take_succ_cons, List.cons_append, Nat.reduceLeDiff, Int.cast_ofNat_Int, r1]
        exact ⟨r2, hx1.trans r3, r4, r5, r6⟩
theorem c_Doc {a b : Value} {us : List Int} {L : List Rl} {H : AHeap} (ha : Rules H a L) (hac : CutR H a) (hb : Ints H b us) (hbc : Cut Try.prog H b 1) (hL : L.length < 1000000) (hus : tiny us) : Gives (cw Try.prog (tabF tab) om1 29 [a, b] H) fun v H' => Ext H H' ∧ v = .tuple ⟨[.int .i64 (docF us L 0 (-1) 0 false).1, .int .i64 (docF us L 0 (-1) 0 false).2.1, .bool (docF us L 0 (-1) 0 false).2.2]⟩ := by
  rw [cw_run (F := F_lontarlaw04_Longest) rfl rfl rfl]
  unfold F_lontarlaw04_Longest k_lontarlaw04_Longest
  obtain ⟨y, e', H', r1, rfl, r3, r4, r5, r6⟩ := l_Doc (a := a) hL hus L.length 0 H (-1) 0 false (by omega) ha hac hb hbc
  have hl := ha.len (H2 := H)
  rw [List.drop_zero] at r4 r5 r6
  simp only [Int.cast_ofNat_Int] at r1
  simp only [WA, isStore, isCall, isK, freshI, stampO, List.nil_append, Option.map_some, Option.map_none, Option.bind_some, List.map_cons, List.map_nil, if_true, if_false, Nat.reduceEqDiff, Int.reduceEq, Nat.reduceAdd, Nat.reduceMul, reduceCtorEq, eq_self, Int.reduceLT, Int.reduceLE, Int.reduceToNat, List.length_cons, List.length_nil, List.all_cons, List.all_nil, List.take_zero, List.drop_nil, List.append_nil, List.getElem?_cons_zero, List.getElem?_cons_succ, List.drop_succ_cons, List.drop_zero, List.take_succ_cons, List.cons_append, Nat.reduceLeDiff, Int.cast_ofNat_Int, hl]
  rw [w_enter]
  simp only [WA, isStore, isCall, isK, freshI, stampO, List.nil_append, Option.map_some, Option.map_none, Option.bind_some, List.map_cons, List.map_nil, if_true, if_false, Nat.reduceEqDiff, Int.reduceEq, Nat.reduceAdd, Nat.reduceMul, reduceCtorEq, eq_self, Int.reduceLT, Int.reduceLE, Int.reduceToNat, List.length_cons, List.length_nil, List.all_cons, List.all_nil, List.take_zero, List.drop_nil, List.append_nil, List.getElem?_cons_zero, List.getElem?_cons_succ, List.drop_succ_cons, List.drop_zero, List.take_succ_cons, List.cons_append, Nat.reduceLeDiff, Int.cast_ofNat_Int, r1, r4, r5, r6]
  exact r3
end Go.Proofs.Ythnccfmmeaeibaa

/-! Units by numbers. -/
set_option linter.unusedSimpArgs false
set_option linter.unusedVariables false
namespace Go.Proofs.Ythnccfmmeaeibaa
open Go Lon
def som (l : List Int) : List Int := (l.take 60).map fun u => 97 + u % 6
theorem som_len {l : List Int} : (som l).length ≤ 60 := by unfold som; rw [List.length_map, List.length_take]; omega
theorem som_map {l : List Int} {i : Nat} : (l.map fun u => 97 + u % 6).take i = (l.take i).map fun u => 97 + u % 6 := by rw [List.map_take]
theorem l_Some {a : Value} {l : List Int} {B : Nat} (hl : l.length ≤ 60) (hb : bytes l) : ∀ (k i : Nat) (H : AHeap) (out : Value), i + k = l.length → Nums H .u8 a l → Own H 3 1 out i (ints ((l.take i).map fun u => 97 + u % 6)) → From B out → B ≤ H.n →
    Out (run Try.prog (tabF tab) om1 (.loop [3, 10, 11, 12] b_lontarlaw04_Some_0) [(3, out), (10, a), (11, .int .i64 l.length), (12, .int .i64 i)] H) fun y e' H' => y = .exit 0 ∧ Own H' 3 1 (eget e' 3) l.length (ints (l.map fun u => 97 + u % 6)) ∧ From B (eget e' 3) ∧ B ≤ H'.n ∧ (∀ j, j < B → H'.get j = H.get j) := by
  intro k
  induction k with
  | zero =>
    intro i H out hi ha ho hf hB
    obtain rfl : i = l.length := by omega
    have hlt : ¬ ((l.length : Int) < l.length) := by omega
    rw [w_loop_b b_lontarlaw04_Some_0.eq_1]
    rw [List.take_length] at ho
    simp only [WA, isStore, isCall, isK, freshI, stampO, List.nil_append, Option.map_some, Option.map_none, Option.bind_some, List.map_cons, List.map_nil, if_true, if_false, Nat.reduceEqDiff, Int.reduceEq, Nat.reduceAdd, Nat.reduceMul, reduceCtorEq, eq_self, Int.reduceLT, Int.reduceLE, Int.reduceToNat, List.length_cons, List.length_nil, List.all_cons, List.all_nil, List.take_zero, List.drop_nil, List.append_nil, List.getElem?_cons_zero, List.getElem?_cons_succ, List.drop_succ_cons, List.drop_zero, List.take_succ_cons, List.cons_append, Nat.reduceLeDiff, Int.cast_ofNat_Int, hlt]
    exact ⟨ho, hf, hB, fun _ _ => trivial⟩
  | succ k ih =>
    intro i H out hi ha ho hf hB
    have hlt : (i : Int) < l.length := by omega
    obtain ⟨u, hu, hd⟩ := drop_at (L := l) (i := i) (by omega)
    obtain ⟨u1, u2⟩ := hb u (List.mem_of_getElem? hu)
    obtain ⟨i1, o1, h1, h2⟩ := ha.at hu
    have hw2 : IntKind.i64.wrap ((i : Int) + 1) = ((i + 1 : Nat) : Int) := by rw [wrap64 (by omega) (by omega)]; omega
    have q1 : intOp .rem .u8 u 6 = some (.int .u8 (u % 6)) := by rw [int_rem (by decide), Int.tmod_eq_emod_of_nonneg (by omega)]
    have q2 : IntKind.i64.wrap (u % 6) = u % 6 := wrap64 (by omega) (by omega)
    have q3 : IntKind.i64.wrap (97 + u % 6) = 97 + u % 6 := wrap64 (by omega) (by omega)
    have hx1 := Ext.push H ⟨[.int .i64 (97 + u % 6)], 3, .tip, 0, []⟩
    obtain ⟨v', H5, m1, m2, m3, m4, m5, m6⟩ := Own.append2 (bytes := 8) (m := 1) (ho.ext hx1) (Sl.new (n := 1) (c := 2) (get_push_self (H := H) (b := ⟨[.int .i64 (97 + u % 6)], 3, .tip, 0, []⟩)) mem_tip rfl) (by omega) rfl (by omega)
    have hdone : ints ((l.take i).map fun u => 97 + u % 6) ++ [.int .i64 (97 + u % 6)] = ints ((l.take (i + 1)).map fun u => 97 + u % 6) := by
      rw [List.take_add_one, hu]; simp [ints]
    rw [hdone] at m2
    obtain ⟨y, e', H', r1, r2, r4, r5, r6, r7⟩ := ih (i + 1) H5 v' (by omega) (((ha.ext hx1)).keeps m4) m2 (m3.mono (by simp; omega)) (by simp at m5; omega)
    rw [w_loop_b b_lontarlaw04_Some_0.eq_1]
    simp only [WA, isStore, isCall, isK, freshI, stampO, List.nil_append, Option.map_some, Option.map_none, Option.bind_some, List.map_cons, List.map_nil, if_true, if_false, Nat.reduceEqDiff, Int.reduceEq, Nat.reduceAdd, Nat.reduceMul, reduceCtorEq, eq_self, Int.reduceLT, Int.reduceLE, Int.reduceToNat, List.length_cons, List.length_nil, List.all_cons, List.all_nil, List.take_zero, List.drop_nil, List.append_nil, List.getElem?_cons_zero, List.getElem?_cons_succ, List.drop_succ_cons, List.drop_zero, List.take_succ_cons, List.cons_append, Nat.reduceLeDiff, Int.cast_ofNat_Int, hlt, h1, h2, q1, q2, q3, v_int1, m1, hw2]
    rw [w_enter]
    simp only [WA, isStore, isCall, isK, freshI, stampO, List.nil_append, Option.map_some, Option.map_none, Option.bind_some, List.map_cons, List.map_nil, if_true, if_false, Nat.reduceEqDiff, Int.reduceEq, Nat.reduceAdd, Nat.reduceMul, reduceCtorEq, eq_self, Int.reduceLT, Int.reduceLE, Int.reduceToNat, List.length_cons, List.length_nil, List.all_cons, List.all_nil, List.take_zero, List.drop_nil, List.append_nil, List.getElem?_cons_zero, List.getElem?_cons_succ, List.drop_succ_cons, List.drop_zero, List.take_succ_cons, List.cons_append, Nat.reduceLeDiff, Int.cast_ofNat_Int, r1]
    refine ⟨r2, r4, r5, r6, fun j hj => ?_⟩
    rw [r7 j hj, m6 j (by simp; omega) (NotAt.of_from hf hj), hx1.2 j (by omega)]
theorem c_Some {a : Value} {l : List Int} {H : AHeap} (ha : Nums H .u8 a l) (hc : Cut Try.prog H a 1) (hb : bytes l) (hs : tiny l) : Gives (cw Try.prog (tabF tab) om1 19 [a] H) fun v H' => Ext H H' ∧ Ints H' v (som l) ∧ Cut Try.prog H' v 1 := by
  rw [cw_run (F := F_lontarlaw04_Some) rfl rfl rfl]
  unfold F_lontarlaw04_Some k_lontarlaw04_Some
  obtain ⟨k, hk⟩ : ∃ k : Nat, k = min l.length 60 := ⟨_, rfl⟩
  obtain ⟨a', s1, s2, s3⟩ := ha.take hc (show k ≤ l.length by omega)
  have hmin : (if (60 : Int) < (l.length : Int) then (60 : Int) else (l.length : Int)) = (k : Int) := by split <;> omega
  have hkl : (l.take k).length = k := by simp; omega
  have hk4 : l.take 60 = l.take k := by
    subst hk
    rcases Nat.le_total l.length 60 with h | h
    · rw [Nat.min_eq_left h, List.take_of_length_le h, List.take_length]
    · rw [Nat.min_eq_right h]
  obtain ⟨y, e', H', r1, rfl, r4, r5, r6, r7⟩ := l_Some (a := a') (l := l.take k) (B := H.n) (by omega) (fun u hu => hb u (List.mem_of_mem_take hu)) (l.take k).length 0 H (.slice none 0 0) (by omega) s2 ⟨rfl, .inl ⟨rfl, rfl⟩⟩ trivial (Nat.le_refl _)
  have hl0 := ha.len (H2 := H)
  have hl1 := Nums.len s2 (H2 := H)
  rw [hkl] at hl1 r1 r4
  simp only [Int.cast_ofNat_Int] at r1
  have s1' := s1 .i64
  simp only [WA, isStore, isCall, isK, freshI, stampO, List.nil_append, Option.map_some, Option.map_none, Option.bind_some, List.map_cons, List.map_nil, if_true, if_false, Nat.reduceEqDiff, Int.reduceEq, Nat.reduceAdd, Nat.reduceMul, reduceCtorEq, eq_self, Int.reduceLT, Int.reduceLE, Int.reduceToNat, List.length_cons, List.length_nil, List.all_cons, List.all_nil, List.take_zero, List.drop_nil, List.append_nil, List.getElem?_cons_zero, List.getElem?_cons_succ, List.drop_succ_cons, List.drop_zero, List.take_succ_cons, List.cons_append, Nat.reduceLeDiff, Int.cast_ofNat_Int, hl0, hmin, s1', hl1]
  rw [w_enter]
  simp only [WA, isStore, isCall, isK, freshI, stampO, List.nil_append, Option.map_some, Option.map_none, Option.bind_some, List.map_cons, List.map_nil, if_true, if_false, Nat.reduceEqDiff, Int.reduceEq, Nat.reduceAdd, Nat.reduceMul, reduceCtorEq, eq_self, Int.reduceLT, Int.reduceLE, Int.reduceToNat, List.length_cons, List.length_nil, List.all_cons, List.all_nil, List.take_zero, List.drop_nil, List.append_nil, List.getElem?_cons_zero, List.getElem?_cons_succ, List.drop_succ_cons, List.drop_zero, List.take_succ_cons, List.cons_append, Nat.reduceLeDiff, Int.cast_ofNat_Int, r1]
  refine ⟨⟨r6, r7⟩, ?_, r4.cut (by kernel_rfl)⟩
  have := r4.sl
  unfold Ints som
  rw [hk4, List.length_map, hkl]
  exact this
end Go.Proofs.Ythnccfmmeaeibaa

/-! A trie of rules, as those who use it see it. -/
set_option linter.unusedSimpArgs false
set_option linter.unusedVariables false
namespace Go.Proofs.Ythnccfmmeaeibaa
open Go Lon
/-- At block t lies the trie of the rules L. -/
structure TrieOk (H : AHeap) (t : Nat) (L : List Rl) : Prop where
  right : Right L
  few : L.length ≤ 512
  rest : ∃ N vr, TrieAt H t N vr ∧ Rules H vr ((L.map (·.2)).map fun o => ([], o)) ∧ Fits (paths L) N ∧ RF (fnd L) (paths L) N ∧ ∀ q, q ∉ paths L → fnd L q = -1
theorem TrieOk.ext {H H' : AHeap} (hx : Ext H H') {t : Nat} {L : List Rl} (h : TrieOk H t L) : TrieOk H' t L := by
  obtain ⟨N, vr, h1, h2, h3⟩ := h.rest
  exact ⟨h.right, h.few, N, vr, h1.ext hx, h2.ext hx, h3⟩
/-- The longest rule that units begin with. -/
def lgs (L : List Rl) (us : List Int) : Int × Nat × Bool := docF us L 0 (-1) 0 false
theorem c_LongT {t : Nat} {L : List Rl} {b : Value} {us : List Int} {H : AHeap} (hT : TrieOk H t L) (hb : Ints H b us) (hs : tiny us) :
    cw Try.prog (tabF tab) om1 28 [.pointer (some ⟨t, 0, none⟩), b] H = some (.tuple ⟨[.int .i64 (lgs L us).1, .int .i64 (lgs L us).2.1, .bool (lgs L us).2.2]⟩, H) := by
  obtain ⟨N, vr, h1, h2, h3, h4, h5⟩ := hT.rest
  have := c_Long h1 h3 hb hs
  rw [lon_doc hT.right h3 h4 h5] at this
  exact this
theorem c_OutT {t i : Nat} {L : List Rl} {r : Rl} {H : AHeap} (hT : TrieOk H t L) (hr : L[i]? = some r) :
    Gives (cw Try.prog (tabF tab) om1 44 [.pointer (some ⟨t, 0, none⟩), .int .i64 (i : Int)] H) fun v H' => Ext H H' ∧ Ints H' v r.2 ∧ From H.n v ∧ Cut Try.prog H' v 1 := by
  obtain ⟨N, vr, h1, h2, _⟩ := hT.rest
  have h8 := side_len ((hT.right.1 r (List.mem_of_getElem? hr)).2)
  exact c_Out h1 h2 (by rw [List.getElem?_map, hr]; rfl) (by omega)
theorem c_OfT {a : Value} {L : List Rl} {H : AHeap} (ha : Rules H a L) (hC : Cut Try.prog H a 2) (hR : Right L) (hL : L.length ≤ 512) :
    Gives (cw Try.prog (tabF tab) om1 16 [a] H) fun v H' => Ext H H' ∧ ∃ t, v = .tuple ⟨[.pointer (some ⟨t, 0, none⟩), .int .i64 0]⟩ ∧ TrieOk H' t L := by
  obtain ⟨v, H', c, x, t, b, vr, N, rfl, hT, h3, h4, h5⟩ := c_Of ha hC hR hL
  exact ⟨_, H', c, x, t, rfl, hR, hL, N, vr, hT.at, hT.rules (by simp; omega), h3, h4, h5⟩
/-! What the longest rule is. -/
theorem lgs_pre {L : List Rl} (hR : Right L) (us : List Int) : Pre L us (lgs L us).1 (lgs L us).2.1 ∧ ((lgs L us).2.2 = true ↔ ∃ r ∈ L, us.length < r.1.length ∧ us <+: r.1) := by
  have := docF_is (us := us) L [] (-1) 0 false (by simpa using hR.2) ⟨Nat.zero_le _, fun _ => rfl, fun h => by omega, fun m _ _ => by have : fnd [] (us.take m) = -1 := rfl; rw [this]; decide⟩ (by simp)
  rw [List.nil_append] at this
  exact this
theorem fnd_some {L : List Rl} {x : List Int} (h : 0 ≤ fnd L x) : ∃ r, L[(fnd L x).toNat]? = some r ∧ r.1 = x := by
  unfold fnd at h ⊢
  split at h
  · rename_i k hk
    obtain ⟨r, h1, h2, _⟩ := fdx_some hk
    exact ⟨r, by simpa [hk] using h1, h2⟩
  · omega
theorem lgs_neg {L : List Rl} (hR : Right L) {us : List Int} (h : (lgs L us).1 < 0) : (lgs L us).2.1 = 0 := by
  obtain ⟨h1, h2, h3, h4⟩ := (lgs_pre hR us).1
  rcases Nat.eq_zero_or_pos (lgs L us).2.1 with h0 | h0
  · exact h0
  · have := (h3 h0).2; omega
theorem lgs_pos {L : List Rl} (hR : Right L) {us : List Int} (h : ¬ (lgs L us).1 < 0) : 0 < (lgs L us).2.1 ∧ (lgs L us).2.1 ≤ us.length ∧ ∃ r, L[(lgs L us).1.toNat]? = some r ∧ r.1 = us.take (lgs L us).2.1 ∧ 0 ≤ (lgs L us).1 := by
  obtain ⟨h1, h2, h3, h4⟩ := (lgs_pre hR us).1
  rcases Nat.eq_zero_or_pos (lgs L us).2.1 with h0 | h0
  · have := h2 h0; omega
  · obtain ⟨a1, a2⟩ := h3 h0
    rw [a1] at a2 ⊢
    obtain ⟨r, b1, b2⟩ := fnd_some a2
    exact ⟨h0, h1, r, b1, b2, a2⟩
/-- The token that units begin with. -/
def oneT (L : List Rl) (us : List Int) (a : Int) : Tok := if (lgs L us).1 < 0 then ⟨a, 1, [], 3⟩ else ⟨a, (lgs L us).2.1, (match L[(lgs L us).1.toNat]? with | some r => r.2 | none => []), 0⟩
theorem oneT_len {L : List Rl} (hR : Right L) {us : List Int} (hn : us ≠ []) (a : Int) : ∃ n : Nat, (oneT L us a).len = n ∧ 0 < n ∧ n ≤ us.length := by
  have hp := List.length_pos_iff.2 hn
  unfold oneT
  split
  · exact ⟨1, rfl, by decide, hp⟩
  · rename_i h
    obtain ⟨h1, h2, _⟩ := lgs_pos hR h
    exact ⟨_, rfl, h1, h2⟩
/-- All tokens of units. -/
def allT (L : List Rl) : Nat → List Int → Int → List Tok
  | 0, _, _ => []
  | c + 1, us, a => if us = [] then [] else oneT L us a :: allT L c (us.drop (oneT L us a).len.toNat) (a + (oneT L us a).len)
theorem allT_succ {L : List Rl} {c : Nat} {us : List Int} {a : Int} : allT L (c + 1) us a = if us = [] then [] else oneT L us a :: allT L c (us.drop (oneT L us a).len.toNat) (a + (oneT L us a).len) := rfl
theorem allT_nil {L : List Rl} {c : Nat} {a : Int} : allT L c [] a = [] := by cases c <;> simp [allT]
theorem allT_fuel {L : List Rl} (hR : Right L) : ∀ {c d : Nat} {us : List Int} {a : Int}, us.length ≤ c → us.length ≤ d → allT L c us a = allT L d us a := by
  intro c
  induction c with
  | zero =>
    intro d us a h1 h2
    have : us = [] := List.length_eq_zero_iff.1 (by omega)
    subst this
    rw [allT_nil, allT_nil]
  | succ c ih =>
    intro d us a h1 h2
    by_cases hn : us = []
    · subst hn; rw [allT_nil, allT_nil]
    · obtain ⟨n, e, n1, n2⟩ := oneT_len hR hn a
      cases d with
      | zero => exact absurd (List.length_eq_zero_iff.1 (by omega)) hn
      | succ d =>
        unfold allT
        rw [if_neg hn, if_neg hn, e]
        congr 1
        refine ih ?_ ?_ <;> rw [List.length_drop, Int.toNat_natCast] <;> omega
def allU (L : List Rl) (us : List Int) (a : Int) : List Tok := allT L us.length us a
theorem allU_nil {L : List Rl} {a : Int} : allU L [] a = [] := rfl
theorem allU_cons {L : List Rl} (hR : Right L) {us : List Int} (hn : us ≠ []) (a : Int) : allU L us a = oneT L us a :: allU L (us.drop (oneT L us a).len.toNat) (a + (oneT L us a).len) := by
  obtain ⟨n, e, n1, n2⟩ := oneT_len hR hn a
  unfold allU
  obtain ⟨c, hc⟩ : ∃ c, us.length = c + 1 := ⟨us.length - 1, by omega⟩
  rw [hc, allT_succ, if_neg hn, e]
  congr 1
  refine allT_fuel hR ?_ (Nat.le_refl _)
  rw [List.length_drop, Int.toNat_natCast]
  omega
theorem allU_len {L : List Rl} (hR : Right L) : ∀ (c : Nat) (us : List Int) (a : Int), us.length ≤ c → (allU L us a).length ≤ us.length := by
  intro c
  induction c with
  | zero =>
    intro us a h
    have : us = [] := List.length_eq_zero_iff.1 (by omega)
    subst this
    rw [allU_nil]; exact Nat.le_refl _
  | succ c ih =>
    intro us a h
    by_cases hn : us = []
    · subst hn; rw [allU_nil]; exact Nat.le_refl _
    · obtain ⟨n, e, n1, n2⟩ := oneT_len hR hn a
      rw [allU_cons hR hn, e, List.length_cons]
      have := ih (us.drop n) (a + n) (by rw [List.length_drop]; omega)
      rw [List.length_drop] at this
      show (allU L (us.drop n) (a + n)).length + 1 ≤ us.length
      omega
theorem oneT_out {L : List Rl} (hR : Right L) {us : List Int} {a : Int} : (oneT L us a).out.length ≤ 8 := by
  unfold oneT
  split
  · exact Nat.zero_le _
  · rename_i h
    obtain ⟨_, _, r, h1, _⟩ := lgs_pos hR h
    simp only [h1]
    exact (side_len (hR.1 r (List.mem_of_getElem? h1)).2).2
end Go.Proofs.Ythnccfmmeaeibaa

/-! Units made into tokens: the program's way, and the document's. -/
set_option linter.unusedSimpArgs false
set_option linter.unusedVariables false
namespace Go.Proofs.Ythnccfmmeaeibaa
open Go Lon
set_option maxRecDepth 100000
theorem ress_cell {P : Program} {e : Env} {H : AHeap} {t : Nat} {k : Option Nat} {r : List ARes} : ressA P e H (.cell t k :: r) = (match (readA P e H (.load (.tmp t) k)), ressA P e H r with | some v, some vs => some (v :: vs) | _, _ => none) := rfl
theorem rd_load {P : Program} {e : Env} {H : AHeap} {x : Operand} {k : Option Nat} : readA P e H (.load x k) = (vLoad (ev e x) k H).map (·.1) := by
  have := st_load (P := P) (cf := fun _ _ _ => none) (e := e) (H := H) (x := x) (k := k)
  rw [← this]
  simp only [stepA]
  cases readA P e H (.load x k) <;> rfl
def tokC (a : Option Addr) (c : Nat) (t : Tok) : List Value := [.int .i64 t.at_, .int .i64 t.len, .slice a t.out.length c, .int .i64 t.err]
theorem v_tokBad {H : AHeap} {a : Int} : vBuild [.int .i64 0, .int .i64 0, .slice none 0 0, .int .i64 0] [(0, 1, .int .i64 a), (1, 1, .int .i64 1), (3, 1, .int .i64 3)] H = some (.agg ⟨tokC none 0 ⟨a, 1, [], 3⟩⟩, H) := rfl
theorem v_tok {H : AHeap} {a n : Int} {p : Option Addr} {c : Nat} {o : List Int} : vBuild [.int .i64 0, .int .i64 0, .slice none 0 0, .int .i64 0] [(0, 1, .int .i64 a), (1, 1, .int .i64 n), (2, 1, .slice p o.length c)] H = some (.agg ⟨tokC p c ⟨a, n, o, 0⟩⟩, H) := rfl
theorem v_tok1 {H : AHeap} {el : TypeId} {p : Option Addr} {c : Nat} {t : Tok} : vBslice el 1 4 [.int .i64 0, .int .i64 0, .slice none 0 0, .int .i64 0] [(0, 4, .agg ⟨tokC p c t⟩)] H = some (.slice (some ⟨H.n, 0, none⟩) 1 2, H.push ⟨tokC p c t, el, .tip, 0, []⟩) := rfl
theorem tokC_one {p : Option Addr} {c : Nat} {t : Tok} : (tokC p c t).all one = true := rfl
theorem got_tok {H : AHeap} {i ver c : Nat} {el : TypeId} {p : Option Addr} {t : Tok} {a1 a2 a3 a4 : Value} : gotStore (some ⟨[a1, a2, a3, a4], el, .tip, ver, []⟩) i 0 (.agg ⟨tokC p c t⟩) 4 H = some (.tuple ⟨[]⟩, H.upd i ⟨tokC p c t, el, .tip, ver + 1, []⟩) := by
  have := got_store (H := H) (cells := [a1, a2, a3, a4]) (el := el) (ver := ver) (anc := []) (i := i) (o := 0) (n := 4) (v := .agg ⟨tokC p c t⟩) rfl rfl (Nat.le_refl 4)
  rw [this]
  rfl
theorem ld_tok {H : AHeap} {el : TypeId} {ver c : Nat} {anc : List Nat} {p : Option Addr} {t : Tok} : gotLoad (some ⟨tokC p c t, el, .tip, ver, anc⟩) 0 (some 4) H = some (.agg ⟨tokC p c t⟩, H) := rfl
theorem Ints.upd' {H : AHeap} {i B : Nat} {v : Value} {l : List Int} {b c : ABlk} (h : Ints H v l) (hg : H.get i = some b) (hf : From B v) (hi : i < B) : Ints (H.upd i c) v l := Sl.upd h hg (NotAt.of_from hf hi)
theorem c_one {t : Nat} {L : List Rl} {b : Value} {us : List Int} {a : Int} {H : AHeap} (hT : TrieOk H t L) (hb : Ints H b us) (hs : tiny us) :
    Gives (cw Try.prog (tabF tab) om1 37 [.pointer (some ⟨t, 0, none⟩), b, .int .i64 a] H) fun v H' => Ext H H' ∧ ∃ p c, v = .agg ⟨tokC p c (oneT L us a)⟩ ∧ tokQ Try.prog H' (tokC p c (oneT L us a)) (oneT L us a) := by
  rw [cw_run (F := F_rewrite_one) rfl rfl rfl]
  unfold F_rewrite_one k_rewrite_one
  have hx1 := Ext.push H ⟨[.int .i64 0, .int .i64 0, .slice none 0 0, .int .i64 0], 39, .tip, 0, []⟩
  have cL := c_LongT (hT.ext hx1) (hb.ext hx1) hs
  by_cases h0 : (lgs L us).1 < 0
  · have e : oneT L us a = ⟨a, 1, [], 3⟩ := by unfold oneT; rw [if_pos h0]
    rw [e]
    obtain ⟨u, hu⟩ : ∃ u : Tok, u = ⟨a, 1, [], 3⟩ := ⟨_, rfl⟩
    have hg := get_push_self (H := H) (b := ⟨[.int .i64 0, .int .i64 0, .slice none 0 0, .int .i64 0], 39, .tip, 0, []⟩)
    have hs2 := upd_self (c := ⟨tokC none 0 u, 39, .tip, 0 + 1, []⟩) hg
    simp only [WA, isStore, isCall, isK, freshI, stampO, List.nil_append, Option.map_some, Option.map_none, Option.bind_some, List.map_cons, List.map_nil, if_true, if_false, Nat.reduceEqDiff, Int.reduceEq, Nat.reduceAdd, Nat.reduceMul, reduceCtorEq, eq_self, Int.reduceLT, Int.reduceLE, Int.reduceToNat, List.length_cons, List.length_nil, List.all_cons, List.all_nil, List.take_zero, List.drop_nil, List.append_nil, List.getElem?_cons_zero, List.getElem?_cons_succ, List.drop_succ_cons, List.drop_zero, List.take_succ_cons, List.cons_append, Nat.reduceLeDiff, Int.cast_ofNat_Int, cL, h0, v_tokBad, ← hu, hg, got_tok, ress_cell, rd_load, hs2, ld_tok]
    exact ⟨Ext.push H _, none, 0, rfl, none, 0, by rw [hu]; rfl, by rw [hu]; exact Sl.nil _ 1, by rw [hu]; exact (by decide : (0 : Nat) < 4611686018427387904), trivial⟩
  · obtain ⟨p1, p2, r, p3, p4, p5⟩ := lgs_pos hT.right h0
    obtain ⟨k, hk⟩ : ∃ k : Nat, (lgs L us).1 = k := ⟨(lgs L us).1.toNat, by omega⟩
    rw [hk] at p3
    have p3' : L[k]? = some r := p3
    have e : oneT L us a = ⟨a, (lgs L us).2.1, r.2, 0⟩ := by unfold oneT; rw [if_neg h0, hk]; simp only [Int.toNat_natCast, p3']
    rw [e]
    obtain ⟨v, H2, cO, x2, o2, f2, u2⟩ := c_OutT (hT.ext hx1) p3'
    rw [hk] at cL h0
    have o2' := o2
    obtain ⟨⟨ao, co, rfl⟩, _⟩ := o2'
    have hg := x2.get (get_push_self (H := H) (b := ⟨[.int .i64 0, .int .i64 0, .slice none 0 0, .int .i64 0], 39, .tip, 0, []⟩))
    have ht : tiny r.2 := by
      have := (side_len (hT.right.1 r (List.mem_of_getElem? p3')).2).2
      unfold Lon.tiny; omega
    have hs2 := upd_self (c := ⟨tokC ao co ⟨a, (lgs L us).2.1, r.2, 0⟩, 39, .tip, 0 + 1, []⟩) hg
    simp only [WA, isStore, isCall, isK, freshI, stampO, List.nil_append, Option.map_some, Option.map_none, Option.bind_some, List.map_cons, List.map_nil, if_true, if_false, Nat.reduceEqDiff, Int.reduceEq, Nat.reduceAdd, Nat.reduceMul, reduceCtorEq, eq_self, Int.reduceLT, Int.reduceLE, Int.reduceToNat, List.length_cons, List.length_nil, List.all_cons, List.all_nil, List.take_zero, List.drop_nil, List.append_nil, List.getElem?_cons_zero, List.getElem?_cons_succ, List.drop_succ_cons, List.drop_zero, List.take_succ_cons, List.cons_append, Nat.reduceLeDiff, Int.cast_ofNat_Int, cL, h0, cO, v_tok, hg, got_tok, ress_cell, rd_load, hs2, ld_tok]
    exact ⟨Ext.upd (hx1.trans x2) hg (Nat.le_refl _), ao, co, rfl, ao, co, rfl, Ints.upd' o2 hg f2 (by simp), ht, u2.upd hg rfl⟩
theorem l_AllR {H0 : AHeap} {t : Nat} {L : List Rl} {b : Value} {us : List Int} (hT : TrieOk H0 t L) (hb : Ints H0 b us) (hC : Cut Try.prog H0 b 1) (hs : us.length < 1000000) : ∀ (c a : Nat) (H : AHeap) (out : Value) (T : List Tok), us.length - a ≤ c → a ≤ us.length → Ext H0 H → OwnToks Try.prog H 39 out T → From H0.n out → AncB H0.n H 39 out → T.length ≤ a →
    Out (run Try.prog (tabF tab) om1 (.loop [0, 1, 5, 6] b_rewrite_All_0) [(0, .pointer (some ⟨t, 0, none⟩)), (1, b), (5, out), (6, .int .i64 a)] H) fun y e' H' => y = .exit 0 ∧ Ext H0 H' ∧ OwnToks Try.prog H' 39 (eget e' 5) (T ++ allU L (us.drop a) a) ∧ From H0.n (eget e' 5) ∧ AncB H0.n H' 39 (eget e' 5) := by
  intro c
  induction c with
  | zero =>
    intro a H out T hc ha hx ho hf hA hl
    have hlt : ¬ ((a : Int) < us.length) := by omega
    have hlen := hb.len (H2 := H)
    rw [w_loop_b b_rewrite_All_0.eq_1, List.drop_of_length_le (by omega), allU_nil, List.append_nil]
    simp only [WA, isStore, isCall, isK, freshI, stampO, List.nil_append, Option.map_some, Option.map_none, Option.bind_some, List.map_cons, List.map_nil, if_true, if_false, Nat.reduceEqDiff, Int.reduceEq, Nat.reduceAdd, Nat.reduceMul, reduceCtorEq, eq_self, Int.reduceLT, Int.reduceLE, Int.reduceToNat, List.length_cons, List.length_nil, List.all_cons, List.all_nil, List.take_zero, List.drop_nil, List.append_nil, List.getElem?_cons_zero, List.getElem?_cons_succ, List.drop_succ_cons, List.drop_zero, List.take_succ_cons, List.cons_append, Nat.reduceLeDiff, Int.cast_ofNat_Int, hlen, hlt]
    exact ⟨hx, ho, hf, hA⟩
  | succ c ih =>
    intro a H out T hc ha hx ho hf hA hl
    have hlen := hb.len (H2 := H)
    by_cases hlt : (a : Int) < us.length
    · obtain ⟨b', s1, s2, s3⟩ := (hb.ext hx).drop (hC.ext hx) ha
      have s1' := s1 .i64
      have hne : us.drop a ≠ [] := fun e => by have := congrArg List.length e; rw [List.length_drop, List.length_nil] at this; omega
      obtain ⟨v, H1, cO, x1, p, cc, rfl, q1⟩ := c_one (a := (a : Int)) (hT.ext hx) s2 (by unfold Lon.tiny; rw [List.length_drop]; omega)
      obtain ⟨n, e, n1, n2⟩ := oneT_len hT.right hne (a : Int)
      rw [allU_cons hT.right hne, e, List.drop_drop, ← Int.natCast_add]
      rw [List.length_drop] at n2
      generalize hu : oneT L (us.drop a) (a : Int) = u at *
      have hx2 := Ext.push H1 ⟨tokC p cc u, 39, .tip, 1, []⟩
      have hx3 := Ext.push (H1.push ⟨tokC p cc u, 39, .tip, 1, []⟩) ⟨tokC p cc u, 39, .tip, 0, []⟩
      obtain ⟨H2, hH2⟩ : ∃ H2, H2 = H1.push ⟨tokC p cc u, 39, .tip, 1, []⟩ := ⟨_, rfl⟩
      have g2 : H2.get H1.n = some ⟨tokC p cc u, 39, .tip, 1, []⟩ := by rw [hH2]; exact get_push_self
      rw [← hH2] at hx2 hx3
      have hn2 : H2.n = H1.n + 1 := by rw [hH2]; simp
      have g3 := get_push_self (H := H2) (b := ⟨tokC p cc u, 39, .tip, 0, []⟩)
      have ho3 := ho.ext tokQ_mono ((x1.trans hx2).trans hx3)
      obtain ⟨v', H4, m1, m2, m3, m4, m5, m6⟩ := ho3.push tokQ_mono (bytes := 48) (c := 2) g3 rfl (tokQ_mono (hx2.trans hx3).kp q1) tokC_one (by omega) (by omega)
      have hn3 : (H2.push ⟨tokC p cc u, 39, .tip, 0, []⟩).n = H1.n + 2 := by simp [hn2]
      rw [hn3] at m3 m5 m6
      have g4 : H4.get H1.n = some ⟨tokC p cc u, 39, .tip, 1, []⟩ := by
        rw [m6 H1.n (by omega) (ho.notAt x1.1), get_push_lt (by omega), g2]
      have hx4 : Ext H0 H4 := Ext.grow (((hx.trans x1).trans hx2).trans hx3) (by omega) (by rw [hn3]; exact m6) hf
      have hld : gotLoad (some ⟨tokC p cc u, 39, .tip, 1, []⟩) 1 none H4 = some (.int .i64 u.len, H4) := rfl
      have hw : IntKind.i64.wrap ((a : Int) + u.len) = ((a + n : Nat) : Int) := by rw [e, wrap64 (by omega) (by omega)]; omega
      obtain ⟨y, e', H', r1, r2, r3, r4, r5⟩ := ih (a + n) H4 v' (T ++ [u]) (by omega) (by omega) hx4 m2 (m3.mono (by have := hx.1; have := x1.1; omega)) (appendA_anc m1 hf (((hA.ext x1).ext hx2).ext hx3)) (by rw [List.length_append, List.length_singleton]; omega)
      rw [List.append_assoc] at r4
      rw [w_loop_b b_rewrite_All_0.eq_1]
      simp only [WA, isStore, isCall, isK, freshI, stampO, List.nil_append, Option.map_some, Option.map_none, Option.bind_some, List.map_cons, List.map_nil, if_true, if_false, Nat.reduceEqDiff, Int.reduceEq, Nat.reduceAdd, Nat.reduceMul, reduceCtorEq, eq_self, Int.reduceLT, Int.reduceLE, Int.reduceToNat, List.length_cons, List.length_nil, List.all_cons, List.all_nil, List.take_zero, List.drop_nil, List.append_nil, List.getElem?_cons_zero, List.getElem?_cons_succ, List.drop_succ_cons, List.drop_zero, List.take_succ_cons, List.cons_append, Nat.reduceLeDiff, Int.cast_ofNat_Int, hlen, hlt, s1', cO, got_tok, ← hH2, g2, ld_tok, v_tok1, m1, g4, hld, hw]
      rw [w_enter]
      simp only [WA, isStore, isCall, isK, freshI, stampO, List.nil_append, Option.map_some, Option.map_none, Option.bind_some, List.map_cons, List.map_nil, if_true, if_false, Nat.reduceEqDiff, Int.reduceEq, Nat.reduceAdd, Nat.reduceMul, reduceCtorEq, eq_self, Int.reduceLT, Int.reduceLE, Int.reduceToNat, List.length_cons, List.length_nil, List.all_cons, List.all_nil, List.take_zero, List.drop_nil, List.append_nil, List.getElem?_cons_zero, List.getElem?_cons_succ, List.drop_succ_cons, List.drop_zero, List.take_succ_cons, List.cons_append, Nat.reduceLeDiff, Int.cast_ofNat_Int, r1]
      exact ⟨r2, r3, r4, r5⟩
    · rw [w_loop_b b_rewrite_All_0.eq_1, List.drop_of_length_le (by omega), allU_nil, List.append_nil]
      simp only [WA, isStore, isCall, isK, freshI, stampO, List.nil_append, Option.map_some, Option.map_none, Option.bind_some, List.map_cons, List.map_nil, if_true, if_false, Nat.reduceEqDiff, Int.reduceEq, Nat.reduceAdd, Nat.reduceMul, reduceCtorEq, eq_self, Int.reduceLT, Int.reduceLE, Int.reduceToNat, List.length_cons, List.length_nil, List.all_cons, List.all_nil, List.take_zero, List.drop_nil, List.append_nil, List.getElem?_cons_zero, List.getElem?_cons_succ, List.drop_succ_cons, List.drop_zero, List.take_succ_cons, List.cons_append, Nat.reduceLeDiff, Int.cast_ofNat_Int, hlen, hlt]
      exact ⟨hx, ho, hf, hA⟩
theorem c_AllR {t : Nat} {L : List Rl} {b : Value} {us : List Int} {H : AHeap} (hT : TrieOk H t L) (hb : Ints H b us) (hC : Cut Try.prog H b 1) (hs : us.length < 1000000) :
    Gives (cw Try.prog (tabF tab) om1 18 [.pointer (some ⟨t, 0, none⟩), b] H) fun v H' => Ext H H' ∧ OwnToks Try.prog H' 39 v (allU L us 0) ∧ From H.n v ∧ AncB H.n H' 39 v := by
  rw [cw_run (F := F_rewrite_All) rfl rfl rfl]
  unfold F_rewrite_All k_rewrite_All
  obtain ⟨y, e', H', r1, rfl, r3, r4, r5⟩ := l_AllR hT hb hC hs us.length 0 H (.slice none 0 0) [] (by omega) (Nat.zero_le _) (Ext.refl H) OwnRws.nil trivial AncB.nil (Nat.le_refl _)
  simp only [Int.cast_ofNat_Int] at r1
  rw [List.drop_zero, List.nil_append] at r4
  simp only [WA, isStore, isCall, isK, freshI, stampO, List.nil_append, Option.map_some, Option.map_none, Option.bind_some, List.map_cons, List.map_nil, if_true, if_false, Nat.reduceEqDiff, Int.reduceEq, Nat.reduceAdd, Nat.reduceMul, reduceCtorEq, eq_self, Int.reduceLT, Int.reduceLE, Int.reduceToNat, List.length_cons, List.length_nil, List.all_cons, List.all_nil, List.take_zero, List.drop_nil, List.append_nil, List.getElem?_cons_zero, List.getElem?_cons_succ, List.drop_succ_cons, List.drop_zero, List.take_succ_cons, List.cons_append, Nat.reduceLeDiff, Int.cast_ofNat_Int]
  rw [w_enter]
  simp only [WA, isStore, isCall, isK, freshI, stampO, List.nil_append, Option.map_some, Option.map_none, Option.bind_some, List.map_cons, List.map_nil, if_true, if_false, Nat.reduceEqDiff, Int.reduceEq, Nat.reduceAdd, Nat.reduceMul, reduceCtorEq, eq_self, Int.reduceLT, Int.reduceLE, Int.reduceToNat, List.length_cons, List.length_nil, List.all_cons, List.all_nil, List.take_zero, List.drop_nil, List.append_nil, List.getElem?_cons_zero, List.getElem?_cons_succ, List.drop_succ_cons, List.drop_zero, List.take_succ_cons, List.cons_append, Nat.reduceLeDiff, Int.cast_ofNat_Int, r1]
  exact ⟨r3, r4, r5⟩
end Go.Proofs.Ythnccfmmeaeibaa

/-! Tokens: the document's; whether they are the same. -/
set_option linter.unusedSimpArgs false
set_option linter.unusedVariables false
namespace Go.Proofs.Ythnccfmmeaeibaa
open Go Lon
set_option maxRecDepth 100000
theorem l_AllD {H0 : AHeap} {x : Value} {L : List Rl} {b : Value} {us : List Int} (hR : Right L) (hL : L.length ≤ 512) (hr : Rules H0 x L) (hrc : CutR H0 x) (hb : Ints H0 b us) (hC : Cut Try.prog H0 b 1) (hs : us.length < 1000000) : ∀ (c a : Nat) (H : AHeap) (out : Value) (T : List Tok), us.length - a ≤ c → a ≤ us.length → Ext H0 H → OwnToks Try.prog H 39 out T → From H0.n out → AncB H0.n H 39 out → T.length ≤ a →
    Out (run Try.prog (tabF tab) om1 (.loop [0, 1, 5, 6] b_lontarlaw05_All_0) [(0, x), (1, b), (5, out), (6, .int .i64 a)] H) fun y e' H' => y = .exit 0 ∧ Ext H0 H' ∧ OwnToks Try.prog H' 39 (eget e' 5) (T ++ allU L (us.drop a) a) ∧ From H0.n (eget e' 5) ∧ AncB H0.n H' 39 (eget e' 5) := by
  intro c
  induction c with
  | zero =>
    intro a H out T hc ha hx ho hf hA hl
    have hlt : ¬ ((a : Int) < us.length) := by omega
    have hlen := hb.len (H2 := H)
    rw [w_loop_b b_lontarlaw05_All_0.eq_1, List.drop_of_length_le (by omega), allU_nil, List.append_nil]
    simp only [WA, isStore, isCall, isK, freshI, stampO, List.nil_append, Option.map_some, Option.map_none, Option.bind_some, List.map_cons, List.map_nil, if_true, if_false, Nat.reduceEqDiff, Int.reduceEq, Nat.reduceAdd, Nat.reduceMul, reduceCtorEq, eq_self, Int.reduceLT, Int.reduceLE, Int.reduceToNat, List.length_cons, List.length_nil, List.all_cons, List.all_nil, List.take_zero, List.drop_nil, List.append_nil, List.getElem?_cons_zero, List.getElem?_cons_succ, List.drop_succ_cons, List.drop_zero, List.take_succ_cons, List.cons_append, Nat.reduceLeDiff, Int.cast_ofNat_Int, hlen, hlt]
    exact ⟨hx, ho, hf, hA⟩
  | succ c ih =>
    intro a H out T hc ha hx ho hf hA hl
    have hlen := hb.len (H2 := H)
    by_cases hlt : (a : Int) < us.length
    · obtain ⟨b', s1, s2, s3⟩ := (hb.ext hx).drop (hC.ext hx) ha
      have s1' := s1 .i64
      have hne : us.drop a ≠ [] := fun e => by have := congrArg List.length e; rw [List.length_drop, List.length_nil] at this; omega
      obtain ⟨v, H1, cD, x1, rfl⟩ := c_Doc (hr.ext hx) (hrc.ext hx) s2 s3 (by omega) (by unfold Lon.tiny; rw [List.length_drop]; omega)
      rw [show docF (us.drop a) L 0 (-1) 0 false = lgs L (us.drop a) from rfl] at cD
      obtain ⟨n, e, n1, n2⟩ := oneT_len hR hne (a : Int)
      rw [allU_cons hR hne, e, List.drop_drop, ← Int.natCast_add]
      rw [List.length_drop] at n2
      have step : ∀ {p : Option Addr} {cc : Nat} {u : Tok}, u = oneT L (us.drop a) (a : Int) → tokQ Try.prog H1 (tokC p cc u) u → ∃ v' H4, appendA (H1.push ⟨tokC p cc u, 39, .tip, 0, []⟩) out (.slice (some ⟨H1.n, 0, none⟩) 1 2) 39 4 48 = some (v', H4) ∧ Ext H0 H4 ∧ OwnToks Try.prog H4 39 v' (T ++ [oneT L (us.drop a) (a : Int)]) ∧ From H0.n v' ∧ AncB H0.n H4 39 v' := by
        intro p cc u hu q1
        have hx3 := Ext.push H1 ⟨tokC p cc u, 39, .tip, 0, []⟩
        have g3 := get_push_self (H := H1) (b := ⟨tokC p cc u, 39, .tip, 0, []⟩)
        obtain ⟨v', H4, m1, m2, m3, m4, m5, m6⟩ := (ho.ext tokQ_mono (x1.trans hx3)).push tokQ_mono (bytes := 48) (c := 2) g3 rfl (tokQ_mono hx3.kp q1) tokC_one (by omega) (by omega)
        rw [hu] at m2
        exact ⟨v', H4, m1, Ext.grow ((hx.trans x1).trans hx3) m5 m6 hf, m2, m3.mono ((hx.trans x1).trans hx3).1, appendA_anc m1 hf ((hA.ext x1).ext hx3)⟩
      by_cases h0 : (lgs L (us.drop a)).1 < 0
      · have eu : oneT L (us.drop a) (a : Int) = ⟨a, 1, [], 3⟩ := by unfold oneT; rw [if_pos h0]
        have en : n = 1 := by rw [eu] at e; simp only at e; omega
        subst en
        obtain ⟨v', H4, m1, m2, m3, m4, m5⟩ := step (p := none) (cc := 0) (u := ⟨a, 1, [], 3⟩) eu.symm ⟨none, 0, rfl, Sl.nil _ 1, (by decide : (0 : Nat) < 4611686018427387904), trivial⟩
        have hw : IntKind.i64.wrap ((a : Int) + 1) = ((a + 1 : Nat) : Int) := by rw [wrap64 (by omega) (by omega)]; omega
        obtain ⟨y, e', H', r1, r2, r3, r4, r5⟩ := ih (a + 1) H4 v' _ (by omega) (by omega) m2 m3 m4 m5 (by rw [List.length_append, List.length_singleton]; omega)
        rw [List.append_assoc] at r4
        rw [w_loop_b b_lontarlaw05_All_0.eq_1]
        simp only [WA, isStore, isCall, isK, freshI, stampO, List.nil_append, Option.map_some, Option.map_none, Option.bind_some, List.map_cons, List.map_nil, if_true, if_false, Nat.reduceEqDiff, Int.reduceEq, Nat.reduceAdd, Nat.reduceMul, reduceCtorEq, eq_self, Int.reduceLT, Int.reduceLE, Int.reduceToNat, List.length_cons, List.length_nil, List.all_cons, List.all_nil, List.take_zero, List.drop_nil, List.append_nil, List.getElem?_cons_zero, List.getElem?_cons_succ, List.drop_succ_cons, List.drop_zero, List.take_succ_cons, List.cons_append, Nat.reduceLeDiff, Int.cast_ofNat_Int, hlen, hlt, s1', cD, h0, v_tokBad, v_tok1, m1, hw]
        rw [w_enter]
        simp only [WA, isStore, isCall, isK, freshI, stampO, List.nil_append, Option.map_some, Option.map_none, Option.bind_some, List.map_cons, List.map_nil, if_true, if_false, Nat.reduceEqDiff, Int.reduceEq, Nat.reduceAdd, Nat.reduceMul, reduceCtorEq, eq_self, Int.reduceLT, Int.reduceLE, Int.reduceToNat, List.length_cons, List.length_nil, List.all_cons, List.all_nil, List.take_zero, List.drop_nil, List.append_nil, List.getElem?_cons_zero, List.getElem?_cons_succ, List.drop_succ_cons, List.drop_zero, List.take_succ_cons, List.cons_append, Nat.reduceLeDiff, Int.cast_ofNat_Int, r1]
        exact ⟨r2, r3, r4, r5⟩
      · obtain ⟨p1, p2, r, p3, p4, p5⟩ := lgs_pos hR h0
        obtain ⟨k, hk⟩ : ∃ k : Nat, (lgs L (us.drop a)).1 = k := ⟨(lgs L (us.drop a)).1.toNat, by omega⟩
        rw [hk] at p3
        have p3' : L[k]? = some r := p3
        have eu : oneT L (us.drop a) (a : Int) = ⟨a, (lgs L (us.drop a)).2.1, r.2, 0⟩ := by unfold oneT; rw [if_neg h0, hk]; simp only [Int.toNat_natCast, p3']
        obtain ⟨i1, o1, vi, vo, h1, h2, h3, h4, h5, h6, h7, h8, h9, h10⟩ := Rules.atC ((hr.ext hx).ext x1) ((hrc.ext hx).ext x1) p3'
        have h6' := h6
        obtain ⟨⟨ao, co, rfl⟩, _⟩ := h6'
        have en : (lgs L (us.drop a)).2.1 = n := by rw [eu] at e; simp only at e; omega
        obtain ⟨v', H4, m1, m2, m3, m4, m5⟩ := step (p := ao) (cc := co) (u := ⟨a, (lgs L (us.drop a)).2.1, r.2, 0⟩) eu.symm ⟨ao, co, rfl, h6, h8, h10⟩
        rw [hk] at cD h0
        rw [en] at cD m1
        have hw : IntKind.i64.wrap ((a : Int) + (n : Int)) = ((a + n : Nat) : Int) := by rw [wrap64 (by omega) (by omega)]; omega
        obtain ⟨y, e', H', r1, r2, r3, r4, r5⟩ := ih (a + n) H4 v' _ (by omega) (by omega) m2 m3 m4 m5 (by rw [List.length_append, List.length_singleton]; omega)
        rw [List.append_assoc] at r4
        rw [w_loop_b b_lontarlaw05_All_0.eq_1]
        simp only [WA, isStore, isCall, isK, freshI, stampO, List.nil_append, Option.map_some, Option.map_none, Option.bind_some, List.map_cons, List.map_nil, if_true, if_false, Nat.reduceEqDiff, Int.reduceEq, Nat.reduceAdd, Nat.reduceMul, reduceCtorEq, eq_self, Int.reduceLT, Int.reduceLE, Int.reduceToNat, List.length_cons, List.length_nil, List.all_cons, List.all_nil, List.take_zero, List.drop_nil, List.append_nil, List.getElem?_cons_zero, List.getElem?_cons_succ, List.drop_succ_cons, List.drop_zero, List.take_succ_cons, List.cons_append, Nat.reduceLeDiff, Int.cast_ofNat_Int, hlen, hlt, s1', cD, h0, h1, h3, v_tok, v_tok1, m1, hw]
        rw [w_enter]
        simp only [WA, isStore, isCall, isK, freshI, stampO, List.nil_append, Option.map_some, Option.map_none, Option.bind_some, List.map_cons, List.map_nil, if_true, if_false, Nat.reduceEqDiff, Int.reduceEq, Nat.reduceAdd, Nat.reduceMul, reduceCtorEq, eq_self, Int.reduceLT, Int.reduceLE, Int.reduceToNat, List.length_cons, List.length_nil, List.all_cons, List.all_nil, List.take_zero, List.drop_nil, List.append_nil, List.getElem?_cons_zero, List.getElem?_cons_succ, List.drop_succ_cons, List.drop_zero, List.take_succ_cons, List.cons_append, Nat.reduceLeDiff, Int.cast_ofNat_Int, r1]
        exact ⟨r2, r3, r4, r5⟩
    · rw [w_loop_b b_lontarlaw05_All_0.eq_1, List.drop_of_length_le (by omega), allU_nil, List.append_nil]
      simp only [WA, isStore, isCall, isK, freshI, stampO, List.nil_append, Option.map_some, Option.map_none, Option.bind_some, List.map_cons, List.map_nil, if_true, if_false, Nat.reduceEqDiff, Int.reduceEq, Nat.reduceAdd, Nat.reduceMul, reduceCtorEq, eq_self, Int.reduceLT, Int.reduceLE, Int.reduceToNat, List.length_cons, List.length_nil, List.all_cons, List.all_nil, List.take_zero, List.drop_nil, List.append_nil, List.getElem?_cons_zero, List.getElem?_cons_succ, List.drop_succ_cons, List.drop_zero, List.take_succ_cons, List.cons_append, Nat.reduceLeDiff, Int.cast_ofNat_Int, hlen, hlt]
      exact ⟨hx, ho, hf, hA⟩
theorem c_AllD {x : Value} {L : List Rl} {b : Value} {us : List Int} {H : AHeap} (hR : Right L) (hL : L.length ≤ 512) (hr : Rules H x L) (hrc : CutR H x) (hb : Ints H b us) (hC : Cut Try.prog H b 1) (hs : us.length < 1000000) :
    Gives (cw Try.prog (tabF tab) om1 20 [x, b] H) fun v H' => Ext H H' ∧ OwnToks Try.prog H' 39 v (allU L us 0) ∧ From H.n v ∧ AncB H.n H' 39 v := by
  rw [cw_run (F := F_lontarlaw05_All) rfl rfl rfl]
  unfold F_lontarlaw05_All k_lontarlaw05_All
  obtain ⟨y, e', H', r1, rfl, r3, r4, r5⟩ := l_AllD hR hL hr hrc hb hC hs us.length 0 H (.slice none 0 0) [] (by omega) (Nat.zero_le _) (Ext.refl H) OwnRws.nil trivial AncB.nil (Nat.le_refl _)
  simp only [Int.cast_ofNat_Int] at r1
  rw [List.drop_zero, List.nil_append] at r4
  simp only [WA, isStore, isCall, isK, freshI, stampO, List.nil_append, Option.map_some, Option.map_none, Option.bind_some, List.map_cons, List.map_nil, if_true, if_false, Nat.reduceEqDiff, Int.reduceEq, Nat.reduceAdd, Nat.reduceMul, reduceCtorEq, eq_self, Int.reduceLT, Int.reduceLE, Int.reduceToNat, List.length_cons, List.length_nil, List.all_cons, List.all_nil, List.take_zero, List.drop_nil, List.append_nil, List.getElem?_cons_zero, List.getElem?_cons_succ, List.drop_succ_cons, List.drop_zero, List.take_succ_cons, List.cons_append, Nat.reduceLeDiff, Int.cast_ofNat_Int]
  rw [w_enter]
  simp only [WA, isStore, isCall, isK, freshI, stampO, List.nil_append, Option.map_some, Option.map_none, Option.bind_some, List.map_cons, List.map_nil, if_true, if_false, Nat.reduceEqDiff, Int.reduceEq, Nat.reduceAdd, Nat.reduceMul, reduceCtorEq, eq_self, Int.reduceLT, Int.reduceLE, Int.reduceToNat, List.length_cons, List.length_nil, List.all_cons, List.all_nil, List.take_zero, List.drop_nil, List.append_nil, List.getElem?_cons_zero, List.getElem?_cons_succ, List.drop_succ_cons, List.drop_zero, List.take_succ_cons, List.cons_append, Nat.reduceLeDiff, Int.cast_ofNat_Int, r1]
  exact ⟨r3, r4, r5⟩
/-- A token's fields, read. -/
theorem Toks.at' {H : AHeap} {v : Value} {A : List Tok} (h : Toks Try.prog H v A) {k : Nat} {x : Tok} (hk : A[k]? = some x) : ∃ i o p c, (∀ (kd : IntKind) (H2 : AHeap), vIaddr v (.int kd k) 4 H2 = some (.pointer (some ⟨i, o, none⟩), H2)) ∧ gotLoad (H.get i) o none H = some (.int .i64 x.at_, H) ∧ gotLoad (H.get i) (o + 1) none H = some (.int .i64 x.len, H) ∧ gotLoad (H.get i) (o + 2) none H = some (.slice p x.out.length c, H) ∧ gotLoad (H.get i) (o + 3) none H = some (.int .i64 x.err, H) ∧ gotLoad (H.get i) o (some 4) H = some (.agg ⟨tokC p c x⟩, H) ∧ Ints H (.slice p x.out.length c) x.out ∧ tiny x.out ∧ Cut Try.prog H (.slice p x.out.length c) 1 := by
  obtain ⟨i, o, row, a1, a2, a3, a4, p, c, rfl, a5, a6, a7⟩ := Rws.at h hk
  exact ⟨i, o, p, c, a1, a2 _ rfl, a3 1 _ rfl, a3 2 _ rfl, a3 3 _ rfl, a4, a5, a6, a7⟩
theorem l_SameT {a b : Value} {A B : List Tok} {H : AHeap} (ha : Toks Try.prog H a A) (hb : Toks Try.prog H b B) (hl : A.length = B.length) : ∀ (k i : Nat), i + k = A.length →
    Out (run Try.prog (tabF tab) om1 (.loop [0, 1, 12, 13] b_lontarlaw01_Same_0) [(0, a), (1, b), (12, .int .i64 A.length), (13, .int .i64 i)] H) fun y e' H' => H' = H ∧ if A.drop i = B.drop i then y = .exit 0 else y = .ret ∧ eget e' 4 = .bool false := by
  have hA := ha.1
  intro k
  induction k with
  | zero =>
    intro i hi
    have hlt : ¬ ((i : Int) < A.length) := by omega
    rw [w_loop_b b_lontarlaw01_Same_0.eq_1, List.drop_of_length_le (by omega), List.drop_of_length_le (by omega)]
    simp only [WA, isStore, isCall, isK, freshI, stampO, List.nil_append, Option.map_some, Option.map_none, Option.bind_some, List.map_cons, List.map_nil, if_true, if_false, Nat.reduceEqDiff, Int.reduceEq, Nat.reduceAdd, Nat.reduceMul, reduceCtorEq, eq_self, Int.reduceLT, Int.reduceLE, Int.reduceToNat, List.length_cons, List.length_nil, List.all_cons, List.all_nil, List.take_zero, List.drop_nil, List.append_nil, List.getElem?_cons_zero, List.getElem?_cons_succ, List.drop_succ_cons, List.drop_zero, List.take_succ_cons, List.cons_append, Nat.reduceLeDiff, Int.cast_ofNat_Int, hlt]
  | succ k ih =>
    intro i hi
    have hlt : (i : Int) < A.length := by omega
    obtain ⟨x, hx, hdx⟩ := drop_at (L := A) (i := i) (by omega)
    obtain ⟨y, hy, hdy⟩ := drop_at (L := B) (i := i) (by omega)
    obtain ⟨i1, o1, p1, c1, a1, a2, a3, a4, a5, a6, a7, a8, _⟩ := Toks.at' ha hx
    obtain ⟨i2, o2, p2, c2, b1, b2, b3, b4, b5, b6, b7, b8, _⟩ := Toks.at' hb hy
    have cU := c_Units a7 b7 a8
    have hw2 : IntKind.i64.wrap ((i : Int) + 1) = ((i + 1 : Nat) : Int) := by rw [wrap64 (by omega) (by omega)]; omega
    have he : (A.drop i = B.drop i) = ((x.at_ = y.at_ ∧ x.len = y.len ∧ x.err = y.err ∧ x.out = y.out) ∧ A.drop (i + 1) = B.drop (i + 1)) := by
      rw [hdx, hdy, List.cons.injEq]
      congr 1
      refine propext ⟨fun h => by subst h; exact ⟨rfl, rfl, rfl, rfl⟩, fun ⟨h1, h2, h3, h4⟩ => ?_⟩
      cases x; cases y; simp only at h1 h2 h3 h4; subst h1 h2 h3 h4; rfl
    rw [w_loop_b b_lontarlaw01_Same_0.eq_1]
    by_cases e1 : x.at_ = y.at_
    · have z1 : (x.at_ ≠ y.at_) = False := by simp [e1]
      by_cases e2 : x.len = y.len
      · have z2 : (x.len ≠ y.len) = False := by simp [e2]
        by_cases e3 : x.err = y.err
        · have z3 : (x.err ≠ y.err) = False := by simp [e3]
          by_cases e4 : x.out = y.out
          · rw [decide_eq_true e4] at cU
            obtain ⟨y', e', H', r1, rfl, r3⟩ := ih (i + 1) (by omega)
            simp only [WA, isStore, isCall, isK, freshI, stampO, List.nil_append, Option.map_some, Option.map_none, Option.bind_some, List.map_cons, List.map_nil, if_true, if_false, Nat.reduceEqDiff, Int.reduceEq, Nat.reduceAdd, Nat.reduceMul, reduceCtorEq, eq_self, Int.reduceLT, Int.reduceLE, Int.reduceToNat, List.length_cons, List.length_nil, List.all_cons, List.all_nil, List.take_zero, List.drop_nil, List.append_nil, List.getElem?_cons_zero, List.getElem?_cons_succ, List.drop_succ_cons, List.drop_zero, List.take_succ_cons, List.cons_append, Nat.reduceLeDiff, Int.cast_ofNat_Int, hlt, a1, a2, a3, a4, a5, b1, b2, b3, b4, b5, z1, z2, z3, cU, hw2]
            rw [w_enter]
            simp only [WA, isStore, isCall, isK, freshI, stampO, List.nil_append, Option.map_some, Option.map_none, Option.bind_some, List.map_cons, List.map_nil, if_true, if_false, Nat.reduceEqDiff, Int.reduceEq, Nat.reduceAdd, Nat.reduceMul, reduceCtorEq, eq_self, Int.reduceLT, Int.reduceLE, Int.reduceToNat, List.length_cons, List.length_nil, List.all_cons, List.all_nil, List.take_zero, List.drop_nil, List.append_nil, List.getElem?_cons_zero, List.getElem?_cons_succ, List.drop_succ_cons, List.drop_zero, List.take_succ_cons, List.cons_append, Nat.reduceLeDiff, Int.cast_ofNat_Int, r1]
            simpa [he, e1, e2, e3, e4] using r3
          · rw [decide_eq_false e4] at cU
            simp only [WA, isStore, isCall, isK, freshI, stampO, List.nil_append, Option.map_some, Option.map_none, Option.bind_some, List.map_cons, List.map_nil, if_true, if_false, Nat.reduceEqDiff, Int.reduceEq, Nat.reduceAdd, Nat.reduceMul, reduceCtorEq, eq_self, Int.reduceLT, Int.reduceLE, Int.reduceToNat, List.length_cons, List.length_nil, List.all_cons, List.all_nil, List.take_zero, List.drop_nil, List.append_nil, List.getElem?_cons_zero, List.getElem?_cons_succ, List.drop_succ_cons, List.drop_zero, List.take_succ_cons, List.cons_append, Nat.reduceLeDiff, Int.cast_ofNat_Int, hlt, a1, a2, a3, a4, a5, b1, b2, b3, b4, b5, z1, z2, z3, cU]
            simp [he, e4]
        · have z3 : (x.err ≠ y.err) = True := by simp [e3]
          simp only [WA, isStore, isCall, isK, freshI, stampO, List.nil_append, Option.map_some, Option.map_none, Option.bind_some, List.map_cons, List.map_nil, if_true, if_false, Nat.reduceEqDiff, Int.reduceEq, Nat.reduceAdd, Nat.reduceMul, reduceCtorEq, eq_self, Int.reduceLT, Int.reduceLE, Int.reduceToNat, List.length_cons, List.length_nil, List.all_cons, List.all_nil, List.take_zero, List.drop_nil, List.append_nil, List.getElem?_cons_zero, List.getElem?_cons_succ, List.drop_succ_cons, List.drop_zero, List.take_succ_cons, List.cons_append, Nat.reduceLeDiff, Int.cast_ofNat_Int, hlt, a1, a2, a3, a4, a5, b1, b2, b3, b4, b5, z1, z2, z3]
          simp [he, e3]
      · have z2 : (x.len ≠ y.len) = True := by simp [e2]
        simp only [WA, isStore, isCall, isK, freshI, stampO, List.nil_append, Option.map_some, Option.map_none, Option.bind_some, List.map_cons, List.map_nil, if_true, if_false, Nat.reduceEqDiff, Int.reduceEq, Nat.reduceAdd, Nat.reduceMul, reduceCtorEq, eq_self, Int.reduceLT, Int.reduceLE, Int.reduceToNat, List.length_cons, List.length_nil, List.all_cons, List.all_nil, List.take_zero, List.drop_nil, List.append_nil, List.getElem?_cons_zero, List.getElem?_cons_succ, List.drop_succ_cons, List.drop_zero, List.take_succ_cons, List.cons_append, Nat.reduceLeDiff, Int.cast_ofNat_Int, hlt, a1, a2, a3, a4, a5, b1, b2, b3, b4, b5, z1, z2]
        simp [he, e2]
    · have z1 : (x.at_ ≠ y.at_) = True := by simp [e1]
      simp only [WA, isStore, isCall, isK, freshI, stampO, List.nil_append, Option.map_some, Option.map_none, Option.bind_some, List.map_cons, List.map_nil, if_true, if_false, Nat.reduceEqDiff, Int.reduceEq, Nat.reduceAdd, Nat.reduceMul, reduceCtorEq, eq_self, Int.reduceLT, Int.reduceLE, Int.reduceToNat, List.length_cons, List.length_nil, List.all_cons, List.all_nil, List.take_zero, List.drop_nil, List.append_nil, List.getElem?_cons_zero, List.getElem?_cons_succ, List.drop_succ_cons, List.drop_zero, List.take_succ_cons, List.cons_append, Nat.reduceLeDiff, Int.cast_ofNat_Int, hlt, a1, a2, a3, a4, a5, b1, b2, b3, b4, b5, z1]
      simp [he, e1]
theorem c_SameT {a b : Value} {A B : List Tok} {H : AHeap} (ha : Toks Try.prog H a A) (hb : Toks Try.prog H b B) : cw Try.prog (tabF tab) om1 17 [a, b] H = some (.bool (decide (A = B)), H) := by
  rw [cw_run (F := F_lontarlaw01_Same) rfl rfl rfl]
  unfold F_lontarlaw01_Same k_lontarlaw01_Same
  have la := fun H2 => ha.len (H2 := H2)
  have lb := fun H2 => hb.len (H2 := H2)
  by_cases hl : A.length = B.length
  · obtain ⟨x, e', H', r1, rfl, r3⟩ := l_SameT ha hb hl A.length 0 (by omega)
    have hne : (((A.length : Nat) : Int) ≠ ((B.length : Nat) : Int)) = False := by simp [hl]
    simp only [Int.cast_ofNat_Int] at r1
    simp only [WA, isStore, isCall, isK, freshI, stampO, List.nil_append, Option.map_some, Option.map_none, Option.bind_some, List.map_cons, List.map_nil, if_true, if_false, Nat.reduceEqDiff, Int.reduceEq, Nat.reduceAdd, Nat.reduceMul, reduceCtorEq, eq_self, Int.reduceLT, Int.reduceLE, Int.reduceToNat, List.length_cons, List.length_nil, List.all_cons, List.all_nil, List.take_zero, List.drop_nil, List.append_nil, List.getElem?_cons_zero, List.getElem?_cons_succ, List.drop_succ_cons, List.drop_zero, List.take_succ_cons, List.cons_append, Nat.reduceLeDiff, Int.cast_ofNat_Int, la, lb, hne]
    rw [w_enter]
    simp only [WA, isStore, isCall, isK, freshI, stampO, List.nil_append, Option.map_some, Option.map_none, Option.bind_some, List.map_cons, List.map_nil, if_true, if_false, Nat.reduceEqDiff, Int.reduceEq, Nat.reduceAdd, Nat.reduceMul, reduceCtorEq, eq_self, Int.reduceLT, Int.reduceLE, Int.reduceToNat, List.length_cons, List.length_nil, List.all_cons, List.all_nil, List.take_zero, List.drop_nil, List.append_nil, List.getElem?_cons_zero, List.getElem?_cons_succ, List.drop_succ_cons, List.drop_zero, List.take_succ_cons, List.cons_append, Nat.reduceLeDiff, Int.cast_ofNat_Int, r1]
    simp only [List.drop_zero] at r3
    split at r3
    · rename_i h
      subst r3
      simp only [WA, isStore, isCall, isK, freshI, stampO, List.nil_append, Option.map_some, Option.map_none, Option.bind_some, List.map_cons, List.map_nil, if_true, if_false, Nat.reduceEqDiff, Int.reduceEq, Nat.reduceAdd, Nat.reduceMul, reduceCtorEq, eq_self, Int.reduceLT, Int.reduceLE, Int.reduceToNat, List.length_cons, List.length_nil, List.all_cons, List.all_nil, List.take_zero, List.drop_nil, List.append_nil, List.getElem?_cons_zero, List.getElem?_cons_succ, List.drop_succ_cons, List.drop_zero, List.take_succ_cons, List.cons_append, Nat.reduceLeDiff, Int.cast_ofNat_Int, h]
    · rename_i h
      obtain ⟨rfl, r4⟩ := r3
      simp only [WA, isStore, isCall, isK, freshI, stampO, List.nil_append, Option.map_some, Option.map_none, Option.bind_some, List.map_cons, List.map_nil, if_true, if_false, Nat.reduceEqDiff, Int.reduceEq, Nat.reduceAdd, Nat.reduceMul, reduceCtorEq, eq_self, Int.reduceLT, Int.reduceLE, Int.reduceToNat, List.length_cons, List.length_nil, List.all_cons, List.all_nil, List.take_zero, List.drop_nil, List.append_nil, List.getElem?_cons_zero, List.getElem?_cons_succ, List.drop_succ_cons, List.drop_zero, List.take_succ_cons, List.cons_append, Nat.reduceLeDiff, Int.cast_ofNat_Int, r4, h]
  · have hne : (((A.length : Nat) : Int) ≠ ((B.length : Nat) : Int)) = True := by simp; omega
    have hab : ¬ A = B := fun h => hl (by rw [h])
    simp only [WA, isStore, isCall, isK, freshI, stampO, List.nil_append, Option.map_some, Option.map_none, Option.bind_some, List.map_cons, List.map_nil, if_true, if_false, Nat.reduceEqDiff, Int.reduceEq, Nat.reduceAdd, Nat.reduceMul, reduceCtorEq, eq_self, Int.reduceLT, Int.reduceLE, Int.reduceToNat, List.length_cons, List.length_nil, List.all_cons, List.all_nil, List.take_zero, List.drop_nil, List.append_nil, List.getElem?_cons_zero, List.getElem?_cons_succ, List.drop_succ_cons, List.drop_zero, List.take_succ_cons, List.cons_append, Nat.reduceLeDiff, Int.cast_ofNat_Int, la, lb, hne, hab]
theorem tk0 {c : Nat} {p : Option Addr} {t : Tok} : (tokC p c t)[0]? = some (.int .i64 t.at_) := rfl
theorem tk1 {c : Nat} {p : Option Addr} {t : Tok} : (tokC p c t)[1]? = some (.int .i64 t.len) := rfl
theorem tk2 {c : Nat} {p : Option Addr} {t : Tok} : (tokC p c t)[2]? = some (.slice p t.out.length c) := rfl
theorem tk3 {c : Nat} {p : Option Addr} {t : Tok} : (tokC p c t)[3]? = some (.int .i64 t.err) := rfl
/-- A token is right or wrong. -/
theorem oneT_is {L : List Rl} (hR : Right L) {us : List Int} (hn : us ≠ []) (a : Int) : (oneT L us a = ⟨a, 1, [], 3⟩ ∧ (lgs L us).1 < 0) ∨ ∃ (k n : Nat) (r : Rl), (lgs L us).1 = k ∧ (lgs L us).2.1 = n ∧ 0 < n ∧ n ≤ us.length ∧ L[k]? = some r ∧ r.1 = us.take n ∧ 0 < r.2.length ∧ r.2.length ≤ 8 ∧ oneT L us a = ⟨a, n, r.2, 0⟩ := by
  by_cases h0 : (lgs L us).1 < 0
  · left
    exact ⟨by unfold oneT; rw [if_pos h0], h0⟩
  · right
    obtain ⟨p1, p2, r, p3, p4, p5⟩ := lgs_pos hR h0
    obtain ⟨k, hk⟩ : ∃ k : Nat, (lgs L us).1 = k := ⟨(lgs L us).1.toNat, by omega⟩
    rw [hk] at p3
    have p3' : L[k]? = some r := p3
    obtain ⟨q1, q2⟩ := side_len ((hR.1 r (List.mem_of_getElem? p3')).2)
    refine ⟨k, _, r, hk, rfl, p1, p2, p3', p4, q1, q2, ?_⟩
    unfold oneT
    rw [if_neg h0, hk]
    simp only [Int.toNat_natCast, p3']
end Go.Proofs.Ythnccfmmeaeibaa

/-! What all laws begin with: rules that are right, and their trie. -/
set_option linter.unusedSimpArgs false
set_option linter.unusedVariables false
namespace Go.Proofs.Ythnccfmmeaeibaa
open Go Lon
set_option maxRecDepth 100000
theorem v_nilp {H : AHeap} {t : Nat} : vIsNil 0 false (.pointer (some ⟨t, 0, none⟩)) H = some (.bool false, H) := rfl
theorem start {a : Value} {R : List RowD} {H : AHeap} (ha : RowsAt H a R) : ∃ (v : Value) (H1 : AHeap) (t : Nat) (H2 : AHeap) (L : List Rl), cw Try.prog (tabF tab) om1 15 [a] H = some (v, H1) ∧ cw Try.prog (tabF tab) om1 16 [v] H1 = some (.tuple ⟨[.pointer (some ⟨t, 0, none⟩), .int .i64 0]⟩, H2) ∧ Ext H H2 ∧ TrieOk H2 t L ∧ Rules H2 v L ∧ CutR H2 v ∧ L.length ≤ 40 ∧ Right L := by
  obtain ⟨v1, H1, c1, x1, o1, k1⟩ := c_Right ha
  have h40 := RL_len R
  have hlen := rgt_len (L := RL R) (T := [])
  simp only [List.length_nil, Nat.zero_add] at hlen
  have hR := o1.rules (by omega)
  have hC : Cut Try.prog H1 v1 2 := o1.cut (by kernel_rfl)
  have hgood := rgt_good (L := RL R) Good.nil
  obtain ⟨v2, H2, c2, x2, t, rfl, hT⟩ := c_OfT hR hC hgood (by omega)
  exact ⟨v1, H1, t, H2, _, c1, c2, x1.trans x2, hT, hR.ext x2, k1.ext x2, by omega, hgood⟩
theorem min60 {n : Nat} : ∃ k : Nat, k ≤ n ∧ k ≤ 60 ∧ (if (60 : Int) < (n : Int) then (60 : Int) else (n : Int)) = (k : Int) := by
  refine ⟨min n 60, Nat.min_le_left _ _, Nat.min_le_right _ _, ?_⟩
  split <;> omega
end Go.Proofs.Ythnccfmmeaeibaa

/-! Units gathered from tokens. -/
set_option linter.unusedSimpArgs false
set_option linter.unusedVariables false
namespace Go.Proofs.Ythnccfmmeaeibaa
open Go Lon
set_option maxRecDepth 100000
abbrev OwnI (H : AHeap) (v : Value) (l : List Int) : Prop := Own H 3 1 v l.length (ints l)
theorem OwnI.nil {H : AHeap} : OwnI H (.slice none 0 0) [] := ⟨rfl, .inl ⟨rfl, rfl⟩⟩
theorem OwnI.asI {H : AHeap} {v : Value} {l : List Int} (h : OwnI H v l) : Ints H v l := h.sl
theorem OwnI.cutI {H : AHeap} {v : Value} {l : List Int} (h : OwnI H v l) : Cut Try.prog H v 1 := Own.cut h (by kernel_rfl)
theorem OwnI.add {H0 H : AHeap} {v x : Value} {l m : List Int} (ho : OwnI H v l) (hf : From H0.n v) (hx : Ext H0 H) (hi : Ints H x m) (hs : l.length + m.length < 100000000) :
    ∃ v' H', appendA H v x 3 1 8 = some (v', H') ∧ OwnI H' v' (l ++ m) ∧ From H0.n v' ∧ Ext H0 H' := by
  by_cases hm : m = []
  · subst hm
    refine ⟨v, H, ?_, by rw [List.append_nil]; exact ho, hf, hx⟩
    obtain ⟨⟨b1, b2, rfl⟩, hbc⟩ := hi
    obtain ⟨⟨d1, d2, rfl⟩, hdc⟩ := ho.sl
    unfold appendA
    simp only [hbc, hdc]
    exact if_pos List.length_nil
  · obtain ⟨v2, H2, q1, q2, q3, q4, q5, q6⟩ := Own.append2 (bytes := 8) ho hi (List.length_pos_iff.2 hm) (ones_ints m) (by omega)
    refine ⟨v2, H2, q1, ?_, q3.mono hx.1, Ext.grow hx q5 q6 hf⟩
    unfold OwnI
    rw [List.length_append]
    have : ints l ++ ints m = ints (l ++ m) := by simp [Lon.ints]
    rw [← this]
    exact q2
/-- A token's Out laid behind units. -/
theorem addTok {H0 H : AHeap} {w v : Value} {T : List Tok} {k : Nat} {x : Tok} {l : List Int} (hT : Toks Try.prog H0 w T) (hk : T[k]? = some x) (ho : OwnI H v l) (hf : From H0.n v) (hx : Ext H0 H) (hs : l.length + x.out.length < 100000000) :
    ∃ i o p c H1 v' H2, (∀ (kd : IntKind) (H2 : AHeap), vIaddr w (.int kd k) 4 H2 = some (.pointer (some ⟨i, o, none⟩), H2)) ∧ gotLoad (H.get i) o (some 4) H = some (.agg ⟨tokC p c x⟩, H) ∧ H1 = H.push ⟨tokC p c x, 39, .tip, 1, []⟩ ∧ H1.get H.n = some ⟨tokC p c x, 39, .tip, 1, []⟩ ∧
      appendA H1 v (.slice p x.out.length c) 3 1 8 = some (v', H2) ∧ OwnI H2 v' (l ++ x.out) ∧ From H0.n v' ∧ Ext H0 H2 ∧ Ext H0 H1 ∧ OwnI H1 v l := by
  obtain ⟨i, o, p, c, a1, a2, a3, a4, a5, a6, a7, a8, a9⟩ := Toks.at' (hT.ext tokQ_mono hx) hk
  have x1 := Ext.push H ⟨tokC p c x, 39, .tip, 1, []⟩
  obtain ⟨v', H2, m1, m2, m3, m4⟩ := OwnI.add (ho.ext x1) hf (hx.trans x1) (a7.ext x1) hs
  exact ⟨i, o, p, c, _, v', H2, a1, a6, rfl, get_push_self, m1, m2, m3, m4, hx.trans x1, ho.ext x1⟩
theorem outs_cons {x : Tok} {T : List Tok} : T.flatMap (·.out) = T.flatMap (·.out) := rfl
end Go.Proofs.Ythnccfmmeaeibaa

/-! What tokens mean, and which is wrong first. -/
set_option linter.unusedSimpArgs false
set_option linter.unusedVariables false
namespace Go.Proofs.Ythnccfmmeaeibaa
open Go Lon
set_option maxRecDepth 100000
def outs (T : List Tok) : List Int := T.flatMap (·.out)
def whole (T : List Tok) : Prop := ∀ t ∈ T, t.err = 0
/-- The first token that is wrong, behind one that may be. -/
def fstB : Tok → List Tok → Tok
  | u, [] => u
  | u, t :: T => fstB (if t.err ≠ 0 ∧ u.err = 0 then t else u) T
def tok0 : Tok := ⟨0, 0, [], 0⟩
theorem fstB_whole : ∀ {T : List Tok} {u : Tok}, whole T → fstB u T = u
  | [], u, h => rfl
  | t :: T, u, h => by
    unfold fstB
    rw [if_neg (fun hh => hh.1 (h t (List.mem_cons_self ..))), fstB_whole fun x hx => h x (List.mem_cons_of_mem _ hx)]
theorem fstB_bad : ∀ {T : List Tok} {u : Tok}, u.err ≠ 0 → (fstB u T).err ≠ 0
  | [], u, h => h
  | t :: T, u, h => by
    unfold fstB
    rw [if_neg (fun hh => h hh.2)]
    exact fstB_bad h
theorem fstB_zero : ∀ {T : List Tok} {u : Tok}, (fstB u T).err = 0 → whole T
  | [], u, h => fun t ht => by cases ht
  | t :: T, u, h => by
    unfold fstB at h
    intro x hx
    rcases List.mem_cons.1 hx with rfl | hx
    · by_cases he : x.err = 0
      · exact he
      · exfalso
        by_cases hu : u.err = 0
        · rw [if_pos ⟨he, hu⟩] at h; exact fstB_bad he h
        · rw [if_neg (fun hh => hu hh.2)] at h; exact fstB_bad hu h
    · exact fstB_zero h x hx
theorem OwnI.add2 {H0 H : AHeap} {v x : Value} {l m : List Int} (ho : OwnI H v l) (hf : From H0.n v) (hx : Ext H0 H) (hi : Ints H x m) (hs : l.length + m.length < 10000000000) :
    ∃ v' H', appendA H v x 3 1 8 = some (v', H') ∧ OwnI H' v' (l ++ m) ∧ From H0.n v' ∧ Ext H0 H' ∧ ∀ j b, H.get j = some b → b.elem ≠ 3 → H'.get j = some b := by
  by_cases hm : m = []
  · subst hm
    refine ⟨v, H, ?_, by rw [List.append_nil]; exact ho, hf, hx, fun j b h _ => h⟩
    obtain ⟨⟨b1, b2, rfl⟩, hbc⟩ := hi
    obtain ⟨⟨d1, d2, rfl⟩, hdc⟩ := ho.sl
    unfold appendA
    simp only [hbc, hdc]
    exact if_pos List.length_nil
  · obtain ⟨v2, H2, q1, q2, q3, q4, q5, q6⟩ := Own.append2 (bytes := 8) ho hi (List.length_pos_iff.2 hm) (ones_ints m) (by omega)
    refine ⟨v2, H2, q1, ?_, q3.mono hx.1, Ext.grow hx q5 q6 hf, fun j b hj he => by rw [q6 j (AHeap.lt_of_get hj) (Own.notAt_elem ho hj he)]; exact hj⟩
    unfold OwnI
    rw [List.length_append]
    have : ints l ++ ints m = ints (l ++ m) := by simp [Lon.ints]
    rw [← this]
    exact q2
theorem got_ext' {H H' : AHeap} (hx : Ext H H') {i o : Nat} {k : Option Nat} {v : Value} (h : gotLoad (H.get i) o k H = some (v, H)) : gotLoad (H'.get i) o k H' = some (v, H') := got_ext hx h
theorem got_tokT {H : AHeap} {i ver c c2 : Nat} {el : TypeId} {p p2 : Option Addr} {t u : Tok} : gotStore (some ⟨tokC p2 c2 u, el, .tip, ver, []⟩) i 0 (.agg ⟨tokC p c t⟩) 4 H = some (.tuple ⟨[]⟩, H.upd i ⟨tokC p c t, el, .tip, ver + 1, []⟩) := got_tok
theorem l_UT {H0 : AHeap} {w : Value} {T : List Tok} {q3 q5 B : Nat} (hT : Toks Try.prog H0 w T) (hB : H0.n ≤ B) (h3 : H0.n ≤ q3) (h5 : H0.n ≤ q5) (h35 : q3 ≠ q5) (hT8 : (outs T).length < 1000000000) : ∀ (c k : Nat) (H : AHeap) (v : Value) (l : List Int) (p : Option Addr) (cc ver : Nat) (u : Tok), k + c = T.length → OwnI H v l → From H0.n v → Ext H0 H → l ++ outs (T.drop k) = outs T → H.get q3 = some ⟨tokC none 0 tok0, 39, .tip, 0, []⟩ → H.get q5 = some ⟨tokC p cc u, 39, .tip, ver, []⟩ → tokQ Try.prog H0 (tokC p cc u) u →
    Out (run Try.prog (tabF tab) om1 (.loop [3, 4, 5, 8, 9, 10] b_rewrite_Units_0) [(3, .pointer (some ⟨q3, 0, none⟩)), (4, v), (5, .pointer (some ⟨q5, 0, none⟩)), (8, w), (9, .int .i64 T.length), (10, .int .i64 k)] H) fun y e' H' => y = .exit 0 ∧ eget e' 3 = .pointer (some ⟨q3, 0, none⟩) ∧ eget e' 5 = .pointer (some ⟨q5, 0, none⟩) ∧ OwnI H' (eget e' 4) (outs T) ∧ From H0.n (eget e' 4) ∧ Ext H0 H' ∧ H'.get q3 = some ⟨tokC none 0 tok0, 39, .tip, 0, []⟩ ∧ ∃ p' c' ver', H'.get q5 = some ⟨tokC p' c' (fstB u (T.drop k)), 39, .tip, ver', []⟩ ∧ tokQ Try.prog H0 (tokC p' c' (fstB u (T.drop k))) (fstB u (T.drop k)) := by
  intro c
  induction c with
  | zero =>
    intro k H v l p cc ver u hk ho hf hx hl hg3 hg5 hu
    have hlt : ¬ ((k : Int) < T.length) := by omega
    rw [w_loop_b b_rewrite_Units_0.eq_1]
    rw [List.drop_of_length_le (by omega)] at hl ⊢
    simp only [WA, isStore, isCall, isK, freshI, stampO, List.nil_append, Option.map_some, Option.map_none, Option.bind_some, List.map_cons, List.map_nil, if_true, if_false, Nat.reduceEqDiff, Int.reduceEq, Nat.reduceAdd, Nat.reduceMul, reduceCtorEq, eq_self, Int.reduceLT, Int.reduceLE, Int.reduceToNat, List.length_cons, List.length_nil, List.all_cons, List.all_nil, List.take_zero, List.drop_nil, List.append_nil, List.getElem?_cons_zero, List.getElem?_cons_succ, List.drop_succ_cons, List.drop_zero, List.take_succ_cons, List.cons_append, Nat.reduceLeDiff, Int.cast_ofNat_Int, hlt, fstB]
    rw [show outs [] = [] from rfl, List.append_nil] at hl
    subst hl
    exact ⟨ho, hf, hx, hg3, p, cc, ver, hg5, hu⟩
  | succ c ih =>
    intro k H v l p cc ver u hk ho hf hx hl hg3 hg5 hu
    have hTl := hT.1
    have hlt : (k : Int) < T.length := by omega
    obtain ⟨x, hxk, hdx⟩ := drop_at (L := T) (i := k) (by omega)
    have hsz : l.length + x.out.length < 10000000000 := by
      have := congrArg List.length hl
      rw [hdx] at this
      simp only [outs, List.flatMap_cons, List.length_append] at this
      unfold outs at hT8
      omega
    obtain ⟨i, o, px, cx, a1, _, _, _, _, a6, a7, a8, a9⟩ := Toks.at' hT hxk
    have a6' := got_ext hx a6
    obtain ⟨H1, hH1⟩ : ∃ H1, H1 = H.push ⟨tokC px cx x, 39, .tip, 1, []⟩ := ⟨_, rfl⟩
    have x1 : Ext H H1 := by rw [hH1]; exact Ext.push H _
    have g1 : H1.get H.n = some ⟨tokC px cx x, 39, .tip, 1, []⟩ := by rw [hH1]; exact get_push_self
    have hne : (39 : TypeId) ≠ 3 := by decide
    obtain ⟨v', H2, m1, m2, m3, m4, m5⟩ := OwnI.add2 (ho.ext x1) hf (hx.trans x1) ((a7.ext hx).ext x1) hsz
    have g2 := m5 _ _ g1 hne
    have g3 := m5 _ _ (x1.get hg3) hne
    have g5 := m5 _ _ (x1.get hg5) hne
    have hw2 : IntKind.i64.wrap ((k : Int) + 1) = ((k + 1 : Nat) : Int) := by rw [wrap64 (by omega) (by omega)]; omega
    have hl2 : (l ++ x.out) ++ outs (T.drop (k + 1)) = outs T := by rw [← hl, hdx]; simp [outs]
    rw [w_loop_b b_rewrite_Units_0.eq_1, hdx]
    unfold fstB
    by_cases he : x.err = 0
    · have he' : (x.err ≠ 0) = False := by simp [he]
      rw [if_neg (fun hh => hh.1 he)]
      obtain ⟨y, e', H', r1, r2⟩ := ih (k + 1) H2 v' (l ++ x.out) p cc ver u (by omega) m2 m3 m4 hl2 g3 g5 hu
      simp only [WA, isStore, isCall, isK, freshI, stampO, List.nil_append, Option.map_some, Option.map_none, Option.bind_some, List.map_cons, List.map_nil, if_true, if_false, Nat.reduceEqDiff, Int.reduceEq, Nat.reduceAdd, Nat.reduceMul, reduceCtorEq, eq_self, Int.reduceLT, Int.reduceLE, Int.reduceToNat, List.length_cons, List.length_nil, List.all_cons, List.all_nil, List.take_zero, List.drop_nil, List.append_nil, List.getElem?_cons_zero, List.getElem?_cons_succ, List.drop_succ_cons, List.drop_zero, List.take_succ_cons, List.cons_append, Nat.reduceLeDiff, Int.cast_ofNat_Int, hlt, a1, a6', got_tok, ← hH1, g1, tk2, tk3, m1, g2, he', hw2]
      rw [w_enter]
      simp only [WA, isStore, isCall, isK, freshI, stampO, List.nil_append, Option.map_some, Option.map_none, Option.bind_some, List.map_cons, List.map_nil, if_true, if_false, Nat.reduceEqDiff, Int.reduceEq, Nat.reduceAdd, Nat.reduceMul, reduceCtorEq, eq_self, Int.reduceLT, Int.reduceLE, Int.reduceToNat, List.length_cons, List.length_nil, List.all_cons, List.all_nil, List.take_zero, List.drop_nil, List.append_nil, List.getElem?_cons_zero, List.getElem?_cons_succ, List.drop_succ_cons, List.drop_zero, List.take_succ_cons, List.cons_append, Nat.reduceLeDiff, Int.cast_ofNat_Int, r1]
      exact r2
    · have he' : (x.err ≠ 0) = True := by simp [he]
      by_cases hue : u.err = 0
      · have hue' : (u.err = 0) = True := eq_true hue
        rw [if_pos ⟨he, hue⟩]
        have g5' := upd_self (c := ⟨tokC px cx x, 39, .tip, ver + 1, []⟩) g5
        have g3' : (H2.upd q5 ⟨tokC px cx x, 39, .tip, ver + 1, []⟩).get q3 = some ⟨tokC none 0 tok0, 39, .tip, 0, []⟩ := by rw [upd_other g5 h35]; exact g3
        have ho2 : OwnI (H2.upd q5 ⟨tokC px cx x, 39, .tip, ver + 1, []⟩) v' (l ++ x.out) := Own.move m2 fun j b hj hb => by
          rw [upd_other g5 (fun e => by subst e; rw [g5] at hj; injection hj with hj; subst hj; exact hne hb)]
          exact hj
        obtain ⟨y, e', H', r1, r2⟩ := ih (k + 1) (H2.upd q5 ⟨tokC px cx x, 39, .tip, ver + 1, []⟩) v' (l ++ x.out) px cx (ver + 1) x (by omega) ho2 m3 (Ext.upd m4 g5 h5) hl2 g3' g5' ⟨px, cx, rfl, a7, a8, a9⟩
        simp only [WA, isStore, isCall, isK, freshI, stampO, List.nil_append, Option.map_some, Option.map_none, Option.bind_some, List.map_cons, List.map_nil, if_true, if_false, Nat.reduceEqDiff, Int.reduceEq, Nat.reduceAdd, Nat.reduceMul, reduceCtorEq, eq_self, Int.reduceLT, Int.reduceLE, Int.reduceToNat, List.length_cons, List.length_nil, List.all_cons, List.all_nil, List.take_zero, List.drop_nil, List.append_nil, List.getElem?_cons_zero, List.getElem?_cons_succ, List.drop_succ_cons, List.drop_zero, List.take_succ_cons, List.cons_append, Nat.reduceLeDiff, Int.cast_ofNat_Int, hlt, a1, a6', got_tok, ← hH1, g1, tk2, tk3, m1, g2, he', g5, hue', ld_tok]
        rw [got_tokT]
        simp only [WA, isStore, isCall, isK, freshI, stampO, List.nil_append, Option.map_some, Option.map_none, Option.bind_some, List.map_cons, List.map_nil, if_true, if_false, Nat.reduceEqDiff, Int.reduceEq, Nat.reduceAdd, Nat.reduceMul, reduceCtorEq, eq_self, Int.reduceLT, Int.reduceLE, Int.reduceToNat, List.length_cons, List.length_nil, List.all_cons, List.all_nil, List.take_zero, List.drop_nil, List.append_nil, List.getElem?_cons_zero, List.getElem?_cons_succ, List.drop_succ_cons, List.drop_zero, List.take_succ_cons, List.cons_append, Nat.reduceLeDiff, Int.cast_ofNat_Int, hw2]
        rw [w_enter]
        simp only [WA, isStore, isCall, isK, freshI, stampO, List.nil_append, Option.map_some, Option.map_none, Option.bind_some, List.map_cons, List.map_nil, if_true, if_false, Nat.reduceEqDiff, Int.reduceEq, Nat.reduceAdd, Nat.reduceMul, reduceCtorEq, eq_self, Int.reduceLT, Int.reduceLE, Int.reduceToNat, List.length_cons, List.length_nil, List.all_cons, List.all_nil, List.take_zero, List.drop_nil, List.append_nil, List.getElem?_cons_zero, List.getElem?_cons_succ, List.drop_succ_cons, List.drop_zero, List.take_succ_cons, List.cons_append, Nat.reduceLeDiff, Int.cast_ofNat_Int, r1]
        exact r2
      · have hue' : (u.err = 0) = False := eq_false hue
        rw [if_neg (fun hh => hue hh.2)]
        obtain ⟨y, e', H', r1, r2⟩ := ih (k + 1) H2 v' (l ++ x.out) p cc ver u (by omega) m2 m3 m4 hl2 g3 g5 hu
        simp only [WA, isStore, isCall, isK, freshI, stampO, List.nil_append, Option.map_some, Option.map_none, Option.bind_some, List.map_cons, List.map_nil, if_true, if_false, Nat.reduceEqDiff, Int.reduceEq, Nat.reduceAdd, Nat.reduceMul, reduceCtorEq, eq_self, Int.reduceLT, Int.reduceLE, Int.reduceToNat, List.length_cons, List.length_nil, List.all_cons, List.all_nil, List.take_zero, List.drop_nil, List.append_nil, List.getElem?_cons_zero, List.getElem?_cons_succ, List.drop_succ_cons, List.drop_zero, List.take_succ_cons, List.cons_append, Nat.reduceLeDiff, Int.cast_ofNat_Int, hlt, a1, a6', got_tok, ← hH1, g1, tk2, tk3, m1, g2, he', g5, hue', hw2]
        rw [w_enter]
        simp only [WA, isStore, isCall, isK, freshI, stampO, List.nil_append, Option.map_some, Option.map_none, Option.bind_some, List.map_cons, List.map_nil, if_true, if_false, Nat.reduceEqDiff, Int.reduceEq, Nat.reduceAdd, Nat.reduceMul, reduceCtorEq, eq_self, Int.reduceLT, Int.reduceLE, Int.reduceToNat, List.length_cons, List.length_nil, List.all_cons, List.all_nil, List.take_zero, List.drop_nil, List.append_nil, List.getElem?_cons_zero, List.getElem?_cons_succ, List.drop_succ_cons, List.drop_zero, List.take_succ_cons, List.cons_append, Nat.reduceLeDiff, Int.cast_ofNat_Int, r1]
        exact r2
theorem c_UT {w : Value} {T : List Tok} {H : AHeap} (hT : Toks Try.prog H w T) (hT8 : (outs T).length < 1000000000) : Gives (cw Try.prog (tabF tab) om1 21 [w] H) fun v H' => Ext H H' ∧ ∃ vo p c, v = .tuple ⟨[vo, .agg ⟨tokC p c (fstB tok0 T)⟩]⟩ ∧ OwnI H' vo (outs T) ∧ From H.n vo ∧ tokQ Try.prog H (tokC p c (fstB tok0 T)) (fstB tok0 T) := by
  rw [cw_run (F := F_rewrite_Units) rfl rfl rfl]
  unfold F_rewrite_Units k_rewrite_Units
  obtain ⟨A, hA⟩ : ∃ A, A = H.push ⟨tokC none 0 tok0, 39, .tip, 0, []⟩ := ⟨_, rfl⟩
  obtain ⟨B, hB⟩ : ∃ B, B = A.push ⟨tokC none 0 tok0, 39, .tip, 0, []⟩ := ⟨_, rfl⟩
  have xa : Ext H A := by rw [hA]; exact Ext.push H _
  have xb : Ext A B := by rw [hB]; exact Ext.push A _
  have ga : A.get H.n = some ⟨tokC none 0 tok0, 39, .tip, 0, []⟩ := by rw [hA]; exact get_push_self
  have gb : B.get A.n = some ⟨tokC none 0 tok0, 39, .tip, 0, []⟩ := by rw [hB]; exact get_push_self
  have hAn : A.n = H.n + 1 := by rw [hA, AHeap.n_push]
  have hz : ([.int .i64 0, .int .i64 0, .slice none 0 0, .int .i64 0] : List Value) = tokC none 0 tok0 := rfl
  obtain ⟨y, e', H', r1, rfl, s3, s5, r4, r5, r6, r7, p', c', ver', r8, r9⟩ := l_UT (w := w) (q3 := H.n) (q5 := A.n) hT (Nat.le_refl _) (Nat.le_refl _) (by omega) (by omega) hT8 T.length 0 B (.slice none 0 0) [] none 0 0 tok0 (by omega) OwnI.nil trivial (xa.trans xb) rfl (xb.get ga) gb ⟨none, 0, rfl, Sl.nil H 1, by unfold Lon.tiny tok0; simp, Cut.nil⟩
  obtain ⟨u1, u2, hw⟩ : ∃ u1 u2, w = .slice u1 T.length u2 := by
    obtain ⟨_, cs, h1, _⟩ := hT
    obtain ⟨u1, u2, e⟩ := h1.1
    exact ⟨u1, u2, e⟩
  rw [List.drop_zero] at r8 r9
  rw [show ((0 : Nat) : Int) = 0 from rfl] at r1
  simp only [WA, isStore, isCall, isK, freshI, stampO, List.nil_append, Option.map_some, Option.map_none, Option.bind_some, List.map_cons, List.map_nil, if_true, if_false, Nat.reduceEqDiff, Int.reduceEq, Nat.reduceAdd, Nat.reduceMul, reduceCtorEq, eq_self, Int.reduceLT, Int.reduceLE, Int.reduceToNat, List.length_cons, List.length_nil, List.all_cons, List.all_nil, List.take_zero, List.drop_nil, List.append_nil, List.getElem?_cons_zero, List.getElem?_cons_succ, List.drop_succ_cons, List.drop_zero, List.take_succ_cons, List.cons_append, Nat.reduceLeDiff, Int.cast_ofNat_Int, hz, ← hA, ← hB]
  rw [hw] at r1 ⊢
  simp only [WA, isStore, isCall, isK, freshI, stampO, List.nil_append, Option.map_some, Option.map_none, Option.bind_some, List.map_cons, List.map_nil, if_true, if_false, Nat.reduceEqDiff, Int.reduceEq, Nat.reduceAdd, Nat.reduceMul, reduceCtorEq, eq_self, Int.reduceLT, Int.reduceLE, Int.reduceToNat, List.length_cons, List.length_nil, List.all_cons, List.all_nil, List.take_zero, List.drop_nil, List.append_nil, List.getElem?_cons_zero, List.getElem?_cons_succ, List.drop_succ_cons, List.drop_zero, List.take_succ_cons, List.cons_append, Nat.reduceLeDiff, Int.cast_ofNat_Int]
  rw [w_enter]
  simp only [WA, isStore, isCall, isK, freshI, stampO, List.nil_append, Option.map_some, Option.map_none, Option.bind_some, List.map_cons, List.map_nil, if_true, if_false, Nat.reduceEqDiff, Int.reduceEq, Nat.reduceAdd, Nat.reduceMul, reduceCtorEq, eq_self, Int.reduceLT, Int.reduceLE, Int.reduceToNat, List.length_cons, List.length_nil, List.all_cons, List.all_nil, List.take_zero, List.drop_nil, List.append_nil, List.getElem?_cons_zero, List.getElem?_cons_succ, List.drop_succ_cons, List.drop_zero, List.take_succ_cons, List.cons_append, Nat.reduceLeDiff, Int.cast_ofNat_Int, r1, s3, s5, r8, ld_tok, r7]
  have r7' := upd_self (c := ⟨tokC p' c' (fstB tok0 T), 39, .tip, 1, []⟩) r7
  have hne : (39 : TypeId) ≠ 3 := by decide
  rw [got_tokT]
  simp only [WA, isStore, isCall, isK, freshI, stampO, List.nil_append, Option.map_some, Option.map_none, Option.bind_some, List.map_cons, List.map_nil, if_true, if_false, Nat.reduceEqDiff, Int.reduceEq, Nat.reduceAdd, Nat.reduceMul, reduceCtorEq, eq_self, Int.reduceLT, Int.reduceLE, Int.reduceToNat, List.length_cons, List.length_nil, List.all_cons, List.all_nil, List.take_zero, List.drop_nil, List.append_nil, List.getElem?_cons_zero, List.getElem?_cons_succ, List.drop_succ_cons, List.drop_zero, List.take_succ_cons, List.cons_append, Nat.reduceLeDiff, Int.cast_ofNat_Int, ress_cell, rd_load, s3, r7', ld_tok, Option.map_some]
  have x2 : Ext H (H'.upd H.n ⟨tokC p' c' (fstB tok0 T), 39, .tip, 1, []⟩) := Ext.upd r6 r7 (Nat.le_refl _)
  exact ⟨x2, _, p', c', rfl, Own.move r4 fun j b hj hb => by
    rw [upd_other r7 (fun e => by subst e; rw [r7] at hj; injection hj with hj; subst hj; exact hne hb)]
    exact hj, r5, r9⟩
end Go.Proofs.Ythnccfmmeaeibaa

/-! Layer 5: what tokens mean; in two parts. -/
set_option linter.unusedSimpArgs false
set_option linter.unusedVariables false
namespace Go.Proofs.Ythnccfmmeaeibaa
open Go Lon
set_option maxRecDepth 100000
/-- The first token that is wrong. -/
def frr : List Tok → Tok
  | [] => tok0
  | t :: T => if t.err ≠ 0 then t else frr T
theorem fstB_stay : ∀ {T : List Tok} {u : Tok}, u.err ≠ 0 → fstB u T = u
  | [], u, h => rfl
  | t :: T, u, h => by
    unfold fstB
    rw [if_neg (fun hh => h hh.2), fstB_stay h]
theorem fstB_frr : ∀ {T : List Tok}, fstB tok0 T = frr T
  | [] => rfl
  | t :: T => by
    unfold fstB frr
    by_cases h : t.err ≠ 0
    · rw [if_pos ⟨h, rfl⟩, if_pos h, fstB_stay h]
    · rw [if_neg (fun hh => h hh.1), if_neg h, fstB_frr]
theorem frr_app : ∀ {A B : List Tok}, frr (A ++ B) = if (frr A).err ≠ 0 then frr A else frr B
  | [], B => by rw [List.nil_append, if_neg (by simp [frr, tok0])]
  | t :: A, B => by
    rw [List.cons_append]
    show (if t.err ≠ 0 then t else frr (A ++ B)) = if (if t.err ≠ 0 then t else frr A).err ≠ 0 then (if t.err ≠ 0 then t else frr A) else frr B
    by_cases h : t.err ≠ 0
    · rw [if_pos h, if_pos h, if_pos h]
    · rw [if_neg h, if_neg h, frr_app]
theorem outs_app {A B : List Tok} : outs (A ++ B) = outs A ++ outs B := by unfold outs; rw [List.flatMap_append]
theorem outs_le {n : Nat} : ∀ {T : List Tok}, (∀ x ∈ T, x.out.length ≤ n) → (outs T).length ≤ n * T.length
  | [], _ => by simp [outs]
  | t :: T, h => by
    have h1 := h t (List.mem_cons_self ..)
    have h2 := outs_le fun x hx => h x (List.mem_cons_of_mem _ hx)
    unfold outs at h2 ⊢
    rw [List.flatMap_cons, List.length_append, List.length_cons, Nat.mul_succ]
    omega
/-- Tokens, as an argument holds them: of bounded Outs. -/
def ToksA (H : AHeap) (v : Value) (T : List Tok) : Prop := Toks Try.prog H v T ∧ Cut Try.prog H v 4 ∧ ∀ x ∈ T, x.out.length ≤ 7000000
theorem ToksA.ext {H H' : AHeap} (hx : Ext H H') {v : Value} {T : List Tok} (h : ToksA H v T) : ToksA H' v T := ⟨Rws.ext tokQ_mono hx h.1, h.2.1.ext hx, h.2.2⟩
theorem l_RU {H0 : AHeap} {w : Value} {T : List Tok} {q4 : Nat} (hT : Toks Try.prog H0 w T) (h4 : H0.n ≤ q4) (hT8 : ∀ x ∈ T, x.out.length ≤ 7000000) (hTl : T.length ≤ 60) : ∀ (n : Nat) (H : AHeap) (v : Value) (p : Option Addr) (cc ver : Nat), n ≤ T.length → OwnI H v (outs (T.drop n)) → From H0.n v → Ext H0 H → H.get q4 = some ⟨tokC p cc (frr (T.drop n)), 39, .tip, ver, []⟩ → tokQ Try.prog H0 (tokC p cc (frr (T.drop n))) (frr (T.drop n)) →
    Out (run Try.prog (tabF tab) om1 (.loop [0, 3, 4, 5] b_lontarlaw05_RewriteUnits_0) [(0, w), (3, v), (4, .pointer (some ⟨q4, 0, none⟩)), (5, .int .i64 ((n : Int) - 1))] H) fun y e' H' => y = .exit 0 ∧ eget e' 0 = w ∧ eget e' 4 = .pointer (some ⟨q4, 0, none⟩) ∧ OwnI H' (eget e' 3) (outs T) ∧ From H0.n (eget e' 3) ∧ Ext H0 H' ∧ ∃ p' c' ver', H'.get q4 = some ⟨tokC p' c' (frr T), 39, .tip, ver', []⟩ ∧ tokQ Try.prog H0 (tokC p' c' (frr T)) (frr T) := by
  intro n
  induction n with
  | zero =>
    intro H v p cc ver hn ho hf hx hg hq
    rw [List.drop_zero] at ho hg hq
    rw [show ((0 : Nat) : Int) - 1 = -1 from rfl]
    have hlt : ((-1 : Int) ≥ 0) = False := by simp
    rw [w_loop_b b_lontarlaw05_RewriteUnits_0.eq_1]
    simp only [WA, isStore, isCall, isK, freshI, stampO, List.nil_append, Option.map_some, Option.map_none, Option.bind_some, List.map_cons, List.map_nil, if_true, if_false, Nat.reduceEqDiff, Int.reduceEq, Nat.reduceAdd, Nat.reduceMul, reduceCtorEq, eq_self, Int.reduceLT, Int.reduceLE, Int.reduceToNat, List.length_cons, List.length_nil, List.all_cons, List.all_nil, List.take_zero, List.drop_nil, List.append_nil, List.getElem?_cons_zero, List.getElem?_cons_succ, List.drop_succ_cons, List.drop_zero, List.take_succ_cons, List.cons_append, Nat.reduceLeDiff, Int.cast_ofNat_Int, hlt]
    exact ⟨ho, hf, hx, p, cc, ver, hg, hq⟩
  | succ n ih =>
    intro H v p cc ver hn ho hf hx hg hq
    rw [show ((n + 1 : Nat) : Int) - 1 = (n : Int) by omega]
    have hlt : ((n : Int) ≥ 0) = True := by simp
    obtain ⟨x, hxk, hdx⟩ := drop_at (L := T) (i := n) (by omega)
    obtain ⟨i, o, px, cx, a1, a2, a3, a4, a5, a6, a7, a8, a9⟩ := Toks.at' hT hxk
    have a4' := got_ext hx a4
    have hx8 := hT8 x (List.mem_of_getElem? hxk)
    have hol := outs_le (n := 7000000) (T := T.drop (n + 1)) (fun y hy => hT8 y (List.mem_of_mem_drop hy))
    rw [List.length_drop] at hol
    have hol2 : 7000000 * (T.length - (n + 1)) ≤ 7000000 * 60 := Nat.mul_le_mul_left _ (by omega)
    obtain ⟨v1, H1, m1, m2, m3, m4, m5⟩ := OwnI.add2 (H0 := H) OwnI.nil trivial (Ext.refl _) (a7.ext hx) (by simp only [List.length_nil]; omega)
    rw [List.nil_append] at m2
    obtain ⟨v2, H2, k1, k2, k3, k4, k5⟩ := OwnI.add2 (H0 := H) m2 m3 m4 (ho.asI.ext m4) (by omega)
    have hw2 : IntKind.i64.wrap ((n : Int) - 1) = (n : Int) - 1 := wrap64 (by omega) (by omega)
    have g1 := m4.get hg
    have g2 := k4.get hg
    have x2 := hx.trans k4
    have a5' := got_ext x2 a5
    have a6' := got_ext x2 a6
    have hdo : outs (T.drop n) = x.out ++ outs (T.drop (n + 1)) := by rw [hdx]; simp [outs]
    have hne : (39 : TypeId) ≠ 3 := by decide
    rw [← hdo] at k2
    rw [w_loop_b b_lontarlaw05_RewriteUnits_0.eq_1]
    by_cases he : x.err = 0
    · have he' : (x.err ≠ 0) = False := by simp [he]
      have hfr : frr (T.drop n) = frr (T.drop (n + 1)) := by rw [hdx]; exact if_neg (fun hh => hh he)
      rw [← hfr] at g2 hq
      obtain ⟨y, e', H', r1, r2⟩ := ih H2 v2 p cc ver (by omega) k2 (k3.mono hx.1) x2 g2 hq
      simp only [WA, isStore, isCall, isK, freshI, stampO, List.nil_append, Option.map_some, Option.map_none, Option.bind_some, List.map_cons, List.map_nil, if_true, if_false, Nat.reduceEqDiff, Int.reduceEq, Nat.reduceAdd, Nat.reduceMul, reduceCtorEq, eq_self, Int.reduceLT, Int.reduceLE, Int.reduceToNat, List.length_cons, List.length_nil, List.all_cons, List.all_nil, List.take_zero, List.drop_nil, List.append_nil, List.getElem?_cons_zero, List.getElem?_cons_succ, List.drop_succ_cons, List.drop_zero, List.take_succ_cons, List.cons_append, Nat.reduceLeDiff, Int.cast_ofNat_Int, hlt, a1, a4', m1, k1, a5', he', hw2]
      rw [w_enter]
      simp only [WA, isStore, isCall, isK, freshI, stampO, List.nil_append, Option.map_some, Option.map_none, Option.bind_some, List.map_cons, List.map_nil, if_true, if_false, Nat.reduceEqDiff, Int.reduceEq, Nat.reduceAdd, Nat.reduceMul, reduceCtorEq, eq_self, Int.reduceLT, Int.reduceLE, Int.reduceToNat, List.length_cons, List.length_nil, List.all_cons, List.all_nil, List.take_zero, List.drop_nil, List.append_nil, List.getElem?_cons_zero, List.getElem?_cons_succ, List.drop_succ_cons, List.drop_zero, List.take_succ_cons, List.cons_append, Nat.reduceLeDiff, Int.cast_ofNat_Int, r1]
      exact r2
    · have he' : (x.err ≠ 0) = True := by simp [he]
      have hfr : frr (T.drop n) = x := by rw [hdx]; exact if_pos he
      have g3 := upd_self (c := ⟨tokC px cx x, 39, .tip, ver + 1, []⟩) g2
      have ho3 : OwnI (H2.upd q4 ⟨tokC px cx x, 39, .tip, ver + 1, []⟩) v2 (outs (T.drop n)) := Own.move k2 fun j b hj hb => by
        rw [upd_other g2 (fun e => by subst e; rw [g2] at hj; injection hj with hj; subst hj; exact hne hb)]
        exact hj
      have hq3 : tokQ Try.prog H0 (tokC px cx x) x := ⟨px, cx, rfl, a7, a8, a9⟩
      obtain ⟨y, e', H', r1, r2⟩ := ih (H2.upd q4 ⟨tokC px cx x, 39, .tip, ver + 1, []⟩) v2 px cx (ver + 1) (by omega) ho3 (k3.mono hx.1) (Ext.upd x2 g2 h4) (by rw [hfr]; exact g3) (by rw [hfr]; exact hq3)
      simp only [WA, isStore, isCall, isK, freshI, stampO, List.nil_append, Option.map_some, Option.map_none, Option.bind_some, List.map_cons, List.map_nil, if_true, if_false, Nat.reduceEqDiff, Int.reduceEq, Nat.reduceAdd, Nat.reduceMul, reduceCtorEq, eq_self, Int.reduceLT, Int.reduceLE, Int.reduceToNat, List.length_cons, List.length_nil, List.all_cons, List.all_nil, List.take_zero, List.drop_nil, List.append_nil, List.getElem?_cons_zero, List.getElem?_cons_succ, List.drop_succ_cons, List.drop_zero, List.take_succ_cons, List.cons_append, Nat.reduceLeDiff, Int.cast_ofNat_Int, hlt, a1, a4', m1, k1, a5', he', a6', g2]
      rw [got_tokT]
      simp only [WA, isStore, isCall, isK, freshI, stampO, List.nil_append, Option.map_some, Option.map_none, Option.bind_some, List.map_cons, List.map_nil, if_true, if_false, Nat.reduceEqDiff, Int.reduceEq, Nat.reduceAdd, Nat.reduceMul, reduceCtorEq, eq_self, Int.reduceLT, Int.reduceLE, Int.reduceToNat, List.length_cons, List.length_nil, List.all_cons, List.all_nil, List.take_zero, List.drop_nil, List.append_nil, List.getElem?_cons_zero, List.getElem?_cons_succ, List.drop_succ_cons, List.drop_zero, List.take_succ_cons, List.cons_append, Nat.reduceLeDiff, Int.cast_ofNat_Int, hw2]
      rw [w_enter]
      simp only [WA, isStore, isCall, isK, freshI, stampO, List.nil_append, Option.map_some, Option.map_none, Option.bind_some, List.map_cons, List.map_nil, if_true, if_false, Nat.reduceEqDiff, Int.reduceEq, Nat.reduceAdd, Nat.reduceMul, reduceCtorEq, eq_self, Int.reduceLT, Int.reduceLE, Int.reduceToNat, List.length_cons, List.length_nil, List.all_cons, List.all_nil, List.take_zero, List.drop_nil, List.append_nil, List.getElem?_cons_zero, List.getElem?_cons_succ, List.drop_succ_cons, List.drop_zero, List.take_succ_cons, List.cons_append, Nat.reduceLeDiff, Int.cast_ofNat_Int, r1]
      exact r2
theorem v_b0 {H : AHeap} : vBuild [.int .i64 0, .int .i64 0, .slice none 0 0, .int .i64 0] [] H = some (.agg ⟨tokC none 0 tok0⟩, H) := rfl
theorem tokQ_out {H : AHeap} {c : Nat} {p : Option Addr} {t : Tok} (h : tokQ Try.prog H (tokC p c t) t) : Ints H (.slice p t.out.length c) t.out ∧ tiny t.out := by
  obtain ⟨a, c0, e, h1, h2, h3⟩ := h
  unfold tokC at e
  simp only [List.cons.injEq, Value.slice.injEq, true_and, and_true] at e
  obtain ⟨rfl, rfl⟩ := e
  exact ⟨h1, h2⟩
theorem law_Units {a : Value} {T : List Tok} {H : AHeap} (ha : ToksA H a T) : Gives (cw Try.prog (tabF tab) om1 4 [a] H) fun v H' => v = .bool true := by
  obtain ⟨ha, hac, h7⟩ := ha
  rw [cw_run (F := F_lontarlaw05_RewriteUnits) rfl rfl rfl]
  unfold F_lontarlaw05_RewriteUnits k_lontarlaw05_RewriteUnits
  obtain ⟨k, k1, k2, k3⟩ := min60 (n := T.length)
  obtain ⟨w, s1, s2, s3⟩ := ha.take hac k1
  have s1' := s1 .i64
  have hl0 := fun H2 => ha.len (H2 := H2)
  have hkl : (T.take k).length = k := by rw [List.length_take]; omega
  have h8 : ∀ x ∈ T.take k, x.out.length ≤ 7000000 := fun x hx => h7 x (List.mem_of_mem_take hx)
  generalize T.take k = T' at *
  have hl1 := fun H2 => s2.len (H2 := H2)
  obtain ⟨H1, hH1⟩ : ∃ H1, H1 = H.push ⟨tokC none 0 tok0, 39, .tip, 1, []⟩ := ⟨_, rfl⟩
  have x1 : Ext H H1 := by rw [hH1]; exact Ext.push H _
  have g1 : H1.get H.n = some ⟨tokC none 0 tok0, 39, .tip, 1, []⟩ := by rw [hH1]; exact get_push_self
  have hz : ([.int .i64 0, .int .i64 0, .slice none 0 0, .int .i64 0] : List Value) = tokC none 0 tok0 := rfl
  have hd : T'.drop T'.length = [] := List.drop_of_length_le (Nat.le_refl _)
  obtain ⟨y, e', H2, r1, rfl, r2, r3, r4, r5, x2, p', c', ver', g2, q2⟩ := l_RU (q4 := H.n) s2 (Nat.le_refl _) h8 (by omega) T'.length H1 (.slice none 0 0) none 0 1 (Nat.le_refl _) (by rw [hd]; exact OwnI.nil) trivial x1 (by rw [hd]; exact g1) (by rw [hd]; exact ⟨none, 0, rfl, Sl.nil H 1, by unfold Lon.tiny frr tok0; simp, Cut.nil⟩)
  have hol := outs_le h8
  obtain ⟨w3, H3, c3, x3, vo, p3, k3', rfl, o3, f3, t3⟩ := c_UT (Rws.ext tokQ_mono x2 s2) (by omega)
  rw [fstB_frr] at c3 t3
  obtain ⟨H4, hH4⟩ : ∃ H4, H4 = H3.push ⟨tokC p3 k3' (frr T'), 39, .tip, 1, []⟩ := ⟨_, rfl⟩
  have x4 : Ext H3 H4 := by rw [hH4]; exact Ext.push H3 _
  have g4 : H4.get H3.n = some ⟨tokC p3 k3' (frr T'), 39, .tip, 1, []⟩ := by rw [hH4]; exact get_push_self
  have x24 := x3.trans x4
  have g2' := x24.get g2
  have cU := c_Units (o3.asI.ext x4) (r4.asI.ext x24) (by omega)
  rw [decide_eq_true rfl] at cU
  have hw1 : IntKind.i64.wrap ((T'.length : Int) - 1) = (T'.length : Int) - 1 := wrap64 (by omega) (by omega)
  obtain ⟨i3, j3⟩ := tokQ_out t3
  obtain ⟨i2, j2⟩ := tokQ_out q2
  have cV := c_Units (i3.ext (x3.trans x4)) ((i2.ext x2).ext x24) j3
  rw [decide_eq_true rfl] at cV
  simp only [WA, isStore, isCall, isK, freshI, stampO, List.nil_append, Option.map_some, Option.map_none, Option.bind_some, List.map_cons, List.map_nil, if_true, if_false, Nat.reduceEqDiff, Int.reduceEq, Nat.reduceAdd, Nat.reduceMul, reduceCtorEq, eq_self, Int.reduceLT, Int.reduceLE, Int.reduceToNat, List.length_cons, List.length_nil, List.all_cons, List.all_nil, List.take_zero, List.drop_nil, List.append_nil, List.getElem?_cons_zero, List.getElem?_cons_succ, List.drop_succ_cons, List.drop_zero, List.take_succ_cons, List.cons_append, Nat.reduceLeDiff, Int.cast_ofNat_Int, o_awake5, hl0, k3, s1', v_b0, got_tok, ← hH1, hl1, hw1]
  rw [w_enter]
  simp only [WA, isStore, isCall, isK, freshI, stampO, List.nil_append, Option.map_some, Option.map_none, Option.bind_some, List.map_cons, List.map_nil, if_true, if_false, Nat.reduceEqDiff, Int.reduceEq, Nat.reduceAdd, Nat.reduceMul, reduceCtorEq, eq_self, Int.reduceLT, Int.reduceLE, Int.reduceToNat, List.length_cons, List.length_nil, List.all_cons, List.all_nil, List.take_zero, List.drop_nil, List.append_nil, List.getElem?_cons_zero, List.getElem?_cons_succ, List.drop_succ_cons, List.drop_zero, List.take_succ_cons, List.cons_append, Nat.reduceLeDiff, Int.cast_ofNat_Int, r1, r2, r3, c3, got_tok, ← hH4, cU, g4, g2', tk0, tk1, tk2, tk3, cV]
theorem law_Sum {a : Value} {T : List Tok} {b : Int} {H : AHeap} (ha : ToksA H a T) (hb : 0 ≤ b ∧ b < 256) : Gives (cw Try.prog (tabF tab) om1 8 [a, .int .u8 b] H) fun v H' => v = .bool true := by
  obtain ⟨ha, hac, h7⟩ := ha
  rw [cw_run (F := F_lontarlaw05_RewriteSum) rfl rfl rfl]
  unfold F_lontarlaw05_RewriteSum k_lontarlaw05_RewriteSum
  obtain ⟨k, k1, k2, k3⟩ := min60 (n := T.length)
  obtain ⟨w, s1, s2, s3⟩ := ha.take hac k1
  have s1' := s1 .i64
  have hl0 := fun H2 => ha.len (H2 := H2)
  have hkl : (T.take k).length = k := by rw [List.length_take]; omega
  have h8 : ∀ x ∈ T.take k, x.out.length ≤ 7000000 := fun x hx => h7 x (List.mem_of_mem_take hx)
  generalize T.take k = T' at *
  have hl1 := fun H2 => s2.len (H2 := H2)
  have hol := outs_le h8
  obtain ⟨n, hn⟩ : ∃ n : Nat, b % ((T'.length : Int) + 1) = n := ⟨(b % ((T'.length : Int) + 1)).toNat, by rw [Int.toNat_of_nonneg (Int.emod_nonneg _ (by omega))]⟩
  have hn2 : n ≤ T'.length := by have := Int.emod_lt_of_pos b (show 0 < (T'.length : Int) + 1 by omega); omega
  have q0 : IntKind.i64.wrap b = b := wrap64 (by omega) (by omega)
  have q1 : IntKind.i64.wrap ((T'.length : Int) + 1) = (T'.length : Int) + 1 := wrap64 (by omega) (by omega)
  have q2 : intOp .rem .i64 b ((T'.length : Int) + 1) = some (.int .i64 n) := by rw [int_rem (by omega), Int.tmod_eq_emod_of_nonneg (by omega), hn]
  obtain ⟨wa, a1, a2, a3⟩ := s2.take s3 hn2
  have a1' := a1 .i64
  have hA : outs T' = outs (T'.take n) ++ outs (T'.drop n) := by rw [← outs_app, List.take_append_drop]
  have hlen := congrArg List.length hA
  rw [List.length_append] at hlen
  obtain ⟨w1, H1, c1, x1, va, pa, ka, rfl, oa, fa, ta⟩ := c_UT a2 (by omega)
  rw [fstB_frr] at c1 ta
  obtain ⟨H2, hH2⟩ : ∃ H2, H2 = H1.push ⟨tokC pa ka (frr (T'.take n)), 39, .tip, 1, []⟩ := ⟨_, rfl⟩
  have x2 : Ext H1 H2 := by rw [hH2]; exact Ext.push H1 _
  have g2 : H2.get H1.n = some ⟨tokC pa ka (frr (T'.take n)), 39, .tip, 1, []⟩ := by rw [hH2]; exact get_push_self
  have x02 := x1.trans x2
  obtain ⟨wb, b1, b2, b3⟩ := Rws.drop (Rws.ext tokQ_mono x02 s2) (s3.ext x02) hn2
  have b1' := b1 .i64
  obtain ⟨w3, H3, c3, x3, vb, pb, kb, rfl, ob, fb, tb⟩ := c_UT b2 (by omega)
  rw [fstB_frr] at c3 tb
  obtain ⟨H4, hH4⟩ : ∃ H4, H4 = H3.push ⟨tokC pb kb (frr (T'.drop n)), 39, .tip, 1, []⟩ := ⟨_, rfl⟩
  have x4 : Ext H3 H4 := by rw [hH4]; exact Ext.push H3 _
  have g4 : H4.get H3.n = some ⟨tokC pb kb (frr (T'.drop n)), 39, .tip, 1, []⟩ := by rw [hH4]; exact get_push_self
  have x24 := x3.trans x4
  have x04 := x02.trans x24
  obtain ⟨w5, H5, c5, x5, vc, pc, kc, rfl, oc, fc, tc⟩ := c_UT (Rws.ext tokQ_mono x04 s2) (by omega)
  rw [fstB_frr] at c5 tc
  obtain ⟨H6, hH6⟩ : ∃ H6, H6 = H5.push ⟨tokC pc kc (frr T'), 39, .tip, 1, []⟩ := ⟨_, rfl⟩
  have x6 : Ext H5 H6 := by rw [hH6]; exact Ext.push H5 _
  have g6 : H6.get H5.n = some ⟨tokC pc kc (frr T'), 39, .tip, 1, []⟩ := by rw [hH6]; exact get_push_self
  have x46 := x5.trans x6
  have x26 := x24.trans x46
  have g62 := x26.get g2
  have g64 := x46.get g4
  have hfr : frr T' = if (frr (T'.take n)).err ≠ 0 then frr (T'.take n) else frr (T'.drop n) := by rw [← frr_app, List.take_append_drop]
  by_cases he : (frr (T'.take n)).err = 0
  · have he' : ((frr (T'.take n)).err ≠ 0) = False := by simp [he]
    rw [if_neg (fun hh => hh he)] at hfr
    obtain ⟨v8, H8, m1, m2, m3, m4, m5⟩ := OwnI.add2 (H0 := H6) OwnI.nil trivial (Ext.refl _) (oa.asI.ext (x2.trans x26)) (by simp only [List.length_nil]; omega)
    rw [List.nil_append] at m2
    obtain ⟨v9, H9, j1, j2, j3, j4, j5⟩ := OwnI.add2 (H0 := H6) m2 m3 m4 (ob.asI.ext ((x4.trans x46).trans m4)) (by omega)
    rw [← hA] at j2
    have cU := c_Units j2.asI (oc.asI.ext (x6.trans j4)) (by omega)
    rw [decide_eq_true rfl] at cU
    have g94 := j4.get g64
    have g96 := j4.get g6
    rw [hfr] at g96
    simp only [WA, isStore, isCall, isK, freshI, stampO, List.nil_append, Option.map_some, Option.map_none, Option.bind_some, List.map_cons, List.map_nil, if_true, if_false, Nat.reduceEqDiff, Int.reduceEq, Nat.reduceAdd, Nat.reduceMul, reduceCtorEq, eq_self, Int.reduceLT, Int.reduceLE, Int.reduceToNat, List.length_cons, List.length_nil, List.all_cons, List.all_nil, List.take_zero, List.drop_nil, List.append_nil, List.getElem?_cons_zero, List.getElem?_cons_succ, List.drop_succ_cons, List.drop_zero, List.take_succ_cons, List.cons_append, Nat.reduceLeDiff, Int.cast_ofNat_Int, o_awake5, hl0, k3, s1', hl1, q0, q1, q2, a1', c1, got_tok, ← hH2, b1', c3, ← hH4, c5, ← hH6, g62, tk3, he', m1, j1, cU, g94, g96, tk0, tk1]
  · have he' : ((frr (T'.take n)).err ≠ 0) = True := by simp [he]
    rw [if_pos he] at hfr
    have hne : (39 : TypeId) ≠ 3 := by decide
    have h53 : H5.n ≠ H3.n := by have := x5.1; have := x4.1; rw [hH4, AHeap.n_push] at *; omega
    obtain ⟨H7, hH7⟩ : ∃ H7, H7 = H6.upd H3.n ⟨tokC pa ka (frr (T'.take n)), 39, .tip, 2, []⟩ := ⟨_, rfl⟩
    have x37 : Ext H3 H7 := by rw [hH7]; exact Ext.upd (x4.trans x46) g64 (Nat.le_refl _)
    have g74 : H7.get H3.n = some ⟨tokC pa ka (frr (T'.take n)), 39, .tip, 2, []⟩ := by rw [hH7]; exact upd_self g64
    have g76 : H7.get H5.n = some ⟨tokC pc kc (frr T'), 39, .tip, 1, []⟩ := by rw [hH7, upd_other g64 h53]; exact g6
    have oc7 : OwnI H7 vc (outs T') := by
      rw [hH7]
      exact Own.move (oc.ext x6) fun j b hj hb => by
        rw [upd_other g64 (fun e => by subst e; rw [g64] at hj; injection hj with hj; subst hj; exact hne hb)]
        exact hj
    obtain ⟨v8, H8, m1, m2, m3, m4, m5⟩ := OwnI.add2 (H0 := H7) OwnI.nil trivial (Ext.refl _) (oa.asI.ext ((x2.trans x3).trans x37)) (by simp only [List.length_nil]; omega)
    rw [List.nil_append] at m2
    obtain ⟨v9, H9, j1, j2, j3, j4, j5⟩ := OwnI.add2 (H0 := H7) m2 m3 m4 (ob.asI.ext (x37.trans m4)) (by omega)
    rw [← hA] at j2
    have cU := c_Units j2.asI (oc7.asI.ext j4) (by omega)
    rw [decide_eq_true rfl] at cU
    have g94 := j4.get g74
    have g96 := j4.get g76
    rw [hfr] at g96
    simp only [WA, isStore, isCall, isK, freshI, stampO, List.nil_append, Option.map_some, Option.map_none, Option.bind_some, List.map_cons, List.map_nil, if_true, if_false, Nat.reduceEqDiff, Int.reduceEq, Nat.reduceAdd, Nat.reduceMul, reduceCtorEq, eq_self, Int.reduceLT, Int.reduceLE, Int.reduceToNat, List.length_cons, List.length_nil, List.all_cons, List.all_nil, List.take_zero, List.drop_nil, List.append_nil, List.getElem?_cons_zero, List.getElem?_cons_succ, List.drop_succ_cons, List.drop_zero, List.take_succ_cons, List.cons_append, Nat.reduceLeDiff, Int.cast_ofNat_Int, o_awake5, hl0, k3, s1', hl1, q0, q1, q2, a1', c1, got_tok, ← hH2, b1', c3, ← hH4, c5, ← hH6, g62, g64, tk3, he', ld_tok]
    rw [got_tokT]
    simp only [WA, isStore, isCall, isK, freshI, stampO, List.nil_append, Option.map_some, Option.map_none, Option.bind_some, List.map_cons, List.map_nil, if_true, if_false, Nat.reduceEqDiff, Int.reduceEq, Nat.reduceAdd, Nat.reduceMul, reduceCtorEq, eq_self, Int.reduceLT, Int.reduceLE, Int.reduceToNat, List.length_cons, List.length_nil, List.all_cons, List.all_nil, List.take_zero, List.drop_nil, List.append_nil, List.getElem?_cons_zero, List.getElem?_cons_succ, List.drop_succ_cons, List.drop_zero, List.take_succ_cons, List.cons_append, Nat.reduceLeDiff, Int.cast_ofNat_Int, ← hH7, m1, j1, cU, g94, g96, tk0, tk1, tk3]
end Go.Proofs.Ythnccfmmeaeibaa

/-! Tokens read from memory, where all is of bounded bulk. -/
set_option linter.unusedSimpArgs false
set_option linter.unusedVariables false
namespace Go.Proofs.Ythnccfmmeaeibaa
open Go Lon
section
variable {K : Type} {P : Program} {M : Nat}
theorem bulk_one (d : DataW K) : 1 ≤ Rows.uptoBulk d := by
  cases d with
  | lit l => cases l <;> simp [Rows.uptoBulk]
  | nil => simp [Rows.uptoBulk]
  | ptr d => simp [Rows.uptoBulk]
  | slice elems spare => simp [Rows.uptoBulk]
  | agg parts => simp [Rows.uptoBulk]
  | iface t d => simp [Rows.uptoBulk]
  | map entries => simp [Rows.uptoBulk]
  | held h => simp [Rows.uptoBulk]
theorem bulk_part {d : DataW K} : ∀ {l : List (DataW K)}, d ∈ l → Rows.uptoBulk d ≤ Rows.uptoBulkAll l
  | [], h => by cases h
  | x :: l, h => by
    simp only [Rows.uptoBulkAll]
    rcases List.mem_cons.1 h with rfl | h
    · omega
    · have := bulk_part h; omega
theorem bulk_len : ∀ (l : List (DataW K)), l.length ≤ Rows.uptoBulkAll l
  | [] => by simp [Rows.uptoBulkAll]
  | x :: l => by
    have h1 := bulk_one x
    have h2 := bulk_len l
    simp only [Rows.uptoBulkAll, List.length_cons]
    omega
theorem wts_all {e : TypeId} {n : Nat} : ∀ {l : List (DataW K)}, n ∈ DataW.weightsAll P e l → ∃ d ∈ l, n ∈ d.weights P e
  | [], h => by simp [DataW.weightsAll] at h
  | d :: l, h => by
    simp only [DataW.weightsAll] at h
    rcases List.mem_append.1 h with h | h
    · exact ⟨d, List.mem_cons_self .., h⟩
    · obtain ⟨x, h1, h2⟩ := wts_all h
      exact ⟨x, List.mem_cons_of_mem _ h1, h2⟩
theorem wts_each {n : Nat} : ∀ {ts : List TypeId} {l : List (DataW K)}, n ∈ DataW.weightsEach P ts l → ∃ t ∈ ts, ∃ d ∈ l, n ∈ d.weights P t
  | [], l, h => by simp [DataW.weightsEach] at h
  | t :: ts, [], h => by simp [DataW.weightsEach] at h
  | t :: ts, d :: l, h => by
    simp only [DataW.weightsEach] at h
    rcases List.mem_append.1 h with h | h
    · exact ⟨t, List.mem_cons_self .., d, List.mem_cons_self .., h⟩
    · obtain ⟨y, h1, x, h2, h3⟩ := wts_each h
      exact ⟨y, List.mem_cons_of_mem _ h1, x, List.mem_cons_of_mem _ h2, h3⟩
/-- A value's weights are within M times its bulk. -/
def Within (P : Program) (M : Nat) (t : TypeId) : Prop := ∀ (K : Type) (d : DataW K) (n : Nat), n ∈ d.weights P t → n ≤ M * Rows.uptoBulk d
theorem wts_lit {t : TypeId} {l : Lit} {n : Nat} (hM : 1 ≤ M) (h : n ∈ (DataW.lit (H := K) l).weights P t) : n ≤ M * Rows.uptoBulk (DataW.lit (H := K) l) := by
  cases l <;> simp [DataW.weights] at h
  rename_i b
  subst h
  simp only [Rows.uptoBulk]
  have : 1 * (b.length + 1) ≤ M * (b.length + 1) := Nat.mul_le_mul_right _ hM
  omega
theorem within_int {t : TypeId} {k : IntKind} (hM : 1 ≤ M) (ht : P.underlying t = some (.int k)) : Within P M t := by
  intro K d n h
  cases d with
  | lit l => exact wts_lit hM h
  | _ => simp [DataW.weights, ht] at h
theorem within_slice {t e : TypeId} (hM : 1 ≤ M) (ht : P.underlying t = some (.slice e)) (he : Within P M e) (hb : P.bytesOf e ≤ M) : Within P M t := by
  intro K d n h
  cases d with
  | lit l => exact wts_lit hM h
  | slice elems spare =>
    have h1 := bulk_len elems
    have h2 := bulk_len spare
    have hall : ∀ {l : List (DataW K)} {m : Nat}, m ∈ DataW.weightsAll P e l → m ≤ M * Rows.uptoBulkAll l := fun hm => by
      obtain ⟨x, q1, q2⟩ := wts_all hm
      exact Nat.le_trans (he K x _ q2) (Nat.mul_le_mul_left _ (bulk_part q1))
    simp only [DataW.weights, ht, List.mem_cons, List.mem_append] at h
    simp only [Rows.uptoBulk, Nat.mul_add, Nat.mul_one]
    rcases h with rfl | h | h
    · have q1 : (elems.length + spare.length) * P.bytesOf e ≤ (elems.length + spare.length) * M := Nat.mul_le_mul_left _ hb
      have q2 : (elems.length + spare.length) * M ≤ (Rows.uptoBulkAll elems + Rows.uptoBulkAll spare) * M := Nat.mul_le_mul_right _ (by omega)
      rw [Nat.add_mul (Rows.uptoBulkAll elems), Nat.mul_comm (Rows.uptoBulkAll elems), Nat.mul_comm (Rows.uptoBulkAll spare)] at q2
      omega
    · have := hall h; omega
    · have := hall h; omega
  | _ => simp [DataW.weights, ht] at h
theorem within_struct {t : TypeId} {fs : Array Field} (hM : 1 ≤ M) (ht : P.underlying t = some (.struct fs)) (he : ∀ x ∈ fs.toList.map (·.type), Within P M x) : Within P M t := by
  intro K d n h
  cases d with
  | lit l => exact wts_lit hM h
  | agg parts =>
    simp only [DataW.weights, ht] at h
    obtain ⟨x, h1, d, h2, h3⟩ := wts_each h
    have q1 := he x h1 K d n h3
    have q2 : M * Rows.uptoBulk d ≤ M * Rows.uptoBulkAll parts := Nat.mul_le_mul_left _ (bulk_part h2)
    simp only [Rows.uptoBulk, Nat.mul_add, Nat.mul_one]
    omega
  | _ => simp [DataW.weights, ht] at h
end
theorem within_toks : Within Try.prog 48 33 := by
  have hi : Within Try.prog 48 3 := within_int (by decide) Try.underlying3
  have he : Within Try.prog 48 29 := within_int (by decide) Try.underlying29
  have hs : Within Try.prog 48 24 := within_slice (by decide) Try.underlying24 hi (by decide +kernel)
  refine within_slice (by decide) Try.underlying33 (within_struct (by decide) Try.underlying39 ?_) (by decide +kernel)
  intro x hx
  have : x = 3 ∨ x = 24 ∨ x = 29 := by simpa [or_comm] using hx
  rcases this with rfl | rfl | rfl
  · exact hi
  · exact hs
  · exact he
abbrev BT : Nat := 50331648
abbrev qIB : AHeap → List Value → List Int → Prop := qSliceB BT Try.prog 1 8 (qInt .i64)
abbrev TokD := Int × (Int × (List Int × (Int × Unit)))
def tokD (r : TokD) : Tok := ⟨r.1, r.2.1, r.2.2.1, r.2.2.2.1⟩
abbrev qTok : AHeap → List Value → TokD → Prop := qPair 1 (qInt .i64) (qPair 1 (qInt .i64) (qPair 1 qIB (qPair 1 (qInt .i64) qTrue)))
theorem qIB_mono : Mono qIB := qSlice_mono (qInt_mono _)
theorem qTok_mono : Mono qTok := qPair_mono (qInt_mono _) (qPair_mono (qInt_mono _) (qPair_mono qIB_mono (qPair_mono (qInt_mono _) qTrue_mono)))
theorem op_intsB : OpenerB BT Try.prog 24 1 (List Int) qIB := Opener.slice (Opener.int Try.underlying3) (qInt_mono _) Try.underlying24 (by kernel_rfl) (by kernel_rfl) (by decide) (by kernel_rfl)
theorem op_tok : OpenerB BT Try.prog 39 4 TokD qTok :=
  Opener.struct Try.underlying39 (by kernel_rfl) (Openers.cons (Opener.int Try.underlying3) (qInt_mono _) rfl (by kernel_rfl) (Openers.cons (Opener.int Try.underlying3) (qInt_mono _) rfl (by kernel_rfl) (Openers.cons op_intsB qIB_mono rfl (by kernel_rfl) (Openers.cons (Opener.int Try.underlying29) (qInt_mono _) rfl (by kernel_rfl) Openers.nil))))
theorem op_toks : OpenerB BT Try.prog 33 1 (List TokD) (qSliceB BT Try.prog 4 48 qTok) := Opener.slice op_tok qTok_mono Try.underlying33 (by kernel_rfl) (by kernel_rfl) (by decide) (by kernel_rfl)
theorem toks_of {H : AHeap} {acs : List Value} {R : List TokD} (h : qSliceB BT Try.prog 4 48 qTok H acs R) : ∃ v, acs = [v] ∧ ToksA H v (R.map tokD) := by
  obtain ⟨v, cells, rfl, h2, h3, h4, h5⟩ := h
  have h3' : R.length * 48 ≤ 50331648 := h3
  have hrow : ∀ k r, R[k]? = some r → tokQ Try.prog H (rowC cells 4 k) (tokD r) ∧ (tokD r).out.length ≤ 7000000 := fun k r hr => by
    have hl := h2.length
    have hk := (List.getElem?_eq_some_iff.1 hr).1
    have hk4 : (k + 1) * 4 ≤ R.length * 4 := Nat.mul_le_mul_right _ hk
    have hlen : ((cells.drop (k * 4)).take 4).length = 4 := by rw [List.length_take, List.length_drop, hl]; omega
    have h5' := h5 k r hr
    unfold rowC
    generalize (cells.drop (k * 4)).take 4 = acs at *
    obtain ⟨⟨e1, _⟩, ⟨e2, _⟩, h6, ⟨e4, _⟩, _⟩ := h5'
    obtain ⟨u, e3, f1, f2, f3, f4⟩ := qSlice_nums h6
    obtain ⟨⟨a, c, rfl⟩, _⟩ := id f1
    match acs, hlen with
    | [x0, x1, x2, x3], _ =>
      simp at e1 e2 e3 e4
      subst e1 e2 e3 e4
      have f3' : r.2.2.1.length * 8 ≤ 50331648 := f3
      exact ⟨⟨a, c, rfl, f1, by show r.2.2.1.length < 4611686018427387904; omega, f2⟩, by show r.2.2.1.length ≤ 7000000; omega⟩
  refine ⟨v, rfl, ⟨by rw [List.length_map]; omega, cells, by rw [List.length_map]; exact h2, fun k r hr => ?_⟩, h4, fun x hx => ?_⟩
  · rw [List.getElem?_map] at hr
    cases hk : R[k]? with
    | none => rw [hk] at hr; cases hr
    | some r0 =>
      rw [hk] at hr
      injection hr with hr
      subst hr
      exact (hrow k r0 hk).1
  · obtain ⟨r, hr, rfl⟩ := List.mem_map.1 hx
    obtain ⟨k, hk, rfl⟩ := List.getElem_of_mem hr
    exact (hrow k _ (List.getElem?_eq_getElem hk)).2
end Go.Proofs.Ythnccfmmeaeibaa

