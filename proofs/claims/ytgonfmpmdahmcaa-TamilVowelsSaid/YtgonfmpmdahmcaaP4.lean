/- What is proved here: what the program's functions come to, as far as the claimed statement asks. Conditions: those that each theorem names, and no others. -/
import Derived.Test.YtgonfmpmdahmcaaP1
import Derived.Test.YtgonfmpmdahmcaaP2
import Derived.Test.YtgonfmpmdahmcaaP3
import Derived.Test.YtgonfmpmdahmcaaLonZk
/-! Rules that have a table: the statements' own choice of them. -/
set_option linter.unusedSimpArgs false
set_option linter.unusedVariables false
namespace Go.Proofs.Ytgonfmpmdahmcaa
open Go Lon
set_option maxRecDepth 100000
theorem rules_ones {H : AHeap} {cs : List Value} {L : List Rl} (hl : cs.length = L.length * 2) (h : ∀ k r, L[k]? = some r → RuleAt H cs k r ∧ tiny r.1 ∧ tiny r.2) : cs.all one = true := by
  rw [List.all_eq_true]
  intro x hx
  obtain ⟨j, hj, rfl⟩ := List.getElem_of_mem hx
  have hk : j / 2 < L.length := by omega
  obtain ⟨⟨vi, vo, h1, h2, h3, h4⟩, _⟩ := h (j / 2) _ (List.getElem?_eq_getElem hk)
  obtain ⟨⟨a, c, rfl⟩, _⟩ := h3
  obtain ⟨⟨a', c', rfl⟩, _⟩ := h4
  have hj0 : cs[j]? = some cs[j] := List.getElem?_eq_getElem hj
  rcases Nat.mod_two_eq_zero_or_one j with h0 | h0
  · rw [show j / 2 * 2 = j by omega, hj0] at h1
    injection h1 with h1
    rw [h1]; rfl
  · rw [show j / 2 * 2 + 1 = j by omega, hj0] at h2
    injection h2 with h2
    rw [h2]; rfl
theorem app_rules {H : AHeap} {x : Value} {L : List Rl} {el : TypeId} (hx : Rules H x L) (hc : CutR H x) (hb : L.length * 48 ≤ 140737488355328) :
    ∃ v H', appendA H (.slice none 0 0) x el 2 48 = some (v, H') ∧ Ext H H' ∧ OwnRules H' el v L ∧ CutR H' v ∧ From H.n v := by
  obtain ⟨h0, cs, h1, h2⟩ := hx
  by_cases hl : L = []
  · subst hl
    refine ⟨.slice none 0 0, H, ?_, Ext.refl _, OwnRules.nil _ _, CutR.nil _, trivial⟩
    obtain ⟨⟨a, c, rfl⟩, hcc⟩ := h1
    have h3 : cellsOf H 2 (.slice none 0 0) = some [] := rfl
    unfold appendA
    simp only [h3, hcc]
    exact if_pos List.length_nil
  · have hown : Own H el 2 (.slice none 0 0) 0 [] := ⟨rfl, .inl ⟨rfl, rfl⟩⟩
    obtain ⟨v', H', q1, q2, q3, q4, q5, q6⟩ := hown.append2 (bytes := 48) h1 (List.length_pos_iff.2 hl) (rules_ones h1.length h2) (by omega)
    rw [Nat.zero_add, List.nil_append] at q2
    have hext : Ext H H' := ⟨q5, fun i hi => q6 i hi trivial⟩
    refine ⟨v', H', q1, hext, ⟨cs, q2, fun k r hr => ?_⟩, ⟨_, cs, q2.sl, fun y hy => ?_⟩, q3⟩
    · obtain ⟨⟨vi, vo, g1, g2, g3, g4⟩, g5⟩ := h2 k r hr
      exact ⟨⟨vi, vo, g1, g2, g3.ext hext, g4.ext hext⟩, g5⟩
    · obtain ⟨n, cs', e1, e2⟩ := hc
      have : cs' = cs := Option.some.inj (e1.2.symm.trans h1.2)
      subst this
      exact (e2 y hy).ext hext
/-- Of rules those that leave a table. -/
def tbl : List Rl → List Rl → List Rl
  | [], T => T
  | r :: R, T => if clsF (T ++ [r]) (T ++ [r]) = true then tbl R (T ++ [r]) else tbl R T
theorem tbl_cls : ∀ {R T : List Rl}, clsF T T = true → clsF (tbl R T) (tbl R T) = true
  | [], T, h => h
  | r :: R, T, h => by
    unfold tbl
    split
    · rename_i h1; exact tbl_cls h1
    · exact tbl_cls h
theorem tbl_len : ∀ {R T : List Rl}, (tbl R T).length ≤ T.length + R.length
  | [], T => by simp [tbl]
  | r :: R, T => by
    unfold tbl
    split
    · have := tbl_len (R := R) (T := T ++ [r]); simp at this ⊢; omega
    · have := tbl_len (R := R) (T := T); simp; omega
/-- A choice of right rules, in their order, is right. -/
theorem good_sub {A B : List Rl} (hs : List.Sublist A B) (h : Good B) : Good A := by
  have key : ∀ {B : List Rl}, (∀ k r, B[k]? = some r → fnd (B.take k) r.1 < 0) ↔ B.Pairwise fun x y => x.1 ≠ y.1 := by
    intro B
    rw [List.pairwise_iff_getElem]
    constructor
    · intro hh i j hi hj hij e
      have := hh j B[j] (List.getElem?_eq_getElem hj)
      rw [fnd_neg] at this
      exact this B[i] (List.mem_of_getElem? (show (B.take j)[i]? = some B[i] by rw [List.getElem?_take, if_pos hij, List.getElem?_eq_getElem hi])) e
    · intro hh k r hr
      obtain ⟨hk, rfl⟩ := List.getElem?_eq_some_iff.1 hr
      rw [fnd_neg]
      intro x hx
      obtain ⟨i, hi, rfl⟩ := List.getElem_of_mem hx
      rw [List.length_take] at hi
      rw [List.getElem_take]
      exact hh i k (by omega) hk (by omega)
  refine ⟨fun r hr => h.1 r (hs.subset hr), key.2 ((key.1 h.2).sublist hs)⟩
theorem tbl_sub : ∀ {R T : List Rl}, List.Sublist (tbl R T) (T ++ R)
  | [], T => by rw [List.append_nil]; exact List.Sublist.refl _
  | r :: R, T => by
    unfold tbl
    split
    · have := tbl_sub (R := R) (T := T ++ [r])
      rwa [List.append_assoc] at this
    · exact (tbl_sub (R := R) (T := T)).trans (List.Sublist.append (List.Sublist.refl _) (List.sublist_cons_self _ _))
theorem l_TRules {H0 : AHeap} {a : Value} {L : List Rl} (hg : Good L) (hL : L.length < 1000000) : ∀ (k i : Nat) (H : AHeap) (out : Value) (T : List Rl), i + k = L.length → Ext H0 H → Rules H a L → CutR H a → OwnRules H 46 out T → CutR H out → From H0.n out → T.length ≤ i → (∀ r ∈ T, 0 < r.1.length) →
    Out (run Try.prog (tabF tab) om1 (.loop [3, 7, 8, 9] b_lontarlaw15_Rules_0) [(3, out), (7, a), (8, .int .i64 L.length), (9, .int .i64 i)] H) fun y e' H' => y = .exit 0 ∧ Ext H0 H' ∧ OwnRules H' 46 (eget e' 3) (tbl (L.drop i) T) ∧ CutR H' (eget e' 3) ∧ From H0.n (eget e' 3) := by
  intro k
  induction k with
  | zero =>
    intro i H out T hi hx ha hac ho hoc hf hT hp
    have hlt : ¬ ((i : Int) < L.length) := by omega
    rw [w_loop_b b_lontarlaw15_Rules_0.eq_1, List.drop_of_length_le (by omega)]
    simp only [WA, isStore, isCall, isK, freshI, stampO, List.nil_append, Option.map_some, Option.map_none, Option.bind_some, List.map_cons, List.map_nil, if_true, if_false, Nat.reduceEqDiff, Int.reduceEq, Nat.reduceAdd, Nat.reduceMul, reduceCtorEq, eq_self, Int.reduceLT, Int.reduceLE, Int.reduceToNat, List.length_cons, List.length_nil, List.all_cons, List.all_nil, List.take_zero, List.drop_nil, List.append_nil, List.getElem?_cons_zero, List.getElem?_cons_succ, List.drop_succ_cons, List.drop_zero, List.take_succ_cons, List.cons_append, Nat.reduceLeDiff, Int.cast_ofNat_Int, hlt, tbl]
    exact ⟨hx, ho, hoc, hf⟩
  | succ k ih =>
    intro i H out T hi hx ha hac ho hoc hf hT hp
    have hlt : (i : Int) < L.length := by omega
    obtain ⟨r, hr, hdr⟩ := drop_at (L := L) (i := i) (by omega)
    obtain ⟨i1, o1, vi, vo, h1, h2, h3, h4, h5, h6, h7, h8, h9, h10⟩ := Rules.atC ha hac hr
    have hr8 := side_len (hg.1 r (List.mem_of_getElem? hr)).1
    have h5' := h5
    have h6' := h6
    obtain ⟨⟨ai, ci, rfl⟩, _⟩ := h5'
    obtain ⟨⟨ao, co, rfl⟩, _⟩ := h6'
    obtain ⟨H1, hH1⟩ : ∃ H1, H1 = H.push ⟨[.slice ai r.1.length ci, .slice ao r.2.length co], 46, .tip, 1, []⟩ := ⟨_, rfl⟩
    have x1 : Ext H H1 := by rw [hH1]; exact Ext.push H _
    have n1 : H1.n = H.n + 1 := by rw [hH1]; simp
    have g1 : H1.get H.n = some ⟨[.slice ai r.1.length ci, .slice ao r.2.length co], 46, .tip, 1, []⟩ := by rw [hH1]; exact get_push_self
    obtain ⟨H2, hH2⟩ : ∃ H2, H2 = H1.push ⟨[.slice ai r.1.length ci, .slice ao r.2.length co], 46, .tip, 0, []⟩ := ⟨_, rfl⟩
    have x2 : Ext H1 H2 := by rw [hH2]; exact Ext.push H1 _
    have n2 : H2.n = H1.n + 1 := by rw [hH2]; simp
    have g2 : H2.get H1.n = some ⟨[.slice ai r.1.length ci, .slice ao r.2.length co], 46, .tip, 0, []⟩ := by rw [hH2]; exact get_push_self
    have x12 := x1.trans x2
    obtain ⟨v3, H3, c3, x3, o3, k3, f3⟩ := app_rules (el := 46) ((ho.ext x12).rules (by omega)) (hoc.ext x12) (by omega)
    have x13 := x12.trans x3
    have hsl3 := Sl.new (n := 1) (c := 2) (sz := 2) (x3.get g2) mem_tip rfl
    obtain ⟨v4, H4, m1, m2, m3, m4, m5, m6, m7, m8⟩ := OwnRules.appendC (bytes := 48) o3 k3 hsl3 (h5.ext x13) (h6.ext x13) h7 h8 (h9.ext x13) (h10.ext x13) (by omega)
    have hx4 : Ext H2 H4 := ⟨by have := x3.1; omega, fun j hj => by rw [m6 j (by have := x3.1; omega) (NotAt.of_from f3 hj), x3.2 j hj]⟩
    obtain ⟨v5, H5, c5, x5, rfl⟩ := c_ClosedD (m2.rules (by rw [List.length_append, List.length_singleton]; omega)) m7 (fun x hx => by
      rcases List.mem_append.1 hx with hx | hx
      · exact hp x hx
      · simp at hx; subst hx; exact hr8.1)
    have x25 := hx4.trans x5
    have x15 := x2.trans x25
    have x05 := x1.trans x15
    have g3 := x3.get g2
    have g4 := hx4.get g2
    have g5 := x15.get g1
    have g5' := x25.get g2
    have hw2 : IntKind.i64.wrap ((i : Int) + 1) = ((i + 1 : Nat) : Int) := by rw [wrap64 (by omega) (by omega)]; omega
    rw [w_loop_b b_lontarlaw15_Rules_0.eq_1, hdr]
    unfold tbl
    by_cases hcl : clsF (T ++ [r]) (T ++ [r]) = true
    · rw [if_pos hcl]
      rw [hcl] at c5
      have x6 := Ext.push H5 ⟨[.slice ai r.1.length ci, .slice ao r.2.length co], 46, .tip, 0, []⟩
      have x06 := x05.trans x6
      obtain ⟨v7, H7, q1, q2, q3, q4, q5, q6, q7, q8⟩ := OwnRules.appendC (bytes := 48) (ho.ext x06) (hoc.ext x06) (Sl.new (n := 1) (c := 2) (sz := 2) (get_push_self (H := H5) (b := ⟨[.slice ai r.1.length ci, .slice ao r.2.length co], 46, .tip, 0, []⟩)) mem_tip rfl) (h5.ext x06) (h6.ext x06) h7 h8 (h9.ext x06) (h10.ext x06) (by omega)
      have hx7 : Ext H0 H7 := Ext.grow (hx.trans x06) q5 q6 hf
      obtain ⟨y, e', H', r1, r2, r3, r4, r5, r6⟩ := ih (i + 1) H7 v7 (T ++ [r]) (by omega) hx7 ((ha.ext x06).keeps q4) ((hac.ext x06).go q4 q8) q2 q7 (q3.mono (by have := hx.1; have := x06.1; omega)) (by rw [List.length_append, List.length_singleton]; omega) (fun x hx => by
        rcases List.mem_append.1 hx with hx | hx
        · exact hp x hx
        · simp at hx; subst hx; exact hr8.1)
      simp only [WA, isStore, isCall, isK, freshI, stampO, List.nil_append, Option.map_some, Option.map_none, Option.bind_some, List.map_cons, List.map_nil, if_true, if_false, Nat.reduceEqDiff, Int.reduceEq, Nat.reduceAdd, Nat.reduceMul, reduceCtorEq, eq_self, Int.reduceLT, Int.reduceLE, Int.reduceToNat, List.length_cons, List.length_nil, List.all_cons, List.all_nil, List.take_zero, List.drop_nil, List.append_nil, List.getElem?_cons_zero, List.getElem?_cons_succ, List.drop_succ_cons, List.drop_zero, List.take_succ_cons, List.cons_append, Nat.reduceLeDiff, Int.cast_ofNat_Int, hlt, h1, h4, ← hH1, g1, v_rule1, ← hH2, c3, g3, m1, g4, c5, g5, g5', q1, hw2]
      rw [w_enter]
      simp only [WA, isStore, isCall, isK, freshI, stampO, List.nil_append, Option.map_some, Option.map_none, Option.bind_some, List.map_cons, List.map_nil, if_true, if_false, Nat.reduceEqDiff, Int.reduceEq, Nat.reduceAdd, Nat.reduceMul, reduceCtorEq, eq_self, Int.reduceLT, Int.reduceLE, Int.reduceToNat, List.length_cons, List.length_nil, List.all_cons, List.all_nil, List.take_zero, List.drop_nil, List.append_nil, List.getElem?_cons_zero, List.getElem?_cons_succ, List.drop_succ_cons, List.drop_zero, List.take_succ_cons, List.cons_append, Nat.reduceLeDiff, Int.cast_ofNat_Int, r1]
      exact ⟨r2, r3, r4, r5, r6⟩
    · rw [if_neg hcl]
      have hcl' : clsF (T ++ [r]) (T ++ [r]) = false := by simpa using hcl
      rw [hcl'] at c5
      obtain ⟨y, e', H', r1, r2, r3, r4, r5, r6⟩ := ih (i + 1) H5 out T (by omega) (hx.trans x05) (ha.ext x05) (hac.ext x05) (ho.ext x05) (hoc.ext x05) hf (by omega) hp
      simp only [WA, isStore, isCall, isK, freshI, stampO, List.nil_append, Option.map_some, Option.map_none, Option.bind_some, List.map_cons, List.map_nil, if_true, if_false, Nat.reduceEqDiff, Int.reduceEq, Nat.reduceAdd, Nat.reduceMul, reduceCtorEq, eq_self, Int.reduceLT, Int.reduceLE, Int.reduceToNat, List.length_cons, List.length_nil, List.all_cons, List.all_nil, List.take_zero, List.drop_nil, List.append_nil, List.getElem?_cons_zero, List.getElem?_cons_succ, List.drop_succ_cons, List.drop_zero, List.take_succ_cons, List.cons_append, Nat.reduceLeDiff, Int.cast_ofNat_Int, hlt, h1, h4, ← hH1, g1, v_rule1, ← hH2, c3, g3, m1, g4, c5, g5, g5', hw2]
      rw [w_enter]
      simp only [WA, isStore, isCall, isK, freshI, stampO, List.nil_append, Option.map_some, Option.map_none, Option.bind_some, List.map_cons, List.map_nil, if_true, if_false, Nat.reduceEqDiff, Int.reduceEq, Nat.reduceAdd, Nat.reduceMul, reduceCtorEq, eq_self, Int.reduceLT, Int.reduceLE, Int.reduceToNat, List.length_cons, List.length_nil, List.all_cons, List.all_nil, List.take_zero, List.drop_nil, List.append_nil, List.getElem?_cons_zero, List.getElem?_cons_succ, List.drop_succ_cons, List.drop_zero, List.take_succ_cons, List.cons_append, Nat.reduceLeDiff, Int.cast_ofNat_Int, r1]
      exact ⟨r2, r3, r4, r5, r6⟩
def tblOf (R : List RowD) : List Rl := tbl (rgt (RL R) []) []
theorem c_TRules {a : Value} {R : List RowD} {H : AHeap} (ha : RowsAt H a R) : Gives (cw Try.prog (tabF tab) om1 15 [a] H) fun v H' => Ext H H' ∧ OwnRules H' 46 v (tblOf R) ∧ CutR H' v ∧ Good (tblOf R) ∧ (tblOf R).length ≤ 40 ∧ clsF (tblOf R) (tblOf R) = true := by
  rw [cw_run (F := F_lontarlaw15_Rules) rfl rfl rfl]
  unfold F_lontarlaw15_Rules k_lontarlaw15_Rules
  obtain ⟨v1, H1, c1, x1, o1, k1⟩ := c_Right ha
  have h40 := RL_len R
  have hlen := rgt_len (L := RL R) (T := [])
  simp only [List.length_nil, Nat.zero_add] at hlen
  have hR := o1.rules (by omega)
  have hgood := rgt_good (L := RL R) Good.nil
  obtain ⟨y, e', H', r1, rfl, r3, r4, r5, r6⟩ := l_TRules hgood (by omega) (rgt (RL R) []).length 0 H1 (.slice none 0 0) [] (by omega) (Ext.refl _) hR k1 (OwnRules.nil _ _) (CutR.nil _) trivial (Nat.le_refl _) (fun r h => by cases h)
  rw [List.drop_zero] at r4
  simp only [Int.cast_ofNat_Int] at r1
  simp only [WA, isStore, isCall, isK, freshI, stampO, List.nil_append, Option.map_some, Option.map_none, Option.bind_some, List.map_cons, List.map_nil, if_true, if_false, Nat.reduceEqDiff, Int.reduceEq, Nat.reduceAdd, Nat.reduceMul, reduceCtorEq, eq_self, Int.reduceLT, Int.reduceLE, Int.reduceToNat, List.length_cons, List.length_nil, List.all_cons, List.all_nil, List.take_zero, List.drop_nil, List.append_nil, List.getElem?_cons_zero, List.getElem?_cons_succ, List.drop_succ_cons, List.drop_zero, List.take_succ_cons, List.cons_append, Nat.reduceLeDiff, Int.cast_ofNat_Int, c1, hR.len]
  rw [w_enter]
  simp only [WA, isStore, isCall, isK, freshI, stampO, List.nil_append, Option.map_some, Option.map_none, Option.bind_some, List.map_cons, List.map_nil, if_true, if_false, Nat.reduceEqDiff, Int.reduceEq, Nat.reduceAdd, Nat.reduceMul, reduceCtorEq, eq_self, Int.reduceLT, Int.reduceLE, Int.reduceToNat, List.length_cons, List.length_nil, List.all_cons, List.all_nil, List.take_zero, List.drop_nil, List.append_nil, List.getElem?_cons_zero, List.getElem?_cons_succ, List.drop_succ_cons, List.drop_zero, List.take_succ_cons, List.cons_append, Nat.reduceLeDiff, Int.cast_ofNat_Int, r1]
  have hsub := tbl_sub (R := rgt (RL R) []) (T := [])
  have htl := tbl_len (R := rgt (RL R) []) (T := [])
  simp only [List.length_nil, Nat.zero_add] at htl
  exact ⟨x1.trans r3, r4, r5, good_sub hsub hgood, by unfold tblOf; omega, tbl_cls rfl⟩
end Go.Proofs.Ytgonfmpmdahmcaa

/-! A table: of rules, and of the rules the other way round. -/
set_option linter.unusedSimpArgs false
set_option linter.unusedVariables false
namespace Go.Proofs.Ytgonfmpmdahmcaa
open Go Lon
set_option maxRecDepth 100000
/-- At block q lies the table of the rules L. -/
structure TableOk (H : AHeap) (q : Nat) (L : List Rl) : Prop where
  rest : ∃ ver t1 t2, H.get q = some ⟨[.int .i64 (lg L 0), .int .i64 (lg (trn L []) 0), .pointer (some ⟨t1, 0, none⟩), .pointer (some ⟨t2, 0, none⟩)], 69, .tip, ver, []⟩ ∧ TrieOk H t1 L ∧ TrieOk H t2 (trn L [])
theorem TableOk.ext {H H' : AHeap} (hx : Ext H H') {q : Nat} {L : List Rl} (h : TableOk H q L) : TableOk H' q L := by
  obtain ⟨ver, t1, t2, h1, h2, h3⟩ := h.rest
  exact ⟨ver, t1, t2, hx.get h1, h2.ext hx, h3.ext hx⟩
theorem right_small {L : List Rl} (hR : Right L) (hL : L.length ≤ 512) : smalls L := ⟨by omega, fun r hr => by
  obtain ⟨h1, h2⟩ := hR.1 r hr
  have := side_len h1
  have := side_len h2
  unfold small
  omega⟩
theorem trn_right {L : List Rl} (hR : Right L) : Right (trn L []) := trn_good (fun r hr => hR.1 r hr) Good.nil
theorem trn_few : ∀ {L T : List Rl}, (trn L T).length ≤ T.length + L.length
  | [], T => by simp [trn]
  | r :: L, T => by
    unfold trn
    split
    · have := trn_few (L := L) (T := T ++ [(r.2, r.1)]); simp at this ⊢; omega
    · have := trn_few (L := L) (T := T); simp; omega
theorem right_pos {L : List Rl} (hR : Right L) : ∀ r ∈ L, 0 < r.1.length := fun r hr => (side_len (hR.1 r hr).1).1
theorem v_table {H : AHeap} {a b : Int} {t : Nat} : vBuild [.int .i64 0, .int .i64 0, .pointer none, .pointer none] [(0, 1, .int .i64 a), (1, 1, .int .i64 b), (2, 1, .pointer (some ⟨t, 0, none⟩))] H = some (.agg ⟨[.int .i64 a, .int .i64 b, .pointer (some ⟨t, 0, none⟩), .pointer none]⟩, H) := rfl
theorem TS.upd {B t b i : Nat} {O : List (List Int)} {H : AHeap} {vr : Value} {N : List Nd} {x c : ABlk} (h : TS B H t b vr N O) (hg : H.get i = some x) (hi : i < B) (he : x.elem ≠ 3) : TS B (H.upd i c) t b vr N O := by
  have hk : ∀ j, j ≠ i → (H.upd i c).get j = H.get j := fun j hj => upd_other hg hj
  obtain ⟨ver, ht⟩ := h.ht
  obtain ⟨ver2, A, hn, hA⟩ := h.hn
  obtain ⟨cs, ⟨hl, hv⟩, ho⟩ := h.hv
  have htB := h.tB
  have hbB := h.bB
  refine ⟨h.tB, h.bB, h.ne, h.few, h.pos, ⟨ver, by rw [hk t (by omega)]; exact ht⟩, ⟨ver2, A, by rw [hk b (by omega)]; exact hn, fun a ha => ?_⟩, ⟨cs, ⟨hl, ?_⟩, ho.ki fun j blk h1 h2 => ?_⟩, h.vB, h.vt, h.vn⟩
  · obtain ⟨a1, a2, a3, a4, blk, a5, a6⟩ := hA a ha
    exact ⟨a1, a2, a3, a4, blk, by rw [hk a (by omega)]; exact a5, a6⟩
  · rcases hv with hv | ⟨q, ver3, anc, rfl, h1, h2⟩
    · exact .inl hv
    · have hq : B ≤ q := h.vB
      exact .inr ⟨q, ver3, anc, rfl, h1, by rw [hk q (by omega)]; exact h2⟩
  · rw [hk j (fun e => by subst e; rw [hg] at h1; injection h1 with h1; subst h1; exact he h2)]
    exact h1
theorem c_TOf {a : Value} {L : List Rl} {H : AHeap} (ha : Rules H a L) (hC : Cut Try.prog H a 2) (hac : CutR H a) (hR : Right L) (hL : L.length ≤ 512) (hcl : clsF L L = true) : Gives (cw Try.prog (tabF tab) om1 16 [a] H) fun v H' => Ext H H' ∧ ∃ q, v = .tuple ⟨[.pointer (some ⟨q, 0, none⟩), .int .i64 0]⟩ ∧ TableOk H' q L := by
  rw [cw_run (F := F_table_Of) rfl rfl rfl]
  unfold F_table_Of k_table_Of
  obtain ⟨v1, H1, c1, x1, t1, rfl, hT1⟩ := c_OfT ha hC hR hL
  obtain ⟨v2, H2, c2, x2, rfl⟩ := c_closed (ha.ext x1) (hac.ext x1) (right_pos hR)
  rw [hcl] at c2
  have x12 := x1.trans x2
  obtain ⟨v3, H3, c3, x3, o3, k3, l3⟩ := c_TurnC (right_small hR hL) (ha.ext x12) (hac.ext x12)
  have x13 := x12.trans x3
  have r3 := o3.rules (by omega)
  obtain ⟨v4, H4, c4, x4, rfl⟩ := c_Longest (ha.ext x13)
  obtain ⟨v5, H5, c5, x5, rfl⟩ := c_Longest (r3.ext x4)
  have x35 := x4.trans x5
  have x25 := x3.trans x35
  obtain ⟨H6, hH6⟩ : ∃ H6, H6 = H5.push ⟨[.int .i64 (lg L 0), .int .i64 (lg (trn L []) 0), .pointer (some ⟨t1, 0, none⟩), .pointer none], 69, .tip, 0, []⟩ := ⟨_, rfl⟩
  have x6 : Ext H5 H6 := by rw [hH6]; exact Ext.push H5 _
  have g6 : H6.get H5.n = some ⟨[.int .i64 (lg L 0), .int .i64 (lg (trn L []) 0), .pointer (some ⟨t1, 0, none⟩), .pointer none], 69, .tip, 0, []⟩ := by rw [hH6]; exact get_push_self
  have hbx : vBox (.agg ⟨[.int .i64 (lg L 0), .int .i64 (lg (trn L []) 0), .pointer (some ⟨t1, 0, none⟩), .pointer none]⟩) 69 H5 = some (.pointer (some ⟨H5.n, 0, none⟩), H6) := by rw [hH6]; exact v_box rfl
  have x36 := x35.trans x6
  have hC3 : Cut Try.prog H3 v3 2 := o3.cut (by kernel_rfl)
  obtain ⟨v7, H7, c7, x7, t2, b2, vr2, N2, rfl, hS2, hF2, hRF2, hρ2⟩ := c_Of (r3.ext x36) (hC3.ext x36) (trn_right hR) (by omega)
  have g7 := x7.get g6
  have x17 := ((x2.trans x3).trans x36).trans x7
  have x07 := x1.trans x17
  have hlt5 : H5.n < H7.n := AHeap.lt_of_get g7
  have z : ((0 : Int) ≠ 0) = False := by simp
  have x57 := x6.trans x7
  obtain ⟨H8, hH8⟩ : ∃ H8, H8 = H7.upd H5.n ⟨[.int .i64 (lg L 0), .int .i64 (lg (trn L []) 0), .pointer (some ⟨t1, 0, none⟩), .pointer (some ⟨t2, 0, none⟩)], 69, .tip, 0 + 1, []⟩ := ⟨_, rfl⟩
  have hlt6 : H5.n < H6.n := AHeap.lt_of_get g6
  have hS8 := hS2.upd (c := ⟨[.int .i64 (lg L 0), .int .i64 (lg (trn L []) 0), .pointer (some ⟨t1, 0, none⟩), .pointer (some ⟨t2, 0, none⟩)], 69, .tip, 0 + 1, []⟩) g7 hlt6 (by simp only; decide)
  have g8 := upd_self (c := ⟨[.int .i64 (lg L 0), .int .i64 (lg (trn L []) 0), .pointer (some ⟨t1, 0, none⟩), .pointer (some ⟨t2, 0, none⟩)], 69, .tip, 0 + 1, []⟩) g7
  have x58 : Ext H5 H8 := by rw [hH8]; exact Ext.upd x57 g7 (Nat.le_refl _)
  rw [← hH8] at hS8 g8
  have x18 := (x2.trans x3).trans (x35.trans x58)
  simp only [WA, isStore, isCall, isK, freshI, stampO, List.nil_append, Option.map_some, Option.map_none, Option.bind_some, List.map_cons, List.map_nil, if_true, if_false, Nat.reduceEqDiff, Int.reduceEq, Nat.reduceAdd, Nat.reduceMul, reduceCtorEq, eq_self, Int.reduceLT, Int.reduceLE, Int.reduceToNat, List.length_cons, List.length_nil, List.all_cons, List.all_nil, List.take_zero, List.drop_nil, List.append_nil, List.getElem?_cons_zero, List.getElem?_cons_succ, List.drop_succ_cons, List.drop_zero, List.take_succ_cons, List.cons_append, Nat.reduceLeDiff, Int.cast_ofNat_Int, c1, z, c2, c3, c4, c5, v_table, hbx, c7, g7, ← hH8]
  exact ⟨x1.trans x18, _, rfl, _, t1, t2, g8, hT1.ext x18, trn_right hR, by omega, N2, vr2, hS8.at, hS8.rules (by simp; omega), hF2, hRF2, hρ2⟩
end Go.Proofs.Ytgonfmpmdahmcaa

/-! Tokens by a table: whether units would be read with others; writing. -/
set_option linter.unusedSimpArgs false
set_option linter.unusedVariables false
namespace Go.Proofs.Ytgonfmpmdahmcaa
open Go Lon
set_option maxRecDepth 100000
theorem c_CloneO {a : Value} {l : List Int} {H : AHeap} (ha : Ints H a l) (hs : small l) (h0 : l ≠ []) : Gives (cw Try.prog (tabF tab) om1 46 [a] H) fun v H' => Ext H H' ∧ Own H' 3 1 v l.length (ints l) ∧ From H.n v := by
  rw [cw_run (F := F_slices_Clone___int_int_) rfl rfl rfl]
  unfold F_slices_Clone___int_int_ k_slices_Clone___int_int_
  obtain ⟨v', H', q1, q2, q3, q4⟩ := app_cloneO (el := 3) ha hs h0
  have hb : vBslice 3 0 1 [.int .i64 0] [] H = some (.slice (some ⟨H.n, 0, none⟩) 0 1, H.push ⟨[], 3, .tip, 0, []⟩) := rfl
  have hpos := List.length_pos_iff.2 h0
  obtain ⟨i, o, c, cells, el, st, ver, anc, rfl, _⟩ := Sl.form ha (by omega)
  have hn : vIsNil 1 false (.slice (some ⟨i, o, none⟩) l.length c) H = some (.bool false, H) := rfl
  simp only [WA, isStore, isCall, isK, freshI, stampO, List.nil_append, Option.map_some, Option.map_none, Option.bind_some, List.map_cons, List.map_nil, if_true, if_false, Nat.reduceEqDiff, Int.reduceEq, Nat.reduceAdd, Nat.reduceMul, reduceCtorEq, eq_self, Int.reduceLT, Int.reduceLE, Int.reduceToNat, List.length_cons, List.length_nil, List.all_cons, List.all_nil, List.take_zero, List.drop_nil, List.append_nil, List.getElem?_cons_zero, List.getElem?_cons_succ, List.drop_succ_cons, List.drop_zero, List.take_succ_cons, List.cons_append, Nat.reduceLeDiff, Int.cast_ofNat_Int, hn, hb, q1]
  exact ⟨q2, q3, q4⟩
/-- Whether units that stand behind others would be read with them. -/
def joinsF (L : List Rl) (ah us : List Int) : Bool := decide (ah ≠ []) && decide (ah.length < (lgs L (ah ++ us)).2.1)
theorem c_Joins {q : Nat} {L : List Rl} {a b : Value} {ah us : List Int} {H : AHeap} (hT : TableOk H q L) (ha : Ints H a ah) (hb : Ints H b us) (h1 : ah.length < 1000000) (h2 : us.length < 1000000) :
    Gives (cw Try.prog (tabF tab) om1 21 [.pointer (some ⟨q, 0, none⟩), a, b] H) fun v H' => Ext H H' ∧ v = .bool (joinsF L ah us) := by
  rw [cw_run (F := F_table_Table__Joins) rfl rfl rfl]
  unfold F_table_Table__Joins k_table_Table__Joins
  obtain ⟨ver, t1, t2, hq, hT1, hT2⟩ := hT.rest
  have hla := fun H2 => ha.len (H2 := H2)
  unfold joinsF
  by_cases h0 : ah = []
  · subst h0
    have z : ((((([] : List Int).length : Nat)) : Int) = 0) = True := by simp
    simp only [WA, isStore, isCall, isK, freshI, stampO, List.nil_append, Option.map_some, Option.map_none, Option.bind_some, List.map_cons, List.map_nil, if_true, if_false, Nat.reduceEqDiff, Int.reduceEq, Nat.reduceAdd, Nat.reduceMul, reduceCtorEq, eq_self, Int.reduceLT, Int.reduceLE, Int.reduceToNat, List.length_cons, List.length_nil, List.all_cons, List.all_nil, List.take_zero, List.drop_nil, List.append_nil, List.getElem?_cons_zero, List.getElem?_cons_succ, List.drop_succ_cons, List.drop_zero, List.take_succ_cons, List.cons_append, Nat.reduceLeDiff, Int.cast_ofNat_Int, hla, z]
    exact ⟨Ext.refl _, by simp⟩
  · have hpos := List.length_pos_iff.2 h0
    have z : ((ah.length : Int) = 0) = False := by simp only [eq_iff_iff, iff_false]; omega
    obtain ⟨v1, H1, c1, x1, o1, f1⟩ := c_CloneO ha (by unfold small; omega) h0
    have app : ∃ v2 H2, appendA H1 v1 b 3 1 8 = some (v2, H2) ∧ Ints H2 v2 (ah ++ us) ∧ Ext H H2 := by
      by_cases hu : us = []
      · subst hu
        refine ⟨v1, H1, ?_, by rw [List.append_nil]; exact o1.sl, x1⟩
        obtain ⟨⟨b1, b2, rfl⟩, hbc⟩ := hb.ext x1
        obtain ⟨⟨d1, d2, rfl⟩, hdc⟩ := o1.sl
        unfold appendA
        simp only [hbc, hdc]
        exact if_pos List.length_nil
      · obtain ⟨v2, H2, q1, q2, q3, q4, q5, q6⟩ := o1.append2 (bytes := 8) (hb.ext x1) (List.length_pos_iff.2 hu) (ones_ints us) (by omega)
        refine ⟨v2, H2, q1, ?_, Ext.grow x1 q5 q6 f1⟩
        unfold Ints
        rw [List.length_append]
        have := q2.sl
        simpa [ints] using this
    obtain ⟨v2, H2, m1, i2, x2⟩ := app
    have cL := c_LongT (hT1.ext x2) i2 (by unfold Lon.tiny; rw [List.length_append]; omega)
    have hq2 := x2.get hq
    by_cases hg : ah.length < (lgs L (ah ++ us)).2.1
    · have hg' : ((lgs L (ah ++ us)).2.1 : Int) > (ah.length : Int) := by omega
      simp only [WA, isStore, isCall, isK, freshI, stampO, List.nil_append, Option.map_some, Option.map_none, Option.bind_some, List.map_cons, List.map_nil, if_true, if_false, Nat.reduceEqDiff, Int.reduceEq, Nat.reduceAdd, Nat.reduceMul, reduceCtorEq, eq_self, Int.reduceLT, Int.reduceLE, Int.reduceToNat, List.length_cons, List.length_nil, List.all_cons, List.all_nil, List.take_zero, List.drop_nil, List.append_nil, List.getElem?_cons_zero, List.getElem?_cons_succ, List.drop_succ_cons, List.drop_zero, List.take_succ_cons, List.cons_append, Nat.reduceLeDiff, Int.cast_ofNat_Int, hla, z, hq, c1, m1, cL, hq2, hg']
      exact ⟨x2, by simp [h0, hg]⟩
    · have hg' : ¬ ((lgs L (ah ++ us)).2.1 : Int) > (ah.length : Int) := by omega
      simp only [WA, isStore, isCall, isK, freshI, stampO, List.nil_append, Option.map_some, Option.map_none, Option.bind_some, List.map_cons, List.map_nil, if_true, if_false, Nat.reduceEqDiff, Int.reduceEq, Nat.reduceAdd, Nat.reduceMul, reduceCtorEq, eq_self, Int.reduceLT, Int.reduceLE, Int.reduceToNat, List.length_cons, List.length_nil, List.all_cons, List.all_nil, List.take_zero, List.drop_nil, List.append_nil, List.getElem?_cons_zero, List.getElem?_cons_succ, List.drop_succ_cons, List.drop_zero, List.take_succ_cons, List.cons_append, Nat.reduceLeDiff, Int.cast_ofNat_Int, hla, z, hq, c1, m1, cL, hq2, hg']
      exact ⟨x2, by simp [h0, hg]⟩
/-- A token behind what stands ahead. -/
def joinT (L : List Rl) (ah : List Int) (x : Tok) : Tok := if x.err = 0 ∧ joinsF L ah x.out = true then ⟨x.at_, x.len, [], 3⟩ else x
theorem c_Join {q : Nat} {L : List Rl} {a : Value} {ah : List Int} {x : Tok} {p : Option Addr} {c : Nat} {H : AHeap} (hT : TableOk H q L) (ha : Ints H a ah) (hx : tokQ Try.prog H (tokC p c x) x) (h1 : ah.length < 1000000) (h2 : x.out.length < 1000000) :
    Gives (cw Try.prog (tabF tab) om1 23 [.pointer (some ⟨q, 0, none⟩), a, .agg ⟨tokC p c x⟩] H) fun v H' => Ext H H' ∧ ∃ p' c', v = .agg ⟨tokC p' c' (joinT L ah x)⟩ ∧ tokQ Try.prog H' (tokC p' c' (joinT L ah x)) (joinT L ah x) := by
  rw [cw_run (F := F_table_Table__Join) rfl rfl rfl]
  unfold F_table_Table__Join k_table_Table__Join
  obtain ⟨H1, hH1⟩ : ∃ H1, H1 = H.push ⟨tokC p c x, 41, .tip, 0, []⟩ := ⟨_, rfl⟩
  have x1 : Ext H H1 := by rw [hH1]; exact Ext.push H _
  have g1 : H1.get H.n = some ⟨tokC p c x, 41, .tip, 0, []⟩ := by rw [hH1]; exact get_push_self
  have n1 : H1.n = H.n + 1 := by rw [hH1]; simp
  have hbx : vBox (.agg ⟨tokC p c x⟩) 41 H = some (.pointer (some ⟨H.n, 0, none⟩), H1) := by rw [hH1]; exact v_box rfl
  obtain ⟨H2, hH2⟩ : ∃ H2, H2 = H1.push ⟨[.int .i64 0, .int .i64 0, .slice none 0 0, .int .i64 0], 41, .tip, 0, []⟩ := ⟨_, rfl⟩
  have x2 : Ext H1 H2 := by rw [hH2]; exact Ext.push H1 _
  have g2 : H2.get H1.n = some ⟨[.int .i64 0, .int .i64 0, .slice none 0 0, .int .i64 0], 41, .tip, 0, []⟩ := by rw [hH2]; exact get_push_self
  have x12 := x1.trans x2
  have g12 := x2.get g1
  have hnn : H.n ≠ H1.n := by omega
  obtain ⟨p0, c0, e1, e2, e3, e4⟩ := id hx
  have e1' := e1
  unfold tokC at e1'
  injection e1' with _ e1'
  injection e1' with _ e1'
  injection e1' with e1' _
  injection e1' with e1' _ e5
  subst e1' e5
  by_cases h0 : x.err = 0
  · have h0' : (x.err = 0) = True := eq_true h0
    obtain ⟨v3, H3, c3, x3, rfl⟩ := c_Joins (hT.ext x12) (ha.ext x12) (e2.ext x12) h1 h2
    have g3 := x3.get g2
    have g13 := x3.get g12
    have x03 := x12.trans x3
    cases hj : joinsF L ah x.out with
    | true =>
      rw [hj] at c3
      obtain ⟨u, hu⟩ : ∃ u : Tok, u = ⟨x.at_, x.len, [], 3⟩ := ⟨_, rfl⟩
      have hb : vBuild [.int .i64 0, .int .i64 0, .slice none 0 0, .int .i64 0] [(0, 1, .int .i64 x.at_), (1, 1, .int .i64 x.len), (3, 1, .int .i64 3)] H3 = some (.agg ⟨tokC none 0 u⟩, H3) := by rw [hu]; rfl
      have hs := upd_self (c := ⟨tokC none 0 u, 41, .tip, 0 + 1, []⟩) g3
      have hJ : joinT L ah x = u := by unfold joinT; rw [if_pos ⟨h0, hj⟩, hu]
      rw [hJ]
      simp only [WA, isStore, isCall, isK, freshI, stampO, List.nil_append, Option.map_some, Option.map_none, Option.bind_some, List.map_cons, List.map_nil, if_true, if_false, Nat.reduceEqDiff, Int.reduceEq, Nat.reduceAdd, Nat.reduceMul, reduceCtorEq, eq_self, Int.reduceLT, Int.reduceLE, Int.reduceToNat, List.length_cons, List.length_nil, List.all_cons, List.all_nil, List.take_zero, List.drop_nil, List.append_nil, List.getElem?_cons_zero, List.getElem?_cons_succ, List.drop_succ_cons, List.drop_zero, List.take_succ_cons, List.cons_append, Nat.reduceLeDiff, Int.cast_ofNat_Int, hbx, ← hH2, g12, tk0, tk1, tk2, tk3, h0', c3, g13, hb, g3, got_tok, ress_cell, rd_load, hs, ld_tok]
      exact ⟨Ext.upd x03 g3 (by omega), none, 0, rfl, none, 0, by rw [hu]; rfl, by rw [hu]; exact Sl.nil _ 1, by rw [hu]; exact (by decide : (0 : Nat) < 4611686018427387904), by rw [hu]; trivial⟩
    | false =>
      rw [hj] at c3
      have hJ : joinT L ah x = x := by unfold joinT; rw [if_neg (fun h => by rw [hj] at h; cases h.2)]
      rw [hJ]
      have hs := upd_self (c := ⟨tokC p c x, 41, .tip, 0 + 1, []⟩) g3
      simp only [WA, isStore, isCall, isK, freshI, stampO, List.nil_append, Option.map_some, Option.map_none, Option.bind_some, List.map_cons, List.map_nil, if_true, if_false, Nat.reduceEqDiff, Int.reduceEq, Nat.reduceAdd, Nat.reduceMul, reduceCtorEq, eq_self, Int.reduceLT, Int.reduceLE, Int.reduceToNat, List.length_cons, List.length_nil, List.all_cons, List.all_nil, List.take_zero, List.drop_nil, List.append_nil, List.getElem?_cons_zero, List.getElem?_cons_succ, List.drop_succ_cons, List.drop_zero, List.take_succ_cons, List.cons_append, Nat.reduceLeDiff, Int.cast_ofNat_Int, hbx, ← hH2, g12, tk0, tk1, tk2, tk3, h0', c3, g13, g3, got_tok, ress_cell, rd_load, hs, ld_tok]
      exact ⟨Ext.upd x03 g3 (by omega), p, c, rfl, p, c, rfl, Ints.upd e2 x03 g3 (by omega), e3, (e4.ext x03).upd g3 rfl⟩
  · have h0' : (x.err = 0) = False := eq_false h0
    have hJ : joinT L ah x = x := by unfold joinT; rw [if_neg (fun h => h0 h.1)]
    rw [hJ]
    have hs := upd_self (c := ⟨tokC p c x, 41, .tip, 0 + 1, []⟩) g2
    simp only [WA, isStore, isCall, isK, freshI, stampO, List.nil_append, Option.map_some, Option.map_none, Option.bind_some, List.map_cons, List.map_nil, if_true, if_false, Nat.reduceEqDiff, Int.reduceEq, Nat.reduceAdd, Nat.reduceMul, reduceCtorEq, eq_self, Int.reduceLT, Int.reduceLE, Int.reduceToNat, List.length_cons, List.length_nil, List.all_cons, List.all_nil, List.take_zero, List.drop_nil, List.append_nil, List.getElem?_cons_zero, List.getElem?_cons_succ, List.drop_succ_cons, List.drop_zero, List.take_succ_cons, List.cons_append, Nat.reduceLeDiff, Int.cast_ofNat_Int, hbx, ← hH2, g12, tk0, tk1, tk2, tk3, h0', g2, got_tok, ress_cell, rd_load, hs, ld_tok]
    exact ⟨Ext.upd x12 g2 (by omega), p, c, rfl, p, c, rfl, Ints.upd e2 x12 g2 (by omega), e3, (e4.ext x12).upd g2 rfl⟩
end Go.Proofs.Ytgonfmpmdahmcaa

/-! Writing by a table: the program's way, and the document's. -/
set_option linter.unusedSimpArgs false
set_option linter.unusedVariables false
namespace Go.Proofs.Ytgonfmpmdahmcaa
open Go Lon
set_option maxRecDepth 100000
theorem hel4 : (Try.prog.info? 41).map (·.size) = some 4 := by kernel_rfl
theorem hQtok (H : AHeap) : ∀ (H' : AHeap) (row : List Value) (r : Tok), (∀ j blk, H.get j = some blk → blk.elem ≠ 41 → H'.get j = some blk) → tokQ Try.prog H row r → tokQ Try.prog H' row r := fun H' row r hk h => tokQ_elem hel4 (by decide) hk h
theorem tokQ_cells {H : AHeap} {x : Tok} {p : Option Addr} {c : Nat} (h : tokQ Try.prog H (tokC p c x) x) : Ints H (.slice p x.out.length c) x.out ∧ tiny x.out ∧ Cut Try.prog H (.slice p x.out.length c) 1 := by
  obtain ⟨p0, c0, e1, e2, e3, e4⟩ := h
  unfold tokC at e1
  injection e1 with _ e1
  injection e1 with _ e1
  injection e1 with e1 _
  injection e1 with e1 _ e5
  subst e1 e5
  exact ⟨e2, e3, e4⟩
theorem c_Decode {q : Nat} {L : List Rl} {b : Value} {us : List Int} {H : AHeap} (hT : TableOk H q L) (hb : Ints H b us) (hC : Cut Try.prog H b 1) (hs : us.length < 1000000) :
    Gives (cw Try.prog (tabF tab) om1 25 [.pointer (some ⟨q, 0, none⟩), b] H) fun v H' => Ext H H' ∧ OwnToks Try.prog H' 41 v (allU L us 0) ∧ From H.n v := by
  rw [cw_run (F := F_table_Table__Decode) rfl rfl rfl]
  unfold F_table_Table__Decode k_table_Table__Decode
  obtain ⟨ver, t1, t2, hq, hT1, hT2⟩ := hT.rest
  obtain ⟨v, H1, c1, x1, o1, f1, _⟩ := c_AllR hT1 hb hC hs
  simp only [WA, isStore, isCall, isK, freshI, stampO, List.nil_append, Option.map_some, Option.map_none, Option.bind_some, List.map_cons, List.map_nil, if_true, if_false, Nat.reduceEqDiff, Int.reduceEq, Nat.reduceAdd, Nat.reduceMul, reduceCtorEq, eq_self, Int.reduceLT, Int.reduceLE, Int.reduceToNat, List.length_cons, List.length_nil, List.all_cons, List.all_nil, List.take_zero, List.drop_nil, List.append_nil, List.getElem?_cons_zero, List.getElem?_cons_succ, List.drop_succ_cons, List.drop_zero, List.take_succ_cons, List.cons_append, Nat.reduceLeDiff, Int.cast_ofNat_Int, hq, c1]
  exact ⟨x1, o1, f1⟩
/-- Tokens behind one another, as they are written. -/
def encF (L : List Rl) : List Int → List Tok → List Tok
  | _, [] => []
  | ah, x :: xs => joinT L ah x :: encF L (if (joinT L ah x).err = 0 then x.out else ah) xs
theorem joinT_out {L : List Rl} {ah : List Int} {x : Tok} (h : (joinT L ah x).err = 0) : joinT L ah x = x := by
  unfold joinT at h ⊢
  split
  · rename_i h1; rw [if_pos h1] at h; cases h
  · rfl
theorem set_mid {α : Type} {A B : List α} {x y : α} : (A ++ x :: B).set A.length y = A ++ y :: B := by
  rw [List.set_append, if_neg (by omega), Nat.sub_self, List.set_cons_zero]
theorem l_Enc {H0 : AHeap} {q : Nat} {L : List Rl} {out : Value} {X : List Tok} (hT : TableOk H0 q L) (hX : ∀ x ∈ X, x.out.length ≤ 8) : ∀ (c k : Nat) (H : AHeap) (va : Value) (ah : List Int) (D : List Tok), k + c = X.length → D.length = k → Ext H0 H → OwnToks Try.prog H 41 out (D ++ X.drop k) → From H0.n out → AncB H0.n H 41 out → Ints H va ah → Cut Try.prog H va 1 → ah.length ≤ 8 →
    Out (run Try.prog (tabF tab) om1 (.loop [0, 5, 6, 15, 16, 17] b_table_Table__Encode_0) [(0, .pointer (some ⟨q, 0, none⟩)), (5, va), (6, out), (15, out), (16, .int .i64 X.length), (17, .int .i64 k)] H) fun y e' H' => y = .exit 0 ∧ eget e' 6 = out ∧ Ext H0 H' ∧ OwnToks Try.prog H' 41 out (D ++ encF L ah (X.drop k)) := by
  intro c
  induction c with
  | zero =>
    intro k H va ah D hk hD hx ho hf hA hva hvc ha8
    have hlt : ¬ ((k : Int) < X.length) := by omega
    rw [w_loop_b b_table_Table__Encode_0.eq_1]
    rw [List.drop_of_length_le (by omega)] at ho ⊢
    simp only [WA, isStore, isCall, isK, freshI, stampO, List.nil_append, Option.map_some, Option.map_none, Option.bind_some, List.map_cons, List.map_nil, if_true, if_false, Nat.reduceEqDiff, Int.reduceEq, Nat.reduceAdd, Nat.reduceMul, reduceCtorEq, eq_self, Int.reduceLT, Int.reduceLE, Int.reduceToNat, List.length_cons, List.length_nil, List.all_cons, List.all_nil, List.take_zero, List.drop_nil, List.append_nil, List.getElem?_cons_zero, List.getElem?_cons_succ, List.drop_succ_cons, List.drop_zero, List.take_succ_cons, List.cons_append, Nat.reduceLeDiff, Int.cast_ofNat_Int, hlt, encF]
    rw [List.append_nil] at ho
    exact ⟨hx, ho⟩
  | succ c ih =>
    intro k H va ah D hk hD hx ho hf hA hva hvc ha8
    have hol := ho.1
    rw [List.length_append, List.length_drop] at hol
    have hlt : (k : Int) < X.length := by omega
    obtain ⟨x, hxk, hdx⟩ := drop_at (L := X) (i := k) (by omega)
    have hx8 := hX x (List.mem_of_getElem? hxk)
    rw [hdx] at ho ⊢
    have hgk : (D ++ x :: X.drop (k + 1))[k]? = some x := by rw [List.getElem?_append_right (by omega), hD, Nat.sub_self]; rfl
    obtain ⟨i1, o1, p, cc, a1, a2, a3, a4, a5, a6, a7, a8, a9⟩ := Toks.at' ho.rws hgk
    obtain ⟨H1, hH1⟩ : ∃ H1, H1 = H.push ⟨tokC p cc x, 41, .tip, 1, []⟩ := ⟨_, rfl⟩
    have x1 : Ext H H1 := by rw [hH1]; exact Ext.push H _
    have g1 : H1.get H.n = some ⟨tokC p cc x, 41, .tip, 1, []⟩ := by rw [hH1]; exact get_push_self
    obtain ⟨v, H2, c2, x2, p', c', rfl, t2⟩ := c_Join ((hT.ext hx).ext x1) (hva.ext x1) ⟨p, cc, rfl, a7.ext x1, a8, a9.ext x1⟩ (by omega) (by omega)
    have x12 := x1.trans x2
    have g2 := x2.get g1
    obtain ⟨b, b1, H3, b2, b3, b4, b5, b6, b7, b8, b9, b10⟩ := (ho.ext tokQ_mono x12).storeRow hf (hA.ext x12) hgk (by decide) (new := tokC p' c' (joinT L ah x)) rfl tokC_one (hQtok H2)
    have hq := b10 (joinT L ah x) (hQtok H2 H3 _ _ b5 t2)
    have hsame := (a1 .i64 H).symm.trans (b1 .i64 H)
    injection hsame with hsame
    injection hsame with hsame _
    injection hsame with hsame
    injection hsame with hsame
    injection hsame with hs1 hs2 _
    subst hs1 hs2
    have hset : (D ++ x :: X.drop (k + 1)).set k (joinT L ah x) = (D ++ [joinT L ah x]) ++ X.drop (k + 1) := by
      rw [← hD, set_mid]; simp
    rw [hset] at hq
    have x3 : Ext H0 H3 := ⟨by rw [b3]; exact (hx.trans x12).1, fun j hj => by rw [b4 j hj, (hx.trans x12).2 j hj]⟩
    have g3 : H3.get H.n = some ⟨tokC p cc x, 41, .tip, 1, []⟩ := by rw [b6 H.n H.n ho.upto (Nat.le_refl _)]; exact g2
    have b9' := b9 3 _ tk3
    have hw2 : IntKind.i64.wrap ((k : Int) + 1) = ((k + 1 : Nat) : Int) := by rw [wrap64 (by omega) (by omega)]; omega
    rw [w_loop_b b_table_Table__Encode_0.eq_1]
    unfold encF
    by_cases he : (joinT L ah x).err = 0
    · have hj := joinT_out he
      have he' : ((joinT L ah x).err = 0) = True := eq_true he
      rw [if_pos he]
      obtain ⟨e2, e3, e4⟩ := tokQ_cells t2
      obtain ⟨u1, u2⟩ := (a7.ext x12).elem (P := Try.prog) (a9.ext x12) hel4 (by decide) b5
      obtain ⟨y, e', H', r1, r2, r3, r4, r5⟩ := ih (k + 1) H3 (.slice p x.out.length cc) x.out (D ++ [joinT L ah x]) (by omega) (by simp; omega) x3 hq hf b7 u1 u2 hx8
      rw [List.append_assoc] at r5
      simp only [WA, isStore, isCall, isK, freshI, stampO, List.nil_append, Option.map_some, Option.map_none, Option.bind_some, List.map_cons, List.map_nil, if_true, if_false, Nat.reduceEqDiff, Int.reduceEq, Nat.reduceAdd, Nat.reduceMul, reduceCtorEq, eq_self, Int.reduceLT, Int.reduceLE, Int.reduceToNat, List.length_cons, List.length_nil, List.all_cons, List.all_nil, List.take_zero, List.drop_nil, List.append_nil, List.getElem?_cons_zero, List.getElem?_cons_succ, List.drop_succ_cons, List.drop_zero, List.take_succ_cons, List.cons_append, Nat.reduceLeDiff, Int.cast_ofNat_Int, hlt, a1, a6, got_tok, ← hH1, g1, ld_tok, c2, b1, b2, b9', he', g3, tk2, hw2]
      rw [w_enter]
      simp only [WA, isStore, isCall, isK, freshI, stampO, List.nil_append, Option.map_some, Option.map_none, Option.bind_some, List.map_cons, List.map_nil, if_true, if_false, Nat.reduceEqDiff, Int.reduceEq, Nat.reduceAdd, Nat.reduceMul, reduceCtorEq, eq_self, Int.reduceLT, Int.reduceLE, Int.reduceToNat, List.length_cons, List.length_nil, List.all_cons, List.all_nil, List.take_zero, List.drop_nil, List.append_nil, List.getElem?_cons_zero, List.getElem?_cons_succ, List.drop_succ_cons, List.drop_zero, List.take_succ_cons, List.cons_append, Nat.reduceLeDiff, Int.cast_ofNat_Int, r1]
      exact ⟨r2, r3, r4, r5⟩
    · have he' : ((joinT L ah x).err = 0) = False := eq_false he
      rw [if_neg he]
      obtain ⟨u1, u2⟩ := (hva.ext x12).elem (P := Try.prog) (hvc.ext x12) hel4 (by decide) b5
      obtain ⟨y, e', H', r1, r2, r3, r4, r5⟩ := ih (k + 1) H3 va ah (D ++ [joinT L ah x]) (by omega) (by simp; omega) x3 hq hf b7 u1 u2 ha8
      rw [List.append_assoc] at r5
      simp only [WA, isStore, isCall, isK, freshI, stampO, List.nil_append, Option.map_some, Option.map_none, Option.bind_some, List.map_cons, List.map_nil, if_true, if_false, Nat.reduceEqDiff, Int.reduceEq, Nat.reduceAdd, Nat.reduceMul, reduceCtorEq, eq_self, Int.reduceLT, Int.reduceLE, Int.reduceToNat, List.length_cons, List.length_nil, List.all_cons, List.all_nil, List.take_zero, List.drop_nil, List.append_nil, List.getElem?_cons_zero, List.getElem?_cons_succ, List.drop_succ_cons, List.drop_zero, List.take_succ_cons, List.cons_append, Nat.reduceLeDiff, Int.cast_ofNat_Int, hlt, a1, a6, got_tok, ← hH1, g1, ld_tok, c2, b1, b2, b9', he', hw2]
      rw [w_enter]
      simp only [WA, isStore, isCall, isK, freshI, stampO, List.nil_append, Option.map_some, Option.map_none, Option.bind_some, List.map_cons, List.map_nil, if_true, if_false, Nat.reduceEqDiff, Int.reduceEq, Nat.reduceAdd, Nat.reduceMul, reduceCtorEq, eq_self, Int.reduceLT, Int.reduceLE, Int.reduceToNat, List.length_cons, List.length_nil, List.all_cons, List.all_nil, List.take_zero, List.drop_nil, List.append_nil, List.getElem?_cons_zero, List.getElem?_cons_succ, List.drop_succ_cons, List.drop_zero, List.take_succ_cons, List.cons_append, Nat.reduceLeDiff, Int.cast_ofNat_Int, r1]
      exact ⟨r2, r3, r4, r5⟩
theorem allU_outs {L : List Rl} (hR : Right L) : ∀ (c : Nat) (us : List Int) (a : Int), us.length ≤ c → ∀ x ∈ allU L us a, x.out.length ≤ 8 := by
  intro c
  induction c with
  | zero =>
    intro us a h x hx
    have : us = [] := List.length_eq_zero_iff.1 (by omega)
    subst this
    cases hx
  | succ c ih =>
    intro us a h x hx
    by_cases hn : us = []
    · subst hn; cases hx
    · obtain ⟨n, e, n1, n2⟩ := oneT_len hR hn a
      rw [allU_cons hR hn, e] at hx
      rcases List.mem_cons.1 hx with rfl | hx
      · exact oneT_out hR
      · exact ih _ _ (by rw [List.length_drop, Int.toNat_natCast]; omega) x hx
/-- What units are written as. -/
def encU (L : List Rl) (us : List Int) : List Tok := encF L [] (allU (trn L []) us 0)
theorem c_Enc {q : Nat} {L : List Rl} {b : Value} {us : List Int} {H : AHeap} (hT : TableOk H q L) (hb : Ints H b us) (hC : Cut Try.prog H b 1) (hs : us.length < 1000000) :
    Gives (cw Try.prog (tabF tab) om1 18 [.pointer (some ⟨q, 0, none⟩), b] H) fun v H' => Ext H H' ∧ OwnToks Try.prog H' 41 v (encU L us) ∧ From H.n v := by
  rw [cw_run (F := F_table_Table__Encode) rfl rfl rfl]
  unfold F_table_Table__Encode k_table_Table__Encode
  obtain ⟨ver, t1, t2, hq, hT1, hT2⟩ := hT.rest
  obtain ⟨v, H1, c1, x1, o1, f1, A1⟩ := c_AllR hT2 hb hC hs
  have hl := o1.rws.len (H2 := H1)
  obtain ⟨y, e', H', r1, rfl, r2, r3, r4⟩ := l_Enc (X := allU (trn L []) us 0) hT (allU_outs hT2.right us.length us 0 (Nat.le_refl _)) (allU (trn L []) us 0).length 0 H1 (.slice none 0 0) [] [] (by omega) rfl x1 o1 f1 A1 (Sl.nil _ 1) trivial (Nat.zero_le _)
  rw [List.drop_zero, List.nil_append] at r4
  simp only [Int.cast_ofNat_Int] at r1
  simp only [WA, isStore, isCall, isK, freshI, stampO, List.nil_append, Option.map_some, Option.map_none, Option.bind_some, List.map_cons, List.map_nil, if_true, if_false, Nat.reduceEqDiff, Int.reduceEq, Nat.reduceAdd, Nat.reduceMul, reduceCtorEq, eq_self, Int.reduceLT, Int.reduceLE, Int.reduceToNat, List.length_cons, List.length_nil, List.all_cons, List.all_nil, List.take_zero, List.drop_nil, List.append_nil, List.getElem?_cons_zero, List.getElem?_cons_succ, List.drop_succ_cons, List.drop_zero, List.take_succ_cons, List.cons_append, Nat.reduceLeDiff, Int.cast_ofNat_Int, hq, c1, hl]
  rw [w_enter]
  simp only [WA, isStore, isCall, isK, freshI, stampO, List.nil_append, Option.map_some, Option.map_none, Option.bind_some, List.map_cons, List.map_nil, if_true, if_false, Nat.reduceEqDiff, Int.reduceEq, Nat.reduceAdd, Nat.reduceMul, reduceCtorEq, eq_self, Int.reduceLT, Int.reduceLE, Int.reduceToNat, List.length_cons, List.length_nil, List.all_cons, List.all_nil, List.take_zero, List.drop_nil, List.append_nil, List.getElem?_cons_zero, List.getElem?_cons_succ, List.drop_succ_cons, List.drop_zero, List.take_succ_cons, List.cons_append, Nat.reduceLeDiff, Int.cast_ofNat_Int, r1, r2]
  exact ⟨r3, r4, f1⟩
end Go.Proofs.Ytgonfmpmdahmcaa

/-! Writing by a table: the document's loops. -/
set_option linter.unusedSimpArgs false
set_option linter.unusedVariables false
namespace Go.Proofs.Ytgonfmpmdahmcaa
open Go Lon
set_option maxRecDepth 100000
def joinC (ah us : List Int) (r : Rl) : Bool := decide (0 < ah.length) && (decide (ah.length < r.1.length) && (decide (r.1.length ≤ (ah ++ us).length) && decide (r.1 = (ah ++ us).take r.1.length)))
theorem joins_same {L : List Rl} (hR : Right L) {ah us : List Int} : (L.any (joinC ah us)) = joinsF L ah us := by
  rw [Bool.eq_iff_iff]
  unfold joinC joinsF
  simp only [List.any_eq_true, Bool.and_eq_true, decide_eq_true_eq]
  obtain ⟨⟨p1, p2, p3, p4⟩, _⟩ := lgs_pre hR (ah ++ us)
  constructor
  · rintro ⟨r, hr, h1, h2, h3, h4⟩
    refine ⟨fun e => by rw [e] at h1; simp at h1, ?_⟩
    rcases Nat.lt_or_ge ah.length (lgs L (ah ++ us)).2.1 with h | h
    · exact h
    · have := p4 r.1.length (by omega) h3
      rw [← h4, fnd_neg] at this
      exact absurd rfl (this r hr)
  · rintro ⟨h1, h2⟩
    obtain ⟨q1, q2⟩ := p3 (by omega)
    rw [q1] at q2
    obtain ⟨r, h3, h4⟩ := fnd_some q2
    have hl : r.1.length = (lgs L (ah ++ us)).2.1 := by rw [h4, List.length_take]; omega
    exact ⟨r, List.mem_of_getElem? h3, List.length_pos_iff.2 h1, by omega, by omega, by rw [hl]; exact h4⟩
theorem l_JD {x b all : Value} {L : List Rl} {ah us : List Int} (h1 : ah.length < 1000000) (h2 : us.length < 1000000) : ∀ (c i : Nat) (H : AHeap), i + c = L.length → Rules H x L → CutR H x → Ints H b ah → Ints H all (ah ++ us) → Cut Try.prog H all 1 →
    Out (run Try.prog (tabF tab) om1 (.loop [1, 7, 14, 15, 16] b_lontarlaw15_Joins_0) [(1, b), (7, all), (14, x), (15, .int .i64 L.length), (16, .int .i64 i)] H) fun y e' H' => Ext H H' ∧ if (L.drop i).any (joinC ah us) = true then y = .ret ∧ eget e' 6 = .bool true else y = .exit 0 := by
  intro c
  induction c with
  | zero =>
    intro i H hi ha hac hb hall hC
    have hlt : ¬ ((i : Int) < L.length) := by omega
    rw [w_loop_b b_lontarlaw15_Joins_0.eq_1, List.drop_of_length_le (by omega)]
    simp only [WA, isStore, isCall, isK, freshI, stampO, List.nil_append, Option.map_some, Option.map_none, Option.bind_some, List.map_cons, List.map_nil, if_true, if_false, Nat.reduceEqDiff, Int.reduceEq, Nat.reduceAdd, Nat.reduceMul, reduceCtorEq, eq_self, Int.reduceLT, Int.reduceLE, Int.reduceToNat, List.length_cons, List.length_nil, List.all_cons, List.all_nil, List.take_zero, List.drop_nil, List.append_nil, List.getElem?_cons_zero, List.getElem?_cons_succ, List.drop_succ_cons, List.drop_zero, List.take_succ_cons, List.cons_append, Nat.reduceLeDiff, Int.cast_ofNat_Int, hlt, List.any_nil, Bool.false_eq_true]
    exact Ext.refl _
  | succ c ih =>
    intro i H hi ha hac hb hall hC
    have hL := ha.1
    have hlt : (i : Int) < L.length := by omega
    obtain ⟨r, hr, hdr⟩ := drop_at (L := L) (i := i) (by omega)
    obtain ⟨i1, o1, vi, vo, e1, e2, e3, e4, e5, e6, e7, e8, e9, e10⟩ := Rules.atC ha hac hr
    have e5' := e5
    have e6' := e6
    obtain ⟨⟨ai, ci, rfl⟩, _⟩ := e5'
    obtain ⟨⟨ao, co, rfl⟩, _⟩ := e6'
    obtain ⟨H1, hH1⟩ : ∃ H1, H1 = H.push ⟨[.slice ai r.1.length ci, .slice ao r.2.length co], 46, .tip, 1, []⟩ := ⟨_, rfl⟩
    have x1 : Ext H H1 := by rw [hH1]; exact Ext.push H _
    have g1 : H1.get H.n = some ⟨[.slice ai r.1.length ci, .slice ao r.2.length co], 46, .tip, 1, []⟩ := by rw [hH1]; exact get_push_self
    have hlb := fun H2 => hb.len (H2 := H2)
    have hlall := fun H2 => hall.len (H2 := H2)
    have hlr : ∀ H2 : AHeap, vLen false (.slice ai r.1.length ci) H2 = some (.int .i64 r.1.length, H2) := fun H2 => Sl.len e5
    have hw2 : IntKind.i64.wrap ((i : Int) + 1) = ((i + 1 : Nat) : Int) := by rw [wrap64 (by omega) (by omega)]; omega
    obtain ⟨y, e', H', r1, r2, r3⟩ := ih (i + 1) H1 (by omega) (ha.ext x1) (hac.ext x1) (hb.ext x1) (hall.ext x1) (hC.ext x1)
    have hany : (L.drop i).any (joinC ah us) = (joinC ah us r || (L.drop (i + 1)).any (joinC ah us)) := by rw [hdr]; rfl
    rw [w_loop_b b_lontarlaw15_Joins_0.eq_1, hany]
    by_cases f1 : 0 < ah.length
    · have f1' : ((ah.length : Int) > 0) = True := by simp only [eq_iff_iff, iff_true]; omega
      by_cases f2 : ah.length < r.1.length
      · have f2' : ((r.1.length : Int) > ah.length) = True := by simp only [eq_iff_iff, iff_true]; omega
        by_cases f3 : r.1.length ≤ (ah ++ us).length
        · have f3' : ((r.1.length : Int) ≤ ((ah ++ us).length : Nat)) = True := by simp only [eq_iff_iff, iff_true]; omega
          obtain ⟨v', s1, s2, s3⟩ := (hall.ext x1).take (hC.ext x1) f3
          have s1' := s1 .i64
          have cU := c_Units (e5.ext x1) s2 e7
          by_cases f4 : r.1 = (ah ++ us).take r.1.length
          · have hj : joinC ah us r = true := by unfold joinC; simp only [Bool.and_eq_true, decide_eq_true_eq]; exact ⟨f1, f2, f3, f4⟩
            rw [decide_eq_true f4] at cU
            rw [hj]
            simp only [WA, isStore, isCall, isK, freshI, stampO, List.nil_append, Option.map_some, Option.map_none, Option.bind_some, List.map_cons, List.map_nil, if_true, if_false, Nat.reduceEqDiff, Int.reduceEq, Nat.reduceAdd, Nat.reduceMul, reduceCtorEq, eq_self, Int.reduceLT, Int.reduceLE, Int.reduceToNat, List.length_cons, List.length_nil, List.all_cons, List.all_nil, List.take_zero, List.drop_nil, List.append_nil, List.getElem?_cons_zero, List.getElem?_cons_succ, List.drop_succ_cons, List.drop_zero, List.take_succ_cons, List.cons_append, Nat.reduceLeDiff, Int.cast_ofNat_Int, hlt, e1, e4, ← hH1, g1, hlb, f1', hlr, f2', hlall, f3', s1', cU, Bool.true_or]
            exact x1
          · have hj : joinC ah us r = false := by unfold joinC; rw [decide_eq_false f4]; simp
            rw [decide_eq_false f4] at cU
            rw [hj, Bool.false_or]
            simp only [WA, isStore, isCall, isK, freshI, stampO, List.nil_append, Option.map_some, Option.map_none, Option.bind_some, List.map_cons, List.map_nil, if_true, if_false, Nat.reduceEqDiff, Int.reduceEq, Nat.reduceAdd, Nat.reduceMul, reduceCtorEq, eq_self, Int.reduceLT, Int.reduceLE, Int.reduceToNat, List.length_cons, List.length_nil, List.all_cons, List.all_nil, List.take_zero, List.drop_nil, List.append_nil, List.getElem?_cons_zero, List.getElem?_cons_succ, List.drop_succ_cons, List.drop_zero, List.take_succ_cons, List.cons_append, Nat.reduceLeDiff, Int.cast_ofNat_Int, hlt, e1, e4, ← hH1, g1, hlb, f1', hlr, f2', hlall, f3', s1', cU, hw2]
            rw [w_enter]
            simp only [WA, isStore, isCall, isK, freshI, stampO, List.nil_append, Option.map_some, Option.map_none, Option.bind_some, List.map_cons, List.map_nil, if_true, if_false, Nat.reduceEqDiff, Int.reduceEq, Nat.reduceAdd, Nat.reduceMul, reduceCtorEq, eq_self, Int.reduceLT, Int.reduceLE, Int.reduceToNat, List.length_cons, List.length_nil, List.all_cons, List.all_nil, List.take_zero, List.drop_nil, List.append_nil, List.getElem?_cons_zero, List.getElem?_cons_succ, List.drop_succ_cons, List.drop_zero, List.take_succ_cons, List.cons_append, Nat.reduceLeDiff, Int.cast_ofNat_Int, r1]
            exact ⟨x1.trans r2, r3⟩
        · have f3' : ((r.1.length : Int) ≤ ((ah ++ us).length : Nat)) = False := by simp only [eq_iff_iff, iff_false]; omega
          have hj : joinC ah us r = false := by unfold joinC; rw [decide_eq_false f3]; simp
          rw [hj, Bool.false_or]
          simp only [WA, isStore, isCall, isK, freshI, stampO, List.nil_append, Option.map_some, Option.map_none, Option.bind_some, List.map_cons, List.map_nil, if_true, if_false, Nat.reduceEqDiff, Int.reduceEq, Nat.reduceAdd, Nat.reduceMul, reduceCtorEq, eq_self, Int.reduceLT, Int.reduceLE, Int.reduceToNat, List.length_cons, List.length_nil, List.all_cons, List.all_nil, List.take_zero, List.drop_nil, List.append_nil, List.getElem?_cons_zero, List.getElem?_cons_succ, List.drop_succ_cons, List.drop_zero, List.take_succ_cons, List.cons_append, Nat.reduceLeDiff, Int.cast_ofNat_Int, hlt, e1, e4, ← hH1, g1, hlb, f1', hlr, f2', hlall, f3', hw2]
          rw [w_enter]
          simp only [WA, isStore, isCall, isK, freshI, stampO, List.nil_append, Option.map_some, Option.map_none, Option.bind_some, List.map_cons, List.map_nil, if_true, if_false, Nat.reduceEqDiff, Int.reduceEq, Nat.reduceAdd, Nat.reduceMul, reduceCtorEq, eq_self, Int.reduceLT, Int.reduceLE, Int.reduceToNat, List.length_cons, List.length_nil, List.all_cons, List.all_nil, List.take_zero, List.drop_nil, List.append_nil, List.getElem?_cons_zero, List.getElem?_cons_succ, List.drop_succ_cons, List.drop_zero, List.take_succ_cons, List.cons_append, Nat.reduceLeDiff, Int.cast_ofNat_Int, r1]
          exact ⟨x1.trans r2, r3⟩
      · have f2' : ((r.1.length : Int) > ah.length) = False := by simp only [eq_iff_iff, iff_false]; omega
        have hj : joinC ah us r = false := by unfold joinC; rw [decide_eq_false f2]; simp
        rw [hj, Bool.false_or]
        simp only [WA, isStore, isCall, isK, freshI, stampO, List.nil_append, Option.map_some, Option.map_none, Option.bind_some, List.map_cons, List.map_nil, if_true, if_false, Nat.reduceEqDiff, Int.reduceEq, Nat.reduceAdd, Nat.reduceMul, reduceCtorEq, eq_self, Int.reduceLT, Int.reduceLE, Int.reduceToNat, List.length_cons, List.length_nil, List.all_cons, List.all_nil, List.take_zero, List.drop_nil, List.append_nil, List.getElem?_cons_zero, List.getElem?_cons_succ, List.drop_succ_cons, List.drop_zero, List.take_succ_cons, List.cons_append, Nat.reduceLeDiff, Int.cast_ofNat_Int, hlt, e1, e4, ← hH1, g1, hlb, f1', hlr, f2', hw2]
        rw [w_enter]
        simp only [WA, isStore, isCall, isK, freshI, stampO, List.nil_append, Option.map_some, Option.map_none, Option.bind_some, List.map_cons, List.map_nil, if_true, if_false, Nat.reduceEqDiff, Int.reduceEq, Nat.reduceAdd, Nat.reduceMul, reduceCtorEq, eq_self, Int.reduceLT, Int.reduceLE, Int.reduceToNat, List.length_cons, List.length_nil, List.all_cons, List.all_nil, List.take_zero, List.drop_nil, List.append_nil, List.getElem?_cons_zero, List.getElem?_cons_succ, List.drop_succ_cons, List.drop_zero, List.take_succ_cons, List.cons_append, Nat.reduceLeDiff, Int.cast_ofNat_Int, r1]
        exact ⟨x1.trans r2, r3⟩
    · have f1' : ((ah.length : Int) > 0) = False := by simp only [eq_iff_iff, iff_false]; omega
      have hj : joinC ah us r = false := by unfold joinC; rw [decide_eq_false f1]; simp
      rw [hj, Bool.false_or]
      simp only [WA, isStore, isCall, isK, freshI, stampO, List.nil_append, Option.map_some, Option.map_none, Option.bind_some, List.map_cons, List.map_nil, if_true, if_false, Nat.reduceEqDiff, Int.reduceEq, Nat.reduceAdd, Nat.reduceMul, reduceCtorEq, eq_self, Int.reduceLT, Int.reduceLE, Int.reduceToNat, List.length_cons, List.length_nil, List.all_cons, List.all_nil, List.take_zero, List.drop_nil, List.append_nil, List.getElem?_cons_zero, List.getElem?_cons_succ, List.drop_succ_cons, List.drop_zero, List.take_succ_cons, List.cons_append, Nat.reduceLeDiff, Int.cast_ofNat_Int, hlt, e1, e4, ← hH1, g1, hlb, f1', hw2]
      rw [w_enter]
      simp only [WA, isStore, isCall, isK, freshI, stampO, List.nil_append, Option.map_some, Option.map_none, Option.bind_some, List.map_cons, List.map_nil, if_true, if_false, Nat.reduceEqDiff, Int.reduceEq, Nat.reduceAdd, Nat.reduceMul, reduceCtorEq, eq_self, Int.reduceLT, Int.reduceLE, Int.reduceToNat, List.length_cons, List.length_nil, List.all_cons, List.all_nil, List.take_zero, List.drop_nil, List.append_nil, List.getElem?_cons_zero, List.getElem?_cons_succ, List.drop_succ_cons, List.drop_zero, List.take_succ_cons, List.cons_append, Nat.reduceLeDiff, Int.cast_ofNat_Int, r1]
      exact ⟨x1.trans r2, r3⟩
theorem c_JD {x a b : Value} {L : List Rl} {ah us : List Int} {H : AHeap} (hR : Right L) (hx : Rules H x L) (hxc : CutR H x) (ha : Ints H a ah) (hb : Ints H b us) (h1 : ah.length < 1000000) (h2 : us.length < 1000000) :
    Gives (cw Try.prog (tabF tab) om1 22 [x, a, b] H) fun v H' => Ext H H' ∧ v = .bool (joinsF L ah us) := by
  rw [cw_run (F := F_lontarlaw15_Joins) rfl rfl rfl]
  unfold F_lontarlaw15_Joins k_lontarlaw15_Joins
  obtain ⟨v1, H1, c1, x1, o1, f1, _⟩ := app_own (el := 3) ha (by omega)
  have app : ∃ v2 H2, appendA H1 v1 b 3 1 8 = some (v2, H2) ∧ Ints H2 v2 (ah ++ us) ∧ Ext H H2 ∧ Cut Try.prog H2 v2 1 := by
    by_cases hu : us = []
    · subst hu
      refine ⟨v1, H1, ?_, by rw [List.append_nil]; exact o1.sl, x1, o1.cut (by kernel_rfl)⟩
      obtain ⟨⟨b1, b2, rfl⟩, hbc⟩ := hb.ext x1
      obtain ⟨⟨d1, d2, rfl⟩, hdc⟩ := o1.sl
      unfold appendA
      simp only [hbc, hdc]
      exact if_pos List.length_nil
    · obtain ⟨v2, H2, q1, q2, q3, q4, q5, q6⟩ := o1.append2 (bytes := 8) (hb.ext x1) (List.length_pos_iff.2 hu) (ones_ints us) (by omega)
      refine ⟨v2, H2, q1, ?_, Ext.grow x1 q5 q6 f1, q2.cut (by kernel_rfl)⟩
      unfold Ints
      rw [List.length_append]
      have := q2.sl
      simpa [ints] using this
  obtain ⟨v2, H2, m1, i2, x2, k2⟩ := app
  obtain ⟨y, e', H', r1, r2, r3⟩ := l_JD h1 h2 L.length 0 H2 (by omega) (hx.ext x2) (hxc.ext x2) (ha.ext x2) i2 k2
  rw [List.drop_zero, joins_same hR] at r3
  have hl := hx.len (H2 := H2)
  simp only [Int.cast_ofNat_Int] at r1
  simp only [WA, isStore, isCall, isK, freshI, stampO, List.nil_append, Option.map_some, Option.map_none, Option.bind_some, List.map_cons, List.map_nil, if_true, if_false, Nat.reduceEqDiff, Int.reduceEq, Nat.reduceAdd, Nat.reduceMul, reduceCtorEq, eq_self, Int.reduceLT, Int.reduceLE, Int.reduceToNat, List.length_cons, List.length_nil, List.all_cons, List.all_nil, List.take_zero, List.drop_nil, List.append_nil, List.getElem?_cons_zero, List.getElem?_cons_succ, List.drop_succ_cons, List.drop_zero, List.take_succ_cons, List.cons_append, Nat.reduceLeDiff, Int.cast_ofNat_Int, c1, m1, hl]
  rw [w_enter]
  split at r3
  · rename_i hj
    obtain ⟨rfl, r4⟩ := r3
    rw [hj]
    simp only [WA, isStore, isCall, isK, freshI, stampO, List.nil_append, Option.map_some, Option.map_none, Option.bind_some, List.map_cons, List.map_nil, if_true, if_false, Nat.reduceEqDiff, Int.reduceEq, Nat.reduceAdd, Nat.reduceMul, reduceCtorEq, eq_self, Int.reduceLT, Int.reduceLE, Int.reduceToNat, List.length_cons, List.length_nil, List.all_cons, List.all_nil, List.take_zero, List.drop_nil, List.append_nil, List.getElem?_cons_zero, List.getElem?_cons_succ, List.drop_succ_cons, List.drop_zero, List.take_succ_cons, List.cons_append, Nat.reduceLeDiff, Int.cast_ofNat_Int, r1, r4]
    exact x2.trans r2
  · rename_i hj
    subst r3
    have hj' : joinsF L ah us = false := by simpa using hj
    rw [hj']
    simp only [WA, isStore, isCall, isK, freshI, stampO, List.nil_append, Option.map_some, Option.map_none, Option.bind_some, List.map_cons, List.map_nil, if_true, if_false, Nat.reduceEqDiff, Int.reduceEq, Nat.reduceAdd, Nat.reduceMul, reduceCtorEq, eq_self, Int.reduceLT, Int.reduceLE, Int.reduceToNat, List.length_cons, List.length_nil, List.all_cons, List.all_nil, List.take_zero, List.drop_nil, List.append_nil, List.getElem?_cons_zero, List.getElem?_cons_succ, List.drop_succ_cons, List.drop_zero, List.take_succ_cons, List.cons_append, Nat.reduceLeDiff, Int.cast_ofNat_Int, r1]
    exact x2.trans r2
theorem l_ED {H0 : AHeap} {a : Value} {L : List Rl} {out : Value} {X : List Tok} (hR : Right L) (hr : Rules H0 a L) (hrc : CutR H0 a) (hX : ∀ x ∈ X, x.out.length ≤ 8) (hXp : ∀ x ∈ X, 0 ≤ x.at_) : ∀ (c k : Nat) (H : AHeap) (va : Value) (ah : List Int) (D : List Tok), k + c = X.length → D.length = k → Ext H0 H → OwnToks Try.prog H 41 out (D ++ X.drop k) → From H0.n out → AncB H0.n H 41 out → Ints H va ah → Cut Try.prog H va 1 → ah.length ≤ 8 →
    Out (run Try.prog (tabF tab) om1 (.loop [0, 5, 6, 13, 14, 15] b_lontarlaw15_Encode_0) [(0, a), (5, out), (6, va), (13, out), (14, .int .i64 X.length), (15, .int .i64 k)] H) fun y e' H' => y = .exit 0 ∧ eget e' 5 = out ∧ Ext H0 H' ∧ OwnToks Try.prog H' 41 out (D ++ encF L ah (X.drop k)) := by
  intro c
  induction c with
  | zero =>
    intro k H va ah D hk hD hx ho hf hA hva hvc ha8
    have hlt : ¬ ((k : Int) < X.length) := by omega
    rw [w_loop_b b_lontarlaw15_Encode_0.eq_1]
    rw [List.drop_of_length_le (by omega)] at ho ⊢
    simp only [WA, isStore, isCall, isK, freshI, stampO, List.nil_append, Option.map_some, Option.map_none, Option.bind_some, List.map_cons, List.map_nil, if_true, if_false, Nat.reduceEqDiff, Int.reduceEq, Nat.reduceAdd, Nat.reduceMul, reduceCtorEq, eq_self, Int.reduceLT, Int.reduceLE, Int.reduceToNat, List.length_cons, List.length_nil, List.all_cons, List.all_nil, List.take_zero, List.drop_nil, List.append_nil, List.getElem?_cons_zero, List.getElem?_cons_succ, List.drop_succ_cons, List.drop_zero, List.take_succ_cons, List.cons_append, Nat.reduceLeDiff, Int.cast_ofNat_Int, hlt, encF]
    rw [List.append_nil] at ho
    exact ⟨hx, ho⟩
  | succ c ih =>
    intro k H va ah D hk hD hx ho hf hA hva hvc ha8
    have hol := ho.1
    rw [List.length_append, List.length_drop] at hol
    have hlt : (k : Int) < X.length := by omega
    obtain ⟨x, hxk, hdx⟩ := drop_at (L := X) (i := k) (by omega)
    have hx8 := hX x (List.mem_of_getElem? hxk)
    rw [hdx] at ho ⊢
    have hgk : (D ++ x :: X.drop (k + 1))[k]? = some x := by rw [List.getElem?_append_right (by omega), hD, Nat.sub_self]; rfl
    obtain ⟨i1, o1, p, cc, a1, a2, a3, a4, a5, a6, a7, a8, a9⟩ := Toks.at' ho.rws hgk
    obtain ⟨H1, hH1⟩ : ∃ H1, H1 = H.push ⟨tokC p cc x, 41, .tip, 1, []⟩ := ⟨_, rfl⟩
    have x1 : Ext H H1 := by rw [hH1]; exact Ext.push H _
    have g1 : H1.get H.n = some ⟨tokC p cc x, 41, .tip, 1, []⟩ := by rw [hH1]; exact get_push_self
    have hw2 : IntKind.i64.wrap ((k : Int) + 1) = ((k + 1 : Nat) : Int) := by rw [wrap64 (by omega) (by omega)]; omega
    rw [w_loop_b b_lontarlaw15_Encode_0.eq_1]
    unfold encF
    by_cases he : x.err = 0
    · have he' : (x.err ≠ 0) = False := by simp [he]
      obtain ⟨v, H2, c2, x2, rfl⟩ := c_JD hR ((hr.ext hx).ext x1) ((hrc.ext hx).ext x1) (hva.ext x1) (a7.ext x1) (by omega) (by omega)
      have x12 := x1.trans x2
      have g2 := x2.get g1
      cases hj : joinsF L ah x.out with
      | true =>
        rw [hj] at c2
        obtain ⟨u, hu⟩ : ∃ u : Tok, u = ⟨x.at_, x.len, [], 3⟩ := ⟨_, rfl⟩
        have hJ : joinT L ah x = u := by unfold joinT; rw [if_pos ⟨he, hj⟩, hu]
        have hb : vBuild [.int .i64 0, .int .i64 0, .slice none 0 0, .int .i64 0] [(0, 1, .int .i64 x.at_), (1, 1, .int .i64 x.len), (3, 1, .int .i64 3)] H2 = some (.agg ⟨tokC none 0 u⟩, H2) := by rw [hu]; rfl
        obtain ⟨b, b1, H3, b2, b3, b4, b5, b6, b7, b8, b9, b10⟩ := (ho.ext tokQ_mono x12).storeRow hf (hA.ext x12) hgk (by decide) (new := tokC none 0 u) rfl tokC_one (hQtok H2)
        have hq := b10 u ⟨none, 0, by rw [hu]; rfl, by rw [hu]; exact Sl.nil _ 1, by rw [hu]; exact (by decide : (0 : Nat) < 4611686018427387904), by rw [hu]; trivial⟩
        have hsame := (a1 .i64 H).symm.trans (b1 .i64 H)
        injection hsame with hsame
        injection hsame with hsame _
        injection hsame with hsame
        injection hsame with hsame
        injection hsame with hs1 hs2 _
        subst hs1 hs2
        have hset : (D ++ x :: X.drop (k + 1)).set k u = (D ++ [u]) ++ X.drop (k + 1) := by
          rw [← hD, set_mid]; simp
        rw [hset] at hq
        have x3 : Ext H0 H3 := ⟨by rw [b3]; exact (hx.trans x12).1, fun j hj => by rw [b4 j hj, (hx.trans x12).2 j hj]⟩
        obtain ⟨u1, u2⟩ := (hva.ext x12).elem (P := Try.prog) (hvc.ext x12) hel4 (by decide) b5
        obtain ⟨y, e', H', r1, r2, r3, r4, r5⟩ := ih (k + 1) H3 va ah (D ++ [u]) (by omega) (by simp; omega) x3 hq hf b7 u1 u2 ha8
        rw [List.append_assoc] at r5
        have hue : ¬ u.err = 0 := by rw [hu]; exact (by decide : ¬ ((3 : Int) = 0))
        rw [hJ, if_neg hue]
        simp only [WA, isStore, isCall, isK, freshI, stampO, List.nil_append, Option.map_some, Option.map_none, Option.bind_some, List.map_cons, List.map_nil, if_true, if_false, Nat.reduceEqDiff, Int.reduceEq, Nat.reduceAdd, Nat.reduceMul, reduceCtorEq, eq_self, Int.reduceLT, Int.reduceLE, Int.reduceToNat, List.length_cons, List.length_nil, List.all_cons, List.all_nil, List.take_zero, List.drop_nil, List.append_nil, List.getElem?_cons_zero, List.getElem?_cons_succ, List.drop_succ_cons, List.drop_zero, List.take_succ_cons, List.cons_append, Nat.reduceLeDiff, Int.cast_ofNat_Int, hlt, a1, a6, got_tok, ← hH1, g1, tk0, tk1, tk2, tk3, he', c2, g2, hb, b2, hw2]
        rw [w_enter]
        simp only [WA, isStore, isCall, isK, freshI, stampO, List.nil_append, Option.map_some, Option.map_none, Option.bind_some, List.map_cons, List.map_nil, if_true, if_false, Nat.reduceEqDiff, Int.reduceEq, Nat.reduceAdd, Nat.reduceMul, reduceCtorEq, eq_self, Int.reduceLT, Int.reduceLE, Int.reduceToNat, List.length_cons, List.length_nil, List.all_cons, List.all_nil, List.take_zero, List.drop_nil, List.append_nil, List.getElem?_cons_zero, List.getElem?_cons_succ, List.drop_succ_cons, List.drop_zero, List.take_succ_cons, List.cons_append, Nat.reduceLeDiff, Int.cast_ofNat_Int, r1]
        exact ⟨r2, r3, r4, r5⟩
      | false =>
        rw [hj] at c2
        have hJ : joinT L ah x = x := by unfold joinT; rw [if_neg (fun h => by rw [hj] at h; cases h.2)]
        have x3 := hx.trans x12
        obtain ⟨y, e', H', r1, r2, r3, r4, r5⟩ := ih (k + 1) H2 (.slice p x.out.length cc) x.out (D ++ [x]) (by omega) (by simp; omega) x3 (by rw [List.append_assoc]; exact ho.ext tokQ_mono x12) hf (hA.ext x12) (a7.ext x12) (a9.ext x12) hx8
        rw [List.append_assoc] at r5
        rw [hJ, if_pos he]
        simp only [WA, isStore, isCall, isK, freshI, stampO, List.nil_append, Option.map_some, Option.map_none, Option.bind_some, List.map_cons, List.map_nil, if_true, if_false, Nat.reduceEqDiff, Int.reduceEq, Nat.reduceAdd, Nat.reduceMul, reduceCtorEq, eq_self, Int.reduceLT, Int.reduceLE, Int.reduceToNat, List.length_cons, List.length_nil, List.all_cons, List.all_nil, List.take_zero, List.drop_nil, List.append_nil, List.getElem?_cons_zero, List.getElem?_cons_succ, List.drop_succ_cons, List.drop_zero, List.take_succ_cons, List.cons_append, Nat.reduceLeDiff, Int.cast_ofNat_Int, hlt, a1, a6, got_tok, ← hH1, g1, tk0, tk1, tk2, tk3, he', c2, g2, hw2]
        rw [w_enter]
        simp only [WA, isStore, isCall, isK, freshI, stampO, List.nil_append, Option.map_some, Option.map_none, Option.bind_some, List.map_cons, List.map_nil, if_true, if_false, Nat.reduceEqDiff, Int.reduceEq, Nat.reduceAdd, Nat.reduceMul, reduceCtorEq, eq_self, Int.reduceLT, Int.reduceLE, Int.reduceToNat, List.length_cons, List.length_nil, List.all_cons, List.all_nil, List.take_zero, List.drop_nil, List.append_nil, List.getElem?_cons_zero, List.getElem?_cons_succ, List.drop_succ_cons, List.drop_zero, List.take_succ_cons, List.cons_append, Nat.reduceLeDiff, Int.cast_ofNat_Int, r1]
        exact ⟨r2, r3, r4, r5⟩
    · have he' : (x.err ≠ 0) = True := by simp [he]
      have hJ : joinT L ah x = x := by unfold joinT; rw [if_neg (fun h => he h.1)]
      have x3 := hx.trans x1
      obtain ⟨y, e', H', r1, r2, r3, r4, r5⟩ := ih (k + 1) H1 va ah (D ++ [x]) (by omega) (by simp; omega) x3 (by rw [List.append_assoc]; exact ho.ext tokQ_mono x1) hf (hA.ext x1) (hva.ext x1) (hvc.ext x1) ha8
      rw [List.append_assoc] at r5
      rw [hJ, if_neg he]
      simp only [WA, isStore, isCall, isK, freshI, stampO, List.nil_append, Option.map_some, Option.map_none, Option.bind_some, List.map_cons, List.map_nil, if_true, if_false, Nat.reduceEqDiff, Int.reduceEq, Nat.reduceAdd, Nat.reduceMul, reduceCtorEq, eq_self, Int.reduceLT, Int.reduceLE, Int.reduceToNat, List.length_cons, List.length_nil, List.all_cons, List.all_nil, List.take_zero, List.drop_nil, List.append_nil, List.getElem?_cons_zero, List.getElem?_cons_succ, List.drop_succ_cons, List.drop_zero, List.take_succ_cons, List.cons_append, Nat.reduceLeDiff, Int.cast_ofNat_Int, hlt, a1, a6, got_tok, ← hH1, g1, tk0, tk1, tk2, tk3, he', hw2]
      rw [w_enter]
      simp only [WA, isStore, isCall, isK, freshI, stampO, List.nil_append, Option.map_some, Option.map_none, Option.bind_some, List.map_cons, List.map_nil, if_true, if_false, Nat.reduceEqDiff, Int.reduceEq, Nat.reduceAdd, Nat.reduceMul, reduceCtorEq, eq_self, Int.reduceLT, Int.reduceLE, Int.reduceToNat, List.length_cons, List.length_nil, List.all_cons, List.all_nil, List.take_zero, List.drop_nil, List.append_nil, List.getElem?_cons_zero, List.getElem?_cons_succ, List.drop_succ_cons, List.drop_zero, List.take_succ_cons, List.cons_append, Nat.reduceLeDiff, Int.cast_ofNat_Int, r1]
      exact ⟨r2, r3, r4, r5⟩
theorem c_ED {a b : Value} {L : List Rl} {us : List Int} {H : AHeap} (hR : Right L) (hL : L.length ≤ 512) (hr : Rules H a L) (hrc : CutR H a) (hb : Ints H b us) (hC : Cut Try.prog H b 1) (hs : us.length < 1000000) :
    Gives (cw Try.prog (tabF tab) om1 20 [a, b] H) fun v H' => Ext H H' ∧ OwnToks Try.prog H' 41 v (encU L us) ∧ From H.n v := by
  rw [cw_run (F := F_lontarlaw15_Encode) rfl rfl rfl]
  unfold F_lontarlaw15_Encode k_lontarlaw15_Encode
  obtain ⟨v1, H1, c1, x1, o1, k1, l1⟩ := c_TurnC (right_small hR hL) hr hrc
  have r1' := o1.rules (by omega)
  have hR2 := trn_right hR
  obtain ⟨v2, H2, c2, x2, o2, f2, A2⟩ := c_AllD hR2 (by omega) r1' k1 (hb.ext x1) (hC.ext x1) hs
  have hl := o2.rws.len (H2 := H2)
  have x12 := x1.trans x2
  obtain ⟨y, e', H', r1, rfl, r2, r3, r4⟩ := l_ED (X := allU (trn L []) us 0) hR hr hrc (allU_outs hR2 us.length us 0 (Nat.le_refl _)) (fun x hx => by
    obtain ⟨i, hi, rfl⟩ := List.getElem_of_mem hx
    have key : ∀ (c : Nat) (us : List Int) (a : Int), us.length ≤ c → 0 ≤ a → ∀ x ∈ allU (trn L []) us a, 0 ≤ x.at_ := by
      intro c
      induction c with
      | zero =>
        intro us a h ha x hx
        have : us = [] := List.length_eq_zero_iff.1 (by omega)
        subst this
        cases hx
      | succ c ih =>
        intro us a h ha x hx
        by_cases hn : us = []
        · subst hn; cases hx
        · obtain ⟨n, e, n1, n2⟩ := oneT_len hR2 hn a
          rw [allU_cons hR2 hn, e] at hx
          rcases List.mem_cons.1 hx with rfl | hx
          · have : (oneT (trn L []) us a).at_ = a := by unfold oneT; split <;> rfl
            omega
          · exact ih _ _ (by rw [List.length_drop, Int.toNat_natCast]; omega) (by omega) x hx
    exact key us.length us 0 (Nat.le_refl _) (Int.le_refl _) _ (List.getElem_mem hi)) (allU (trn L []) us 0).length 0 H2 (.slice none 0 0) [] [] (by omega) rfl x12 o2 (f2.mono x1.1) (A2.mono x1.1) (Sl.nil _ 1) trivial (Nat.zero_le _)
  rw [List.drop_zero, List.nil_append] at r4
  simp only [Int.cast_ofNat_Int] at r1
  simp only [WA, isStore, isCall, isK, freshI, stampO, List.nil_append, Option.map_some, Option.map_none, Option.bind_some, List.map_cons, List.map_nil, if_true, if_false, Nat.reduceEqDiff, Int.reduceEq, Nat.reduceAdd, Nat.reduceMul, reduceCtorEq, eq_self, Int.reduceLT, Int.reduceLE, Int.reduceToNat, List.length_cons, List.length_nil, List.all_cons, List.all_nil, List.take_zero, List.drop_nil, List.append_nil, List.getElem?_cons_zero, List.getElem?_cons_succ, List.drop_succ_cons, List.drop_zero, List.take_succ_cons, List.cons_append, Nat.reduceLeDiff, Int.cast_ofNat_Int, c1, c2, hl]
  rw [w_enter]
  simp only [WA, isStore, isCall, isK, freshI, stampO, List.nil_append, Option.map_some, Option.map_none, Option.bind_some, List.map_cons, List.map_nil, if_true, if_false, Nat.reduceEqDiff, Int.reduceEq, Nat.reduceAdd, Nat.reduceMul, reduceCtorEq, eq_self, Int.reduceLT, Int.reduceLE, Int.reduceToNat, List.length_cons, List.length_nil, List.all_cons, List.all_nil, List.take_zero, List.drop_nil, List.append_nil, List.getElem?_cons_zero, List.getElem?_cons_succ, List.drop_succ_cons, List.drop_zero, List.take_succ_cons, List.cons_append, Nat.reduceLeDiff, Int.cast_ofNat_Int, r1, r2]
  exact ⟨r3, r4, f2.mono x1.1⟩
end Go.Proofs.Ytgonfmpmdahmcaa

/-! Layer 15: reading, writing and joining are what the document says. -/
set_option linter.unusedSimpArgs false
set_option linter.unusedVariables false
namespace Go.Proofs.Ytgonfmpmdahmcaa
open Go Lon
set_option maxRecDepth 100000
theorem startT {a : Value} {R : List RowD} {H : AHeap} (ha : RowsAt H a R) : ∃ (v : Value) (H1 : AHeap) (q : Nat) (H2 : AHeap) (L : List Rl), cw Try.prog (tabF tab) om1 15 [a] H = some (v, H1) ∧ cw Try.prog (tabF tab) om1 16 [v] H1 = some (.tuple ⟨[.pointer (some ⟨q, 0, none⟩), .int .i64 0]⟩, H2) ∧ Ext H H2 ∧ TableOk H2 q L ∧ Rules H2 v L ∧ CutR H2 v ∧ L.length ≤ 40 ∧ Right L ∧ clsF L L = true := by
  obtain ⟨v1, H1, c1, x1, o1, k1, g1, l1, cl⟩ := c_TRules ha
  have hR := o1.rules (by omega)
  have hC : Cut Try.prog H1 v1 2 := o1.cut (by kernel_rfl)
  obtain ⟨v2, H2, c2, x2, q, rfl, hT⟩ := c_TOf hR hC k1 g1 (by omega) cl
  exact ⟨v1, H1, q, H2, _, c1, c2, x1.trans x2, hT, hR.ext x2, k1.ext x2, l1, g1, cl⟩
theorem min_k {m n : Nat} : ∃ k : Nat, k ≤ n ∧ k ≤ m ∧ (if (m : Int) < (n : Int) then (m : Int) else (n : Int)) = (k : Int) := by
  refine ⟨min n m, Nat.min_le_left _ _, Nat.min_le_right _ _, ?_⟩
  split <;> omega
theorem law_Dec {a b c : Value} {R : List RowD} {l us : List Int} {H : AHeap} (ha : RowsAt H a R) (hb : U8s H b l) (hc : Us H c us) : Gives (cw Try.prog (tabF tab) om1 5 [a, b, c] H) fun v H' => v = .bool true := by
  obtain ⟨hb, hbc, hbb, hbt⟩ := hb
  obtain ⟨hc, hcc, hct, _⟩ := hc
  rw [cw_run (F := F_lontarlaw15_TableDecode) rfl rfl rfl]
  unfold F_lontarlaw15_TableDecode k_lontarlaw15_TableDecode
  obtain ⟨v1, H1, q, H2, L, c1, c2, x2, hT, hr, hrc, h40, hR, hcl⟩ := startT ha
  obtain ⟨k, k1, k2, k3⟩ := min_k (m := 40) (n := us.length)
  simp only [Int.cast_ofNat_Int] at k3
  obtain ⟨c', s1, s2, s3⟩ := (hc.ext x2).take (hcc.ext x2) k1
  have s1' := s1 .i64
  have hlc := fun H2 => Sl.len (H2 := H2) hc
  have hlen : (us.take k).length ≤ 40 := by rw [List.length_take]; omega
  obtain ⟨w1, H3, c3, x3, y3, z3⟩ := c_Some (hb.ext x2) (hbc.ext x2) hbb hbt
  have hsl := som_len (l := l)
  obtain ⟨w2, H4, c4, x4, y4, _⟩ := c_Decode (hT.ext x3) y3 z3 (by omega)
  have x24 := x3.trans x4
  obtain ⟨w3, H5, c5, x5, y5, z5⟩ := c_Some ((hb.ext x2).ext x24) ((hbc.ext x2).ext x24) hbb hbt
  obtain ⟨w4, H6, c6, x6, y6, _⟩ := c_AllD hR (by omega) ((hr.ext x24).ext x5) ((hrc.ext x24).ext x5) y5 z5 (by omega)
  have c7 := c_SameT (y4.rws.ext tokQ_mono (x5.trans x6)) y6.rws
  rw [decide_eq_true rfl] at c7
  have x26 := (x24.trans x5).trans x6
  obtain ⟨w5, H7, c8, x7, y7, _⟩ := c_Decode (hT.ext x26) (s2.ext x26) (s3.ext x26) (by omega)
  obtain ⟨w6, H8, c9, x8, y8, _⟩ := c_AllD hR (by omega) ((hr.ext x26).ext x7) ((hrc.ext x26).ext x7) ((s2.ext x26).ext x7) ((s3.ext x26).ext x7) (by omega)
  have c10 := c_SameT (y7.rws.ext tokQ_mono x8) y8.rws
  rw [decide_eq_true rfl] at c10
  have z : ((0 : Int) ≠ 0) = False := by simp
  simp only [WA, isStore, isCall, isK, freshI, stampO, List.nil_append, Option.map_some, Option.map_none, Option.bind_some, List.map_cons, List.map_nil, if_true, if_false, Nat.reduceEqDiff, Int.reduceEq, Nat.reduceAdd, Nat.reduceMul, reduceCtorEq, eq_self, Int.reduceLT, Int.reduceLE, Int.reduceToNat, List.length_cons, List.length_nil, List.all_cons, List.all_nil, List.take_zero, List.drop_nil, List.append_nil, List.getElem?_cons_zero, List.getElem?_cons_succ, List.drop_succ_cons, List.drop_zero, List.take_succ_cons, List.cons_append, Nat.reduceLeDiff, Int.cast_ofNat_Int, o_awake15, c1, c2, v_nilp, z, hlc, k3, s1', c3, c4, c5, c6, c7, c8, c9, c10]
theorem law_Enc {a b c : Value} {R : List RowD} {l us : List Int} {H : AHeap} (ha : RowsAt H a R) (hb : U8s H b l) (hc : Us H c us) : Gives (cw Try.prog (tabF tab) om1 3 [a, b, c] H) fun v H' => v = .bool true := by
  obtain ⟨hb, hbc, hbb, hbt⟩ := hb
  obtain ⟨hc, hcc, hct, _⟩ := hc
  rw [cw_run (F := F_lontarlaw15_TableEncode) rfl rfl rfl]
  unfold F_lontarlaw15_TableEncode k_lontarlaw15_TableEncode
  obtain ⟨v1, H1, q, H2, L, c1, c2, x2, hT, hr, hrc, h40, hR, hcl⟩ := startT ha
  obtain ⟨k, k1, k2, k3⟩ := min_k (m := 40) (n := us.length)
  simp only [Int.cast_ofNat_Int] at k3
  obtain ⟨c', s1, s2, s3⟩ := (hc.ext x2).take (hcc.ext x2) k1
  have s1' := s1 .i64
  have hlc := fun H2 => Sl.len (H2 := H2) hc
  have hlen : (us.take k).length ≤ 40 := by rw [List.length_take]; omega
  obtain ⟨w1, H3, c3, x3, y3, z3⟩ := c_Some (hb.ext x2) (hbc.ext x2) hbb hbt
  have hsl := som_len (l := l)
  obtain ⟨w2, H4, c4, x4, y4, _⟩ := c_Enc (hT.ext x3) y3 z3 (by omega)
  have x24 := x3.trans x4
  obtain ⟨w3, H5, c5, x5, y5, z5⟩ := c_Some ((hb.ext x2).ext x24) ((hbc.ext x2).ext x24) hbb hbt
  obtain ⟨w4, H6, c6, x6, y6, _⟩ := c_ED hR (by omega) ((hr.ext x24).ext x5) ((hrc.ext x24).ext x5) y5 z5 (by omega)
  have c7 := c_SameT (y4.rws.ext tokQ_mono (x5.trans x6)) y6.rws
  rw [decide_eq_true rfl] at c7
  have x26 := (x24.trans x5).trans x6
  obtain ⟨w5, H7, c8, x7, y7, _⟩ := c_Enc (hT.ext x26) (s2.ext x26) (s3.ext x26) (by omega)
  obtain ⟨w6, H8, c9, x8, y8, _⟩ := c_ED hR (by omega) ((hr.ext x26).ext x7) ((hrc.ext x26).ext x7) ((s2.ext x26).ext x7) ((s3.ext x26).ext x7) (by omega)
  have c10 := c_SameT (y7.rws.ext tokQ_mono x8) y8.rws
  rw [decide_eq_true rfl] at c10
  have z : ((0 : Int) ≠ 0) = False := by simp
  simp only [WA, isStore, isCall, isK, freshI, stampO, List.nil_append, Option.map_some, Option.map_none, Option.bind_some, List.map_cons, List.map_nil, if_true, if_false, Nat.reduceEqDiff, Int.reduceEq, Nat.reduceAdd, Nat.reduceMul, reduceCtorEq, eq_self, Int.reduceLT, Int.reduceLE, Int.reduceToNat, List.length_cons, List.length_nil, List.all_cons, List.all_nil, List.take_zero, List.drop_nil, List.append_nil, List.getElem?_cons_zero, List.getElem?_cons_succ, List.drop_succ_cons, List.drop_zero, List.take_succ_cons, List.cons_append, Nat.reduceLeDiff, Int.cast_ofNat_Int, o_awake15, c1, c2, v_nilp, z, hlc, k3, s1', c3, c4, c5, c6, c7, c8, c9, c10]
theorem law_Joins {a b c : Value} {R : List RowD} {l l2 : List Int} {n : Int} {H : AHeap} (ha : RowsAt H a R) (hb : U8s H b l) (hc : U8s H c l2) (hn : 0 ≤ n ∧ n < 256) : Gives (cw Try.prog (tabF tab) om1 4 [a, b, c, .int .u8 n] H) fun v H' => v = .bool true := by
  obtain ⟨hb, hbc, hbb, hbt⟩ := hb
  obtain ⟨hc, hcc, hcb, hct⟩ := hc
  rw [cw_run (F := F_lontarlaw15_TableJoins) rfl rfl rfl]
  unfold F_lontarlaw15_TableJoins k_lontarlaw15_TableJoins
  obtain ⟨v1, H1, q, H2, L, c1, c2, x2, hT, hr, hrc, h40, hR, hcl⟩ := startT ha
  obtain ⟨w1, H3, c3, x3, y3, z3⟩ := c_Some (hb.ext x2) (hbc.ext x2) hbb hbt
  obtain ⟨w2, H4, c4, x4, y4, z4⟩ := c_Some ((hc.ext x2).ext x3) ((hcc.ext x2).ext x3) hcb hct
  have hs1 := som_len (l := l)
  have hs2 := som_len (l := l2)
  generalize som l = us at *
  generalize som l2 = vs at *
  have hlu := fun H2 => y3.len (H2 := H2)
  have hlv := fun H2 => y4.len (H2 := H2)
  obtain ⟨k, k1, k2, k3⟩ := min_k (m := 4) (n := us.length)
  obtain ⟨j, j1, j2, j3⟩ := min_k (m := 4) (n := vs.length)
  simp only [Int.cast_ofNat_Int] at k3 j3
  obtain ⟨a', s1, s2, s3⟩ := (y3.ext x4).take (z3.ext x4) k1
  obtain ⟨b', t1, t2, t3⟩ := y4.take z4 j1
  have s1' := s1 .i64
  have t1' := t1 .i64
  have hku : (us.take k).length ≤ 4 := by rw [List.length_take]; omega
  have hjv : (vs.take j).length ≤ 4 := by rw [List.length_take]; omega
  generalize us.take k = ah at *
  generalize vs.take j = bu at *
  have x34 := x3.trans x4
  obtain ⟨u1, H5, c5, x5, rfl⟩ := c_Joins (hT.ext x34) s2 t2 (by omega) (by omega)
  obtain ⟨u2, H6, c6, x6, rfl⟩ := c_JD hR ((hr.ext x34).ext x5) ((hrc.ext x34).ext x5) (s2.ext x5) (t2.ext x5) (by omega) (by omega)
  have x46 := x5.trans x6
  have t2' := t2
  obtain ⟨⟨pb, cb, rfl⟩, _⟩ := t2'
  obtain ⟨tk, htk⟩ : ∃ tk : Tok, tk = ⟨3, 2, bu, 0⟩ := ⟨_, rfl⟩
  have hbld : vBuild [.int .i64 0, .int .i64 0, .slice none 0 0, .int .i64 0] [(0, 1, .int .i64 3), (1, 1, .int .i64 2), (2, 1, .slice pb bu.length cb)] H6 = some (.agg ⟨tokC pb cb tk⟩, H6) := by rw [htk]; rfl
  obtain ⟨u3, H7, c7, x7, p7, d7, rfl, q7⟩ := c_Join (x := tk) (p := pb) (c := cb) ((hT.ext x34).ext x46) (s2.ext x46) ⟨pb, cb, by rw [htk]; rfl, by rw [htk]; exact t2.ext x46, by rw [htk]; unfold Lon.tiny; simp only; omega, by rw [htk]; exact t3.ext x46⟩ (by omega) (by rw [htk]; simp only; omega)
  obtain ⟨H8, hH8⟩ : ∃ H8, H8 = H7.push ⟨tokC p7 d7 (joinT L ah tk), 41, .tip, 1, []⟩ := ⟨_, rfl⟩
  have x8 : Ext H7 H8 := by rw [hH8]; exact Ext.push H7 _
  have g8 : H8.get H7.n = some ⟨tokC p7 d7 (joinT L ah tk), 41, .tip, 1, []⟩ := by rw [hH8]; exact get_push_self
  have x48 := (x46.trans x7).trans x8
  have wn : IntKind.i64.wrap n = n := wrap64 (by omega) (by omega)
  obtain ⟨tz, htz⟩ : ∃ tz : Tok, tz = ⟨n, 1, [], 1⟩ := ⟨_, rfl⟩
  have hbld2 : vBuild [.int .i64 0, .int .i64 0, .slice none 0 0, .int .i64 0] [(0, 1, .int .i64 n), (1, 1, .int .i64 1), (3, 1, .int .i64 1)] H8 = some (.agg ⟨tokC none 0 tz⟩, H8) := by rw [htz]; rfl
  obtain ⟨u4, H9, c9, x9, p9, d9, rfl, q9⟩ := c_Join (x := tz) (p := none) (c := 0) ((hT.ext x34).ext x48) (s2.ext x48) ⟨none, 0, by rw [htz]; rfl, by rw [htz]; exact Sl.nil _ 1, by rw [htz]; exact (by decide : (0 : Nat) < 4611686018427387904), by rw [htz]; trivial⟩ (by omega) (by rw [htz]; exact (by decide : (0 : Nat) < 1000000))
  have hjz : joinT L ah tz = tz := by unfold joinT; rw [if_neg (fun h => by have h1 := h.1; rw [htz] at h1; exact absurd h1 (by decide : ¬ ((1 : Int) = 0)))]
  rw [hjz] at c9
  obtain ⟨H10, hH10⟩ : ∃ H10, H10 = H9.push ⟨tokC p9 d9 tz, 41, .tip, 1, []⟩ := ⟨_, rfl⟩
  have x10 : Ext H9 H10 := by rw [hH10]; exact Ext.push H9 _
  have g10 : H10.get H9.n = some ⟨tokC p9 d9 tz, 41, .tip, 1, []⟩ := by rw [hH10]; exact get_push_self
  have g8' := (x9.trans x10).get g8
  have e1 : tz.err = 1 := by rw [htz]
  have e2 : tz.at_ = n := by rw [htz]
  have x410 := (x48.trans x9).trans x10
  obtain ⟨u5, H11, c11, x11, rfl⟩ := c_JD hR ((hr.ext x34).ext x410) ((hrc.ext x34).ext x410) (s2.ext x410) (t2.ext x410) (by omega) (by omega)
  have g8'' := x11.get g8'
  have z : ((0 : Int) ≠ 0) = False := by simp
  have z1 : ((1 : Int) ≠ 1) = False := by simp
  have z2 : (n ≠ n) = False := by simp
  have z3' : ((3 : Int) ≠ 3) = False := by simp
  have z4' : ((2 : Int) ≠ 2) = False := by simp
  cases hj : joinsF L ah bu with
  | true =>
    rw [hj] at c5 c6 c11
    have hJ : joinT L ah tk = ⟨3, 2, [], 3⟩ := by unfold joinT; rw [htk, if_pos ⟨rfl, hj⟩]
    rw [hJ] at c7 hH8 g8 g8' g8''
    have z5 : ((3 : Int) = 3) = True := by simp
    have z6 : ((0 : Int) = 0) = True := by simp
    have hl0 : ∀ H2 : AHeap, vLen false (.slice p7 0 d7) H2 = some (.int .i64 ((0 : Nat) : Int), H2) := fun _ => rfl
    simp only [Int.natCast_zero] at hl0
    simp only [WA, isStore, isCall, isK, freshI, stampO, List.nil_append, Option.map_some, Option.map_none, Option.bind_some, List.map_cons, List.map_nil, if_true, if_false, Nat.reduceEqDiff, Int.reduceEq, Nat.reduceAdd, Nat.reduceMul, reduceCtorEq, eq_self, Int.reduceLT, Int.reduceLE, Int.reduceToNat, List.length_cons, List.length_nil, List.all_cons, List.all_nil, List.take_zero, List.drop_nil, List.append_nil, List.getElem?_cons_zero, List.getElem?_cons_succ, List.drop_succ_cons, List.drop_zero, List.take_succ_cons, List.cons_append, Nat.reduceLeDiff, Int.cast_ofNat_Int, o_awake15, c1, c2, v_nilp, z, c3, c4, hlu, hlv, k3, j3, s1', t1', c5, c6, beq_self_eq_true, hbld, c7, got_tok, ← hH8, wn, hbld2, c9, ← hH10, g10, tk0, tk1, tk2, tk3, e1, e2, z1, z2, g8', z3', z4', c11, g8'', z5, hl0, z6]
  | false =>
    rw [hj] at c5 c6 c11
    have hJ : joinT L ah tk = tk := by unfold joinT; rw [if_neg (fun h => by have h2 := h.2; rw [htk] at h2; simp only at h2; rw [hj] at h2; cases h2)]
    rw [hJ] at c7 hH8 g8 g8' g8'' q7
    obtain ⟨q71, q72, q73⟩ := tokQ_cells q7
    have f1 : tk.at_ = 3 := by rw [htk]
    have f2 : tk.len = 2 := by rw [htk]
    have f3 : tk.err = 0 := by rw [htk]
    have f4 : tk.out = bu := by rw [htk]
    have z6 : ((0 : Int) = 0) = True := by simp
    have cU := c_Units (q71.ext ((x8.trans (x9.trans x10)).trans x11)) (t2.ext (x410.trans x11)) q72
    rw [decide_eq_true f4] at cU
    simp only [WA, isStore, isCall, isK, freshI, stampO, List.nil_append, Option.map_some, Option.map_none, Option.bind_some, List.map_cons, List.map_nil, if_true, if_false, Nat.reduceEqDiff, Int.reduceEq, Nat.reduceAdd, Nat.reduceMul, reduceCtorEq, eq_self, Int.reduceLT, Int.reduceLE, Int.reduceToNat, List.length_cons, List.length_nil, List.all_cons, List.all_nil, List.take_zero, List.drop_nil, List.append_nil, List.getElem?_cons_zero, List.getElem?_cons_succ, List.drop_succ_cons, List.drop_zero, List.take_succ_cons, List.cons_append, Nat.reduceLeDiff, Int.cast_ofNat_Int, o_awake15, c1, c2, v_nilp, z, c3, c4, hlu, hlv, k3, j3, s1', t1', c5, c6, beq_self_eq_true, hbld, c7, got_tok, ← hH8, wn, hbld2, c9, ← hH10, g10, tk0, tk1, tk2, tk3, e1, e2, z1, z2, g8', f1, f2, f3, z3', z4', c11, g8'', z6, cU]
end Go.Proofs.Ytgonfmpmdahmcaa

/-! Layer 15: which rules have a table. -/
set_option linter.unusedSimpArgs false
set_option linter.unusedVariables false
namespace Go.Proofs.Ytgonfmpmdahmcaa
open Go Lon
set_option maxRecDepth 100000
theorem v_niln {H : AHeap} : vIsNil 0 false (.pointer none) H = some (.bool true, H) := rfl
theorem v_nilpt {H : AHeap} {t : Nat} : vIsNil 0 true (.pointer (some ⟨t, 0, none⟩)) H = some (.bool true, H) := rfl
theorem chk_zero {T : List Rl} : ∀ (j i : Nat), i + j = T.length → (chk T (T.drop i) i).2 = 0 → ∀ k r, i ≤ k → T[k]? = some r → (sideB r.1 = true ∧ sideB r.2 = true) ∧ fnd (T.take k) r.1 < 0 := by
  intro j
  induction j with
  | zero =>
    intro i hi _ k r hk hr
    have := (List.getElem?_eq_some_iff.1 hr).1
    omega
  | succ j ih =>
    intro i hi h k r hk hr
    obtain ⟨x, hx, hdx⟩ := drop_at (L := T) (i := i) (by omega)
    rw [hdx] at h
    unfold chk at h
    split at h
    · cases h
    · split at h
      · cases h
      · rename_i h2
        split at h
        · cases h
        · rename_i h3
          rcases Nat.lt_or_ge i k with hlt | hge
          · exact ih (i + 1) (by omega) h k r (by omega) hr
          · obtain rfl : i = k := by omega
            rw [hr] at hx
            injection hx with hx
            subst hx
            cases e1 : sideB r.1 <;> cases e2 : sideB r.2 <;> simp [e1, e2] at h2 ⊢
            omega
theorem chk_right0 {T : List Rl} (h : (chk T T 0).2 = 0) : Right T := by
  have := chk_zero (T := T) T.length 0 (by omega) (by rw [List.drop_zero]; exact h)
  refine ⟨fun r hr => ?_, fun k r hr => (this k r (Nat.zero_le _) hr).2⟩
  obtain ⟨k, hk, hkr⟩ := List.getElem_of_mem hr
  exact (this k r (Nat.zero_le _) (by rw [List.getElem?_eq_getElem hk, hkr])).1
theorem c_OfNo {a : Value} {L : List Rl} {H : AHeap} (ha : Rules H a L) (hC : Cut Try.prog H a 2) (h : (chk L L 0).2 ≠ 0) : Gives (cw Try.prog (tabF tab) om1 42 [a] H) fun v H' => Ext H H' ∧ v = .tuple ⟨[.pointer none, .int .i64 (chk L L 0).2]⟩ := by
  rw [cw_run (F := F_trie_Of) rfl rfl rfl]
  unfold F_trie_Of k_trie_Of
  obtain ⟨v, H1, c1, x1, rfl⟩ := c_Check ha hC
  have z : ((chk L L 0).2 ≠ 0) = True := eq_true h
  simp only [WA, isStore, isCall, isK, freshI, stampO, List.nil_append, Option.map_some, Option.map_none, Option.bind_some, List.map_cons, List.map_nil, if_true, if_false, Nat.reduceEqDiff, Int.reduceEq, Nat.reduceAdd, Nat.reduceMul, reduceCtorEq, eq_self, Int.reduceLT, Int.reduceLE, Int.reduceToNat, List.length_cons, List.length_nil, List.all_cons, List.all_nil, List.take_zero, List.drop_nil, List.append_nil, List.getElem?_cons_zero, List.getElem?_cons_succ, List.drop_succ_cons, List.drop_zero, List.take_succ_cons, List.cons_append, Nat.reduceLeDiff, Int.cast_ofNat_Int, c1, z]
  exact x1
theorem c_TOfNo {a : Value} {L : List Rl} {H : AHeap} (ha : Rules H a L) (hC : Cut Try.prog H a 2) (h : (chk L L 0).2 ≠ 0) : Gives (cw Try.prog (tabF tab) om1 16 [a] H) fun v H' => Ext H H' ∧ v = .tuple ⟨[.pointer none, .int .i64 (chk L L 0).2]⟩ := by
  rw [cw_run (F := F_table_Of) rfl rfl rfl]
  unfold F_table_Of k_table_Of
  obtain ⟨v1, H1, c1, x1, rfl⟩ := c_OfNo ha hC h
  have z : ((chk L L 0).2 ≠ 0) = True := eq_true h
  simp only [WA, isStore, isCall, isK, freshI, stampO, List.nil_append, Option.map_some, Option.map_none, Option.bind_some, List.map_cons, List.map_nil, if_true, if_false, Nat.reduceEqDiff, Int.reduceEq, Nat.reduceAdd, Nat.reduceMul, reduceCtorEq, eq_self, Int.reduceLT, Int.reduceLE, Int.reduceToNat, List.length_cons, List.length_nil, List.all_cons, List.all_nil, List.take_zero, List.drop_nil, List.append_nil, List.getElem?_cons_zero, List.getElem?_cons_succ, List.drop_succ_cons, List.drop_zero, List.take_succ_cons, List.cons_append, Nat.reduceLeDiff, Int.cast_ofNat_Int, c1, z]
  exact x1
theorem c_TOfOpen {a : Value} {L : List Rl} {H : AHeap} (ha : Rules H a L) (hC : Cut Try.prog H a 2) (hac : CutR H a) (hR : Right L) (hL : L.length ≤ 512) (hcl : clsF L L = false) : Gives (cw Try.prog (tabF tab) om1 16 [a] H) fun v H' => Ext H H' ∧ v = .tuple ⟨[.pointer none, .int .i64 10]⟩ := by
  rw [cw_run (F := F_table_Of) rfl rfl rfl]
  unfold F_table_Of k_table_Of
  obtain ⟨v1, H1, c1, x1, t1, rfl, hT1⟩ := c_OfT ha hC hR hL
  obtain ⟨v2, H2, c2, x2, rfl⟩ := c_closed (ha.ext x1) (hac.ext x1) (right_pos hR)
  rw [hcl] at c2
  have z : ((0 : Int) ≠ 0) = False := by simp
  simp only [WA, isStore, isCall, isK, freshI, stampO, List.nil_append, Option.map_some, Option.map_none, Option.bind_some, List.map_cons, List.map_nil, if_true, if_false, Nat.reduceEqDiff, Int.reduceEq, Nat.reduceAdd, Nat.reduceMul, reduceCtorEq, eq_self, Int.reduceLT, Int.reduceLE, Int.reduceToNat, List.length_cons, List.length_nil, List.all_cons, List.all_nil, List.take_zero, List.drop_nil, List.append_nil, List.getElem?_cons_zero, List.getElem?_cons_succ, List.drop_succ_cons, List.drop_zero, List.take_succ_cons, List.cons_append, Nat.reduceLeDiff, Int.cast_ofNat_Int, c1, z, c2]
  exact x1.trans x2
theorem c_TLong {q : Nat} {L : List Rl} {H : AHeap} (hT : TableOk H q L) : cw Try.prog (tabF tab) om1 30 [.pointer (some ⟨q, 0, none⟩)] H = some (.tuple ⟨[.int .i64 (lg L 0), .int .i64 (lg (trn L []) 0)]⟩, H) := by
  rw [cw_run (F := F_table_Table__Longest) rfl rfl rfl]
  unfold F_table_Table__Longest k_table_Table__Longest
  obtain ⟨ver, t1, t2, hq, hT1, hT2⟩ := hT.rest
  simp only [WA, isStore, isCall, isK, freshI, stampO, List.nil_append, Option.map_some, Option.map_none, Option.bind_some, List.map_cons, List.map_nil, if_true, if_false, Nat.reduceEqDiff, Int.reduceEq, Nat.reduceAdd, Nat.reduceMul, reduceCtorEq, eq_self, Int.reduceLT, Int.reduceLE, Int.reduceToNat, List.length_cons, List.length_nil, List.all_cons, List.all_nil, List.take_zero, List.drop_nil, List.append_nil, List.getElem?_cons_zero, List.getElem?_cons_succ, List.drop_succ_cons, List.drop_zero, List.take_succ_cons, List.cons_append, Nat.reduceLeDiff, Int.cast_ofNat_Int, hq]
theorem c_TRead {q : Nat} {L : List Rl} {H : AHeap} (hT : TableOk H q L) : ∃ t, cw Try.prog (tabF tab) om1 33 [.pointer (some ⟨q, 0, none⟩)] H = some (.pointer (some ⟨t, 0, none⟩), H) := by
  obtain ⟨ver, t1, t2, hq, hT1, hT2⟩ := hT.rest
  refine ⟨t1, ?_⟩
  rw [cw_run (F := F_table_Table__Read) rfl rfl rfl]
  unfold F_table_Table__Read k_table_Table__Read
  simp only [WA, isStore, isCall, isK, freshI, stampO, List.nil_append, Option.map_some, Option.map_none, Option.bind_some, List.map_cons, List.map_nil, if_true, if_false, Nat.reduceEqDiff, Int.reduceEq, Nat.reduceAdd, Nat.reduceMul, reduceCtorEq, eq_self, Int.reduceLT, Int.reduceLE, Int.reduceToNat, List.length_cons, List.length_nil, List.all_cons, List.all_nil, List.take_zero, List.drop_nil, List.append_nil, List.getElem?_cons_zero, List.getElem?_cons_succ, List.drop_succ_cons, List.drop_zero, List.take_succ_cons, List.cons_append, Nat.reduceLeDiff, Int.cast_ofNat_Int, hq]
theorem c_TWrite {q : Nat} {L : List Rl} {H : AHeap} (hT : TableOk H q L) : ∃ t, cw Try.prog (tabF tab) om1 34 [.pointer (some ⟨q, 0, none⟩)] H = some (.pointer (some ⟨t, 0, none⟩), H) := by
  obtain ⟨ver, t1, t2, hq, hT1, hT2⟩ := hT.rest
  refine ⟨t2, ?_⟩
  rw [cw_run (F := F_table_Table__Write) rfl rfl rfl]
  unfold F_table_Table__Write k_table_Table__Write
  simp only [WA, isStore, isCall, isK, freshI, stampO, List.nil_append, Option.map_some, Option.map_none, Option.bind_some, List.map_cons, List.map_nil, if_true, if_false, Nat.reduceEqDiff, Int.reduceEq, Nat.reduceAdd, Nat.reduceMul, reduceCtorEq, eq_self, Int.reduceLT, Int.reduceLE, Int.reduceToNat, List.length_cons, List.length_nil, List.all_cons, List.all_nil, List.take_zero, List.drop_nil, List.append_nil, List.getElem?_cons_zero, List.getElem?_cons_succ, List.drop_succ_cons, List.drop_zero, List.take_succ_cons, List.cons_append, Nat.reduceLeDiff, Int.cast_ofNat_Int, hq]
theorem law_TOf {a : Value} {R : List RowD} {H : AHeap} (ha : RowsAt H a R) : Gives (cw Try.prog (tabF tab) om1 9 [a] H) fun v H' => v = .bool true := by
  rw [cw_run (F := F_lontarlaw15_TableOf) rfl rfl rfl]
  unfold F_lontarlaw15_TableOf k_lontarlaw15_TableOf
  obtain ⟨v1, H1, c1, x1, o1, k1⟩ := c_Rules ha
  have h40 := RL_len R
  have hR := o1.rules (by omega)
  have hC : Cut Try.prog H1 v1 2 := o1.cut (by kernel_rfl)
  generalize RL R = L at *
  have z : ((0 : Int) ≠ 0) = False := by simp
  have z0 : ((0 : Int) = 0) = True := by simp
  by_cases h0 : (chk L L 0).2 ≠ 0
  · obtain ⟨v2, H2, c2, x2, rfl⟩ := c_TOfNo hR hC h0
    obtain ⟨v3, H3, c3, x3, rfl⟩ := c_Check (hR.ext x2) (hC.ext x2)
    have z1 : ((chk L L 0).2 ≠ 0) = True := eq_true h0
    have z2 : ((chk L L 0).2 = (chk L L 0).2) = True := by simp
    simp only [WA, isStore, isCall, isK, freshI, stampO, List.nil_append, Option.map_some, Option.map_none, Option.bind_some, List.map_cons, List.map_nil, if_true, if_false, Nat.reduceEqDiff, Int.reduceEq, Nat.reduceAdd, Nat.reduceMul, reduceCtorEq, eq_self, Int.reduceLT, Int.reduceLE, Int.reduceToNat, List.length_cons, List.length_nil, List.all_cons, List.all_nil, List.take_zero, List.drop_nil, List.append_nil, List.getElem?_cons_zero, List.getElem?_cons_succ, List.drop_succ_cons, List.drop_zero, List.take_succ_cons, List.cons_append, Nat.reduceLeDiff, Int.cast_ofNat_Int, o_awake15, c1, c2, c3, z1, v_niln, z2]
  · have h0' : (chk L L 0).2 = 0 := by omega
    have hg := chk_right0 h0'
    cases hcl : clsF L L with
    | false =>
      obtain ⟨v2, H2, c2, x2, rfl⟩ := c_TOfOpen hR hC k1 hg (by omega) hcl
      obtain ⟨v3, H3, c3, x3, rfl⟩ := c_Check (hR.ext x2) (hC.ext x2)
      rw [h0'] at c3
      have x23 := x2.trans x3
      obtain ⟨v4, H4, c4, x4, rfl⟩ := c_ClosedD (hR.ext x23) (k1.ext x23) (right_pos hg)
      rw [hcl] at c4
      have z2 : ((10 : Int) = 10) = True := by simp
      simp only [WA, isStore, isCall, isK, freshI, stampO, List.nil_append, Option.map_some, Option.map_none, Option.bind_some, List.map_cons, List.map_nil, if_true, if_false, Nat.reduceEqDiff, Int.reduceEq, Nat.reduceAdd, Nat.reduceMul, reduceCtorEq, eq_self, Int.reduceLT, Int.reduceLE, Int.reduceToNat, List.length_cons, List.length_nil, List.all_cons, List.all_nil, List.take_zero, List.drop_nil, List.append_nil, List.getElem?_cons_zero, List.getElem?_cons_succ, List.drop_succ_cons, List.drop_zero, List.take_succ_cons, List.cons_append, Nat.reduceLeDiff, Int.cast_ofNat_Int, o_awake15, c1, c2, c3, z, c4, v_niln, z2]
    | true =>
      obtain ⟨v2, H2, c2, x2, q, rfl, hT⟩ := c_TOf hR hC k1 hg (by omega) hcl
      obtain ⟨v3, H3, c3, x3, rfl⟩ := c_Check (hR.ext x2) (hC.ext x2)
      rw [h0'] at c3
      have x23 := x2.trans x3
      obtain ⟨v4, H4, c4, x4, rfl⟩ := c_ClosedD (hR.ext x23) (k1.ext x23) (right_pos hg)
      rw [hcl] at c4
      have x24 := x23.trans x4
      have x34 := x3.trans x4
      have c5 := c_TLong (hT.ext x34)
      obtain ⟨v6, H6, c6, x6, rfl⟩ := c_Longest (hR.ext x24)
      obtain ⟨v7, H7, c7, x7, o7, k7, l7⟩ := c_TurnC (right_small hg (by omega)) ((hR.ext x24).ext x6) ((k1.ext x24).ext x6)
      obtain ⟨v8, H8, c8, x8, rfl⟩ := c_Longest (o7.rules (by omega))
      have x48 := (x6.trans x7).trans x8
      obtain ⟨t1, c9⟩ := c_TRead ((hT.ext x34).ext x48)
      obtain ⟨t2, c10⟩ := c_TWrite ((hT.ext x34).ext x48)
      have z2 : ((lg L 0 : Int) = (lg L 0 : Int)) = True := by simp
      have z3 : ((lg (trn L []) 0 : Int) = (lg (trn L []) 0 : Int)) = True := by simp
      simp only [WA, isStore, isCall, isK, freshI, stampO, List.nil_append, Option.map_some, Option.map_none, Option.bind_some, List.map_cons, List.map_nil, if_true, if_false, Nat.reduceEqDiff, Int.reduceEq, Nat.reduceAdd, Nat.reduceMul, reduceCtorEq, eq_self, Int.reduceLT, Int.reduceLE, Int.reduceToNat, List.length_cons, List.length_nil, List.all_cons, List.all_nil, List.take_zero, List.drop_nil, List.append_nil, List.getElem?_cons_zero, List.getElem?_cons_succ, List.drop_succ_cons, List.drop_zero, List.take_succ_cons, List.cons_append, Nat.reduceLeDiff, Int.cast_ofNat_Int, o_awake15, c1, c2, c3, z, c4, v_nilp, c5, c6, z2, c7, c8, z3, c9, v_nilpt, c10]
end Go.Proofs.Ytgonfmpmdahmcaa

/-! What is written whole is read as it was: plain laws. -/
set_option linter.unusedSimpArgs false
set_option linter.unusedVariables false
namespace Go.Proofs.Ytgonfmpmdahmcaa
open Go Lon
def outs (T : List Tok) : List Int := T.flatMap (·.out)
def whole (T : List Tok) : Prop := ∀ t ∈ T, t.err = 0
theorem clsF_iff {L : List Rl} : ∀ {R : List Rl}, clsF L R = true ↔ ∀ r ∈ R, clsIn L r.1 (r.1.length - 1) = true
  | [] => by simp [clsF]
  | r :: R => by
    unfold clsF
    split
    · rename_i h
      rw [clsF_iff]
      constructor
      · intro hh x hx
        rcases List.mem_cons.1 hx with rfl | hx
        · exact h
        · exact hh x hx
      · intro hh x hx
        exact hh x (List.mem_cons_of_mem _ hx)
    · rename_i h
      simp only [Bool.false_eq_true, false_iff]
      intro hh
      exact h (hh r (List.mem_cons_self ..))
/-- A rule longer than two Ins has a rule of both. -/
theorem cls_two {L : List Rl} (hc : clsF L L = true) {r : Rl} (hr : r ∈ L) {n : Nat} (h1 : 1 < n) (h2 : n < r.1.length) : 0 ≤ fnd L (r.1.take n) := by
  have := clsIn_iff.1 (clsF_iff.1 hc r hr) n (by omega) (by omega)
  unfold badN at this
  rw [decide_eq_true h1, Bool.true_or, Bool.and_true, decide_eq_false_iff_not] at this
  omega
/-- Rules behind one another, none of which would be read with the next. -/
def chainJ (L : List Rl) : List Rl → Prop
  | [] => True
  | [_] => True
  | r :: r' :: P => joinsF L r.1 r'.1 = false ∧ chainJ L (r' :: P)
theorem lgs_chain {L : List Rl} (hR : Right L) (hc : clsF L L = true) {r : Rl} {P : List Rl} (hr : r ∈ L) (hP : ∀ x ∈ P, x ∈ L) (hj : chainJ L (r :: P)) : (lgs L (r.1 ++ P.flatMap (·.1))).1 = fnd L r.1 ∧ (lgs L (r.1 ++ P.flatMap (·.1))).2.1 = r.1.length := by
  have h0 := (side_len (hR.1 r hr).1).1
  have hfr : 0 ≤ fnd L r.1 := by
    obtain ⟨j, hj, hjr⟩ := List.getElem_of_mem hr
    rw [fnd_at hR.2 (show L[j]? = some r by rw [List.getElem?_eq_getElem hj, hjr])]
    omega
  refine (lgs_pre hR _).1.uniq ⟨by rw [List.length_append]; omega, fun h => by omega, fun _ => ⟨by rw [List.take_left], hfr⟩, fun m h1 h2 => ?_⟩
  rcases (by omega : fnd L ((r.1 ++ P.flatMap (·.1)).take m) < 0 ∨ 0 ≤ fnd L ((r.1 ++ P.flatMap (·.1)).take m)) with h | h
  · exact h
  · exfalso
    obtain ⟨x, hx1, hx2⟩ := fnd_some h
    have hxm := List.mem_of_getElem? hx1
    have hxl : x.1.length = m := by rw [hx2, List.length_take]; omega
    cases P with
    | nil => simp at h2; omega
    | cons r' P' =>
      obtain ⟨j1, _⟩ := hj
      have hr' := hP r' (List.mem_cons_self ..)
      have h0' := (side_len (hR.1 r' hr').1).1
      have hne : r.1 ≠ [] := fun e => by rw [e] at h0; simp at h0
      have hno : (lgs L (r.1 ++ r'.1)).2.1 ≤ r.1.length := by
        unfold joinsF at j1
        rw [decide_eq_true hne, Bool.true_and, decide_eq_false_iff_not] at j1
        omega
      obtain ⟨q1, q2, q3, q4⟩ := (lgs_pre hR (r.1 ++ r'.1)).1
      have hcat : r.1 ++ (r' :: P').flatMap (·.1) = (r.1 ++ r'.1) ++ P'.flatMap (·.1) := by simp
      rcases Nat.lt_or_ge (r.1.length + r'.1.length) m with hl | hl
      · have := cls_two hc hxm (show 1 < r.1.length + r'.1.length by omega) (by omega)
        rw [hx2, List.take_take, Nat.min_eq_left (by omega), hcat, List.take_append_of_le_length (by rw [List.length_append]; omega), List.take_of_length_le (by rw [List.length_append]; omega)] at this
        have h5 := q4 (r.1.length + r'.1.length) (by omega) (by rw [List.length_append]; omega)
        rw [List.take_of_length_le (by rw [List.length_append]; omega)] at h5
        omega
      · have h5 := q4 m (by omega) (by rw [List.length_append]; omega)
        rw [hcat, List.take_append_of_le_length (by rw [List.length_append]; omega)] at h
        omega
theorem read_chain {L : List Rl} (hR : Right L) (hc : clsF L L = true) : ∀ (P : List Rl) (a : Int), (∀ x ∈ P, x ∈ L) → chainJ L P → whole (allU L (P.flatMap (·.1)) a) ∧ outs (allU L (P.flatMap (·.1)) a) = P.flatMap (·.2)
  | [], a, _, _ => ⟨fun t h => (by cases h), rfl⟩
  | r :: P, a, hP, hj => by
    have hr := hP r (List.mem_cons_self ..)
    have hP' : ∀ x ∈ P, x ∈ L := fun x hx => hP x (List.mem_cons_of_mem _ hx)
    obtain ⟨h1, h2⟩ := lgs_chain hR hc hr hP' hj
    obtain ⟨j, hjl, hjr⟩ := List.getElem_of_mem hr
    have hgj : L[j]? = some r := by rw [List.getElem?_eq_getElem hjl, hjr]
    have hfj := fnd_at hR.2 hgj
    have h0 := (side_len (hR.1 r hr).1).1
    have hne : r.1 ++ P.flatMap (·.1) ≠ [] := fun e => by rw [(List.append_eq_nil_iff.1 e).1] at h0; simp at h0
    have hone : oneT L (r.1 ++ P.flatMap (·.1)) a = ⟨a, r.1.length, r.2, 0⟩ := by
      unfold oneT
      rw [h1, h2, hfj, if_neg (by omega)]
      simp only [Int.toNat_natCast, hgj]
    have hj' : chainJ L P := by
      cases P with
      | nil => trivial
      | cons r' P' => exact hj.2
    obtain ⟨w1, w2⟩ := read_chain hR hc P (a + r.1.length) hP' hj'
    rw [List.flatMap_cons, allU_cons hR hne, hone]
    simp only [Int.toNat_natCast, List.drop_left]
    refine ⟨fun t ht => ?_, ?_⟩
    · rcases List.mem_cons.1 ht with rfl | ht
      · rfl
      · exact w1 t ht
    · unfold outs at w2 ⊢
      rw [List.flatMap_cons, List.flatMap_cons, w2]
/-- Tokens that are whole come from rules. -/
theorem whole_rules {W : List Rl} (hR : Right W) : ∀ (c : Nat) (us : List Int) (a : Int), us.length ≤ c → whole (allU W us a) → ∃ P : List Rl, (∀ x ∈ P, x ∈ W) ∧ P.flatMap (·.1) = us ∧ (allU W us a).map (·.out) = P.map (·.2) := by
  intro c
  induction c with
  | zero =>
    intro us a h _
    have : us = [] := List.length_eq_zero_iff.1 (by omega)
    subst this
    exact ⟨[], fun x h => (by cases h), rfl, rfl⟩
  | succ c ih =>
    intro us a h hw
    by_cases hn : us = []
    · subst hn
      exact ⟨[], fun x h => (by cases h), rfl, rfl⟩
    · obtain ⟨n, e, n1, n2⟩ := oneT_len hR hn a
      rw [allU_cons hR hn, e, Int.toNat_natCast] at hw ⊢
      have h0 := hw _ (List.mem_cons_self ..)
      rcases oneT_is hR hn a with ⟨q1, _⟩ | ⟨k, nn, r, q1, q2, q3, q4, q5, q6, q7, q8, q9⟩
      · rw [q1] at h0; exact absurd h0 (by decide : ¬ ((3 : Int) = 0))
      · have en : nn = n := by rw [q9] at e; simp only at e; omega
        subst en
        obtain ⟨P, p1, p2, p3⟩ := ih (us.drop nn) (a + nn) (by rw [List.length_drop]; omega) (fun t ht => hw t (List.mem_cons_of_mem _ ht))
        refine ⟨r :: P, fun x hx => ?_, ?_, ?_⟩
        · rcases List.mem_cons.1 hx with rfl | hx
          · exact List.mem_of_getElem? q5
          · exact p1 x hx
        · rw [List.flatMap_cons, p2, q6, List.take_append_drop]
        · rw [List.map_cons, List.map_cons, p3, q9]
/-- What is written whole is what was to be written, and none of it would be read with the next. -/
theorem enc_whole {L : List Rl} : ∀ {X : List Tok} {ah : List Int}, whole (encF L ah X) → encF L ah X = X ∧ whole X ∧ (∀ x X', X = x :: X' → joinsF L ah x.out = false)
  | [], ah, h => ⟨rfl, h, fun x X' e => by cases e⟩
  | x :: X, ah, h => by
    unfold encF at h ⊢
    have h0 := h _ (List.mem_cons_self ..)
    have hj := joinT_out h0
    rw [if_pos h0] at h ⊢
    rw [hj] at h ⊢
    obtain ⟨h1, h2, _⟩ := enc_whole (X := X) (ah := x.out) fun t ht => h t (List.mem_cons_of_mem _ ht)
    refine ⟨by rw [h1], fun t ht => ?_, fun y X' e => ?_⟩
    · rcases List.mem_cons.1 ht with rfl | ht
      · rw [hj] at h0; exact h0
      · exact h2 t ht
    · injection e with e1 e2
      subst e1
      cases hjj : joinsF L ah x.out with
      | false => rfl
      | true =>
        exfalso
        have hx0 : x.err = 0 := by rw [hj] at h0; exact h0
        have hj2 := hj
        unfold joinT at hj2
        rw [if_pos ⟨hx0, hjj⟩] at hj2
        have := congrArg Tok.err hj2
        simp only at this
        rw [hx0] at this
        exact absurd this (by decide)
theorem enc_chain {L : List Rl} : ∀ {X : List Tok} {ah : List Int} {P : List Rl}, whole (encF L ah X) → X.map (·.out) = P.map (·.1) → chainJ L P
  | [], ah, P, h, e => by
    have : P = [] := by cases P with | nil => rfl | cons => cases e
    subst this; trivial
  | x :: X, ah, P, h, e => by
    cases P with
    | nil => cases e
    | cons r P =>
      rw [List.map_cons, List.map_cons] at e
      injection e with e1 e2
      have h0 := h _ (by unfold encF; exact List.mem_cons_self ..)
      have ht : whole (encF L x.out X) := by
        unfold encF at h
        rw [if_pos h0] at h
        exact fun t ht => h t (List.mem_cons_of_mem _ ht)
      have hrec := enc_chain (X := X) (ah := x.out) (P := P) ht e2
      cases P with
      | nil => trivial
      | cons r' P' =>
        cases X with
        | nil => cases e2
        | cons x' X' =>
          have := (enc_whole ht).2.2 x' X' rfl
          rw [List.map_cons, List.map_cons] at e2
          injection e2 with e3 e4
          rw [e1, e3] at this
          exact ⟨this, hrec⟩
/-- **What is written whole is read as it was.** -/
theorem back {L : List Rl} (hR : Right L) (hc : clsF L L = true) {us : List Int} (h : whole (encU L us)) (a : Int) : whole (allU L (outs (encU L us)) a) ∧ outs (allU L (outs (encU L us)) a) = us := by
  unfold encU at h ⊢
  obtain ⟨h1, h2, _⟩ := enc_whole h
  have hW : Right (trn L []) := trn_right hR
  obtain ⟨P, p1, p2, p3⟩ := whole_rules hW us.length us 0 (Nat.le_refl _) h2
  have hQ : (P.map fun r => (r.2, r.1)).flatMap (·.1) = outs (allU (trn L []) us 0) := by
    unfold outs
    rw [List.flatMap_def, List.flatMap_def, p3, List.map_map]
    rfl
  have hQ2 : (P.map fun r => (r.2, r.1)).flatMap (·.2) = us := by
    rw [← p2, List.flatMap_def, List.flatMap_def, List.map_map]
    rfl
  have hQL : ∀ x ∈ (P.map fun r => ((r.2, r.1) : Rl)), x ∈ L := by
    intro x hx
    obtain ⟨r, hr, rfl⟩ := List.mem_map.1 hx
    rcases trn_mem (p1 r hr) with h | h
    · cases h
    · exact h
  have hch : chainJ L (P.map fun r => (r.2, r.1)) := enc_chain (X := allU (trn L []) us 0) (ah := []) h (by rw [p3, List.map_map]; rfl)
  obtain ⟨w1, w2⟩ := read_chain hR hc _ a hQL hch
  rw [h1, ← hQ]
  exact ⟨w1, by rw [w2, hQ2]⟩
end Go.Proofs.Ytgonfmpmdahmcaa

/-! Units gathered from tokens. -/
set_option linter.unusedSimpArgs false
set_option linter.unusedVariables false
namespace Go.Proofs.Ytgonfmpmdahmcaa
open Go Lon
set_option maxRecDepth 100000
abbrev OwnI (H : AHeap) (v : Value) (l : List Int) : Prop := Own H 3 1 v l.length (ints l)
theorem OwnI.nil {H : AHeap} : OwnI H (.slice none 0 0) [] := ⟨rfl, .inl ⟨rfl, rfl⟩⟩
theorem OwnI.asI {H : AHeap} {v : Value} {l : List Int} (h : OwnI H v l) : Ints H v l := h.sl
theorem OwnI.cutI {H : AHeap} {v : Value} {l : List Int} (h : OwnI H v l) : Cut Try.prog H v 1 := Own.cut h (by kernel_rfl)
theorem OwnI.add {H0 H : AHeap} {v x : Value} {l m : List Int} (ho : OwnI H v l) (hf : From H0.n v) (hx : Ext H0 H) (hi : Ints H x m) (hs : l.length + m.length < 100000000) :
    ∃ v' H', appendA H v x 3 1 8 = some (v', H') ∧ OwnI H' v' (l ++ m) ∧ From H0.n v' ∧ Ext H0 H' := by
  by_cases hm : m = []
  · subst hm
    refine ⟨v, H, ?_, by rw [List.append_nil]; exact ho, hf, hx⟩
    obtain ⟨⟨b1, b2, rfl⟩, hbc⟩ := hi
    obtain ⟨⟨d1, d2, rfl⟩, hdc⟩ := ho.sl
    unfold appendA
    simp only [hbc, hdc]
    exact if_pos List.length_nil
  · obtain ⟨v2, H2, q1, q2, q3, q4, q5, q6⟩ := Own.append2 (bytes := 8) ho hi (List.length_pos_iff.2 hm) (ones_ints m) (by omega)
    refine ⟨v2, H2, q1, ?_, q3.mono hx.1, Ext.grow hx q5 q6 hf⟩
    unfold OwnI
    rw [List.length_append]
    have : ints l ++ ints m = ints (l ++ m) := by simp [Lon.ints]
    rw [← this]
    exact q2
/-- A token's Out laid behind units. -/
theorem addTok {H0 H : AHeap} {w v : Value} {T : List Tok} {k : Nat} {x : Tok} {l : List Int} (hT : Toks Try.prog H0 w T) (hk : T[k]? = some x) (ho : OwnI H v l) (hf : From H0.n v) (hx : Ext H0 H) (hs : l.length + x.out.length < 100000000) :
    ∃ i o p c H1 v' H2, (∀ (kd : IntKind) (H2 : AHeap), vIaddr w (.int kd k) 4 H2 = some (.pointer (some ⟨i, o, none⟩), H2)) ∧ gotLoad (H.get i) o (some 4) H = some (.agg ⟨tokC p c x⟩, H) ∧ H1 = H.push ⟨tokC p c x, 41, .tip, 1, []⟩ ∧ H1.get H.n = some ⟨tokC p c x, 41, .tip, 1, []⟩ ∧
      appendA H1 v (.slice p x.out.length c) 3 1 8 = some (v', H2) ∧ OwnI H2 v' (l ++ x.out) ∧ From H0.n v' ∧ Ext H0 H2 ∧ Ext H0 H1 ∧ OwnI H1 v l := by
  obtain ⟨i, o, p, c, a1, a2, a3, a4, a5, a6, a7, a8, a9⟩ := Toks.at' (hT.ext tokQ_mono hx) hk
  have x1 := Ext.push H ⟨tokC p c x, 41, .tip, 1, []⟩
  obtain ⟨v', H2, m1, m2, m3, m4⟩ := OwnI.add (ho.ext x1) hf (hx.trans x1) (a7.ext x1) hs
  exact ⟨i, o, p, c, _, v', H2, a1, a6, rfl, get_push_self, m1, m2, m3, m4, hx.trans x1, ho.ext x1⟩
theorem outs_cons {x : Tok} {T : List Tok} : T.flatMap (·.out) = T.flatMap (·.out) := rfl
end Go.Proofs.Ytgonfmpmdahmcaa

/-! Layer 15: what is written whole is read as it was. -/
set_option linter.unusedSimpArgs false
set_option linter.unusedVariables false
namespace Go.Proofs.Ytgonfmpmdahmcaa
open Go Lon
set_option maxRecDepth 100000
theorem outs_step {x : Tok} {T : List Tok} {l : List Int} {k : Nat} (h : T.drop k = x :: T.drop (k + 1)) : l ++ outs (T.drop k) = (l ++ x.out) ++ outs (T.drop (k + 1)) := by
  rw [h]; simp [outs]
theorem outs_nil : outs [] = [] := rfl
theorem encF_len {L : List Rl} : ∀ {X : List Tok} {ah : List Int}, (encF L ah X).length = X.length
  | [], ah => rfl
  | x :: X, ah => by unfold encF; rw [List.length_cons, List.length_cons, encF_len]
theorem encF_outs {L : List Rl} : ∀ {X : List Tok} {ah : List Int}, (∀ x ∈ X, x.out.length ≤ 8) → ∀ x ∈ encF L ah X, x.out.length ≤ 8
  | [], ah, h, x, hx => by cases hx
  | y :: X, ah, h, x, hx => by
    unfold encF at hx
    rcases List.mem_cons.1 hx with rfl | hx
    · unfold joinT
      split
      · exact Nat.zero_le _
      · exact h y (List.mem_cons_self ..)
    · exact encF_outs (fun z hz => h z (List.mem_cons_of_mem _ hz)) x hx
theorem outs_len {T : List Tok} (h : ∀ x ∈ T, x.out.length ≤ 8) : (outs T).length ≤ 8 * T.length := by
  induction T with
  | nil => simp [outs]
  | cons x T ih =>
    have h1 := h x (List.mem_cons_self ..)
    have h2 := ih fun y hy => h y (List.mem_cons_of_mem _ hy)
    unfold outs at h2 ⊢
    rw [List.flatMap_cons, List.length_append, List.length_cons]
    omega
theorem encU_few {L : List Rl} (hR : Right L) {us : List Int} : (encU L us).length ≤ us.length ∧ ∀ x ∈ encU L us, x.out.length ≤ 8 := by
  unfold encU
  rw [encF_len]
  exact ⟨allU_len (trn_right hR) us.length us 0 (Nat.le_refl _), encF_outs (allU_outs (trn_right hR) us.length us 0 (Nat.le_refl _))⟩
theorem l_B0 {H0 : AHeap} {w z5 z7 : Value} {T : List Tok} (hT : Toks Try.prog H0 w T) (hT8 : ∀ x ∈ T, x.out.length ≤ 8) (hTl : T.length < 10000) : ∀ (c k : Nat) (H : AHeap) (v : Value) (l : List Int), k + c = T.length → OwnI H v l → From H0.n v → Ext H0 H → l.length ≤ 8 * k →
    Out (run Try.prog (tabF tab) om1 (.loop [5, 7, 8, 32, 33, 34] b_lontarlaw15_TableBack_0) [(5, z5), (7, z7), (8, v), (32, w), (33, .int .i64 T.length), (34, .int .i64 k)] H) fun y e' H' => (whole (T.drop k) ∧ y = .exit 0 ∧ eget e' 5 = z5 ∧ eget e' 7 = z7 ∧ OwnI H' (eget e' 8) (l ++ outs (T.drop k)) ∧ From H0.n (eget e' 8) ∧ Ext H0 H') ∨ (y = .ret ∧ eget e' 4 = .bool true) := by
  intro c
  induction c with
  | zero =>
    intro k H v l hk ho hf hx hl
    have hlt : ¬ ((k : Int) < T.length) := by omega
    rw [w_loop_b b_lontarlaw15_TableBack_0.eq_1, List.drop_of_length_le (by omega)]
    simp only [WA, isStore, isCall, isK, freshI, stampO, List.nil_append, Option.map_some, Option.map_none, Option.bind_some, List.map_cons, List.map_nil, if_true, if_false, Nat.reduceEqDiff, Int.reduceEq, Nat.reduceAdd, Nat.reduceMul, reduceCtorEq, eq_self, Int.reduceLT, Int.reduceLE, Int.reduceToNat, List.length_cons, List.length_nil, List.all_cons, List.all_nil, List.take_zero, List.drop_nil, List.append_nil, List.getElem?_cons_zero, List.getElem?_cons_succ, List.drop_succ_cons, List.drop_zero, List.take_succ_cons, List.cons_append, Nat.reduceLeDiff, Int.cast_ofNat_Int, hlt, outs_nil]
    exact .inl ⟨fun t h => (by cases h), ho, hf, hx⟩
  | succ c ih =>
    intro k H v l hk ho hf hx hl
    have hlt : (k : Int) < T.length := by omega
    obtain ⟨x, hxk, hdx⟩ := drop_at (L := T) (i := k) (by omega)
    have hx8 := hT8 x (List.mem_of_getElem? hxk)
    obtain ⟨i, o, p, cc, H1, v', H2, a1, a2, hH1, g1, m1, m2, m3, m4, m5, m6⟩ := addTok hT hxk ho hf hx (by omega)
    have hw2 : IntKind.i64.wrap ((k : Int) + 1) = ((k + 1 : Nat) : Int) := by rw [wrap64 (by omega) (by omega)]; omega
    rw [w_loop_b b_lontarlaw15_TableBack_0.eq_1]
    by_cases he : x.err = 0
    · have he' : (x.err ≠ 0) = False := by simp [he]
      obtain ⟨y, e', H', r1, r2⟩ := ih (k + 1) H2 v' (l ++ x.out) (by omega) m2 m3 m4 (by rw [List.length_append]; omega)
      rw [← outs_step hdx] at r2
      simp only [WA, isStore, isCall, isK, freshI, stampO, List.nil_append, Option.map_some, Option.map_none, Option.bind_some, List.map_cons, List.map_nil, if_true, if_false, Nat.reduceEqDiff, Int.reduceEq, Nat.reduceAdd, Nat.reduceMul, reduceCtorEq, eq_self, Int.reduceLT, Int.reduceLE, Int.reduceToNat, List.length_cons, List.length_nil, List.all_cons, List.all_nil, List.take_zero, List.drop_nil, List.append_nil, List.getElem?_cons_zero, List.getElem?_cons_succ, List.drop_succ_cons, List.drop_zero, List.take_succ_cons, List.cons_append, Nat.reduceLeDiff, Int.cast_ofNat_Int, hlt, a1, a2, got_tok, ← hH1, g1, tk2, tk3, he', m1, hw2]
      rw [w_enter]
      simp only [WA, isStore, isCall, isK, freshI, stampO, List.nil_append, Option.map_some, Option.map_none, Option.bind_some, List.map_cons, List.map_nil, if_true, if_false, Nat.reduceEqDiff, Int.reduceEq, Nat.reduceAdd, Nat.reduceMul, reduceCtorEq, eq_self, Int.reduceLT, Int.reduceLE, Int.reduceToNat, List.length_cons, List.length_nil, List.all_cons, List.all_nil, List.take_zero, List.drop_nil, List.append_nil, List.getElem?_cons_zero, List.getElem?_cons_succ, List.drop_succ_cons, List.drop_zero, List.take_succ_cons, List.cons_append, Nat.reduceLeDiff, Int.cast_ofNat_Int, r1]
      rcases r2 with ⟨q1, q2⟩ | q
      · refine .inl ⟨fun t ht => ?_, q2⟩
        rw [hdx] at ht
        rcases List.mem_cons.1 ht with rfl | ht
        · exact he
        · exact q1 t ht
      · exact .inr q
    · have he' : (x.err ≠ 0) = True := by simp [he]
      simp only [WA, isStore, isCall, isK, freshI, stampO, List.nil_append, Option.map_some, Option.map_none, Option.bind_some, List.map_cons, List.map_nil, if_true, if_false, Nat.reduceEqDiff, Int.reduceEq, Nat.reduceAdd, Nat.reduceMul, reduceCtorEq, eq_self, Int.reduceLT, Int.reduceLE, Int.reduceToNat, List.length_cons, List.length_nil, List.all_cons, List.all_nil, List.take_zero, List.drop_nil, List.append_nil, List.getElem?_cons_zero, List.getElem?_cons_succ, List.drop_succ_cons, List.drop_zero, List.take_succ_cons, List.cons_append, Nat.reduceLeDiff, Int.cast_ofNat_Int, hlt, a1, a2, got_tok, ← hH1, g1, tk2, tk3, he']
      exact .inr trivial
theorem l_B1 {H0 : AHeap} {w z7 : Value} {T : List Tok} (hT : Toks Try.prog H0 w T) (hT8 : ∀ x ∈ T, x.out.length ≤ 8) (hTl : T.length < 10000) (hw : whole T) : ∀ (c k : Nat) (H : AHeap) (v : Value) (l : List Int), k + c = T.length → OwnI H v l → From H0.n v → Ext H0 H → l.length ≤ 8 * k →
    Out (run Try.prog (tabF tab) om1 (.loop [7, 11, 48, 49, 50] b_lontarlaw15_TableBack_1) [(7, z7), (11, v), (48, w), (49, .int .i64 T.length), (50, .int .i64 k)] H) fun y e' H' => y = .exit 2 ∧ eget e' 7 = z7 ∧ OwnI H' (eget e' 11) (l ++ outs (T.drop k)) ∧ Ext H0 H' := by
  intro c
  induction c with
  | zero =>
    intro k H v l hk ho hf hx hl
    have hlt : ¬ ((k : Int) < T.length) := by omega
    rw [w_loop_b b_lontarlaw15_TableBack_1.eq_1, List.drop_of_length_le (by omega)]
    simp only [WA, isStore, isCall, isK, freshI, stampO, List.nil_append, Option.map_some, Option.map_none, Option.bind_some, List.map_cons, List.map_nil, if_true, if_false, Nat.reduceEqDiff, Int.reduceEq, Nat.reduceAdd, Nat.reduceMul, reduceCtorEq, eq_self, Int.reduceLT, Int.reduceLE, Int.reduceToNat, List.length_cons, List.length_nil, List.all_cons, List.all_nil, List.take_zero, List.drop_nil, List.append_nil, List.getElem?_cons_zero, List.getElem?_cons_succ, List.drop_succ_cons, List.drop_zero, List.take_succ_cons, List.cons_append, Nat.reduceLeDiff, Int.cast_ofNat_Int, hlt, outs_nil]
    exact ⟨ho, hx⟩
  | succ c ih =>
    intro k H v l hk ho hf hx hl
    have hlt : (k : Int) < T.length := by omega
    obtain ⟨x, hxk, hdx⟩ := drop_at (L := T) (i := k) (by omega)
    have hx8 := hT8 x (List.mem_of_getElem? hxk)
    obtain ⟨i, o, p, cc, H1, v', H2, a1, a2, hH1, g1, m1, m2, m3, m4, m5, m6⟩ := addTok hT hxk ho hf hx (by omega)
    have hw2 : IntKind.i64.wrap ((k : Int) + 1) = ((k + 1 : Nat) : Int) := by rw [wrap64 (by omega) (by omega)]; omega
    have he := hw x (List.mem_of_getElem? hxk)
    have he' : (x.err ≠ 0) = False := by simp [he]
    obtain ⟨y, e', H', r1, r2⟩ := ih (k + 1) H2 v' (l ++ x.out) (by omega) m2 m3 m4 (by rw [List.length_append]; omega)
    rw [← outs_step hdx] at r2
    rw [w_loop_b b_lontarlaw15_TableBack_1.eq_1]
    simp only [WA, isStore, isCall, isK, freshI, stampO, List.nil_append, Option.map_some, Option.map_none, Option.bind_some, List.map_cons, List.map_nil, if_true, if_false, Nat.reduceEqDiff, Int.reduceEq, Nat.reduceAdd, Nat.reduceMul, reduceCtorEq, eq_self, Int.reduceLT, Int.reduceLE, Int.reduceToNat, List.length_cons, List.length_nil, List.all_cons, List.all_nil, List.take_zero, List.drop_nil, List.append_nil, List.getElem?_cons_zero, List.getElem?_cons_succ, List.drop_succ_cons, List.drop_zero, List.take_succ_cons, List.cons_append, Nat.reduceLeDiff, Int.cast_ofNat_Int, hlt, a1, a2, got_tok, ← hH1, g1, tk2, tk3, he', m1, hw2]
    rw [w_enter]
    simp only [WA, isStore, isCall, isK, freshI, stampO, List.nil_append, Option.map_some, Option.map_none, Option.bind_some, List.map_cons, List.map_nil, if_true, if_false, Nat.reduceEqDiff, Int.reduceEq, Nat.reduceAdd, Nat.reduceMul, reduceCtorEq, eq_self, Int.reduceLT, Int.reduceLE, Int.reduceToNat, List.length_cons, List.length_nil, List.all_cons, List.all_nil, List.take_zero, List.drop_nil, List.append_nil, List.getElem?_cons_zero, List.getElem?_cons_succ, List.drop_succ_cons, List.drop_zero, List.take_succ_cons, List.cons_append, Nat.reduceLeDiff, Int.cast_ofNat_Int, r1]
    exact r2
theorem law_Back {a b : Value} {R : List RowD} {l : List Int} {H : AHeap} (ha : RowsAt H a R) (hb : U8s H b l) : Gives (cw Try.prog (tabF tab) om1 6 [a, b] H) fun v H' => v = .bool true := by
  obtain ⟨hb, hbc, hbb, hbt⟩ := hb
  rw [cw_run (F := F_lontarlaw15_TableBack) rfl rfl rfl]
  unfold F_lontarlaw15_TableBack k_lontarlaw15_TableBack
  obtain ⟨v1, H1, q, H2, L, c1, c2, x2, hT, hr, hrc, h40, hR, hcl⟩ := startT ha
  obtain ⟨w1, H3, c3, x3, y3, z3⟩ := c_Some (hb.ext x2) (hbc.ext x2) hbb hbt
  have hsl := som_len (l := l)
  generalize som l = us at *
  obtain ⟨w2, H4, c4, x4, y4, f4⟩ := c_Enc (hT.ext x3) y3 z3 (by omega)
  obtain ⟨n1, n2⟩ := encU_few hR (us := us)
  have hl4 := y4.rws.len (H2 := H4)
  have z : ((0 : Int) ≠ 0) = False := by simp
  obtain ⟨y, e', H5, r1, r2⟩ := l_B0 (z5 := .pointer (some ⟨q, 0, none⟩)) (z7 := w1) y4.rws n2 (by omega) (encU L us).length 0 H4 (.slice none 0 0) [] (by omega) OwnI.nil trivial (Ext.refl _) (Nat.zero_le _)
  rw [List.drop_zero, List.nil_append] at r2
  simp only [Int.cast_ofNat_Int] at r1
  rcases r2 with ⟨q1, rfl, q2, q3, q4, q5, x5⟩ | ⟨rfl, q1⟩
  · obtain ⟨b1, b2⟩ := back hR hcl q1 0
    have hob := outs_len n2
    have x35 := x4.trans x5
    obtain ⟨w6, H6, c6, x6, y6, f6⟩ := c_Decode ((hT.ext x3).ext x35) (OwnI.asI q4) (OwnI.cutI q4) (by omega)
    have hl6 := y6.rws.len (H2 := H6)
    have hal := allU_len hR (outs (encU L us)).length (outs (encU L us)) 0 (Nat.le_refl _)
    obtain ⟨y, e2, H7, t1, rfl, t2, t3, x7⟩ := l_B1 (z7 := w1) y6.rws (allU_outs hR (outs (encU L us)).length (outs (encU L us)) 0 (Nat.le_refl _)) (by omega) b1 (allU L (outs (encU L us)) 0).length 0 H6 (.slice none 0 0) [] (by omega) OwnI.nil trivial (Ext.refl _) (Nat.zero_le _)
    rw [List.drop_zero, List.nil_append, b2] at t3
    have cU := c_Units (OwnI.asI t3) (y3.ext ((x35.trans x6).trans x7)) (by omega)
    rw [decide_eq_true rfl] at cU
    simp only [Int.cast_ofNat_Int] at t1
    simp only [WA, isStore, isCall, isK, freshI, stampO, List.nil_append, Option.map_some, Option.map_none, Option.bind_some, List.map_cons, List.map_nil, if_true, if_false, Nat.reduceEqDiff, Int.reduceEq, Nat.reduceAdd, Nat.reduceMul, reduceCtorEq, eq_self, Int.reduceLT, Int.reduceLE, Int.reduceToNat, List.length_cons, List.length_nil, List.all_cons, List.all_nil, List.take_zero, List.drop_nil, List.append_nil, List.getElem?_cons_zero, List.getElem?_cons_succ, List.drop_succ_cons, List.drop_zero, List.take_succ_cons, List.cons_append, Nat.reduceLeDiff, Int.cast_ofNat_Int, o_awake15, c1, c2, v_nilp, z, c3, c4, hl4]
    rw [w_enter]
    simp only [WA, isStore, isCall, isK, freshI, stampO, List.nil_append, Option.map_some, Option.map_none, Option.bind_some, List.map_cons, List.map_nil, if_true, if_false, Nat.reduceEqDiff, Int.reduceEq, Nat.reduceAdd, Nat.reduceMul, reduceCtorEq, eq_self, Int.reduceLT, Int.reduceLE, Int.reduceToNat, List.length_cons, List.length_nil, List.all_cons, List.all_nil, List.take_zero, List.drop_nil, List.append_nil, List.getElem?_cons_zero, List.getElem?_cons_succ, List.drop_succ_cons, List.drop_zero, List.take_succ_cons, List.cons_append, Nat.reduceLeDiff, Int.cast_ofNat_Int, r1, q2, q3, c6, hl6]
    rw [w_enter]
    simp only [WA, isStore, isCall, isK, freshI, stampO, List.nil_append, Option.map_some, Option.map_none, Option.bind_some, List.map_cons, List.map_nil, if_true, if_false, Nat.reduceEqDiff, Int.reduceEq, Nat.reduceAdd, Nat.reduceMul, reduceCtorEq, eq_self, Int.reduceLT, Int.reduceLE, Int.reduceToNat, List.length_cons, List.length_nil, List.all_cons, List.all_nil, List.take_zero, List.drop_nil, List.append_nil, List.getElem?_cons_zero, List.getElem?_cons_succ, List.drop_succ_cons, List.drop_zero, List.take_succ_cons, List.cons_append, Nat.reduceLeDiff, Int.cast_ofNat_Int, q3, t1, t2, cU]
  · simp only [WA, isStore, isCall, isK, freshI, stampO, List.nil_append, Option.map_some, Option.map_none, Option.bind_some, List.map_cons, List.map_nil, if_true, if_false, Nat.reduceEqDiff, Int.reduceEq, Nat.reduceAdd, Nat.reduceMul, reduceCtorEq, eq_self, Int.reduceLT, Int.reduceLE, Int.reduceToNat, List.length_cons, List.length_nil, List.all_cons, List.all_nil, List.take_zero, List.drop_nil, List.append_nil, List.getElem?_cons_zero, List.getElem?_cons_succ, List.drop_succ_cons, List.drop_zero, List.take_succ_cons, List.cons_append, Nat.reduceLeDiff, Int.cast_ofNat_Int, o_awake15, c1, c2, v_nilp, z, c3, c4, hl4]
    rw [w_enter]
    simp only [WA, isStore, isCall, isK, freshI, stampO, List.nil_append, Option.map_some, Option.map_none, Option.bind_some, List.map_cons, List.map_nil, if_true, if_false, Nat.reduceEqDiff, Int.reduceEq, Nat.reduceAdd, Nat.reduceMul, reduceCtorEq, eq_self, Int.reduceLT, Int.reduceLE, Int.reduceToNat, List.length_cons, List.length_nil, List.all_cons, List.all_nil, List.take_zero, List.drop_nil, List.append_nil, List.getElem?_cons_zero, List.getElem?_cons_succ, List.drop_succ_cons, List.drop_zero, List.take_succ_cons, List.cons_append, Nat.reduceLeDiff, Int.cast_ofNat_Int, r1, q1]
theorem l_T0 {H0 : AHeap} {w z5 : Value} {T : List Tok} (hT : Toks Try.prog H0 w T) (hT8 : ∀ x ∈ T, x.out.length ≤ 8) (hTl : T.length < 10000) : ∀ (c k : Nat) (H : AHeap) (v : Value) (l : List Int), k + c = T.length → OwnI H v l → From H0.n v → Ext H0 H → l.length ≤ 8 * k →
    Out (run Try.prog (tabF tab) om1 (.loop [5, 7, 33, 34, 35] b_lontarlaw15_TableTurn_0) [(5, z5), (7, v), (33, w), (34, .int .i64 T.length), (35, .int .i64 k)] H) fun y e' H' => y = .exit 0 ∧ eget e' 5 = z5 ∧ OwnI H' (eget e' 7) (l ++ outs (T.drop k)) ∧ Ext H0 H' := by
  intro c
  induction c with
  | zero =>
    intro k H v l hk ho hf hx hl
    have hlt : ¬ ((k : Int) < T.length) := by omega
    rw [w_loop_b b_lontarlaw15_TableTurn_0.eq_1, List.drop_of_length_le (by omega)]
    simp only [WA, isStore, isCall, isK, freshI, stampO, List.nil_append, Option.map_some, Option.map_none, Option.bind_some, List.map_cons, List.map_nil, if_true, if_false, Nat.reduceEqDiff, Int.reduceEq, Nat.reduceAdd, Nat.reduceMul, reduceCtorEq, eq_self, Int.reduceLT, Int.reduceLE, Int.reduceToNat, List.length_cons, List.length_nil, List.all_cons, List.all_nil, List.take_zero, List.drop_nil, List.append_nil, List.getElem?_cons_zero, List.getElem?_cons_succ, List.drop_succ_cons, List.drop_zero, List.take_succ_cons, List.cons_append, Nat.reduceLeDiff, Int.cast_ofNat_Int, hlt, outs_nil]
    exact ⟨ho, hx⟩
  | succ c ih =>
    intro k H v l hk ho hf hx hl
    have hlt : (k : Int) < T.length := by omega
    obtain ⟨x, hxk, hdx⟩ := drop_at (L := T) (i := k) (by omega)
    have hx8 := hT8 x (List.mem_of_getElem? hxk)
    obtain ⟨i, o, p, cc, H1, v', H2, a1, a2, hH1, g1, m1, m2, m3, m4, m5, m6⟩ := addTok hT hxk ho hf hx (by omega)
    have hw2 : IntKind.i64.wrap ((k : Int) + 1) = ((k + 1 : Nat) : Int) := by rw [wrap64 (by omega) (by omega)]; omega
    obtain ⟨y, e', H', r1, r2⟩ := ih (k + 1) H2 v' (l ++ x.out) (by omega) m2 m3 m4 (by rw [List.length_append]; omega)
    rw [← outs_step hdx] at r2
    rw [w_loop_b b_lontarlaw15_TableTurn_0.eq_1]
    simp only [WA, isStore, isCall, isK, freshI, stampO, List.nil_append, Option.map_some, Option.map_none, Option.bind_some, List.map_cons, List.map_nil, if_true, if_false, Nat.reduceEqDiff, Int.reduceEq, Nat.reduceAdd, Nat.reduceMul, reduceCtorEq, eq_self, Int.reduceLT, Int.reduceLE, Int.reduceToNat, List.length_cons, List.length_nil, List.all_cons, List.all_nil, List.take_zero, List.drop_nil, List.append_nil, List.getElem?_cons_zero, List.getElem?_cons_succ, List.drop_succ_cons, List.drop_zero, List.take_succ_cons, List.cons_append, Nat.reduceLeDiff, Int.cast_ofNat_Int, hlt, a1, a2, got_tok, ← hH1, g1, tk2, tk3, m1, hw2]
    rw [w_enter]
    simp only [WA, isStore, isCall, isK, freshI, stampO, List.nil_append, Option.map_some, Option.map_none, Option.bind_some, List.map_cons, List.map_nil, if_true, if_false, Nat.reduceEqDiff, Int.reduceEq, Nat.reduceAdd, Nat.reduceMul, reduceCtorEq, eq_self, Int.reduceLT, Int.reduceLE, Int.reduceToNat, List.length_cons, List.length_nil, List.all_cons, List.all_nil, List.take_zero, List.drop_nil, List.append_nil, List.getElem?_cons_zero, List.getElem?_cons_succ, List.drop_succ_cons, List.drop_zero, List.take_succ_cons, List.cons_append, Nat.reduceLeDiff, Int.cast_ofNat_Int, r1]
    exact r2
theorem l_T1 {H0 : AHeap} {w z5 z7 : Value} {T : List Tok} (hT : Toks Try.prog H0 w T) (hT8 : ∀ x ∈ T, x.out.length ≤ 8) (hTl : T.length < 10000) : ∀ (c k : Nat) (H : AHeap) (v : Value) (l : List Int), k + c = T.length → OwnI H v l → From H0.n v → Ext H0 H → l.length ≤ 8 * k →
    Out (run Try.prog (tabF tab) om1 (.loop [5, 7, 10, 46, 47, 48] b_lontarlaw15_TableTurn_1) [(5, z5), (7, z7), (10, v), (46, w), (47, .int .i64 T.length), (48, .int .i64 k)] H) fun y e' H' => (whole (T.drop k) ∧ y = .exit 2 ∧ eget e' 5 = z5 ∧ eget e' 7 = z7 ∧ OwnI H' (eget e' 10) (l ++ outs (T.drop k)) ∧ From H0.n (eget e' 10) ∧ Ext H0 H') ∨ (y = .ret ∧ eget e' 4 = .bool true) := by
  intro c
  induction c with
  | zero =>
    intro k H v l hk ho hf hx hl
    have hlt : ¬ ((k : Int) < T.length) := by omega
    rw [w_loop_b b_lontarlaw15_TableTurn_1.eq_1, List.drop_of_length_le (by omega)]
    simp only [WA, isStore, isCall, isK, freshI, stampO, List.nil_append, Option.map_some, Option.map_none, Option.bind_some, List.map_cons, List.map_nil, if_true, if_false, Nat.reduceEqDiff, Int.reduceEq, Nat.reduceAdd, Nat.reduceMul, reduceCtorEq, eq_self, Int.reduceLT, Int.reduceLE, Int.reduceToNat, List.length_cons, List.length_nil, List.all_cons, List.all_nil, List.take_zero, List.drop_nil, List.append_nil, List.getElem?_cons_zero, List.getElem?_cons_succ, List.drop_succ_cons, List.drop_zero, List.take_succ_cons, List.cons_append, Nat.reduceLeDiff, Int.cast_ofNat_Int, hlt, outs_nil]
    exact .inl ⟨fun t h => (by cases h), ho, hf, hx⟩
  | succ c ih =>
    intro k H v l hk ho hf hx hl
    have hlt : (k : Int) < T.length := by omega
    obtain ⟨x, hxk, hdx⟩ := drop_at (L := T) (i := k) (by omega)
    have hx8 := hT8 x (List.mem_of_getElem? hxk)
    obtain ⟨i, o, p, cc, H1, v', H2, a1, a2, hH1, g1, m1, m2, m3, m4, m5, m6⟩ := addTok hT hxk ho hf hx (by omega)
    have hw2 : IntKind.i64.wrap ((k : Int) + 1) = ((k + 1 : Nat) : Int) := by rw [wrap64 (by omega) (by omega)]; omega
    rw [w_loop_b b_lontarlaw15_TableTurn_1.eq_1]
    by_cases he : x.err = 0
    · have he' : (x.err ≠ 0) = False := by simp [he]
      obtain ⟨y, e', H', r1, r2⟩ := ih (k + 1) H2 v' (l ++ x.out) (by omega) m2 m3 m4 (by rw [List.length_append]; omega)
      rw [← outs_step hdx] at r2
      simp only [WA, isStore, isCall, isK, freshI, stampO, List.nil_append, Option.map_some, Option.map_none, Option.bind_some, List.map_cons, List.map_nil, if_true, if_false, Nat.reduceEqDiff, Int.reduceEq, Nat.reduceAdd, Nat.reduceMul, reduceCtorEq, eq_self, Int.reduceLT, Int.reduceLE, Int.reduceToNat, List.length_cons, List.length_nil, List.all_cons, List.all_nil, List.take_zero, List.drop_nil, List.append_nil, List.getElem?_cons_zero, List.getElem?_cons_succ, List.drop_succ_cons, List.drop_zero, List.take_succ_cons, List.cons_append, Nat.reduceLeDiff, Int.cast_ofNat_Int, hlt, a1, a2, got_tok, ← hH1, g1, tk2, tk3, he', m1, hw2]
      rw [w_enter]
      simp only [WA, isStore, isCall, isK, freshI, stampO, List.nil_append, Option.map_some, Option.map_none, Option.bind_some, List.map_cons, List.map_nil, if_true, if_false, Nat.reduceEqDiff, Int.reduceEq, Nat.reduceAdd, Nat.reduceMul, reduceCtorEq, eq_self, Int.reduceLT, Int.reduceLE, Int.reduceToNat, List.length_cons, List.length_nil, List.all_cons, List.all_nil, List.take_zero, List.drop_nil, List.append_nil, List.getElem?_cons_zero, List.getElem?_cons_succ, List.drop_succ_cons, List.drop_zero, List.take_succ_cons, List.cons_append, Nat.reduceLeDiff, Int.cast_ofNat_Int, r1]
      rcases r2 with ⟨q1, q2⟩ | q
      · refine .inl ⟨fun t ht => ?_, q2⟩
        rw [hdx] at ht
        rcases List.mem_cons.1 ht with rfl | ht
        · exact he
        · exact q1 t ht
      · exact .inr q
    · have he' : (x.err ≠ 0) = True := by simp [he]
      simp only [WA, isStore, isCall, isK, freshI, stampO, List.nil_append, Option.map_some, Option.map_none, Option.bind_some, List.map_cons, List.map_nil, if_true, if_false, Nat.reduceEqDiff, Int.reduceEq, Nat.reduceAdd, Nat.reduceMul, reduceCtorEq, eq_self, Int.reduceLT, Int.reduceLE, Int.reduceToNat, List.length_cons, List.length_nil, List.all_cons, List.all_nil, List.take_zero, List.drop_nil, List.append_nil, List.getElem?_cons_zero, List.getElem?_cons_succ, List.drop_succ_cons, List.drop_zero, List.take_succ_cons, List.cons_append, Nat.reduceLeDiff, Int.cast_ofNat_Int, hlt, a1, a2, got_tok, ← hH1, g1, tk2, tk3, he']
      exact .inr trivial
theorem l_T2 {H0 : AHeap} {w z7 : Value} {T : List Tok} (hT : Toks Try.prog H0 w T) (hT8 : ∀ x ∈ T, x.out.length ≤ 8) (hTl : T.length < 10000) : ∀ (c k : Nat) (H : AHeap) (v : Value) (l : List Int), k + c = T.length → OwnI H v l → From H0.n v → Ext H0 H → l.length ≤ 8 * k →
    Out (run Try.prog (tabF tab) om1 (.loop [7, 13, 62, 63, 64] b_lontarlaw15_TableTurn_2) [(7, z7), (13, v), (62, w), (63, .int .i64 T.length), (64, .int .i64 k)] H) fun y e' H' => y = .exit 4 ∧ eget e' 7 = z7 ∧ OwnI H' (eget e' 13) (l ++ outs (T.drop k)) ∧ Ext H0 H' := by
  intro c
  induction c with
  | zero =>
    intro k H v l hk ho hf hx hl
    have hlt : ¬ ((k : Int) < T.length) := by omega
    rw [w_loop_b b_lontarlaw15_TableTurn_2.eq_1, List.drop_of_length_le (by omega)]
    simp only [WA, isStore, isCall, isK, freshI, stampO, List.nil_append, Option.map_some, Option.map_none, Option.bind_some, List.map_cons, List.map_nil, if_true, if_false, Nat.reduceEqDiff, Int.reduceEq, Nat.reduceAdd, Nat.reduceMul, reduceCtorEq, eq_self, Int.reduceLT, Int.reduceLE, Int.reduceToNat, List.length_cons, List.length_nil, List.all_cons, List.all_nil, List.take_zero, List.drop_nil, List.append_nil, List.getElem?_cons_zero, List.getElem?_cons_succ, List.drop_succ_cons, List.drop_zero, List.take_succ_cons, List.cons_append, Nat.reduceLeDiff, Int.cast_ofNat_Int, hlt, outs_nil]
    exact ⟨ho, hx⟩
  | succ c ih =>
    intro k H v l hk ho hf hx hl
    have hlt : (k : Int) < T.length := by omega
    obtain ⟨x, hxk, hdx⟩ := drop_at (L := T) (i := k) (by omega)
    have hx8 := hT8 x (List.mem_of_getElem? hxk)
    obtain ⟨i, o, p, cc, H1, v', H2, a1, a2, hH1, g1, m1, m2, m3, m4, m5, m6⟩ := addTok hT hxk ho hf hx (by omega)
    have hw2 : IntKind.i64.wrap ((k : Int) + 1) = ((k + 1 : Nat) : Int) := by rw [wrap64 (by omega) (by omega)]; omega
    obtain ⟨y, e', H', r1, r2⟩ := ih (k + 1) H2 v' (l ++ x.out) (by omega) m2 m3 m4 (by rw [List.length_append]; omega)
    rw [← outs_step hdx] at r2
    rw [w_loop_b b_lontarlaw15_TableTurn_2.eq_1]
    simp only [WA, isStore, isCall, isK, freshI, stampO, List.nil_append, Option.map_some, Option.map_none, Option.bind_some, List.map_cons, List.map_nil, if_true, if_false, Nat.reduceEqDiff, Int.reduceEq, Nat.reduceAdd, Nat.reduceMul, reduceCtorEq, eq_self, Int.reduceLT, Int.reduceLE, Int.reduceToNat, List.length_cons, List.length_nil, List.all_cons, List.all_nil, List.take_zero, List.drop_nil, List.append_nil, List.getElem?_cons_zero, List.getElem?_cons_succ, List.drop_succ_cons, List.drop_zero, List.take_succ_cons, List.cons_append, Nat.reduceLeDiff, Int.cast_ofNat_Int, hlt, a1, a2, got_tok, ← hH1, g1, tk2, tk3, m1, hw2]
    rw [w_enter]
    simp only [WA, isStore, isCall, isK, freshI, stampO, List.nil_append, Option.map_some, Option.map_none, Option.bind_some, List.map_cons, List.map_nil, if_true, if_false, Nat.reduceEqDiff, Int.reduceEq, Nat.reduceAdd, Nat.reduceMul, reduceCtorEq, eq_self, Int.reduceLT, Int.reduceLE, Int.reduceToNat, List.length_cons, List.length_nil, List.all_cons, List.all_nil, List.take_zero, List.drop_nil, List.append_nil, List.getElem?_cons_zero, List.getElem?_cons_succ, List.drop_succ_cons, List.drop_zero, List.take_succ_cons, List.cons_append, Nat.reduceLeDiff, Int.cast_ofNat_Int, r1]
    exact r2
theorem law_Turn {a b : Value} {R : List RowD} {l : List Int} {H : AHeap} (ha : RowsAt H a R) (hb : U8s H b l) : Gives (cw Try.prog (tabF tab) om1 7 [a, b] H) fun v H' => v = .bool true := by
  obtain ⟨hb, hbc, hbb, hbt⟩ := hb
  rw [cw_run (F := F_lontarlaw15_TableTurn) rfl rfl rfl]
  unfold F_lontarlaw15_TableTurn k_lontarlaw15_TableTurn
  obtain ⟨v1, H1, q, H2, L, c1, c2, x2, hT, hr, hrc, h40, hR, hcl⟩ := startT ha
  obtain ⟨w1, H3, c3, x3, y3, z3⟩ := c_Some (hb.ext x2) (hbc.ext x2) hbb hbt
  have hsl := som_len (l := l)
  generalize som l = us0 at *
  obtain ⟨w2, H4, c4, x4, y4, f4⟩ := c_Decode (hT.ext x3) y3 z3 (by omega)
  have hal := allU_len hR us0.length us0 0 (Nat.le_refl _)
  have hao := allU_outs hR us0.length us0 0 (Nat.le_refl _)
  have hl4 := y4.rws.len (H2 := H4)
  obtain ⟨y, e', H5, r1, rfl, r2, r3, x5⟩ := l_T0 (z5 := .pointer (some ⟨q, 0, none⟩)) y4.rws hao (by omega) (allU L us0 0).length 0 H4 (.slice none 0 0) [] (by omega) OwnI.nil trivial (Ext.refl _) (Nat.zero_le _)
  rw [List.drop_zero, List.nil_append] at r3
  have hol := outs_len hao
  generalize outs (allU L us0 0) = us at *
  have hT5 := ((hT.ext x3).ext x4).ext x5
  obtain ⟨w6, H6, c6, x6, y6, f6⟩ := c_Enc hT5 (OwnI.asI r3) (OwnI.cutI r3) (by omega)
  obtain ⟨n1, n2⟩ := encU_few hR (us := us)
  have hl6 := y6.rws.len (H2 := H6)
  have z : ((0 : Int) ≠ 0) = False := by simp
  obtain ⟨y, e2, H7, s1, s2⟩ := l_T1 (z5 := .pointer (some ⟨q, 0, none⟩)) (z7 := eget e' 7) y6.rws n2 (by omega) (encU L us).length 0 H6 (.slice none 0 0) [] (by omega) OwnI.nil trivial (Ext.refl _) (Nat.zero_le _)
  rw [List.drop_zero, List.nil_append] at s2
  simp only [Int.cast_ofNat_Int] at r1 s1
  rcases s2 with ⟨q1, rfl, q2, q3, q4, q5, x7⟩ | ⟨rfl, q1⟩
  · obtain ⟨b1, b2⟩ := back hR hcl q1 0
    have hob := outs_len n2
    have x57 := x6.trans x7
    obtain ⟨w8, H8, c8, x8, y8, f8⟩ := c_Decode (hT5.ext x57) (OwnI.asI q4) (OwnI.cutI q4) (by omega)
    have hl8 := y8.rws.len (H2 := H8)
    have hal2 := allU_len hR (outs (encU L us)).length (outs (encU L us)) 0 (Nat.le_refl _)
    obtain ⟨y, e3, H9, t1, rfl, t2, t3, x9⟩ := l_T2 (z7 := eget e' 7) y8.rws (allU_outs hR (outs (encU L us)).length (outs (encU L us)) 0 (Nat.le_refl _)) (by omega) (allU L (outs (encU L us)) 0).length 0 H8 (.slice none 0 0) [] (by omega) OwnI.nil trivial (Ext.refl _) (Nat.zero_le _)
    rw [List.drop_zero, List.nil_append, b2] at t3
    have cU := c_Units (OwnI.asI t3) ((OwnI.asI r3).ext ((x57.trans x8).trans x9)) (by omega)
    rw [decide_eq_true rfl] at cU
    simp only [Int.cast_ofNat_Int] at t1
    simp only [WA, isStore, isCall, isK, freshI, stampO, List.nil_append, Option.map_some, Option.map_none, Option.bind_some, List.map_cons, List.map_nil, if_true, if_false, Nat.reduceEqDiff, Int.reduceEq, Nat.reduceAdd, Nat.reduceMul, reduceCtorEq, eq_self, Int.reduceLT, Int.reduceLE, Int.reduceToNat, List.length_cons, List.length_nil, List.all_cons, List.all_nil, List.take_zero, List.drop_nil, List.append_nil, List.getElem?_cons_zero, List.getElem?_cons_succ, List.drop_succ_cons, List.drop_zero, List.take_succ_cons, List.cons_append, Nat.reduceLeDiff, Int.cast_ofNat_Int, o_awake15, c1, c2, v_nilp, z, c3, c4, hl4]
    rw [w_enter]
    simp only [WA, isStore, isCall, isK, freshI, stampO, List.nil_append, Option.map_some, Option.map_none, Option.bind_some, List.map_cons, List.map_nil, if_true, if_false, Nat.reduceEqDiff, Int.reduceEq, Nat.reduceAdd, Nat.reduceMul, reduceCtorEq, eq_self, Int.reduceLT, Int.reduceLE, Int.reduceToNat, List.length_cons, List.length_nil, List.all_cons, List.all_nil, List.take_zero, List.drop_nil, List.append_nil, List.getElem?_cons_zero, List.getElem?_cons_succ, List.drop_succ_cons, List.drop_zero, List.take_succ_cons, List.cons_append, Nat.reduceLeDiff, Int.cast_ofNat_Int, r1, r2, c6, hl6]
    rw [w_enter]
    simp only [WA, isStore, isCall, isK, freshI, stampO, List.nil_append, Option.map_some, Option.map_none, Option.bind_some, List.map_cons, List.map_nil, if_true, if_false, Nat.reduceEqDiff, Int.reduceEq, Nat.reduceAdd, Nat.reduceMul, reduceCtorEq, eq_self, Int.reduceLT, Int.reduceLE, Int.reduceToNat, List.length_cons, List.length_nil, List.all_cons, List.all_nil, List.take_zero, List.drop_nil, List.append_nil, List.getElem?_cons_zero, List.getElem?_cons_succ, List.drop_succ_cons, List.drop_zero, List.take_succ_cons, List.cons_append, Nat.reduceLeDiff, Int.cast_ofNat_Int, r2, s1, q2, q3, c8, hl8]
    rw [w_enter]
    simp only [WA, isStore, isCall, isK, freshI, stampO, List.nil_append, Option.map_some, Option.map_none, Option.bind_some, List.map_cons, List.map_nil, if_true, if_false, Nat.reduceEqDiff, Int.reduceEq, Nat.reduceAdd, Nat.reduceMul, reduceCtorEq, eq_self, Int.reduceLT, Int.reduceLE, Int.reduceToNat, List.length_cons, List.length_nil, List.all_cons, List.all_nil, List.take_zero, List.drop_nil, List.append_nil, List.getElem?_cons_zero, List.getElem?_cons_succ, List.drop_succ_cons, List.drop_zero, List.take_succ_cons, List.cons_append, Nat.reduceLeDiff, Int.cast_ofNat_Int, q3, t1, t2, cU]
  · simp only [WA, isStore, isCall, isK, freshI, stampO, List.nil_append, Option.map_some, Option.map_none, Option.bind_some, List.map_cons, List.map_nil, if_true, if_false, Nat.reduceEqDiff, Int.reduceEq, Nat.reduceAdd, Nat.reduceMul, reduceCtorEq, eq_self, Int.reduceLT, Int.reduceLE, Int.reduceToNat, List.length_cons, List.length_nil, List.all_cons, List.all_nil, List.take_zero, List.drop_nil, List.append_nil, List.getElem?_cons_zero, List.getElem?_cons_succ, List.drop_succ_cons, List.drop_zero, List.take_succ_cons, List.cons_append, Nat.reduceLeDiff, Int.cast_ofNat_Int, o_awake15, c1, c2, v_nilp, z, c3, c4, hl4]
    rw [w_enter]
    simp only [WA, isStore, isCall, isK, freshI, stampO, List.nil_append, Option.map_some, Option.map_none, Option.bind_some, List.map_cons, List.map_nil, if_true, if_false, Nat.reduceEqDiff, Int.reduceEq, Nat.reduceAdd, Nat.reduceMul, reduceCtorEq, eq_self, Int.reduceLT, Int.reduceLE, Int.reduceToNat, List.length_cons, List.length_nil, List.all_cons, List.all_nil, List.take_zero, List.drop_nil, List.append_nil, List.getElem?_cons_zero, List.getElem?_cons_succ, List.drop_succ_cons, List.drop_zero, List.take_succ_cons, List.cons_append, Nat.reduceLeDiff, Int.cast_ofNat_Int, r1, r2, c6, hl6]
    rw [w_enter]
    simp only [WA, isStore, isCall, isK, freshI, stampO, List.nil_append, Option.map_some, Option.map_none, Option.bind_some, List.map_cons, List.map_nil, if_true, if_false, Nat.reduceEqDiff, Int.reduceEq, Nat.reduceAdd, Nat.reduceMul, reduceCtorEq, eq_self, Int.reduceLT, Int.reduceLE, Int.reduceToNat, List.length_cons, List.length_nil, List.all_cons, List.all_nil, List.take_zero, List.drop_nil, List.append_nil, List.getElem?_cons_zero, List.getElem?_cons_succ, List.drop_succ_cons, List.drop_zero, List.take_succ_cons, List.cons_append, Nat.reduceLeDiff, Int.cast_ofNat_Int, r2, s1, q1]
end Go.Proofs.Ytgonfmpmdahmcaa

/-! Layer 15: rules of one unit each. -/
set_option linter.unusedSimpArgs false
set_option linter.unusedVariables false
namespace Go.Proofs.Ytgonfmpmdahmcaa
open Go Lon
set_option maxRecDepth 100000
/-- A rule of one unit each way, laid as a literal, behind rules. -/
theorem app_oneC {H : AHeap} {out : Value} {L : List Rl} {a b : Int} (ho : OwnRules H 46 out L) (hc : CutR H out) (hb : L.length < 1000000) :
    ∃ v' H', appendA (((H.push ⟨[.int .i64 a], 3, .tip, 0, []⟩).push ⟨[.int .i64 b], 3, .tip, 0, []⟩).push ⟨[.slice (some ⟨H.n, 0, none⟩) 1 2, .slice (some ⟨H.n + 1, 0, none⟩) 1 2], 46, .tip, 0, []⟩) out (.slice (some ⟨H.n + 1 + 1, 0, none⟩) 1 2) 46 2 48 = some (v', H') ∧ OwnRules H' 46 v' (L ++ [([a], [b])]) ∧ CutR H' v' ∧ From H.n v' ∧ H.n ≤ H'.n ∧ (∀ i, i < H.n → NotAt out i → H'.get i = H.get i) := by
  have x1 := Ext.push H ⟨[.int .i64 a], 3, .tip, 0, []⟩
  have x2 := Ext.push (H.push ⟨[.int .i64 a], 3, .tip, 0, []⟩) ⟨[.int .i64 b], 3, .tip, 0, []⟩
  have x3 := Ext.push ((H.push ⟨[.int .i64 a], 3, .tip, 0, []⟩).push ⟨[.int .i64 b], 3, .tip, 0, []⟩) ⟨[.slice (some ⟨H.n, 0, none⟩) 1 2, .slice (some ⟨H.n + 1, 0, none⟩) 1 2], 46, .tip, 0, []⟩
  have g1 := get_push_self (H := H) (b := ⟨[.int .i64 a], 3, .tip, 0, []⟩)
  have g2 := get_push_self (H := H.push ⟨[.int .i64 a], 3, .tip, 0, []⟩) (b := ⟨[.int .i64 b], 3, .tip, 0, []⟩)
  have g3 := get_push_self (H := (H.push ⟨[.int .i64 a], 3, .tip, 0, []⟩).push ⟨[.int .i64 b], 3, .tip, 0, []⟩) (b := ⟨[.slice (some ⟨H.n, 0, none⟩) 1 2, .slice (some ⟨H.n + 1, 0, none⟩) 1 2], 46, .tip, 0, []⟩)
  rw [AHeap.n_push] at g2
  rw [AHeap.n_push, AHeap.n_push] at g3
  have x13 := x1.trans (x2.trans x3)
  obtain ⟨v', H', m1, m2, m3, m4, m5, m6, m7, m8⟩ := OwnRules.appendC (bytes := 48) (r := ([a], [b])) (ho.ext x13) (hc.ext x13) (Sl.new (n := 1) (c := 2) g3 mem_tip rfl) (Sl.new (n := 1) (c := 2) ((x2.trans x3).get g1) mem_tip rfl) (Sl.new (n := 1) (c := 2) (x3.get g2) mem_tip rfl) (by unfold Lon.tiny; exact (by decide : (1 : Nat) < 4611686018427387904)) (by unfold Lon.tiny; exact (by decide : (1 : Nat) < 4611686018427387904)) (Cut.new ((x2.trans x3).get g1) (by kernel_rfl)) (Cut.new (x3.get g2) (by kernel_rfl)) (by omega)
  rw [AHeap.n_push, AHeap.n_push, AHeap.n_push] at m3 m5 m6
  exact ⟨v', H', m1, m2, m7, m3.mono (by omega), by omega, fun i hi hn => by rw [m6 i (by omega) hn, x13.2 i hi]⟩
/-! Rules of one unit. -/
theorem lg_single {L : List Rl} (hR : Right L) (h1 : ∀ r ∈ L, r.1.length = 1) (us : List Int) : (lgs L us).2.1 ≤ 1 := by
  obtain ⟨p1, p2, p3, p4⟩ := (lgs_pre hR us).1
  rcases Nat.eq_zero_or_pos (lgs L us).2.1 with h | h
  · omega
  · obtain ⟨q1, q2⟩ := p3 h
    rw [q1] at q2
    obtain ⟨r, h3, h4⟩ := fnd_some q2
    have := h1 r (List.mem_of_getElem? h3)
    rw [h4, List.length_take] at this
    omega
theorem joins_single {L : List Rl} (hR : Right L) (h1 : ∀ r ∈ L, r.1.length = 1) {ah us : List Int} : joinsF L ah us = false := by
  unfold joinsF
  by_cases h : ah = []
  · simp [h]
  · have := lg_single hR h1 (ah ++ us)
    have hp := List.length_pos_iff.2 h
    rw [decide_eq_false (show ¬ ah.length < (lgs L (ah ++ us)).2.1 by omega), Bool.and_false]
theorem cls_single {L : List Rl} (h1 : ∀ r ∈ L, r.1.length = 1) : clsF L L = true := clsF_iff.2 fun r hr => by rw [h1 r hr]; rfl
theorem chain_single {L : List Rl} (hR : Right L) (h1 : ∀ r ∈ L, r.1.length = 1) : ∀ (P : List Rl), chainJ L P
  | [] => trivial
  | [_] => trivial
  | r :: r' :: P => ⟨joins_single hR h1, chain_single hR h1 (r' :: P)⟩
theorem enc_single {L : List Rl} (hR : Right L) (h1 : ∀ r ∈ L, r.1.length = 1) : ∀ (X : List Tok) (ah : List Int), encF L ah X = X
  | [], _ => rfl
  | x :: X, ah => by
    have hj : joinT L ah x = x := by unfold joinT; rw [joins_single hR h1, if_neg (fun h => by cases h.2)]
    unfold encF
    rw [hj, enc_single hR h1]
def f60 (k : Nat) : Int := 1000 + (7 * (k : Int)).tmod 60
def L60 (m : Nat) : List Rl := (List.range m).map fun (k : Nat) => ([(k : Int)], [f60 k])
theorem L60_right : Right (L60 60) := by
  refine ⟨?_, ?_⟩
  · have : (L60 60).all (fun r => sideB r.1 && sideB r.2) = true := by kernel_rfl
    intro r hr
    simpa using List.all_eq_true.1 this r hr
  · have : (List.range 60).all (fun k => match (L60 60)[k]? with | some r => decide (fnd ((L60 60).take k) r.1 < 0) | none => true) = true := by kernel_rfl
    intro k r hr
    have hk := (List.getElem?_eq_some_iff.1 hr).1
    have := List.all_eq_true.1 this k (List.mem_range.2 (by simpa [L60] using hk))
    rw [hr] at this
    simpa using this
theorem L60_trn : trn (L60 60) [] = (L60 60).map fun r => (r.2, r.1) := by kernel_rfl
theorem L60_mem {k : Nat} (h : k < 60) : ([(k : Int)], [f60 k]) ∈ L60 60 := List.mem_map.2 ⟨k, List.mem_range.2 h, rfl⟩
theorem L60_one : ∀ r ∈ L60 60, r.1.length = 1 := fun r hr => by
  obtain ⟨k, _, rfl⟩ := List.mem_map.1 hr
  rfl
theorem L60_one2 : ∀ r ∈ trn (L60 60) [], r.1.length = 1 := fun r hr => by
  rw [L60_trn] at hr
  obtain ⟨x, hx, rfl⟩ := List.mem_map.1 hr
  obtain ⟨k, _, rfl⟩ := List.mem_map.1 hx
  rfl
theorem flat_single {g : Nat → Int} : ∀ (l : List Nat), l.flatMap (fun k => [g k]) = l.map g
  | [] => rfl
  | k :: l => by rw [List.flatMap_cons, List.map_cons, flat_single l]; rfl
theorem read60 (l : List Nat) (hl : ∀ k ∈ l, k < 60) : outs (allU (L60 60) (l.map fun (k : Nat) => (k : Int)) 0) = l.map f60 := by
  have h := (read_chain L60_right (cls_single L60_one) (l.map fun (k : Nat) => (([(k : Int)], [f60 k]) : Rl)) 0 (fun x hx => by
    obtain ⟨k, hk, rfl⟩ := List.mem_map.1 hx
    exact L60_mem (hl k hk)) (chain_single L60_right L60_one _)).2
  rw [List.flatMap_map, List.flatMap_map] at h
  rw [flat_single, flat_single] at h
  exact h
theorem write60 (l : List Nat) (hl : ∀ k ∈ l, k < 60) : outs (encU (L60 60) (l.map f60)) = l.map fun (k : Nat) => (k : Int) := by
  unfold encU
  rw [enc_single L60_right L60_one]
  have h := (read_chain (trn_right L60_right) (cls_single L60_one2) (l.map fun (k : Nat) => (([f60 k], [(k : Int)]) : Rl)) 0 (fun x hx => by
    obtain ⟨k, hk, rfl⟩ := List.mem_map.1 hx
    rw [L60_trn]
    exact List.mem_map.2 ⟨_, L60_mem (hl k hk), rfl⟩) (chain_single (trn_right L60_right) L60_one2 _)).2
  rw [List.flatMap_map, List.flatMap_map] at h
  rw [flat_single, flat_single] at h
  exact h
theorem L60_succ (i : Nat) : L60 (i + 1) = L60 i ++ [([(i : Int)], [f60 i])] := by unfold L60; rw [List.range_succ, List.map_append]; rfl
theorem l_C0 {H0 : AHeap} {z0 : Value} : ∀ (c i : Nat) (H : AHeap) (out : Value), i + c = 60 → Ext H0 H → OwnRules H 46 out (L60 i) → CutR H out → From H0.n out →
    Out (run Try.prog (tabF tab) om1 (.loop [0, 3, 4] b_lontarlaw15_TableCodecs_0) [(0, z0), (3, out), (4, .int .i64 i)] H) fun y e' H' => y = .exit 0 ∧ eget e' 0 = z0 ∧ Ext H0 H' ∧ OwnRules H' 46 (eget e' 3) (L60 60) ∧ CutR H' (eget e' 3) := by
  intro c
  induction c with
  | zero =>
    intro i H out hi hx ho hc hf
    obtain rfl : i = 60 := by omega
    have z : (((60 : Nat) : Int) < 60) = False := by simp
    rw [w_loop_b b_lontarlaw15_TableCodecs_0.eq_1]
    simp only [WA, isStore, isCall, isK, freshI, stampO, List.nil_append, Option.map_some, Option.map_none, Option.bind_some, List.map_cons, List.map_nil, if_true, if_false, Nat.reduceEqDiff, Int.reduceEq, Nat.reduceAdd, Nat.reduceMul, reduceCtorEq, eq_self, Int.reduceLT, Int.reduceLE, Int.reduceToNat, List.length_cons, List.length_nil, List.all_cons, List.all_nil, List.take_zero, List.drop_nil, List.append_nil, List.getElem?_cons_zero, List.getElem?_cons_succ, List.drop_succ_cons, List.drop_zero, List.take_succ_cons, List.cons_append, Nat.reduceLeDiff, Int.cast_ofNat_Int, z]
    exact ⟨hx, ho, hc⟩
  | succ c ih =>
    intro i H out hi hx ho hc hf
    have hlt : (i : Int) < 60 := by omega
    have w1 : IntKind.i64.wrap (7 * (i : Int)) = 7 * i := wrap64 (by omega) (by omega)
    have hm0 := Int.emod_nonneg (7 * (i : Int)) (b := 60) (by decide)
    have hm1 := Int.emod_lt_of_pos (7 * (i : Int)) (b := 60) (by decide)
    have hm : (7 * (i : Int)).tmod 60 = 7 * (i : Int) % 60 := Int.tmod_eq_emod_of_nonneg (by omega)
    have q1 : intOp .rem .i64 (7 * (i : Int)) 60 = some (.int .i64 ((7 * (i : Int)).tmod 60)) := int_rem (by decide)
    have w2 : IntKind.i64.wrap (1000 + (7 * (i : Int)).tmod 60) = f60 i := by unfold f60; rw [hm, wrap64 (by omega) (by omega)]
    have hw2 : IntKind.i64.wrap ((i : Int) + 1) = ((i + 1 : Nat) : Int) := by rw [wrap64 (by omega) (by omega)]; omega
    have hlen : (L60 i).length = i := by simp [L60]
    obtain ⟨v', H', m1, m2, m3, m4, m5, m6⟩ := app_oneC (a := (i : Int)) (b := f60 i) ho hc (by omega)
    rw [← L60_succ] at m2
    obtain ⟨y, e', H2, r1, r2⟩ := ih (i + 1) H' v' (by omega) (Ext.grow hx m5 m6 hf) m2 m3 (m4.mono hx.1)
    rw [w_loop_b b_lontarlaw15_TableCodecs_0.eq_1]
    simp only [WA, isStore, isCall, isK, freshI, stampO, List.nil_append, Option.map_some, Option.map_none, Option.bind_some, List.map_cons, List.map_nil, if_true, if_false, Nat.reduceEqDiff, Int.reduceEq, Nat.reduceAdd, Nat.reduceMul, reduceCtorEq, eq_self, Int.reduceLT, Int.reduceLE, Int.reduceToNat, List.length_cons, List.length_nil, List.all_cons, List.all_nil, List.take_zero, List.drop_nil, List.append_nil, List.getElem?_cons_zero, List.getElem?_cons_succ, List.drop_succ_cons, List.drop_zero, List.take_succ_cons, List.cons_append, Nat.reduceLeDiff, Int.cast_ofNat_Int, hlt, v_int1, w1, q1, w2, v_rule, v_rule1, m1, hw2]
    rw [w_enter]
    simp only [WA, isStore, isCall, isK, freshI, stampO, List.nil_append, Option.map_some, Option.map_none, Option.bind_some, List.map_cons, List.map_nil, if_true, if_false, Nat.reduceEqDiff, Int.reduceEq, Nat.reduceAdd, Nat.reduceMul, reduceCtorEq, eq_self, Int.reduceLT, Int.reduceLE, Int.reduceToNat, List.length_cons, List.length_nil, List.all_cons, List.all_nil, List.take_zero, List.drop_nil, List.append_nil, List.getElem?_cons_zero, List.getElem?_cons_succ, List.drop_succ_cons, List.drop_zero, List.take_succ_cons, List.cons_append, Nat.reduceLeDiff, Int.cast_ofNat_Int, r1]
    exact r2
theorem l_C1 {H0 : AHeap} {z5 x : Value} {l : List Int} (hx : Nums H0 .u8 x l) (hl : l.length ≤ 60) (hb : bytes l) : ∀ (c i : Nat) (H : AHeap) (v : Value), i + c = l.length → Ext H0 H → OwnI H v ((l.take i).map fun u => u % 60) → From H0.n v →
    Out (run Try.prog (tabF tab) om1 (.loop [5, 7, 48, 49, 50] b_lontarlaw15_TableCodecs_1) [(5, z5), (7, v), (48, x), (49, .int .i64 l.length), (50, .int .i64 i)] H) fun y e' H' => y = .exit 2 ∧ eget e' 5 = z5 ∧ Ext H0 H' ∧ OwnI H' (eget e' 7) (l.map fun u => u % 60) ∧ From H0.n (eget e' 7) := by
  intro c
  induction c with
  | zero =>
    intro i H v hi hxx ho hf
    have hlt : ¬ ((i : Int) < l.length) := by omega
    rw [w_loop_b b_lontarlaw15_TableCodecs_1.eq_1]
    simp only [WA, isStore, isCall, isK, freshI, stampO, List.nil_append, Option.map_some, Option.map_none, Option.bind_some, List.map_cons, List.map_nil, if_true, if_false, Nat.reduceEqDiff, Int.reduceEq, Nat.reduceAdd, Nat.reduceMul, reduceCtorEq, eq_self, Int.reduceLT, Int.reduceLE, Int.reduceToNat, List.length_cons, List.length_nil, List.all_cons, List.all_nil, List.take_zero, List.drop_nil, List.append_nil, List.getElem?_cons_zero, List.getElem?_cons_succ, List.drop_succ_cons, List.drop_zero, List.take_succ_cons, List.cons_append, Nat.reduceLeDiff, Int.cast_ofNat_Int, hlt]
    rw [List.take_of_length_le (by omega)] at ho
    exact ⟨hxx, ho, hf⟩
  | succ c ih =>
    intro i H v hi hxx ho hf
    have hlt : (i : Int) < l.length := by omega
    obtain ⟨u, hu, hdu⟩ := drop_at (L := l) (i := i) (by omega)
    obtain ⟨u1, u2⟩ := hb u (List.mem_of_getElem? hu)
    obtain ⟨i1, o1, h1, h2⟩ := (hx.ext hxx).at hu
    have hw2 : IntKind.i64.wrap ((i : Int) + 1) = ((i + 1 : Nat) : Int) := by rw [wrap64 (by omega) (by omega)]; omega
    have q1 : intOp .rem .u8 u 60 = some (.int .u8 (u % 60)) := by rw [int_rem (by decide), Int.tmod_eq_emod_of_nonneg (by omega)]
    have hm0 := Int.emod_nonneg u (b := 60) (by decide)
    have hm1 := Int.emod_lt_of_pos u (b := 60) (by decide)
    have q2 : IntKind.i64.wrap (u % 60) = u % 60 := wrap64 (by omega) (by omega)
    have x1 := Ext.push H ⟨[.int .i64 (u % 60)], 3, .tip, 0, []⟩
    obtain ⟨v', H2, m1, m2, m3, m4⟩ := OwnI.add (m := [u % 60]) (ho.ext x1) hf (hxx.trans x1) (Sl.new (n := 1) (c := 2) (get_push_self (H := H) (b := ⟨[.int .i64 (u % 60)], 3, .tip, 0, []⟩)) mem_tip rfl) (by simp; omega)
    have hdone : ((l.take i).map fun u => u % 60) ++ [u % 60] = (l.take (i + 1)).map fun u => u % 60 := by
      rw [List.take_add_one, hu]; simp
    rw [hdone] at m2
    obtain ⟨y, e', H', r1, r2⟩ := ih (i + 1) H2 v' (by omega) m4 m2 m3
    rw [w_loop_b b_lontarlaw15_TableCodecs_1.eq_1]
    simp only [WA, isStore, isCall, isK, freshI, stampO, List.nil_append, Option.map_some, Option.map_none, Option.bind_some, List.map_cons, List.map_nil, if_true, if_false, Nat.reduceEqDiff, Int.reduceEq, Nat.reduceAdd, Nat.reduceMul, reduceCtorEq, eq_self, Int.reduceLT, Int.reduceLE, Int.reduceToNat, List.length_cons, List.length_nil, List.all_cons, List.all_nil, List.take_zero, List.drop_nil, List.append_nil, List.getElem?_cons_zero, List.getElem?_cons_succ, List.drop_succ_cons, List.drop_zero, List.take_succ_cons, List.cons_append, Nat.reduceLeDiff, Int.cast_ofNat_Int, hlt, h1, h2, q1, q2, v_int1, m1, hw2]
    rw [w_enter]
    simp only [WA, isStore, isCall, isK, freshI, stampO, List.nil_append, Option.map_some, Option.map_none, Option.bind_some, List.map_cons, List.map_nil, if_true, if_false, Nat.reduceEqDiff, Int.reduceEq, Nat.reduceAdd, Nat.reduceMul, reduceCtorEq, eq_self, Int.reduceLT, Int.reduceLE, Int.reduceToNat, List.length_cons, List.length_nil, List.all_cons, List.all_nil, List.take_zero, List.drop_nil, List.append_nil, List.getElem?_cons_zero, List.getElem?_cons_succ, List.drop_succ_cons, List.drop_zero, List.take_succ_cons, List.cons_append, Nat.reduceLeDiff, Int.cast_ofNat_Int, r1]
    exact r2
theorem l_C2 {H0 : AHeap} {w z5 z7 z11 : Value} {T : List Tok} (hT : Toks Try.prog H0 w T) (hT8 : ∀ x ∈ T, x.out.length ≤ 8) (hTl : T.length < 10000) : ∀ (c k : Nat) (H : AHeap) (v : Value) (l : List Int), k + c = T.length → OwnI H v l → From H0.n v → Ext H0 H → l.length ≤ 8 * k →
    Out (run Try.prog (tabF tab) om1 (.loop [5, 7, 10, 11, 63, 64, 65] b_lontarlaw15_TableCodecs_2) [(5, z5), (7, z7), (10, v), (11, z11), (63, w), (64, .int .i64 T.length), (65, .int .i64 k)] H) fun y e' H' => y = .exit 4 ∧ eget e' 5 = z5 ∧ eget e' 7 = z7 ∧ eget e' 11 = z11 ∧ OwnI H' (eget e' 10) (l ++ outs (T.drop k)) ∧ Ext H0 H' := by
  intro c
  induction c with
  | zero =>
    intro k H v l hk ho hf hx hl
    have hlt : ¬ ((k : Int) < T.length) := by omega
    rw [w_loop_b b_lontarlaw15_TableCodecs_2.eq_1, List.drop_of_length_le (by omega)]
    simp only [WA, isStore, isCall, isK, freshI, stampO, List.nil_append, Option.map_some, Option.map_none, Option.bind_some, List.map_cons, List.map_nil, if_true, if_false, Nat.reduceEqDiff, Int.reduceEq, Nat.reduceAdd, Nat.reduceMul, reduceCtorEq, eq_self, Int.reduceLT, Int.reduceLE, Int.reduceToNat, List.length_cons, List.length_nil, List.all_cons, List.all_nil, List.take_zero, List.drop_nil, List.append_nil, List.getElem?_cons_zero, List.getElem?_cons_succ, List.drop_succ_cons, List.drop_zero, List.take_succ_cons, List.cons_append, Nat.reduceLeDiff, Int.cast_ofNat_Int, hlt, outs_nil]
    exact ⟨ho, hx⟩
  | succ c ih =>
    intro k H v l hk ho hf hx hl
    have hlt : (k : Int) < T.length := by omega
    obtain ⟨x, hxk, hdx⟩ := drop_at (L := T) (i := k) (by omega)
    have hx8 := hT8 x (List.mem_of_getElem? hxk)
    obtain ⟨i, o, p, cc, H1, v', H2, a1, a2, hH1, g1, m1, m2, m3, m4, m5, m6⟩ := addTok hT hxk ho hf hx (by omega)
    have hw2 : IntKind.i64.wrap ((k : Int) + 1) = ((k + 1 : Nat) : Int) := by rw [wrap64 (by omega) (by omega)]; omega
    obtain ⟨y, e', H', r1, r2⟩ := ih (k + 1) H2 v' (l ++ x.out) (by omega) m2 m3 m4 (by rw [List.length_append]; omega)
    rw [← outs_step hdx] at r2
    rw [w_loop_b b_lontarlaw15_TableCodecs_2.eq_1]
    simp only [WA, isStore, isCall, isK, freshI, stampO, List.nil_append, Option.map_some, Option.map_none, Option.bind_some, List.map_cons, List.map_nil, if_true, if_false, Nat.reduceEqDiff, Int.reduceEq, Nat.reduceAdd, Nat.reduceMul, reduceCtorEq, eq_self, Int.reduceLT, Int.reduceLE, Int.reduceToNat, List.length_cons, List.length_nil, List.all_cons, List.all_nil, List.take_zero, List.drop_nil, List.append_nil, List.getElem?_cons_zero, List.getElem?_cons_succ, List.drop_succ_cons, List.drop_zero, List.take_succ_cons, List.cons_append, Nat.reduceLeDiff, Int.cast_ofNat_Int, hlt, a1, a2, got_tok, ← hH1, g1, tk2, tk3, m1, hw2]
    rw [w_enter]
    simp only [WA, isStore, isCall, isK, freshI, stampO, List.nil_append, Option.map_some, Option.map_none, Option.bind_some, List.map_cons, List.map_nil, if_true, if_false, Nat.reduceEqDiff, Int.reduceEq, Nat.reduceAdd, Nat.reduceMul, reduceCtorEq, eq_self, Int.reduceLT, Int.reduceLE, Int.reduceToNat, List.length_cons, List.length_nil, List.all_cons, List.all_nil, List.take_zero, List.drop_nil, List.append_nil, List.getElem?_cons_zero, List.getElem?_cons_succ, List.drop_succ_cons, List.drop_zero, List.take_succ_cons, List.cons_append, Nat.reduceLeDiff, Int.cast_ofNat_Int, r1]
    exact r2
theorem l_C3 {H0 : AHeap} {w z7 z10 : Value} {T : List Tok} (hT : Toks Try.prog H0 w T) (hT8 : ∀ x ∈ T, x.out.length ≤ 8) (hTl : T.length < 10000) : ∀ (c k : Nat) (H : AHeap) (v : Value) (l : List Int), k + c = T.length → OwnI H v l → From H0.n v → Ext H0 H → l.length ≤ 8 * k →
    Out (run Try.prog (tabF tab) om1 (.loop [7, 10, 11, 76, 77, 78] b_lontarlaw15_TableCodecs_3) [(7, z7), (10, z10), (11, v), (76, w), (77, .int .i64 T.length), (78, .int .i64 k)] H) fun y e' H' => y = .exit 6 ∧ eget e' 7 = z7 ∧ eget e' 10 = z10 ∧ OwnI H' (eget e' 11) (l ++ outs (T.drop k)) ∧ Ext H0 H' := by
  intro c
  induction c with
  | zero =>
    intro k H v l hk ho hf hx hl
    have hlt : ¬ ((k : Int) < T.length) := by omega
    rw [w_loop_b b_lontarlaw15_TableCodecs_3.eq_1, List.drop_of_length_le (by omega)]
    simp only [WA, isStore, isCall, isK, freshI, stampO, List.nil_append, Option.map_some, Option.map_none, Option.bind_some, List.map_cons, List.map_nil, if_true, if_false, Nat.reduceEqDiff, Int.reduceEq, Nat.reduceAdd, Nat.reduceMul, reduceCtorEq, eq_self, Int.reduceLT, Int.reduceLE, Int.reduceToNat, List.length_cons, List.length_nil, List.all_cons, List.all_nil, List.take_zero, List.drop_nil, List.append_nil, List.getElem?_cons_zero, List.getElem?_cons_succ, List.drop_succ_cons, List.drop_zero, List.take_succ_cons, List.cons_append, Nat.reduceLeDiff, Int.cast_ofNat_Int, hlt, outs_nil]
    exact ⟨ho, hx⟩
  | succ c ih =>
    intro k H v l hk ho hf hx hl
    have hlt : (k : Int) < T.length := by omega
    obtain ⟨x, hxk, hdx⟩ := drop_at (L := T) (i := k) (by omega)
    have hx8 := hT8 x (List.mem_of_getElem? hxk)
    obtain ⟨i, o, p, cc, H1, v', H2, a1, a2, hH1, g1, m1, m2, m3, m4, m5, m6⟩ := addTok hT hxk ho hf hx (by omega)
    have hw2 : IntKind.i64.wrap ((k : Int) + 1) = ((k + 1 : Nat) : Int) := by rw [wrap64 (by omega) (by omega)]; omega
    obtain ⟨y, e', H', r1, r2⟩ := ih (k + 1) H2 v' (l ++ x.out) (by omega) m2 m3 m4 (by rw [List.length_append]; omega)
    rw [← outs_step hdx] at r2
    rw [w_loop_b b_lontarlaw15_TableCodecs_3.eq_1]
    simp only [WA, isStore, isCall, isK, freshI, stampO, List.nil_append, Option.map_some, Option.map_none, Option.bind_some, List.map_cons, List.map_nil, if_true, if_false, Nat.reduceEqDiff, Int.reduceEq, Nat.reduceAdd, Nat.reduceMul, reduceCtorEq, eq_self, Int.reduceLT, Int.reduceLE, Int.reduceToNat, List.length_cons, List.length_nil, List.all_cons, List.all_nil, List.take_zero, List.drop_nil, List.append_nil, List.getElem?_cons_zero, List.getElem?_cons_succ, List.drop_succ_cons, List.drop_zero, List.take_succ_cons, List.cons_append, Nat.reduceLeDiff, Int.cast_ofNat_Int, hlt, a1, a2, got_tok, ← hH1, g1, tk2, tk3, m1, hw2]
    rw [w_enter]
    simp only [WA, isStore, isCall, isK, freshI, stampO, List.nil_append, Option.map_some, Option.map_none, Option.bind_some, List.map_cons, List.map_nil, if_true, if_false, Nat.reduceEqDiff, Int.reduceEq, Nat.reduceAdd, Nat.reduceMul, reduceCtorEq, eq_self, Int.reduceLT, Int.reduceLE, Int.reduceToNat, List.length_cons, List.length_nil, List.all_cons, List.all_nil, List.take_zero, List.drop_nil, List.append_nil, List.getElem?_cons_zero, List.getElem?_cons_succ, List.drop_succ_cons, List.drop_zero, List.take_succ_cons, List.cons_append, Nat.reduceLeDiff, Int.cast_ofNat_Int, r1]
    exact r2
theorem law_Codecs {b : Value} {l : List Int} {H : AHeap} (hb : U8s H b l) : Gives (cw Try.prog (tabF tab) om1 8 [b] H) fun v H' => v = .bool true := by
  obtain ⟨hb, hbc, hbb, hbt⟩ := hb
  rw [cw_run (F := F_lontarlaw15_TableCodecs) rfl rfl rfl]
  unfold F_lontarlaw15_TableCodecs k_lontarlaw15_TableCodecs
  obtain ⟨y, e1, H1, r1, rfl, r2, x1, o1, k1⟩ := l_C0 (z0 := b) 60 0 H (.slice none 0 0) rfl (Ext.refl _) (OwnRules.nil _ _) (CutR.nil _) trivial
  have hR := o1.rules (by simp [L60])
  have hC : Cut Try.prog H1 (eget e1 3) 2 := o1.cut (by kernel_rfl)
  obtain ⟨v2, H2, c2, x2, q, rfl, hT⟩ := c_TOf hR hC k1 L60_right (by simp [L60]) (cls_single L60_one)
  have x12 := x1.trans x2
  obtain ⟨k, hk1, hk2, hk3⟩ := min60 (n := l.length)
  obtain ⟨b', s1, s2, s3⟩ := (hb.ext x12).take (hbc.ext x12) hk1
  have s1' := s1 .i64
  have hlb := fun H2 => Sl.len (H2 := H2) hb
  have hll : (l.take k).length ≤ 60 := by rw [List.length_take]; omega
  have hl2 := fun H2 => Nums.len (H2 := H2) s2
  obtain ⟨y, e2, H3, t1, rfl, t2, x3, o3, f3⟩ := l_C1 (z5 := .pointer (some ⟨q, 0, none⟩)) s2 hll (fun u hu => hbb u (List.mem_of_mem_take hu)) (l.take k).length 0 H2 (.slice none 0 0) (by omega) (Ext.refl _) OwnI.nil trivial
  have hnat : ∃ ks : List Nat, (∀ k ∈ ks, k < 60) ∧ ((l.take k).map fun u => u % 60) = ks.map fun (k : Nat) => (k : Int) := by
    refine ⟨(l.take k).map fun u => (u % 60).toNat, fun k hk => ?_, ?_⟩
    · obtain ⟨u, hu, rfl⟩ := List.mem_map.1 hk
      omega
    · rw [List.map_map]
      refine List.map_congr_left fun u hu => ?_
      simp only [Function.comp]
      omega
  obtain ⟨ks, ks1, ks2⟩ := hnat
  have hkl : ks.length ≤ 60 := by
    have := congrArg List.length ks2
    rw [List.length_map, List.length_map] at this
    omega
  rw [ks2] at o3
  have hn1 : (ks.map fun (k : Nat) => (k : Int)).length ≤ 60 := by rw [List.length_map]; exact hkl
  obtain ⟨w4, H4, c4, x4, y4, f4⟩ := c_Decode (hT.ext x3) (OwnI.asI o3) (OwnI.cutI o3) (by omega)
  have hal := allU_len L60_right _ (ks.map fun (k : Nat) => (k : Int)) 0 (Nat.le_refl _)
  have hao := allU_outs L60_right _ (ks.map fun (k : Nat) => (k : Int)) 0 (Nat.le_refl _)
  have hl4 := y4.rws.len (H2 := H4)
  obtain ⟨y, e5, H5, u1, rfl, u2, u3, u4, o5, x5⟩ := l_C2 (z5 := .pointer (some ⟨q, 0, none⟩)) (z7 := eget e2 7) (z11 := .slice none 0 0) y4.rws hao (by omega) (allU (L60 60) (ks.map fun (k : Nat) => (k : Int)) 0).length 0 H4 (.slice none 0 0) [] (by omega) OwnI.nil trivial (Ext.refl _) (Nat.zero_le _)
  rw [List.drop_zero, List.nil_append, read60 ks ks1] at o5
  have hn2 : (ks.map f60).length ≤ 60 := by rw [List.length_map]; exact hkl
  obtain ⟨w6, H6, c6, x6, y6, f6⟩ := c_Enc (((hT.ext x3).ext x4).ext x5) (OwnI.asI o5) (OwnI.cutI o5) (by omega)
  obtain ⟨n1, n2⟩ := encU_few L60_right (us := ks.map f60)
  have hl6 := y6.rws.len (H2 := H6)
  obtain ⟨y, e7, H7, p1, rfl, p2, p3, o7, x7⟩ := l_C3 (z7 := eget e2 7) (z10 := eget e5 10) y6.rws n2 (by omega) (encU (L60 60) (ks.map f60)).length 0 H6 (.slice none 0 0) [] (by omega) OwnI.nil trivial (Ext.refl _) (Nat.zero_le _)
  rw [List.drop_zero, List.nil_append, write60 ks ks1] at o7
  have x37 := ((x4.trans x5).trans x6).trans x7
  have cU := c_Units (OwnI.asI o7) ((OwnI.asI o3).ext x37) (by rw [List.length_map]; omega)
  rw [decide_eq_true rfl] at cU
  have hlm := fun H2 => (OwnI.asI o5).len (H2 := H2)
  have hlu := fun H2 => (OwnI.asI o3).len (H2 := H2)
  rw [List.length_map] at hlm hlu
  have z : ((0 : Int) ≠ 0) = False := by simp
  have z2 : ((ks.length : Int) = ks.length) = True := by simp
  simp only [Int.cast_ofNat_Int] at r1 t1 u1 p1
  simp only [WA, isStore, isCall, isK, freshI, stampO, List.nil_append, Option.map_some, Option.map_none, Option.bind_some, List.map_cons, List.map_nil, if_true, if_false, Nat.reduceEqDiff, Int.reduceEq, Nat.reduceAdd, Nat.reduceMul, reduceCtorEq, eq_self, Int.reduceLT, Int.reduceLE, Int.reduceToNat, List.length_cons, List.length_nil, List.all_cons, List.all_nil, List.take_zero, List.drop_nil, List.append_nil, List.getElem?_cons_zero, List.getElem?_cons_succ, List.drop_succ_cons, List.drop_zero, List.take_succ_cons, List.cons_append, Nat.reduceLeDiff, Int.cast_ofNat_Int, o_awake15]
  rw [w_enter]
  simp only [WA, isStore, isCall, isK, freshI, stampO, List.nil_append, Option.map_some, Option.map_none, Option.bind_some, List.map_cons, List.map_nil, if_true, if_false, Nat.reduceEqDiff, Int.reduceEq, Nat.reduceAdd, Nat.reduceMul, reduceCtorEq, eq_self, Int.reduceLT, Int.reduceLE, Int.reduceToNat, List.length_cons, List.length_nil, List.all_cons, List.all_nil, List.take_zero, List.drop_nil, List.append_nil, List.getElem?_cons_zero, List.getElem?_cons_succ, List.drop_succ_cons, List.drop_zero, List.take_succ_cons, List.cons_append, Nat.reduceLeDiff, Int.cast_ofNat_Int, r1, r2, c2, v_nilp, z, hlb, hk3, s1', hl2]
  rw [w_enter]
  simp only [WA, isStore, isCall, isK, freshI, stampO, List.nil_append, Option.map_some, Option.map_none, Option.bind_some, List.map_cons, List.map_nil, if_true, if_false, Nat.reduceEqDiff, Int.reduceEq, Nat.reduceAdd, Nat.reduceMul, reduceCtorEq, eq_self, Int.reduceLT, Int.reduceLE, Int.reduceToNat, List.length_cons, List.length_nil, List.all_cons, List.all_nil, List.take_zero, List.drop_nil, List.append_nil, List.getElem?_cons_zero, List.getElem?_cons_succ, List.drop_succ_cons, List.drop_zero, List.take_succ_cons, List.cons_append, Nat.reduceLeDiff, Int.cast_ofNat_Int, t1, t2, c4, hl4]
  rw [w_enter]
  simp only [WA, isStore, isCall, isK, freshI, stampO, List.nil_append, Option.map_some, Option.map_none, Option.bind_some, List.map_cons, List.map_nil, if_true, if_false, Nat.reduceEqDiff, Int.reduceEq, Nat.reduceAdd, Nat.reduceMul, reduceCtorEq, eq_self, Int.reduceLT, Int.reduceLE, Int.reduceToNat, List.length_cons, List.length_nil, List.all_cons, List.all_nil, List.take_zero, List.drop_nil, List.append_nil, List.getElem?_cons_zero, List.getElem?_cons_succ, List.drop_succ_cons, List.drop_zero, List.take_succ_cons, List.cons_append, Nat.reduceLeDiff, Int.cast_ofNat_Int, t2, u1, u2, u3, u4, c6, hl6]
  rw [w_enter]
  simp only [WA, isStore, isCall, isK, freshI, stampO, List.nil_append, Option.map_some, Option.map_none, Option.bind_some, List.map_cons, List.map_nil, if_true, if_false, Nat.reduceEqDiff, Int.reduceEq, Nat.reduceAdd, Nat.reduceMul, reduceCtorEq, eq_self, Int.reduceLT, Int.reduceLE, Int.reduceToNat, List.length_cons, List.length_nil, List.all_cons, List.all_nil, List.take_zero, List.drop_nil, List.append_nil, List.getElem?_cons_zero, List.getElem?_cons_succ, List.drop_succ_cons, List.drop_zero, List.take_succ_cons, List.cons_append, Nat.reduceLeDiff, Int.cast_ofNat_Int, u3, u4, p1, p2, p3, cU, hlm, hlu, z2]
end Go.Proofs.Ytgonfmpmdahmcaa

