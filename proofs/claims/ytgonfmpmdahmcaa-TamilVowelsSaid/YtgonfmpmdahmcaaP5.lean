/- What is proved here: what the program's functions come to, as far as the claimed statement asks. Conditions: those that each theorem names, and no others. -/
import Derived.Test.YtgonfmpmdahmcaaP1
import Derived.Test.YtgonfmpmdahmcaaP2
import Derived.Test.YtgonfmpmdahmcaaP3
import Derived.Test.YtgonfmpmdahmcaaP4
/-! Layer 17: the rules, as the program lays them. -/
set_option linter.unusedSimpArgs false
set_option linter.unusedVariables false
namespace Go.Proofs.Ytgonfmpmdahmcaa
open Go Lon
set_option maxRecDepth 100000
def C17 : List Int := [0xb95, 0xb99, 0xb9a, 0xb9e, 0xb9f, 0xba3, 0xba4, 0xba8, 0xbaa, 0xbae, 0xbaf, 0xbb0, 0xbb2, 0xbb5, 0xbb4, 0xbb3, 0xbb1, 0xba9, 0xb9c, 0xbb7, 0xbb8, 0xbb9]
def V17 : List Int := [0xb85, 0xb86, 0xb87, 0xb88, 0xb89, 0xb8a, 0xb8e, 0xb8f, 0xb90, 0xb92, 0xb93, 0xb94, 0xb83]
def S17 : List Int := [0xbc6, 0xbc7, 0xbc8, 0xbcd, 0xbbe, 0xbbf, 0xbc0, 0xbc1, 0xbc2, 0xbd7]
def A17 (n : Nat) : List Rl := (List.range n).map fun (c : Nat) => ([(c : Int)], [(c : Int)])
def B17 (n : Nat) : List Rl := (List.range n).map fun (k : Nat) => ([(0x91 : Int) + k], [V17.getD k 0])
def D17 (n : Nat) : List Rl := (List.range n).map fun (k : Nat) => ([(0xa6 : Int) + k], [S17.getD k 0])
def con8 (c s d : Int) : List Rl := [([c], [s]), ([d], [s, 0xbcd]), ([0xa6, c], [s, 0xbc6]), ([0xa7, c], [s, 0xbc7]), ([0xa8, c], [s, 0xbc8]), ([0xa6, c, 0xaa], [s, 0xbca]), ([0xa7, c, 0xaa], [s, 0xbcb]), ([0xa6, c, 0xaf], [s, 0xbcc])]
def E17 (n : Nat) : List Rl := (List.range n).flatMap fun (k : Nat) => con8 ((0xb0 : Int) + k) (C17.getD k 0) ((0xd0 : Int) + k)
def R17 : List Rl := A17 128 ++ B17 13 ++ D17 10 ++ E17 22
theorem A17_succ (i : Nat) : A17 (i + 1) = A17 i ++ [([(i : Int)], [(i : Int)])] := by unfold A17; rw [List.range_succ, List.map_append]; rfl
theorem B17_succ (i : Nat) : B17 (i + 1) = B17 i ++ [([(0x91 : Int) + i], [V17.getD i 0])] := by unfold B17; rw [List.range_succ, List.map_append]; rfl
theorem D17_succ (i : Nat) : D17 (i + 1) = D17 i ++ [([(0xa6 : Int) + i], [S17.getD i 0])] := by unfold D17; rw [List.range_succ, List.map_append]; rfl
theorem E17_succ (i : Nat) : E17 (i + 1) = E17 i ++ con8 ((0xb0 : Int) + i) (C17.getD i 0) ((0xd0 : Int) + i) := by unfold E17; rw [List.range_succ, List.flatMap_append]; simp
theorem v_int2 {H : AHeap} {el : TypeId} {a b : Int} : vBslice el 2 1 [.int .i64 0] [(0, 1, .int .i64 a), (1, 1, .int .i64 b)] H = some (.slice (some ⟨H.n, 0, none⟩) 2 3, H.push ⟨[.int .i64 a, .int .i64 b], el, .tip, 0, []⟩) := rfl
theorem v_int3 {H : AHeap} {el : TypeId} {a b c : Int} : vBslice el 3 1 [.int .i64 0] [(0, 1, .int .i64 a), (1, 1, .int .i64 b), (2, 1, .int .i64 c)] H = some (.slice (some ⟨H.n, 0, none⟩) 3 4, H.push ⟨[.int .i64 a, .int .i64 b, .int .i64 c], el, .tip, 0, []⟩) := rfl
/-- A rule of two literals. -/
theorem oneR (A B : List Int) (hA : A.length < 100) (hB : B.length < 100) (H : AHeap) : ∃ H1 H2 H3, H1 = H.push ⟨ints A, 3, .tip, 0, []⟩ ∧ H2 = H1.push ⟨ints B, 3, .tip, 0, []⟩ ∧ cw Try.prog (tabF tab) om1 52 [.slice (some ⟨H.n, 0, none⟩) A.length (A.length + 1), .slice (some ⟨H1.n, 0, none⟩) B.length (B.length + 1)] H2 = some (.agg ⟨[.slice (some ⟨H.n, 0, none⟩) A.length (A.length + 1), .slice (some ⟨H1.n, 0, none⟩) B.length (B.length + 1)]⟩, H3) ∧ Ext H H3 ∧ Ints H3 (.slice (some ⟨H.n, 0, none⟩) A.length (A.length + 1)) A ∧ Ints H3 (.slice (some ⟨H1.n, 0, none⟩) B.length (B.length + 1)) B ∧ Cut Try.prog H3 (.slice (some ⟨H.n, 0, none⟩) A.length (A.length + 1)) 1 ∧ Cut Try.prog H3 (.slice (some ⟨H1.n, 0, none⟩) B.length (B.length + 1)) 1 ∧ tiny A ∧ tiny B := by
  obtain ⟨H1, hH1⟩ : ∃ H1, H1 = H.push ⟨ints A, 3, .tip, 0, []⟩ := ⟨_, rfl⟩
  obtain ⟨H2, hH2⟩ : ∃ H2, H2 = H1.push ⟨ints B, 3, .tip, 0, []⟩ := ⟨_, rfl⟩
  have x1 : Ext H H1 := by rw [hH1]; exact Ext.push H _
  have x2 : Ext H1 H2 := by rw [hH2]; exact Ext.push H1 _
  have g1 : H1.get H.n = some ⟨ints A, 3, .tip, 0, []⟩ := by rw [hH1]; exact get_push_self
  have g2 : H2.get H1.n = some ⟨ints B, 3, .tip, 0, []⟩ := by rw [hH2]; exact get_push_self
  have x3 := Ext.push H2 ⟨[.slice (some ⟨H.n, 0, none⟩) A.length (A.length + 1), .slice (some ⟨H1.n, 0, none⟩) B.length (B.length + 1)], 46, .tip, 1, []⟩
  refine ⟨H1, H2, H2.push ⟨[.slice (some ⟨H.n, 0, none⟩) A.length (A.length + 1), .slice (some ⟨H1.n, 0, none⟩) B.length (B.length + 1)], 46, .tip, 1, []⟩, hH1, hH2, ?_, (x1.trans x2).trans x3, Sl.new ((x2.trans x3).get g1) mem_tip (by simp [ints]), Sl.new (x3.get g2) mem_tip (by simp [ints]), Cut.new ((x2.trans x3).get g1) (by kernel_rfl), Cut.new (x3.get g2) (by kernel_rfl), by unfold Lon.tiny; omega, by unfold Lon.tiny; omega⟩
  rw [cw_run (F := F_tamil_one) rfl rfl rfl]
  unfold F_tamil_one k_tamil_one
  have g4 := get_push_self (H := H2) (b := ⟨[.slice (some ⟨H.n, 0, none⟩) A.length (A.length + 1), .slice (some ⟨H1.n, 0, none⟩) B.length (B.length + 1)], 46, .tip, 1, []⟩)
  simp only [WA, isStore, isCall, isK, freshI, stampO, List.nil_append, Option.map_some, Option.map_none, Option.bind_some, List.map_cons, List.map_nil, if_true, if_false, Nat.reduceEqDiff, Int.reduceEq, Nat.reduceAdd, Nat.reduceMul, reduceCtorEq, eq_self, Int.reduceLT, Int.reduceLE, Int.reduceToNat, List.length_cons, List.length_nil, List.all_cons, List.all_nil, List.take_zero, List.drop_nil, List.append_nil, List.getElem?_cons_zero, List.getElem?_cons_succ, List.drop_succ_cons, List.drop_zero, List.take_succ_cons, List.cons_append, Nat.reduceLeDiff, Int.cast_ofNat_Int, v_rule, get_push_self, ress_cell, rd_load, g4]
/-- Cells of rules. -/
def rl2 (H : AHeap) : List Value → List Rl → Prop
  | [], [] => True
  | a :: b :: cs, r :: M => (Ints H a r.1 ∧ Ints H b r.2 ∧ tiny r.1 ∧ tiny r.2 ∧ Cut Try.prog H a 1 ∧ Cut Try.prog H b 1) ∧ rl2 H cs M
  | _, _ => False
theorem rl2_spec {H : AHeap} : ∀ {cs : List Value} {M : List Rl}, rl2 H cs M → cs.length = M.length * 2 ∧ (∀ k r, M[k]? = some r → RuleAt H cs k r ∧ tiny r.1 ∧ tiny r.2) ∧ ∀ x ∈ cs, Cut Try.prog H x 1
  | [], [], _ => ⟨rfl, fun k r h => by simp at h, fun x h => by cases h⟩
  | [], _ :: _, h => by cases h
  | [_], [], h => by cases h
  | [_], _ :: _, h => by cases h
  | _ :: _ :: _, [], h => by cases h
  | a :: b :: cs, r0 :: M, h => by
    obtain ⟨⟨h1, h2, h3, h4, h5, h6⟩, h7⟩ := h
    obtain ⟨q1, q2, q3⟩ := rl2_spec h7
    refine ⟨by simp only [List.length_cons]; omega, fun k r hr => ?_, fun x hx => ?_⟩
    · cases k with
      | zero =>
        simp at hr
        subst hr
        exact ⟨⟨a, b, rfl, rfl, h1, h2⟩, h3, h4⟩
      | succ k =>
        obtain ⟨⟨ui, uo, g1, g2, g3, g4⟩, g5⟩ := q2 k r (by simpa using hr)
        refine ⟨⟨ui, uo, ?_, ?_, g3, g4⟩, g5⟩
        · rw [show (k + 1) * 2 = k * 2 + 1 + 1 by omega]; simpa using g1
        · rw [show (k + 1) * 2 + 1 = (k * 2 + 1) + 1 + 1 by omega]; simpa using g2
    · rcases List.mem_cons.1 hx with rfl | hx
      · exact h5
      · rcases List.mem_cons.1 hx with rfl | hx
        · exact h6
        · exact q3 x hx
/-- Several rules laid behind one's own. -/
theorem OwnRules.appendM {H : AHeap} {el : TypeId} {v x : Value} {L M : List Rl} {new : List Value} (h : OwnRules H el v L) (hc : CutR H v) (hx : Sl H 2 x M.length new) (hn : rl2 H new M) (hM : 0 < M.length) (hb : (L.length + M.length) * 48 ≤ 140737488355328) :
    ∃ v' H', appendA H v x el 2 48 = some (v', H') ∧ OwnRules H' el v' (L ++ M) ∧ CutR H' v' ∧ From H.n v' ∧ H.n ≤ H'.n ∧ (∀ i, i < H.n → NotAt v i → H'.get i = H.get i) ∧ Keeps H H' := by
  obtain ⟨cs, h1, h2⟩ := h
  obtain ⟨n1, n2, n3⟩ := rl2_spec hn
  obtain ⟨v', H', q1, q2, q3, q4, q5, q6⟩ := h1.append2 (bytes := 48) hx hM (rules_ones n1 n2) (by omega)
  have hver := appendA_ver q1
  have hcl := h1.1
  obtain ⟨n0, cs0, c1, c2⟩ := hc
  have : cs0 = cs := Option.some.inj (c1.2.symm.trans h1.sl.2)
  subst this
  refine ⟨v', H', q1, ⟨cs0 ++ new, by rw [List.length_append]; exact q2, fun k r hr => ?_⟩, ⟨_, cs0 ++ new, q2.sl, fun y hy => ?_⟩, q3, q5, q6, q4⟩
  · rcases Nat.lt_or_ge k L.length with hk | hk
    · rw [List.getElem?_append_left hk] at hr
      obtain ⟨⟨vi, vo, h3, h4, h5, h6⟩, h7⟩ := h2 k r hr
      exact ⟨⟨vi, vo, by rw [List.getElem?_append_left (by omega)]; exact h3, by rw [List.getElem?_append_left (by omega)]; exact h4, h5.keeps q4, h6.keeps q4⟩, h7⟩
    · rw [List.getElem?_append_right hk] at hr
      obtain ⟨⟨vi, vo, h3, h4, h5, h6⟩, h7⟩ := n2 _ r hr
      exact ⟨⟨vi, vo, by rw [List.getElem?_append_right (by omega), hcl]; rw [← h3]; congr 1; omega, by rw [List.getElem?_append_right (by omega), hcl]; rw [← h4]; congr 1; omega, h5.keeps q4, h6.keeps q4⟩, h7⟩
  · rcases List.mem_append.1 hy with hy | hy
    · exact (c2 y hy).ver hver
    · exact (n3 y hy).ver hver
/-- One rule of literals behind one's own: the row of a table's loop. -/
theorem rowR (A B : List Int) (hA : A.length < 100) (hB : B.length < 100) {H0 H : AHeap} {out : Value} {L : List Rl} (hx : Ext H0 H) (ho : OwnRules H 46 out L) (hc : CutR H out) (hf : From H0.n out) (hb : L.length < 1000000) : ∃ H1 H2 H3 v' H4, H1 = H.push ⟨ints A, 3, .tip, 0, []⟩ ∧ H2 = H1.push ⟨ints B, 3, .tip, 0, []⟩ ∧ cw Try.prog (tabF tab) om1 52 [.slice (some ⟨H.n, 0, none⟩) A.length (A.length + 1), .slice (some ⟨H1.n, 0, none⟩) B.length (B.length + 1)] H2 = some (.agg ⟨[.slice (some ⟨H.n, 0, none⟩) A.length (A.length + 1), .slice (some ⟨H1.n, 0, none⟩) B.length (B.length + 1)]⟩, H3) ∧
    appendA (H3.push ⟨[.slice (some ⟨H.n, 0, none⟩) A.length (A.length + 1), .slice (some ⟨H1.n, 0, none⟩) B.length (B.length + 1)], 46, .tip, 0, []⟩) out (.slice (some ⟨H3.n, 0, none⟩) 1 2) 46 2 48 = some (v', H4) ∧ Ext H0 H4 ∧ OwnRules H4 46 v' (L ++ [(A, B)]) ∧ CutR H4 v' ∧ From H0.n v' ∧ Keeps H H4 := by
  obtain ⟨H1, H2, H3, e1, e2, c3, x3, i1, i2, k1, k2, t1, t2⟩ := oneR A B hA hB H
  have x4 := Ext.push H3 ⟨[.slice (some ⟨H.n, 0, none⟩) A.length (A.length + 1), .slice (some ⟨H1.n, 0, none⟩) B.length (B.length + 1)], 46, .tip, 0, []⟩
  have x34 := x3.trans x4
  obtain ⟨v', H4, m1, m2, m3, m4, m5, m6, m7⟩ := OwnRules.appendM (M := [(A, B)]) (ho.ext x34) (hc.ext x34) (Sl.new (n := 1) (c := 2) (get_push_self (H := H3) (b := ⟨[.slice (some ⟨H.n, 0, none⟩) A.length (A.length + 1), .slice (some ⟨H1.n, 0, none⟩) B.length (B.length + 1)], 46, .tip, 0, []⟩)) mem_tip rfl) ⟨⟨i1.ext x4, i2.ext x4, t1, t2, k1.ext x4, k2.ext x4⟩, trivial⟩ (Nat.zero_lt_one) (by simp only [List.length_singleton]; omega)
  exact ⟨H1, H2, H3, v', H4, e1, e2, c3, m1, Ext.grow (hx.trans x34) m5 m6 hf, m2, m3, m4.mono (hx.trans x34).1, x34.keeps.trans m7⟩
theorem l_K0 {H0 : AHeap} : ∀ (c i : Nat) (H : AHeap) (out : Value), i + c = 128 → Ext H0 H → OwnRules H 46 out (A17 i) → CutR H out → From H0.n out →
    Out (run Try.prog (tabF tab) om1 (.loop [1, 10] b_tamil_Rules_0) [(1, out), (10, .int .i64 i)] H) fun y e' H' => y = .exit 0 ∧ Ext H0 H' ∧ OwnRules H' 46 (eget e' 1) (A17 128) ∧ CutR H' (eget e' 1) ∧ From H0.n (eget e' 1) := by
  intro c
  induction c with
  | zero =>
    intro i H out hi hx ho hc hf
    obtain rfl : i = 128 := by omega
    have z : (((128 : Nat) : Int) < 128) = False := by simp
    rw [w_loop_b b_tamil_Rules_0.eq_1]
    simp only [WA, isStore, isCall, isK, freshI, stampO, List.nil_append, Option.map_some, Option.map_none, Option.bind_some, List.map_cons, List.map_nil, if_true, if_false, Nat.reduceEqDiff, Int.reduceEq, Nat.reduceAdd, Nat.reduceMul, reduceCtorEq, eq_self, Int.reduceLT, Int.reduceLE, Int.reduceToNat, List.length_cons, List.length_nil, List.all_cons, List.all_nil, List.take_zero, List.drop_nil, List.append_nil, List.getElem?_cons_zero, List.getElem?_cons_succ, List.drop_succ_cons, List.drop_zero, List.take_succ_cons, List.cons_append, Nat.reduceLeDiff, Int.cast_ofNat_Int, z]
    exact ⟨hx, ho, hc, hf⟩
  | succ c ih =>
    intro i H out hi hx ho hc hf
    have hlt : (i : Int) < 128 := by omega
    have hlen : (A17 i).length = i := by simp [A17]
    obtain ⟨H1, H2, H3, v', H4, e1, e2, c3, m1, x4, o4, k4, f4, kp4⟩ := rowR [(i : Int)] [(i : Int)] (by simp) (by simp) hx ho hc hf (by omega)
    rw [← A17_succ] at o4
    have e1' : H1 = H.push ⟨[.int .i64 i], 3, .tip, 0, []⟩ := e1
    have e2' : H2 = H1.push ⟨[.int .i64 i], 3, .tip, 0, []⟩ := e2
    simp only [List.length_cons, List.length_nil, Nat.reduceAdd] at c3 m1
    have hw2 : IntKind.i64.wrap ((i : Int) + 1) = ((i + 1 : Nat) : Int) := by rw [wrap64 (by omega) (by omega)]; omega
    obtain ⟨y, e', H', r1, r2⟩ := ih (i + 1) H4 v' (by omega) x4 o4 k4 f4
    rw [w_loop_b b_tamil_Rules_0.eq_1]
    simp only [WA, isStore, isCall, isK, freshI, stampO, List.nil_append, Option.map_some, Option.map_none, Option.bind_some, List.map_cons, List.map_nil, if_true, if_false, Nat.reduceEqDiff, Int.reduceEq, Nat.reduceAdd, Nat.reduceMul, reduceCtorEq, eq_self, Int.reduceLT, Int.reduceLE, Int.reduceToNat, List.length_cons, List.length_nil, List.all_cons, List.all_nil, List.take_zero, List.drop_nil, List.append_nil, List.getElem?_cons_zero, List.getElem?_cons_succ, List.drop_succ_cons, List.drop_zero, List.take_succ_cons, List.cons_append, Nat.reduceLeDiff, Int.cast_ofNat_Int, hlt, v_int1, ← e1', ← e2', c3, v_rule1, m1, hw2]
    rw [w_enter]
    simp only [WA, isStore, isCall, isK, freshI, stampO, List.nil_append, Option.map_some, Option.map_none, Option.bind_some, List.map_cons, List.map_nil, if_true, if_false, Nat.reduceEqDiff, Int.reduceEq, Nat.reduceAdd, Nat.reduceMul, reduceCtorEq, eq_self, Int.reduceLT, Int.reduceLE, Int.reduceToNat, List.length_cons, List.length_nil, List.all_cons, List.all_nil, List.take_zero, List.drop_nil, List.append_nil, List.getElem?_cons_zero, List.getElem?_cons_succ, List.drop_succ_cons, List.drop_zero, List.take_succ_cons, List.cons_append, Nat.reduceLeDiff, Int.cast_ofNat_Int, r1]
    exact r2
theorem l_K1 {H0 : AHeap} {w : Value} : ∀ (c i : Nat) (H : AHeap) (out : Value), i + c = 13 → Ints H w V17 → Ext H0 H → OwnRules H 46 out (A17 128 ++ B17 i) → CutR H out → From H0.n out →
    Out (run Try.prog (tabF tab) om1 (.loop [1, 22, 23, 24] b_tamil_Rules_1) [(1, out), (22, w), (23, .int .i64 13), (24, .int .i64 i)] H) fun y e' H' => y = .exit 2 ∧ Ext H0 H' ∧ OwnRules H' 46 (eget e' 1) (A17 128 ++ B17 13) ∧ CutR H' (eget e' 1) ∧ From H0.n (eget e' 1) := by
  intro c
  induction c with
  | zero =>
    intro i H out hi hw hx ho hc hf
    obtain rfl : i = 13 := by omega
    have z : (((13 : Nat) : Int) < 13) = False := by simp
    rw [w_loop_b b_tamil_Rules_1.eq_1]
    simp only [WA, isStore, isCall, isK, freshI, stampO, List.nil_append, Option.map_some, Option.map_none, Option.bind_some, List.map_cons, List.map_nil, if_true, if_false, Nat.reduceEqDiff, Int.reduceEq, Nat.reduceAdd, Nat.reduceMul, reduceCtorEq, eq_self, Int.reduceLT, Int.reduceLE, Int.reduceToNat, List.length_cons, List.length_nil, List.all_cons, List.all_nil, List.take_zero, List.drop_nil, List.append_nil, List.getElem?_cons_zero, List.getElem?_cons_succ, List.drop_succ_cons, List.drop_zero, List.take_succ_cons, List.cons_append, Nat.reduceLeDiff, Int.cast_ofNat_Int, z]
    exact ⟨hx, ho, hc, hf⟩
  | succ c ih =>
    intro i H out hi hw hx ho hc hf
    have hlt : (i : Int) < 13 := by omega
    have hlen : (A17 128 ++ B17 i).length = 128 + i := by simp [A17, B17]
    have hg : V17[i]? = some (V17.getD i 0) := by rw [List.getD_eq_getElem?_getD, List.getElem?_eq_getElem (show i < V17.length from by show i < 13; omega)]; rfl
    obtain ⟨i1, o1, a1, a2⟩ := hw.at hg
    have hw3 : IntKind.i64.wrap (145 + (i : Int)) = 145 + i := wrap64 (by omega) (by omega)
    obtain ⟨H1, H2, H3, v', H4, e1, e2, c3, m1, x4, o4, k4, f4, kp4⟩ := rowR [145 + (i : Int)] [V17.getD i 0] (by simp) (by simp) hx ho hc hf (by omega)
    rw [List.append_assoc, show B17 i ++ [([145 + (i : Int)], [V17.getD i 0])] = B17 (i + 1) from (B17_succ i).symm] at o4
    have e1' : H1 = H.push ⟨[.int .i64 (145 + (i : Int))], 3, .tip, 0, []⟩ := e1
    have e2' : H2 = H1.push ⟨[.int .i64 (V17.getD i 0)], 3, .tip, 0, []⟩ := e2
    simp only [List.length_cons, List.length_nil, Nat.reduceAdd] at c3 m1
    have hw2 : IntKind.i64.wrap ((i : Int) + 1) = ((i + 1 : Nat) : Int) := by rw [wrap64 (by omega) (by omega)]; omega
    obtain ⟨y, e', H', r1, r2⟩ := ih (i + 1) H4 v' (by omega) (hw.keeps kp4) x4 o4 k4 f4
    rw [w_loop_b b_tamil_Rules_1.eq_1]
    simp only [WA, isStore, isCall, isK, freshI, stampO, List.nil_append, Option.map_some, Option.map_none, Option.bind_some, List.map_cons, List.map_nil, if_true, if_false, Nat.reduceEqDiff, Int.reduceEq, Nat.reduceAdd, Nat.reduceMul, reduceCtorEq, eq_self, Int.reduceLT, Int.reduceLE, Int.reduceToNat, List.length_cons, List.length_nil, List.all_cons, List.all_nil, List.take_zero, List.drop_nil, List.append_nil, List.getElem?_cons_zero, List.getElem?_cons_succ, List.drop_succ_cons, List.drop_zero, List.take_succ_cons, List.cons_append, Nat.reduceLeDiff, Int.cast_ofNat_Int, hlt, a1, a2, hw3, v_int1, ← e1', ← e2', c3, v_rule1, m1, hw2]
    rw [w_enter]
    simp only [WA, isStore, isCall, isK, freshI, stampO, List.nil_append, Option.map_some, Option.map_none, Option.bind_some, List.map_cons, List.map_nil, if_true, if_false, Nat.reduceEqDiff, Int.reduceEq, Nat.reduceAdd, Nat.reduceMul, reduceCtorEq, eq_self, Int.reduceLT, Int.reduceLE, Int.reduceToNat, List.length_cons, List.length_nil, List.all_cons, List.all_nil, List.take_zero, List.drop_nil, List.append_nil, List.getElem?_cons_zero, List.getElem?_cons_succ, List.drop_succ_cons, List.drop_zero, List.take_succ_cons, List.cons_append, Nat.reduceLeDiff, Int.cast_ofNat_Int, r1]
    exact r2
/-- Pairs of signs, in a row. -/
def P17 : List (Int × Int) := [(166, 3014), (167, 3015), (168, 3016), (169, 3021), (170, 3006), (171, 3007), (172, 3008), (173, 3009), (174, 3010), (175, 3031)]
theorem P17_get {i : Nat} (h : i < 10) : P17[i]? = some (0xa6 + (i : Int), S17.getD i 0) := by
  match i, h with
  | 0, _ | 1, _ | 2, _ | 3, _ | 4, _ | 5, _ | 6, _ | 7, _ | 8, _ | 9, _ => rfl
theorem l_K2 {H0 : AHeap} {w : Value} : ∀ (c i : Nat) (H : AHeap) (out : Value), i + c = 10 → Sl H 2 w 10 (P17.flatMap fun p => [.int .i64 p.1, .int .i64 p.2]) → Ext H0 H → OwnRules H 46 out (A17 128 ++ B17 13 ++ D17 i) → CutR H out → From H0.n out →
    Out (run Try.prog (tabF tab) om1 (.loop [1, 49, 50, 51] b_tamil_Rules_2) [(1, out), (49, w), (50, .int .i64 10), (51, .int .i64 i)] H) fun y e' H' => y = .exit 4 ∧ Ext H0 H' ∧ OwnRules H' 46 (eget e' 1) (A17 128 ++ B17 13 ++ D17 10) ∧ CutR H' (eget e' 1) ∧ From H0.n (eget e' 1) := by
  intro c
  induction c with
  | zero =>
    intro i H out hi hw hx ho hc hf
    obtain rfl : i = 10 := by omega
    have z : (((10 : Nat) : Int) < 10) = False := by simp
    rw [w_loop_b b_tamil_Rules_2.eq_1]
    simp only [WA, isStore, isCall, isK, freshI, stampO, List.nil_append, Option.map_some, Option.map_none, Option.bind_some, List.map_cons, List.map_nil, if_true, if_false, Nat.reduceEqDiff, Int.reduceEq, Nat.reduceAdd, Nat.reduceMul, reduceCtorEq, eq_self, Int.reduceLT, Int.reduceLE, Int.reduceToNat, List.length_cons, List.length_nil, List.all_cons, List.all_nil, List.take_zero, List.drop_nil, List.append_nil, List.getElem?_cons_zero, List.getElem?_cons_succ, List.drop_succ_cons, List.drop_zero, List.take_succ_cons, List.cons_append, Nat.reduceLeDiff, Int.cast_ofNat_Int, z]
    exact ⟨hx, ho, hc, hf⟩
  | succ c ih =>
    intro i H out hi hw hx ho hc hf
    have hlt : (i : Int) < 10 := by omega
    have hlen : (A17 128 ++ B17 13 ++ D17 i).length = 141 + i := by simp [A17, B17, D17]; omega
    have hg := P17_get (i := i) (by omega)
    obtain ⟨hrow, hle⟩ := row_at (f := fun (p : Int × Int) => [Value.int .i64 p.1, Value.int .i64 p.2]) (s := 2) (fun _ => rfl) hg
    obtain ⟨q, o, ha, _, hl⟩ := hw.at (show i < 10 by omega)
    rw [hrow] at hl
    obtain ⟨H5, hH5⟩ : ∃ H5, H5 = H.push ⟨[.int .i64 (0xa6 + (i : Int)), .int .i64 (S17.getD i 0)], 83, .tip, 1, []⟩ := ⟨_, rfl⟩
    have x5 : Ext H H5 := by rw [hH5]; exact Ext.push H _
    have g5 : H5.get H.n = some ⟨[.int .i64 (0xa6 + (i : Int)), .int .i64 (S17.getD i 0)], 83, .tip, 1, []⟩ := by rw [hH5]; exact get_push_self
    obtain ⟨H1, H2, H3, v', H4, e1, e2, c3, m1, x4, o4, k4, f4, kp4⟩ := rowR [0xa6 + (i : Int)] [S17.getD i 0] (by simp) (by simp) (hx.trans x5) (ho.ext x5) (hc.ext x5) hf (by omega)
    rw [List.append_assoc, show D17 i ++ [([0xa6 + (i : Int)], [S17.getD i 0])] = D17 (i + 1) from (D17_succ i).symm] at o4
    have e1' : H1 = H5.push ⟨[.int .i64 (0xa6 + (i : Int))], 3, .tip, 0, []⟩ := e1
    have e2' : H2 = H1.push ⟨[.int .i64 (S17.getD i 0)], 3, .tip, 0, []⟩ := e2
    have x51 : Ext H5 H1 := by rw [e1']; exact Ext.push H5 _
    have g1 := x51.get g5
    simp only [List.length_cons, List.length_nil, Nat.reduceAdd] at c3 m1
    have hw2 : IntKind.i64.wrap ((i : Int) + 1) = ((i + 1 : Nat) : Int) := by rw [wrap64 (by omega) (by omega)]; omega
    obtain ⟨y, e', H', r1, r2⟩ := ih (i + 1) H4 v' (by omega) (hw.keeps (x5.keeps.trans kp4)) x4 o4 k4 f4
    have haa0 : ∀ H2 : AHeap, vAaddr (.pointer (some ⟨H.n, 0, none⟩)) (.int .i64 0) 2 1 H2 = some (.pointer (some ⟨H.n, 0, none⟩), H2) := fun _ => rfl
    have haa1 : ∀ H2 : AHeap, vAaddr (.pointer (some ⟨H.n, 0, none⟩)) (.int .i64 1) 2 1 H2 = some (.pointer (some ⟨H.n, 1, none⟩), H2) := fun _ => rfl
    rw [w_loop_b b_tamil_Rules_2.eq_1]
    simp only [WA, isStore, isCall, isK, freshI, stampO, List.nil_append, Option.map_some, Option.map_none, Option.bind_some, List.map_cons, List.map_nil, if_true, if_false, Nat.reduceEqDiff, Int.reduceEq, Nat.reduceAdd, Nat.reduceMul, reduceCtorEq, eq_self, Int.reduceLT, Int.reduceLE, Int.reduceToNat, List.length_cons, List.length_nil, List.all_cons, List.all_nil, List.take_zero, List.drop_nil, List.append_nil, List.getElem?_cons_zero, List.getElem?_cons_succ, List.drop_succ_cons, List.drop_zero, List.take_succ_cons, List.cons_append, Nat.reduceLeDiff, Int.cast_ofNat_Int, hlt, ha, hl, ← hH5, haa0, haa1, g5, v_int1, ← e1', g1, ← e2', c3, v_rule1, m1, hw2]
    rw [w_enter]
    simp only [WA, isStore, isCall, isK, freshI, stampO, List.nil_append, Option.map_some, Option.map_none, Option.bind_some, List.map_cons, List.map_nil, if_true, if_false, Nat.reduceEqDiff, Int.reduceEq, Nat.reduceAdd, Nat.reduceMul, reduceCtorEq, eq_self, Int.reduceLT, Int.reduceLE, Int.reduceToNat, List.length_cons, List.length_nil, List.all_cons, List.all_nil, List.take_zero, List.drop_nil, List.append_nil, List.getElem?_cons_zero, List.getElem?_cons_succ, List.drop_succ_cons, List.drop_zero, List.take_succ_cons, List.cons_append, Nat.reduceLeDiff, Int.cast_ofNat_Int, r1]
    exact r2
theorem v_rules8 {H : AHeap} {el : TypeId} {a0 b0 a1 b1 a2 b2 a3 b3 a4 b4 a5 b5 a6 b6 a7 b7 : Value} : vBslice el 8 2 [.slice none 0 0, .slice none 0 0] [(0, 2, .agg ⟨[a0, b0]⟩), (2, 2, .agg ⟨[a1, b1]⟩), (4, 2, .agg ⟨[a2, b2]⟩), (6, 2, .agg ⟨[a3, b3]⟩), (8, 2, .agg ⟨[a4, b4]⟩), (10, 2, .agg ⟨[a5, b5]⟩), (12, 2, .agg ⟨[a6, b6]⟩), (14, 2, .agg ⟨[a7, b7]⟩)] H = some (.slice (some ⟨H.n, 0, none⟩) 8 9, H.push ⟨[a0, b0, a1, b1, a2, b2, a3, b3, a4, b4, a5, b5, a6, b6, a7, b7], el, .tip, 0, []⟩) := by kernel_rfl
theorem E17_len : ∀ i, (E17 i).length = 8 * i
  | 0 => rfl
  | i + 1 => by rw [E17_succ, List.length_append, E17_len i]; simp [con8]; omega
set_option maxHeartbeats 1600000 in
theorem l_K3 {H0 : AHeap} {w : Value} : ∀ (k i : Nat) (H : AHeap) (out : Value), i + k = 22 → Ints H w C17 → Ext H0 H → OwnRules H 46 out (A17 128 ++ B17 13 ++ D17 10 ++ E17 i) → CutR H out → From H0.n out →
    Out (run Try.prog (tabF tab) om1 (.loop [1, 66, 67, 68] b_tamil_Rules_3) [(1, out), (66, w), (67, .int .i64 22), (68, .int .i64 i)] H) fun y e' H' => y = .exit 6 ∧ Ext H0 H' ∧ OwnRules H' 46 (eget e' 1) R17 ∧ CutR H' (eget e' 1) := by
  intro k
  induction k with
  | zero =>
    intro i H out hi hw hx ho hc hf
    obtain rfl : i = 22 := by omega
    have z : (((22 : Nat) : Int) < 22) = False := by simp
    rw [w_loop_b b_tamil_Rules_3.eq_1]
    simp only [WA, isStore, isCall, isK, freshI, stampO, List.nil_append, Option.map_some, Option.map_none, Option.bind_some, List.map_cons, List.map_nil, if_true, if_false, Nat.reduceEqDiff, Int.reduceEq, Nat.reduceAdd, Nat.reduceMul, reduceCtorEq, eq_self, Int.reduceLT, Int.reduceLE, Int.reduceToNat, List.length_cons, List.length_nil, List.all_cons, List.all_nil, List.take_zero, List.drop_nil, List.append_nil, List.getElem?_cons_zero, List.getElem?_cons_succ, List.drop_succ_cons, List.drop_zero, List.take_succ_cons, List.cons_append, Nat.reduceLeDiff, Int.cast_ofNat_Int, z]
    exact ⟨hx, ho, hc⟩
  | succ k ih =>
    intro i H out hi hw hx ho hc hf
    have hlt : (i : Int) < 22 := by omega
    have hE := E17_len i
    have hlen : (A17 128 ++ B17 13 ++ D17 10 ++ E17 i).length = 151 + 8 * i := by rw [List.length_append, hE]; simp [A17, B17, D17]
    have hg : C17[i]? = some (C17.getD i 0) := by rw [List.getD_eq_getElem?_getD, List.getElem?_eq_getElem (show i < C17.length from by show i < 22; omega)]; rfl
    obtain ⟨i1, o1, a1, a2⟩ := hw.at hg
    have hw3 : IntKind.i64.wrap (176 + (i : Int)) = 176 + i := wrap64 (by omega) (by omega)
    have hw4 : IntKind.i64.wrap (208 + (i : Int)) = 208 + i := wrap64 (by omega) (by omega)
    have hw2 : IntKind.i64.wrap ((i : Int) + 1) = ((i + 1 : Nat) : Int) := by rw [wrap64 (by omega) (by omega)]; omega
    obtain ⟨s, hs⟩ : ∃ s, s = C17.getD i 0 := ⟨_, rfl⟩
    obtain ⟨c, hcc⟩ : ∃ c : Int, c = 176 + i := ⟨_, rfl⟩
    obtain ⟨d, hdd⟩ : ∃ d : Int, d = 208 + i := ⟨_, rfl⟩
    rw [← hs] at a2
    rw [show (176 : Int) + i = c from hcc.symm] at hw3
    rw [show (208 : Int) + i = d from hdd.symm] at hw4
    have hw3' : IntKind.i64.wrap (176 + (i : Int)) = c := by rw [← hcc]; exact hw3
    have hw4' : IntKind.i64.wrap (208 + (i : Int)) = d := by rw [← hdd]; exact hw4
    obtain ⟨X0, Y0, Z0, p0, q0, k0, x0, ia0, ib0, ca0, cb0, ta0, tb0⟩ := oneR [c] [s] (by simp) (by simp) H
    have p0' : X0 = H.push ⟨[.int .i64 c], 3, .tip, 0, []⟩ := p0
    have q0' : Y0 = X0.push ⟨[.int .i64 s], 3, .tip, 0, []⟩ := q0
    simp only [List.length_cons, List.length_nil, Nat.reduceAdd] at k0 ia0 ib0 ca0 cb0
    obtain ⟨X1, Y1, Z1, p1, q1, k1, x1, ia1, ib1, ca1, cb1, ta1, tb1⟩ := oneR [d] [s, 0xbcd] (by simp) (by simp) Z0
    have p1' : X1 = Z0.push ⟨[.int .i64 d], 3, .tip, 0, []⟩ := p1
    have q1' : Y1 = X1.push ⟨[.int .i64 s, .int .i64 3021], 3, .tip, 0, []⟩ := q1
    simp only [List.length_cons, List.length_nil, Nat.reduceAdd] at k1 ia1 ib1 ca1 cb1
    obtain ⟨X2, Y2, Z2, p2, q2, k2, x2, ia2, ib2, ca2, cb2, ta2, tb2⟩ := oneR [0xa6, c] [s, 0xbc6] (by simp) (by simp) Z1
    have p2' : X2 = Z1.push ⟨[.int .i64 166, .int .i64 c], 3, .tip, 0, []⟩ := p2
    have q2' : Y2 = X2.push ⟨[.int .i64 s, .int .i64 3014], 3, .tip, 0, []⟩ := q2
    simp only [List.length_cons, List.length_nil, Nat.reduceAdd] at k2 ia2 ib2 ca2 cb2
    obtain ⟨X3, Y3, Z3, p3, q3, k3, x3, ia3, ib3, ca3, cb3, ta3, tb3⟩ := oneR [0xa7, c] [s, 0xbc7] (by simp) (by simp) Z2
    have p3' : X3 = Z2.push ⟨[.int .i64 167, .int .i64 c], 3, .tip, 0, []⟩ := p3
    have q3' : Y3 = X3.push ⟨[.int .i64 s, .int .i64 3015], 3, .tip, 0, []⟩ := q3
    simp only [List.length_cons, List.length_nil, Nat.reduceAdd] at k3 ia3 ib3 ca3 cb3
    obtain ⟨X4, Y4, Z4, p4, q4, k4, x4, ia4, ib4, ca4, cb4, ta4, tb4⟩ := oneR [0xa8, c] [s, 0xbc8] (by simp) (by simp) Z3
    have p4' : X4 = Z3.push ⟨[.int .i64 168, .int .i64 c], 3, .tip, 0, []⟩ := p4
    have q4' : Y4 = X4.push ⟨[.int .i64 s, .int .i64 3016], 3, .tip, 0, []⟩ := q4
    simp only [List.length_cons, List.length_nil, Nat.reduceAdd] at k4 ia4 ib4 ca4 cb4
    obtain ⟨X5, Y5, Z5, p5, q5, k5, x5, ia5, ib5, ca5, cb5, ta5, tb5⟩ := oneR [0xa6, c, 0xaa] [s, 0xbca] (by simp) (by simp) Z4
    have p5' : X5 = Z4.push ⟨[.int .i64 166, .int .i64 c, .int .i64 170], 3, .tip, 0, []⟩ := p5
    have q5' : Y5 = X5.push ⟨[.int .i64 s, .int .i64 3018], 3, .tip, 0, []⟩ := q5
    simp only [List.length_cons, List.length_nil, Nat.reduceAdd] at k5 ia5 ib5 ca5 cb5
    obtain ⟨X6, Y6, Z6, p6, q6, k6, x6, ia6, ib6, ca6, cb6, ta6, tb6⟩ := oneR [0xa7, c, 0xaa] [s, 0xbcb] (by simp) (by simp) Z5
    have p6' : X6 = Z5.push ⟨[.int .i64 167, .int .i64 c, .int .i64 170], 3, .tip, 0, []⟩ := p6
    have q6' : Y6 = X6.push ⟨[.int .i64 s, .int .i64 3019], 3, .tip, 0, []⟩ := q6
    simp only [List.length_cons, List.length_nil, Nat.reduceAdd] at k6 ia6 ib6 ca6 cb6
    obtain ⟨X7, Y7, Z7, p7, q7, k7, x7, ia7, ib7, ca7, cb7, ta7, tb7⟩ := oneR [0xa6, c, 0xaf] [s, 0xbcc] (by simp) (by simp) Z6
    have p7' : X7 = Z6.push ⟨[.int .i64 166, .int .i64 c, .int .i64 175], 3, .tip, 0, []⟩ := p7
    have q7' : Y7 = X7.push ⟨[.int .i64 s, .int .i64 3020], 3, .tip, 0, []⟩ := q7
    simp only [List.length_cons, List.length_nil, Nat.reduceAdd] at k7 ia7 ib7 ca7 cb7
    have xx7 := Ext.refl Z7
    have xx6 := x7.trans xx7
    have xx5 := x6.trans xx6
    have xx4 := x5.trans xx5
    have xx3 := x4.trans xx4
    have xx2 := x3.trans xx3
    have xx1 := x2.trans xx2
    have xx0 := x1.trans xx1
    have xH := x0.trans xx0
    have xp := Ext.push Z7 ⟨[.slice (some ⟨H.n, 0, none⟩) 1 2, .slice (some ⟨X0.n, 0, none⟩) 1 2, .slice (some ⟨Z0.n, 0, none⟩) 1 2, .slice (some ⟨X1.n, 0, none⟩) 2 3, .slice (some ⟨Z1.n, 0, none⟩) 2 3, .slice (some ⟨X2.n, 0, none⟩) 2 3, .slice (some ⟨Z2.n, 0, none⟩) 2 3, .slice (some ⟨X3.n, 0, none⟩) 2 3, .slice (some ⟨Z3.n, 0, none⟩) 2 3, .slice (some ⟨X4.n, 0, none⟩) 2 3, .slice (some ⟨Z4.n, 0, none⟩) 3 4, .slice (some ⟨X5.n, 0, none⟩) 2 3, .slice (some ⟨Z5.n, 0, none⟩) 3 4, .slice (some ⟨X6.n, 0, none⟩) 2 3, .slice (some ⟨Z6.n, 0, none⟩) 3 4, .slice (some ⟨X7.n, 0, none⟩) 2 3], 46, .tip, 0, []⟩
    obtain ⟨v', H4, m1, m2, m3, m4, m5, m6, m7⟩ := OwnRules.appendM (M := con8 c s d) (ho.ext (xH.trans xp)) (hc.ext (xH.trans xp)) (Sl.new (n := 8) (c := 9) (get_push_self (H := Z7) (b := ⟨[.slice (some ⟨H.n, 0, none⟩) 1 2, .slice (some ⟨X0.n, 0, none⟩) 1 2, .slice (some ⟨Z0.n, 0, none⟩) 1 2, .slice (some ⟨X1.n, 0, none⟩) 2 3, .slice (some ⟨Z1.n, 0, none⟩) 2 3, .slice (some ⟨X2.n, 0, none⟩) 2 3, .slice (some ⟨Z2.n, 0, none⟩) 2 3, .slice (some ⟨X3.n, 0, none⟩) 2 3, .slice (some ⟨Z3.n, 0, none⟩) 2 3, .slice (some ⟨X4.n, 0, none⟩) 2 3, .slice (some ⟨Z4.n, 0, none⟩) 3 4, .slice (some ⟨X5.n, 0, none⟩) 2 3, .slice (some ⟨Z5.n, 0, none⟩) 3 4, .slice (some ⟨X6.n, 0, none⟩) 2 3, .slice (some ⟨Z6.n, 0, none⟩) 3 4, .slice (some ⟨X7.n, 0, none⟩) 2 3], 46, .tip, 0, []⟩)) mem_tip rfl) ⟨⟨ia0.ext (xx0.trans xp), ib0.ext (xx0.trans xp), ta0, tb0, ca0.ext (xx0.trans xp), cb0.ext (xx0.trans xp)⟩, ⟨ia1.ext (xx1.trans xp), ib1.ext (xx1.trans xp), ta1, tb1, ca1.ext (xx1.trans xp), cb1.ext (xx1.trans xp)⟩, ⟨ia2.ext (xx2.trans xp), ib2.ext (xx2.trans xp), ta2, tb2, ca2.ext (xx2.trans xp), cb2.ext (xx2.trans xp)⟩, ⟨ia3.ext (xx3.trans xp), ib3.ext (xx3.trans xp), ta3, tb3, ca3.ext (xx3.trans xp), cb3.ext (xx3.trans xp)⟩, ⟨ia4.ext (xx4.trans xp), ib4.ext (xx4.trans xp), ta4, tb4, ca4.ext (xx4.trans xp), cb4.ext (xx4.trans xp)⟩, ⟨ia5.ext (xx5.trans xp), ib5.ext (xx5.trans xp), ta5, tb5, ca5.ext (xx5.trans xp), cb5.ext (xx5.trans xp)⟩, ⟨ia6.ext (xx6.trans xp), ib6.ext (xx6.trans xp), ta6, tb6, ca6.ext (xx6.trans xp), cb6.ext (xx6.trans xp)⟩, ⟨ia7.ext (xx7.trans xp), ib7.ext (xx7.trans xp), ta7, tb7, ca7.ext (xx7.trans xp), cb7.ext (xx7.trans xp)⟩, trivial⟩ (by simp [con8]) (by rw [hlen]; show (151 + 8 * i + 8) * 48 ≤ 140737488355328; omega)
    have hx4 := Ext.grow (hx.trans (xH.trans xp)) m5 m6 hf
    have hE2 : A17 128 ++ B17 13 ++ D17 10 ++ E17 i ++ con8 c s d = A17 128 ++ B17 13 ++ D17 10 ++ E17 (i + 1) := by rw [E17_succ, List.append_assoc (A17 128 ++ B17 13 ++ D17 10), hcc, hs, hdd]
    rw [hE2] at m2
    obtain ⟨y, e', H', r1, r2⟩ := ih (i + 1) H4 v' (by omega) (hw.keeps ((xH.trans xp).keeps.trans m7)) hx4 m2 m3 (m4.mono (hx.trans (xH.trans xp)).1)
    rw [w_loop_b b_tamil_Rules_3.eq_1]
    simp only [WA, isStore, isCall, isK, freshI, stampO, List.nil_append, Option.map_some, Option.map_none, Option.bind_some, List.map_cons, List.map_nil, if_true, if_false, Nat.reduceEqDiff, Int.reduceEq, Nat.reduceAdd, Nat.reduceMul, reduceCtorEq, eq_self, Int.reduceLT, Int.reduceLE, Int.reduceToNat, List.length_cons, List.length_nil, List.all_cons, List.all_nil, List.take_zero, List.drop_nil, List.append_nil, List.getElem?_cons_zero, List.getElem?_cons_succ, List.drop_succ_cons, List.drop_zero, List.take_succ_cons, List.cons_append, Nat.reduceLeDiff, Int.cast_ofNat_Int, hlt, a1, a2, hw3', hw4', v_int1, v_int2, v_int3, ← p0', ← q0', k0, ← p1', ← q1', k1, ← p2', ← q2', k2, ← p3', ← q3', k3, ← p4', ← q4', k4, ← p5', ← q5', k5, ← p6', ← q6', k6, ← p7', ← q7', k7, v_rules8, m1, hw2]
    rw [w_enter]
    simp only [WA, isStore, isCall, isK, freshI, stampO, List.nil_append, Option.map_some, Option.map_none, Option.bind_some, List.map_cons, List.map_nil, if_true, if_false, Nat.reduceEqDiff, Int.reduceEq, Nat.reduceAdd, Nat.reduceMul, reduceCtorEq, eq_self, Int.reduceLT, Int.reduceLE, Int.reduceToNat, List.length_cons, List.length_nil, List.all_cons, List.all_nil, List.take_zero, List.drop_nil, List.append_nil, List.getElem?_cons_zero, List.getElem?_cons_succ, List.drop_succ_cons, List.drop_zero, List.take_succ_cons, List.cons_append, Nat.reduceLeDiff, Int.cast_ofNat_Int, r1]
    exact r2
theorem c_K1 (H : AHeap) : cw Try.prog (tabF tab) om1 53 [] H = some (.slice (some ⟨H.n, 0, none⟩) 13 14, H.push ⟨ints V17, 3, .tip, 0, []⟩) := cw_of 3 (by kernel_rfl)
theorem c_K3 (H : AHeap) : cw Try.prog (tabF tab) om1 54 [] H = some (.slice (some ⟨H.n, 0, none⟩) 22 23, H.push ⟨ints C17, 3, .tip, 0, []⟩) := cw_of 3 (by kernel_rfl)
end Go.Proofs.Ytgonfmpmdahmcaa

/-! Layer 17: the rules' table; plain facts of the rules. -/
set_option linter.unusedSimpArgs false
set_option linter.unusedVariables false
namespace Go.Proofs.Ytgonfmpmdahmcaa
open Go Lon
set_option maxRecDepth 100000
theorem v_pair {H : AHeap} {a b : Int} : vBuild [.int .i64 0, .int .i64 0] [(0, 1, .int .i64 a), (1, 1, .int .i64 b)] H = some (.agg ⟨[.int .i64 a, .int .i64 b]⟩, H) := rfl
theorem v_pairs {H : AHeap} : vBslice 83 10 2 [.int .i64 0, .int .i64 0] [(0, 2, .agg ⟨[.int .i64 166, .int .i64 3014]⟩), (2, 2, .agg ⟨[.int .i64 167, .int .i64 3015]⟩), (4, 2, .agg ⟨[.int .i64 168, .int .i64 3016]⟩), (6, 2, .agg ⟨[.int .i64 169, .int .i64 3021]⟩), (8, 2, .agg ⟨[.int .i64 170, .int .i64 3006]⟩), (10, 2, .agg ⟨[.int .i64 171, .int .i64 3007]⟩), (12, 2, .agg ⟨[.int .i64 172, .int .i64 3008]⟩), (14, 2, .agg ⟨[.int .i64 173, .int .i64 3009]⟩), (16, 2, .agg ⟨[.int .i64 174, .int .i64 3010]⟩), (18, 2, .agg ⟨[.int .i64 175, .int .i64 3031]⟩)] H = some (.slice (some ⟨H.n, 0, none⟩) 10 11, H.push ⟨P17.flatMap fun p => [.int .i64 p.1, .int .i64 p.2], 83, .tip, 0, []⟩) := by kernel_rfl
theorem c_R17 {H : AHeap} : Gives (cw Try.prog (tabF tab) om1 36 [] H) fun v H' => Ext H H' ∧ OwnRules H' 46 v R17 ∧ CutR H' v := by
  rw [cw_run (F := F_tamil_Rules) rfl rfl rfl]
  unfold F_tamil_Rules k_tamil_Rules
  obtain ⟨y, e1, H1, r1, rfl, x1, o1, k1, f1⟩ := l_K0 128 0 H (.slice none 0 0) rfl (Ext.refl _) (OwnRules.nil _ _) (CutR.nil _) trivial
  obtain ⟨H2, hH2⟩ : ∃ H2, H2 = H1.push ⟨ints V17, 3, .tip, 0, []⟩ := ⟨_, rfl⟩
  have x2 : Ext H1 H2 := by rw [hH2]; exact Ext.push H1 _
  have g2 : H2.get H1.n = some ⟨ints V17, 3, .tip, 0, []⟩ := by rw [hH2]; exact get_push_self
  have c2 := c_K1 H1
  rw [← hH2] at c2
  obtain ⟨y, e3, H3, r3, rfl, x3, o3, k3, f3⟩ := l_K1 (H0 := H) (w := .slice (some ⟨H1.n, 0, none⟩) 13 14) 13 0 H2 (eget e1 1) rfl (Sl.new (n := 13) g2 mem_tip rfl) (x1.trans x2) (by rw [show B17 0 = [] from rfl, List.append_nil]; exact o1.ext x2) (k1.ext x2) f1
  obtain ⟨H4, hH4⟩ : ∃ H4, H4 = H3.push ⟨P17.flatMap fun p => [.int .i64 p.1, .int .i64 p.2], 83, .tip, 0, []⟩ := ⟨_, rfl⟩
  have x4 : Ext H3 H4 := by rw [hH4]; exact Ext.push H3 _
  have g4 : H4.get H3.n = some ⟨P17.flatMap fun p => [.int .i64 p.1, .int .i64 p.2], 83, .tip, 0, []⟩ := by rw [hH4]; exact get_push_self
  have c4 := v_pairs (H := H3)
  rw [← hH4] at c4
  obtain ⟨y, e5, H5, r5, rfl, x5, o5, k5, f5⟩ := l_K2 (H0 := H) (w := .slice (some ⟨H3.n, 0, none⟩) 10 11) 10 0 H4 (eget e3 1) rfl (Sl.new (n := 10) g4 mem_tip rfl) (x3.trans x4) (by rw [show D17 0 = [] from rfl, List.append_nil]; exact o3.ext x4) (k3.ext x4) f3
  obtain ⟨H6, hH6⟩ : ∃ H6, H6 = H5.push ⟨ints C17, 3, .tip, 0, []⟩ := ⟨_, rfl⟩
  have x6 : Ext H5 H6 := by rw [hH6]; exact Ext.push H5 _
  have g6 : H6.get H5.n = some ⟨ints C17, 3, .tip, 0, []⟩ := by rw [hH6]; exact get_push_self
  have c6 := c_K3 H5
  rw [← hH6] at c6
  obtain ⟨y, e7, H7, r7, rfl, x7, o7, k7⟩ := l_K3 (H0 := H) (w := .slice (some ⟨H5.n, 0, none⟩) 22 23) 22 0 H6 (eget e5 1) rfl (Sl.new (n := 22) g6 mem_tip rfl) (x5.trans x6) (by rw [show E17 0 = [] from rfl, List.append_nil]; exact o5.ext x6) (k5.ext x6) f5
  have hl1 : ∀ H2 : AHeap, vLen false (.slice (some ⟨H1.n, 0, none⟩) 13 14) H2 = some (.int .i64 13, H2) := fun _ => rfl
  have hl3 : ∀ H2 : AHeap, vLen false (.slice (some ⟨H3.n, 0, none⟩) 10 11) H2 = some (.int .i64 10, H2) := fun _ => rfl
  have hl5 : ∀ H2 : AHeap, vLen false (.slice (some ⟨H5.n, 0, none⟩) 22 23) H2 = some (.int .i64 22, H2) := fun _ => rfl
  simp only [Int.cast_ofNat_Int] at r1 r3 r5 r7
  simp only [WA, isStore, isCall, isK, freshI, stampO, List.nil_append, Option.map_some, Option.map_none, Option.bind_some, List.map_cons, List.map_nil, if_true, if_false, Nat.reduceEqDiff, Int.reduceEq, Nat.reduceAdd, Nat.reduceMul, reduceCtorEq, eq_self, Int.reduceLT, Int.reduceLE, Int.reduceToNat, List.length_cons, List.length_nil, List.all_cons, List.all_nil, List.take_zero, List.drop_nil, List.append_nil, List.getElem?_cons_zero, List.getElem?_cons_succ, List.drop_succ_cons, List.drop_zero, List.take_succ_cons, List.cons_append, Nat.reduceLeDiff, Int.cast_ofNat_Int]
  rw [w_enter]
  simp only [WA, isStore, isCall, isK, freshI, stampO, List.nil_append, Option.map_some, Option.map_none, Option.bind_some, List.map_cons, List.map_nil, if_true, if_false, Nat.reduceEqDiff, Int.reduceEq, Nat.reduceAdd, Nat.reduceMul, reduceCtorEq, eq_self, Int.reduceLT, Int.reduceLE, Int.reduceToNat, List.length_cons, List.length_nil, List.all_cons, List.all_nil, List.take_zero, List.drop_nil, List.append_nil, List.getElem?_cons_zero, List.getElem?_cons_succ, List.drop_succ_cons, List.drop_zero, List.take_succ_cons, List.cons_append, Nat.reduceLeDiff, Int.cast_ofNat_Int, r1, c2, hl1]
  rw [w_enter]
  simp only [WA, isStore, isCall, isK, freshI, stampO, List.nil_append, Option.map_some, Option.map_none, Option.bind_some, List.map_cons, List.map_nil, if_true, if_false, Nat.reduceEqDiff, Int.reduceEq, Nat.reduceAdd, Nat.reduceMul, reduceCtorEq, eq_self, Int.reduceLT, Int.reduceLE, Int.reduceToNat, List.length_cons, List.length_nil, List.all_cons, List.all_nil, List.take_zero, List.drop_nil, List.append_nil, List.getElem?_cons_zero, List.getElem?_cons_succ, List.drop_succ_cons, List.drop_zero, List.take_succ_cons, List.cons_append, Nat.reduceLeDiff, Int.cast_ofNat_Int, r3, v_pair, c4, hl3]
  rw [w_enter]
  simp only [WA, isStore, isCall, isK, freshI, stampO, List.nil_append, Option.map_some, Option.map_none, Option.bind_some, List.map_cons, List.map_nil, if_true, if_false, Nat.reduceEqDiff, Int.reduceEq, Nat.reduceAdd, Nat.reduceMul, reduceCtorEq, eq_self, Int.reduceLT, Int.reduceLE, Int.reduceToNat, List.length_cons, List.length_nil, List.all_cons, List.all_nil, List.take_zero, List.drop_nil, List.append_nil, List.getElem?_cons_zero, List.getElem?_cons_succ, List.drop_succ_cons, List.drop_zero, List.take_succ_cons, List.cons_append, Nat.reduceLeDiff, Int.cast_ofNat_Int, r5, c6, hl5]
  rw [w_enter]
  simp only [WA, isStore, isCall, isK, freshI, stampO, List.nil_append, Option.map_some, Option.map_none, Option.bind_some, List.map_cons, List.map_nil, if_true, if_false, Nat.reduceEqDiff, Int.reduceEq, Nat.reduceAdd, Nat.reduceMul, reduceCtorEq, eq_self, Int.reduceLT, Int.reduceLE, Int.reduceToNat, List.length_cons, List.length_nil, List.all_cons, List.all_nil, List.take_zero, List.drop_nil, List.append_nil, List.getElem?_cons_zero, List.getElem?_cons_succ, List.drop_succ_cons, List.drop_zero, List.take_succ_cons, List.cons_append, Nat.reduceLeDiff, Int.cast_ofNat_Int, r7]
  exact ⟨x7, o7, k7⟩
theorem R17_side : R17.all (fun r => sideB r.1 && sideB r.2) = true := by kernel_rfl
/-- Units as one number. -/
def key : List Int → Nat
  | [] => 0
  | u :: l => u.toNat + 1 + 2000000 * key l
def noneB (k : Nat) : List Nat → Bool
  | [] => true
  | a :: l => cond (Nat.beq a k) false (noneB k l)
def distB : List Nat → Bool
  | [] => true
  | a :: l => cond (noneB a l) (distB l) false
theorem noneB_spec {k : Nat} : ∀ {l : List Nat}, noneB k l = true → k ∉ l
  | [], _, h => by cases h
  | a :: l, h, hm => by
    unfold noneB at h
    cases hb : Nat.beq a k with
    | true => rw [hb] at h; cases h
    | false =>
      rw [hb] at h
      rcases List.mem_cons.1 hm with e | hm
      · subst e; rw [Nat.beq_refl] at hb; cases hb
      · exact noneB_spec h hm
theorem distB_spec : ∀ {l : List Nat}, distB l = true → l.Nodup
  | [], _ => List.nodup_nil
  | a :: l, h => by
    unfold distB at h
    cases hb : noneB a l with
    | true => rw [hb] at h; exact List.nodup_cons.2 ⟨noneB_spec hb, distB_spec h⟩
    | false => rw [hb] at h; cases h
theorem nodup_of {α : Type} {f : α → Nat} {l : List α} (h : (l.map f).Nodup) : l.Nodup := List.Pairwise.of_map f (fun a b hne e => hne (congrArg f e)) h
theorem pair_good {L : List Rl} (hs : L.all (fun r => sideB r.1 && sideB r.2) = true) (hd : (L.map (·.1)).Nodup) : Right L := by
  refine ⟨fun r hr => by simpa using List.all_eq_true.1 hs r hr, fun k r hr => ?_⟩
  rw [fnd_neg]
  intro x hx e
  obtain ⟨i, hi, rfl⟩ := List.getElem_of_mem hx
  obtain ⟨hk, rfl⟩ := List.getElem?_eq_some_iff.1 hr
  rw [List.length_take] at hi
  rw [List.getElem_take] at e
  have := (List.pairwise_iff_getElem.1 hd) i k (by rw [List.length_map]; omega) (by rw [List.length_map]; exact hk) (by omega)
  rw [List.getElem_map, List.getElem_map] at this
  exact this e
theorem R17_ins : (R17.map (·.1)).Nodup := nodup_of (f := key) (distB_spec (by kernel_rfl))
theorem R17_outs : (R17.map (·.2)).Nodup := nodup_of (f := key) (distB_spec (by kernel_rfl))
theorem R17_right : Right R17 := pair_good R17_side R17_ins
/-- Rules each of which has an Out of its own, the other way round. -/
theorem trn_all : ∀ {L T : List Rl}, ((T.map (·.1)) ++ L.map (·.2)).Nodup → trn L T = T ++ L.map fun r => (r.2, r.1)
  | [], T, _ => by simp [trn]
  | r :: L, T, h => by
    unfold trn
    have hn : fnd T r.2 < 0 := by
      rw [fnd_neg]
      intro x hx e
      rw [List.map_cons] at h
      have := (List.nodup_append.1 h).2.2 x.1 (List.mem_map.2 ⟨x, hx, rfl⟩) r.2 (List.mem_cons_self ..)
      exact this e
    rw [if_pos hn, trn_all (by rw [List.map_append, List.map_singleton, List.append_assoc]; simpa using h)]
    simp
theorem R17_trn : trn R17 [] = R17.map fun r => (r.2, r.1) := by
  have := trn_all (L := R17) (T := []) (by simpa using R17_outs)
  rwa [List.nil_append] at this
theorem R17_len : R17.length = 327 := by kernel_rfl
theorem R17_cls : clsF R17 R17 = true := by
  rw [clsF_iff]
  have hall : R17.all (fun r => (List.range (r.1.length - 1)).all fun m => R17.any fun x => Nat.beq (key x.1) (key (r.1.take (m + 1))) && decide (x.1 = r.1.take (m + 1))) = true := by kernel_rfl
  intro r hr
  rw [clsIn_iff]
  intro m h1 h2
  have h3 := List.all_eq_true.1 (List.all_eq_true.1 hall r hr) (m - 1) (List.mem_range.2 (by omega))
  rw [show m - 1 + 1 = m by omega, List.any_eq_true] at h3
  obtain ⟨x, hx, h4⟩ := h3
  simp only [Bool.and_eq_true, decide_eq_true_eq] at h4
  unfold badN
  rw [decide_eq_false (show ¬ fnd R17 (r.1.take m) < 0 by
    intro h
    rw [fnd_neg] at h
    exact h x hx h4.2), Bool.false_and]
end Go.Proofs.Ytgonfmpmdahmcaa

/-! What tokens mean, and which is wrong first. -/
set_option linter.unusedSimpArgs false
set_option linter.unusedVariables false
namespace Go.Proofs.Ytgonfmpmdahmcaa
open Go Lon
set_option maxRecDepth 100000
/-- The first token that is wrong, behind one that may be. -/
def fstB : Tok → List Tok → Tok
  | u, [] => u
  | u, t :: T => fstB (if t.err ≠ 0 ∧ u.err = 0 then t else u) T
def tok0 : Tok := ⟨0, 0, [], 0⟩
theorem fstB_whole : ∀ {T : List Tok} {u : Tok}, whole T → fstB u T = u
  | [], u, h => rfl
  | t :: T, u, h => by
    unfold fstB
    rw [if_neg (fun hh => hh.1 (h t (List.mem_cons_self ..))), fstB_whole fun x hx => h x (List.mem_cons_of_mem _ hx)]
theorem fstB_bad : ∀ {T : List Tok} {u : Tok}, u.err ≠ 0 → (fstB u T).err ≠ 0
  | [], u, h => h
  | t :: T, u, h => by
    unfold fstB
    rw [if_neg (fun hh => h hh.2)]
    exact fstB_bad h
theorem fstB_zero : ∀ {T : List Tok} {u : Tok}, (fstB u T).err = 0 → whole T
  | [], u, h => fun t ht => by cases ht
  | t :: T, u, h => by
    unfold fstB at h
    intro x hx
    rcases List.mem_cons.1 hx with rfl | hx
    · by_cases he : x.err = 0
      · exact he
      · exfalso
        by_cases hu : u.err = 0
        · rw [if_pos ⟨he, hu⟩] at h; exact fstB_bad he h
        · rw [if_neg (fun hh => hu hh.2)] at h; exact fstB_bad hu h
    · exact fstB_zero h x hx
theorem OwnI.add2 {H0 H : AHeap} {v x : Value} {l m : List Int} (ho : OwnI H v l) (hf : From H0.n v) (hx : Ext H0 H) (hi : Ints H x m) (hs : l.length + m.length < 100000000) :
    ∃ v' H', appendA H v x 3 1 8 = some (v', H') ∧ OwnI H' v' (l ++ m) ∧ From H0.n v' ∧ Ext H0 H' ∧ ∀ j b, H.get j = some b → b.elem ≠ 3 → H'.get j = some b := by
  by_cases hm : m = []
  · subst hm
    refine ⟨v, H, ?_, by rw [List.append_nil]; exact ho, hf, hx, fun j b h _ => h⟩
    obtain ⟨⟨b1, b2, rfl⟩, hbc⟩ := hi
    obtain ⟨⟨d1, d2, rfl⟩, hdc⟩ := ho.sl
    unfold appendA
    simp only [hbc, hdc]
    exact if_pos List.length_nil
  · obtain ⟨v2, H2, q1, q2, q3, q4, q5, q6⟩ := Own.append2 (bytes := 8) ho hi (List.length_pos_iff.2 hm) (ones_ints m) (by omega)
    refine ⟨v2, H2, q1, ?_, q3.mono hx.1, Ext.grow hx q5 q6 hf, fun j b hj he => by rw [q6 j (AHeap.lt_of_get hj) (Own.notAt_elem ho hj he)]; exact hj⟩
    unfold OwnI
    rw [List.length_append]
    have : ints l ++ ints m = ints (l ++ m) := by simp [Lon.ints]
    rw [← this]
    exact q2
theorem got_ext' {H H' : AHeap} (hx : Ext H H') {i o : Nat} {k : Option Nat} {v : Value} (h : gotLoad (H.get i) o k H = some (v, H)) : gotLoad (H'.get i) o k H' = some (v, H') := got_ext hx h
theorem got_tokT {H : AHeap} {i ver c c2 : Nat} {el : TypeId} {p p2 : Option Addr} {t u : Tok} : gotStore (some ⟨tokC p2 c2 u, el, .tip, ver, []⟩) i 0 (.agg ⟨tokC p c t⟩) 4 H = some (.tuple ⟨[]⟩, H.upd i ⟨tokC p c t, el, .tip, ver + 1, []⟩) := got_tok
theorem l_UT {H0 : AHeap} {w : Value} {T : List Tok} {q3 q5 B : Nat} (hT : Toks Try.prog H0 w T) (hB : H0.n ≤ B) (h3 : H0.n ≤ q3) (h5 : H0.n ≤ q5) (h35 : q3 ≠ q5) (hT8 : (outs T).length < 10000000) : ∀ (c k : Nat) (H : AHeap) (v : Value) (l : List Int) (p : Option Addr) (cc ver : Nat) (u : Tok), k + c = T.length → OwnI H v l → From H0.n v → Ext H0 H → l ++ outs (T.drop k) = outs T → H.get q3 = some ⟨tokC none 0 tok0, 41, .tip, 0, []⟩ → H.get q5 = some ⟨tokC p cc u, 41, .tip, ver, []⟩ → tokQ Try.prog H0 (tokC p cc u) u →
    Out (run Try.prog (tabF tab) om1 (.loop [3, 4, 5, 8, 9, 10] b_rewrite_Units_0) [(3, .pointer (some ⟨q3, 0, none⟩)), (4, v), (5, .pointer (some ⟨q5, 0, none⟩)), (8, w), (9, .int .i64 T.length), (10, .int .i64 k)] H) fun y e' H' => y = .exit 0 ∧ eget e' 3 = .pointer (some ⟨q3, 0, none⟩) ∧ eget e' 5 = .pointer (some ⟨q5, 0, none⟩) ∧ OwnI H' (eget e' 4) (outs T) ∧ From H0.n (eget e' 4) ∧ Ext H0 H' ∧ H'.get q3 = some ⟨tokC none 0 tok0, 41, .tip, 0, []⟩ ∧ ∃ p' c' ver', H'.get q5 = some ⟨tokC p' c' (fstB u (T.drop k)), 41, .tip, ver', []⟩ ∧ tokQ Try.prog H0 (tokC p' c' (fstB u (T.drop k))) (fstB u (T.drop k)) := by
  intro c
  induction c with
  | zero =>
    intro k H v l p cc ver u hk ho hf hx hl hg3 hg5 hu
    have hlt : ¬ ((k : Int) < T.length) := by omega
    rw [w_loop_b b_rewrite_Units_0.eq_1]
    rw [List.drop_of_length_le (by omega)] at hl ⊢
    simp only [WA, isStore, isCall, isK, freshI, stampO, List.nil_append, Option.map_some, Option.map_none, Option.bind_some, List.map_cons, List.map_nil, if_true, if_false, Nat.reduceEqDiff, Int.reduceEq, Nat.reduceAdd, Nat.reduceMul, reduceCtorEq, eq_self, Int.reduceLT, Int.reduceLE, Int.reduceToNat, List.length_cons, List.length_nil, List.all_cons, List.all_nil, List.take_zero, List.drop_nil, List.append_nil, List.getElem?_cons_zero, List.getElem?_cons_succ, List.drop_succ_cons, List.drop_zero, List.take_succ_cons, List.cons_append, Nat.reduceLeDiff, Int.cast_ofNat_Int, hlt, fstB]
    rw [show outs [] = [] from rfl, List.append_nil] at hl
    subst hl
    exact ⟨ho, hf, hx, hg3, p, cc, ver, hg5, hu⟩
  | succ c ih =>
    intro k H v l p cc ver u hk ho hf hx hl hg3 hg5 hu
    have hTl := hT.1
    have hlt : (k : Int) < T.length := by omega
    obtain ⟨x, hxk, hdx⟩ := drop_at (L := T) (i := k) (by omega)
    have hsz : l.length + x.out.length < 100000000 := by
      have := congrArg List.length hl
      rw [hdx] at this
      simp only [outs, List.flatMap_cons, List.length_append] at this
      unfold outs at hT8
      omega
    obtain ⟨i, o, px, cx, a1, _, _, _, _, a6, a7, a8, a9⟩ := Toks.at' hT hxk
    have a6' := got_ext hx a6
    obtain ⟨H1, hH1⟩ : ∃ H1, H1 = H.push ⟨tokC px cx x, 41, .tip, 1, []⟩ := ⟨_, rfl⟩
    have x1 : Ext H H1 := by rw [hH1]; exact Ext.push H _
    have g1 : H1.get H.n = some ⟨tokC px cx x, 41, .tip, 1, []⟩ := by rw [hH1]; exact get_push_self
    have hne : (41 : TypeId) ≠ 3 := by decide
    obtain ⟨v', H2, m1, m2, m3, m4, m5⟩ := OwnI.add2 (ho.ext x1) hf (hx.trans x1) ((a7.ext hx).ext x1) hsz
    have g2 := m5 _ _ g1 hne
    have g3 := m5 _ _ (x1.get hg3) hne
    have g5 := m5 _ _ (x1.get hg5) hne
    have hw2 : IntKind.i64.wrap ((k : Int) + 1) = ((k + 1 : Nat) : Int) := by rw [wrap64 (by omega) (by omega)]; omega
    have hl2 : (l ++ x.out) ++ outs (T.drop (k + 1)) = outs T := by rw [← hl, hdx]; simp [outs]
    rw [w_loop_b b_rewrite_Units_0.eq_1, hdx]
    unfold fstB
    by_cases he : x.err = 0
    · have he' : (x.err ≠ 0) = False := by simp [he]
      rw [if_neg (fun hh => hh.1 he)]
      obtain ⟨y, e', H', r1, r2⟩ := ih (k + 1) H2 v' (l ++ x.out) p cc ver u (by omega) m2 m3 m4 hl2 g3 g5 hu
      simp only [WA, isStore, isCall, isK, freshI, stampO, List.nil_append, Option.map_some, Option.map_none, Option.bind_some, List.map_cons, List.map_nil, if_true, if_false, Nat.reduceEqDiff, Int.reduceEq, Nat.reduceAdd, Nat.reduceMul, reduceCtorEq, eq_self, Int.reduceLT, Int.reduceLE, Int.reduceToNat, List.length_cons, List.length_nil, List.all_cons, List.all_nil, List.take_zero, List.drop_nil, List.append_nil, List.getElem?_cons_zero, List.getElem?_cons_succ, List.drop_succ_cons, List.drop_zero, List.take_succ_cons, List.cons_append, Nat.reduceLeDiff, Int.cast_ofNat_Int, hlt, a1, a6', got_tok, ← hH1, g1, tk2, tk3, m1, g2, he', hw2]
      rw [w_enter]
      simp only [WA, isStore, isCall, isK, freshI, stampO, List.nil_append, Option.map_some, Option.map_none, Option.bind_some, List.map_cons, List.map_nil, if_true, if_false, Nat.reduceEqDiff, Int.reduceEq, Nat.reduceAdd, Nat.reduceMul, reduceCtorEq, eq_self, Int.reduceLT, Int.reduceLE, Int.reduceToNat, List.length_cons, List.length_nil, List.all_cons, List.all_nil, List.take_zero, List.drop_nil, List.append_nil, List.getElem?_cons_zero, List.getElem?_cons_succ, List.drop_succ_cons, List.drop_zero, List.take_succ_cons, List.cons_append, Nat.reduceLeDiff, Int.cast_ofNat_Int, r1]
      exact r2
    · have he' : (x.err ≠ 0) = True := by simp [he]
      by_cases hue : u.err = 0
      · have hue' : (u.err = 0) = True := eq_true hue
        rw [if_pos ⟨he, hue⟩]
        have g5' := upd_self (c := ⟨tokC px cx x, 41, .tip, ver + 1, []⟩) g5
        have g3' : (H2.upd q5 ⟨tokC px cx x, 41, .tip, ver + 1, []⟩).get q3 = some ⟨tokC none 0 tok0, 41, .tip, 0, []⟩ := by rw [upd_other g5 h35]; exact g3
        have ho2 : OwnI (H2.upd q5 ⟨tokC px cx x, 41, .tip, ver + 1, []⟩) v' (l ++ x.out) := Own.move m2 fun j b hj hb => by
          rw [upd_other g5 (fun e => by subst e; rw [g5] at hj; injection hj with hj; subst hj; exact hne hb)]
          exact hj
        obtain ⟨y, e', H', r1, r2⟩ := ih (k + 1) (H2.upd q5 ⟨tokC px cx x, 41, .tip, ver + 1, []⟩) v' (l ++ x.out) px cx (ver + 1) x (by omega) ho2 m3 (Ext.upd m4 g5 h5) hl2 g3' g5' ⟨px, cx, rfl, a7, a8, a9⟩
        simp only [WA, isStore, isCall, isK, freshI, stampO, List.nil_append, Option.map_some, Option.map_none, Option.bind_some, List.map_cons, List.map_nil, if_true, if_false, Nat.reduceEqDiff, Int.reduceEq, Nat.reduceAdd, Nat.reduceMul, reduceCtorEq, eq_self, Int.reduceLT, Int.reduceLE, Int.reduceToNat, List.length_cons, List.length_nil, List.all_cons, List.all_nil, List.take_zero, List.drop_nil, List.append_nil, List.getElem?_cons_zero, List.getElem?_cons_succ, List.drop_succ_cons, List.drop_zero, List.take_succ_cons, List.cons_append, Nat.reduceLeDiff, Int.cast_ofNat_Int, hlt, a1, a6', got_tok, ← hH1, g1, tk2, tk3, m1, g2, he', g5, hue', ld_tok]
        rw [got_tokT]
        simp only [WA, isStore, isCall, isK, freshI, stampO, List.nil_append, Option.map_some, Option.map_none, Option.bind_some, List.map_cons, List.map_nil, if_true, if_false, Nat.reduceEqDiff, Int.reduceEq, Nat.reduceAdd, Nat.reduceMul, reduceCtorEq, eq_self, Int.reduceLT, Int.reduceLE, Int.reduceToNat, List.length_cons, List.length_nil, List.all_cons, List.all_nil, List.take_zero, List.drop_nil, List.append_nil, List.getElem?_cons_zero, List.getElem?_cons_succ, List.drop_succ_cons, List.drop_zero, List.take_succ_cons, List.cons_append, Nat.reduceLeDiff, Int.cast_ofNat_Int, hw2]
        rw [w_enter]
        simp only [WA, isStore, isCall, isK, freshI, stampO, List.nil_append, Option.map_some, Option.map_none, Option.bind_some, List.map_cons, List.map_nil, if_true, if_false, Nat.reduceEqDiff, Int.reduceEq, Nat.reduceAdd, Nat.reduceMul, reduceCtorEq, eq_self, Int.reduceLT, Int.reduceLE, Int.reduceToNat, List.length_cons, List.length_nil, List.all_cons, List.all_nil, List.take_zero, List.drop_nil, List.append_nil, List.getElem?_cons_zero, List.getElem?_cons_succ, List.drop_succ_cons, List.drop_zero, List.take_succ_cons, List.cons_append, Nat.reduceLeDiff, Int.cast_ofNat_Int, r1]
        exact r2
      · have hue' : (u.err = 0) = False := eq_false hue
        rw [if_neg (fun hh => hue hh.2)]
        obtain ⟨y, e', H', r1, r2⟩ := ih (k + 1) H2 v' (l ++ x.out) p cc ver u (by omega) m2 m3 m4 hl2 g3 g5 hu
        simp only [WA, isStore, isCall, isK, freshI, stampO, List.nil_append, Option.map_some, Option.map_none, Option.bind_some, List.map_cons, List.map_nil, if_true, if_false, Nat.reduceEqDiff, Int.reduceEq, Nat.reduceAdd, Nat.reduceMul, reduceCtorEq, eq_self, Int.reduceLT, Int.reduceLE, Int.reduceToNat, List.length_cons, List.length_nil, List.all_cons, List.all_nil, List.take_zero, List.drop_nil, List.append_nil, List.getElem?_cons_zero, List.getElem?_cons_succ, List.drop_succ_cons, List.drop_zero, List.take_succ_cons, List.cons_append, Nat.reduceLeDiff, Int.cast_ofNat_Int, hlt, a1, a6', got_tok, ← hH1, g1, tk2, tk3, m1, g2, he', g5, hue', hw2]
        rw [w_enter]
        simp only [WA, isStore, isCall, isK, freshI, stampO, List.nil_append, Option.map_some, Option.map_none, Option.bind_some, List.map_cons, List.map_nil, if_true, if_false, Nat.reduceEqDiff, Int.reduceEq, Nat.reduceAdd, Nat.reduceMul, reduceCtorEq, eq_self, Int.reduceLT, Int.reduceLE, Int.reduceToNat, List.length_cons, List.length_nil, List.all_cons, List.all_nil, List.take_zero, List.drop_nil, List.append_nil, List.getElem?_cons_zero, List.getElem?_cons_succ, List.drop_succ_cons, List.drop_zero, List.take_succ_cons, List.cons_append, Nat.reduceLeDiff, Int.cast_ofNat_Int, r1]
        exact r2
theorem c_UT {w : Value} {T : List Tok} {H : AHeap} (hT : Toks Try.prog H w T) (hT8 : (outs T).length < 10000000) : Gives (cw Try.prog (tabF tab) om1 39 [w] H) fun v H' => Ext H H' ∧ ∃ vo p c, v = .tuple ⟨[vo, .agg ⟨tokC p c (fstB tok0 T)⟩]⟩ ∧ OwnI H' vo (outs T) ∧ From H.n vo ∧ tokQ Try.prog H (tokC p c (fstB tok0 T)) (fstB tok0 T) := by
  rw [cw_run (F := F_rewrite_Units) rfl rfl rfl]
  unfold F_rewrite_Units k_rewrite_Units
  obtain ⟨A, hA⟩ : ∃ A, A = H.push ⟨tokC none 0 tok0, 41, .tip, 0, []⟩ := ⟨_, rfl⟩
  obtain ⟨B, hB⟩ : ∃ B, B = A.push ⟨tokC none 0 tok0, 41, .tip, 0, []⟩ := ⟨_, rfl⟩
  have xa : Ext H A := by rw [hA]; exact Ext.push H _
  have xb : Ext A B := by rw [hB]; exact Ext.push A _
  have ga : A.get H.n = some ⟨tokC none 0 tok0, 41, .tip, 0, []⟩ := by rw [hA]; exact get_push_self
  have gb : B.get A.n = some ⟨tokC none 0 tok0, 41, .tip, 0, []⟩ := by rw [hB]; exact get_push_self
  have hAn : A.n = H.n + 1 := by rw [hA, AHeap.n_push]
  have hz : ([.int .i64 0, .int .i64 0, .slice none 0 0, .int .i64 0] : List Value) = tokC none 0 tok0 := rfl
  obtain ⟨y, e', H', r1, rfl, s3, s5, r4, r5, r6, r7, p', c', ver', r8, r9⟩ := l_UT (w := w) (q3 := H.n) (q5 := A.n) hT (Nat.le_refl _) (Nat.le_refl _) (by omega) (by omega) hT8 T.length 0 B (.slice none 0 0) [] none 0 0 tok0 (by omega) OwnI.nil trivial (xa.trans xb) rfl (xb.get ga) gb ⟨none, 0, rfl, Sl.nil H 1, by unfold Lon.tiny tok0; simp, Cut.nil⟩
  obtain ⟨u1, u2, hw⟩ : ∃ u1 u2, w = .slice u1 T.length u2 := by
    obtain ⟨_, cs, h1, _⟩ := hT
    obtain ⟨u1, u2, e⟩ := h1.1
    exact ⟨u1, u2, e⟩
  rw [List.drop_zero] at r8 r9
  rw [show ((0 : Nat) : Int) = 0 from rfl] at r1
  simp only [WA, isStore, isCall, isK, freshI, stampO, List.nil_append, Option.map_some, Option.map_none, Option.bind_some, List.map_cons, List.map_nil, if_true, if_false, Nat.reduceEqDiff, Int.reduceEq, Nat.reduceAdd, Nat.reduceMul, reduceCtorEq, eq_self, Int.reduceLT, Int.reduceLE, Int.reduceToNat, List.length_cons, List.length_nil, List.all_cons, List.all_nil, List.take_zero, List.drop_nil, List.append_nil, List.getElem?_cons_zero, List.getElem?_cons_succ, List.drop_succ_cons, List.drop_zero, List.take_succ_cons, List.cons_append, Nat.reduceLeDiff, Int.cast_ofNat_Int, hz, ← hA, ← hB]
  rw [hw] at r1 ⊢
  simp only [WA, isStore, isCall, isK, freshI, stampO, List.nil_append, Option.map_some, Option.map_none, Option.bind_some, List.map_cons, List.map_nil, if_true, if_false, Nat.reduceEqDiff, Int.reduceEq, Nat.reduceAdd, Nat.reduceMul, reduceCtorEq, eq_self, Int.reduceLT, Int.reduceLE, Int.reduceToNat, List.length_cons, List.length_nil, List.all_cons, List.all_nil, List.take_zero, List.drop_nil, List.append_nil, List.getElem?_cons_zero, List.getElem?_cons_succ, List.drop_succ_cons, List.drop_zero, List.take_succ_cons, List.cons_append, Nat.reduceLeDiff, Int.cast_ofNat_Int]
  rw [w_enter]
  simp only [WA, isStore, isCall, isK, freshI, stampO, List.nil_append, Option.map_some, Option.map_none, Option.bind_some, List.map_cons, List.map_nil, if_true, if_false, Nat.reduceEqDiff, Int.reduceEq, Nat.reduceAdd, Nat.reduceMul, reduceCtorEq, eq_self, Int.reduceLT, Int.reduceLE, Int.reduceToNat, List.length_cons, List.length_nil, List.all_cons, List.all_nil, List.take_zero, List.drop_nil, List.append_nil, List.getElem?_cons_zero, List.getElem?_cons_succ, List.drop_succ_cons, List.drop_zero, List.take_succ_cons, List.cons_append, Nat.reduceLeDiff, Int.cast_ofNat_Int, r1, s3, s5, r8, ld_tok, r7]
  have r7' := upd_self (c := ⟨tokC p' c' (fstB tok0 T), 41, .tip, 1, []⟩) r7
  have hne : (41 : TypeId) ≠ 3 := by decide
  rw [got_tokT]
  simp only [WA, isStore, isCall, isK, freshI, stampO, List.nil_append, Option.map_some, Option.map_none, Option.bind_some, List.map_cons, List.map_nil, if_true, if_false, Nat.reduceEqDiff, Int.reduceEq, Nat.reduceAdd, Nat.reduceMul, reduceCtorEq, eq_self, Int.reduceLT, Int.reduceLE, Int.reduceToNat, List.length_cons, List.length_nil, List.all_cons, List.all_nil, List.take_zero, List.drop_nil, List.append_nil, List.getElem?_cons_zero, List.getElem?_cons_succ, List.drop_succ_cons, List.drop_zero, List.take_succ_cons, List.cons_append, Nat.reduceLeDiff, Int.cast_ofNat_Int, ress_cell, rd_load, s3, r7', ld_tok, Option.map_some]
  have x2 : Ext H (H'.upd H.n ⟨tokC p' c' (fstB tok0 T), 41, .tip, 1, []⟩) := Ext.upd r6 r7 (Nat.le_refl _)
  exact ⟨x2, _, p', c', rfl, Own.move r4 fun j b hj hb => by
    rw [upd_other r7 (fun e => by subst e; rw [r7] at hj; injection hj with hj; subst hj; exact hne hb)]
    exact hj, r5, r9⟩
end Go.Proofs.Ytgonfmpmdahmcaa

/-! Layer 17: its table, texts by numbers; what is written whole is read as it was. -/
set_option linter.unusedSimpArgs false
set_option linter.unusedVariables false
namespace Go.Proofs.Ytgonfmpmdahmcaa
open Go Lon
set_option maxRecDepth 100000
theorem start17 {H : AHeap} : ∃ (v1 : Value) (H1 : AHeap) (q : Nat) (H2 : AHeap), cw Try.prog (tabF tab) om1 36 [] H = some (v1, H1) ∧ cw Try.prog (tabF tab) om1 16 [v1] H1 = some (.tuple ⟨[.pointer (some ⟨q, 0, none⟩), .int .i64 0]⟩, H2) ∧ Ext H H2 ∧ TableOk H2 q R17 ∧ Rules H2 v1 R17 ∧ CutR H2 v1 := by
  obtain ⟨v1, H1, c1, x1, o1, k1⟩ := c_R17 (H := H)
  have hR := o1.rules (by rw [R17_len]; decide)
  have hC : Cut Try.prog H1 v1 2 := o1.cut (by kernel_rfl)
  obtain ⟨v2, H2, c2, x2, q, rfl, hT⟩ := c_TOf hR hC k1 R17_right (by rw [R17_len]; decide) R17_cls
  exact ⟨v1, H1, q, H2, c1, c2, x1.trans x2, hT, hR.ext x2, k1.ext x2⟩
theorem c_L38 (H : AHeap) : cw Try.prog (tabF tab) om1 38 [] H = some (.slice (some ⟨H.n, 0, none⟩) 22 23, H.push ⟨ints C17, 3, .tip, 0, []⟩) := cw_of 3 (by kernel_rfl)
def G17 : List Int := [0xbc6, 0xbc7, 0xbc8, 0xbcd, 0xbbe, 0xbbf, 0xbc0, 0xbd7, 0xbca, 0xbcb, 0xbcc, 0xb85, 97]
def sc17 (u : Int) : Int := if u > 140 then G17.getD (u % 13).toNat 0 else C17.getD (u % 22).toNat 0
def som17 (l : List Int) : List Int := (l.take 60).map sc17
theorem som17_len {l : List Int} : (som17 l).length ≤ 60 := by unfold som17; rw [List.length_map, List.length_take]; omega
theorem C17_get {k : Nat} (h : k < 22) : C17[k]? = some (C17.getD k 0) := by rw [List.getD_eq_getElem?_getD, List.getElem?_eq_getElem (show k < C17.length from h)]; rfl
theorem G17_get {k : Nat} (h : k < 13) : G17[k]? = some (G17.getD k 0) := by rw [List.getD_eq_getElem?_getD, List.getElem?_eq_getElem (show k < G17.length from h)]; rfl
theorem l_Some17 {a g : Value} {l : List Int} {B : Nat} (hl : l.length ≤ 60) (hb : bytes l) : ∀ (k i : Nat) (H : AHeap) (out : Value), i + k = l.length → Nums H .u8 a l → Ints H g G17 → Own H 3 1 out i (ints ((l.take i).map sc17)) → From B out → B ≤ H.n →
    Out (run Try.prog (tabF tab) om1 (.loop [3, 4, 13, 14, 15] b_lontarlaw17_Some_0) [(3, g), (4, out), (13, a), (14, .int .i64 l.length), (15, .int .i64 i)] H) fun y e' H' => y = .exit 0 ∧ Own H' 3 1 (eget e' 4) l.length (ints (l.map sc17)) ∧ B ≤ H'.n ∧ (∀ j, j < B → H'.get j = H.get j) := by
  intro k
  induction k with
  | zero =>
    intro i H out hi ha hg ho hf hB
    obtain rfl : i = l.length := by omega
    have hlt : ¬ ((l.length : Int) < l.length) := by omega
    rw [w_loop_b b_lontarlaw17_Some_0.eq_1]
    rw [List.take_length] at ho
    simp only [WA, isStore, isCall, isK, freshI, stampO, List.nil_append, Option.map_some, Option.map_none, Option.bind_some, List.map_cons, List.map_nil, if_true, if_false, Nat.reduceEqDiff, Int.reduceEq, Nat.reduceAdd, Nat.reduceMul, reduceCtorEq, eq_self, Int.reduceLT, Int.reduceLE, Int.reduceToNat, List.length_cons, List.length_nil, List.all_cons, List.all_nil, List.take_zero, List.drop_nil, List.append_nil, List.getElem?_cons_zero, List.getElem?_cons_succ, List.drop_succ_cons, List.drop_zero, List.take_succ_cons, List.cons_append, Nat.reduceLeDiff, Int.cast_ofNat_Int, hlt]
    exact ⟨ho, hB, fun _ _ => trivial⟩
  | succ k ih =>
    intro i H out hi ha hg ho hf hB
    have hlt : (i : Int) < l.length := by omega
    obtain ⟨u, hu, hd⟩ := drop_at (L := l) (i := i) (by omega)
    obtain ⟨u1, u2⟩ := hb u (List.mem_of_getElem? hu)
    obtain ⟨i1, o1, h1, h2⟩ := ha.at hu
    have hw2 : IntKind.i64.wrap ((i : Int) + 1) = ((i + 1 : Nat) : Int) := by rw [wrap64 (by omega) (by omega)]; omega
    obtain ⟨m, hm⟩ : ∃ m : Nat, u % 22 = m := ⟨(u % 22).toNat, by omega⟩
    obtain ⟨n, hn⟩ : ∃ n : Nat, u % 13 = n := ⟨(u % 13).toNat, by omega⟩
    have q1 : intOp .rem .u8 u 22 = some (.int .u8 m) := by rw [int_rem (by decide), Int.tmod_eq_emod_of_nonneg (by omega), hm]
    have q2 : intOp .rem .i64 u 13 = some (.int .i64 n) := by rw [int_rem (by decide), Int.tmod_eq_emod_of_nonneg (by omega), hn]
    have q3 : IntKind.i64.wrap u = u := wrap64 (by omega) (by omega)
    obtain ⟨H1, hH1⟩ : ∃ H1, H1 = H.push ⟨ints C17, 3, .tip, 0, []⟩ := ⟨_, rfl⟩
    have x1 : Ext H H1 := by rw [hH1]; exact Ext.push H _
    have g1 : H1.get H.n = some ⟨ints C17, 3, .tip, 0, []⟩ := by rw [hH1]; exact get_push_self
    have hn1 : H1.n = H.n + 1 := by rw [hH1, AHeap.n_push]
    have s1 : Ints H1 (.slice (some ⟨H.n, 0, none⟩) 22 23) C17 := Sl.new (n := 22) (c := 23) g1 mem_tip rfl
    obtain ⟨i3, o3, h3, h4⟩ := s1.at (C17_get (k := m) (by omega))
    obtain ⟨i5, o5, h5, h6⟩ := (hg.ext x1).at (G17_get (k := n) (by omega))
    have cc := c_L38 H
    rw [← hH1] at cc
    have hlg : ∀ H2, vLen false g H2 = some (.int .i64 13, H2) := fun H2 => Sl.len (H2 := H2) hg
    have hsc : sc17 u = if u > 140 then G17.getD n 0 else C17.getD m 0 := by unfold sc17; rw [hm, hn, Int.toNat_natCast, Int.toNat_natCast]
    obtain ⟨y0, hy0⟩ : ∃ y, y = sc17 u := ⟨_, rfl⟩
    have hx2 := Ext.push H1 ⟨[.int .i64 y0], 3, .tip, 0, []⟩
    have x2 := x1.trans hx2
    obtain ⟨v', H5, m1, m2, m3, m4, m5, m6⟩ := Own.append2 (bytes := 8) (m := 1) (ho.ext x2) (Sl.new (n := 1) (c := 2) (get_push_self (H := H1) (b := ⟨[.int .i64 y0], 3, .tip, 0, []⟩)) mem_tip rfl) (by omega) rfl (by omega)
    have hdone : ints ((l.take i).map sc17) ++ [.int .i64 y0] = ints ((l.take (i + 1)).map sc17) := by
      rw [List.take_add_one, hu, hy0]; simp [ints]
    rw [hdone] at m2
    have hnp : (H1.push ⟨[.int .i64 y0], 3, .tip, 0, []⟩).n = H.n + 1 + 1 := by rw [AHeap.n_push, hn1]
    obtain ⟨y, e', H', r1, r2, r4, r5, r7⟩ := ih (i + 1) H5 v' (by omega) ((ha.ext x2).keeps m4) ((hg.ext x2).keeps m4) m2 (m3.mono (by omega)) (by omega)
    rw [w_loop_b b_lontarlaw17_Some_0.eq_1]
    by_cases hu140 : u > 140
    · rw [if_pos hu140] at hsc
      rw [← hy0] at hsc
      rw [← hsc] at h6
      simp only [WA, isStore, isCall, isK, freshI, stampO, List.nil_append, Option.map_some, Option.map_none, Option.bind_some, List.map_cons, List.map_nil, if_true, if_false, Nat.reduceEqDiff, Int.reduceEq, Nat.reduceAdd, Nat.reduceMul, reduceCtorEq, eq_self, Int.reduceLT, Int.reduceLE, Int.reduceToNat, List.length_cons, List.length_nil, List.all_cons, List.all_nil, List.take_zero, List.drop_nil, List.append_nil, List.getElem?_cons_zero, List.getElem?_cons_succ, List.drop_succ_cons, List.drop_zero, List.take_succ_cons, List.cons_append, Nat.reduceLeDiff, Int.cast_ofNat_Int, hlt, h1, h2, q1, cc, h3, h4, hu140, q3, hlg, q2, h5, h6, v_int1, m1, hw2]
      rw [w_enter]
      simp only [WA, isStore, isCall, isK, freshI, stampO, List.nil_append, Option.map_some, Option.map_none, Option.bind_some, List.map_cons, List.map_nil, if_true, if_false, Nat.reduceEqDiff, Int.reduceEq, Nat.reduceAdd, Nat.reduceMul, reduceCtorEq, eq_self, Int.reduceLT, Int.reduceLE, Int.reduceToNat, List.length_cons, List.length_nil, List.all_cons, List.all_nil, List.take_zero, List.drop_nil, List.append_nil, List.getElem?_cons_zero, List.getElem?_cons_succ, List.drop_succ_cons, List.drop_zero, List.take_succ_cons, List.cons_append, Nat.reduceLeDiff, Int.cast_ofNat_Int, r1]
      refine ⟨r2, r4, r5, fun j hj => ?_⟩
      rw [r7 j hj, m6 j (by omega) (NotAt.of_from hf hj), x2.2 j (by omega)]
    · rw [if_neg hu140] at hsc
      rw [← hy0] at hsc
      rw [← hsc] at h4
      simp only [WA, isStore, isCall, isK, freshI, stampO, List.nil_append, Option.map_some, Option.map_none, Option.bind_some, List.map_cons, List.map_nil, if_true, if_false, Nat.reduceEqDiff, Int.reduceEq, Nat.reduceAdd, Nat.reduceMul, reduceCtorEq, eq_self, Int.reduceLT, Int.reduceLE, Int.reduceToNat, List.length_cons, List.length_nil, List.all_cons, List.all_nil, List.take_zero, List.drop_nil, List.append_nil, List.getElem?_cons_zero, List.getElem?_cons_succ, List.drop_succ_cons, List.drop_zero, List.take_succ_cons, List.cons_append, Nat.reduceLeDiff, Int.cast_ofNat_Int, hlt, h1, h2, q1, cc, h3, h4, hu140, v_int1, m1, hw2]
      rw [w_enter]
      simp only [WA, isStore, isCall, isK, freshI, stampO, List.nil_append, Option.map_some, Option.map_none, Option.bind_some, List.map_cons, List.map_nil, if_true, if_false, Nat.reduceEqDiff, Int.reduceEq, Nat.reduceAdd, Nat.reduceMul, reduceCtorEq, eq_self, Int.reduceLT, Int.reduceLE, Int.reduceToNat, List.length_cons, List.length_nil, List.all_cons, List.all_nil, List.take_zero, List.drop_nil, List.append_nil, List.getElem?_cons_zero, List.getElem?_cons_succ, List.drop_succ_cons, List.drop_zero, List.take_succ_cons, List.cons_append, Nat.reduceLeDiff, Int.cast_ofNat_Int, r1]
      refine ⟨r2, r4, r5, fun j hj => ?_⟩
      rw [r7 j hj, m6 j (by omega) (NotAt.of_from hf hj), x2.2 j (by omega)]
theorem v_G17 {H : AHeap} : vBslice 3 13 1 [.int .i64 0] [(0, 1, .int .i64 3014), (1, 1, .int .i64 3015), (2, 1, .int .i64 3016), (3, 1, .int .i64 3021), (4, 1, .int .i64 3006), (5, 1, .int .i64 3007), (6, 1, .int .i64 3008), (7, 1, .int .i64 3031), (8, 1, .int .i64 3018), (9, 1, .int .i64 3019), (10, 1, .int .i64 3020), (11, 1, .int .i64 2949), (12, 1, .int .i64 97)] H = some (.slice (some ⟨H.n, 0, none⟩) 13 14, H.push ⟨ints G17, 3, .tip, 0, []⟩) := rfl
theorem c_Some17 {a : Value} {l : List Int} {H : AHeap} (ha : Nums H .u8 a l) (hc : Cut Try.prog H a 1) (hb : bytes l) (hs : tiny l) : Gives (cw Try.prog (tabF tab) om1 40 [a] H) fun v H' => Ext H H' ∧ Ints H' v (som17 l) ∧ Cut Try.prog H' v 1 := by
  rw [cw_run (F := F_lontarlaw17_Some) rfl rfl rfl]
  unfold F_lontarlaw17_Some k_lontarlaw17_Some
  obtain ⟨H1, hH1⟩ : ∃ H1, H1 = H.push ⟨ints G17, 3, .tip, 0, []⟩ := ⟨_, rfl⟩
  have x1 : Ext H H1 := by rw [hH1]; exact Ext.push H _
  have g1 : H1.get H.n = some ⟨ints G17, 3, .tip, 0, []⟩ := by rw [hH1]; exact get_push_self
  have hn1 : H1.n = H.n + 1 := by rw [hH1, AHeap.n_push]
  have s0 : Ints H1 (.slice (some ⟨H.n, 0, none⟩) 13 14) G17 := Sl.new (n := 13) (c := 14) g1 mem_tip rfl
  have c0 := v_G17 (H := H)
  rw [← hH1] at c0
  obtain ⟨k, hk⟩ : ∃ k : Nat, k = min l.length 60 := ⟨_, rfl⟩
  obtain ⟨a', s1, s2, s3⟩ := (ha.ext x1).take (hc.ext x1) (show k ≤ l.length by omega)
  have hmin : (if (60 : Int) < (l.length : Int) then (60 : Int) else (l.length : Int)) = (k : Int) := by split <;> omega
  have hkl : (l.take k).length = k := by simp; omega
  have hk4 : l.take 60 = l.take k := by
    subst hk
    rcases Nat.le_total l.length 60 with h | h
    · rw [Nat.min_eq_left h, List.take_of_length_le h, List.take_length]
    · rw [Nat.min_eq_right h]
  obtain ⟨y, e', H', r1, rfl, r4, r6, r7⟩ := l_Some17 (a := a') (l := l.take k) (B := H.n) (by omega) (fun u hu => hb u (List.mem_of_mem_take hu)) (l.take k).length 0 H1 (.slice none 0 0) (by omega) s2 s0 ⟨rfl, .inl ⟨rfl, rfl⟩⟩ trivial (by omega)
  have hl0 := fun H2 => ha.len (H2 := H2)
  have hl1 := fun H2 => Nums.len s2 (H2 := H2)
  rw [hkl] at r1 r4
  simp only [hkl] at hl1
  simp only [Int.cast_ofNat_Int] at r1
  have s1' := s1 .i64
  simp only [WA, isStore, isCall, isK, freshI, stampO, List.nil_append, Option.map_some, Option.map_none, Option.bind_some, List.map_cons, List.map_nil, if_true, if_false, Nat.reduceEqDiff, Int.reduceEq, Nat.reduceAdd, Nat.reduceMul, reduceCtorEq, eq_self, Int.reduceLT, Int.reduceLE, Int.reduceToNat, List.length_cons, List.length_nil, List.all_cons, List.all_nil, List.take_zero, List.drop_nil, List.append_nil, List.getElem?_cons_zero, List.getElem?_cons_succ, List.drop_succ_cons, List.drop_zero, List.take_succ_cons, List.cons_append, Nat.reduceLeDiff, Int.cast_ofNat_Int, c0, hl0, hmin, s1', hl1]
  rw [w_enter]
  simp only [WA, isStore, isCall, isK, freshI, stampO, List.nil_append, Option.map_some, Option.map_none, Option.bind_some, List.map_cons, List.map_nil, if_true, if_false, Nat.reduceEqDiff, Int.reduceEq, Nat.reduceAdd, Nat.reduceMul, reduceCtorEq, eq_self, Int.reduceLT, Int.reduceLE, Int.reduceToNat, List.length_cons, List.length_nil, List.all_cons, List.all_nil, List.take_zero, List.drop_nil, List.append_nil, List.getElem?_cons_zero, List.getElem?_cons_succ, List.drop_succ_cons, List.drop_zero, List.take_succ_cons, List.cons_append, Nat.reduceLeDiff, Int.cast_ofNat_Int, r1]
  refine ⟨⟨r6, fun j hj => by rw [r7 j hj, x1.2 j hj]⟩, ?_, r4.cut (by kernel_rfl)⟩
  have := r4.sl
  unfold Ints som17
  rw [hk4, List.length_map, hkl]
  exact this
end Go.Proofs.Ytgonfmpmdahmcaa

/-! Layer 17's laws. -/
set_option linter.unusedSimpArgs false
set_option linter.unusedVariables false
namespace Go.Proofs.Ytgonfmpmdahmcaa
open Go Lon
set_option maxRecDepth 100000
theorem law_Back17 {b : Value} {l : List Int} {H : AHeap} (hb : U8s H b l) : Gives (cw Try.prog (tabF tab) om1 12 [b] H) fun v H' => v = .bool true := by
  obtain ⟨hb, hbc, hbb, hbt⟩ := hb
  rw [cw_run (F := F_lontarlaw17_TamilBack) rfl rfl rfl]
  unfold F_lontarlaw17_TamilBack k_lontarlaw17_TamilBack
  obtain ⟨v1, H1, q, H2, c1, c2, x2, hT, _, _⟩ := start17 (H := H)
  obtain ⟨w1, H3, c3, x3, y3, z3⟩ := c_Some17 (hb.ext x2) (hbc.ext x2) hbb hbt
  have hsl := som17_len (l := l)
  obtain ⟨w2, H4, c4, x4, y4, f4⟩ := c_Enc (hT.ext x3) y3 z3 (by omega)
  obtain ⟨n1, n2⟩ := encU_few R17_right (us := som17 l)
  have hob := outs_len n2
  obtain ⟨w5, H5, c5, x5, vo, p5, k5, rfl, o5, f5, t5⟩ := c_UT y4.rws (by omega)
  obtain ⟨H6, hH6⟩ : ∃ H6, H6 = H5.push ⟨tokC p5 k5 (fstB tok0 (encU R17 (som17 l))), 41, .tip, 1, []⟩ := ⟨_, rfl⟩
  have x6 : Ext H5 H6 := by rw [hH6]; exact Ext.push H5 _
  have g6 : H6.get H5.n = some ⟨tokC p5 k5 (fstB tok0 (encU R17 (som17 l))), 41, .tip, 1, []⟩ := by rw [hH6]; exact get_push_self
  have hz : ([.int .i64 0, .int .i64 0, .slice none 0 0, .int .i64 0] : List Value) = tokC none 0 tok0 := rfl
  have x36 := (x4.trans x5).trans x6
  have s6 := o5.asI.ext x6
  obtain ⟨w7, H7, c7, x7, y7, f7⟩ := c_Decode ((hT.ext x3).ext x36) s6 (o5.cutI.ext x6) (by omega)
  have hao := allU_outs R17_right (outs (encU R17 (som17 l))).length (outs (encU R17 (som17 l))) 0 (Nat.le_refl _)
  have hal := allU_len R17_right (outs (encU R17 (som17 l))).length (outs (encU R17 (som17 l))) 0 (Nat.le_refl _)
  have hol := outs_len hao
  obtain ⟨w8, H8, c8, x8, vo8, p8, k8, rfl, o8, f8, t8⟩ := c_UT y7.rws (by omega)
  obtain ⟨H9, hH9⟩ : ∃ H9, H9 = H8.push ⟨tokC p8 k8 (fstB tok0 (allU R17 (outs (encU R17 (som17 l))) 0)), 41, .tip, 1, []⟩ := ⟨_, rfl⟩
  have x9 : Ext H8 H9 := by rw [hH9]; exact Ext.push H8 _
  have g9 : H9.get H8.n = some ⟨tokC p8 k8 (fstB tok0 (allU R17 (outs (encU R17 (som17 l))) 0)), 41, .tip, 1, []⟩ := by rw [hH9]; exact get_push_self
  have x69 := (x7.trans x8).trans x9
  have g69 := x69.get g6
  have z : ((0 : Int) ≠ 0) = False := by simp
  by_cases he : (fstB tok0 (encU R17 (som17 l))).err = 0
  · have he' : ((fstB tok0 (encU R17 (som17 l))).err ≠ 0) = False := by simp [he]
    obtain ⟨b1, b2⟩ := back R17_right R17_cls (fstB_zero he) 0
    have he2 : (fstB tok0 (allU R17 (outs (encU R17 (som17 l))) 0)).err = 0 := by rw [fstB_whole b1]; rfl
    have he2' : ((fstB tok0 (allU R17 (outs (encU R17 (som17 l))) 0)).err = 0) = True := eq_true he2
    have x29 := (x3.trans x36).trans x69
    obtain ⟨w10, H10, c10, x10, y10, z10⟩ := c_Some17 ((hb.ext x2).ext x29) ((hbc.ext x2).ext x29) hbb hbt
    have cU := c_Units ((o8.asI.ext x9).ext x10) y10 (by omega)
    rw [b2, decide_eq_true rfl] at cU
    simp only [WA, isStore, isCall, isK, freshI, stampO, List.nil_append, Option.map_some, Option.map_none, Option.bind_some, List.map_cons, List.map_nil, if_true, if_false, Nat.reduceEqDiff, Int.reduceEq, Nat.reduceAdd, Nat.reduceMul, reduceCtorEq, eq_self, Int.reduceLT, Int.reduceLE, Int.reduceToNat, List.length_cons, List.length_nil, List.all_cons, List.all_nil, List.take_zero, List.drop_nil, List.append_nil, List.getElem?_cons_zero, List.getElem?_cons_succ, List.drop_succ_cons, List.drop_zero, List.take_succ_cons, List.cons_append, Nat.reduceLeDiff, Int.cast_ofNat_Int, o_awake17, c1, c2, v_nilp, z, c3, c4, c5, got_tok, ← hH6, c7, c8, ← hH9, g69, g9, tk3, he', he2', c10, cU]
  · have he' : ((fstB tok0 (encU R17 (som17 l))).err ≠ 0) = True := by simp [he]
    simp only [WA, isStore, isCall, isK, freshI, stampO, List.nil_append, Option.map_some, Option.map_none, Option.bind_some, List.map_cons, List.map_nil, if_true, if_false, Nat.reduceEqDiff, Int.reduceEq, Nat.reduceAdd, Nat.reduceMul, reduceCtorEq, eq_self, Int.reduceLT, Int.reduceLE, Int.reduceToNat, List.length_cons, List.length_nil, List.all_cons, List.all_nil, List.take_zero, List.drop_nil, List.append_nil, List.getElem?_cons_zero, List.getElem?_cons_succ, List.drop_succ_cons, List.drop_zero, List.take_succ_cons, List.cons_append, Nat.reduceLeDiff, Int.cast_ofNat_Int, o_awake17, c1, c2, v_nilp, z, c3, c4, c5, got_tok, ← hH6, c7, c8, ← hH9, g69, g9, tk3, he']
theorem R17_lg : lg R17 0 = 3 := by kernel_rfl
theorem R17_lgT : lg (trn R17 []) 0 = 2 := by rw [R17_trn]; kernel_rfl
theorem law_Right17 {a b : Int} {H : AHeap} (ha : 0 ≤ a ∧ a < 256) (hb : 0 ≤ b ∧ b < 256) : Gives (cw Try.prog (tabF tab) om1 10 [.int .u8 a, .int .u8 b] H) fun v H' => v = .bool true := by
  rw [cw_run (F := F_lontarlaw17_TamilRight) rfl rfl rfl]
  unfold F_lontarlaw17_TamilRight k_lontarlaw17_TamilRight
  obtain ⟨v1, H1, q, H2, c1, c2, x2, hT, hr, hrc⟩ := start17 (H := H)
  obtain ⟨v3, H3, c3, x3, o3, n3⟩ := c_Turn (right_small R17_right (by rw [R17_len]; decide)) hr
  have hlu : (trn R17 []).length = 327 := by rw [R17_trn, List.length_map, R17_len]
  have hl1 : ∀ H2, vLen false v1 H2 = some (.int .i64 327, H2) := fun H2 => by have := hr.len (H2 := H2); rw [R17_len] at this; exact this
  have hru := o3.rules (by omega)
  have hl3 : ∀ H2, vLen false v3 H2 = some (.int .i64 327, H2) := fun H2 => by have := hru.len (H2 := H2); rw [hlu] at this; exact this
  have c4 := c_TLong (hT.ext x3)
  rw [R17_lg, R17_lgT] at c4
  obtain ⟨m, hm⟩ : ∃ m : Nat, a = m := ⟨a.toNat, by omega⟩
  obtain ⟨n, hn⟩ : ∃ n : Nat, b = n := ⟨b.toNat, by omega⟩
  subst hm
  subst hn
  have hmul : m * n ≤ 255 * 255 := Nat.mul_le_mul (by omega) (by omega)
  have qa : IntKind.i64.wrap (m : Int) = m := wrap64 (by omega) (by omega)
  have qb : IntKind.i64.wrap (n : Int) = n := wrap64 (by omega) (by omega)
  obtain ⟨p, hp⟩ : ∃ p, p = m * n := ⟨_, rfl⟩
  have qc : IntKind.i64.wrap ((m : Int) * n) = (p : Int) := by rw [show (m : Int) * n = ((p : Nat) : Int) by rw [hp, Int.natCast_mul]]; exact wrap64 (by omega) (by omega)
  obtain ⟨k, hk⟩ : ∃ k, k = p % 327 := ⟨_, rfl⟩
  have hk2 : k < 327 := by omega
  have qd : intOp .rem .i64 (p : Int) 327 = some (.int .i64 k) := by rw [int_rem (by decide), Int.tmod_eq_emod_of_nonneg (by omega), show (p : Int) % 327 = (k : Int) by omega]
  obtain ⟨r, hrk⟩ : ∃ r, R17[k]? = some r := ⟨_, List.getElem?_eq_getElem (by rw [R17_len]; exact hk2)⟩
  obtain ⟨i, o, vi, vo, a1, a2, a3, a4, a5, a6, a7, a8⟩ := (hr.ext x3).at hrk
  have hf : fnd (trn R17 []) r.2 = k := fnd_at (trn_right R17_right).2 (r := (r.2, r.1)) (by rw [R17_trn, List.getElem?_map, hrk]; rfl)
  obtain ⟨v5, H5, c5, x5, rfl⟩ := c_Find hru a6
  rw [hf] at c5
  have z : ((0 : Int) ≠ 0) = False := by simp
  have z2 : ((327 : Int) = 0) = False := by simp
  have z3 : ((327 : Int) ≠ 327) = False := by simp
  simp only [Int.cast_ofNat_Int] at c4
  simp only [WA, isStore, isCall, isK, freshI, stampO, List.nil_append, Option.map_some, Option.map_none, Option.bind_some, List.map_cons, List.map_nil, if_true, if_false, Nat.reduceEqDiff, Int.reduceEq, Nat.reduceAdd, Nat.reduceMul, reduceCtorEq, eq_self, Int.reduceLT, Int.reduceLE, Int.reduceToNat, List.length_cons, List.length_nil, List.all_cons, List.all_nil, List.take_zero, List.drop_nil, List.append_nil, List.getElem?_cons_zero, List.getElem?_cons_succ, List.drop_succ_cons, List.drop_zero, List.take_succ_cons, List.cons_append, Nat.reduceLeDiff, Int.cast_ofNat_Int, o_awake17, c1, c2, c3, v_nilp, z, z2, z3, hl1, hl3, c4, qa, qb, qc, qd, a1, a3, c5]
end Go.Proofs.Ytgonfmpmdahmcaa

/-! Layer 17: what a syllable reads and writes, by running the plain law. -/
set_option linter.unusedSimpArgs false
set_option linter.unusedVariables false
namespace Go.Proofs.Ytgonfmpmdahmcaa
open Go Lon
set_option maxRecDepth 100000
def X170 : List Rl := [([.ofNat 0], [.ofNat 0]), ([.ofNat 1], [.ofNat 1]), ([.ofNat 2], [.ofNat 2]), ([.ofNat 3], [.ofNat 3]), ([.ofNat 4], [.ofNat 4]), ([.ofNat 5], [.ofNat 5]), ([.ofNat 6], [.ofNat 6]), ([.ofNat 7], [.ofNat 7]), ([.ofNat 8], [.ofNat 8]), ([.ofNat 9], [.ofNat 9]), ([.ofNat 10], [.ofNat 10]), ([.ofNat 11], [.ofNat 11]), ([.ofNat 12], [.ofNat 12]), ([.ofNat 13], [.ofNat 13]), ([.ofNat 14], [.ofNat 14]), ([.ofNat 15], [.ofNat 15]), ([.ofNat 16], [.ofNat 16]), ([.ofNat 17], [.ofNat 17]), ([.ofNat 18], [.ofNat 18]), ([.ofNat 19], [.ofNat 19]), ([.ofNat 20], [.ofNat 20]), ([.ofNat 21], [.ofNat 21]), ([.ofNat 22], [.ofNat 22]), ([.ofNat 23], [.ofNat 23]), ([.ofNat 24], [.ofNat 24]), ([.ofNat 25], [.ofNat 25]), ([.ofNat 26], [.ofNat 26]), ([.ofNat 27], [.ofNat 27]), ([.ofNat 28], [.ofNat 28]), ([.ofNat 29], [.ofNat 29]), ([.ofNat 30], [.ofNat 30]), ([.ofNat 31], [.ofNat 31]), ([.ofNat 32], [.ofNat 32]), ([.ofNat 33], [.ofNat 33]), ([.ofNat 34], [.ofNat 34]), ([.ofNat 35], [.ofNat 35]), ([.ofNat 36], [.ofNat 36]), ([.ofNat 37], [.ofNat 37]), ([.ofNat 38], [.ofNat 38]), ([.ofNat 39], [.ofNat 39]), ([.ofNat 40], [.ofNat 40])]
def X171 : List Rl := [([.ofNat 41], [.ofNat 41]), ([.ofNat 42], [.ofNat 42]), ([.ofNat 43], [.ofNat 43]), ([.ofNat 44], [.ofNat 44]), ([.ofNat 45], [.ofNat 45]), ([.ofNat 46], [.ofNat 46]), ([.ofNat 47], [.ofNat 47]), ([.ofNat 48], [.ofNat 48]), ([.ofNat 49], [.ofNat 49]), ([.ofNat 50], [.ofNat 50]), ([.ofNat 51], [.ofNat 51]), ([.ofNat 52], [.ofNat 52]), ([.ofNat 53], [.ofNat 53]), ([.ofNat 54], [.ofNat 54]), ([.ofNat 55], [.ofNat 55]), ([.ofNat 56], [.ofNat 56]), ([.ofNat 57], [.ofNat 57]), ([.ofNat 58], [.ofNat 58]), ([.ofNat 59], [.ofNat 59]), ([.ofNat 60], [.ofNat 60]), ([.ofNat 61], [.ofNat 61]), ([.ofNat 62], [.ofNat 62]), ([.ofNat 63], [.ofNat 63]), ([.ofNat 64], [.ofNat 64]), ([.ofNat 65], [.ofNat 65]), ([.ofNat 66], [.ofNat 66]), ([.ofNat 67], [.ofNat 67]), ([.ofNat 68], [.ofNat 68]), ([.ofNat 69], [.ofNat 69]), ([.ofNat 70], [.ofNat 70]), ([.ofNat 71], [.ofNat 71]), ([.ofNat 72], [.ofNat 72]), ([.ofNat 73], [.ofNat 73]), ([.ofNat 74], [.ofNat 74]), ([.ofNat 75], [.ofNat 75]), ([.ofNat 76], [.ofNat 76]), ([.ofNat 77], [.ofNat 77]), ([.ofNat 78], [.ofNat 78]), ([.ofNat 79], [.ofNat 79]), ([.ofNat 80], [.ofNat 80]), ([.ofNat 81], [.ofNat 81])]
def X172 : List Rl := [([.ofNat 82], [.ofNat 82]), ([.ofNat 83], [.ofNat 83]), ([.ofNat 84], [.ofNat 84]), ([.ofNat 85], [.ofNat 85]), ([.ofNat 86], [.ofNat 86]), ([.ofNat 87], [.ofNat 87]), ([.ofNat 88], [.ofNat 88]), ([.ofNat 89], [.ofNat 89]), ([.ofNat 90], [.ofNat 90]), ([.ofNat 91], [.ofNat 91]), ([.ofNat 92], [.ofNat 92]), ([.ofNat 93], [.ofNat 93]), ([.ofNat 94], [.ofNat 94]), ([.ofNat 95], [.ofNat 95]), ([.ofNat 96], [.ofNat 96]), ([.ofNat 97], [.ofNat 97]), ([.ofNat 98], [.ofNat 98]), ([.ofNat 99], [.ofNat 99]), ([.ofNat 100], [.ofNat 100]), ([.ofNat 101], [.ofNat 101]), ([.ofNat 102], [.ofNat 102]), ([.ofNat 103], [.ofNat 103]), ([.ofNat 104], [.ofNat 104]), ([.ofNat 105], [.ofNat 105]), ([.ofNat 106], [.ofNat 106]), ([.ofNat 107], [.ofNat 107]), ([.ofNat 108], [.ofNat 108]), ([.ofNat 109], [.ofNat 109]), ([.ofNat 110], [.ofNat 110]), ([.ofNat 111], [.ofNat 111]), ([.ofNat 112], [.ofNat 112]), ([.ofNat 113], [.ofNat 113]), ([.ofNat 114], [.ofNat 114]), ([.ofNat 115], [.ofNat 115]), ([.ofNat 116], [.ofNat 116]), ([.ofNat 117], [.ofNat 117]), ([.ofNat 118], [.ofNat 118]), ([.ofNat 119], [.ofNat 119]), ([.ofNat 120], [.ofNat 120]), ([.ofNat 121], [.ofNat 121]), ([.ofNat 122], [.ofNat 122])]
def X173 : List Rl := [([.ofNat 123], [.ofNat 123]), ([.ofNat 124], [.ofNat 124]), ([.ofNat 125], [.ofNat 125]), ([.ofNat 126], [.ofNat 126]), ([.ofNat 127], [.ofNat 127]), ([.ofNat 145], [.ofNat 2949]), ([.ofNat 146], [.ofNat 2950]), ([.ofNat 147], [.ofNat 2951]), ([.ofNat 148], [.ofNat 2952]), ([.ofNat 149], [.ofNat 2953]), ([.ofNat 150], [.ofNat 2954]), ([.ofNat 151], [.ofNat 2958]), ([.ofNat 152], [.ofNat 2959]), ([.ofNat 153], [.ofNat 2960]), ([.ofNat 154], [.ofNat 2962]), ([.ofNat 155], [.ofNat 2963]), ([.ofNat 156], [.ofNat 2964]), ([.ofNat 157], [.ofNat 2947]), ([.ofNat 166], [.ofNat 3014]), ([.ofNat 167], [.ofNat 3015]), ([.ofNat 168], [.ofNat 3016]), ([.ofNat 169], [.ofNat 3021]), ([.ofNat 170], [.ofNat 3006]), ([.ofNat 171], [.ofNat 3007]), ([.ofNat 172], [.ofNat 3008]), ([.ofNat 173], [.ofNat 3009]), ([.ofNat 174], [.ofNat 3010]), ([.ofNat 175], [.ofNat 3031]), ([.ofNat 176], [.ofNat 2965]), ([.ofNat 208], [.ofNat 2965, .ofNat 3021]), ([.ofNat 166, .ofNat 176], [.ofNat 2965, .ofNat 3014]), ([.ofNat 167, .ofNat 176], [.ofNat 2965, .ofNat 3015]), ([.ofNat 168, .ofNat 176], [.ofNat 2965, .ofNat 3016]), ([.ofNat 166, .ofNat 176, .ofNat 170], [.ofNat 2965, .ofNat 3018]), ([.ofNat 167, .ofNat 176, .ofNat 170], [.ofNat 2965, .ofNat 3019]), ([.ofNat 166, .ofNat 176, .ofNat 175], [.ofNat 2965, .ofNat 3020]), ([.ofNat 177], [.ofNat 2969]), ([.ofNat 209], [.ofNat 2969, .ofNat 3021]), ([.ofNat 166, .ofNat 177], [.ofNat 2969, .ofNat 3014]), ([.ofNat 167, .ofNat 177], [.ofNat 2969, .ofNat 3015]), ([.ofNat 168, .ofNat 177], [.ofNat 2969, .ofNat 3016])]
def X174 : List Rl := [([.ofNat 166, .ofNat 177, .ofNat 170], [.ofNat 2969, .ofNat 3018]), ([.ofNat 167, .ofNat 177, .ofNat 170], [.ofNat 2969, .ofNat 3019]), ([.ofNat 166, .ofNat 177, .ofNat 175], [.ofNat 2969, .ofNat 3020]), ([.ofNat 178], [.ofNat 2970]), ([.ofNat 210], [.ofNat 2970, .ofNat 3021]), ([.ofNat 166, .ofNat 178], [.ofNat 2970, .ofNat 3014]), ([.ofNat 167, .ofNat 178], [.ofNat 2970, .ofNat 3015]), ([.ofNat 168, .ofNat 178], [.ofNat 2970, .ofNat 3016]), ([.ofNat 166, .ofNat 178, .ofNat 170], [.ofNat 2970, .ofNat 3018]), ([.ofNat 167, .ofNat 178, .ofNat 170], [.ofNat 2970, .ofNat 3019]), ([.ofNat 166, .ofNat 178, .ofNat 175], [.ofNat 2970, .ofNat 3020]), ([.ofNat 179], [.ofNat 2974]), ([.ofNat 211], [.ofNat 2974, .ofNat 3021]), ([.ofNat 166, .ofNat 179], [.ofNat 2974, .ofNat 3014]), ([.ofNat 167, .ofNat 179], [.ofNat 2974, .ofNat 3015]), ([.ofNat 168, .ofNat 179], [.ofNat 2974, .ofNat 3016]), ([.ofNat 166, .ofNat 179, .ofNat 170], [.ofNat 2974, .ofNat 3018]), ([.ofNat 167, .ofNat 179, .ofNat 170], [.ofNat 2974, .ofNat 3019]), ([.ofNat 166, .ofNat 179, .ofNat 175], [.ofNat 2974, .ofNat 3020]), ([.ofNat 180], [.ofNat 2975]), ([.ofNat 212], [.ofNat 2975, .ofNat 3021]), ([.ofNat 166, .ofNat 180], [.ofNat 2975, .ofNat 3014]), ([.ofNat 167, .ofNat 180], [.ofNat 2975, .ofNat 3015]), ([.ofNat 168, .ofNat 180], [.ofNat 2975, .ofNat 3016]), ([.ofNat 166, .ofNat 180, .ofNat 170], [.ofNat 2975, .ofNat 3018]), ([.ofNat 167, .ofNat 180, .ofNat 170], [.ofNat 2975, .ofNat 3019]), ([.ofNat 166, .ofNat 180, .ofNat 175], [.ofNat 2975, .ofNat 3020]), ([.ofNat 181], [.ofNat 2979]), ([.ofNat 213], [.ofNat 2979, .ofNat 3021]), ([.ofNat 166, .ofNat 181], [.ofNat 2979, .ofNat 3014]), ([.ofNat 167, .ofNat 181], [.ofNat 2979, .ofNat 3015]), ([.ofNat 168, .ofNat 181], [.ofNat 2979, .ofNat 3016]), ([.ofNat 166, .ofNat 181, .ofNat 170], [.ofNat 2979, .ofNat 3018]), ([.ofNat 167, .ofNat 181, .ofNat 170], [.ofNat 2979, .ofNat 3019]), ([.ofNat 166, .ofNat 181, .ofNat 175], [.ofNat 2979, .ofNat 3020]), ([.ofNat 182], [.ofNat 2980]), ([.ofNat 214], [.ofNat 2980, .ofNat 3021]), ([.ofNat 166, .ofNat 182], [.ofNat 2980, .ofNat 3014]), ([.ofNat 167, .ofNat 182], [.ofNat 2980, .ofNat 3015]), ([.ofNat 168, .ofNat 182], [.ofNat 2980, .ofNat 3016]), ([.ofNat 166, .ofNat 182, .ofNat 170], [.ofNat 2980, .ofNat 3018])]
def X175 : List Rl := [([.ofNat 167, .ofNat 182, .ofNat 170], [.ofNat 2980, .ofNat 3019]), ([.ofNat 166, .ofNat 182, .ofNat 175], [.ofNat 2980, .ofNat 3020]), ([.ofNat 183], [.ofNat 2984]), ([.ofNat 215], [.ofNat 2984, .ofNat 3021]), ([.ofNat 166, .ofNat 183], [.ofNat 2984, .ofNat 3014]), ([.ofNat 167, .ofNat 183], [.ofNat 2984, .ofNat 3015]), ([.ofNat 168, .ofNat 183], [.ofNat 2984, .ofNat 3016]), ([.ofNat 166, .ofNat 183, .ofNat 170], [.ofNat 2984, .ofNat 3018]), ([.ofNat 167, .ofNat 183, .ofNat 170], [.ofNat 2984, .ofNat 3019]), ([.ofNat 166, .ofNat 183, .ofNat 175], [.ofNat 2984, .ofNat 3020]), ([.ofNat 184], [.ofNat 2986]), ([.ofNat 216], [.ofNat 2986, .ofNat 3021]), ([.ofNat 166, .ofNat 184], [.ofNat 2986, .ofNat 3014]), ([.ofNat 167, .ofNat 184], [.ofNat 2986, .ofNat 3015]), ([.ofNat 168, .ofNat 184], [.ofNat 2986, .ofNat 3016]), ([.ofNat 166, .ofNat 184, .ofNat 170], [.ofNat 2986, .ofNat 3018]), ([.ofNat 167, .ofNat 184, .ofNat 170], [.ofNat 2986, .ofNat 3019]), ([.ofNat 166, .ofNat 184, .ofNat 175], [.ofNat 2986, .ofNat 3020]), ([.ofNat 185], [.ofNat 2990]), ([.ofNat 217], [.ofNat 2990, .ofNat 3021]), ([.ofNat 166, .ofNat 185], [.ofNat 2990, .ofNat 3014]), ([.ofNat 167, .ofNat 185], [.ofNat 2990, .ofNat 3015]), ([.ofNat 168, .ofNat 185], [.ofNat 2990, .ofNat 3016]), ([.ofNat 166, .ofNat 185, .ofNat 170], [.ofNat 2990, .ofNat 3018]), ([.ofNat 167, .ofNat 185, .ofNat 170], [.ofNat 2990, .ofNat 3019]), ([.ofNat 166, .ofNat 185, .ofNat 175], [.ofNat 2990, .ofNat 3020]), ([.ofNat 186], [.ofNat 2991]), ([.ofNat 218], [.ofNat 2991, .ofNat 3021]), ([.ofNat 166, .ofNat 186], [.ofNat 2991, .ofNat 3014]), ([.ofNat 167, .ofNat 186], [.ofNat 2991, .ofNat 3015]), ([.ofNat 168, .ofNat 186], [.ofNat 2991, .ofNat 3016]), ([.ofNat 166, .ofNat 186, .ofNat 170], [.ofNat 2991, .ofNat 3018]), ([.ofNat 167, .ofNat 186, .ofNat 170], [.ofNat 2991, .ofNat 3019]), ([.ofNat 166, .ofNat 186, .ofNat 175], [.ofNat 2991, .ofNat 3020]), ([.ofNat 187], [.ofNat 2992]), ([.ofNat 219], [.ofNat 2992, .ofNat 3021]), ([.ofNat 166, .ofNat 187], [.ofNat 2992, .ofNat 3014]), ([.ofNat 167, .ofNat 187], [.ofNat 2992, .ofNat 3015]), ([.ofNat 168, .ofNat 187], [.ofNat 2992, .ofNat 3016]), ([.ofNat 166, .ofNat 187, .ofNat 170], [.ofNat 2992, .ofNat 3018]), ([.ofNat 167, .ofNat 187, .ofNat 170], [.ofNat 2992, .ofNat 3019])]
def X176 : List Rl := [([.ofNat 166, .ofNat 187, .ofNat 175], [.ofNat 2992, .ofNat 3020]), ([.ofNat 188], [.ofNat 2994]), ([.ofNat 220], [.ofNat 2994, .ofNat 3021]), ([.ofNat 166, .ofNat 188], [.ofNat 2994, .ofNat 3014]), ([.ofNat 167, .ofNat 188], [.ofNat 2994, .ofNat 3015]), ([.ofNat 168, .ofNat 188], [.ofNat 2994, .ofNat 3016]), ([.ofNat 166, .ofNat 188, .ofNat 170], [.ofNat 2994, .ofNat 3018]), ([.ofNat 167, .ofNat 188, .ofNat 170], [.ofNat 2994, .ofNat 3019]), ([.ofNat 166, .ofNat 188, .ofNat 175], [.ofNat 2994, .ofNat 3020]), ([.ofNat 189], [.ofNat 2997]), ([.ofNat 221], [.ofNat 2997, .ofNat 3021]), ([.ofNat 166, .ofNat 189], [.ofNat 2997, .ofNat 3014]), ([.ofNat 167, .ofNat 189], [.ofNat 2997, .ofNat 3015]), ([.ofNat 168, .ofNat 189], [.ofNat 2997, .ofNat 3016]), ([.ofNat 166, .ofNat 189, .ofNat 170], [.ofNat 2997, .ofNat 3018]), ([.ofNat 167, .ofNat 189, .ofNat 170], [.ofNat 2997, .ofNat 3019]), ([.ofNat 166, .ofNat 189, .ofNat 175], [.ofNat 2997, .ofNat 3020]), ([.ofNat 190], [.ofNat 2996]), ([.ofNat 222], [.ofNat 2996, .ofNat 3021]), ([.ofNat 166, .ofNat 190], [.ofNat 2996, .ofNat 3014]), ([.ofNat 167, .ofNat 190], [.ofNat 2996, .ofNat 3015]), ([.ofNat 168, .ofNat 190], [.ofNat 2996, .ofNat 3016]), ([.ofNat 166, .ofNat 190, .ofNat 170], [.ofNat 2996, .ofNat 3018]), ([.ofNat 167, .ofNat 190, .ofNat 170], [.ofNat 2996, .ofNat 3019]), ([.ofNat 166, .ofNat 190, .ofNat 175], [.ofNat 2996, .ofNat 3020]), ([.ofNat 191], [.ofNat 2995]), ([.ofNat 223], [.ofNat 2995, .ofNat 3021]), ([.ofNat 166, .ofNat 191], [.ofNat 2995, .ofNat 3014]), ([.ofNat 167, .ofNat 191], [.ofNat 2995, .ofNat 3015]), ([.ofNat 168, .ofNat 191], [.ofNat 2995, .ofNat 3016]), ([.ofNat 166, .ofNat 191, .ofNat 170], [.ofNat 2995, .ofNat 3018]), ([.ofNat 167, .ofNat 191, .ofNat 170], [.ofNat 2995, .ofNat 3019]), ([.ofNat 166, .ofNat 191, .ofNat 175], [.ofNat 2995, .ofNat 3020]), ([.ofNat 192], [.ofNat 2993]), ([.ofNat 224], [.ofNat 2993, .ofNat 3021]), ([.ofNat 166, .ofNat 192], [.ofNat 2993, .ofNat 3014]), ([.ofNat 167, .ofNat 192], [.ofNat 2993, .ofNat 3015]), ([.ofNat 168, .ofNat 192], [.ofNat 2993, .ofNat 3016]), ([.ofNat 166, .ofNat 192, .ofNat 170], [.ofNat 2993, .ofNat 3018]), ([.ofNat 167, .ofNat 192, .ofNat 170], [.ofNat 2993, .ofNat 3019]), ([.ofNat 166, .ofNat 192, .ofNat 175], [.ofNat 2993, .ofNat 3020])]
def X177 : List Rl := [([.ofNat 193], [.ofNat 2985]), ([.ofNat 225], [.ofNat 2985, .ofNat 3021]), ([.ofNat 166, .ofNat 193], [.ofNat 2985, .ofNat 3014]), ([.ofNat 167, .ofNat 193], [.ofNat 2985, .ofNat 3015]), ([.ofNat 168, .ofNat 193], [.ofNat 2985, .ofNat 3016]), ([.ofNat 166, .ofNat 193, .ofNat 170], [.ofNat 2985, .ofNat 3018]), ([.ofNat 167, .ofNat 193, .ofNat 170], [.ofNat 2985, .ofNat 3019]), ([.ofNat 166, .ofNat 193, .ofNat 175], [.ofNat 2985, .ofNat 3020]), ([.ofNat 194], [.ofNat 2972]), ([.ofNat 226], [.ofNat 2972, .ofNat 3021]), ([.ofNat 166, .ofNat 194], [.ofNat 2972, .ofNat 3014]), ([.ofNat 167, .ofNat 194], [.ofNat 2972, .ofNat 3015]), ([.ofNat 168, .ofNat 194], [.ofNat 2972, .ofNat 3016]), ([.ofNat 166, .ofNat 194, .ofNat 170], [.ofNat 2972, .ofNat 3018]), ([.ofNat 167, .ofNat 194, .ofNat 170], [.ofNat 2972, .ofNat 3019]), ([.ofNat 166, .ofNat 194, .ofNat 175], [.ofNat 2972, .ofNat 3020]), ([.ofNat 195], [.ofNat 2999]), ([.ofNat 227], [.ofNat 2999, .ofNat 3021]), ([.ofNat 166, .ofNat 195], [.ofNat 2999, .ofNat 3014]), ([.ofNat 167, .ofNat 195], [.ofNat 2999, .ofNat 3015]), ([.ofNat 168, .ofNat 195], [.ofNat 2999, .ofNat 3016]), ([.ofNat 166, .ofNat 195, .ofNat 170], [.ofNat 2999, .ofNat 3018]), ([.ofNat 167, .ofNat 195, .ofNat 170], [.ofNat 2999, .ofNat 3019]), ([.ofNat 166, .ofNat 195, .ofNat 175], [.ofNat 2999, .ofNat 3020]), ([.ofNat 196], [.ofNat 3000]), ([.ofNat 228], [.ofNat 3000, .ofNat 3021]), ([.ofNat 166, .ofNat 196], [.ofNat 3000, .ofNat 3014]), ([.ofNat 167, .ofNat 196], [.ofNat 3000, .ofNat 3015]), ([.ofNat 168, .ofNat 196], [.ofNat 3000, .ofNat 3016]), ([.ofNat 166, .ofNat 196, .ofNat 170], [.ofNat 3000, .ofNat 3018]), ([.ofNat 167, .ofNat 196, .ofNat 170], [.ofNat 3000, .ofNat 3019]), ([.ofNat 166, .ofNat 196, .ofNat 175], [.ofNat 3000, .ofNat 3020]), ([.ofNat 197], [.ofNat 3001]), ([.ofNat 229], [.ofNat 3001, .ofNat 3021]), ([.ofNat 166, .ofNat 197], [.ofNat 3001, .ofNat 3014]), ([.ofNat 167, .ofNat 197], [.ofNat 3001, .ofNat 3015]), ([.ofNat 168, .ofNat 197], [.ofNat 3001, .ofNat 3016]), ([.ofNat 166, .ofNat 197, .ofNat 170], [.ofNat 3001, .ofNat 3018]), ([.ofNat 167, .ofNat 197, .ofNat 170], [.ofNat 3001, .ofNat 3019]), ([.ofNat 166, .ofNat 197, .ofNat 175], [.ofNat 3001, .ofNat 3020])]
def X17 : List Rl := X170 ++ (X171 ++ (X172 ++ (X173 ++ (X174 ++ (X175 ++ (X176 ++ (X177)))))))
def Y170 : List Rl := [([.ofNat 0], [.ofNat 0]), ([.ofNat 1], [.ofNat 1]), ([.ofNat 2], [.ofNat 2]), ([.ofNat 3], [.ofNat 3]), ([.ofNat 4], [.ofNat 4]), ([.ofNat 5], [.ofNat 5]), ([.ofNat 6], [.ofNat 6]), ([.ofNat 7], [.ofNat 7]), ([.ofNat 8], [.ofNat 8]), ([.ofNat 9], [.ofNat 9]), ([.ofNat 10], [.ofNat 10]), ([.ofNat 11], [.ofNat 11]), ([.ofNat 12], [.ofNat 12]), ([.ofNat 13], [.ofNat 13]), ([.ofNat 14], [.ofNat 14]), ([.ofNat 15], [.ofNat 15]), ([.ofNat 16], [.ofNat 16]), ([.ofNat 17], [.ofNat 17]), ([.ofNat 18], [.ofNat 18]), ([.ofNat 19], [.ofNat 19]), ([.ofNat 20], [.ofNat 20]), ([.ofNat 21], [.ofNat 21]), ([.ofNat 22], [.ofNat 22]), ([.ofNat 23], [.ofNat 23]), ([.ofNat 24], [.ofNat 24]), ([.ofNat 25], [.ofNat 25]), ([.ofNat 26], [.ofNat 26]), ([.ofNat 27], [.ofNat 27]), ([.ofNat 28], [.ofNat 28]), ([.ofNat 29], [.ofNat 29]), ([.ofNat 30], [.ofNat 30]), ([.ofNat 31], [.ofNat 31]), ([.ofNat 32], [.ofNat 32]), ([.ofNat 33], [.ofNat 33]), ([.ofNat 34], [.ofNat 34]), ([.ofNat 35], [.ofNat 35]), ([.ofNat 36], [.ofNat 36]), ([.ofNat 37], [.ofNat 37]), ([.ofNat 38], [.ofNat 38]), ([.ofNat 39], [.ofNat 39]), ([.ofNat 40], [.ofNat 40])]
def Y171 : List Rl := [([.ofNat 41], [.ofNat 41]), ([.ofNat 42], [.ofNat 42]), ([.ofNat 43], [.ofNat 43]), ([.ofNat 44], [.ofNat 44]), ([.ofNat 45], [.ofNat 45]), ([.ofNat 46], [.ofNat 46]), ([.ofNat 47], [.ofNat 47]), ([.ofNat 48], [.ofNat 48]), ([.ofNat 49], [.ofNat 49]), ([.ofNat 50], [.ofNat 50]), ([.ofNat 51], [.ofNat 51]), ([.ofNat 52], [.ofNat 52]), ([.ofNat 53], [.ofNat 53]), ([.ofNat 54], [.ofNat 54]), ([.ofNat 55], [.ofNat 55]), ([.ofNat 56], [.ofNat 56]), ([.ofNat 57], [.ofNat 57]), ([.ofNat 58], [.ofNat 58]), ([.ofNat 59], [.ofNat 59]), ([.ofNat 60], [.ofNat 60]), ([.ofNat 61], [.ofNat 61]), ([.ofNat 62], [.ofNat 62]), ([.ofNat 63], [.ofNat 63]), ([.ofNat 64], [.ofNat 64]), ([.ofNat 65], [.ofNat 65]), ([.ofNat 66], [.ofNat 66]), ([.ofNat 67], [.ofNat 67]), ([.ofNat 68], [.ofNat 68]), ([.ofNat 69], [.ofNat 69]), ([.ofNat 70], [.ofNat 70]), ([.ofNat 71], [.ofNat 71]), ([.ofNat 72], [.ofNat 72]), ([.ofNat 73], [.ofNat 73]), ([.ofNat 74], [.ofNat 74]), ([.ofNat 75], [.ofNat 75]), ([.ofNat 76], [.ofNat 76]), ([.ofNat 77], [.ofNat 77]), ([.ofNat 78], [.ofNat 78]), ([.ofNat 79], [.ofNat 79]), ([.ofNat 80], [.ofNat 80]), ([.ofNat 81], [.ofNat 81])]
def Y172 : List Rl := [([.ofNat 82], [.ofNat 82]), ([.ofNat 83], [.ofNat 83]), ([.ofNat 84], [.ofNat 84]), ([.ofNat 85], [.ofNat 85]), ([.ofNat 86], [.ofNat 86]), ([.ofNat 87], [.ofNat 87]), ([.ofNat 88], [.ofNat 88]), ([.ofNat 89], [.ofNat 89]), ([.ofNat 90], [.ofNat 90]), ([.ofNat 91], [.ofNat 91]), ([.ofNat 92], [.ofNat 92]), ([.ofNat 93], [.ofNat 93]), ([.ofNat 94], [.ofNat 94]), ([.ofNat 95], [.ofNat 95]), ([.ofNat 96], [.ofNat 96]), ([.ofNat 97], [.ofNat 97]), ([.ofNat 98], [.ofNat 98]), ([.ofNat 99], [.ofNat 99]), ([.ofNat 100], [.ofNat 100]), ([.ofNat 101], [.ofNat 101]), ([.ofNat 102], [.ofNat 102]), ([.ofNat 103], [.ofNat 103]), ([.ofNat 104], [.ofNat 104]), ([.ofNat 105], [.ofNat 105]), ([.ofNat 106], [.ofNat 106]), ([.ofNat 107], [.ofNat 107]), ([.ofNat 108], [.ofNat 108]), ([.ofNat 109], [.ofNat 109]), ([.ofNat 110], [.ofNat 110]), ([.ofNat 111], [.ofNat 111]), ([.ofNat 112], [.ofNat 112]), ([.ofNat 113], [.ofNat 113]), ([.ofNat 114], [.ofNat 114]), ([.ofNat 115], [.ofNat 115]), ([.ofNat 116], [.ofNat 116]), ([.ofNat 117], [.ofNat 117]), ([.ofNat 118], [.ofNat 118]), ([.ofNat 119], [.ofNat 119]), ([.ofNat 120], [.ofNat 120]), ([.ofNat 121], [.ofNat 121]), ([.ofNat 122], [.ofNat 122])]
def Y173 : List Rl := [([.ofNat 123], [.ofNat 123]), ([.ofNat 124], [.ofNat 124]), ([.ofNat 125], [.ofNat 125]), ([.ofNat 126], [.ofNat 126]), ([.ofNat 127], [.ofNat 127]), ([.ofNat 2949], [.ofNat 145]), ([.ofNat 2950], [.ofNat 146]), ([.ofNat 2951], [.ofNat 147]), ([.ofNat 2952], [.ofNat 148]), ([.ofNat 2953], [.ofNat 149]), ([.ofNat 2954], [.ofNat 150]), ([.ofNat 2958], [.ofNat 151]), ([.ofNat 2959], [.ofNat 152]), ([.ofNat 2960], [.ofNat 153]), ([.ofNat 2962], [.ofNat 154]), ([.ofNat 2963], [.ofNat 155]), ([.ofNat 2964], [.ofNat 156]), ([.ofNat 2947], [.ofNat 157]), ([.ofNat 3014], [.ofNat 166]), ([.ofNat 3015], [.ofNat 167]), ([.ofNat 3016], [.ofNat 168]), ([.ofNat 3021], [.ofNat 169]), ([.ofNat 3006], [.ofNat 170]), ([.ofNat 3007], [.ofNat 171]), ([.ofNat 3008], [.ofNat 172]), ([.ofNat 3009], [.ofNat 173]), ([.ofNat 3010], [.ofNat 174]), ([.ofNat 3031], [.ofNat 175]), ([.ofNat 2965], [.ofNat 176]), ([.ofNat 2965, .ofNat 3021], [.ofNat 208]), ([.ofNat 2965, .ofNat 3014], [.ofNat 166, .ofNat 176]), ([.ofNat 2965, .ofNat 3015], [.ofNat 167, .ofNat 176]), ([.ofNat 2965, .ofNat 3016], [.ofNat 168, .ofNat 176]), ([.ofNat 2965, .ofNat 3018], [.ofNat 166, .ofNat 176, .ofNat 170]), ([.ofNat 2965, .ofNat 3019], [.ofNat 167, .ofNat 176, .ofNat 170]), ([.ofNat 2965, .ofNat 3020], [.ofNat 166, .ofNat 176, .ofNat 175]), ([.ofNat 2969], [.ofNat 177]), ([.ofNat 2969, .ofNat 3021], [.ofNat 209]), ([.ofNat 2969, .ofNat 3014], [.ofNat 166, .ofNat 177]), ([.ofNat 2969, .ofNat 3015], [.ofNat 167, .ofNat 177]), ([.ofNat 2969, .ofNat 3016], [.ofNat 168, .ofNat 177])]
def Y174 : List Rl := [([.ofNat 2969, .ofNat 3018], [.ofNat 166, .ofNat 177, .ofNat 170]), ([.ofNat 2969, .ofNat 3019], [.ofNat 167, .ofNat 177, .ofNat 170]), ([.ofNat 2969, .ofNat 3020], [.ofNat 166, .ofNat 177, .ofNat 175]), ([.ofNat 2970], [.ofNat 178]), ([.ofNat 2970, .ofNat 3021], [.ofNat 210]), ([.ofNat 2970, .ofNat 3014], [.ofNat 166, .ofNat 178]), ([.ofNat 2970, .ofNat 3015], [.ofNat 167, .ofNat 178]), ([.ofNat 2970, .ofNat 3016], [.ofNat 168, .ofNat 178]), ([.ofNat 2970, .ofNat 3018], [.ofNat 166, .ofNat 178, .ofNat 170]), ([.ofNat 2970, .ofNat 3019], [.ofNat 167, .ofNat 178, .ofNat 170]), ([.ofNat 2970, .ofNat 3020], [.ofNat 166, .ofNat 178, .ofNat 175]), ([.ofNat 2974], [.ofNat 179]), ([.ofNat 2974, .ofNat 3021], [.ofNat 211]), ([.ofNat 2974, .ofNat 3014], [.ofNat 166, .ofNat 179]), ([.ofNat 2974, .ofNat 3015], [.ofNat 167, .ofNat 179]), ([.ofNat 2974, .ofNat 3016], [.ofNat 168, .ofNat 179]), ([.ofNat 2974, .ofNat 3018], [.ofNat 166, .ofNat 179, .ofNat 170]), ([.ofNat 2974, .ofNat 3019], [.ofNat 167, .ofNat 179, .ofNat 170]), ([.ofNat 2974, .ofNat 3020], [.ofNat 166, .ofNat 179, .ofNat 175]), ([.ofNat 2975], [.ofNat 180]), ([.ofNat 2975, .ofNat 3021], [.ofNat 212]), ([.ofNat 2975, .ofNat 3014], [.ofNat 166, .ofNat 180]), ([.ofNat 2975, .ofNat 3015], [.ofNat 167, .ofNat 180]), ([.ofNat 2975, .ofNat 3016], [.ofNat 168, .ofNat 180]), ([.ofNat 2975, .ofNat 3018], [.ofNat 166, .ofNat 180, .ofNat 170]), ([.ofNat 2975, .ofNat 3019], [.ofNat 167, .ofNat 180, .ofNat 170]), ([.ofNat 2975, .ofNat 3020], [.ofNat 166, .ofNat 180, .ofNat 175]), ([.ofNat 2979], [.ofNat 181]), ([.ofNat 2979, .ofNat 3021], [.ofNat 213]), ([.ofNat 2979, .ofNat 3014], [.ofNat 166, .ofNat 181]), ([.ofNat 2979, .ofNat 3015], [.ofNat 167, .ofNat 181]), ([.ofNat 2979, .ofNat 3016], [.ofNat 168, .ofNat 181]), ([.ofNat 2979, .ofNat 3018], [.ofNat 166, .ofNat 181, .ofNat 170]), ([.ofNat 2979, .ofNat 3019], [.ofNat 167, .ofNat 181, .ofNat 170]), ([.ofNat 2979, .ofNat 3020], [.ofNat 166, .ofNat 181, .ofNat 175]), ([.ofNat 2980], [.ofNat 182]), ([.ofNat 2980, .ofNat 3021], [.ofNat 214]), ([.ofNat 2980, .ofNat 3014], [.ofNat 166, .ofNat 182]), ([.ofNat 2980, .ofNat 3015], [.ofNat 167, .ofNat 182]), ([.ofNat 2980, .ofNat 3016], [.ofNat 168, .ofNat 182]), ([.ofNat 2980, .ofNat 3018], [.ofNat 166, .ofNat 182, .ofNat 170])]
def Y175 : List Rl := [([.ofNat 2980, .ofNat 3019], [.ofNat 167, .ofNat 182, .ofNat 170]), ([.ofNat 2980, .ofNat 3020], [.ofNat 166, .ofNat 182, .ofNat 175]), ([.ofNat 2984], [.ofNat 183]), ([.ofNat 2984, .ofNat 3021], [.ofNat 215]), ([.ofNat 2984, .ofNat 3014], [.ofNat 166, .ofNat 183]), ([.ofNat 2984, .ofNat 3015], [.ofNat 167, .ofNat 183]), ([.ofNat 2984, .ofNat 3016], [.ofNat 168, .ofNat 183]), ([.ofNat 2984, .ofNat 3018], [.ofNat 166, .ofNat 183, .ofNat 170]), ([.ofNat 2984, .ofNat 3019], [.ofNat 167, .ofNat 183, .ofNat 170]), ([.ofNat 2984, .ofNat 3020], [.ofNat 166, .ofNat 183, .ofNat 175]), ([.ofNat 2986], [.ofNat 184]), ([.ofNat 2986, .ofNat 3021], [.ofNat 216]), ([.ofNat 2986, .ofNat 3014], [.ofNat 166, .ofNat 184]), ([.ofNat 2986, .ofNat 3015], [.ofNat 167, .ofNat 184]), ([.ofNat 2986, .ofNat 3016], [.ofNat 168, .ofNat 184]), ([.ofNat 2986, .ofNat 3018], [.ofNat 166, .ofNat 184, .ofNat 170]), ([.ofNat 2986, .ofNat 3019], [.ofNat 167, .ofNat 184, .ofNat 170]), ([.ofNat 2986, .ofNat 3020], [.ofNat 166, .ofNat 184, .ofNat 175]), ([.ofNat 2990], [.ofNat 185]), ([.ofNat 2990, .ofNat 3021], [.ofNat 217]), ([.ofNat 2990, .ofNat 3014], [.ofNat 166, .ofNat 185]), ([.ofNat 2990, .ofNat 3015], [.ofNat 167, .ofNat 185]), ([.ofNat 2990, .ofNat 3016], [.ofNat 168, .ofNat 185]), ([.ofNat 2990, .ofNat 3018], [.ofNat 166, .ofNat 185, .ofNat 170]), ([.ofNat 2990, .ofNat 3019], [.ofNat 167, .ofNat 185, .ofNat 170]), ([.ofNat 2990, .ofNat 3020], [.ofNat 166, .ofNat 185, .ofNat 175]), ([.ofNat 2991], [.ofNat 186]), ([.ofNat 2991, .ofNat 3021], [.ofNat 218]), ([.ofNat 2991, .ofNat 3014], [.ofNat 166, .ofNat 186]), ([.ofNat 2991, .ofNat 3015], [.ofNat 167, .ofNat 186]), ([.ofNat 2991, .ofNat 3016], [.ofNat 168, .ofNat 186]), ([.ofNat 2991, .ofNat 3018], [.ofNat 166, .ofNat 186, .ofNat 170]), ([.ofNat 2991, .ofNat 3019], [.ofNat 167, .ofNat 186, .ofNat 170]), ([.ofNat 2991, .ofNat 3020], [.ofNat 166, .ofNat 186, .ofNat 175]), ([.ofNat 2992], [.ofNat 187]), ([.ofNat 2992, .ofNat 3021], [.ofNat 219]), ([.ofNat 2992, .ofNat 3014], [.ofNat 166, .ofNat 187]), ([.ofNat 2992, .ofNat 3015], [.ofNat 167, .ofNat 187]), ([.ofNat 2992, .ofNat 3016], [.ofNat 168, .ofNat 187]), ([.ofNat 2992, .ofNat 3018], [.ofNat 166, .ofNat 187, .ofNat 170]), ([.ofNat 2992, .ofNat 3019], [.ofNat 167, .ofNat 187, .ofNat 170])]
def Y176 : List Rl := [([.ofNat 2992, .ofNat 3020], [.ofNat 166, .ofNat 187, .ofNat 175]), ([.ofNat 2994], [.ofNat 188]), ([.ofNat 2994, .ofNat 3021], [.ofNat 220]), ([.ofNat 2994, .ofNat 3014], [.ofNat 166, .ofNat 188]), ([.ofNat 2994, .ofNat 3015], [.ofNat 167, .ofNat 188]), ([.ofNat 2994, .ofNat 3016], [.ofNat 168, .ofNat 188]), ([.ofNat 2994, .ofNat 3018], [.ofNat 166, .ofNat 188, .ofNat 170]), ([.ofNat 2994, .ofNat 3019], [.ofNat 167, .ofNat 188, .ofNat 170]), ([.ofNat 2994, .ofNat 3020], [.ofNat 166, .ofNat 188, .ofNat 175]), ([.ofNat 2997], [.ofNat 189]), ([.ofNat 2997, .ofNat 3021], [.ofNat 221]), ([.ofNat 2997, .ofNat 3014], [.ofNat 166, .ofNat 189]), ([.ofNat 2997, .ofNat 3015], [.ofNat 167, .ofNat 189]), ([.ofNat 2997, .ofNat 3016], [.ofNat 168, .ofNat 189]), ([.ofNat 2997, .ofNat 3018], [.ofNat 166, .ofNat 189, .ofNat 170]), ([.ofNat 2997, .ofNat 3019], [.ofNat 167, .ofNat 189, .ofNat 170]), ([.ofNat 2997, .ofNat 3020], [.ofNat 166, .ofNat 189, .ofNat 175]), ([.ofNat 2996], [.ofNat 190]), ([.ofNat 2996, .ofNat 3021], [.ofNat 222]), ([.ofNat 2996, .ofNat 3014], [.ofNat 166, .ofNat 190]), ([.ofNat 2996, .ofNat 3015], [.ofNat 167, .ofNat 190]), ([.ofNat 2996, .ofNat 3016], [.ofNat 168, .ofNat 190]), ([.ofNat 2996, .ofNat 3018], [.ofNat 166, .ofNat 190, .ofNat 170]), ([.ofNat 2996, .ofNat 3019], [.ofNat 167, .ofNat 190, .ofNat 170]), ([.ofNat 2996, .ofNat 3020], [.ofNat 166, .ofNat 190, .ofNat 175]), ([.ofNat 2995], [.ofNat 191]), ([.ofNat 2995, .ofNat 3021], [.ofNat 223]), ([.ofNat 2995, .ofNat 3014], [.ofNat 166, .ofNat 191]), ([.ofNat 2995, .ofNat 3015], [.ofNat 167, .ofNat 191]), ([.ofNat 2995, .ofNat 3016], [.ofNat 168, .ofNat 191]), ([.ofNat 2995, .ofNat 3018], [.ofNat 166, .ofNat 191, .ofNat 170]), ([.ofNat 2995, .ofNat 3019], [.ofNat 167, .ofNat 191, .ofNat 170]), ([.ofNat 2995, .ofNat 3020], [.ofNat 166, .ofNat 191, .ofNat 175]), ([.ofNat 2993], [.ofNat 192]), ([.ofNat 2993, .ofNat 3021], [.ofNat 224]), ([.ofNat 2993, .ofNat 3014], [.ofNat 166, .ofNat 192]), ([.ofNat 2993, .ofNat 3015], [.ofNat 167, .ofNat 192]), ([.ofNat 2993, .ofNat 3016], [.ofNat 168, .ofNat 192]), ([.ofNat 2993, .ofNat 3018], [.ofNat 166, .ofNat 192, .ofNat 170]), ([.ofNat 2993, .ofNat 3019], [.ofNat 167, .ofNat 192, .ofNat 170]), ([.ofNat 2993, .ofNat 3020], [.ofNat 166, .ofNat 192, .ofNat 175])]
def Y177 : List Rl := [([.ofNat 2985], [.ofNat 193]), ([.ofNat 2985, .ofNat 3021], [.ofNat 225]), ([.ofNat 2985, .ofNat 3014], [.ofNat 166, .ofNat 193]), ([.ofNat 2985, .ofNat 3015], [.ofNat 167, .ofNat 193]), ([.ofNat 2985, .ofNat 3016], [.ofNat 168, .ofNat 193]), ([.ofNat 2985, .ofNat 3018], [.ofNat 166, .ofNat 193, .ofNat 170]), ([.ofNat 2985, .ofNat 3019], [.ofNat 167, .ofNat 193, .ofNat 170]), ([.ofNat 2985, .ofNat 3020], [.ofNat 166, .ofNat 193, .ofNat 175]), ([.ofNat 2972], [.ofNat 194]), ([.ofNat 2972, .ofNat 3021], [.ofNat 226]), ([.ofNat 2972, .ofNat 3014], [.ofNat 166, .ofNat 194]), ([.ofNat 2972, .ofNat 3015], [.ofNat 167, .ofNat 194]), ([.ofNat 2972, .ofNat 3016], [.ofNat 168, .ofNat 194]), ([.ofNat 2972, .ofNat 3018], [.ofNat 166, .ofNat 194, .ofNat 170]), ([.ofNat 2972, .ofNat 3019], [.ofNat 167, .ofNat 194, .ofNat 170]), ([.ofNat 2972, .ofNat 3020], [.ofNat 166, .ofNat 194, .ofNat 175]), ([.ofNat 2999], [.ofNat 195]), ([.ofNat 2999, .ofNat 3021], [.ofNat 227]), ([.ofNat 2999, .ofNat 3014], [.ofNat 166, .ofNat 195]), ([.ofNat 2999, .ofNat 3015], [.ofNat 167, .ofNat 195]), ([.ofNat 2999, .ofNat 3016], [.ofNat 168, .ofNat 195]), ([.ofNat 2999, .ofNat 3018], [.ofNat 166, .ofNat 195, .ofNat 170]), ([.ofNat 2999, .ofNat 3019], [.ofNat 167, .ofNat 195, .ofNat 170]), ([.ofNat 2999, .ofNat 3020], [.ofNat 166, .ofNat 195, .ofNat 175]), ([.ofNat 3000], [.ofNat 196]), ([.ofNat 3000, .ofNat 3021], [.ofNat 228]), ([.ofNat 3000, .ofNat 3014], [.ofNat 166, .ofNat 196]), ([.ofNat 3000, .ofNat 3015], [.ofNat 167, .ofNat 196]), ([.ofNat 3000, .ofNat 3016], [.ofNat 168, .ofNat 196]), ([.ofNat 3000, .ofNat 3018], [.ofNat 166, .ofNat 196, .ofNat 170]), ([.ofNat 3000, .ofNat 3019], [.ofNat 167, .ofNat 196, .ofNat 170]), ([.ofNat 3000, .ofNat 3020], [.ofNat 166, .ofNat 196, .ofNat 175]), ([.ofNat 3001], [.ofNat 197]), ([.ofNat 3001, .ofNat 3021], [.ofNat 229]), ([.ofNat 3001, .ofNat 3014], [.ofNat 166, .ofNat 197]), ([.ofNat 3001, .ofNat 3015], [.ofNat 167, .ofNat 197]), ([.ofNat 3001, .ofNat 3016], [.ofNat 168, .ofNat 197]), ([.ofNat 3001, .ofNat 3018], [.ofNat 166, .ofNat 197, .ofNat 170]), ([.ofNat 3001, .ofNat 3019], [.ofNat 167, .ofNat 197, .ofNat 170]), ([.ofNat 3001, .ofNat 3020], [.ofNat 166, .ofNat 197, .ofNat 175])]
def Y17 : List Rl := Y170 ++ (Y171 ++ (Y172 ++ (Y173 ++ (Y174 ++ (Y175 ++ (Y176 ++ (Y177)))))))
theorem X17_eq : R17 = X17 := by kernel_rfl
theorem Y17_eq : trn R17 [] = Y17 := by rw [R17_trn]; kernel_rfl
def okT (T : List Tok) (out : List Int) : Bool := T.all (fun t => decide (t.err = 0)) && decide (outs T = out)
theorem okT_spec {T : List Tok} {out : List Int} (h : okT T out = true) : whole T ∧ outs T = out := by
  unfold okT at h
  rw [Bool.and_eq_true, List.all_eq_true, decide_eq_true_eq] at h
  exact ⟨fun t ht => by simpa using h.1 t ht, h.2⟩
def okP (a b : List Int) : Bool := okT (allU X17 a 0) b && okT (encF X17 [] (allU Y17 b 0)) a
theorem okP_spec {a b : List Int} (h : okP a b = true) : (whole (allU R17 a 0) ∧ outs (allU R17 a 0) = b) ∧ whole (encU R17 b) ∧ outs (encU R17 b) = a := by
  unfold okP at h
  rw [Bool.and_eq_true] at h
  unfold encU
  rw [Y17_eq, X17_eq]
  exact ⟨okT_spec h.1, okT_spec h.2⟩
def inM (k v : Nat) : List Int := (match v with | 0 => [.ofNat 166, .ofNat (176 + k)] | 1 => [.ofNat 167, .ofNat (176 + k)] | 2 => [.ofNat 168, .ofNat (176 + k)] | 3 => [.ofNat 166, .ofNat (176 + k), .ofNat 170] | 4 => [.ofNat 167, .ofNat (176 + k), .ofNat 170] | _ => [.ofNat 166, .ofNat (176 + k), .ofNat 175])
def M17 : List Int := [.ofNat 3014, .ofNat 3015, .ofNat 3016, .ofNat 3018, .ofNat 3019, .ofNat 3020]
def outM (k v : Nat) : List Int := [C17.getD k 0, M17.getD v 0]
def inV (k v : Nat) : List Int := [.ofNat (176 + k), .ofNat (171 + v)]
def outV (k v : Nat) : List Int := [C17.getD k 0, .ofNat (3007 + v)]
theorem chkM : ((List.range 22).all fun k => (List.range 6).all fun v => okP (inM k v) (outM k v)) = true := by kernel_rfl
theorem chkV : ((List.range 22).all fun k => (List.range 4).all fun v => okP (inV k v) (outV k v)) = true := by kernel_rfl
theorem all2 {m n : Nat} {f : Nat → Nat → Bool} (h : ((List.range m).all fun k => (List.range n).all fun v => f k v) = true) {k v : Nat} (hk : k < m) (hv : v < n) : f k v = true :=
  List.all_eq_true.1 (List.all_eq_true.1 h k (List.mem_range.2 hk)) v (List.mem_range.2 hv)
theorem isM {k v : Nat} (hk : k < 22) (hv : v < 6) : (whole (allU R17 (inM k v) 0) ∧ outs (allU R17 (inM k v) 0) = outM k v) ∧ whole (encU R17 (outM k v)) ∧ outs (encU R17 (outM k v)) = inM k v := okP_spec (all2 chkM hk hv)
theorem isV {k v : Nat} (hk : k < 22) (hv : v < 4) : (whole (allU R17 (inV k v) 0) ∧ outs (allU R17 (inV k v) 0) = outV k v) ∧ whole (encU R17 (outV k v)) ∧ outs (encU R17 (outV k v)) = inV k v := okP_spec (all2 chkV hk hv)
end Go.Proofs.Ytgonfmpmdahmcaa

/-! Layer 17: TamilMoves, TamilVowels. -/
set_option linter.unusedSimpArgs false
set_option linter.unusedVariables false
namespace Go.Proofs.Ytgonfmpmdahmcaa
open Go Lon
set_option maxRecDepth 100000
theorem v_sl6 {H : AHeap} {a0 a1 a2 a3 a4 a5 : Option Addr} {n0 n1 n2 n3 n4 n5 c0 c1 c2 c3 c4 c5 : Nat} : vBslice 24 6 1 [.slice none 0 0] [(0, 1, .slice a0 n0 c0), (1, 1, .slice a1 n1 c1), (2, 1, .slice a2 n2 c2), (3, 1, .slice a3 n3 c3), (4, 1, .slice a4 n4 c4), (5, 1, .slice a5 n5 c5)] H = some (.slice (some ⟨H.n, 0, none⟩) 6 7, H.push ⟨[.slice a0 n0 c0, .slice a1 n1 c1, .slice a2 n2 c2, .slice a3 n3 c3, .slice a4 n4 c4, .slice a5 n5 c5], 24, .tip, 0, []⟩) := rfl
theorem v_M17 {H : AHeap} : vBslice 3 6 1 [.int .i64 0] [(0, 1, .int .i64 3014), (1, 1, .int .i64 3015), (2, 1, .int .i64 3016), (3, 1, .int .i64 3018), (4, 1, .int .i64 3019), (5, 1, .int .i64 3020)] H = some (.slice (some ⟨H.n, 0, none⟩) 6 7, H.push ⟨ints M17, 3, .tip, 0, []⟩) := rfl
theorem M17_get {k : Nat} (h : k < 6) : M17[k]? = some (M17.getD k 0) := by rw [List.getD_eq_getElem?_getD, List.getElem?_eq_getElem (show k < M17.length from h)]; rfl
/-- The table reads 'x' as 'y', and writes 'y' as 'x'. -/
structure Both (x y : List Int) : Prop where
  rd : whole (allU R17 x 0) ∧ outs (allU R17 x 0) = y
  wr : whole (encU R17 y) ∧ outs (encU R17 y) = x
/-- What both laws do behind their texts. -/
theorem both17 {H : AHeap} {q : Nat} {vx vy : Value} {x y : List Int} (hB : Both x y) (hT : TableOk H q R17) (hx : Ints H vx x) (hxc : Cut Try.prog H vx 1) (hy : Ints H vy y) (hyc : Cut Try.prog H vy 1) (h1 : x.length ≤ 60) (h2 : y.length ≤ 60) :
    ∃ w3 H3 w4 p4 k4 H4 w6 H6 w7 p7 k7 H7, cw Try.prog (tabF tab) om1 25 [.pointer (some ⟨q, 0, none⟩), vx] H = some (w3, H3) ∧ cw Try.prog (tabF tab) om1 39 [w3] H3 = some (.tuple ⟨[w4, .agg ⟨tokC p4 k4 tok0⟩]⟩, H4) ∧
      cw Try.prog (tabF tab) om1 18 [.pointer (some ⟨q, 0, none⟩), vy] (H4.push ⟨tokC p4 k4 tok0, 41, .tip, 1, []⟩) = some (w6, H6) ∧ cw Try.prog (tabF tab) om1 39 [w6] H6 = some (.tuple ⟨[w7, .agg ⟨tokC p7 k7 tok0⟩]⟩, H7) ∧
      cw Try.prog (tabF tab) om1 24 [w4, vy] (H7.push ⟨tokC p7 k7 tok0, 41, .tip, 1, []⟩) = some (.bool true, H7.push ⟨tokC p7 k7 tok0, 41, .tip, 1, []⟩) ∧ cw Try.prog (tabF tab) om1 24 [w7, vx] (H7.push ⟨tokC p7 k7 tok0, 41, .tip, 1, []⟩) = some (.bool true, H7.push ⟨tokC p7 k7 tok0, 41, .tip, 1, []⟩) ∧
      (H7.push ⟨tokC p7 k7 tok0, 41, .tip, 1, []⟩).get H4.n = some ⟨tokC p4 k4 tok0, 41, .tip, 1, []⟩ ∧ (H7.push ⟨tokC p7 k7 tok0, 41, .tip, 1, []⟩).get H7.n = some ⟨tokC p7 k7 tok0, 41, .tip, 1, []⟩ := by
  obtain ⟨b1, b2⟩ := hB.rd
  obtain ⟨b3, b4⟩ := hB.wr
  obtain ⟨w3, H3, c3, x3, y3, f3⟩ := c_Decode hT hx hxc (by omega)
  obtain ⟨w4', H4, c4, x4, w4, p4, k4, rfl, o4, f4, t4⟩ := c_UT y3.rws (by rw [b2]; omega)
  rw [fstB_whole b1] at c4
  rw [b2] at o4
  have x5 := Ext.push H4 ⟨tokC p4 k4 tok0, 41, .tip, 1, []⟩
  have g5 := get_push_self (H := H4) (b := ⟨tokC p4 k4 tok0, 41, .tip, 1, []⟩)
  have x05 := (x3.trans x4).trans x5
  obtain ⟨w6, H6, c6, x6, y6, f6⟩ := c_Enc (hT.ext x05) (hy.ext x05) (hyc.ext x05) (by omega)
  obtain ⟨w7', H7, c7, x7, w7, p7, k7, rfl, o7, f7, t7⟩ := c_UT y6.rws (by rw [b4]; omega)
  rw [fstB_whole b3] at c7
  rw [b4] at o7
  have x8 := Ext.push H7 ⟨tokC p7 k7 tok0, 41, .tip, 1, []⟩
  have g8 := get_push_self (H := H7) (b := ⟨tokC p7 k7 tok0, 41, .tip, 1, []⟩)
  have x58 := (x6.trans x7).trans x8
  have c9 := c_Units ((o4.asI.ext x5).ext x58) ((hy.ext x05).ext x58) (by omega)
  have c10 := c_Units (o7.asI.ext x8) ((hx.ext x05).ext x58) (by omega)
  rw [decide_eq_true rfl] at c9 c10
  exact ⟨w3, H3, w4, p4, k4, H4, w6, H6, w7, p7, k7, H7, c3, c4, c6, c7, c9, c10, x58.get g5, g8⟩
theorem law_Vowels17 {a b : Int} {H : AHeap} (ha : 0 ≤ a ∧ a < 256) (hb : 0 ≤ b ∧ b < 256) : Gives (cw Try.prog (tabF tab) om1 13 [.int .u8 a, .int .u8 b] H) fun v H' => v = .bool true := by
  rw [cw_run (F := F_lontarlaw17_TamilVowels) rfl rfl rfl]
  unfold F_lontarlaw17_TamilVowels k_lontarlaw17_TamilVowels
  obtain ⟨v1, H1, q, H2, c1, c2, x2, hT, _, _⟩ := start17 (H := H)
  obtain ⟨m, hm⟩ : ∃ m : Nat, a % 22 = m := ⟨(a % 22).toNat, by omega⟩
  obtain ⟨n, hn⟩ : ∃ n : Nat, b % 4 = n := ⟨(b % 4).toNat, by omega⟩
  have hm2 : m < 22 := by omega
  have hn2 : n < 4 := by omega
  have q1 : intOp .rem .u8 a 22 = some (.int .u8 m) := by rw [int_rem (by decide), Int.tmod_eq_emod_of_nonneg (by omega), hm]
  have q2 : intOp .rem .u8 b 4 = some (.int .u8 n) := by rw [int_rem (by decide), Int.tmod_eq_emod_of_nonneg (by omega), hn]
  have q3 : IntKind.i64.wrap (m : Int) = m := wrap64 (by omega) (by omega)
  have q4 : IntKind.i64.wrap (n : Int) = n := wrap64 (by omega) (by omega)
  obtain ⟨c, hc⟩ : ∃ c : Int, c = Int.ofNat (176 + m) := ⟨_, rfl⟩
  obtain ⟨d, hd⟩ : ∃ d : Int, d = Int.ofNat (171 + n) := ⟨_, rfl⟩
  obtain ⟨f, hf⟩ : ∃ f : Int, f = Int.ofNat (3007 + n) := ⟨_, rfl⟩
  obtain ⟨s, hs⟩ : ∃ s : Int, s = C17.getD m 0 := ⟨_, rfl⟩
  have q5 : IntKind.i64.wrap (176 + (m : Int)) = c := by rw [wrap64 (by omega) (by omega), hc, Int.ofNat_eq_natCast]; omega
  have q6 : IntKind.i64.wrap (171 + (n : Int)) = d := by rw [wrap64 (by omega) (by omega), hd, Int.ofNat_eq_natCast]; omega
  have q7 : IntKind.i64.wrap (3007 + (n : Int)) = f := by rw [wrap64 (by omega) (by omega), hf, Int.ofNat_eq_natCast]; omega
  obtain ⟨H3, hH3⟩ : ∃ H3, H3 = H2.push ⟨[.int .i64 c, .int .i64 d], 3, .tip, 0, []⟩ := ⟨_, rfl⟩
  have x3 : Ext H2 H3 := by rw [hH3]; exact Ext.push H2 _
  have g3 : H3.get H2.n = some ⟨[.int .i64 c, .int .i64 d], 3, .tip, 0, []⟩ := by rw [hH3]; exact get_push_self
  obtain ⟨H4, hH4⟩ : ∃ H4, H4 = H3.push ⟨ints C17, 3, .tip, 0, []⟩ := ⟨_, rfl⟩
  have x4 : Ext H3 H4 := by rw [hH4]; exact Ext.push H3 _
  have g4 : H4.get H3.n = some ⟨ints C17, 3, .tip, 0, []⟩ := by rw [hH4]; exact get_push_self
  have s4 : Ints H4 (.slice (some ⟨H3.n, 0, none⟩) 22 23) C17 := Sl.new (n := 22) (c := 23) g4 mem_tip rfl
  obtain ⟨i4, o4, h4, h5⟩ := s4.at (C17_get hm2)
  have cc := c_L38 H3
  rw [← hH4] at cc
  rw [← hs] at h5
  obtain ⟨H5, hH5⟩ : ∃ H5, H5 = H4.push ⟨[.int .i64 s, .int .i64 f], 3, .tip, 0, []⟩ := ⟨_, rfl⟩
  have x5 : Ext H4 H5 := by rw [hH5]; exact Ext.push H4 _
  have g5 : H5.get H4.n = some ⟨[.int .i64 s, .int .i64 f], 3, .tip, 0, []⟩ := by rw [hH5]; exact get_push_self
  have x35 := x4.trans x5
  have e1 : ([.int .i64 c, .int .i64 d] : List Value) = ints (inV m n) := by rw [hc, hd]; rfl
  have e2 : ([.int .i64 s, .int .i64 f] : List Value) = ints (outV m n) := by rw [hs, hf]; rfl
  have g3' := x35.get g3
  have s1 : Ints H5 (.slice (some ⟨H2.n, 0, none⟩) 2 3) (inV m n) := Sl.new (n := 2) (c := 3) (by rw [← e1]; exact g3') mem_tip rfl
  have s2 : Ints H5 (.slice (some ⟨H4.n, 0, none⟩) 2 3) (outV m n) := Sl.new (n := 2) (c := 3) (by rw [← e2]; exact g5) mem_tip rfl
  obtain ⟨w6, H6, w7, p7, k7, H7, w8, H8, w9, p9, k9, H9, r1, r2, r3, r4, r5, r6, r7, r8⟩ := both17 ⟨(isV hm2 hn2).1, (isV hm2 hn2).2⟩ (hT.ext (x3.trans x35)) s1 (Cut.new g3' (by kernel_rfl)) s2 (Cut.new g5 (by kernel_rfl)) (Nat.le_add_right 2 58) (Nat.le_add_right 2 58)
  have hz : ([.int .i64 0, .int .i64 0, .slice none 0 0, .int .i64 0] : List Value) = tokC none 0 tok0 := rfl
  have z : ((0 : Int) ≠ 0) = False := by simp
  have z1 : (tok0.err = 0) = True := by simp [tok0]
  simp only [WA, isStore, isCall, isK, freshI, stampO, List.nil_append, Option.map_some, Option.map_none, Option.bind_some, List.map_cons, List.map_nil, if_true, if_false, Nat.reduceEqDiff, Int.reduceEq, Nat.reduceAdd, Nat.reduceMul, reduceCtorEq, eq_self, Int.reduceLT, Int.reduceLE, Int.reduceToNat, List.length_cons, List.length_nil, List.all_cons, List.all_nil, List.take_zero, List.drop_nil, List.append_nil, List.getElem?_cons_zero, List.getElem?_cons_succ, List.drop_succ_cons, List.drop_zero, List.take_succ_cons, List.cons_append, Nat.reduceLeDiff, Int.cast_ofNat_Int, o_awake17, c1, c2, v_nilp, z, q1, q2, q3, q4, q5, q6, v_int2, ← hH3, cc, h4, h5, q7, ← hH5, r1, r2, got_tok, r3, r4, r5, r6, r7, r8, tk3, z1]
/-- One of six texts. -/
theorem six {H : AHeap} {b b0 b1 b2 b3 b4 b5 : Nat} {m n : Nat} (hn : n < 6)
    (g : H.get b = some ⟨[.slice (some ⟨b0, 0, none⟩) 2 3, .slice (some ⟨b1, 0, none⟩) 2 3, .slice (some ⟨b2, 0, none⟩) 2 3, .slice (some ⟨b3, 0, none⟩) 3 4, .slice (some ⟨b4, 0, none⟩) 3 4, .slice (some ⟨b5, 0, none⟩) 3 4], 24, .tip, 0, []⟩)
    (g0 : H.get b0 = some ⟨ints (inM m 0), 3, .tip, 0, []⟩) (g1 : H.get b1 = some ⟨ints (inM m 1), 3, .tip, 0, []⟩) (g2 : H.get b2 = some ⟨ints (inM m 2), 3, .tip, 0, []⟩)
    (g3 : H.get b3 = some ⟨ints (inM m 3), 3, .tip, 0, []⟩) (g4 : H.get b4 = some ⟨ints (inM m 4), 3, .tip, 0, []⟩) (g5 : H.get b5 = some ⟨ints (inM m 5), 3, .tip, 0, []⟩) :
    ∃ w i o, (∀ (kd : IntKind) (H2 : AHeap), vIaddr (.slice (some ⟨b, 0, none⟩) 6 7) (.int kd n) 1 H2 = some (.pointer (some ⟨i, o, none⟩), H2)) ∧ gotLoad (H.get i) o none H = some (w, H) ∧ Ints H w (inM m n) ∧ Cut Try.prog H w 1 := by
  have hs : Sl H 1 (.slice (some ⟨b, 0, none⟩) 6 7) 6 _ := Sl.new (n := 6) (c := 7) g mem_tip rfl
  obtain ⟨i, o, a1, a2, _⟩ := Sl.at hs (k := n) hn
  match n, hn with
  | 0, _ => exact ⟨_, i, o, a1, a2 0 _ (by decide) rfl, Sl.new (n := 2) (c := 3) g0 mem_tip rfl, Cut.new g0 (by kernel_rfl)⟩
  | 1, _ => exact ⟨_, i, o, a1, a2 0 _ (by decide) rfl, Sl.new (n := 2) (c := 3) g1 mem_tip rfl, Cut.new g1 (by kernel_rfl)⟩
  | 2, _ => exact ⟨_, i, o, a1, a2 0 _ (by decide) rfl, Sl.new (n := 2) (c := 3) g2 mem_tip rfl, Cut.new g2 (by kernel_rfl)⟩
  | 3, _ => exact ⟨_, i, o, a1, a2 0 _ (by decide) rfl, Sl.new (n := 3) (c := 4) g3 mem_tip rfl, Cut.new g3 (by kernel_rfl)⟩
  | 4, _ => exact ⟨_, i, o, a1, a2 0 _ (by decide) rfl, Sl.new (n := 3) (c := 4) g4 mem_tip rfl, Cut.new g4 (by kernel_rfl)⟩
  | 5, _ => exact ⟨_, i, o, a1, a2 0 _ (by decide) rfl, Sl.new (n := 3) (c := 4) g5 mem_tip rfl, Cut.new g5 (by kernel_rfl)⟩
  | n + 6, h => omega
theorem inM_len {m n : Nat} : (inM m n).length ≤ 60 := by
  unfold inM
  split <;> first | exact (by decide : (2 : Nat) ≤ 60) | exact (by decide : (3 : Nat) ≤ 60)
theorem law_Moves17 {a b : Int} {x : Value} {l : List Int} {H : AHeap} (hx : U8s H x l) (ha : 0 ≤ a ∧ a < 256) (hb : 0 ≤ b ∧ b < 256) : Gives (cw Try.prog (tabF tab) om1 11 [.int .u8 a, .int .u8 b, x] H) fun v H' => v = .bool true := by
  rw [cw_run (F := F_lontarlaw17_TamilMoves) rfl rfl rfl]
  unfold F_lontarlaw17_TamilMoves k_lontarlaw17_TamilMoves
  obtain ⟨v1, H1, q, H2, c1, c2, x2, hT, _, _⟩ := start17 (H := H)
  obtain ⟨m, hm⟩ : ∃ m : Nat, a % 22 = m := ⟨(a % 22).toNat, by omega⟩
  obtain ⟨n, hn⟩ : ∃ n : Nat, b % 6 = n := ⟨(b % 6).toNat, by omega⟩
  have hm2 : m < 22 := by omega
  have hn2 : n < 6 := by omega
  have q1 : intOp .rem .u8 a 22 = some (.int .u8 m) := by rw [int_rem (by decide), Int.tmod_eq_emod_of_nonneg (by omega), hm]
  have q2 : intOp .rem .u8 b 6 = some (.int .u8 n) := by rw [int_rem (by decide), Int.tmod_eq_emod_of_nonneg (by omega), hn]
  have q3 : IntKind.i64.wrap (m : Int) = m := wrap64 (by omega) (by omega)
  obtain ⟨c, hc⟩ : ∃ c : Int, c = Int.ofNat (176 + m) := ⟨_, rfl⟩
  obtain ⟨s, hs⟩ : ∃ s : Int, s = C17.getD m 0 := ⟨_, rfl⟩
  obtain ⟨f, hf⟩ : ∃ f : Int, f = M17.getD n 0 := ⟨_, rfl⟩
  have q5 : IntKind.i64.wrap (176 + (m : Int)) = c := by rw [wrap64 (by omega) (by omega), hc, Int.ofNat_eq_natCast]; omega
  obtain ⟨H4, hH4⟩ : ∃ H4, H4 = H2.push ⟨ints C17, 3, .tip, 0, []⟩ := ⟨_, rfl⟩
  have x4 : Ext H2 H4 := by rw [hH4]; exact Ext.push H2 _
  have g4 : H4.get H2.n = some ⟨ints C17, 3, .tip, 0, []⟩ := by rw [hH4]; exact get_push_self
  have s4 : Ints H4 (.slice (some ⟨H2.n, 0, none⟩) 22 23) C17 := Sl.new (n := 22) (c := 23) g4 mem_tip rfl
  obtain ⟨i4, o4, h4, h5⟩ := s4.at (C17_get hm2)
  have cc := c_L38 H2
  rw [← hH4] at cc
  rw [← hs] at h5
  obtain ⟨A0, hA0⟩ : ∃ A, A = H4.push ⟨[.int .i64 166, .int .i64 c], 3, .tip, 0, []⟩ := ⟨_, rfl⟩
  have y0 : Ext H4 A0 := by rw [hA0]; exact Ext.push H4 _
  have t0 : A0.get H4.n = some ⟨ints (inM m 0), 3, .tip, 0, []⟩ := by rw [hA0, hc]; exact get_push_self
  obtain ⟨A1, hA1⟩ : ∃ A, A = A0.push ⟨[.int .i64 167, .int .i64 c], 3, .tip, 0, []⟩ := ⟨_, rfl⟩
  have y1 : Ext A0 A1 := by rw [hA1]; exact Ext.push A0 _
  have t1 : A1.get A0.n = some ⟨ints (inM m 1), 3, .tip, 0, []⟩ := by rw [hA1, hc]; exact get_push_self
  obtain ⟨A2, hA2⟩ : ∃ A, A = A1.push ⟨[.int .i64 168, .int .i64 c], 3, .tip, 0, []⟩ := ⟨_, rfl⟩
  have y2 : Ext A1 A2 := by rw [hA2]; exact Ext.push A1 _
  have t2 : A2.get A1.n = some ⟨ints (inM m 2), 3, .tip, 0, []⟩ := by rw [hA2, hc]; exact get_push_self
  obtain ⟨A3, hA3⟩ : ∃ A, A = A2.push ⟨[.int .i64 166, .int .i64 c, .int .i64 170], 3, .tip, 0, []⟩ := ⟨_, rfl⟩
  have y3 : Ext A2 A3 := by rw [hA3]; exact Ext.push A2 _
  have t3 : A3.get A2.n = some ⟨ints (inM m 3), 3, .tip, 0, []⟩ := by rw [hA3, hc]; exact get_push_self
  obtain ⟨A4, hA4⟩ : ∃ A, A = A3.push ⟨[.int .i64 167, .int .i64 c, .int .i64 170], 3, .tip, 0, []⟩ := ⟨_, rfl⟩
  have y4 : Ext A3 A4 := by rw [hA4]; exact Ext.push A3 _
  have t4 : A4.get A3.n = some ⟨ints (inM m 4), 3, .tip, 0, []⟩ := by rw [hA4, hc]; exact get_push_self
  obtain ⟨A5, hA5⟩ : ∃ A, A = A4.push ⟨[.int .i64 166, .int .i64 c, .int .i64 175], 3, .tip, 0, []⟩ := ⟨_, rfl⟩
  have y5 : Ext A4 A5 := by rw [hA5]; exact Ext.push A4 _
  have t5 : A5.get A4.n = some ⟨ints (inM m 5), 3, .tip, 0, []⟩ := by rw [hA5, hc]; exact get_push_self
  obtain ⟨A6, hA6⟩ : ∃ A, A = A5.push ⟨[.slice (some ⟨H4.n, 0, none⟩) 2 3, .slice (some ⟨A0.n, 0, none⟩) 2 3, .slice (some ⟨A1.n, 0, none⟩) 2 3, .slice (some ⟨A2.n, 0, none⟩) 3 4, .slice (some ⟨A3.n, 0, none⟩) 3 4, .slice (some ⟨A4.n, 0, none⟩) 3 4], 24, .tip, 0, []⟩ := ⟨_, rfl⟩
  have y6 : Ext A5 A6 := by rw [hA6]; exact Ext.push A5 _
  have t6 : A6.get A5.n = some ⟨[.slice (some ⟨H4.n, 0, none⟩) 2 3, .slice (some ⟨A0.n, 0, none⟩) 2 3, .slice (some ⟨A1.n, 0, none⟩) 2 3, .slice (some ⟨A2.n, 0, none⟩) 3 4, .slice (some ⟨A3.n, 0, none⟩) 3 4, .slice (some ⟨A4.n, 0, none⟩) 3 4], 24, .tip, 0, []⟩ := by rw [hA6]; exact get_push_self
  have y56 := y6
  have y46 := y5.trans y56
  have y36 := y4.trans y46
  have y26 := y3.trans y36
  have y16 := y2.trans y26
  have y06 := y1.trans y16
  obtain ⟨w, i, o, j1, j2, j3, j4⟩ := six (m := m) hn2 t6 (y06.get t0) (y16.get t1) (y26.get t2) (y36.get t3) (y46.get t4) (y56.get t5)
  obtain ⟨B1, hB1⟩ : ∃ B, B = A6.push ⟨ints M17, 3, .tip, 0, []⟩ := ⟨_, rfl⟩
  have z1 : Ext A6 B1 := by rw [hB1]; exact Ext.push A6 _
  have u1 : B1.get A6.n = some ⟨ints M17, 3, .tip, 0, []⟩ := by rw [hB1]; exact get_push_self
  have su : Ints B1 (.slice (some ⟨A6.n, 0, none⟩) 6 7) M17 := Sl.new (n := 6) (c := 7) u1 mem_tip rfl
  obtain ⟨i6, o6, j5, j6⟩ := su.at (M17_get hn2)
  have cM := v_M17 (H := A6)
  rw [← hB1] at cM
  rw [← hf] at j6
  obtain ⟨B2, hB2⟩ : ∃ B, B = B1.push ⟨[.int .i64 s, .int .i64 f], 3, .tip, 0, []⟩ := ⟨_, rfl⟩
  have z2 : Ext B1 B2 := by rw [hB2]; exact Ext.push B1 _
  have u2 : B2.get B1.n = some ⟨[.int .i64 s, .int .i64 f], 3, .tip, 0, []⟩ := by rw [hB2]; exact get_push_self
  have e2 : ([.int .i64 s, .int .i64 f] : List Value) = ints (outM m n) := by rw [hs, hf]; rfl
  have z12 := z1.trans z2
  have s2 : Ints B2 (.slice (some ⟨B1.n, 0, none⟩) 2 3) (outM m n) := Sl.new (n := 2) (c := 3) (by rw [← e2]; exact u2) mem_tip rfl
  have xall := ((x4.trans y0).trans y06).trans z12
  obtain ⟨w6, H6, w7, p7, k7, H7, w8, H8, w9, p9, k9, H9, r1, r2, r3, r4, r5, r6, r7, r8⟩ := both17 ⟨(isM hm2 hn2).1, (isM hm2 hn2).2⟩ (hT.ext xall) (j3.ext z12) (j4.ext z12) s2 (Cut.new u2 (by kernel_rfl)) inM_len (Nat.le_add_right 2 58)
  have hz : ([.int .i64 0, .int .i64 0, .slice none 0 0, .int .i64 0] : List Value) = tokC none 0 tok0 := rfl
  have z : ((0 : Int) ≠ 0) = False := by simp
  have z1 : (tok0.err = 0) = True := by simp [tok0]
  simp only [WA, isStore, isCall, isK, freshI, stampO, List.nil_append, Option.map_some, Option.map_none, Option.bind_some, List.map_cons, List.map_nil, if_true, if_false, Nat.reduceEqDiff, Int.reduceEq, Nat.reduceAdd, Nat.reduceMul, reduceCtorEq, eq_self, Int.reduceLT, Int.reduceLE, Int.reduceToNat, List.length_cons, List.length_nil, List.all_cons, List.all_nil, List.take_zero, List.drop_nil, List.append_nil, List.getElem?_cons_zero, List.getElem?_cons_succ, List.drop_succ_cons, List.drop_zero, List.take_succ_cons, List.cons_append, Nat.reduceLeDiff, Int.cast_ofNat_Int, o_awake17, c1, c2, v_nilp, z, q1, q2, q3, q5, v_int2, v_int3, cc, h4, h5, ← hA0, ← hA1, ← hA2, ← hA3, ← hA4, ← hA5, v_sl6, ← hA6, j1, j2, cM, j5, j6, ← hB2, r1, r2, got_tok, r3, r4, r5, r6, r7, r8, tk3, z1]
end Go.Proofs.Ytgonfmpmdahmcaa

