/- What is proved here: what the program's functions come to, as far as the claimed statement asks. Conditions: those that each theorem names, and no others. -/
import Derived.Test.YtgonfmpmdahmcaaP1
import Derived.Test.YtgonfmpmdahmcaaP2
import Derived.Test.YtgonfmpmdahmcaaLonZj
/-! A rule's units are laid into a trie. -/
set_option linter.unusedSimpArgs false
set_option linter.unusedVariables false
namespace Go.Proofs.Ytgonfmpmdahmcaa
open Go Lon
/-- The paths, with those of some units behind a path. -/
def addIns : List (List Int) → List Int → List Int → List (List Int)
  | P, _, [] => P
  | P, p, u :: us => addIns (if p ++ [u] ∈ P then P else P ++ [p ++ [u]]) (p ++ [u]) us
/-- The rules that end at the nodes. -/
def RF (ρ : List Int → Int) (P : List (List Int)) (N : List Nd) : Prop := ∀ (j : Nat) (x : Nd) (p : List Int), N[j]? = some x → P[j]? = some p → x.rule = ρ p
theorem RF.snoc {ρ : List Int → Int} {P : List (List Int)} {N : List Nd} {k : Nat} {x : Nd} {q : List Int} {u c z : Int} (h : RF ρ P N) (hl : N.length = P.length) (hx : N[k]? = some x) (hq : ρ q = -1) : RF ρ (P ++ [q]) ((N ++ [Nd.mk u 0 c (-1)]).set k ⟨x.unit, z, x.brother, x.rule⟩) := by
  have hk := (List.getElem?_eq_some_iff.1 hx).1
  intro j y p hj hp
  rw [List.getElem?_set] at hj
  split at hj
  · rename_i e
    subst e
    split at hj
    · injection hj with hj
      subst hj
      rw [List.getElem?_append_left (by omega)] at hp
      exact h k x p hx hp
    · cases hj
  · rcases Nat.lt_or_ge j N.length with hlt | hge
    · rw [List.getElem?_append_left hlt] at hj
      rw [List.getElem?_append_left (by omega)] at hp
      exact h j y p hj hp
    · have hjn : j = N.length := by
        have := (List.getElem?_eq_some_iff.1 hj).1
        simp at this
        omega
      subst hjn
      rw [List.getElem?_append_right (Nat.le_refl _), Nat.sub_self] at hj
      rw [List.getElem?_append_right (by omega), hl, Nat.sub_self] at hp
      simp at hj hp
      subst hj hp
      exact hq.symm
theorem v_node {H : AHeap} {u c : Int} : vBuild [.int .i64 0, .int .i64 0, .int .i64 0, .int .i64 0] [(0, 1, .int .i64 u), (2, 1, .int .i64 c), (3, 1, .int .i64 (-1))] H = some (.agg ⟨nd ⟨u, 0, c, -1⟩⟩, H) := rfl
theorem v_node1 {H : AHeap} {el : TypeId} {x : Nd} : vBslice el 1 4 [.int .i64 0, .int .i64 0, .int .i64 0, .int .i64 0] [(0, 4, .agg ⟨nd x⟩)] H = some (.slice (some ⟨H.n, 0, none⟩) 1 2, H.push ⟨nd x, el, .tip, 0, []⟩) := rfl
theorem l_In {H0 : AHeap} {vi a : Value} {In : List Int} {t : Nat} {O : List (List Int)} {vr : Value} {ρ : List Int → Int} {c1 c2 c3 : Int} (hI : Ints H0 vi In) (hs : In.length ≤ 8) : ∀ (k j : Nat) (H : AHeap) (b : Nat) (N : List Nd) (P : List (List Int)) (m : Nat), j + k = In.length → Ext H0 H → TS H0.n H t b vr N O → Fits P N → P[m]? = some (In.take j) → RF ρ P N → (∀ q, q ∉ P → ρ q = -1) → N.length + k < 1000000 →
    Out (run Try.prog (tabF tab) om1 (.loop [6, 7, 9, 26, 27, 28, 47, 48, 49] b_trie_Of_0) [(6, .pointer (some ⟨t, 0, none⟩)), (7, .int .i64 c1), (9, .int .i64 m), (26, a), (27, .int .i64 c2), (28, .int .i64 c3), (47, vi), (48, .int .i64 In.length), (49, .int .i64 j)] H) fun y e' H' => y = .exit 2 ∧ eget e' 6 = .pointer (some ⟨t, 0, none⟩) ∧ eget e' 7 = .int .i64 c1 ∧ eget e' 26 = a ∧ eget e' 27 = .int .i64 c2 ∧ eget e' 28 = .int .i64 c3 ∧ Ext H0 H' ∧
      ∃ (b' m' : Nat) (N' : List Nd), eget e' 9 = .int .i64 m' ∧ TS H0.n H' t b' vr N' O ∧ KI H H' ∧ Fits (addIns P (In.take j) (In.drop j)) N' ∧ (addIns P (In.take j) (In.drop j))[m']? = some In ∧ RF ρ (addIns P (In.take j) (In.drop j)) N' ∧ (∀ q, q ∉ addIns P (In.take j) (In.drop j) → ρ q = -1) ∧ N'.length ≤ N.length + k := by
  intro k
  induction k with
  | zero =>
    intro j H b N P m hj hx hT hF hP hR hρ hN
    obtain rfl : j = In.length := by omega
    have hlt : ¬ ((In.length : Int) < In.length) := by omega
    rw [w_loop_b b_trie_Of_0.eq_1]
    rw [List.take_length] at hP
    simp only [WA, isStore, isCall, isK, freshI, stampO, List.nil_append, Option.map_some, Option.map_none, Option.bind_some, List.map_cons, List.map_nil, if_true, if_false, Nat.reduceEqDiff, Int.reduceEq, Nat.reduceAdd, Nat.reduceMul, reduceCtorEq, eq_self, Int.reduceLT, Int.reduceLE, Int.reduceToNat, List.length_cons, List.length_nil, List.all_cons, List.all_nil, List.take_zero, List.drop_nil, List.append_nil, List.getElem?_cons_zero, List.getElem?_cons_succ, List.drop_succ_cons, List.drop_zero, List.take_succ_cons, List.cons_append, Nat.reduceLeDiff, Int.cast_ofNat_Int, hlt]
    rw [List.drop_of_length_le (Nat.le_refl _), List.take_length]
    exact ⟨hx, b, m, N, rfl, hT, Ext.ki (Ext.refl _), hF, hP, hR, hρ, by omega⟩
  | succ k ih =>
    intro j H b N P m hj hx hT hF hP hR hρ hN
    have hlt : (j : Int) < In.length := by omega
    obtain ⟨u, hu, hdu⟩ := drop_at (L := In) (i := j) (by omega)
    have htk : In.take (j + 1) = In.take j ++ [u] := by rw [List.take_add_one, hu]; rfl
    obtain ⟨i1, o1, h1, h2⟩ := (hI.ext hx).at hu
    have hw2 : IntKind.i64.wrap ((j : Int) + 1) = ((j + 1 : Nat) : Int) := by rw [wrap64 (by omega) (by omega)]; omega
    have hml : m < N.length := by rw [hF.len]; exact (List.getElem?_eq_some_iff.1 hP).1
    obtain ⟨x, hxm⟩ : ∃ x, N[m]? = some x := ⟨N[m], List.getElem?_eq_getElem hml⟩
    have cS := c_Step (u := u) hT.at hxm (hF.chain hxm hP)
    rw [w_loop_b b_trie_Of_0.eq_1, hdu]
    unfold addIns
    by_cases hin : In.take j ++ [u] ∈ P
    · rw [if_pos hin, ← htk]
      cases hpk : pickU N u (kidsOf P (In.take j)) with
      | none => exact absurd hin ((pick_none hF).1 hpk)
      | some m2 =>
        have hP2 := (pick_iff hF).1 hpk
        rw [← htk] at hP2
        rw [hpk] at cS
        simp only at cS
        obtain ⟨y, e', H', r1, r2, r3, r4, r5, r6, r7, r8, b', m', N', q1, q2, qk, q3, q4, q5, q6, q7⟩ := ih (j + 1) H b N P m2 (by omega) hx hT hF hP2 hR hρ (by omega)
        simp only [WA, isStore, isCall, isK, freshI, stampO, List.nil_append, Option.map_some, Option.map_none, Option.bind_some, List.map_cons, List.map_nil, if_true, if_false, Nat.reduceEqDiff, Int.reduceEq, Nat.reduceAdd, Nat.reduceMul, reduceCtorEq, eq_self, Int.reduceLT, Int.reduceLE, Int.reduceToNat, List.length_cons, List.length_nil, List.all_cons, List.all_nil, List.take_zero, List.drop_nil, List.append_nil, List.getElem?_cons_zero, List.getElem?_cons_succ, List.drop_succ_cons, List.drop_zero, List.take_succ_cons, List.cons_append, Nat.reduceLeDiff, Int.cast_ofNat_Int, hlt, h1, h2, cS, hw2]
        rw [w_enter]
        simp only [WA, isStore, isCall, isK, freshI, stampO, List.nil_append, Option.map_some, Option.map_none, Option.bind_some, List.map_cons, List.map_nil, if_true, if_false, Nat.reduceEqDiff, Int.reduceEq, Nat.reduceAdd, Nat.reduceMul, reduceCtorEq, eq_self, Int.reduceLT, Int.reduceLE, Int.reduceToNat, List.length_cons, List.length_nil, List.all_cons, List.all_nil, List.take_zero, List.drop_nil, List.append_nil, List.getElem?_cons_zero, List.getElem?_cons_succ, List.drop_succ_cons, List.drop_zero, List.take_succ_cons, List.cons_append, Nat.reduceLeDiff, Int.cast_ofNat_Int, r1]
        exact ⟨r2, r3, r4, r5, r6, r7, r8, b', m', N', q1, q2, qk, q3, q4, q5, q6, by omega⟩
    · rw [if_neg hin, ← htk]
      have hpk := (pick_none hF (p := In.take j) (u := u)).2 hin
      rw [hpk] at cS
      simp only at cS
      obtain ⟨ver, ht⟩ := hT.ht
      obtain ⟨ver2, A, hn, hA⟩ := hT.hn
      have hkid : (N.flatMap nd)[m * 4 + 1]? = some (.int .i64 x.kid) := nd_at hxm (by omega)
      have h0m : (0 : Int) ≤ m := by omega
      have hml' : (m : Int) < (N.length : Int) := by omega
      obtain ⟨v', H2, g1, g2, g3, H3, b', g4, g5, g6, g7, gk⟩ := hT.grow (y := ⟨u, 0, x.kid, -1⟩) hx.1 (by omega)
      have g2t := g2.trans ht
      have g2b := g3 _ hn
      rw [v_store, g2t] at g4
      obtain ⟨ver3, ht3⟩ := g5.ht
      obtain ⟨ver4, A4, hn4, _⟩ := g5.hn
      have hxm3 : (N ++ [Nd.mk u 0 x.kid (-1)])[m]? = some x := by rw [List.getElem?_append_left hml]; exact hxm
      obtain ⟨H4, s1, s2, s3, s4, sk⟩ := g5.store (z := (N.length : Int)) hxm3 (show 1 < 4 by omega)
      rw [v_store, hn4] at s1
      have hl3 : (m : Int) < (((N ++ [Nd.mk u 0 x.kid (-1)]).length : Nat) : Int) := by simp; omega
      have hF4 := hF.snoc hxm hP hin
      have hR4 := hR.snoc (u := u) (c := x.kid) (z := (N.length : Int)) hF.len hxm (hρ _ hin)
      have hx4 : Ext H0 H4 := ⟨by have := hx.1; omega, fun q hq => by rw [s4 q hq, g7 q hq, hx.2 q hq]⟩
      have hP4 : (P ++ [In.take j ++ [u]])[N.length]? = some (In.take (j + 1)) := by rw [htk, hF.len, List.getElem?_append_right (Nat.le_refl _), Nat.sub_self]; rfl
      rw [← htk] at hF4 hR4 hP4
      obtain ⟨y, e', H', r1, r2, r3, r4, r5, r6, r7, r8, b'', m', N', q1, q2, qk, q3, q4, q5, q6, q7⟩ := ih (j + 1) H4 b' _ _ N.length (by omega) hx4 s2 hF4 hP4 hR4 (fun q hq => hρ q fun hm => hq (List.mem_append_left _ hm)) (by simp; omega)
      have hl0 : ∀ H : AHeap, vLen false (.slice (some ⟨b, 0, none⟩) N.length (N.length + 1)) H = some (.int .i64 N.length, H) := fun _ => rfl
      simp only [WA, isStore, isCall, isK, freshI, stampO, List.nil_append, Option.map_some, Option.map_none, Option.bind_some, List.map_cons, List.map_nil, if_true, if_false, Nat.reduceEqDiff, Int.reduceEq, Nat.reduceAdd, Nat.reduceMul, reduceCtorEq, eq_self, Int.reduceLT, Int.reduceLE, Int.reduceToNat, List.length_cons, List.length_nil, List.all_cons, List.all_nil, List.take_zero, List.drop_nil, List.append_nil, List.getElem?_cons_zero, List.getElem?_cons_succ, List.drop_succ_cons, List.drop_zero, List.take_succ_cons, List.cons_append, Nat.reduceLeDiff, Int.cast_ofNat_Int, hlt, h1, h2, cS, ht, hl0, hn, h0m, hml', hkid, v_node, v_node1, g1, g2t, g2b, g4, ht3, hn4, hl3, s1, hw2]
      rw [w_enter]
      simp only [WA, isStore, isCall, isK, freshI, stampO, List.nil_append, Option.map_some, Option.map_none, Option.bind_some, List.map_cons, List.map_nil, if_true, if_false, Nat.reduceEqDiff, Int.reduceEq, Nat.reduceAdd, Nat.reduceMul, reduceCtorEq, eq_self, Int.reduceLT, Int.reduceLE, Int.reduceToNat, List.length_cons, List.length_nil, List.all_cons, List.all_nil, List.take_zero, List.drop_nil, List.append_nil, List.getElem?_cons_zero, List.getElem?_cons_succ, List.drop_succ_cons, List.drop_zero, List.take_succ_cons, List.cons_append, Nat.reduceLeDiff, Int.cast_ofNat_Int, r1]
      exact ⟨r2, r3, r4, r5, r6, r7, r8, b'', m', N', q1, q2, (gk.trans sk).trans qk, q3, q4, q5, q6, by simp at q7; omega⟩
end Go.Proofs.Ytgonfmpmdahmcaa

/-! A trie of rules that are right. -/
set_option linter.unusedSimpArgs false
set_option linter.unusedVariables false
namespace Go.Proofs.Ytgonfmpmdahmcaa
open Go Lon
/-- 'append([]int(nil), x...)'. -/
theorem app_new {H : AHeap} {x : Value} {l : List Int} {el : TypeId} (hx : Ints H x l) (hb : l.length * 8 ≤ 140737488355328) (h0 : 0 < l.length) :
    ∃ c, appendA H (.slice none 0 0) x el 1 8 = some (.slice (some ⟨H.n, 0, none⟩) l.length c, H.push ⟨ints l, el, .tip, 0, []⟩) := by
  obtain ⟨⟨a, c, rfl⟩, hc⟩ := hx
  have h1 : cellsOf H 1 (.slice none 0 0) = some [] := rfl
  refine ⟨l.length + 1, ?_⟩
  unfold appendA
  simp only [h1, hc]
  rw [if_neg (by omega), if_pos ⟨by omega, ones_ints l⟩]
  simp
/-- The nodes' paths. -/
def paths (L : List Rl) : List (List Int) := L.foldl (fun P r => addIns P [] r.1) [[]]
theorem v_out {H : AHeap} {p : Option Addr} {m c : Nat} : vBuild [.slice none 0 0, .slice none 0 0] [(1, 1, .slice p m c)] H = some (.agg ⟨[.slice none 0 0, .slice p m c]⟩, H) := rfl
theorem v_rule1' {H : AHeap} {el : TypeId} {x y : Value} : vBslice el 1 2 [.slice none 0 0, .slice none 0 0] [(0, 2, .agg ⟨[x, y]⟩)] H = some (.slice (some ⟨H.n, 0, none⟩) 1 2, H.push ⟨[x, y], el, .tip, 0, []⟩) := rfl
/-- Rules that are right: sides of 1 to 8 units that may be; no In twice. -/
def Right (T : List Rl) : Prop := (∀ r ∈ T, sideB r.1 = true ∧ sideB r.2 = true) ∧ ∀ k r, T[k]? = some r → fnd (T.take k) r.1 < 0
theorem side_len {l : List Int} (h : sideB l = true) : 0 < l.length ∧ l.length ≤ 8 := by
  unfold sideB at h
  simp only [Bool.and_eq_true, decide_eq_true_eq] at h
  exact h.1
theorem fdx_snoc {q : List Int} {r : Rl} : ∀ {T : List Rl} {i : Nat}, fdx q (T ++ [r]) i = match fdx q T i with | some k => some k | none => if r.1 = q then some (i + T.length) else none
  | [], i => by simp [fdx]
  | a :: T, i => by
    rw [List.cons_append]
    unfold fdx
    split
    · rfl
    · rw [fdx_snoc]
      cases fdx q T (i + 1) with
      | some k => rfl
      | none => simp only [List.length_cons]; split <;> simp; omega
theorem fnd_snoc {q : List Int} {r : Rl} {T : List Rl} (h : fnd T r.1 < 0) : fnd (T ++ [r]) q = if q = r.1 then (T.length : Int) else fnd T q := by
  have e : ∀ x, fnd T x = match fdx x T 0 with | some k => (k : Int) | none => -1 := fun _ => rfl
  unfold fnd
  rw [fdx_snoc]
  by_cases hq : q = r.1
  · subst hq
    rw [if_pos rfl]
    rw [e] at h
    cases hf : fdx r.1 T 0 with
    | some k => rw [hf] at h; simp at h; omega
    | none => simp
  · rw [if_neg hq]
    cases hf : fdx q T 0 with
    | some k => rfl
    | none =>
      have hne : ¬ r.1 = q := fun e => hq e.symm
      simp only [if_neg hne]
theorem got_ext {H H' : AHeap} (hx : Ext H H') {i o : Nat} {k : Option Nat} {v : Value} (h : gotLoad (H.get i) o k H = some (v, H)) : gotLoad (H'.get i) o k H' = some (v, H') := by
  cases hg : H.get i with
  | none => rw [hg] at h; cases h
  | some b =>
    rw [hx.get hg]
    rw [hg] at h
    unfold gotLoad at h ⊢
    rw [Option.map_eq_some_iff] at h
    obtain ⟨u, h3, h4⟩ := h
    injection h4 with h4 _
    rw [h3, h4]
    rfl
theorem RF.set {T : List Rl} {r : Rl} {P : List (List Int)} {N : List Nd} {m : Nat} {x : Nd} (h : RF (fnd T) P N) (hF : Fits P N) (hn : fnd T r.1 < 0) (hm : P[m]? = some r.1) (hx : N[m]? = some x) : RF (fnd (T ++ [r])) P (N.set m (cellAt x 3 (T.length : Int))) := by
  have hl := (List.getElem?_eq_some_iff.1 hx).1
  intro j y p hj hp
  rw [fnd_snoc hn]
  rw [List.getElem?_set] at hj
  split at hj
  · rename_i e
    subst e
    injection hj with hj
    subst hj
    rw [hp] at hm
    injection hm with hm
    rw [if_pos hm]
    rfl
  · rename_i hne
    have hpr : p ≠ r.1 := fun e => hne (at_inj hF.nodup hm (by rw [hp, e]))
    rw [if_neg hpr]
    exact h j y p hj hp
theorem l_Of {H0 : AHeap} {a : Value} {L : List Rl} {t : Nat} (ha : Rules H0 a L) (hR : Right L) (hL : L.length ≤ 512) : ∀ (k i : Nat) (H : AHeap) (b : Nat) (vr : Value) (N : List Nd), i + k = L.length → Ext H0 H → TS H0.n H t b vr N ((L.take i).map (·.2)) → Fits (paths (L.take i)) N → RF (fnd (L.take i)) (paths (L.take i)) N → (∀ q, q ∉ paths (L.take i) → fnd (L.take i) q = -1) → N.length ≤ 1 + 8 * i →
    Out (run Try.prog (tabF tab) om1 (.loop [6, 26, 27, 28] b_trie_Of_1) [(6, .pointer (some ⟨t, 0, none⟩)), (26, a), (27, .int .i64 L.length), (28, .int .i64 i)] H) fun y e' H' => y = .exit 0 ∧ eget e' 6 = .pointer (some ⟨t, 0, none⟩) ∧ Ext H0 H' ∧
      ∃ (b' : Nat) (vr' : Value) (N' : List Nd), TS H0.n H' t b' vr' N' (L.map (·.2)) ∧ Fits (paths L) N' ∧ RF (fnd L) (paths L) N' ∧ (∀ q, q ∉ paths L → fnd L q = -1) ∧ N'.length ≤ 1 + 8 * L.length := by
  intro k
  induction k with
  | zero =>
    intro i H b vr N hi hx hT hF hRF hρ hN
    obtain rfl : i = L.length := by omega
    have hlt : ¬ ((L.length : Int) < L.length) := by omega
    rw [w_loop_b b_trie_Of_1.eq_1]
    rw [List.take_length] at hRF hρ hF hT
    simp only [WA, isStore, isCall, isK, freshI, stampO, List.nil_append, Option.map_some, Option.map_none, Option.bind_some, List.map_cons, List.map_nil, if_true, if_false, Nat.reduceEqDiff, Int.reduceEq, Nat.reduceAdd, Nat.reduceMul, reduceCtorEq, eq_self, Int.reduceLT, Int.reduceLE, Int.reduceToNat, List.length_cons, List.length_nil, List.all_cons, List.all_nil, List.take_zero, List.drop_nil, List.append_nil, List.getElem?_cons_zero, List.getElem?_cons_succ, List.drop_succ_cons, List.drop_zero, List.take_succ_cons, List.cons_append, Nat.reduceLeDiff, Int.cast_ofNat_Int, hlt]
    exact ⟨hx, b, vr, N, hT, hF, hRF, hρ, hN⟩
  | succ k ih =>
    intro i H b vr N hi hx hT hF hRF hρ hN
    have hlt : (i : Int) < L.length := by omega
    obtain ⟨r, hr, hdr⟩ := drop_at (L := L) (i := i) (by omega)
    have htk : L.take (i + 1) = L.take i ++ [r] := by rw [List.take_add_one, hr]; rfl
    obtain ⟨sd1, sd2⟩ := hR.1 r (List.mem_of_getElem? hr)
    have hfn := hR.2 i r hr
    have l1 := side_len sd1
    have l2 := side_len sd2
    obtain ⟨i1, o1, vi, vo, h1, _, _, h4, h5, h6, h7, h8⟩ := ha.at hr
    have h5' := h5
    have h6' := h6
    obtain ⟨⟨ai, ci, rfl⟩, _⟩ := h5'
    obtain ⟨⟨ao, co, rfl⟩, _⟩ := h6'
    have h4' := got_ext hx h4
    have hw2 : IntKind.i64.wrap ((i : Int) + 1) = ((i + 1 : Nat) : Int) := by rw [wrap64 (by omega) (by omega)]; omega
    have hx1 := Ext.push H ⟨[.slice ai r.1.length ci, .slice ao r.2.length co], 46, .tip, 1, []⟩
    obtain ⟨c, g0⟩ := app_new (el := 3) ((h6.ext hx).ext hx1) (by omega) l2.1
    have x2 := Ext.push (H.push ⟨[.slice ai r.1.length ci, .slice ao r.2.length co], 46, .tip, 1, []⟩) ⟨ints r.2, 3, .tip, 0, []⟩
    have hq0 := get_push_self (H := H.push ⟨[.slice ai r.1.length ci, .slice ao r.2.length co], 46, .tip, 1, []⟩) (b := ⟨ints r.2, 3, .tip, 0, []⟩)
    obtain ⟨H2, hH2⟩ : ∃ H2, H2 = (H.push ⟨[.slice ai r.1.length ci, .slice ao r.2.length co], 46, .tip, 1, []⟩).push ⟨ints r.2, 3, .tip, 0, []⟩ := ⟨_, rfl⟩
    obtain ⟨q, hqe⟩ : ∃ q, q = (H.push ⟨[.slice ai r.1.length ci, .slice ao r.2.length co], 46, .tip, 1, []⟩).n := ⟨_, rfl⟩
    rw [← hH2, ← hqe] at g0 hq0
    rw [← hH2] at x2
    have hps : addIns (paths (L.take i)) [] r.1 = paths (L.take (i + 1)) := by unfold paths; rw [htk, List.foldl_append]; rfl
    have hos : (L.take i).map (·.2) ++ [r.2] = (L.take (i + 1)).map (·.2) := by rw [htk, List.map_append]; rfl
    have hT2 := hT.ext (hx1.trans x2)
    obtain ⟨ver, ht1⟩ := (hT.ext hx1).ht
    have ht2 := x2.get ht1
    have hn2 : H0.n ≤ H2.n := by have := hx.1; have := (hx1.trans x2).1; omega
    have hn12 : H.n < H2.n := by have := x2.1; simp at this; omega
    obtain ⟨v', H3, g1, g2, g3, H4, g4, g5, g6, g7, g8, gk⟩ := hT2.rule (c := c) hn2 (by rw [List.length_map, List.length_take]; omega) hq0 (by unfold Lon.tiny; omega)
    have ht3 := g2.trans ht2
    have hqt : H.n ≠ t := by
      obtain ⟨ver0, ht0⟩ := hT.ht
      have := AHeap.lt_of_get ht0
      omega
    have hvq : NotAt vr H.n := by
      obtain ⟨cs, ⟨_, ho⟩, _⟩ := hT.hv
      rcases ho with ⟨rfl, _⟩ | ⟨q', _, _, rfl, _, hq⟩
      · trivial
      · have := AHeap.lt_of_get hq
        show q' ≠ H.n
        omega
    have hq2 : H2.get H.n = some ⟨[.slice ai r.1.length ci, .slice ao r.2.length co], 46, .tip, 1, []⟩ := x2.get get_push_self
    have hq3 := (g3 H.n hn12 hvq).trans hq2
    have hq4 := (g4 H.n hqt).trans hq3
    rw [v_store, ht3] at g5
    have hx4 : Ext H0 H4 := ⟨by omega, fun j hj => by rw [g8 j hj, (hx.trans (hx1.trans x2)).2 j hj]⟩
    obtain ⟨y2, e2, H5, t1, rfl, t2, t3, t4, t5, t6, t7, b', m', N', q1, q2, qk, q3, q4, q5, q6, q7⟩ := l_In (a := a) (ρ := fnd (L.take i)) (c1 := (i : Int)) (c2 := (L.length : Int)) (c3 := (i : Int)) h5 l1.2 r.1.length 0 H4 b N _ 0 (by omega) hx4 g6 hF (by rw [List.take_zero]; exact hF.root) hRF hρ (by omega)
    rw [List.take_zero, List.drop_zero, hps] at q3 q4 q5 q6
    rw [hos] at q2
    obtain ⟨ver5, ht5⟩ := q2.ht
    obtain ⟨ver6, A6, hn5, _⟩ := q2.hn
    have hm5 : m' < N'.length := by rw [q3.len]; exact (List.getElem?_eq_some_iff.1 q4).1
    obtain ⟨x5, hx5⟩ : ∃ x, N'[m']? = some x := ⟨N'[m'], List.getElem?_eq_getElem hm5⟩
    obtain ⟨H6, s1, s2, s3, s4, sk⟩ := q2.store (z := (i : Int)) hx5 (show 3 < 4 by omega)
    rw [v_store, hn5] at s1
    have h05 : (0 : Int) ≤ m' := by omega
    have hm5' : (m' : Int) < (N'.length : Int) := by omega
    have hx6 : Ext H0 H6 := ⟨by have := t7.1; omega, fun j hj => by rw [s4 j hj, t7.2 j hj]⟩
    have hti : (L.take i).length = i := by rw [List.length_take]; omega
    have hRF6 := q5.set q3 hfn q4 hx5
    rw [hti, ← htk] at hRF6
    have hF6 : Fits (paths (L.take (i + 1))) (N'.set m' (cellAt x5 3 (i : Int))) := q3.setRule hx5 (i : Int)
    have hρ6 : ∀ q, q ∉ paths (L.take (i + 1)) → fnd (L.take (i + 1)) q = -1 := fun q hq => by
      rw [htk, fnd_snoc hfn, if_neg (fun e => hq (by rw [e]; exact List.mem_of_getElem? q4))]
      exact q6 q hq
    obtain ⟨y, e', H', r1, r2, r3, r4, r5⟩ := ih (i + 1) H6 b' v' _ (by omega) hx6 s2 hF6 hRF6 hρ6 (by simp; omega)
    simp only [Int.cast_ofNat_Int] at t1
    rw [w_loop_b b_trie_Of_1.eq_1]
    simp only [WA, isStore, isCall, isK, freshI, stampO, List.nil_append, Option.map_some, Option.map_none, Option.bind_some, List.map_cons, List.map_nil, if_true, if_false, Nat.reduceEqDiff, Int.reduceEq, Nat.reduceAdd, Nat.reduceMul, reduceCtorEq, eq_self, Int.reduceLT, Int.reduceLE, Int.reduceToNat, List.length_cons, List.length_nil, List.all_cons, List.all_nil, List.take_zero, List.drop_nil, List.append_nil, List.getElem?_cons_zero, List.getElem?_cons_succ, List.drop_succ_cons, List.drop_zero, List.take_succ_cons, List.cons_append, Nat.reduceLeDiff, Int.cast_ofNat_Int, hlt, h1, h4', ht1, g0, v_out, v_rule1', g1, ht3, hq3, g5, hq4, h5.len]
    rw [w_enter]
    simp only [WA, isStore, isCall, isK, freshI, stampO, List.nil_append, Option.map_some, Option.map_none, Option.bind_some, List.map_cons, List.map_nil, if_true, if_false, Nat.reduceEqDiff, Int.reduceEq, Nat.reduceAdd, Nat.reduceMul, reduceCtorEq, eq_self, Int.reduceLT, Int.reduceLE, Int.reduceToNat, List.length_cons, List.length_nil, List.all_cons, List.all_nil, List.take_zero, List.drop_nil, List.append_nil, List.getElem?_cons_zero, List.getElem?_cons_succ, List.drop_succ_cons, List.drop_zero, List.take_succ_cons, List.cons_append, Nat.reduceLeDiff, Int.cast_ofNat_Int, t1, t2, t3, t4, t5, t6, q1, ht5, hn5, h05, hm5', s1, hw2]
    rw [w_enter]
    simp only [WA, isStore, isCall, isK, freshI, stampO, List.nil_append, Option.map_some, Option.map_none, Option.bind_some, List.map_cons, List.map_nil, if_true, if_false, Nat.reduceEqDiff, Int.reduceEq, Nat.reduceAdd, Nat.reduceMul, reduceCtorEq, eq_self, Int.reduceLT, Int.reduceLE, Int.reduceToNat, List.length_cons, List.length_nil, List.all_cons, List.all_nil, List.take_zero, List.drop_nil, List.append_nil, List.getElem?_cons_zero, List.getElem?_cons_succ, List.drop_succ_cons, List.drop_zero, List.take_succ_cons, List.cons_append, Nat.reduceLeDiff, Int.cast_ofNat_Int, t2, t4, t5, r1]
    exact ⟨r2, r3, r4, r5⟩
theorem fits0 : Fits [[]] [⟨0, 0, 0, -1⟩] := by
  refine ⟨rfl, rfl, by simp, fun {j x p} hj hp => ?_, fun {j x p u} hj hp => ?_, fun {p u} h => by simp at h, fun {j x} hj => ?_⟩
  · have hj0 : j = 0 := by have := (List.getElem?_eq_some_iff.1 hj).1; simp at this; exact this
    subst hj0
    simp at hj hp
    subst hj hp
    exact Int.le_refl 0
  · have hj0 : j = 0 := by have := (List.getElem?_eq_some_iff.1 hj).1; simp at this; exact this
    subst hj0
    simp at hp
  · have hj0 : j = 0 := by have := (List.getElem?_eq_some_iff.1 hj).1; simp at this; exact this
    subst hj0
    simp at hj
    subst hj
    exact Int.le_refl 0
theorem v_root {H : AHeap} : vBuild [.int .i64 0, .int .i64 0, .int .i64 0, .int .i64 0] [(3, 1, .int .i64 (-1))] H = some (.agg ⟨nd ⟨0, 0, 0, -1⟩⟩, H) := rfl
theorem v_root1 {H : AHeap} {el : TypeId} {x : Nd} : vBslice el 1 4 [.int .i64 0, .int .i64 0, .int .i64 0, .int .i64 0] [(0, 4, .agg ⟨nd x⟩)] H = some (.slice (some ⟨H.n, 0, none⟩) 1 2, H.push ⟨nd x, el, .tip, 0, []⟩) := rfl
theorem v_trie {H : AHeap} {p : Option Addr} {m c : Nat} : vBuild [.slice none 0 0, .slice none 0 0] [(0, 1, .slice p m c)] H = some (.agg ⟨[.slice p m c, .slice none 0 0]⟩, H) := rfl
theorem chk_right {T : List Rl} (h : Right T) (hl : T.length ≤ 512) : ∀ (j i : Nat), i + j = T.length → chk T (T.drop i) i = (-1, 0) := by
  intro j
  induction j with
  | zero => intro i hi; rw [List.drop_of_length_le (by omega)]; rfl
  | succ j ih =>
    intro i hi
    obtain ⟨r, hr, hdr⟩ := drop_at (L := T) (i := i) (by omega)
    have hs := h.1 r (List.mem_of_getElem? hr)
    have hf := h.2 i r hr
    rw [hdr]
    unfold chk
    rw [if_neg (by omega), hs.1, hs.2]
    simp only [Bool.not_true, Bool.or_self, Bool.false_eq_true, if_false]
    rw [if_neg (by omega)]
    exact ih (i + 1) (by omega)
theorem c_Of {a : Value} {L : List Rl} {H : AHeap} (ha : Rules H a L) (hC : Cut Try.prog H a 2) (hR : Right L) (hL : L.length ≤ 512) : Gives (cw Try.prog (tabF tab) om1 42 [a] H) fun v H' => Ext H H' ∧ ∃ (t b : Nat) (vr : Value) (N : List Nd), v = .tuple ⟨[.pointer (some ⟨t, 0, none⟩), .int .i64 0]⟩ ∧ TS H.n H' t b vr N (L.map (·.2)) ∧ Fits (paths L) N ∧ RF (fnd L) (paths L) N ∧ (∀ q, q ∉ paths L → fnd L q = -1) := by
  rw [cw_run (F := F_trie_Of) rfl rfl rfl]
  unfold F_trie_Of k_trie_Of
  obtain ⟨v, H1, c1, x1, rfl⟩ := c_Check ha hC
  have hk := chk_right hR hL L.length 0 (by omega)
  rw [List.drop_zero] at hk
  rw [hk] at c1
  have hx2 := Ext.push H1 ⟨nd ⟨0, 0, 0, -1⟩, 88, .tip, 0, []⟩
  have hx3 := Ext.push (H1.push ⟨nd ⟨0, 0, 0, -1⟩, 88, .tip, 0, []⟩) ⟨[.slice (some ⟨H1.n, 0, none⟩) 1 2, .slice none 0 0], 91, .tip, 0, []⟩
  have hbx : vBox (.agg ⟨[.slice (some ⟨H1.n, 0, none⟩) 1 2, .slice none 0 0]⟩) 91 (H1.push ⟨nd ⟨0, 0, 0, -1⟩, 88, .tip, 0, []⟩) = some (.pointer (some ⟨H1.n + 1, 0, none⟩), (H1.push ⟨nd ⟨0, 0, 0, -1⟩, 88, .tip, 0, []⟩).push ⟨[.slice (some ⟨H1.n, 0, none⟩) 1 2, .slice none 0 0], 91, .tip, 0, []⟩) := by
    have := v_box (H := H1.push ⟨nd ⟨0, 0, 0, -1⟩, 88, .tip, 0, []⟩) (v := .agg ⟨[.slice (some ⟨H1.n, 0, none⟩) 1 2, .slice none 0 0]⟩) (el := 91) rfl
    rw [AHeap.n_push] at this
    exact this
  have hnn := x1.1
  have hT : TS H.n ((H1.push ⟨nd ⟨0, 0, 0, -1⟩, 88, .tip, 0, []⟩).push ⟨[.slice (some ⟨H1.n, 0, none⟩) 1 2, .slice none 0 0], 91, .tip, 0, []⟩) (H1.n + 1) H1.n (.slice none 0 0) [⟨0, 0, 0, -1⟩] [] := by
    refine ⟨by omega, by omega, by omega, by decide, by decide, ⟨0, ?_⟩, ⟨0, [], ?_, fun a ha => by cases ha⟩, ⟨[], ⟨rfl, .inl ⟨rfl, rfl⟩⟩, fun k o ho => by simp at ho⟩, trivial, trivial, trivial⟩
    · have := get_push_self (H := H1.push ⟨nd ⟨0, 0, 0, -1⟩, 88, .tip, 0, []⟩) (b := ⟨[.slice (some ⟨H1.n, 0, none⟩) 1 2, .slice none 0 0], 91, .tip, 0, []⟩)
      rw [AHeap.n_push] at this
      exact this
    · exact hx3.get get_push_self
  obtain ⟨y, e', H', r1, rfl, r3, r4, b', vr', N', q1, q2, q3, q4, q5⟩ := l_Of ha hR hL L.length 0 _ _ _ _ (by omega) ((x1.trans hx2).trans hx3) hT fits0 (fun j x p hj hp => by
    have hj0 : j = 0 := by have := (List.getElem?_eq_some_iff.1 hj).1; simp at this; exact this
    subst hj0
    simp [paths] at hj hp
    subst hj hp
    rfl) (fun q _ => rfl) (by simp)
  have z : ((0 : Int) ≠ 0) = False := by simp
  simp only [Int.cast_ofNat_Int] at r1
  have hl := ha.len (H2 := (H1.push ⟨nd ⟨0, 0, 0, -1⟩, 88, .tip, 0, []⟩).push ⟨[.slice (some ⟨H1.n, 0, none⟩) 1 2, .slice none 0 0], 91, .tip, 0, []⟩)
  simp only [WA, isStore, isCall, isK, freshI, stampO, List.nil_append, Option.map_some, Option.map_none, Option.bind_some, List.map_cons, List.map_nil, if_true, if_false, Nat.reduceEqDiff, Int.reduceEq, Nat.reduceAdd, Nat.reduceMul, reduceCtorEq, eq_self, Int.reduceLT, Int.reduceLE, Int.reduceToNat, List.length_cons, List.length_nil, List.all_cons, List.all_nil, List.take_zero, List.drop_nil, List.append_nil, List.getElem?_cons_zero, List.getElem?_cons_succ, List.drop_succ_cons, List.drop_zero, List.take_succ_cons, List.cons_append, Nat.reduceLeDiff, Int.cast_ofNat_Int, c1, z, v_root, v_root1, v_trie, hbx, hl]
  rw [w_enter]
  simp only [WA, isStore, isCall, isK, freshI, stampO, List.nil_append, Option.map_some, Option.map_none, Option.bind_some, List.map_cons, List.map_nil, if_true, if_false, Nat.reduceEqDiff, Int.reduceEq, Nat.reduceAdd, Nat.reduceMul, reduceCtorEq, eq_self, Int.reduceLT, Int.reduceLE, Int.reduceToNat, List.length_cons, List.length_nil, List.all_cons, List.all_nil, List.take_zero, List.drop_nil, List.append_nil, List.getElem?_cons_zero, List.getElem?_cons_succ, List.drop_succ_cons, List.drop_zero, List.take_succ_cons, List.cons_append, Nat.reduceLeDiff, Int.cast_ofNat_Int, r1, r3]
  exact ⟨r4, _, b', vr', N', rfl, q1, q2, q3, q4⟩
end Go.Proofs.Ytgonfmpmdahmcaa

/-! The longest rule that units begin with. -/
set_option linter.unusedSimpArgs false
set_option linter.unusedVariables false
namespace Go.Proofs.Ytgonfmpmdahmcaa
open Go Lon
def kidAt (N : List Nd) (m : Nat) : Int := match N[m]? with | some x => x.kid | none => 0
def ruleAt (N : List Nd) (m : Nat) : Int := match N[m]? with | some x => x.rule | none => -1
/-- From a node: the longest rule, its units, and whether more may come. -/
def lonF (N : List Nd) (P : List (List Int)) : List Int → Nat → Int → Nat → List Int → Nat → Int × Nat × Bool
  | [], _, k, n, _, m => (k, n, !decide (kidAt N m = 0))
  | u :: us, i, k, n, p, m => match pickU N u (kidsOf P p) with
    | none => (k, n, false)
    | some j => if ruleAt N j ≥ 0 then lonF N P us (i + 1) (ruleAt N j) (i + 1) (p ++ [u]) j else lonF N P us (i + 1) k n (p ++ [u]) j
theorem l_Long {t : Nat} {N : List Nd} {vr b : Value} {P : List (List Int)} {us : List Int} {H : AHeap} (hT : TrieAt H t N vr) (hF : Fits P N) (hb : Ints H b us) (hs : tiny us) : ∀ (c i : Nat) (k : Int) (n : Nat) (p : List Int) (m : Nat), i + c = us.length → P[m]? = some p →
    Out (run Try.prog (tabF tab) om1 (.loop [0, 7, 8, 9, 15, 16, 17] b_trie_Trie__Longest_0) [(0, .pointer (some ⟨t, 0, none⟩)), (7, .int .i64 k), (8, .int .i64 n), (9, .int .i64 m), (15, b), (16, .int .i64 us.length), (17, .int .i64 i)] H) fun y e' H' => H' = H ∧
      ((y = .ret ∧ eget e' 4 = .int .i64 (lonF N P (us.drop i) i k n p m).1 ∧ eget e' 5 = .int .i64 (lonF N P (us.drop i) i k n p m).2.1 ∧ (lonF N P (us.drop i) i k n p m).2.2 = false ∧ eget e' 6 = .bool false) ∨
       (y = .exit 0 ∧ ∃ (m' : Nat) (x : Nd), N[m']? = some x ∧ eget e' 0 = .pointer (some ⟨t, 0, none⟩) ∧ eget e' 7 = .int .i64 (lonF N P (us.drop i) i k n p m).1 ∧ eget e' 8 = .int .i64 (lonF N P (us.drop i) i k n p m).2.1 ∧ eget e' 9 = .int .i64 m' ∧ (lonF N P (us.drop i) i k n p m).2.2 = !decide (x.kid = 0))) := by
  intro c
  unfold tiny at hs
  induction c with
  | zero =>
    intro i k n p m hi hp
    have hlt : ¬ ((i : Int) < us.length) := by omega
    have hml : m < N.length := by rw [hF.len]; exact (List.getElem?_eq_some_iff.1 hp).1
    rw [w_loop_b b_trie_Trie__Longest_0.eq_1, List.drop_of_length_le (by omega)]
    simp only [WA, isStore, isCall, isK, freshI, stampO, List.nil_append, Option.map_some, Option.map_none, Option.bind_some, List.map_cons, List.map_nil, if_true, if_false, Nat.reduceEqDiff, Int.reduceEq, Nat.reduceAdd, Nat.reduceMul, reduceCtorEq, eq_self, Int.reduceLT, Int.reduceLE, Int.reduceToNat, List.length_cons, List.length_nil, List.all_cons, List.all_nil, List.take_zero, List.drop_nil, List.append_nil, List.getElem?_cons_zero, List.getElem?_cons_succ, List.drop_succ_cons, List.drop_zero, List.take_succ_cons, List.cons_append, Nat.reduceLeDiff, Int.cast_ofNat_Int, hlt, lonF]
    refine .inr ⟨m, N[m], List.getElem?_eq_getElem hml, rfl, ?_⟩
    simp [kidAt, List.getElem?_eq_getElem hml]
  | succ c ih =>
    intro i k n p m hi hp
    have hlt : (i : Int) < us.length := by omega
    obtain ⟨u, hu, hdu⟩ := drop_at (L := us) (i := i) (by omega)
    obtain ⟨i1, o1, h1, h2⟩ := hb.at hu
    have hw2 : IntKind.i64.wrap ((i : Int) + 1) = ((i + 1 : Nat) : Int) := by rw [wrap64 (by omega) (by omega)]; omega
    have hml : m < N.length := by rw [hF.len]; exact (List.getElem?_eq_some_iff.1 hp).1
    have hxm := List.getElem?_eq_getElem hml
    have cS := c_Step (u := u) hT hxm (hF.chain hxm hp)
    rw [w_loop_b b_trie_Trie__Longest_0.eq_1, hdu]
    unfold lonF
    cases hpk : pickU N u (kidsOf P p) with
    | none =>
      rw [hpk] at cS
      simp only at cS
      simp only [WA, isStore, isCall, isK, freshI, stampO, List.nil_append, Option.map_some, Option.map_none, Option.bind_some, List.map_cons, List.map_nil, if_true, if_false, Nat.reduceEqDiff, Int.reduceEq, Nat.reduceAdd, Nat.reduceMul, reduceCtorEq, eq_self, Int.reduceLT, Int.reduceLE, Int.reduceToNat, List.length_cons, List.length_nil, List.all_cons, List.all_nil, List.take_zero, List.drop_nil, List.append_nil, List.getElem?_cons_zero, List.getElem?_cons_succ, List.drop_succ_cons, List.drop_zero, List.take_succ_cons, List.cons_append, Nat.reduceLeDiff, Int.cast_ofNat_Int, hlt, h1, h2, cS]
      first | done | simp
    | some j =>
      rw [hpk] at cS
      simp only at cS
      have hpj := (pick_iff hF).1 hpk
      have hjl : j < N.length := by rw [hF.len]; exact (List.getElem?_eq_some_iff.1 hpj).1
      have hxj := List.getElem?_eq_getElem hjl
      have cR := c_Rule hT hxj
      have hrj : ruleAt N j = N[j].rule := by unfold ruleAt; rw [hxj]
      simp only [hrj]
      by_cases hr : N[j].rule ≥ 0
      · rw [if_pos hr]
        obtain ⟨y, e', H', r1, r2, r3⟩ := ih (i + 1) N[j].rule (i + 1) (p ++ [u]) j (by omega) hpj
        simp only [WA, isStore, isCall, isK, freshI, stampO, List.nil_append, Option.map_some, Option.map_none, Option.bind_some, List.map_cons, List.map_nil, if_true, if_false, Nat.reduceEqDiff, Int.reduceEq, Nat.reduceAdd, Nat.reduceMul, reduceCtorEq, eq_self, Int.reduceLT, Int.reduceLE, Int.reduceToNat, List.length_cons, List.length_nil, List.all_cons, List.all_nil, List.take_zero, List.drop_nil, List.append_nil, List.getElem?_cons_zero, List.getElem?_cons_succ, List.drop_succ_cons, List.drop_zero, List.take_succ_cons, List.cons_append, Nat.reduceLeDiff, Int.cast_ofNat_Int, hlt, h1, h2, cS, cR, hr, hw2]
        rw [w_enter]
        simp only [WA, isStore, isCall, isK, freshI, stampO, List.nil_append, Option.map_some, Option.map_none, Option.bind_some, List.map_cons, List.map_nil, if_true, if_false, Nat.reduceEqDiff, Int.reduceEq, Nat.reduceAdd, Nat.reduceMul, reduceCtorEq, eq_self, Int.reduceLT, Int.reduceLE, Int.reduceToNat, List.length_cons, List.length_nil, List.all_cons, List.all_nil, List.take_zero, List.drop_nil, List.append_nil, List.getElem?_cons_zero, List.getElem?_cons_succ, List.drop_succ_cons, List.drop_zero, List.take_succ_cons, List.cons_append, Nat.reduceLeDiff, Int.cast_ofNat_Int, r1]
        exact ⟨r2, r3⟩
      · rw [if_neg hr]
        obtain ⟨y, e', H', r1, r2, r3⟩ := ih (i + 1) k n (p ++ [u]) j (by omega) hpj
        simp only [WA, isStore, isCall, isK, freshI, stampO, List.nil_append, Option.map_some, Option.map_none, Option.bind_some, List.map_cons, List.map_nil, if_true, if_false, Nat.reduceEqDiff, Int.reduceEq, Nat.reduceAdd, Nat.reduceMul, reduceCtorEq, eq_self, Int.reduceLT, Int.reduceLE, Int.reduceToNat, List.length_cons, List.length_nil, List.all_cons, List.all_nil, List.take_zero, List.drop_nil, List.append_nil, List.getElem?_cons_zero, List.getElem?_cons_succ, List.drop_succ_cons, List.drop_zero, List.take_succ_cons, List.cons_append, Nat.reduceLeDiff, Int.cast_ofNat_Int, hlt, h1, h2, cS, cR, hr, hw2]
        rw [w_enter]
        simp only [WA, isStore, isCall, isK, freshI, stampO, List.nil_append, Option.map_some, Option.map_none, Option.bind_some, List.map_cons, List.map_nil, if_true, if_false, Nat.reduceEqDiff, Int.reduceEq, Nat.reduceAdd, Nat.reduceMul, reduceCtorEq, eq_self, Int.reduceLT, Int.reduceLE, Int.reduceToNat, List.length_cons, List.length_nil, List.all_cons, List.all_nil, List.take_zero, List.drop_nil, List.append_nil, List.getElem?_cons_zero, List.getElem?_cons_succ, List.drop_succ_cons, List.drop_zero, List.take_succ_cons, List.cons_append, Nat.reduceLeDiff, Int.cast_ofNat_Int, r1]
        exact ⟨r2, r3⟩
def lon (N : List Nd) (P : List (List Int)) (us : List Int) : Int × Nat × Bool := lonF N P us 0 (-1) 0 [] 0
theorem c_Long {t : Nat} {N : List Nd} {vr b : Value} {P : List (List Int)} {us : List Int} {H : AHeap} (hT : TrieAt H t N vr) (hF : Fits P N) (hb : Ints H b us) (hs : tiny us) :
    cw Try.prog (tabF tab) om1 45 [.pointer (some ⟨t, 0, none⟩), b] H = some (.tuple ⟨[.int .i64 (lon N P us).1, .int .i64 (lon N P us).2.1, .bool (lon N P us).2.2]⟩, H) := by
  rw [cw_run (F := F_trie_Trie__Longest) rfl rfl rfl]
  unfold F_trie_Trie__Longest k_trie_Trie__Longest
  obtain ⟨y, e', H', r1, rfl, r3⟩ := l_Long hT hF hb hs us.length 0 (-1) 0 [] 0 (by omega) hF.root
  have hl := hb.len (H2 := H')
  simp only [Int.cast_ofNat_Int] at r1
  simp only [WA, isStore, isCall, isK, freshI, stampO, List.nil_append, Option.map_some, Option.map_none, Option.bind_some, List.map_cons, List.map_nil, if_true, if_false, Nat.reduceEqDiff, Int.reduceEq, Nat.reduceAdd, Nat.reduceMul, reduceCtorEq, eq_self, Int.reduceLT, Int.reduceLE, Int.reduceToNat, List.length_cons, List.length_nil, List.all_cons, List.all_nil, List.take_zero, List.drop_nil, List.append_nil, List.getElem?_cons_zero, List.getElem?_cons_succ, List.drop_succ_cons, List.drop_zero, List.take_succ_cons, List.cons_append, Nat.reduceLeDiff, Int.cast_ofNat_Int, hl]
  rw [w_enter]
  simp only [WA, isStore, isCall, isK, freshI, stampO, List.nil_append, Option.map_some, Option.map_none, Option.bind_some, List.map_cons, List.map_nil, if_true, if_false, Nat.reduceEqDiff, Int.reduceEq, Nat.reduceAdd, Nat.reduceMul, reduceCtorEq, eq_self, Int.reduceLT, Int.reduceLE, Int.reduceToNat, List.length_cons, List.length_nil, List.all_cons, List.all_nil, List.take_zero, List.drop_nil, List.append_nil, List.getElem?_cons_zero, List.getElem?_cons_succ, List.drop_succ_cons, List.drop_zero, List.take_succ_cons, List.cons_append, Nat.reduceLeDiff, Int.cast_ofNat_Int, r1]
  rw [List.drop_zero] at r3
  unfold lon
  rcases r3 with ⟨rfl, r4, r5, r6, r7⟩ | ⟨rfl, m', x, hx, r0, r4, r5, r6, r7⟩
  · simp only [WA, isStore, isCall, isK, freshI, stampO, List.nil_append, Option.map_some, Option.map_none, Option.bind_some, List.map_cons, List.map_nil, if_true, if_false, Nat.reduceEqDiff, Int.reduceEq, Nat.reduceAdd, Nat.reduceMul, reduceCtorEq, eq_self, Int.reduceLT, Int.reduceLE, Int.reduceToNat, List.length_cons, List.length_nil, List.all_cons, List.all_nil, List.take_zero, List.drop_nil, List.append_nil, List.getElem?_cons_zero, List.getElem?_cons_succ, List.drop_succ_cons, List.drop_zero, List.take_succ_cons, List.cons_append, Nat.reduceLeDiff, Int.cast_ofNat_Int, r4, r5, r6, r7]
  · have cL := c_Leaf hT hx
    simp only [WA, isStore, isCall, isK, freshI, stampO, List.nil_append, Option.map_some, Option.map_none, Option.bind_some, List.map_cons, List.map_nil, if_true, if_false, Nat.reduceEqDiff, Int.reduceEq, Nat.reduceAdd, Nat.reduceMul, reduceCtorEq, eq_self, Int.reduceLT, Int.reduceLE, Int.reduceToNat, List.length_cons, List.length_nil, List.all_cons, List.all_nil, List.take_zero, List.drop_nil, List.append_nil, List.getElem?_cons_zero, List.getElem?_cons_succ, List.drop_succ_cons, List.drop_zero, List.take_succ_cons, List.cons_append, Nat.reduceLeDiff, Int.cast_ofNat_Int, r0, r4, r5, r6, cL, r7]
theorem lonF_le {N : List Nd} {P : List (List Int)} : ∀ {us : List Int} {i : Nat} {k : Int} {n : Nat} {p : List Int} {m : Nat}, n ≤ i → (lonF N P us i k n p m).2.1 ≤ i + us.length
  | [], i, k, n, p, m, h => by unfold lonF; simpa using h
  | u :: us, i, k, n, p, m, h => by
    unfold lonF
    split
    · simp; omega
    · rename_i j _
      split
      · have := lonF_le (N := N) (P := P) (us := us) (i := i + 1) (k := ruleAt N j) (n := i + 1) (p := p ++ [u]) (m := j) (Nat.le_refl _)
        simp; omega
      · have := lonF_le (N := N) (P := P) (us := us) (i := i + 1) (k := k) (n := n) (p := p ++ [u]) (m := j) (by omega)
        simp; omega
/-- One unit more. -/
theorem lonF_more {N : List Nd} {P : List (List Int)} (hF : Fits P N) {v : Int} : ∀ {us : List Int} {i : Nat} {k : Int} {n : Nat} {p : List Int} {m : Nat}, n ≤ i → P[m]? = some p →
    (lonF N P us i k n p m).2.1 ≤ (lonF N P (us ++ [v]) i k n p m).2.1 ∧ ((lonF N P us i k n p m).2.2 = false → lonF N P (us ++ [v]) i k n p m = lonF N P us i k n p m)
  | [], i, k, n, p, m, h, hp => by
    rw [List.nil_append]
    unfold lonF
    cases hpk : pickU N v (kidsOf P p) with
    | none => exact ⟨Nat.le_refl _, fun h => by simp only at h; simp [h]⟩
    | some j =>
      have hml : m < N.length := by rw [hF.len]; exact (List.getElem?_eq_some_iff.1 hp).1
      have hxm := List.getElem?_eq_getElem hml
      have hc := hF.chain hxm hp
      have hne : kidAt N m ≠ 0 := by
        unfold kidAt
        rw [hxm]
        unfold pickU at hpk
        have hmem := List.mem_of_find?_eq_some hpk
        cases hk : kidsOf P p with
        | nil => rw [hk] at hmem; cases hmem
        | cons a r =>
          rw [hk] at hc
          obtain ⟨h1, h2, _⟩ := hc
          simp only
          omega
      refine ⟨?_, fun h => by simp [hne] at h⟩
      simp only
      split
      · unfold lonF; simp only; omega
      · unfold lonF; exact Nat.le_refl _
  | u :: us, i, k, n, p, m, h, hp => by
    rw [List.cons_append]
    unfold lonF
    cases hpk : pickU N u (kidsOf P p) with
    | none => exact ⟨Nat.le_refl _, fun _ => rfl⟩
    | some j =>
      have hpj := (pick_iff hF).1 hpk
      simp only
      split
      · exact lonF_more hF (Nat.le_refl _) hpj
      · exact lonF_more hF (by omega) hpj
end Go.Proofs.Ytgonfmpmdahmcaa

/-! The longest rule, told by the rules alone. -/
set_option linter.unusedSimpArgs false
set_option linter.unusedVariables false
namespace Go.Proofs.Ytgonfmpmdahmcaa
open Go Lon
theorem mem_addIns : ∀ {us p : List Int} {P : List (List Int)} {q : List Int}, q ∈ addIns P p us ↔ q ∈ P ∨ ∃ a, a ≠ [] ∧ a <+: us ∧ q = p ++ a
  | [], p, P, q => by
    unfold addIns
    constructor
    · exact .inl
    · rintro (h | ⟨a, h1, h2, _⟩)
      · exact h
      · exact absurd (List.prefix_nil.1 h2) h1
  | u :: us, p, P, q => by
    unfold addIns
    rw [mem_addIns]
    constructor
    · rintro (h | ⟨a, h1, h2, rfl⟩)
      · split at h
        · exact .inl h
        · rcases List.mem_append.1 h with h | h
          · exact .inl h
          · exact .inr ⟨[u], by simp, ⟨us, rfl⟩, by simpa using h⟩
      · exact .inr ⟨u :: a, by simp, List.cons_prefix_cons.2 ⟨rfl, h2⟩, by simp⟩
    · rintro (h | ⟨a, h1, h2, rfl⟩)
      · left
        split
        · exact h
        · exact List.mem_append_left _ h
      · cases a with
        | nil => exact absurd rfl h1
        | cons v a =>
          obtain ⟨rfl, h3⟩ := List.cons_prefix_cons.1 h2
          cases a with
          | nil =>
            left
            split
            · assumption
            · simp
          | cons w a => exact .inr ⟨w :: a, by simp, h3, by simp⟩
theorem mem_pathsG : ∀ {L : List Rl} {P : List (List Int)} {q : List Int}, q ∈ L.foldl (fun P r => addIns P [] r.1) P ↔ q ∈ P ∨ ∃ r ∈ L, q ≠ [] ∧ q <+: r.1
  | [], P, q => by simp
  | r :: L, P, q => by
    rw [List.foldl_cons, mem_pathsG, mem_addIns]
    constructor
    · rintro ((h | ⟨a, h1, h2, rfl⟩) | ⟨x, h1, h2⟩)
      · exact .inl h
      · exact .inr ⟨r, List.mem_cons_self .., by simpa using h1, by simpa using h2⟩
      · exact .inr ⟨x, List.mem_cons_of_mem _ h1, h2⟩
    · rintro (h | ⟨x, h1, h2, h3⟩)
      · exact .inl (.inl h)
      · rcases List.mem_cons.1 h1 with rfl | h1
        · exact .inl (.inr ⟨q, h2, h3, rfl⟩)
        · exact .inr ⟨x, h1, h2, h3⟩
theorem mem_paths {L : List Rl} {q : List Int} : q ∈ paths L ↔ q = [] ∨ ∃ r ∈ L, q ≠ [] ∧ q <+: r.1 := by
  unfold paths
  rw [mem_pathsG, List.mem_singleton]
theorem paths_pre {L : List Rl} {p s : List Int} (h : p ++ s ∈ paths L) : p ∈ paths L := by
  rw [mem_paths] at h ⊢
  by_cases hp : p = []
  · exact .inl hp
  · rcases h with h | ⟨r, h1, h2, h3⟩
    · exact absurd (List.append_eq_nil_iff.1 h).1 hp
    · exact .inr ⟨r, h1, hp, (List.prefix_append p s).trans h3⟩
theorem paths_more {L : List Rl} {q : List Int} : (∃ u, q ++ [u] ∈ paths L) ↔ ∃ r ∈ L, q.length < r.1.length ∧ q <+: r.1 := by
  constructor
  · rintro ⟨u, h⟩
    rcases mem_paths.1 h with h | ⟨r, h1, h2, h3⟩
    · simp at h
    · refine ⟨r, h1, ?_, (List.prefix_append q [u]).trans h3⟩
      have := h3.length_le
      simp at this
      omega
  · rintro ⟨r, h1, h2, t, h3⟩
    cases t with
    | nil => rw [← h3] at h2; simp at h2
    | cons u t => exact ⟨u, mem_paths.2 (.inr ⟨r, h1, by simp, t, by rw [← h3]; simp⟩)⟩
/-- A rule's own place. -/
theorem fnd_get {L : List Rl} (hR : ∀ k r, L[k]? = some r → fnd (L.take k) r.1 < 0) {i : Nat} {r : Rl} (hr : L[i]? = some r) : ∀ (c : Nat), i + 1 + c ≤ L.length → fnd (L.take (i + 1 + c)) r.1 = i
  | 0, h => by
    have htk : L.take (i + 1) = L.take i ++ [r] := by rw [List.take_add_one, hr]; rfl
    show fnd (L.take (i + 1)) r.1 = i
    rw [htk, fnd_snoc (hR i r hr), if_pos rfl, List.length_take, Nat.min_eq_left (by omega)]
  | c + 1, h => by
    have ih := fnd_get hR hr c (by omega)
    obtain ⟨x, hx, _⟩ := drop_at (L := L) (i := i + 1 + c) (by omega)
    have htk : L.take (i + 1 + (c + 1)) = L.take (i + 1 + c) ++ [x] := by
      have : i + 1 + (c + 1) = i + 1 + c + 1 := by omega
      rw [this, List.take_add_one, hx]; rfl
    have hn := hR _ x hx
    rw [htk, fnd_snoc hn, if_neg (fun e => by rw [← e, ih] at hn; omega)]
    exact ih
theorem fnd_at {L : List Rl} (hR : ∀ k r, L[k]? = some r → fnd (L.take k) r.1 < 0) {i : Nat} {r : Rl} (hr : L[i]? = some r) : fnd L r.1 = i := by
  have hl := (List.getElem?_eq_some_iff.1 hr).1
  have := fnd_get hR hr (L.length - (i + 1)) (by omega)
  rwa [List.take_of_length_le (by omega)] at this
/-- The longest In with which units begin, its rule. -/
def Pre (L : List Rl) (q : List Int) (k : Int) (n : Nat) : Prop := n ≤ q.length ∧ (n = 0 → k = -1) ∧ (0 < n → k = fnd L (q.take n) ∧ 0 ≤ k) ∧ ∀ m, n < m → m ≤ q.length → fnd L (q.take m) < 0
theorem Pre.uniq {L : List Rl} {q : List Int} {k k' : Int} {n n' : Nat} (h : Pre L q k n) (h' : Pre L q k' n') : k = k' ∧ n = n' := by
  obtain ⟨a1, a2, a3, a4⟩ := h
  obtain ⟨b1, b2, b3, b4⟩ := h'
  rcases Nat.lt_trichotomy n n' with hlt | rfl | hlt
  · have h1 := a4 n' hlt b1
    obtain ⟨h2, h3⟩ := b3 (by omega)
    omega
  · refine ⟨?_, rfl⟩
    rcases Nat.eq_zero_or_pos n with h0 | h0
    · rw [a2 h0, b2 h0]
    · rw [(a3 h0).1, (b3 h0).1]
  · have h1 := b4 n hlt a1
    obtain ⟨h2, h3⟩ := a3 (by omega)
    omega
theorem lonF_is {L : List Rl} {N : List Nd} (hF : Fits (paths L) N) (hRF : RF (fnd L) (paths L) N) (hρ : ∀ q, q ∉ paths L → fnd L q = -1) : ∀ (us p : List Int) (k : Int) (n m : Nat), (paths L)[m]? = some p → Pre L p k n →
    Pre L (p ++ us) (lonF N (paths L) us p.length k n p m).1 (lonF N (paths L) us p.length k n p m).2.1 ∧ ((lonF N (paths L) us p.length k n p m).2.2 = true ↔ ∃ u, p ++ us ++ [u] ∈ paths L) := by
  intro us
  induction us with
  | nil =>
    intro p k n m hp hpre
    unfold lonF
    rw [List.append_nil]
    refine ⟨hpre, ?_⟩
    have hml : m < N.length := by rw [hF.len]; exact (List.getElem?_eq_some_iff.1 hp).1
    have hx := List.getElem?_eq_getElem hml
    have hc := hF.chain hx hp
    have h0 := hF.kid0 hx
    have hk : kidAt N m = N[m].kid := by unfold kidAt; rw [hx]
    simp only [hk, Bool.not_eq_true', decide_eq_false_iff_not]
    constructor
    · intro hne
      cases hkk : kidsOf (paths L) p with
      | nil =>
        rw [hkk] at hc
        have : N[m].kid ≤ 0 := hc
        omega
      | cons j r =>
        obtain ⟨u, hu⟩ := mem_kids.1 (show j ∈ kidsOf (paths L) p by rw [hkk]; exact List.mem_cons_self ..)
        exact ⟨u, List.mem_of_getElem? hu⟩
    · rintro ⟨u, hu⟩
      obtain ⟨j, hj, hju⟩ := List.getElem_of_mem hu
      have hm : j ∈ kidsOf (paths L) p := mem_kids.2 ⟨u, by rw [List.getElem?_eq_getElem hj, hju]⟩
      cases hkk : kidsOf (paths L) p with
      | nil => rw [hkk] at hm; cases hm
      | cons j r =>
        rw [hkk] at hc
        obtain ⟨h1, h2, _⟩ := hc
        omega
  | cons u us ih =>
    intro p k n m hp hpre
    unfold lonF
    have happ : p ++ u :: us = p ++ [u] ++ us := by simp
    cases hpk : pickU N u (kidsOf (paths L) p) with
    | none =>
      have hno := (pick_none hF).1 hpk
      obtain ⟨a1, a2, a3, a4⟩ := hpre
      refine ⟨⟨by simp; omega, a2, fun h => ?_, fun m' h1 h2 => ?_⟩, ?_⟩
      · rw [List.take_append_of_le_length a1]
        exact a3 h
      · rcases Nat.lt_or_ge p.length m' with hl | hl
        · have : (p ++ u :: us).take m' = p ++ [u] ++ us.take (m' - p.length - 1) := by
            rw [List.take_append, List.take_of_length_le (by omega)]
            obtain ⟨d, hd⟩ : ∃ d, m' - p.length = d + 1 := ⟨m' - p.length - 1, by omega⟩
            rw [hd]
            simp
          rw [this, hρ _ (fun hm => hno (paths_pre hm))]
          decide
        · rw [List.take_append_of_le_length hl]
          exact a4 m' h1 hl
      · simp only [Bool.false_eq_true, false_iff]
        rintro ⟨v, hv⟩
        rw [happ, List.append_assoc] at hv
        exact hno (paths_pre hv)
    | some j =>
      have hpj := (pick_iff hF).1 hpk
      have hjl : j < N.length := by rw [hF.len]; exact (List.getElem?_eq_some_iff.1 hpj).1
      have hxj := List.getElem?_eq_getElem hjl
      have hrj : ruleAt N j = fnd L (p ++ [u]) := by unfold ruleAt; rw [hxj]; exact hRF _ _ _ hxj hpj
      obtain ⟨a1, a2, a3, a4⟩ := hpre
      have hlen : (p ++ [u]).length = p.length + 1 := by simp
      rw [happ]
      simp only
      rw [hrj]
      by_cases h0 : fnd L (p ++ [u]) ≥ 0
      · rw [if_pos h0]
        have := ih (p ++ [u]) (fnd L (p ++ [u])) (p.length + 1) j hpj ⟨by omega, fun h => by omega, fun _ => ⟨by rw [List.take_of_length_le (by omega)], h0⟩, fun m' h1 h2 => by omega⟩
        rw [hlen] at this
        exact this
      · rw [if_neg h0]
        have := ih (p ++ [u]) k n j hpj ⟨by omega, a2, fun h => by rw [List.take_append_of_le_length a1]; exact a3 h, fun m' h1 h2 => by
          rcases Nat.lt_or_ge p.length m' with hl | hl
          · rw [List.take_of_length_le (by omega)]; omega
          · rw [List.take_append_of_le_length hl]; exact a4 m' h1 hl⟩
        rw [hlen] at this
        exact this
theorem lon_is {L : List Rl} {N : List Nd} (hF : Fits (paths L) N) (hRF : RF (fnd L) (paths L) N) (hρ : ∀ q, q ∉ paths L → fnd L q = -1) (us : List Int) :
    Pre L us (lon N (paths L) us).1 (lon N (paths L) us).2.1 ∧ ((lon N (paths L) us).2.2 = true ↔ ∃ r ∈ L, us.length < r.1.length ∧ us <+: r.1) := by
  have := lonF_is hF hRF hρ us [] (-1) 0 0 hF.root ⟨Nat.le_refl _, fun _ => rfl, fun h => by omega, fun m h1 h2 => by simp at h2; omega⟩
  rw [List.nil_append, paths_more] at this
  exact this
/-- The document's loop. -/
def docF (us : List Int) : List Rl → Nat → Int → Nat → Bool → Int × Nat × Bool
  | [], _, k, n, o => (k, n, o)
  | r :: L, i, k, n, o =>
    if r.1.length ≤ us.length ∧ r.1 = us.take r.1.length ∧ n < r.1.length then docF us L (i + 1) i r.1.length (o || (decide (us.length < r.1.length) && decide (r.1.take us.length = us)))
    else docF us L (i + 1) k n (o || (decide (us.length < r.1.length) && decide (r.1.take us.length = us)))
theorem pre_take {a b : List Int} : a <+: b ↔ b.take a.length = a := by
  constructor
  · rintro ⟨t, rfl⟩; simp
  · intro h; exact ⟨b.drop a.length, by have := List.take_append_drop a.length b; rw [h] at this; exact this⟩
theorem docF_is {us : List Int} : ∀ (R T : List Rl) (k : Int) (n : Nat) (o : Bool), (∀ j r, (T ++ R)[j]? = some r → fnd ((T ++ R).take j) r.1 < 0) → Pre T us k n → (o = true ↔ ∃ r ∈ T, us.length < r.1.length ∧ us <+: r.1) →
    Pre (T ++ R) us (docF us R T.length k n o).1 (docF us R T.length k n o).2.1 ∧ ((docF us R T.length k n o).2.2 = true ↔ ∃ r ∈ T ++ R, us.length < r.1.length ∧ us <+: r.1)
  | [], T, k, n, o, hR, hp, ho => by
    rw [List.append_nil]
    exact ⟨hp, ho⟩
  | r :: R, T, k, n, o, hR, hp, ho => by
    have happ : T ++ r :: R = T ++ [r] ++ R := by simp
    have hn : fnd T r.1 < 0 := by
      have := hR T.length r (by rw [List.getElem?_append_right (Nat.le_refl _), Nat.sub_self]; rfl)
      rwa [List.take_left] at this
    have hl : (T ++ [r]).length = T.length + 1 := by simp
    obtain ⟨a1, a2, a3, a4⟩ := hp
    have ho' : (o || (decide (us.length < r.1.length) && decide (r.1.take us.length = us))) = true ↔ ∃ x ∈ T ++ [r], us.length < x.1.length ∧ us <+: x.1 := by
      rw [Bool.or_eq_true, Bool.and_eq_true, decide_eq_true_eq, decide_eq_true_eq, ← pre_take, ho]
      constructor
      · rintro (⟨x, h1, h2⟩ | h)
        · exact ⟨x, List.mem_append_left _ h1, h2⟩
        · exact ⟨r, by simp, h⟩
      · rintro ⟨x, h1, h2⟩
        rcases List.mem_append.1 h1 with h1 | h1
        · exact .inl ⟨x, h1, h2⟩
        · simp at h1
          subst h1
          exact .inr h2
    rw [happ] at hR ⊢
    unfold docF
    split
    · rename_i hc
      obtain ⟨c1, c2, c3⟩ := hc
      have := docF_is R (T ++ [r]) T.length r.1.length _ hR ⟨c1, fun h => by omega, fun _ => ⟨by rw [fnd_snoc hn, if_pos c2.symm], by omega⟩, fun m h1 h2 => by
        rw [fnd_snoc hn, if_neg (fun e => by have := congrArg List.length e; rw [List.length_take] at this; omega)]
        exact a4 m (by omega) h2⟩ ho'
      rw [hl] at this
      exact this
    · rename_i hc
      have := docF_is R (T ++ [r]) k n _ hR ⟨a1, a2, fun h => by
        obtain ⟨b1, b2⟩ := a3 h
        rw [fnd_snoc hn, if_neg (fun e => by rw [e] at b1; omega)]
        exact ⟨b1, b2⟩, fun m h1 h2 => by
        rw [fnd_snoc hn, if_neg (fun e => hc (by
          have hm : r.1.length = m := by rw [← e, List.length_take]; omega
          exact ⟨by omega, by rw [hm]; exact e.symm, by omega⟩))]
        exact a4 m h1 h2⟩ ho'
      rw [hl] at this
      exact this
/-- What is read of a trie is what the document says. -/
theorem lon_doc {L : List Rl} {N : List Nd} (hR : Right L) (hF : Fits (paths L) N) (hRF : RF (fnd L) (paths L) N) (hρ : ∀ q, q ∉ paths L → fnd L q = -1) (us : List Int) : lon N (paths L) us = docF us L 0 (-1) 0 false := by
  obtain ⟨h1, h2⟩ := lon_is hF hRF hρ us
  have h0 : ∀ (q : List Int), fnd [] q = -1 := fun _ => rfl
  obtain ⟨h3, h4⟩ := docF_is (us := us) L [] (-1) 0 false (by simpa using hR.2) ⟨Nat.zero_le _, fun _ => rfl, fun h => by omega, fun m _ _ => by rw [h0]; decide⟩ (by simp)
  rw [List.nil_append] at h3 h4
  obtain ⟨e1, e2⟩ := h1.uniq h3
  have e3 : (lon N (paths L) us).2.2 = (docF us L 0 (-1) 0 false).2.2 := by
    rw [Bool.eq_iff_iff]
    exact h2.trans h4.symm
  exact Prod.ext e1 (Prod.ext e2 e3)
end Go.Proofs.Ytgonfmpmdahmcaa

/-! A trie in memory, read: what is out of range; its size; the Outs. -/
set_option linter.unusedSimpArgs false
set_option linter.unusedVariables false
namespace Go.Proofs.Ytgonfmpmdahmcaa
open Go Lon
theorem c_RuleNo {t : Nat} {N : List Nd} {vr : Value} {a : Int} {H : AHeap} (hr : TrieAt H t N vr) (ha : a < 0 ∨ a ≥ N.length) : cw Try.prog (tabF tab) om1 63 [.pointer (some ⟨t, 0, none⟩), .int .i64 a] H = some (.int .i64 (-1), H) := by
  obtain ⟨vn, hr⟩ := hr.rd
  rw [cw_run (F := F_trie_Trie__Rule) rfl rfl rfl]
  unfold F_trie_Trie__Rule k_trie_Trie__Rule
  have hl := hr.len H
  have hn := hr.nodes
  by_cases h1 : a < 0
  · simp only [WA, isStore, isCall, isK, freshI, stampO, List.nil_append, Option.map_some, Option.map_none, Option.bind_some, List.map_cons, List.map_nil, if_true, if_false, Nat.reduceEqDiff, Int.reduceEq, Nat.reduceAdd, Nat.reduceMul, reduceCtorEq, eq_self, Int.reduceLT, Int.reduceLE, Int.reduceToNat, List.length_cons, List.length_nil, List.all_cons, List.all_nil, List.take_zero, List.drop_nil, List.append_nil, List.getElem?_cons_zero, List.getElem?_cons_succ, List.drop_succ_cons, List.drop_zero, List.take_succ_cons, List.cons_append, Nat.reduceLeDiff, Int.cast_ofNat_Int, h1]
  · have h2 : a ≥ (N.length : Int) := by omega
    simp only [WA, isStore, isCall, isK, freshI, stampO, List.nil_append, Option.map_some, Option.map_none, Option.bind_some, List.map_cons, List.map_nil, if_true, if_false, Nat.reduceEqDiff, Int.reduceEq, Nat.reduceAdd, Nat.reduceMul, reduceCtorEq, eq_self, Int.reduceLT, Int.reduceLE, Int.reduceToNat, List.length_cons, List.length_nil, List.all_cons, List.all_nil, List.take_zero, List.drop_nil, List.append_nil, List.getElem?_cons_zero, List.getElem?_cons_succ, List.drop_succ_cons, List.drop_zero, List.take_succ_cons, List.cons_append, Nat.reduceLeDiff, Int.cast_ofNat_Int, h1, hn, hl, h2]
theorem c_LeafNo {t : Nat} {N : List Nd} {vr : Value} {a : Int} {H : AHeap} (hr : TrieAt H t N vr) (ha : a < 0 ∨ a ≥ N.length) : cw Try.prog (tabF tab) om1 64 [.pointer (some ⟨t, 0, none⟩), .int .i64 a] H = some (.bool true, H) := by
  obtain ⟨vn, hr⟩ := hr.rd
  rw [cw_run (F := F_trie_Trie__Leaf) rfl rfl rfl]
  unfold F_trie_Trie__Leaf k_trie_Trie__Leaf
  have hl := hr.len H
  have hn := hr.nodes
  by_cases h1 : a < 0
  · simp only [WA, isStore, isCall, isK, freshI, stampO, List.nil_append, Option.map_some, Option.map_none, Option.bind_some, List.map_cons, List.map_nil, if_true, if_false, Nat.reduceEqDiff, Int.reduceEq, Nat.reduceAdd, Nat.reduceMul, reduceCtorEq, eq_self, Int.reduceLT, Int.reduceLE, Int.reduceToNat, List.length_cons, List.length_nil, List.all_cons, List.all_nil, List.take_zero, List.drop_nil, List.append_nil, List.getElem?_cons_zero, List.getElem?_cons_succ, List.drop_succ_cons, List.drop_zero, List.take_succ_cons, List.cons_append, Nat.reduceLeDiff, Int.cast_ofNat_Int, h1]
  · have h2 : a ≥ (N.length : Int) := by omega
    simp only [WA, isStore, isCall, isK, freshI, stampO, List.nil_append, Option.map_some, Option.map_none, Option.bind_some, List.map_cons, List.map_nil, if_true, if_false, Nat.reduceEqDiff, Int.reduceEq, Nat.reduceAdd, Nat.reduceMul, reduceCtorEq, eq_self, Int.reduceLT, Int.reduceLE, Int.reduceToNat, List.length_cons, List.length_nil, List.all_cons, List.all_nil, List.take_zero, List.drop_nil, List.append_nil, List.getElem?_cons_zero, List.getElem?_cons_succ, List.drop_succ_cons, List.drop_zero, List.take_succ_cons, List.cons_append, Nat.reduceLeDiff, Int.cast_ofNat_Int, h1, hn, hl, h2]
theorem app_nil2 {H : AHeap} {x : Value} {l : List Int} {el : TypeId} (hx : Ints H x l) (hb : l.length * 8 ≤ 140737488355328) :
    ∃ v H', appendA H (.slice none 0 0) x el 1 8 = some (v, H') ∧ Ext H H' ∧ Ints H' v l ∧ From H.n v ∧ ((Try.prog.info? el).map (·.size) = some 1 → Cut Try.prog H' v 1) := by
  by_cases hl : 0 < l.length
  · obtain ⟨c, h⟩ := app_new (el := el) hx hb hl
    exact ⟨_, _, h, Ext.push _ _, Sl.new get_push_self mem_tip (by simp [ints]), Nat.le_refl _, fun he => Cut.new get_push_self he⟩
  · have h0 : l.length = 0 := by omega
    have h1 : l = [] := List.length_eq_zero_iff.1 h0
    subst h1
    refine ⟨.slice none 0 0, H, ?_, Ext.refl _, Sl.nil H 1, trivial, fun _ => trivial⟩
    obtain ⟨⟨a, c, rfl⟩, hc⟩ := hx
    have h2 : cellsOf H 1 (.slice none 0 0) = some [] := rfl
    unfold appendA
    simp only [h2, hc]
    exact if_pos List.length_nil
/-- A rule's Out, as the trie holds it. -/
theorem c_Out {t i : Nat} {N : List Nd} {vr : Value} {O : List (List Int)} {o : List Int} {H : AHeap} (hr : TrieAt H t N vr) (hO : Rules H vr (O.map fun o => ([], o))) (ho : O[i]? = some o) (hb : o.length * 8 ≤ 140737488355328) :
    Gives (cw Try.prog (tabF tab) om1 69 [.pointer (some ⟨t, 0, none⟩), .int .i64 (i : Int)] H) fun v H' => Ext H H' ∧ Ints H' v o ∧ From H.n v ∧ Cut Try.prog H' v 1 := by
  obtain ⟨vn, hr⟩ := hr.rd
  rw [cw_run (F := F_trie_Trie__Out) rfl rfl rfl]
  unfold F_trie_Trie__Out k_trie_Trie__Out
  have hl := hO.len (H2 := H)
  rw [List.length_map] at hl
  have hk := (List.getElem?_eq_some_iff.1 ho).1
  have hn := hr.rules
  have hn' := hr.rules'
  have h1 : ¬ (i : Int) < 0 := by omega
  have h2 : ¬ (i : Int) ≥ (O.length : Int) := by omega
  obtain ⟨i1, o1, vi, vo, a1, a2, a3, a4, a5, a6, _⟩ := hO.at (show (O.map fun o => (([], o) : Rl))[i]? = some ([], o) by rw [List.getElem?_map, ho]; rfl)
  obtain ⟨v, H', g1, g2, g3, g4, g5⟩ := app_nil2 (el := 3) a6 hb
  simp only [WA, isStore, isCall, isK, freshI, stampO, List.nil_append, Option.map_some, Option.map_none, Option.bind_some, List.map_cons, List.map_nil, if_true, if_false, Nat.reduceEqDiff, Int.reduceEq, Nat.reduceAdd, Nat.reduceMul, reduceCtorEq, eq_self, Int.reduceLT, Int.reduceLE, Int.reduceToNat, List.length_cons, List.length_nil, List.all_cons, List.all_nil, List.take_zero, List.drop_nil, List.append_nil, List.getElem?_cons_zero, List.getElem?_cons_succ, List.drop_succ_cons, List.drop_zero, List.take_succ_cons, List.cons_append, Nat.reduceLeDiff, Int.cast_ofNat_Int, h1, hn, hn', hl, h2, a1, a3, g1]
  exact ⟨g2, g3, g4, g5 (by kernel_rfl)⟩
theorem c_OutNo {t : Nat} {N : List Nd} {vr : Value} {O : List (List Int)} {a : Int} {H : AHeap} (hr : TrieAt H t N vr) (hO : Rules H vr (O.map fun o => ([], o))) (ha : a < 0 ∨ a ≥ O.length) :
    cw Try.prog (tabF tab) om1 69 [.pointer (some ⟨t, 0, none⟩), .int .i64 a] H = some (.slice none 0 0, H) := by
  obtain ⟨vn, hr⟩ := hr.rd
  rw [cw_run (F := F_trie_Trie__Out) rfl rfl rfl]
  unfold F_trie_Trie__Out k_trie_Trie__Out
  have hl := hO.len (H2 := H)
  rw [List.length_map] at hl
  have hn := hr.rules
  have hn' := hr.rules'
  by_cases h1 : a < 0
  · simp only [WA, isStore, isCall, isK, freshI, stampO, List.nil_append, Option.map_some, Option.map_none, Option.bind_some, List.map_cons, List.map_nil, if_true, if_false, Nat.reduceEqDiff, Int.reduceEq, Nat.reduceAdd, Nat.reduceMul, reduceCtorEq, eq_self, Int.reduceLT, Int.reduceLE, Int.reduceToNat, List.length_cons, List.length_nil, List.all_cons, List.all_nil, List.take_zero, List.drop_nil, List.append_nil, List.getElem?_cons_zero, List.getElem?_cons_succ, List.drop_succ_cons, List.drop_zero, List.take_succ_cons, List.cons_append, Nat.reduceLeDiff, Int.cast_ofNat_Int, h1]
  · have h2 : a ≥ (O.length : Int) := by omega
    simp only [WA, isStore, isCall, isK, freshI, stampO, List.nil_append, Option.map_some, Option.map_none, Option.bind_some, List.map_cons, List.map_nil, if_true, if_false, Nat.reduceEqDiff, Int.reduceEq, Nat.reduceAdd, Nat.reduceMul, reduceCtorEq, eq_self, Int.reduceLT, Int.reduceLE, Int.reduceToNat, List.length_cons, List.length_nil, List.all_cons, List.all_nil, List.take_zero, List.drop_nil, List.append_nil, List.getElem?_cons_zero, List.getElem?_cons_succ, List.drop_succ_cons, List.drop_zero, List.take_succ_cons, List.cons_append, Nat.reduceLeDiff, Int.cast_ofNat_Int, h1, hn, hn', hl, h2]
end Go.Proofs.Ytgonfmpmdahmcaa

/-! The document's longest rule. -/
set_option linter.unusedSimpArgs false
set_option linter.unusedVariables false
namespace Go.Proofs.Ytgonfmpmdahmcaa
open Go Lon
set_option maxRecDepth 100000
theorem l_Doc {a b : Value} {us : List Int} {L : List Rl} (hL : L.length < 1000000) (hus : tiny us) : ∀ (c i : Nat) (H : AHeap) (k : Int) (n : Nat) (o : Bool), i + c = L.length → Rules H a L → CutR H a → Ints H b us → Cut Try.prog H b 1 →
    Out (run Try.prog (tabF tab) om1 (.loop [1, 7, 8, 9, 12, 13, 14] b_lontarlaw04_Longest_0) [(1, b), (7, .int .i64 k), (8, .int .i64 n), (9, .bool o), (12, a), (13, .int .i64 L.length), (14, .int .i64 i)] H) fun y e' H' => y = .exit 0 ∧ Ext H H' ∧ eget e' 7 = .int .i64 (docF us (L.drop i) i k n o).1 ∧ eget e' 8 = .int .i64 (docF us (L.drop i) i k n o).2.1 ∧ eget e' 9 = .bool (docF us (L.drop i) i k n o).2.2 := by
  intro c
  induction c with
  | zero =>
    intro i H k n o hi ha hac hb hbc
    have hlt : ¬ ((i : Int) < L.length) := by omega
    rw [w_loop_b b_lontarlaw04_Longest_0.eq_1, List.drop_of_length_le (by omega)]
    simp only [WA, isStore, isCall, isK, freshI, stampO, List.nil_append, Option.map_some, Option.map_none, Option.bind_some, List.map_cons, List.map_nil, if_true, if_false, Nat.reduceEqDiff, Int.reduceEq, Nat.reduceAdd, Nat.reduceMul, reduceCtorEq, eq_self, Int.reduceLT, Int.reduceLE, Int.reduceToNat, List.length_cons, List.length_nil, List.all_cons, List.all_nil, List.take_zero, List.drop_nil, List.append_nil, List.getElem?_cons_zero, List.getElem?_cons_succ, List.drop_succ_cons, List.drop_zero, List.take_succ_cons, List.cons_append, Nat.reduceLeDiff, Int.cast_ofNat_Int, hlt, docF]
    exact Ext.refl _
  | succ c ih =>
    intro i H k n o hi ha hac hb hbc
    have hlt : (i : Int) < L.length := by omega
    obtain ⟨r, hr, hdr⟩ := drop_at (L := L) (i := i) (by omega)
    obtain ⟨i1, o1, vi, vo, h1, h2, h3, h4, h5, h6, h7, h8, h9, h10⟩ := Rules.atC ha hac hr
    have h5' := h5
    have h6' := h6
    obtain ⟨⟨ai, ci, rfl⟩, _⟩ := h5'
    obtain ⟨⟨ao, co, rfl⟩, _⟩ := h6'
    have hx1 := Ext.push H ⟨[.slice ai r.1.length ci, .slice ao r.2.length co], 46, .tip, 1, []⟩
    obtain ⟨H1, hH1⟩ : ∃ H1, H1 = H.push ⟨[.slice ai r.1.length ci, .slice ao r.2.length co], 46, .tip, 1, []⟩ := ⟨_, rfl⟩
    have hg1 : H1.get H.n = some ⟨[.slice ai r.1.length ci, .slice ao r.2.length co], 46, .tip, 1, []⟩ := by rw [hH1]; exact get_push_self
    have hw2 : IntKind.i64.wrap ((i : Int) + 1) = ((i + 1 : Nat) : Int) := by rw [wrap64 (by omega) (by omega)]; omega
    have hlr : ∀ H2 : AHeap, vLen false (.slice ai r.1.length ci) H2 = some (.int .i64 r.1.length, H2) := fun H2 => Sl.len h5
    have hlb : ∀ H2 : AHeap, vLen false b H2 = some (.int .i64 us.length, H2) := fun H2 => Sl.len hb
    rw [w_loop_b b_lontarlaw04_Longest_0.eq_1, hdr]
    unfold docF
    rw [← hH1] at hx1
    by_cases hle : r.1.length ≤ us.length
    · obtain ⟨b', s1, s2, s3⟩ := (hb.ext hx1).take (hbc.ext hx1) hle
      have s1' := s1 .i64
      have cU := c_Units (h5.ext hx1) s2 h7
      have hle' : (r.1.length : Int) ≤ us.length := by omega
      have hgt : ¬ (r.1.length : Int) > us.length := by omega
      have hd : (decide (us.length < r.1.length) && decide (r.1.take us.length = us)) = false := by
        rw [decide_eq_false (by omega)]; rfl
      rw [hd, Bool.or_false]
      by_cases he : r.1 = us.take r.1.length
      · have he' : decide (r.1 = us.take r.1.length) = true := decide_eq_true he
        rw [he'] at cU
        by_cases hn : n < r.1.length
        · have hn' : (r.1.length : Int) > n := by omega
          rw [if_pos ⟨hle, he, hn⟩]
          obtain ⟨y, e', H', r1, r2, r3, r4, r5, r6⟩ := ih (i + 1) H1 i r.1.length o (by omega) (ha.ext hx1) (hac.ext hx1) (hb.ext hx1) (hbc.ext hx1)
          cases o <;>
          · simp only [WA, isStore, isCall, isK, freshI, stampO, List.nil_append, Option.map_some, Option.map_none, Option.bind_some, List.map_cons, List.map_nil, if_true, if_false, Nat.reduceEqDiff, Int.reduceEq, Nat.reduceAdd, Nat.reduceMul, reduceCtorEq, eq_self, Int.reduceLT, Int.reduceLE, Int.reduceToNat, List.length_cons, List.length_nil, List.all_cons, List.all_nil, List.take_zero, List.drop_nil, List.append_nil, List.getElem?_cons_zero, List.getElem?_cons_succ, List.drop_succ_cons, List.drop_zero, List.take_succ_cons, List.cons_append, Nat.reduceLeDiff, Int.cast_ofNat_Int, hlt, h1, h4, ← hH1, hg1, hlr, hlb, hle', s1', cU, hn', hgt, hw2]
            rw [w_enter]
            simp only [WA, isStore, isCall, isK, freshI, stampO, List.nil_append, Option.map_some, Option.map_none, Option.bind_some, List.map_cons, List.map_nil, if_true, if_false, Nat.reduceEqDiff, Int.reduceEq, Nat.reduceAdd, Nat.reduceMul, reduceCtorEq, eq_self, Int.reduceLT, Int.reduceLE, Int.reduceToNat, List.length_cons, List.length_nil, List.all_cons, List.all_nil, List.take_zero, List.drop_nil, List.append_nil, List.getElem?_cons_zero, List.getElem?_cons_succ, List.drop_succ_cons, List.drop_zero, List.take_succ_cons, List.cons_append, Nat.reduceLeDiff, Int.cast_ofNat_Int, r1]
            exact ⟨r2, hx1.trans r3, r4, r5, r6⟩
        · have hn' : ¬ (r.1.length : Int) > n := by omega
          rw [if_neg (fun h => hn h.2.2)]
          obtain ⟨y, e', H', r1, r2, r3, r4, r5, r6⟩ := ih (i + 1) H1 k n o (by omega) (ha.ext hx1) (hac.ext hx1) (hb.ext hx1) (hbc.ext hx1)
          cases o <;>
          · simp only [WA, isStore, isCall, isK, freshI, stampO, List.nil_append, Option.map_some, Option.map_none, Option.bind_some, List.map_cons, List.map_nil, if_true, if_false, Nat.reduceEqDiff, Int.reduceEq, Nat.reduceAdd, Nat.reduceMul, reduceCtorEq, eq_self, Int.reduceLT, Int.reduceLE, Int.reduceToNat, List.length_cons, List.length_nil, List.all_cons, List.all_nil, List.take_zero, List.drop_nil, List.append_nil, List.getElem?_cons_zero, List.getElem?_cons_succ, List.drop_succ_cons, List.drop_zero, List.take_succ_cons, List.cons_append, Nat.reduceLeDiff, Int.cast_ofNat_Int, hlt, h1, h4, ← hH1, hg1, hlr, hlb, hle', s1', cU, hn', hgt, hw2]
            rw [w_enter]
            simp only [WA, isStore, isCall, isK, freshI, stampO, List.nil_append, Option.map_some, Option.map_none, Option.bind_some, List.map_cons, List.map_nil, if_true, if_false, Nat.reduceEqDiff, Int.reduceEq, Nat.reduceAdd, Nat.reduceMul, reduceCtorEq, eq_self, Int.reduceLT, Int.reduceLE, Int.reduceToNat, List.length_cons, List.length_nil, List.all_cons, List.all_nil, List.take_zero, List.drop_nil, List.append_nil, List.getElem?_cons_zero, List.getElem?_cons_succ, List.drop_succ_cons, List.drop_zero, List.take_succ_cons, List.cons_append, Nat.reduceLeDiff, Int.cast_ofNat_Int, r1]
            exact ⟨r2, hx1.trans r3, r4, r5, r6⟩
      · have he' : decide (r.1 = us.take r.1.length) = false := decide_eq_false he
        rw [he'] at cU
        rw [if_neg (fun h => he h.2.1)]
        obtain ⟨y, e', H', r1, r2, r3, r4, r5, r6⟩ := ih (i + 1) H1 k n o (by omega) (ha.ext hx1) (hac.ext hx1) (hb.ext hx1) (hbc.ext hx1)
        cases o <;>
        · simp only [WA, isStore, isCall, isK, freshI, stampO, List.nil_append, Option.map_some, Option.map_none, Option.bind_some, List.map_cons, List.map_nil, if_true, if_false, Nat.reduceEqDiff, Int.reduceEq, Nat.reduceAdd, Nat.reduceMul, reduceCtorEq, eq_self, Int.reduceLT, Int.reduceLE, Int.reduceToNat, List.length_cons, List.length_nil, List.all_cons, List.all_nil, List.take_zero, List.drop_nil, List.append_nil, List.getElem?_cons_zero, List.getElem?_cons_succ, List.drop_succ_cons, List.drop_zero, List.take_succ_cons, List.cons_append, Nat.reduceLeDiff, Int.cast_ofNat_Int, hlt, h1, h4, ← hH1, hg1, hlr, hlb, hle', s1', cU, hgt, hw2]
          rw [w_enter]
          simp only [WA, isStore, isCall, isK, freshI, stampO, List.nil_append, Option.map_some, Option.map_none, Option.bind_some, List.map_cons, List.map_nil, if_true, if_false, Nat.reduceEqDiff, Int.reduceEq, Nat.reduceAdd, Nat.reduceMul, reduceCtorEq, eq_self, Int.reduceLT, Int.reduceLE, Int.reduceToNat, List.length_cons, List.length_nil, List.all_cons, List.all_nil, List.take_zero, List.drop_nil, List.append_nil, List.getElem?_cons_zero, List.getElem?_cons_succ, List.drop_succ_cons, List.drop_zero, List.take_succ_cons, List.cons_append, Nat.reduceLeDiff, Int.cast_ofNat_Int, r1]
          exact ⟨r2, hx1.trans r3, r4, r5, r6⟩
    · have hle' : ¬ (r.1.length : Int) ≤ us.length := by omega
      have hgt : (r.1.length : Int) > us.length := by omega
      rw [if_neg (fun h => hle h.1), decide_eq_true (show us.length < r.1.length by omega), Bool.true_and]
      obtain ⟨b', s1, s2, s3⟩ := (h5.ext hx1).take (h9.ext hx1) (show us.length ≤ r.1.length by omega)
      have s1' := s1 .i64
      have cU := c_Units s2 (hb.ext hx1) (by rw [List.length_take]; unfold Lon.tiny at hus; omega)
      obtain ⟨y, e', H', r1, r2, r3, r4, r5, r6⟩ := ih (i + 1) H1 k n (o || decide (r.1.take us.length = us)) (by omega) (ha.ext hx1) (hac.ext hx1) (hb.ext hx1) (hbc.ext hx1)
      cases o with
      | true =>
        simp only [Bool.true_or] at r1 r4 r5 r6 ⊢
        simp only [WA, isStore, isCall, isK, freshI, stampO, List.nil_append, Option.map_some, Option.map_none, Option.bind_some, List.map_cons, List.map_nil, if_true, if_false, Nat.reduceEqDiff, Int.reduceEq, Nat.reduceAdd, Nat.reduceMul, reduceCtorEq, eq_self, Int.reduceLT, Int.reduceLE, Int.reduceToNat, List.length_cons, List.length_nil, List.all_cons, List.all_nil, List.take_zero, List.drop_nil, List.append_nil, List.getElem?_cons_zero, List.getElem?_cons_succ, List.drop_succ_cons, List.drop_zero, List.take_succ_cons, List.cons_append, Nat.reduceLeDiff, Int.cast_ofNat_Int, hlt, h1, h4, ← hH1, hg1, hlr, hlb, hle', hw2]
        rw [w_enter]
        simp only [WA, isStore, isCall, isK, freshI, stampO, List.nil_append, Option.map_some, Option.map_none, Option.bind_some, List.map_cons, List.map_nil, if_true, if_false, Nat.reduceEqDiff, Int.reduceEq, Nat.reduceAdd, Nat.reduceMul, reduceCtorEq, eq_self, Int.reduceLT, Int.reduceLE, Int.reduceToNat, List.length_cons, List.length_nil, List.all_cons, List.all_nil, List.take_zero, List.drop_nil, List.append_nil, List.getElem?_cons_zero, List.getElem?_cons_succ, List.drop_succ_cons, List.drop_zero, List.take_succ_cons, List.cons_append, Nat.reduceLeDiff, Int.cast_ofNat_Int, r1]
        exact ⟨r2, hx1.trans r3, r4, r5, r6⟩
      | false =>
        simp only [Bool.false_or] at r1 r4 r5 r6 ⊢
        simp only [WA, isStore, isCall, isK, freshI, stampO, List.nil_append, Option.map_some, Option.map_none, Option.bind_some, List.map_cons, List.map_nil, if_true, if_false, Nat.reduceEqDiff, Int.reduceEq, Nat.reduceAdd, Nat.reduceMul, reduceCtorEq, eq_self, Int.reduceLT, Int.reduceLE, Int.reduceToNat, List.length_cons, List.length_nil, List.all_cons, List.all_nil, List.take_zero, List.drop_nil, List.append_nil, List.getElem?_cons_zero, List.getElem?_cons_succ, List.drop_succ_cons, List.drop_zero, List.take_succ_cons, List.cons_append, Nat.reduceLeDiff, Int.cast_ofNat_Int, hlt, h1, h4, ← hH1, hg1, hlr, hlb, hle', hgt, s1', cU, hw2]
        rw [w_enter]
        simp only [WA, isStore, isCall, isK, freshI, stampO, List.nil_append, Option.map_some, Option.map_none, Option.bind_some, List.map_cons, List.map_nil, if_true, if_false, Nat.reduceEqDiff, Int.reduceEq, Nat.reduceAdd, Nat.reduceMul, reduceCtorEq, eq_self, Int.reduceLT, Int.reduceLE, Int.reduceToNat, List.length_cons, List.length_nil, List.all_cons, List.all_nil, List.take_zero, List.drop_nil, List.append_nil, List.getElem?_cons_zero, List.getElem?_cons_succ, List.drop_succ_cons, List.drop_zero, List.take_succ_cons, List.cons_append, Nat.reduceLeDiff, Int.cast_ofNat_Int, r1]
        exact ⟨r2, hx1.trans r3, r4, r5, r6⟩
theorem c_Doc {a b : Value} {us : List Int} {L : List Rl} {H : AHeap} (ha : Rules H a L) (hac : CutR H a) (hb : Ints H b us) (hbc : Cut Try.prog H b 1) (hL : L.length < 1000000) (hus : tiny us) : Gives (cw Try.prog (tabF tab) om1 47 [a, b] H) fun v H' => Ext H H' ∧ v = .tuple ⟨[.int .i64 (docF us L 0 (-1) 0 false).1, .int .i64 (docF us L 0 (-1) 0 false).2.1, .bool (docF us L 0 (-1) 0 false).2.2]⟩ := by
  rw [cw_run (F := F_lontarlaw04_Longest) rfl rfl rfl]
  unfold F_lontarlaw04_Longest k_lontarlaw04_Longest
  obtain ⟨y, e', H', r1, rfl, r3, r4, r5, r6⟩ := l_Doc (a := a) hL hus L.length 0 H (-1) 0 false (by omega) ha hac hb hbc
  have hl := ha.len (H2 := H)
  rw [List.drop_zero] at r4 r5 r6
  simp only [Int.cast_ofNat_Int] at r1
  simp only [WA, isStore, isCall, isK, freshI, stampO, List.nil_append, Option.map_some, Option.map_none, Option.bind_some, List.map_cons, List.map_nil, if_true, if_false, Nat.reduceEqDiff, Int.reduceEq, Nat.reduceAdd, Nat.reduceMul, reduceCtorEq, eq_self, Int.reduceLT, Int.reduceLE, Int.reduceToNat, List.length_cons, List.length_nil, List.all_cons, List.all_nil, List.take_zero, List.drop_nil, List.append_nil, List.getElem?_cons_zero, List.getElem?_cons_succ, List.drop_succ_cons, List.drop_zero, List.take_succ_cons, List.cons_append, Nat.reduceLeDiff, Int.cast_ofNat_Int, hl]
  rw [w_enter]
  simp only [WA, isStore, isCall, isK, freshI, stampO, List.nil_append, Option.map_some, Option.map_none, Option.bind_some, List.map_cons, List.map_nil, if_true, if_false, Nat.reduceEqDiff, Int.reduceEq, Nat.reduceAdd, Nat.reduceMul, reduceCtorEq, eq_self, Int.reduceLT, Int.reduceLE, Int.reduceToNat, List.length_cons, List.length_nil, List.all_cons, List.all_nil, List.take_zero, List.drop_nil, List.append_nil, List.getElem?_cons_zero, List.getElem?_cons_succ, List.drop_succ_cons, List.drop_zero, List.take_succ_cons, List.cons_append, Nat.reduceLeDiff, Int.cast_ofNat_Int, r1, r4, r5, r6]
  exact r3
end Go.Proofs.Ytgonfmpmdahmcaa

/-! Units by numbers. -/
set_option linter.unusedSimpArgs false
set_option linter.unusedVariables false
namespace Go.Proofs.Ytgonfmpmdahmcaa
open Go Lon
def som (l : List Int) : List Int := (l.take 60).map fun u => 97 + u % 6
theorem som_len {l : List Int} : (som l).length ≤ 60 := by unfold som; rw [List.length_map, List.length_take]; omega
theorem som_map {l : List Int} {i : Nat} : (l.map fun u => 97 + u % 6).take i = (l.take i).map fun u => 97 + u % 6 := by rw [List.map_take]
theorem l_Some {a : Value} {l : List Int} {B : Nat} (hl : l.length ≤ 60) (hb : bytes l) : ∀ (k i : Nat) (H : AHeap) (out : Value), i + k = l.length → Nums H .u8 a l → Own H 3 1 out i (ints ((l.take i).map fun u => 97 + u % 6)) → From B out → B ≤ H.n →
    Out (run Try.prog (tabF tab) om1 (.loop [3, 10, 11, 12] b_lontarlaw04_Some_0) [(3, out), (10, a), (11, .int .i64 l.length), (12, .int .i64 i)] H) fun y e' H' => y = .exit 0 ∧ Own H' 3 1 (eget e' 3) l.length (ints (l.map fun u => 97 + u % 6)) ∧ From B (eget e' 3) ∧ B ≤ H'.n ∧ (∀ j, j < B → H'.get j = H.get j) := by
  intro k
  induction k with
  | zero =>
    intro i H out hi ha ho hf hB
    obtain rfl : i = l.length := by omega
    have hlt : ¬ ((l.length : Int) < l.length) := by omega
    rw [w_loop_b b_lontarlaw04_Some_0.eq_1]
    rw [List.take_length] at ho
    simp only [WA, isStore, isCall, isK, freshI, stampO, List.nil_append, Option.map_some, Option.map_none, Option.bind_some, List.map_cons, List.map_nil, if_true, if_false, Nat.reduceEqDiff, Int.reduceEq, Nat.reduceAdd, Nat.reduceMul, reduceCtorEq, eq_self, Int.reduceLT, Int.reduceLE, Int.reduceToNat, List.length_cons, List.length_nil, List.all_cons, List.all_nil, List.take_zero, List.drop_nil, List.append_nil, List.getElem?_cons_zero, List.getElem?_cons_succ, List.drop_succ_cons, List.drop_zero, List.take_succ_cons, List.cons_append, Nat.reduceLeDiff, Int.cast_ofNat_Int, hlt]
    exact ⟨ho, hf, hB, fun _ _ => trivial⟩
  | succ k ih =>
    intro i H out hi ha ho hf hB
    have hlt : (i : Int) < l.length := by omega
    obtain ⟨u, hu, hd⟩ := drop_at (L := l) (i := i) (by omega)
    obtain ⟨u1, u2⟩ := hb u (List.mem_of_getElem? hu)
    obtain ⟨i1, o1, h1, h2⟩ := ha.at hu
    have hw2 : IntKind.i64.wrap ((i : Int) + 1) = ((i + 1 : Nat) : Int) := by rw [wrap64 (by omega) (by omega)]; omega
    have q1 : intOp .rem .u8 u 6 = some (.int .u8 (u % 6)) := by rw [int_rem (by decide), Int.tmod_eq_emod_of_nonneg (by omega)]
    have q2 : IntKind.i64.wrap (u % 6) = u % 6 := wrap64 (by omega) (by omega)
    have q3 : IntKind.i64.wrap (97 + u % 6) = 97 + u % 6 := wrap64 (by omega) (by omega)
    have hx1 := Ext.push H ⟨[.int .i64 (97 + u % 6)], 3, .tip, 0, []⟩
    obtain ⟨v', H5, m1, m2, m3, m4, m5, m6⟩ := Own.append2 (bytes := 8) (m := 1) (ho.ext hx1) (Sl.new (n := 1) (c := 2) (get_push_self (H := H) (b := ⟨[.int .i64 (97 + u % 6)], 3, .tip, 0, []⟩)) mem_tip rfl) (by omega) rfl (by omega)
    have hdone : ints ((l.take i).map fun u => 97 + u % 6) ++ [.int .i64 (97 + u % 6)] = ints ((l.take (i + 1)).map fun u => 97 + u % 6) := by
      rw [List.take_add_one, hu]; simp [ints]
    rw [hdone] at m2
    obtain ⟨y, e', H', r1, r2, r4, r5, r6, r7⟩ := ih (i + 1) H5 v' (by omega) (((ha.ext hx1)).keeps m4) m2 (m3.mono (by simp; omega)) (by simp at m5; omega)
    rw [w_loop_b b_lontarlaw04_Some_0.eq_1]
    simp only [WA, isStore, isCall, isK, freshI, stampO, List.nil_append, Option.map_some, Option.map_none, Option.bind_some, List.map_cons, List.map_nil, if_true, if_false, Nat.reduceEqDiff, Int.reduceEq, Nat.reduceAdd, Nat.reduceMul, reduceCtorEq, eq_self, Int.reduceLT, Int.reduceLE, Int.reduceToNat, List.length_cons, List.length_nil, List.all_cons, List.all_nil, List.take_zero, List.drop_nil, List.append_nil, List.getElem?_cons_zero, List.getElem?_cons_succ, List.drop_succ_cons, List.drop_zero, List.take_succ_cons, List.cons_append, Nat.reduceLeDiff, Int.cast_ofNat_Int, hlt, h1, h2, q1, q2, q3, v_int1, m1, hw2]
    rw [w_enter]
    simp only [WA, isStore, isCall, isK, freshI, stampO, List.nil_append, Option.map_some, Option.map_none, Option.bind_some, List.map_cons, List.map_nil, if_true, if_false, Nat.reduceEqDiff, Int.reduceEq, Nat.reduceAdd, Nat.reduceMul, reduceCtorEq, eq_self, Int.reduceLT, Int.reduceLE, Int.reduceToNat, List.length_cons, List.length_nil, List.all_cons, List.all_nil, List.take_zero, List.drop_nil, List.append_nil, List.getElem?_cons_zero, List.getElem?_cons_succ, List.drop_succ_cons, List.drop_zero, List.take_succ_cons, List.cons_append, Nat.reduceLeDiff, Int.cast_ofNat_Int, r1]
    refine ⟨r2, r4, r5, r6, fun j hj => ?_⟩
    rw [r7 j hj, m6 j (by simp; omega) (NotAt.of_from hf hj), hx1.2 j (by omega)]
theorem c_Some {a : Value} {l : List Int} {H : AHeap} (ha : Nums H .u8 a l) (hc : Cut Try.prog H a 1) (hb : bytes l) (hs : tiny l) : Gives (cw Try.prog (tabF tab) om1 19 [a] H) fun v H' => Ext H H' ∧ Ints H' v (som l) ∧ Cut Try.prog H' v 1 := by
  rw [cw_run (F := F_lontarlaw04_Some) rfl rfl rfl]
  unfold F_lontarlaw04_Some k_lontarlaw04_Some
  obtain ⟨k, hk⟩ : ∃ k : Nat, k = min l.length 60 := ⟨_, rfl⟩
  obtain ⟨a', s1, s2, s3⟩ := ha.take hc (show k ≤ l.length by omega)
  have hmin : (if (60 : Int) < (l.length : Int) then (60 : Int) else (l.length : Int)) = (k : Int) := by split <;> omega
  have hkl : (l.take k).length = k := by simp; omega
  have hk4 : l.take 60 = l.take k := by
    subst hk
    rcases Nat.le_total l.length 60 with h | h
    · rw [Nat.min_eq_left h, List.take_of_length_le h, List.take_length]
    · rw [Nat.min_eq_right h]
  obtain ⟨y, e', H', r1, rfl, r4, r5, r6, r7⟩ := l_Some (a := a') (l := l.take k) (B := H.n) (by omega) (fun u hu => hb u (List.mem_of_mem_take hu)) (l.take k).length 0 H (.slice none 0 0) (by omega) s2 ⟨rfl, .inl ⟨rfl, rfl⟩⟩ trivial (Nat.le_refl _)
  have hl0 := ha.len (H2 := H)
  have hl1 := Nums.len s2 (H2 := H)
  rw [hkl] at hl1 r1 r4
  simp only [Int.cast_ofNat_Int] at r1
  have s1' := s1 .i64
  simp only [WA, isStore, isCall, isK, freshI, stampO, List.nil_append, Option.map_some, Option.map_none, Option.bind_some, List.map_cons, List.map_nil, if_true, if_false, Nat.reduceEqDiff, Int.reduceEq, Nat.reduceAdd, Nat.reduceMul, reduceCtorEq, eq_self, Int.reduceLT, Int.reduceLE, Int.reduceToNat, List.length_cons, List.length_nil, List.all_cons, List.all_nil, List.take_zero, List.drop_nil, List.append_nil, List.getElem?_cons_zero, List.getElem?_cons_succ, List.drop_succ_cons, List.drop_zero, List.take_succ_cons, List.cons_append, Nat.reduceLeDiff, Int.cast_ofNat_Int, hl0, hmin, s1', hl1]
  rw [w_enter]
  simp only [WA, isStore, isCall, isK, freshI, stampO, List.nil_append, Option.map_some, Option.map_none, Option.bind_some, List.map_cons, List.map_nil, if_true, if_false, Nat.reduceEqDiff, Int.reduceEq, Nat.reduceAdd, Nat.reduceMul, reduceCtorEq, eq_self, Int.reduceLT, Int.reduceLE, Int.reduceToNat, List.length_cons, List.length_nil, List.all_cons, List.all_nil, List.take_zero, List.drop_nil, List.append_nil, List.getElem?_cons_zero, List.getElem?_cons_succ, List.drop_succ_cons, List.drop_zero, List.take_succ_cons, List.cons_append, Nat.reduceLeDiff, Int.cast_ofNat_Int, r1]
  refine ⟨⟨r6, r7⟩, ?_, r4.cut (by kernel_rfl)⟩
  have := r4.sl
  unfold Ints som
  rw [hk4, List.length_map, hkl]
  exact this
end Go.Proofs.Ytgonfmpmdahmcaa

/-! A trie of rules, as those who use it see it. -/
set_option linter.unusedSimpArgs false
set_option linter.unusedVariables false
namespace Go.Proofs.Ytgonfmpmdahmcaa
open Go Lon
/-- At block t lies the trie of the rules L. -/
structure TrieOk (H : AHeap) (t : Nat) (L : List Rl) : Prop where
  right : Right L
  few : L.length ≤ 512
  rest : ∃ N vr, TrieAt H t N vr ∧ Rules H vr ((L.map (·.2)).map fun o => ([], o)) ∧ Fits (paths L) N ∧ RF (fnd L) (paths L) N ∧ ∀ q, q ∉ paths L → fnd L q = -1
theorem TrieOk.ext {H H' : AHeap} (hx : Ext H H') {t : Nat} {L : List Rl} (h : TrieOk H t L) : TrieOk H' t L := by
  obtain ⟨N, vr, h1, h2, h3⟩ := h.rest
  exact ⟨h.right, h.few, N, vr, h1.ext hx, h2.ext hx, h3⟩
/-- The longest rule that units begin with. -/
def lgs (L : List Rl) (us : List Int) : Int × Nat × Bool := docF us L 0 (-1) 0 false
theorem c_LongT {t : Nat} {L : List Rl} {b : Value} {us : List Int} {H : AHeap} (hT : TrieOk H t L) (hb : Ints H b us) (hs : tiny us) :
    cw Try.prog (tabF tab) om1 45 [.pointer (some ⟨t, 0, none⟩), b] H = some (.tuple ⟨[.int .i64 (lgs L us).1, .int .i64 (lgs L us).2.1, .bool (lgs L us).2.2]⟩, H) := by
  obtain ⟨N, vr, h1, h2, h3, h4, h5⟩ := hT.rest
  have := c_Long h1 h3 hb hs
  rw [lon_doc hT.right h3 h4 h5] at this
  exact this
theorem c_OutT {t i : Nat} {L : List Rl} {r : Rl} {H : AHeap} (hT : TrieOk H t L) (hr : L[i]? = some r) :
    Gives (cw Try.prog (tabF tab) om1 69 [.pointer (some ⟨t, 0, none⟩), .int .i64 (i : Int)] H) fun v H' => Ext H H' ∧ Ints H' v r.2 ∧ From H.n v ∧ Cut Try.prog H' v 1 := by
  obtain ⟨N, vr, h1, h2, _⟩ := hT.rest
  have h8 := side_len ((hT.right.1 r (List.mem_of_getElem? hr)).2)
  exact c_Out h1 h2 (by rw [List.getElem?_map, hr]; rfl) (by omega)
theorem c_OfT {a : Value} {L : List Rl} {H : AHeap} (ha : Rules H a L) (hC : Cut Try.prog H a 2) (hR : Right L) (hL : L.length ≤ 512) :
    Gives (cw Try.prog (tabF tab) om1 42 [a] H) fun v H' => Ext H H' ∧ ∃ t, v = .tuple ⟨[.pointer (some ⟨t, 0, none⟩), .int .i64 0]⟩ ∧ TrieOk H' t L := by
  obtain ⟨v, H', c, x, t, b, vr, N, rfl, hT, h3, h4, h5⟩ := c_Of ha hC hR hL
  exact ⟨_, H', c, x, t, rfl, hR, hL, N, vr, hT.at, hT.rules (by simp; omega), h3, h4, h5⟩
/-! What the longest rule is. -/
theorem lgs_pre {L : List Rl} (hR : Right L) (us : List Int) : Pre L us (lgs L us).1 (lgs L us).2.1 ∧ ((lgs L us).2.2 = true ↔ ∃ r ∈ L, us.length < r.1.length ∧ us <+: r.1) := by
  have := docF_is (us := us) L [] (-1) 0 false (by simpa using hR.2) ⟨Nat.zero_le _, fun _ => rfl, fun h => by omega, fun m _ _ => by have : fnd [] (us.take m) = -1 := rfl; rw [this]; decide⟩ (by simp)
  rw [List.nil_append] at this
  exact this
theorem fnd_some {L : List Rl} {x : List Int} (h : 0 ≤ fnd L x) : ∃ r, L[(fnd L x).toNat]? = some r ∧ r.1 = x := by
  unfold fnd at h ⊢
  split at h
  · rename_i k hk
    obtain ⟨r, h1, h2, _⟩ := fdx_some hk
    exact ⟨r, by simpa [hk] using h1, h2⟩
  · omega
theorem lgs_neg {L : List Rl} (hR : Right L) {us : List Int} (h : (lgs L us).1 < 0) : (lgs L us).2.1 = 0 := by
  obtain ⟨h1, h2, h3, h4⟩ := (lgs_pre hR us).1
  rcases Nat.eq_zero_or_pos (lgs L us).2.1 with h0 | h0
  · exact h0
  · have := (h3 h0).2; omega
theorem lgs_pos {L : List Rl} (hR : Right L) {us : List Int} (h : ¬ (lgs L us).1 < 0) : 0 < (lgs L us).2.1 ∧ (lgs L us).2.1 ≤ us.length ∧ ∃ r, L[(lgs L us).1.toNat]? = some r ∧ r.1 = us.take (lgs L us).2.1 ∧ 0 ≤ (lgs L us).1 := by
  obtain ⟨h1, h2, h3, h4⟩ := (lgs_pre hR us).1
  rcases Nat.eq_zero_or_pos (lgs L us).2.1 with h0 | h0
  · have := h2 h0; omega
  · obtain ⟨a1, a2⟩ := h3 h0
    rw [a1] at a2 ⊢
    obtain ⟨r, b1, b2⟩ := fnd_some a2
    exact ⟨h0, h1, r, b1, b2, a2⟩
/-- The token that units begin with. -/
def oneT (L : List Rl) (us : List Int) (a : Int) : Tok := if (lgs L us).1 < 0 then ⟨a, 1, [], 3⟩ else ⟨a, (lgs L us).2.1, (match L[(lgs L us).1.toNat]? with | some r => r.2 | none => []), 0⟩
theorem oneT_len {L : List Rl} (hR : Right L) {us : List Int} (hn : us ≠ []) (a : Int) : ∃ n : Nat, (oneT L us a).len = n ∧ 0 < n ∧ n ≤ us.length := by
  have hp := List.length_pos_iff.2 hn
  unfold oneT
  split
  · exact ⟨1, rfl, by decide, hp⟩
  · rename_i h
    obtain ⟨h1, h2, _⟩ := lgs_pos hR h
    exact ⟨_, rfl, h1, h2⟩
/-- All tokens of units. -/
def allT (L : List Rl) : Nat → List Int → Int → List Tok
  | 0, _, _ => []
  | c + 1, us, a => if us = [] then [] else oneT L us a :: allT L c (us.drop (oneT L us a).len.toNat) (a + (oneT L us a).len)
theorem allT_succ {L : List Rl} {c : Nat} {us : List Int} {a : Int} : allT L (c + 1) us a = if us = [] then [] else oneT L us a :: allT L c (us.drop (oneT L us a).len.toNat) (a + (oneT L us a).len) := rfl
theorem allT_nil {L : List Rl} {c : Nat} {a : Int} : allT L c [] a = [] := by cases c <;> simp [allT]
theorem allT_fuel {L : List Rl} (hR : Right L) : ∀ {c d : Nat} {us : List Int} {a : Int}, us.length ≤ c → us.length ≤ d → allT L c us a = allT L d us a := by
  intro c
  induction c with
  | zero =>
    intro d us a h1 h2
    have : us = [] := List.length_eq_zero_iff.1 (by omega)
    subst this
    rw [allT_nil, allT_nil]
  | succ c ih =>
    intro d us a h1 h2
    by_cases hn : us = []
    · subst hn; rw [allT_nil, allT_nil]
    · obtain ⟨n, e, n1, n2⟩ := oneT_len hR hn a
      cases d with
      | zero => exact absurd (List.length_eq_zero_iff.1 (by omega)) hn
      | succ d =>
        unfold allT
        rw [if_neg hn, if_neg hn, e]
        congr 1
        refine ih ?_ ?_ <;> rw [List.length_drop, Int.toNat_natCast] <;> omega
def allU (L : List Rl) (us : List Int) (a : Int) : List Tok := allT L us.length us a
theorem allU_nil {L : List Rl} {a : Int} : allU L [] a = [] := rfl
theorem allU_cons {L : List Rl} (hR : Right L) {us : List Int} (hn : us ≠ []) (a : Int) : allU L us a = oneT L us a :: allU L (us.drop (oneT L us a).len.toNat) (a + (oneT L us a).len) := by
  obtain ⟨n, e, n1, n2⟩ := oneT_len hR hn a
  unfold allU
  obtain ⟨c, hc⟩ : ∃ c, us.length = c + 1 := ⟨us.length - 1, by omega⟩
  rw [hc, allT_succ, if_neg hn, e]
  congr 1
  refine allT_fuel hR ?_ (Nat.le_refl _)
  rw [List.length_drop, Int.toNat_natCast]
  omega
theorem allU_len {L : List Rl} (hR : Right L) : ∀ (c : Nat) (us : List Int) (a : Int), us.length ≤ c → (allU L us a).length ≤ us.length := by
  intro c
  induction c with
  | zero =>
    intro us a h
    have : us = [] := List.length_eq_zero_iff.1 (by omega)
    subst this
    rw [allU_nil]; exact Nat.le_refl _
  | succ c ih =>
    intro us a h
    by_cases hn : us = []
    · subst hn; rw [allU_nil]; exact Nat.le_refl _
    · obtain ⟨n, e, n1, n2⟩ := oneT_len hR hn a
      rw [allU_cons hR hn, e, List.length_cons]
      have := ih (us.drop n) (a + n) (by rw [List.length_drop]; omega)
      rw [List.length_drop] at this
      show (allU L (us.drop n) (a + n)).length + 1 ≤ us.length
      omega
theorem oneT_out {L : List Rl} (hR : Right L) {us : List Int} {a : Int} : (oneT L us a).out.length ≤ 8 := by
  unfold oneT
  split
  · exact Nat.zero_le _
  · rename_i h
    obtain ⟨_, _, r, h1, _⟩ := lgs_pos hR h
    simp only [h1]
    exact (side_len (hR.1 r (List.mem_of_getElem? h1)).2).2
end Go.Proofs.Ytgonfmpmdahmcaa

/-! Units made into tokens: the program's way, and the document's. -/
set_option linter.unusedSimpArgs false
set_option linter.unusedVariables false
namespace Go.Proofs.Ytgonfmpmdahmcaa
open Go Lon
set_option maxRecDepth 100000
theorem ress_cell {P : Program} {e : Env} {H : AHeap} {t : Nat} {k : Option Nat} {r : List ARes} : ressA P e H (.cell t k :: r) = (match (readA P e H (.load (.tmp t) k)), ressA P e H r with | some v, some vs => some (v :: vs) | _, _ => none) := rfl
theorem rd_load {P : Program} {e : Env} {H : AHeap} {x : Operand} {k : Option Nat} : readA P e H (.load x k) = (vLoad (ev e x) k H).map (·.1) := by
  have := st_load (P := P) (cf := fun _ _ _ => none) (e := e) (H := H) (x := x) (k := k)
  rw [← this]
  simp only [stepA]
  cases readA P e H (.load x k) <;> rfl
def tokC (a : Option Addr) (c : Nat) (t : Tok) : List Value := [.int .i64 t.at_, .int .i64 t.len, .slice a t.out.length c, .int .i64 t.err]
theorem v_tokBad {H : AHeap} {a : Int} : vBuild [.int .i64 0, .int .i64 0, .slice none 0 0, .int .i64 0] [(0, 1, .int .i64 a), (1, 1, .int .i64 1), (3, 1, .int .i64 3)] H = some (.agg ⟨tokC none 0 ⟨a, 1, [], 3⟩⟩, H) := rfl
theorem v_tok {H : AHeap} {a n : Int} {p : Option Addr} {c : Nat} {o : List Int} : vBuild [.int .i64 0, .int .i64 0, .slice none 0 0, .int .i64 0] [(0, 1, .int .i64 a), (1, 1, .int .i64 n), (2, 1, .slice p o.length c)] H = some (.agg ⟨tokC p c ⟨a, n, o, 0⟩⟩, H) := rfl
theorem v_tok1 {H : AHeap} {el : TypeId} {p : Option Addr} {c : Nat} {t : Tok} : vBslice el 1 4 [.int .i64 0, .int .i64 0, .slice none 0 0, .int .i64 0] [(0, 4, .agg ⟨tokC p c t⟩)] H = some (.slice (some ⟨H.n, 0, none⟩) 1 2, H.push ⟨tokC p c t, el, .tip, 0, []⟩) := rfl
theorem tokC_one {p : Option Addr} {c : Nat} {t : Tok} : (tokC p c t).all one = true := rfl
theorem got_tok {H : AHeap} {i ver c : Nat} {el : TypeId} {p : Option Addr} {t : Tok} {a1 a2 a3 a4 : Value} : gotStore (some ⟨[a1, a2, a3, a4], el, .tip, ver, []⟩) i 0 (.agg ⟨tokC p c t⟩) 4 H = some (.tuple ⟨[]⟩, H.upd i ⟨tokC p c t, el, .tip, ver + 1, []⟩) := by
  have := got_store (H := H) (cells := [a1, a2, a3, a4]) (el := el) (ver := ver) (anc := []) (i := i) (o := 0) (n := 4) (v := .agg ⟨tokC p c t⟩) rfl rfl (Nat.le_refl 4)
  rw [this]
  rfl
theorem ld_tok {H : AHeap} {el : TypeId} {ver c : Nat} {anc : List Nat} {p : Option Addr} {t : Tok} : gotLoad (some ⟨tokC p c t, el, .tip, ver, anc⟩) 0 (some 4) H = some (.agg ⟨tokC p c t⟩, H) := rfl
theorem Ints.upd' {H : AHeap} {i B : Nat} {v : Value} {l : List Int} {b c : ABlk} (h : Ints H v l) (hg : H.get i = some b) (hf : From B v) (hi : i < B) : Ints (H.upd i c) v l := Sl.upd h hg (NotAt.of_from hf hi)
theorem c_one {t : Nat} {L : List Rl} {b : Value} {us : List Int} {a : Int} {H : AHeap} (hT : TrieOk H t L) (hb : Ints H b us) (hs : tiny us) :
    Gives (cw Try.prog (tabF tab) om1 62 [.pointer (some ⟨t, 0, none⟩), b, .int .i64 a] H) fun v H' => Ext H H' ∧ ∃ p c, v = .agg ⟨tokC p c (oneT L us a)⟩ ∧ tokQ Try.prog H' (tokC p c (oneT L us a)) (oneT L us a) := by
  rw [cw_run (F := F_rewrite_one) rfl rfl rfl]
  unfold F_rewrite_one k_rewrite_one
  have hx1 := Ext.push H ⟨[.int .i64 0, .int .i64 0, .slice none 0 0, .int .i64 0], 41, .tip, 0, []⟩
  have cL := c_LongT (hT.ext hx1) (hb.ext hx1) hs
  by_cases h0 : (lgs L us).1 < 0
  · have e : oneT L us a = ⟨a, 1, [], 3⟩ := by unfold oneT; rw [if_pos h0]
    rw [e]
    obtain ⟨u, hu⟩ : ∃ u : Tok, u = ⟨a, 1, [], 3⟩ := ⟨_, rfl⟩
    have hg := get_push_self (H := H) (b := ⟨[.int .i64 0, .int .i64 0, .slice none 0 0, .int .i64 0], 41, .tip, 0, []⟩)
    have hs2 := upd_self (c := ⟨tokC none 0 u, 41, .tip, 0 + 1, []⟩) hg
    simp only [WA, isStore, isCall, isK, freshI, stampO, List.nil_append, Option.map_some, Option.map_none, Option.bind_some, List.map_cons, List.map_nil, if_true, if_false, Nat.reduceEqDiff, Int.reduceEq, Nat.reduceAdd, Nat.reduceMul, reduceCtorEq, eq_self, Int.reduceLT, Int.reduceLE, Int.reduceToNat, List.length_cons, List.length_nil, List.all_cons, List.all_nil, List.take_zero, List.drop_nil, List.append_nil, List.getElem?_cons_zero, List.getElem?_cons_succ, List.drop_succ_cons, List.drop_zero, List.take_succ_cons, List.cons_append, Nat.reduceLeDiff, Int.cast_ofNat_Int, cL, h0, v_tokBad, ← hu, hg, got_tok, ress_cell, rd_load, hs2, ld_tok]
    exact ⟨Ext.push H _, none, 0, rfl, none, 0, by rw [hu]; rfl, by rw [hu]; exact Sl.nil _ 1, by rw [hu]; exact (by decide : (0 : Nat) < 4611686018427387904), trivial⟩
  · obtain ⟨p1, p2, r, p3, p4, p5⟩ := lgs_pos hT.right h0
    obtain ⟨k, hk⟩ : ∃ k : Nat, (lgs L us).1 = k := ⟨(lgs L us).1.toNat, by omega⟩
    rw [hk] at p3
    have p3' : L[k]? = some r := p3
    have e : oneT L us a = ⟨a, (lgs L us).2.1, r.2, 0⟩ := by unfold oneT; rw [if_neg h0, hk]; simp only [Int.toNat_natCast, p3']
    rw [e]
    obtain ⟨v, H2, cO, x2, o2, f2, u2⟩ := c_OutT (hT.ext hx1) p3'
    rw [hk] at cL h0
    have o2' := o2
    obtain ⟨⟨ao, co, rfl⟩, _⟩ := o2'
    have hg := x2.get (get_push_self (H := H) (b := ⟨[.int .i64 0, .int .i64 0, .slice none 0 0, .int .i64 0], 41, .tip, 0, []⟩))
    have ht : tiny r.2 := by
      have := (side_len (hT.right.1 r (List.mem_of_getElem? p3')).2).2
      unfold Lon.tiny; omega
    have hs2 := upd_self (c := ⟨tokC ao co ⟨a, (lgs L us).2.1, r.2, 0⟩, 41, .tip, 0 + 1, []⟩) hg
    simp only [WA, isStore, isCall, isK, freshI, stampO, List.nil_append, Option.map_some, Option.map_none, Option.bind_some, List.map_cons, List.map_nil, if_true, if_false, Nat.reduceEqDiff, Int.reduceEq, Nat.reduceAdd, Nat.reduceMul, reduceCtorEq, eq_self, Int.reduceLT, Int.reduceLE, Int.reduceToNat, List.length_cons, List.length_nil, List.all_cons, List.all_nil, List.take_zero, List.drop_nil, List.append_nil, List.getElem?_cons_zero, List.getElem?_cons_succ, List.drop_succ_cons, List.drop_zero, List.take_succ_cons, List.cons_append, Nat.reduceLeDiff, Int.cast_ofNat_Int, cL, h0, cO, v_tok, hg, got_tok, ress_cell, rd_load, hs2, ld_tok]
    exact ⟨Ext.upd (hx1.trans x2) hg (Nat.le_refl _), ao, co, rfl, ao, co, rfl, Ints.upd' o2 hg f2 (by simp), ht, u2.upd hg rfl⟩
theorem l_AllR {H0 : AHeap} {t : Nat} {L : List Rl} {b : Value} {us : List Int} (hT : TrieOk H0 t L) (hb : Ints H0 b us) (hC : Cut Try.prog H0 b 1) (hs : us.length < 1000000) : ∀ (c a : Nat) (H : AHeap) (out : Value) (T : List Tok), us.length - a ≤ c → a ≤ us.length → Ext H0 H → OwnToks Try.prog H 41 out T → From H0.n out → AncB H0.n H 41 out → T.length ≤ a →
    Out (run Try.prog (tabF tab) om1 (.loop [0, 1, 5, 6] b_rewrite_All_0) [(0, .pointer (some ⟨t, 0, none⟩)), (1, b), (5, out), (6, .int .i64 a)] H) fun y e' H' => y = .exit 0 ∧ Ext H0 H' ∧ OwnToks Try.prog H' 41 (eget e' 5) (T ++ allU L (us.drop a) a) ∧ From H0.n (eget e' 5) ∧ AncB H0.n H' 41 (eget e' 5) := by
  intro c
  induction c with
  | zero =>
    intro a H out T hc ha hx ho hf hA hl
    have hlt : ¬ ((a : Int) < us.length) := by omega
    have hlen := hb.len (H2 := H)
    rw [w_loop_b b_rewrite_All_0.eq_1, List.drop_of_length_le (by omega), allU_nil, List.append_nil]
    simp only [WA, isStore, isCall, isK, freshI, stampO, List.nil_append, Option.map_some, Option.map_none, Option.bind_some, List.map_cons, List.map_nil, if_true, if_false, Nat.reduceEqDiff, Int.reduceEq, Nat.reduceAdd, Nat.reduceMul, reduceCtorEq, eq_self, Int.reduceLT, Int.reduceLE, Int.reduceToNat, List.length_cons, List.length_nil, List.all_cons, List.all_nil, List.take_zero, List.drop_nil, List.append_nil, List.getElem?_cons_zero, List.getElem?_cons_succ, List.drop_succ_cons, List.drop_zero, List.take_succ_cons, List.cons_append, Nat.reduceLeDiff, Int.cast_ofNat_Int, hlen, hlt]
    exact ⟨hx, ho, hf, hA⟩
  | succ c ih =>
    intro a H out T hc ha hx ho hf hA hl
    have hlen := hb.len (H2 := H)
    by_cases hlt : (a : Int) < us.length
    · obtain ⟨b', s1, s2, s3⟩ := (hb.ext hx).drop (hC.ext hx) ha
      have s1' := s1 .i64
      have hne : us.drop a ≠ [] := fun e => by have := congrArg List.length e; rw [List.length_drop, List.length_nil] at this; omega
      obtain ⟨v, H1, cO, x1, p, cc, rfl, q1⟩ := c_one (a := (a : Int)) (hT.ext hx) s2 (by unfold Lon.tiny; rw [List.length_drop]; omega)
      obtain ⟨n, e, n1, n2⟩ := oneT_len hT.right hne (a : Int)
      rw [allU_cons hT.right hne, e, List.drop_drop, ← Int.natCast_add]
      rw [List.length_drop] at n2
      generalize hu : oneT L (us.drop a) (a : Int) = u at *
      have hx2 := Ext.push H1 ⟨tokC p cc u, 41, .tip, 1, []⟩
      have hx3 := Ext.push (H1.push ⟨tokC p cc u, 41, .tip, 1, []⟩) ⟨tokC p cc u, 41, .tip, 0, []⟩
      obtain ⟨H2, hH2⟩ : ∃ H2, H2 = H1.push ⟨tokC p cc u, 41, .tip, 1, []⟩ := ⟨_, rfl⟩
      have g2 : H2.get H1.n = some ⟨tokC p cc u, 41, .tip, 1, []⟩ := by rw [hH2]; exact get_push_self
      rw [← hH2] at hx2 hx3
      have hn2 : H2.n = H1.n + 1 := by rw [hH2]; simp
      have g3 := get_push_self (H := H2) (b := ⟨tokC p cc u, 41, .tip, 0, []⟩)
      have ho3 := ho.ext tokQ_mono ((x1.trans hx2).trans hx3)
      obtain ⟨v', H4, m1, m2, m3, m4, m5, m6⟩ := ho3.push tokQ_mono (bytes := 48) (c := 2) g3 rfl (tokQ_mono (hx2.trans hx3).kp q1) tokC_one (by omega) (by omega)
      have hn3 : (H2.push ⟨tokC p cc u, 41, .tip, 0, []⟩).n = H1.n + 2 := by simp [hn2]
      rw [hn3] at m3 m5 m6
      have g4 : H4.get H1.n = some ⟨tokC p cc u, 41, .tip, 1, []⟩ := by
        rw [m6 H1.n (by omega) (ho.notAt x1.1), get_push_lt (by omega), g2]
      have hx4 : Ext H0 H4 := Ext.grow (((hx.trans x1).trans hx2).trans hx3) (by omega) (by rw [hn3]; exact m6) hf
      have hld : gotLoad (some ⟨tokC p cc u, 41, .tip, 1, []⟩) 1 none H4 = some (.int .i64 u.len, H4) := rfl
      have hw : IntKind.i64.wrap ((a : Int) + u.len) = ((a + n : Nat) : Int) := by rw [e, wrap64 (by omega) (by omega)]; omega
      obtain ⟨y, e', H', r1, r2, r3, r4, r5⟩ := ih (a + n) H4 v' (T ++ [u]) (by omega) (by omega) hx4 m2 (m3.mono (by have := hx.1; have := x1.1; omega)) (appendA_anc m1 hf (((hA.ext x1).ext hx2).ext hx3)) (by rw [List.length_append, List.length_singleton]; omega)
      rw [List.append_assoc] at r4
      rw [w_loop_b b_rewrite_All_0.eq_1]
      simp only [WA, isStore, isCall, isK, freshI, stampO, List.nil_append, Option.map_some, Option.map_none, Option.bind_some, List.map_cons, List.map_nil, if_true, if_false, Nat.reduceEqDiff, Int.reduceEq, Nat.reduceAdd, Nat.reduceMul, reduceCtorEq, eq_self, Int.reduceLT, Int.reduceLE, Int.reduceToNat, List.length_cons, List.length_nil, List.all_cons, List.all_nil, List.take_zero, List.drop_nil, List.append_nil, List.getElem?_cons_zero, List.getElem?_cons_succ, List.drop_succ_cons, List.drop_zero, List.take_succ_cons, List.cons_append, Nat.reduceLeDiff, Int.cast_ofNat_Int, hlen, hlt, s1', cO, got_tok, ← hH2, g2, ld_tok, v_tok1, m1, g4, hld, hw]
      rw [w_enter]
      simp only [WA, isStore, isCall, isK, freshI, stampO, List.nil_append, Option.map_some, Option.map_none, Option.bind_some, List.map_cons, List.map_nil, if_true, if_false, Nat.reduceEqDiff, Int.reduceEq, Nat.reduceAdd, Nat.reduceMul, reduceCtorEq, eq_self, Int.reduceLT, Int.reduceLE, Int.reduceToNat, List.length_cons, List.length_nil, List.all_cons, List.all_nil, List.take_zero, List.drop_nil, List.append_nil, List.getElem?_cons_zero, List.getElem?_cons_succ, List.drop_succ_cons, List.drop_zero, List.take_succ_cons, List.cons_append, Nat.reduceLeDiff, Int.cast_ofNat_Int, r1]
      exact ⟨r2, r3, r4, r5⟩
    · rw [w_loop_b b_rewrite_All_0.eq_1, List.drop_of_length_le (by omega), allU_nil, List.append_nil]
      simp only [WA, isStore, isCall, isK, freshI, stampO, List.nil_append, Option.map_some, Option.map_none, Option.bind_some, List.map_cons, List.map_nil, if_true, if_false, Nat.reduceEqDiff, Int.reduceEq, Nat.reduceAdd, Nat.reduceMul, reduceCtorEq, eq_self, Int.reduceLT, Int.reduceLE, Int.reduceToNat, List.length_cons, List.length_nil, List.all_cons, List.all_nil, List.take_zero, List.drop_nil, List.append_nil, List.getElem?_cons_zero, List.getElem?_cons_succ, List.drop_succ_cons, List.drop_zero, List.take_succ_cons, List.cons_append, Nat.reduceLeDiff, Int.cast_ofNat_Int, hlen, hlt]
      exact ⟨hx, ho, hf, hA⟩
theorem c_AllR {t : Nat} {L : List Rl} {b : Value} {us : List Int} {H : AHeap} (hT : TrieOk H t L) (hb : Ints H b us) (hC : Cut Try.prog H b 1) (hs : us.length < 1000000) :
    Gives (cw Try.prog (tabF tab) om1 44 [.pointer (some ⟨t, 0, none⟩), b] H) fun v H' => Ext H H' ∧ OwnToks Try.prog H' 41 v (allU L us 0) ∧ From H.n v ∧ AncB H.n H' 41 v := by
  rw [cw_run (F := F_rewrite_All) rfl rfl rfl]
  unfold F_rewrite_All k_rewrite_All
  obtain ⟨y, e', H', r1, rfl, r3, r4, r5⟩ := l_AllR hT hb hC hs us.length 0 H (.slice none 0 0) [] (by omega) (Nat.zero_le _) (Ext.refl H) OwnRws.nil trivial AncB.nil (Nat.le_refl _)
  simp only [Int.cast_ofNat_Int] at r1
  rw [List.drop_zero, List.nil_append] at r4
  simp only [WA, isStore, isCall, isK, freshI, stampO, List.nil_append, Option.map_some, Option.map_none, Option.bind_some, List.map_cons, List.map_nil, if_true, if_false, Nat.reduceEqDiff, Int.reduceEq, Nat.reduceAdd, Nat.reduceMul, reduceCtorEq, eq_self, Int.reduceLT, Int.reduceLE, Int.reduceToNat, List.length_cons, List.length_nil, List.all_cons, List.all_nil, List.take_zero, List.drop_nil, List.append_nil, List.getElem?_cons_zero, List.getElem?_cons_succ, List.drop_succ_cons, List.drop_zero, List.take_succ_cons, List.cons_append, Nat.reduceLeDiff, Int.cast_ofNat_Int]
  rw [w_enter]
  simp only [WA, isStore, isCall, isK, freshI, stampO, List.nil_append, Option.map_some, Option.map_none, Option.bind_some, List.map_cons, List.map_nil, if_true, if_false, Nat.reduceEqDiff, Int.reduceEq, Nat.reduceAdd, Nat.reduceMul, reduceCtorEq, eq_self, Int.reduceLT, Int.reduceLE, Int.reduceToNat, List.length_cons, List.length_nil, List.all_cons, List.all_nil, List.take_zero, List.drop_nil, List.append_nil, List.getElem?_cons_zero, List.getElem?_cons_succ, List.drop_succ_cons, List.drop_zero, List.take_succ_cons, List.cons_append, Nat.reduceLeDiff, Int.cast_ofNat_Int, r1]
  exact ⟨r3, r4, r5⟩
end Go.Proofs.Ytgonfmpmdahmcaa

/-! Tokens: the document's; whether they are the same. -/
set_option linter.unusedSimpArgs false
set_option linter.unusedVariables false
namespace Go.Proofs.Ytgonfmpmdahmcaa
open Go Lon
set_option maxRecDepth 100000
theorem l_AllD {H0 : AHeap} {x : Value} {L : List Rl} {b : Value} {us : List Int} (hR : Right L) (hL : L.length ≤ 512) (hr : Rules H0 x L) (hrc : CutR H0 x) (hb : Ints H0 b us) (hC : Cut Try.prog H0 b 1) (hs : us.length < 1000000) : ∀ (c a : Nat) (H : AHeap) (out : Value) (T : List Tok), us.length - a ≤ c → a ≤ us.length → Ext H0 H → OwnToks Try.prog H 41 out T → From H0.n out → AncB H0.n H 41 out → T.length ≤ a →
    Out (run Try.prog (tabF tab) om1 (.loop [0, 1, 5, 6] b_lontarlaw05_All_0) [(0, x), (1, b), (5, out), (6, .int .i64 a)] H) fun y e' H' => y = .exit 0 ∧ Ext H0 H' ∧ OwnToks Try.prog H' 41 (eget e' 5) (T ++ allU L (us.drop a) a) ∧ From H0.n (eget e' 5) ∧ AncB H0.n H' 41 (eget e' 5) := by
  intro c
  induction c with
  | zero =>
    intro a H out T hc ha hx ho hf hA hl
    have hlt : ¬ ((a : Int) < us.length) := by omega
    have hlen := hb.len (H2 := H)
    rw [w_loop_b b_lontarlaw05_All_0.eq_1, List.drop_of_length_le (by omega), allU_nil, List.append_nil]
    simp only [WA, isStore, isCall, isK, freshI, stampO, List.nil_append, Option.map_some, Option.map_none, Option.bind_some, List.map_cons, List.map_nil, if_true, if_false, Nat.reduceEqDiff, Int.reduceEq, Nat.reduceAdd, Nat.reduceMul, reduceCtorEq, eq_self, Int.reduceLT, Int.reduceLE, Int.reduceToNat, List.length_cons, List.length_nil, List.all_cons, List.all_nil, List.take_zero, List.drop_nil, List.append_nil, List.getElem?_cons_zero, List.getElem?_cons_succ, List.drop_succ_cons, List.drop_zero, List.take_succ_cons, List.cons_append, Nat.reduceLeDiff, Int.cast_ofNat_Int, hlen, hlt]
    exact ⟨hx, ho, hf, hA⟩
  | succ c ih =>
    intro a H out T hc ha hx ho hf hA hl
    have hlen := hb.len (H2 := H)
    by_cases hlt : (a : Int) < us.length
    · obtain ⟨b', s1, s2, s3⟩ := (hb.ext hx).drop (hC.ext hx) ha
      have s1' := s1 .i64
      have hne : us.drop a ≠ [] := fun e => by have := congrArg List.length e; rw [List.length_drop, List.length_nil] at this; omega
      obtain ⟨v, H1, cD, x1, rfl⟩ := c_Doc (hr.ext hx) (hrc.ext hx) s2 s3 (by omega) (by unfold Lon.tiny; rw [List.length_drop]; omega)
      rw [show docF (us.drop a) L 0 (-1) 0 false = lgs L (us.drop a) from rfl] at cD
      obtain ⟨n, e, n1, n2⟩ := oneT_len hR hne (a : Int)
      rw [allU_cons hR hne, e, List.drop_drop, ← Int.natCast_add]
      rw [List.length_drop] at n2
      have step : ∀ {p : Option Addr} {cc : Nat} {u : Tok}, u = oneT L (us.drop a) (a : Int) → tokQ Try.prog H1 (tokC p cc u) u → ∃ v' H4, appendA (H1.push ⟨tokC p cc u, 41, .tip, 0, []⟩) out (.slice (some ⟨H1.n, 0, none⟩) 1 2) 41 4 48 = some (v', H4) ∧ Ext H0 H4 ∧ OwnToks Try.prog H4 41 v' (T ++ [oneT L (us.drop a) (a : Int)]) ∧ From H0.n v' ∧ AncB H0.n H4 41 v' := by
        intro p cc u hu q1
        have hx3 := Ext.push H1 ⟨tokC p cc u, 41, .tip, 0, []⟩
        have g3 := get_push_self (H := H1) (b := ⟨tokC p cc u, 41, .tip, 0, []⟩)
        obtain ⟨v', H4, m1, m2, m3, m4, m5, m6⟩ := (ho.ext tokQ_mono (x1.trans hx3)).push tokQ_mono (bytes := 48) (c := 2) g3 rfl (tokQ_mono hx3.kp q1) tokC_one (by omega) (by omega)
        rw [hu] at m2
        exact ⟨v', H4, m1, Ext.grow ((hx.trans x1).trans hx3) m5 m6 hf, m2, m3.mono ((hx.trans x1).trans hx3).1, appendA_anc m1 hf ((hA.ext x1).ext hx3)⟩
      by_cases h0 : (lgs L (us.drop a)).1 < 0
      · have eu : oneT L (us.drop a) (a : Int) = ⟨a, 1, [], 3⟩ := by unfold oneT; rw [if_pos h0]
        have en : n = 1 := by rw [eu] at e; simp only at e; omega
        subst en
        obtain ⟨v', H4, m1, m2, m3, m4, m5⟩ := step (p := none) (cc := 0) (u := ⟨a, 1, [], 3⟩) eu.symm ⟨none, 0, rfl, Sl.nil _ 1, (by decide : (0 : Nat) < 4611686018427387904), trivial⟩
        have hw : IntKind.i64.wrap ((a : Int) + 1) = ((a + 1 : Nat) : Int) := by rw [wrap64 (by omega) (by omega)]; omega
        obtain ⟨y, e', H', r1, r2, r3, r4, r5⟩ := ih (a + 1) H4 v' _ (by omega) (by omega) m2 m3 m4 m5 (by rw [List.length_append, List.length_singleton]; omega)
        rw [List.append_assoc] at r4
        rw [w_loop_b b_lontarlaw05_All_0.eq_1]
        simp only [WA, isStore, isCall, isK, freshI, stampO, List.nil_append, Option.map_some, Option.map_none, Option.bind_some, List.map_cons, List.map_nil, if_true, if_false, Nat.reduceEqDiff, Int.reduceEq, Nat.reduceAdd, Nat.reduceMul, reduceCtorEq, eq_self, Int.reduceLT, Int.reduceLE, Int.reduceToNat, List.length_cons, List.length_nil, List.all_cons, List.all_nil, List.take_zero, List.drop_nil, List.append_nil, List.getElem?_cons_zero, List.getElem?_cons_succ, List.drop_succ_cons, List.drop_zero, List.take_succ_cons, List.cons_append, Nat.reduceLeDiff, Int.cast_ofNat_Int, hlen, hlt, s1', cD, h0, v_tokBad, v_tok1, m1, hw]
        rw [w_enter]
        simp only [WA, isStore, isCall, isK, freshI, stampO, List.nil_append, Option.map_some, Option.map_none, Option.bind_some, List.map_cons, List.map_nil, if_true, if_false, Nat.reduceEqDiff, Int.reduceEq, Nat.reduceAdd, Nat.reduceMul, reduceCtorEq, eq_self, Int.reduceLT, Int.reduceLE, Int.reduceToNat, List.length_cons, List.length_nil, List.all_cons, List.all_nil, List.take_zero, List.drop_nil, List.append_nil, List.getElem?_cons_zero, List.getElem?_cons_succ, List.drop_succ_cons, List.drop_zero, List.take_succ_cons, List.cons_append, Nat.reduceLeDiff, Int.cast_ofNat_Int, r1]
        exact ⟨r2, r3, r4, r5⟩
      · obtain ⟨p1, p2, r, p3, p4, p5⟩ := lgs_pos hR h0
        obtain ⟨k, hk⟩ : ∃ k : Nat, (lgs L (us.drop a)).1 = k := ⟨(lgs L (us.drop a)).1.toNat, by omega⟩
        rw [hk] at p3
        have p3' : L[k]? = some r := p3
        have eu : oneT L (us.drop a) (a : Int) = ⟨a, (lgs L (us.drop a)).2.1, r.2, 0⟩ := by unfold oneT; rw [if_neg h0, hk]; simp only [Int.toNat_natCast, p3']
        obtain ⟨i1, o1, vi, vo, h1, h2, h3, h4, h5, h6, h7, h8, h9, h10⟩ := Rules.atC ((hr.ext hx).ext x1) ((hrc.ext hx).ext x1) p3'
        have h6' := h6
        obtain ⟨⟨ao, co, rfl⟩, _⟩ := h6'
        have en : (lgs L (us.drop a)).2.1 = n := by rw [eu] at e; simp only at e; omega
        obtain ⟨v', H4, m1, m2, m3, m4, m5⟩ := step (p := ao) (cc := co) (u := ⟨a, (lgs L (us.drop a)).2.1, r.2, 0⟩) eu.symm ⟨ao, co, rfl, h6, h8, h10⟩
        rw [hk] at cD h0
        rw [en] at cD m1
        have hw : IntKind.i64.wrap ((a : Int) + (n : Int)) = ((a + n : Nat) : Int) := by rw [wrap64 (by omega) (by omega)]; omega
        obtain ⟨y, e', H', r1, r2, r3, r4, r5⟩ := ih (a + n) H4 v' _ (by omega) (by omega) m2 m3 m4 m5 (by rw [List.length_append, List.length_singleton]; omega)
        rw [List.append_assoc] at r4
        rw [w_loop_b b_lontarlaw05_All_0.eq_1]
        simp only [WA, isStore, isCall, isK, freshI, stampO, List.nil_append, Option.map_some, Option.map_none, Option.bind_some, List.map_cons, List.map_nil, if_true, if_false, Nat.reduceEqDiff, Int.reduceEq, Nat.reduceAdd, Nat.reduceMul, reduceCtorEq, eq_self, Int.reduceLT, Int.reduceLE, Int.reduceToNat, List.length_cons, List.length_nil, List.all_cons, List.all_nil, List.take_zero, List.drop_nil, List.append_nil, List.getElem?_cons_zero, List.getElem?_cons_succ, List.drop_succ_cons, List.drop_zero, List.take_succ_cons, List.cons_append, Nat.reduceLeDiff, Int.cast_ofNat_Int, hlen, hlt, s1', cD, h0, h1, h3, v_tok, v_tok1, m1, hw]
        rw [w_enter]
        simp only [WA, isStore, isCall, isK, freshI, stampO, List.nil_append, Option.map_some, Option.map_none, Option.bind_some, List.map_cons, List.map_nil, if_true, if_false, Nat.reduceEqDiff, Int.reduceEq, Nat.reduceAdd, Nat.reduceMul, reduceCtorEq, eq_self, Int.reduceLT, Int.reduceLE, Int.reduceToNat, List.length_cons, List.length_nil, List.all_cons, List.all_nil, List.take_zero, List.drop_nil, List.append_nil, List.getElem?_cons_zero, List.getElem?_cons_succ, List.drop_succ_cons, List.drop_zero, List.take_succ_cons, List.cons_append, Nat.reduceLeDiff, Int.cast_ofNat_Int, r1]
        exact ⟨r2, r3, r4, r5⟩
    · rw [w_loop_b b_lontarlaw05_All_0.eq_1, List.drop_of_length_le (by omega), allU_nil, List.append_nil]
      simp only [WA, isStore, isCall, isK, freshI, stampO, List.nil_append, Option.map_some, Option.map_none, Option.bind_some, List.map_cons, List.map_nil, if_true, if_false, Nat.reduceEqDiff, Int.reduceEq, Nat.reduceAdd, Nat.reduceMul, reduceCtorEq, eq_self, Int.reduceLT, Int.reduceLE, Int.reduceToNat, List.length_cons, List.length_nil, List.all_cons, List.all_nil, List.take_zero, List.drop_nil, List.append_nil, List.getElem?_cons_zero, List.getElem?_cons_succ, List.drop_succ_cons, List.drop_zero, List.take_succ_cons, List.cons_append, Nat.reduceLeDiff, Int.cast_ofNat_Int, hlen, hlt]
      exact ⟨hx, ho, hf, hA⟩
theorem c_AllD {x : Value} {L : List Rl} {b : Value} {us : List Int} {H : AHeap} (hR : Right L) (hL : L.length ≤ 512) (hr : Rules H x L) (hrc : CutR H x) (hb : Ints H b us) (hC : Cut Try.prog H b 1) (hs : us.length < 1000000) :
    Gives (cw Try.prog (tabF tab) om1 26 [x, b] H) fun v H' => Ext H H' ∧ OwnToks Try.prog H' 41 v (allU L us 0) ∧ From H.n v ∧ AncB H.n H' 41 v := by
  rw [cw_run (F := F_lontarlaw05_All) rfl rfl rfl]
  unfold F_lontarlaw05_All k_lontarlaw05_All
  obtain ⟨y, e', H', r1, rfl, r3, r4, r5⟩ := l_AllD hR hL hr hrc hb hC hs us.length 0 H (.slice none 0 0) [] (by omega) (Nat.zero_le _) (Ext.refl H) OwnRws.nil trivial AncB.nil (Nat.le_refl _)
  simp only [Int.cast_ofNat_Int] at r1
  rw [List.drop_zero, List.nil_append] at r4
  simp only [WA, isStore, isCall, isK, freshI, stampO, List.nil_append, Option.map_some, Option.map_none, Option.bind_some, List.map_cons, List.map_nil, if_true, if_false, Nat.reduceEqDiff, Int.reduceEq, Nat.reduceAdd, Nat.reduceMul, reduceCtorEq, eq_self, Int.reduceLT, Int.reduceLE, Int.reduceToNat, List.length_cons, List.length_nil, List.all_cons, List.all_nil, List.take_zero, List.drop_nil, List.append_nil, List.getElem?_cons_zero, List.getElem?_cons_succ, List.drop_succ_cons, List.drop_zero, List.take_succ_cons, List.cons_append, Nat.reduceLeDiff, Int.cast_ofNat_Int]
  rw [w_enter]
  simp only [WA, isStore, isCall, isK, freshI, stampO, List.nil_append, Option.map_some, Option.map_none, Option.bind_some, List.map_cons, List.map_nil, if_true, if_false, Nat.reduceEqDiff, Int.reduceEq, Nat.reduceAdd, Nat.reduceMul, reduceCtorEq, eq_self, Int.reduceLT, Int.reduceLE, Int.reduceToNat, List.length_cons, List.length_nil, List.all_cons, List.all_nil, List.take_zero, List.drop_nil, List.append_nil, List.getElem?_cons_zero, List.getElem?_cons_succ, List.drop_succ_cons, List.drop_zero, List.take_succ_cons, List.cons_append, Nat.reduceLeDiff, Int.cast_ofNat_Int, r1]
  exact ⟨r3, r4, r5⟩
/-- A token's fields, read. -/
theorem Toks.at' {H : AHeap} {v : Value} {A : List Tok} (h : Toks Try.prog H v A) {k : Nat} {x : Tok} (hk : A[k]? = some x) : ∃ i o p c, (∀ (kd : IntKind) (H2 : AHeap), vIaddr v (.int kd k) 4 H2 = some (.pointer (some ⟨i, o, none⟩), H2)) ∧ gotLoad (H.get i) o none H = some (.int .i64 x.at_, H) ∧ gotLoad (H.get i) (o + 1) none H = some (.int .i64 x.len, H) ∧ gotLoad (H.get i) (o + 2) none H = some (.slice p x.out.length c, H) ∧ gotLoad (H.get i) (o + 3) none H = some (.int .i64 x.err, H) ∧ gotLoad (H.get i) o (some 4) H = some (.agg ⟨tokC p c x⟩, H) ∧ Ints H (.slice p x.out.length c) x.out ∧ tiny x.out ∧ Cut Try.prog H (.slice p x.out.length c) 1 := by
  obtain ⟨i, o, row, a1, a2, a3, a4, p, c, rfl, a5, a6, a7⟩ := Rws.at h hk
  exact ⟨i, o, p, c, a1, a2 _ rfl, a3 1 _ rfl, a3 2 _ rfl, a3 3 _ rfl, a4, a5, a6, a7⟩
theorem l_SameT {a b : Value} {A B : List Tok} {H : AHeap} (ha : Toks Try.prog H a A) (hb : Toks Try.prog H b B) (hl : A.length = B.length) : ∀ (k i : Nat), i + k = A.length →
    Out (run Try.prog (tabF tab) om1 (.loop [0, 1, 12, 13] b_lontarlaw01_Same_0) [(0, a), (1, b), (12, .int .i64 A.length), (13, .int .i64 i)] H) fun y e' H' => H' = H ∧ if A.drop i = B.drop i then y = .exit 0 else y = .ret ∧ eget e' 4 = .bool false := by
  have hA := ha.1
  intro k
  induction k with
  | zero =>
    intro i hi
    have hlt : ¬ ((i : Int) < A.length) := by omega
    rw [w_loop_b b_lontarlaw01_Same_0.eq_1, List.drop_of_length_le (by omega), List.drop_of_length_le (by omega)]
    simp only [WA, isStore, isCall, isK, freshI, stampO, List.nil_append, Option.map_some, Option.map_none, Option.bind_some, List.map_cons, List.map_nil, if_true, if_false, Nat.reduceEqDiff, Int.reduceEq, Nat.reduceAdd, Nat.reduceMul, reduceCtorEq, eq_self, Int.reduceLT, Int.reduceLE, Int.reduceToNat, List.length_cons, List.length_nil, List.all_cons, List.all_nil, List.take_zero, List.drop_nil, List.append_nil, List.getElem?_cons_zero, List.getElem?_cons_succ, List.drop_succ_cons, List.drop_zero, List.take_succ_cons, List.cons_append, Nat.reduceLeDiff, Int.cast_ofNat_Int, hlt]
  | succ k ih =>
    intro i hi
    have hlt : (i : Int) < A.length := by omega
    obtain ⟨x, hx, hdx⟩ := drop_at (L := A) (i := i) (by omega)
    obtain ⟨y, hy, hdy⟩ := drop_at (L := B) (i := i) (by omega)
    obtain ⟨i1, o1, p1, c1, a1, a2, a3, a4, a5, a6, a7, a8, _⟩ := Toks.at' ha hx
    obtain ⟨i2, o2, p2, c2, b1, b2, b3, b4, b5, b6, b7, b8, _⟩ := Toks.at' hb hy
    have cU := c_Units a7 b7 a8
    have hw2 : IntKind.i64.wrap ((i : Int) + 1) = ((i + 1 : Nat) : Int) := by rw [wrap64 (by omega) (by omega)]; omega
    have he : (A.drop i = B.drop i) = ((x.at_ = y.at_ ∧ x.len = y.len ∧ x.err = y.err ∧ x.out = y.out) ∧ A.drop (i + 1) = B.drop (i + 1)) := by
      rw [hdx, hdy, List.cons.injEq]
      congr 1
      refine propext ⟨fun h => by subst h; exact ⟨rfl, rfl, rfl, rfl⟩, fun ⟨h1, h2, h3, h4⟩ => ?_⟩
      cases x; cases y; simp only at h1 h2 h3 h4; subst h1 h2 h3 h4; rfl
    rw [w_loop_b b_lontarlaw01_Same_0.eq_1]
    by_cases e1 : x.at_ = y.at_
    · have z1 : (x.at_ ≠ y.at_) = False := by simp [e1]
      by_cases e2 : x.len = y.len
      · have z2 : (x.len ≠ y.len) = False := by simp [e2]
        by_cases e3 : x.err = y.err
        · have z3 : (x.err ≠ y.err) = False := by simp [e3]
          by_cases e4 : x.out = y.out
          · rw [decide_eq_true e4] at cU
            obtain ⟨y', e', H', r1, rfl, r3⟩ := ih (i + 1) (by omega)
            simp only [WA, isStore, isCall, isK, freshI, stampO, List.nil_append, Option.map_some, Option.map_none, Option.bind_some, List.map_cons, List.map_nil, if_true, if_false, Nat.reduceEqDiff, Int.reduceEq, Nat.reduceAdd, Nat.reduceMul, reduceCtorEq, eq_self, Int.reduceLT, Int.reduceLE, Int.reduceToNat, List.length_cons, List.length_nil, List.all_cons, List.all_nil, List.take_zero, List.drop_nil, List.append_nil, List.getElem?_cons_zero, List.getElem?_cons_succ, List.drop_succ_cons, List.drop_zero, List.take_succ_cons, List.cons_append, Nat.reduceLeDiff, Int.cast_ofNat_Int, hlt, a1, a2, a3, a4, a5, b1, b2, b3, b4, b5, z1, z2, z3, cU, hw2]
            rw [w_enter]
            simp only [WA, isStore, isCall, isK, freshI, stampO, List.nil_append, Option.map_some, Option.map_none, Option.bind_some, List.map_cons, List.map_nil, if_true, if_false, Nat.reduceEqDiff, Int.reduceEq, Nat.reduceAdd, Nat.reduceMul, reduceCtorEq, eq_self, Int.reduceLT, Int.reduceLE, Int.reduceToNat, List.length_cons, List.length_nil, List.all_cons, List.all_nil, List.take_zero, List.drop_nil, List.append_nil, List.getElem?_cons_zero, List.getElem?_cons_succ, List.drop_succ_cons, List.drop_zero, List.take_succ_cons, List.cons_append, Nat.reduceLeDiff, Int.cast_ofNat_Int, r1]
            simpa [he, e1, e2, e3, e4] using r3
          · rw [decide_eq_false e4] at cU
            simp only [WA, isStore, isCall, isK, freshI, stampO, List.nil_append, Option.map_some, Option.map_none, Option.bind_some, List.map_cons, List.map_nil, if_true, if_false, Nat.reduceEqDiff, Int.reduceEq, Nat.reduceAdd, Nat.reduceMul, reduceCtorEq, eq_self, Int.reduceLT, Int.reduceLE, Int.reduceToNat, List.length_cons, List.length_nil, List.all_cons, List.all_nil, List.take_zero, List.drop_nil, List.append_nil, List.getElem?_cons_zero, List.getElem?_cons_succ, List.drop_succ_cons, List.drop_zero, List.take_succ_cons, List.cons_append, Nat.reduceLeDiff, Int.cast_ofNat_Int, hlt, a1, a2, a3, a4, a5, b1, b2, b3, b4, b5, z1, z2, z3, cU]
            simp [he, e4]
        · have z3 : (x.err ≠ y.err) = True := by simp [e3]
          simp only [WA, isStore, isCall, isK, freshI, stampO, List.nil_append, Option.map_some, Option.map_none, Option.bind_some, List.map_cons, List.map_nil, if_true, if_false, Nat.reduceEqDiff, Int.reduceEq, Nat.reduceAdd, Nat.reduceMul, reduceCtorEq, eq_self, Int.reduceLT, Int.reduceLE, Int.reduceToNat, List.length_cons, List.length_nil, List.all_cons, List.all_nil, List.take_zero, List.drop_nil, List.append_nil, List.getElem?_cons_zero, List.getElem?_cons_succ, List.drop_succ_cons, List.drop_zero, List.take_succ_cons, List.cons_append, Nat.reduceLeDiff, Int.cast_ofNat_Int, hlt, a1, a2, a3, a4, a5, b1, b2, b3, b4, b5, z1, z2, z3]
          simp [he, e3]
      · have z2 : (x.len ≠ y.len) = True := by simp [e2]
        simp only [WA, isStore, isCall, isK, freshI, stampO, List.nil_append, Option.map_some, Option.map_none, Option.bind_some, List.map_cons, List.map_nil, if_true, if_false, Nat.reduceEqDiff, Int.reduceEq, Nat.reduceAdd, Nat.reduceMul, reduceCtorEq, eq_self, Int.reduceLT, Int.reduceLE, Int.reduceToNat, List.length_cons, List.length_nil, List.all_cons, List.all_nil, List.take_zero, List.drop_nil, List.append_nil, List.getElem?_cons_zero, List.getElem?_cons_succ, List.drop_succ_cons, List.drop_zero, List.take_succ_cons, List.cons_append, Nat.reduceLeDiff, Int.cast_ofNat_Int, hlt, a1, a2, a3, a4, a5, b1, b2, b3, b4, b5, z1, z2]
        simp [he, e2]
    · have z1 : (x.at_ ≠ y.at_) = True := by simp [e1]
      simp only [WA, isStore, isCall, isK, freshI, stampO, List.nil_append, Option.map_some, Option.map_none, Option.bind_some, List.map_cons, List.map_nil, if_true, if_false, Nat.reduceEqDiff, Int.reduceEq, Nat.reduceAdd, Nat.reduceMul, reduceCtorEq, eq_self, Int.reduceLT, Int.reduceLE, Int.reduceToNat, List.length_cons, List.length_nil, List.all_cons, List.all_nil, List.take_zero, List.drop_nil, List.append_nil, List.getElem?_cons_zero, List.getElem?_cons_succ, List.drop_succ_cons, List.drop_zero, List.take_succ_cons, List.cons_append, Nat.reduceLeDiff, Int.cast_ofNat_Int, hlt, a1, a2, a3, a4, a5, b1, b2, b3, b4, b5, z1]
      simp [he, e1]
theorem c_SameT {a b : Value} {A B : List Tok} {H : AHeap} (ha : Toks Try.prog H a A) (hb : Toks Try.prog H b B) : cw Try.prog (tabF tab) om1 17 [a, b] H = some (.bool (decide (A = B)), H) := by
  rw [cw_run (F := F_lontarlaw01_Same) rfl rfl rfl]
  unfold F_lontarlaw01_Same k_lontarlaw01_Same
  have la := fun H2 => ha.len (H2 := H2)
  have lb := fun H2 => hb.len (H2 := H2)
  by_cases hl : A.length = B.length
  · obtain ⟨x, e', H', r1, rfl, r3⟩ := l_SameT ha hb hl A.length 0 (by omega)
    have hne : (((A.length : Nat) : Int) ≠ ((B.length : Nat) : Int)) = False := by simp [hl]
    simp only [Int.cast_ofNat_Int] at r1
    simp only [WA, isStore, isCall, isK, freshI, stampO, List.nil_append, Option.map_some, Option.map_none, Option.bind_some, List.map_cons, List.map_nil, if_true, if_false, Nat.reduceEqDiff, Int.reduceEq, Nat.reduceAdd, Nat.reduceMul, reduceCtorEq, eq_self, Int.reduceLT, Int.reduceLE, Int.reduceToNat, List.length_cons, List.length_nil, List.all_cons, List.all_nil, List.take_zero, List.drop_nil, List.append_nil, List.getElem?_cons_zero, List.getElem?_cons_succ, List.drop_succ_cons, List.drop_zero, List.take_succ_cons, List.cons_append, Nat.reduceLeDiff, Int.cast_ofNat_Int, la, lb, hne]
    rw [w_enter]
    simp only [WA, isStore, isCall, isK, freshI, stampO, List.nil_append, Option.map_some, Option.map_none, Option.bind_some, List.map_cons, List.map_nil, if_true, if_false, Nat.reduceEqDiff, Int.reduceEq, Nat.reduceAdd, Nat.reduceMul, reduceCtorEq, eq_self, Int.reduceLT, Int.reduceLE, Int.reduceToNat, List.length_cons, List.length_nil, List.all_cons, List.all_nil, List.take_zero, List.drop_nil, List.append_nil, List.getElem?_cons_zero, List.getElem?_cons_succ, List.drop_succ_cons, List.drop_zero, List.take_succ_cons, List.cons_append, Nat.reduceLeDiff, Int.cast_ofNat_Int, r1]
    simp only [List.drop_zero] at r3
    split at r3
    · rename_i h
      subst r3
      simp only [WA, isStore, isCall, isK, freshI, stampO, List.nil_append, Option.map_some, Option.map_none, Option.bind_some, List.map_cons, List.map_nil, if_true, if_false, Nat.reduceEqDiff, Int.reduceEq, Nat.reduceAdd, Nat.reduceMul, reduceCtorEq, eq_self, Int.reduceLT, Int.reduceLE, Int.reduceToNat, List.length_cons, List.length_nil, List.all_cons, List.all_nil, List.take_zero, List.drop_nil, List.append_nil, List.getElem?_cons_zero, List.getElem?_cons_succ, List.drop_succ_cons, List.drop_zero, List.take_succ_cons, List.cons_append, Nat.reduceLeDiff, Int.cast_ofNat_Int, h]
    · rename_i h
      obtain ⟨rfl, r4⟩ := r3
      simp only [WA, isStore, isCall, isK, freshI, stampO, List.nil_append, Option.map_some, Option.map_none, Option.bind_some, List.map_cons, List.map_nil, if_true, if_false, Nat.reduceEqDiff, Int.reduceEq, Nat.reduceAdd, Nat.reduceMul, reduceCtorEq, eq_self, Int.reduceLT, Int.reduceLE, Int.reduceToNat, List.length_cons, List.length_nil, List.all_cons, List.all_nil, List.take_zero, List.drop_nil, List.append_nil, List.getElem?_cons_zero, List.getElem?_cons_succ, List.drop_succ_cons, List.drop_zero, List.take_succ_cons, List.cons_append, Nat.reduceLeDiff, Int.cast_ofNat_Int, r4, h]
  · have hne : (((A.length : Nat) : Int) ≠ ((B.length : Nat) : Int)) = True := by simp; omega
    have hab : ¬ A = B := fun h => hl (by rw [h])
    simp only [WA, isStore, isCall, isK, freshI, stampO, List.nil_append, Option.map_some, Option.map_none, Option.bind_some, List.map_cons, List.map_nil, if_true, if_false, Nat.reduceEqDiff, Int.reduceEq, Nat.reduceAdd, Nat.reduceMul, reduceCtorEq, eq_self, Int.reduceLT, Int.reduceLE, Int.reduceToNat, List.length_cons, List.length_nil, List.all_cons, List.all_nil, List.take_zero, List.drop_nil, List.append_nil, List.getElem?_cons_zero, List.getElem?_cons_succ, List.drop_succ_cons, List.drop_zero, List.take_succ_cons, List.cons_append, Nat.reduceLeDiff, Int.cast_ofNat_Int, la, lb, hne, hab]
theorem tk0 {c : Nat} {p : Option Addr} {t : Tok} : (tokC p c t)[0]? = some (.int .i64 t.at_) := rfl
theorem tk1 {c : Nat} {p : Option Addr} {t : Tok} : (tokC p c t)[1]? = some (.int .i64 t.len) := rfl
theorem tk2 {c : Nat} {p : Option Addr} {t : Tok} : (tokC p c t)[2]? = some (.slice p t.out.length c) := rfl
theorem tk3 {c : Nat} {p : Option Addr} {t : Tok} : (tokC p c t)[3]? = some (.int .i64 t.err) := rfl
/-- A token is right or wrong. -/
theorem oneT_is {L : List Rl} (hR : Right L) {us : List Int} (hn : us ≠ []) (a : Int) : (oneT L us a = ⟨a, 1, [], 3⟩ ∧ (lgs L us).1 < 0) ∨ ∃ (k n : Nat) (r : Rl), (lgs L us).1 = k ∧ (lgs L us).2.1 = n ∧ 0 < n ∧ n ≤ us.length ∧ L[k]? = some r ∧ r.1 = us.take n ∧ 0 < r.2.length ∧ r.2.length ≤ 8 ∧ oneT L us a = ⟨a, n, r.2, 0⟩ := by
  by_cases h0 : (lgs L us).1 < 0
  · left
    exact ⟨by unfold oneT; rw [if_pos h0], h0⟩
  · right
    obtain ⟨p1, p2, r, p3, p4, p5⟩ := lgs_pos hR h0
    obtain ⟨k, hk⟩ : ∃ k : Nat, (lgs L us).1 = k := ⟨(lgs L us).1.toNat, by omega⟩
    rw [hk] at p3
    have p3' : L[k]? = some r := p3
    obtain ⟨q1, q2⟩ := side_len ((hR.1 r (List.mem_of_getElem? p3')).2)
    refine ⟨k, _, r, hk, rfl, p1, p2, p3', p4, q1, q2, ?_⟩
    unfold oneT
    rw [if_neg h0, hk]
    simp only [Int.toNat_natCast, p3']
end Go.Proofs.Ytgonfmpmdahmcaa

/-! What all laws begin with: rules that are right, and their trie. -/
set_option linter.unusedSimpArgs false
set_option linter.unusedVariables false
namespace Go.Proofs.Ytgonfmpmdahmcaa
open Go Lon
set_option maxRecDepth 100000
theorem v_nilp {H : AHeap} {t : Nat} : vIsNil 0 false (.pointer (some ⟨t, 0, none⟩)) H = some (.bool false, H) := rfl
theorem start {a : Value} {R : List RowD} {H : AHeap} (ha : RowsAt H a R) : ∃ (v : Value) (H1 : AHeap) (t : Nat) (H2 : AHeap) (L : List Rl), cw Try.prog (tabF tab) om1 41 [a] H = some (v, H1) ∧ cw Try.prog (tabF tab) om1 42 [v] H1 = some (.tuple ⟨[.pointer (some ⟨t, 0, none⟩), .int .i64 0]⟩, H2) ∧ Ext H H2 ∧ TrieOk H2 t L ∧ Rules H2 v L ∧ CutR H2 v ∧ L.length ≤ 40 ∧ Right L := by
  obtain ⟨v1, H1, c1, x1, o1, k1⟩ := c_Right ha
  have h40 := RL_len R
  have hlen := rgt_len (L := RL R) (T := [])
  simp only [List.length_nil, Nat.zero_add] at hlen
  have hR := o1.rules (by omega)
  have hC : Cut Try.prog H1 v1 2 := o1.cut (by kernel_rfl)
  have hgood := rgt_good (L := RL R) Good.nil
  obtain ⟨v2, H2, c2, x2, t, rfl, hT⟩ := c_OfT hR hC hgood (by omega)
  exact ⟨v1, H1, t, H2, _, c1, c2, x1.trans x2, hT, hR.ext x2, k1.ext x2, by omega, hgood⟩
theorem min60 {n : Nat} : ∃ k : Nat, k ≤ n ∧ k ≤ 60 ∧ (if (60 : Int) < (n : Int) then (60 : Int) else (n : Int)) = (k : Int) := by
  refine ⟨min n 60, Nat.min_le_left _ _, Nat.min_le_right _ _, ?_⟩
  split <;> omega
end Go.Proofs.Ytgonfmpmdahmcaa

/-! Rules that have a table: whose beginnings are there. -/
set_option linter.unusedSimpArgs false
set_option linter.unusedVariables false
namespace Go.Proofs.Ytgonfmpmdahmcaa
open Go Lon
set_option maxRecDepth 100000
def lastU (l : List Int) : Int := (l[l.length - 1]?).getD 0
def udx (u : Int) : List Rl → Nat → Option Nat
  | [], _ => none
  | r :: L, i => if lastU r.1 = u then some i else udx u L (i + 1)
def usd (L : List Rl) (u : Int) : Bool := (udx u L 0).isSome
theorem udx_any {u : Int} : ∀ {L : List Rl} {i : Nat}, (udx u L i).isSome = L.any fun r => decide (lastU r.1 = u)
  | [], i => rfl
  | r :: L, i => by
    unfold udx
    rw [List.any_cons]
    split
    · rename_i h; simp [h]
    · rename_i h; rw [udx_any]; simp [h]
theorem last_at {H : AHeap} {v : Value} {l : List Int} (h : Ints H v l) (h0 : 0 < l.length) : ∃ i o, (∀ (kd : IntKind) (H2 : AHeap), vIaddr v (.int kd ((l.length - 1 : Nat) : Int)) 1 H2 = some (.pointer (some ⟨i, o, none⟩), H2)) ∧ gotLoad (H.get i) o none H = some (.int .i64 (lastU l), H) := by
  have hl : l[l.length - 1]? = some (lastU l) := by unfold lastU; rw [List.getElem?_eq_getElem (show l.length - 1 < l.length by omega)]; rfl
  exact h.at hl
theorem c_used1 {ai ao : Option Addr} {ci no co q : Nat} {u : Int} {li : List Int} {H : AHeap} (hi : Ints H (.slice ai li.length ci) li) (h0 : 0 < li.length) (hs : tiny li) (hq : H.get q = some ⟨[.int .i64 u], 3, .tip, 0, []⟩) :
    Gives (cw Try.prog (tabF tab) om1 68 [.agg ⟨[.slice ai li.length ci, .slice ao no co]⟩, .pointer (some ⟨q, 0, none⟩)] H) fun v H' => Ext H H' ∧ v = .bool (decide (lastU li = u)) := by
  rw [cw_run (F := F_table_used_1) rfl rfl rfl]
  unfold F_table_used_1 k_table_used_1
  have hx1 := Ext.push H ⟨[.slice ai li.length ci, .slice ao no co], 46, .tip, 0, []⟩
  have hbx : vBox (.agg ⟨[.slice ai li.length ci, .slice ao no co]⟩) 46 H = some (.pointer (some ⟨H.n, 0, none⟩), H.push ⟨[.slice ai li.length ci, .slice ao no co], 46, .tip, 0, []⟩) := v_box rfl
  obtain ⟨H1, hH1⟩ : ∃ H1, H1 = H.push ⟨[.slice ai li.length ci, .slice ao no co], 46, .tip, 0, []⟩ := ⟨_, rfl⟩
  have g1 : H1.get H.n = some ⟨[.slice ai li.length ci, .slice ao no co], 46, .tip, 0, []⟩ := by rw [hH1]; exact get_push_self
  rw [← hH1] at hx1 hbx
  have hq2 := hx1.get hq
  obtain ⟨i1, o1, a1, a2⟩ := last_at (hi.ext hx1) h0
  have hl : ∀ H2 : AHeap, vLen false (.slice ai li.length ci) H2 = some (.int .i64 li.length, H2) := fun H2 => Sl.len hi
  unfold Lon.tiny at hs
  have hw : IntKind.i64.wrap ((li.length : Int) - 1) = ((li.length - 1 : Nat) : Int) := by rw [wrap64 (by omega) (by omega)]; omega
  simp only [WA, isStore, isCall, isK, freshI, stampO, List.nil_append, Option.map_some, Option.map_none, Option.bind_some, List.map_cons, List.map_nil, if_true, if_false, Nat.reduceEqDiff, Int.reduceEq, Nat.reduceAdd, Nat.reduceMul, reduceCtorEq, eq_self, Int.reduceLT, Int.reduceLE, Int.reduceToNat, List.length_cons, List.length_nil, List.all_cons, List.all_nil, List.take_zero, List.drop_nil, List.append_nil, List.getElem?_cons_zero, List.getElem?_cons_succ, List.drop_succ_cons, List.drop_zero, List.take_succ_cons, List.cons_append, Nat.reduceLeDiff, Int.cast_ofNat_Int, hbx, g1, hq2, hl, hw, a1, a2]
  exact hx1
theorem l_IdxU {a : Value} {q : Nat} {L : List Rl} {u : Int} (h0 : ∀ r ∈ L, 0 < r.1.length) : ∀ (k i : Nat) (H : AHeap), i + k = L.length → Rules H a L → H.get q = some ⟨[.int .i64 u], 3, .tip, 0, []⟩ →
    Out (run Try.prog (tabF tab) om1 (.loop [0, 1, 7, 8] b_api_Rule__0) [(0, a), (1, .func (.func 68) ⟨[]⟩ ⟨[.pointer (some ⟨q, 0, none⟩)]⟩), (7, .int .i64 L.length), (8, .int .i64 i)] H) fun y e' H' => Ext H H' ∧
      match udx u (L.drop i) i with | some j => y = .ret ∧ eget e' 4 = .int .i64 j | none => y = .exit 0 := by
  intro k
  induction k with
  | zero =>
    intro i H hi ha hq
    have hlt : ¬ ((i : Int) < L.length) := by omega
    rw [w_loop_b b_api_Rule__0.eq_1, List.drop_of_length_le (by omega)]
    simp only [WA, isStore, isCall, isK, freshI, stampO, List.nil_append, Option.map_some, Option.map_none, Option.bind_some, List.map_cons, List.map_nil, if_true, if_false, Nat.reduceEqDiff, Int.reduceEq, Nat.reduceAdd, Nat.reduceMul, reduceCtorEq, eq_self, Int.reduceLT, Int.reduceLE, Int.reduceToNat, List.length_cons, List.length_nil, List.all_cons, List.all_nil, List.take_zero, List.drop_nil, List.append_nil, List.getElem?_cons_zero, List.getElem?_cons_succ, List.drop_succ_cons, List.drop_zero, List.take_succ_cons, List.cons_append, Nat.reduceLeDiff, Int.cast_ofNat_Int, hlt, udx]
    exact Ext.refl _
  | succ k ih =>
    intro i H hi ha hq
    have hL := ha.1
    have hlt : (i : Int) < L.length := by omega
    obtain ⟨r, hr, hdr⟩ := drop_at (L := L) (i := i) (by omega)
    obtain ⟨i1, o1, vi, vo, h1, h2, h3, h4, h5, h6, h7, h8⟩ := ha.at hr
    have h5' := h5
    have h6' := h6
    obtain ⟨⟨ai, ci, rfl⟩, _⟩ := h5'
    obtain ⟨⟨ao, co, rfl⟩, _⟩ := h6'
    obtain ⟨v, H1, c1, c2, rfl⟩ := c_used1 (ao := ao) (no := r.2.length) (co := co) h5 (h0 r (List.mem_of_getElem? hr)) h7 hq
    have hw2 : IntKind.i64.wrap ((i : Int) + 1) = ((i + 1 : Nat) : Int) := by rw [wrap64 (by omega) (by omega)]; omega
    rw [w_loop_b b_api_Rule__0.eq_1, hdr]
    unfold udx
    by_cases he : lastU r.1 = u
    · simp only [he] at c1
      simp only [WA, isStore, isCall, isK, freshI, stampO, List.nil_append, Option.map_some, Option.map_none, Option.bind_some, List.map_cons, List.map_nil, if_true, if_false, Nat.reduceEqDiff, Int.reduceEq, Nat.reduceAdd, Nat.reduceMul, reduceCtorEq, eq_self, Int.reduceLT, Int.reduceLE, Int.reduceToNat, List.length_cons, List.length_nil, List.all_cons, List.all_nil, List.take_zero, List.drop_nil, List.append_nil, List.getElem?_cons_zero, List.getElem?_cons_succ, List.drop_succ_cons, List.drop_zero, List.take_succ_cons, List.cons_append, Nat.reduceLeDiff, Int.cast_ofNat_Int, hlt, h1, h4, v_call1, c1, he]
      exact c2
    · obtain ⟨z, e', H', r1, r2, r3⟩ := ih (i + 1) H1 (by omega) (ha.ext c2) (c2.get hq)
      simp only [he] at c1
      simp only [WA, isStore, isCall, isK, freshI, stampO, List.nil_append, Option.map_some, Option.map_none, Option.bind_some, List.map_cons, List.map_nil, if_true, if_false, Nat.reduceEqDiff, Int.reduceEq, Nat.reduceAdd, Nat.reduceMul, reduceCtorEq, eq_self, Int.reduceLT, Int.reduceLE, Int.reduceToNat, List.length_cons, List.length_nil, List.all_cons, List.all_nil, List.take_zero, List.drop_nil, List.append_nil, List.getElem?_cons_zero, List.getElem?_cons_succ, List.drop_succ_cons, List.drop_zero, List.take_succ_cons, List.cons_append, Nat.reduceLeDiff, Int.cast_ofNat_Int, hlt, h1, h4, v_call1, c1, he, hw2]
      rw [w_enter]
      simp only [WA, isStore, isCall, isK, freshI, stampO, List.nil_append, Option.map_some, Option.map_none, Option.bind_some, List.map_cons, List.map_nil, if_true, if_false, Nat.reduceEqDiff, Int.reduceEq, Nat.reduceAdd, Nat.reduceMul, reduceCtorEq, eq_self, Int.reduceLT, Int.reduceLE, Int.reduceToNat, List.length_cons, List.length_nil, List.all_cons, List.all_nil, List.take_zero, List.drop_nil, List.append_nil, List.getElem?_cons_zero, List.getElem?_cons_succ, List.drop_succ_cons, List.drop_zero, List.take_succ_cons, List.cons_append, Nat.reduceLeDiff, Int.cast_ofNat_Int, r1]
      exact ⟨c2.trans r2, r3⟩
theorem c_used {a : Value} {L : List Rl} {u : Int} {H : AHeap} (ha : Rules H a L) (h0 : ∀ r ∈ L, 0 < r.1.length) : Gives (cw Try.prog (tabF tab) om1 61 [a, .int .i64 u] H) fun v H' => Ext H H' ∧ v = .bool (usd L u) := by
  rw [cw_run (F := F_table_used) rfl rfl rfl]
  unfold F_table_used k_table_used
  have hbx : vBox (.int .i64 u) 3 H = some (.pointer (some ⟨H.n, 0, none⟩), H.push ⟨[.int .i64 u], 3, .tip, 0, []⟩) := v_box rfl
  have hx1 := Ext.push H ⟨[.int .i64 u], 3, .tip, 0, []⟩
  have inner : Gives (cw Try.prog (tabF tab) om1 55 [a, .func (.func 68) ⟨[]⟩ ⟨[.pointer (some ⟨H.n, 0, none⟩)]⟩] (H.push ⟨[.int .i64 u], 3, .tip, 0, []⟩)) fun v H' => Ext (H.push ⟨[.int .i64 u], 3, .tip, 0, []⟩) H' ∧ v = .int .i64 (match udx u L 0 with | some j => (j : Int) | none => -1) := by
    rw [cw_run (F := F_api_Rule_) rfl rfl rfl]
    unfold F_api_Rule_ k_api_Rule_
    obtain ⟨y, e', H', r1, r2, r3⟩ := l_IdxU h0 L.length 0 _ (by omega) (ha.ext hx1) get_push_self
    simp only [Int.cast_ofNat_Int] at r1
    simp only [WA, isStore, isCall, isK, freshI, stampO, List.nil_append, Option.map_some, Option.map_none, Option.bind_some, List.map_cons, List.map_nil, if_true, if_false, Nat.reduceEqDiff, Int.reduceEq, Nat.reduceAdd, Nat.reduceMul, reduceCtorEq, eq_self, Int.reduceLT, Int.reduceLE, Int.reduceToNat, List.length_cons, List.length_nil, List.all_cons, List.all_nil, List.take_zero, List.drop_nil, List.append_nil, List.getElem?_cons_zero, List.getElem?_cons_succ, List.drop_succ_cons, List.drop_zero, List.take_succ_cons, List.cons_append, Nat.reduceLeDiff, Int.cast_ofNat_Int, ha.len]
    rw [w_enter]
    simp only [WA, isStore, isCall, isK, freshI, stampO, List.nil_append, Option.map_some, Option.map_none, Option.bind_some, List.map_cons, List.map_nil, if_true, if_false, Nat.reduceEqDiff, Int.reduceEq, Nat.reduceAdd, Nat.reduceMul, reduceCtorEq, eq_self, Int.reduceLT, Int.reduceLE, Int.reduceToNat, List.length_cons, List.length_nil, List.all_cons, List.all_nil, List.take_zero, List.drop_nil, List.append_nil, List.getElem?_cons_zero, List.getElem?_cons_succ, List.drop_succ_cons, List.drop_zero, List.take_succ_cons, List.cons_append, Nat.reduceLeDiff, Int.cast_ofNat_Int, r1]
    rw [List.drop_zero] at r3
    cases hf : udx u L 0 with
    | none =>
      rw [hf] at r3
      subst r3
      simp only [WA, isStore, isCall, isK, freshI, stampO, List.nil_append, Option.map_some, Option.map_none, Option.bind_some, List.map_cons, List.map_nil, if_true, if_false, Nat.reduceEqDiff, Int.reduceEq, Nat.reduceAdd, Nat.reduceMul, reduceCtorEq, eq_self, Int.reduceLT, Int.reduceLE, Int.reduceToNat, List.length_cons, List.length_nil, List.all_cons, List.all_nil, List.take_zero, List.drop_nil, List.append_nil, List.getElem?_cons_zero, List.getElem?_cons_succ, List.drop_succ_cons, List.drop_zero, List.take_succ_cons, List.cons_append, Nat.reduceLeDiff, Int.cast_ofNat_Int]
      exact r2
    | some j =>
      rw [hf] at r3
      obtain ⟨rfl, r4⟩ := r3
      simp only [WA, isStore, isCall, isK, freshI, stampO, List.nil_append, Option.map_some, Option.map_none, Option.bind_some, List.map_cons, List.map_nil, if_true, if_false, Nat.reduceEqDiff, Int.reduceEq, Nat.reduceAdd, Nat.reduceMul, reduceCtorEq, eq_self, Int.reduceLT, Int.reduceLE, Int.reduceToNat, List.length_cons, List.length_nil, List.all_cons, List.all_nil, List.take_zero, List.drop_nil, List.append_nil, List.getElem?_cons_zero, List.getElem?_cons_succ, List.drop_succ_cons, List.drop_zero, List.take_succ_cons, List.cons_append, Nat.reduceLeDiff, Int.cast_ofNat_Int, r4]
      exact r2
  obtain ⟨v, H', c1, c2, rfl⟩ := inner
  have mid : Gives (cw Try.prog (tabF tab) om1 67 [a, .func (.func 68) ⟨[]⟩ ⟨[.pointer (some ⟨H.n, 0, none⟩)]⟩] (H.push ⟨[.int .i64 u], 3, .tip, 0, []⟩)) fun v H' => Ext (H.push ⟨[.int .i64 u], 3, .tip, 0, []⟩) H' ∧ v = .bool (usd L u) := by
    rw [cw_run (F := F_cf_Rule_) rfl rfl rfl]
    unfold F_cf_Rule_ k_cf_Rule_ usd
    cases hb : udx u L 0 with
    | none =>
      rw [hb] at c1
      have h0 : ¬ (-1 : Int) ≥ 0 := by decide
      simp only [WA, isStore, isCall, isK, freshI, stampO, List.nil_append, Option.map_some, Option.map_none, Option.bind_some, List.map_cons, List.map_nil, if_true, if_false, Nat.reduceEqDiff, Int.reduceEq, Nat.reduceAdd, Nat.reduceMul, reduceCtorEq, eq_self, Int.reduceLT, Int.reduceLE, Int.reduceToNat, List.length_cons, List.length_nil, List.all_cons, List.all_nil, List.take_zero, List.drop_nil, List.append_nil, List.getElem?_cons_zero, List.getElem?_cons_succ, List.drop_succ_cons, List.drop_zero, List.take_succ_cons, List.cons_append, Nat.reduceLeDiff, Int.cast_ofNat_Int, c1, h0, Option.isSome_none]
      exact c2
    | some j =>
      rw [hb] at c1
      have h0 : (j : Int) ≥ 0 := by omega
      simp only [WA, isStore, isCall, isK, freshI, stampO, List.nil_append, Option.map_some, Option.map_none, Option.bind_some, List.map_cons, List.map_nil, if_true, if_false, Nat.reduceEqDiff, Int.reduceEq, Nat.reduceAdd, Nat.reduceMul, reduceCtorEq, eq_self, Int.reduceLT, Int.reduceLE, Int.reduceToNat, List.length_cons, List.length_nil, List.all_cons, List.all_nil, List.take_zero, List.drop_nil, List.append_nil, List.getElem?_cons_zero, List.getElem?_cons_succ, List.drop_succ_cons, List.drop_zero, List.take_succ_cons, List.cons_append, Nat.reduceLeDiff, Int.cast_ofNat_Int, c1, h0, Option.isSome_some]
      exact c2
  obtain ⟨v, H2, c3, c4, rfl⟩ := mid
  simp only [WA, isStore, isCall, isK, freshI, stampO, List.nil_append, Option.map_some, Option.map_none, Option.bind_some, List.map_cons, List.map_nil, if_true, if_false, Nat.reduceEqDiff, Int.reduceEq, Nat.reduceAdd, Nat.reduceMul, reduceCtorEq, eq_self, Int.reduceLT, Int.reduceLE, Int.reduceToNat, List.length_cons, List.length_nil, List.all_cons, List.all_nil, List.take_zero, List.drop_nil, List.append_nil, List.getElem?_cons_zero, List.getElem?_cons_succ, List.drop_succ_cons, List.drop_zero, List.take_succ_cons, List.cons_append, Nat.reduceLeDiff, Int.cast_ofNat_Int, hbx, c3]
  exact hx1.trans c4
/-! Whether rules are closed. -/
def badN (L : List Rl) (r : List Int) (n : Nat) : Bool := decide (fnd L (r.take n) < 0) && (decide (1 < n) || usd L (r.getD 0 0))
def clsIn (L : List Rl) (r : List Int) : Nat → Bool
  | 0 => true
  | n + 1 => if badN L r (n + 1) = true then false else clsIn L r n
def clsF (L : List Rl) : List Rl → Bool
  | [] => true
  | r :: R => if clsIn L r.1 (r.1.length - 1) = true then clsF L R else false
theorem clsIn_iff {L : List Rl} {r : List Int} : ∀ {n : Nat}, clsIn L r n = true ↔ ∀ m, 1 ≤ m → m ≤ n → badN L r m = false
  | 0 => by simp [clsIn]; intro m h1 h2; omega
  | n + 1 => by
    unfold clsIn
    split
    · rename_i h
      simp only [Bool.false_eq_true, false_iff]
      intro hh
      rw [hh (n + 1) (by omega) (Nat.le_refl _)] at h
      cases h
    · rename_i h
      rw [clsIn_iff]
      constructor
      · intro hh m h1 h2
        rcases Nat.lt_or_ge n m with h3 | h3
        · obtain rfl : m = n + 1 := by omega
          simpa using h
        · exact hh m h1 h3
      · intro hh m h1 h2
        exact hh m h1 (by omega)
theorem l_clIn {a : Value} {L : List Rl} {q : Nat} {ai ao : Option Addr} {ci no co : Nat} {r : List Int} {z6 z7 z8 : Value} (h0 : ∀ r ∈ L, 0 < r.1.length) (hr0 : 0 < r.length) (hrt : tiny r) : ∀ (n : Nat) (H : AHeap), n < r.length → Rules H a L → H.get q = some ⟨[.slice ai r.length ci, .slice ao no co], 46, .tip, 1, []⟩ → Ints H (.slice ai r.length ci) r → Cut Try.prog H (.slice ai r.length ci) 1 →
    Out (run Try.prog (tabF tab) om1 (.loop [0, 4, 5, 6, 7, 8] b_table_closed_0) [(0, a), (4, .pointer (some ⟨q, 0, none⟩)), (5, .int .i64 n), (6, z6), (7, z7), (8, z8)] H) fun y e' H' => Ext H H' ∧ if clsIn L r n = true then y = .exit 2 ∧ eget e' 0 = a ∧ eget e' 6 = z6 ∧ eget e' 7 = z7 ∧ eget e' 8 = z8 else y = .ret ∧ eget e' 2 = .bool false := by
  intro n
  induction n with
  | zero =>
    intro H hn ha hq hI hC
    have z : ((0 : Int) > 0) = False := by simp
    rw [w_loop_b b_table_closed_0.eq_1]
    simp only [WA, isStore, isCall, isK, freshI, stampO, List.nil_append, Option.map_some, Option.map_none, Option.bind_some, List.map_cons, List.map_nil, if_true, if_false, Nat.reduceEqDiff, Int.reduceEq, Nat.reduceAdd, Nat.reduceMul, reduceCtorEq, eq_self, Int.reduceLT, Int.reduceLE, Int.reduceToNat, List.length_cons, List.length_nil, List.all_cons, List.all_nil, List.take_zero, List.drop_nil, List.append_nil, List.getElem?_cons_zero, List.getElem?_cons_succ, List.drop_succ_cons, List.drop_zero, List.take_succ_cons, List.cons_append, Nat.reduceLeDiff, Int.cast_ofNat_Int, Int.natCast_zero, z, clsIn]
    exact Ext.refl _
  | succ n ih =>
    intro H hn ha hq hI hC
    unfold Lon.tiny at hrt
    have z : (((n + 1 : Nat) : Int) > 0) = True := by simp only [eq_iff_iff, iff_true]; omega
    obtain ⟨v', s1, s2, s3⟩ := hI.take hC (show n + 1 ≤ r.length by omega)
    have s1' := s1 .i64
    obtain ⟨v, H1, c1, x1, rfl⟩ := c_Find ha s2
    have hw : IntKind.i64.wrap (((n + 1 : Nat) : Int) - 1) = (n : Int) := by rw [wrap64 (by omega) (by omega)]; omega
    obtain ⟨u0, hu0⟩ : ∃ u, r[0]? = some u := ⟨_, List.getElem?_eq_getElem hr0⟩
    obtain ⟨i1, o1, a1, a2⟩ := (hI.ext x1).at hu0
    have a1' := a1 .i64
    simp only [Int.cast_ofNat_Int] at a1'
    have hgd : r.getD 0 0 = u0 := by rw [List.getD_eq_getElem?_getD, hu0]; rfl
    obtain ⟨v2, H2, c2, x2, rfl⟩ := c_used (u := u0) (ha.ext x1) h0
    have hq1 := x1.get hq
    rw [w_loop_b b_table_closed_0.eq_1]
    unfold clsIn badN
    rw [hgd]
    by_cases f1 : fnd L (r.take (n + 1)) < 0
    · by_cases f2 : ((n + 1 : Nat) : Int) > 1
      · have f2' : 1 < n + 1 := by omega
        simp only [WA, isStore, isCall, isK, freshI, stampO, List.nil_append, Option.map_some, Option.map_none, Option.bind_some, List.map_cons, List.map_nil, if_true, if_false, Nat.reduceEqDiff, Int.reduceEq, Nat.reduceAdd, Nat.reduceMul, reduceCtorEq, eq_self, Int.reduceLT, Int.reduceLE, Int.reduceToNat, List.length_cons, List.length_nil, List.all_cons, List.all_nil, List.take_zero, List.drop_nil, List.append_nil, List.getElem?_cons_zero, List.getElem?_cons_succ, List.drop_succ_cons, List.drop_zero, List.take_succ_cons, List.cons_append, Nat.reduceLeDiff, Int.cast_ofNat_Int, hq, z, s1', c1, f1, f2, f2', Bool.true_or]
        exact x1
      · have f2' : ¬ 1 < n + 1 := by omega
        cases f3 : usd L u0 with
        | true =>
          rw [f3] at c2
          simp only [WA, isStore, isCall, isK, freshI, stampO, List.nil_append, Option.map_some, Option.map_none, Option.bind_some, List.map_cons, List.map_nil, if_true, if_false, Nat.reduceEqDiff, Int.reduceEq, Nat.reduceAdd, Nat.reduceMul, reduceCtorEq, eq_self, Int.reduceLT, Int.reduceLE, Int.reduceToNat, List.length_cons, List.length_nil, List.all_cons, List.all_nil, List.take_zero, List.drop_nil, List.append_nil, List.getElem?_cons_zero, List.getElem?_cons_succ, List.drop_succ_cons, List.drop_zero, List.take_succ_cons, List.cons_append, Nat.reduceLeDiff, Int.cast_ofNat_Int, hq, z, s1', c1, f1, f2, f2', hq1, a1', a2, c2, Bool.or_true]
          exact x1.trans x2
        | false =>
          rw [f3] at c2
          obtain ⟨y, e', H', r1, r2, r3⟩ := ih H2 (by omega) (ha.ext (x1.trans x2)) ((x1.trans x2).get hq) (hI.ext (x1.trans x2)) (hC.ext (x1.trans x2))
          simp only [WA, isStore, isCall, isK, freshI, stampO, List.nil_append, Option.map_some, Option.map_none, Option.bind_some, List.map_cons, List.map_nil, if_true, if_false, Nat.reduceEqDiff, Int.reduceEq, Nat.reduceAdd, Nat.reduceMul, reduceCtorEq, eq_self, Int.reduceLT, Int.reduceLE, Int.reduceToNat, List.length_cons, List.length_nil, List.all_cons, List.all_nil, List.take_zero, List.drop_nil, List.append_nil, List.getElem?_cons_zero, List.getElem?_cons_succ, List.drop_succ_cons, List.drop_zero, List.take_succ_cons, List.cons_append, Nat.reduceLeDiff, Int.cast_ofNat_Int, hq, z, s1', c1, f1, f2, f2', hq1, a1', a2, c2, Bool.or_self, Bool.and_false, Bool.false_eq_true, hw]
          rw [w_enter]
          simp only [WA, isStore, isCall, isK, freshI, stampO, List.nil_append, Option.map_some, Option.map_none, Option.bind_some, List.map_cons, List.map_nil, if_true, if_false, Nat.reduceEqDiff, Int.reduceEq, Nat.reduceAdd, Nat.reduceMul, reduceCtorEq, eq_self, Int.reduceLT, Int.reduceLE, Int.reduceToNat, List.length_cons, List.length_nil, List.all_cons, List.all_nil, List.take_zero, List.drop_nil, List.append_nil, List.getElem?_cons_zero, List.getElem?_cons_succ, List.drop_succ_cons, List.drop_zero, List.take_succ_cons, List.cons_append, Nat.reduceLeDiff, Int.cast_ofNat_Int, r1]
          exact ⟨(x1.trans x2).trans r2, r3⟩
    · obtain ⟨y, e', H', r1, r2, r3⟩ := ih H1 (by omega) (ha.ext x1) hq1 (hI.ext x1) (hC.ext x1)
      simp only [WA, isStore, isCall, isK, freshI, stampO, List.nil_append, Option.map_some, Option.map_none, Option.bind_some, List.map_cons, List.map_nil, if_true, if_false, Nat.reduceEqDiff, Int.reduceEq, Nat.reduceAdd, Nat.reduceMul, reduceCtorEq, eq_self, Int.reduceLT, Int.reduceLE, Int.reduceToNat, List.length_cons, List.length_nil, List.all_cons, List.all_nil, List.take_zero, List.drop_nil, List.append_nil, List.getElem?_cons_zero, List.getElem?_cons_succ, List.drop_succ_cons, List.drop_zero, List.take_succ_cons, List.cons_append, Nat.reduceLeDiff, Int.cast_ofNat_Int, hq, z, s1', c1, f1, Bool.false_and, Bool.false_eq_true, hw]
      rw [w_enter]
      simp only [WA, isStore, isCall, isK, freshI, stampO, List.nil_append, Option.map_some, Option.map_none, Option.bind_some, List.map_cons, List.map_nil, if_true, if_false, Nat.reduceEqDiff, Int.reduceEq, Nat.reduceAdd, Nat.reduceMul, reduceCtorEq, eq_self, Int.reduceLT, Int.reduceLE, Int.reduceToNat, List.length_cons, List.length_nil, List.all_cons, List.all_nil, List.take_zero, List.drop_nil, List.append_nil, List.getElem?_cons_zero, List.getElem?_cons_succ, List.drop_succ_cons, List.drop_zero, List.take_succ_cons, List.cons_append, Nat.reduceLeDiff, Int.cast_ofNat_Int, r1]
      exact ⟨x1.trans r2, r3⟩
theorem l_closed {a : Value} {L : List Rl} (h0 : ∀ r ∈ L, 0 < r.1.length) : ∀ (k i : Nat) (H : AHeap), i + k = L.length → Rules H a L → CutR H a →
    Out (run Try.prog (tabF tab) om1 (.loop [0, 6, 7, 8] b_table_closed_1) [(0, a), (6, a), (7, .int .i64 L.length), (8, .int .i64 i)] H) fun y e' H' => Ext H H' ∧ if clsF L (L.drop i) = true then y = .exit 0 else y = .ret ∧ eget e' 2 = .bool false := by
  intro k
  induction k with
  | zero =>
    intro i H hi ha hac
    have hlt : ¬ ((i : Int) < L.length) := by omega
    rw [w_loop_b b_table_closed_1.eq_1, List.drop_of_length_le (by omega)]
    simp only [WA, isStore, isCall, isK, freshI, stampO, List.nil_append, Option.map_some, Option.map_none, Option.bind_some, List.map_cons, List.map_nil, if_true, if_false, Nat.reduceEqDiff, Int.reduceEq, Nat.reduceAdd, Nat.reduceMul, reduceCtorEq, eq_self, Int.reduceLT, Int.reduceLE, Int.reduceToNat, List.length_cons, List.length_nil, List.all_cons, List.all_nil, List.take_zero, List.drop_nil, List.append_nil, List.getElem?_cons_zero, List.getElem?_cons_succ, List.drop_succ_cons, List.drop_zero, List.take_succ_cons, List.cons_append, Nat.reduceLeDiff, Int.cast_ofNat_Int, hlt, clsF]
    exact Ext.refl _
  | succ k ih =>
    intro i H hi ha hac
    have hL := ha.1
    have hlt : (i : Int) < L.length := by omega
    obtain ⟨r, hr, hdr⟩ := drop_at (L := L) (i := i) (by omega)
    obtain ⟨i1, o1, vi, vo, h1, h2, h3, h4, h5, h6, h7, h8, h9, h10⟩ := Rules.atC ha hac hr
    have h5' := h5
    have h6' := h6
    obtain ⟨⟨ai, ci, rfl⟩, _⟩ := h5'
    obtain ⟨⟨ao, co, rfl⟩, _⟩ := h6'
    have hr0 := h0 r (List.mem_of_getElem? hr)
    have hx1 := Ext.push H ⟨[.slice ai r.1.length ci, .slice ao r.2.length co], 46, .tip, 1, []⟩
    obtain ⟨H1, hH1⟩ : ∃ H1, H1 = H.push ⟨[.slice ai r.1.length ci, .slice ao r.2.length co], 46, .tip, 1, []⟩ := ⟨_, rfl⟩
    have g1 : H1.get H.n = some ⟨[.slice ai r.1.length ci, .slice ao r.2.length co], 46, .tip, 1, []⟩ := by rw [hH1]; exact get_push_self
    rw [← hH1] at hx1
    have hlr : ∀ H2 : AHeap, vLen false (.slice ai r.1.length ci) H2 = some (.int .i64 r.1.length, H2) := fun H2 => Sl.len h5
    have h7' := h7
    unfold Lon.tiny at h7'
    have hw : IntKind.i64.wrap ((r.1.length : Int) - 1) = ((r.1.length - 1 : Nat) : Int) := by rw [wrap64 (by omega) (by omega)]; omega
    have hw2 : IntKind.i64.wrap ((i : Int) + 1) = ((i + 1 : Nat) : Int) := by rw [wrap64 (by omega) (by omega)]; omega
    obtain ⟨y, e', H2, r1, x2, r3⟩ := l_clIn (a := a) (L := L) (z6 := a) (z7 := .int .i64 L.length) (z8 := .int .i64 i) h0 hr0 h7 (r.1.length - 1) H1 (by omega) (ha.ext hx1) g1 (h5.ext hx1) (h9.ext hx1)
    rw [w_loop_b b_table_closed_1.eq_1, hdr]
    unfold clsF
    split at r3
    · rename_i hc
      obtain ⟨rfl, q1, q2, q3, q4⟩ := r3
      obtain ⟨y, e2, H3, t1, t2, t3⟩ := ih (i + 1) H2 (by omega) (ha.ext (hx1.trans x2)) (hac.ext (hx1.trans x2))
      rw [if_pos hc]
      simp only [WA, isStore, isCall, isK, freshI, stampO, List.nil_append, Option.map_some, Option.map_none, Option.bind_some, List.map_cons, List.map_nil, if_true, if_false, Nat.reduceEqDiff, Int.reduceEq, Nat.reduceAdd, Nat.reduceMul, reduceCtorEq, eq_self, Int.reduceLT, Int.reduceLE, Int.reduceToNat, List.length_cons, List.length_nil, List.all_cons, List.all_nil, List.take_zero, List.drop_nil, List.append_nil, List.getElem?_cons_zero, List.getElem?_cons_succ, List.drop_succ_cons, List.drop_zero, List.take_succ_cons, List.cons_append, Nat.reduceLeDiff, Int.cast_ofNat_Int, hlt, h1, h4, ← hH1, g1, hlr, hw]
      rw [w_enter]
      simp only [WA, isStore, isCall, isK, freshI, stampO, List.nil_append, Option.map_some, Option.map_none, Option.bind_some, List.map_cons, List.map_nil, if_true, if_false, Nat.reduceEqDiff, Int.reduceEq, Nat.reduceAdd, Nat.reduceMul, reduceCtorEq, eq_self, Int.reduceLT, Int.reduceLE, Int.reduceToNat, List.length_cons, List.length_nil, List.all_cons, List.all_nil, List.take_zero, List.drop_nil, List.append_nil, List.getElem?_cons_zero, List.getElem?_cons_succ, List.drop_succ_cons, List.drop_zero, List.take_succ_cons, List.cons_append, Nat.reduceLeDiff, Int.cast_ofNat_Int, r1, q1, q2, q3, q4, hw2]
      rw [w_enter]
      simp only [WA, isStore, isCall, isK, freshI, stampO, List.nil_append, Option.map_some, Option.map_none, Option.bind_some, List.map_cons, List.map_nil, if_true, if_false, Nat.reduceEqDiff, Int.reduceEq, Nat.reduceAdd, Nat.reduceMul, reduceCtorEq, eq_self, Int.reduceLT, Int.reduceLE, Int.reduceToNat, List.length_cons, List.length_nil, List.all_cons, List.all_nil, List.take_zero, List.drop_nil, List.append_nil, List.getElem?_cons_zero, List.getElem?_cons_succ, List.drop_succ_cons, List.drop_zero, List.take_succ_cons, List.cons_append, Nat.reduceLeDiff, Int.cast_ofNat_Int, q1, q2, q3, q4, t1]
      exact ⟨(hx1.trans x2).trans t2, t3⟩
    · rename_i hc
      obtain ⟨rfl, q1⟩ := r3
      rw [if_neg hc]
      simp only [WA, isStore, isCall, isK, freshI, stampO, List.nil_append, Option.map_some, Option.map_none, Option.bind_some, List.map_cons, List.map_nil, if_true, if_false, Nat.reduceEqDiff, Int.reduceEq, Nat.reduceAdd, Nat.reduceMul, reduceCtorEq, eq_self, Int.reduceLT, Int.reduceLE, Int.reduceToNat, List.length_cons, List.length_nil, List.all_cons, List.all_nil, List.take_zero, List.drop_nil, List.append_nil, List.getElem?_cons_zero, List.getElem?_cons_succ, List.drop_succ_cons, List.drop_zero, List.take_succ_cons, List.cons_append, Nat.reduceLeDiff, Int.cast_ofNat_Int, hlt, h1, h4, ← hH1, g1, hlr, hw]
      rw [w_enter]
      simp only [WA, isStore, isCall, isK, freshI, stampO, List.nil_append, Option.map_some, Option.map_none, Option.bind_some, List.map_cons, List.map_nil, if_true, if_false, Nat.reduceEqDiff, Int.reduceEq, Nat.reduceAdd, Nat.reduceMul, reduceCtorEq, eq_self, Int.reduceLT, Int.reduceLE, Int.reduceToNat, List.length_cons, List.length_nil, List.all_cons, List.all_nil, List.take_zero, List.drop_nil, List.append_nil, List.getElem?_cons_zero, List.getElem?_cons_succ, List.drop_succ_cons, List.drop_zero, List.take_succ_cons, List.cons_append, Nat.reduceLeDiff, Int.cast_ofNat_Int, r1, q1]
      exact hx1.trans x2
theorem c_closed {a : Value} {L : List Rl} {H : AHeap} (ha : Rules H a L) (hac : CutR H a) (h0 : ∀ r ∈ L, 0 < r.1.length) : Gives (cw Try.prog (tabF tab) om1 43 [a] H) fun v H' => Ext H H' ∧ v = .bool (clsF L L) := by
  rw [cw_run (F := F_table_closed) rfl rfl rfl]
  unfold F_table_closed k_table_closed
  obtain ⟨y, e', H', r1, x1, r3⟩ := l_closed h0 L.length 0 H (by omega) ha hac
  rw [List.drop_zero] at r3
  simp only [Int.cast_ofNat_Int] at r1
  simp only [WA, isStore, isCall, isK, freshI, stampO, List.nil_append, Option.map_some, Option.map_none, Option.bind_some, List.map_cons, List.map_nil, if_true, if_false, Nat.reduceEqDiff, Int.reduceEq, Nat.reduceAdd, Nat.reduceMul, reduceCtorEq, eq_self, Int.reduceLT, Int.reduceLE, Int.reduceToNat, List.length_cons, List.length_nil, List.all_cons, List.all_nil, List.take_zero, List.drop_nil, List.append_nil, List.getElem?_cons_zero, List.getElem?_cons_succ, List.drop_succ_cons, List.drop_zero, List.take_succ_cons, List.cons_append, Nat.reduceLeDiff, Int.cast_ofNat_Int, ha.len]
  rw [w_enter]
  split at r3
  · rename_i hc
    subst r3
    simp only [WA, isStore, isCall, isK, freshI, stampO, List.nil_append, Option.map_some, Option.map_none, Option.bind_some, List.map_cons, List.map_nil, if_true, if_false, Nat.reduceEqDiff, Int.reduceEq, Nat.reduceAdd, Nat.reduceMul, reduceCtorEq, eq_self, Int.reduceLT, Int.reduceLE, Int.reduceToNat, List.length_cons, List.length_nil, List.all_cons, List.all_nil, List.take_zero, List.drop_nil, List.append_nil, List.getElem?_cons_zero, List.getElem?_cons_succ, List.drop_succ_cons, List.drop_zero, List.take_succ_cons, List.cons_append, Nat.reduceLeDiff, Int.cast_ofNat_Int, r1, hc]
    exact x1
  · rename_i hc
    obtain ⟨rfl, q1⟩ := r3
    simp only [WA, isStore, isCall, isK, freshI, stampO, List.nil_append, Option.map_some, Option.map_none, Option.bind_some, List.map_cons, List.map_nil, if_true, if_false, Nat.reduceEqDiff, Int.reduceEq, Nat.reduceAdd, Nat.reduceMul, reduceCtorEq, eq_self, Int.reduceLT, Int.reduceLE, Int.reduceToNat, List.length_cons, List.length_nil, List.all_cons, List.all_nil, List.take_zero, List.drop_nil, List.append_nil, List.getElem?_cons_zero, List.getElem?_cons_succ, List.drop_succ_cons, List.drop_zero, List.take_succ_cons, List.cons_append, Nat.reduceLeDiff, Int.cast_ofNat_Int, r1, q1, hc]
    exact x1
end Go.Proofs.Ytgonfmpmdahmcaa

/-! Closed rules: the document's loops; rules that have a table. -/
set_option linter.unusedSimpArgs false
set_option linter.unusedVariables false
namespace Go.Proofs.Ytgonfmpmdahmcaa
open Go Lon
set_option maxRecDepth 100000
theorem bor_assoc3 {a b c : Bool} : (a || b || c) = (a || (b || c)) := Bool.or_assoc a b c
theorem l_CD0 {a : Value} {L : List Rl} {q n : Nat} {ai ao : Option Addr} {ci no co : Nat} {r : List Int} {u0 : Int} {z10 z11 z12 : Value} (h0 : ∀ r ∈ L, 0 < r.1.length) (hr0 : r[0]? = some u0) (hrt : tiny r) (hn : n ≤ r.length) : ∀ (k j : Nat) (H : AHeap) (is en : Bool), j + k = L.length → Rules H a L → CutR H a → H.get q = some ⟨[.slice ai r.length ci, .slice ao no co], 46, .tip, 1, []⟩ → Ints H (.slice ai r.length ci) r → Cut Try.prog H (.slice ai r.length ci) 1 →
    Out (run Try.prog (tabF tab) om1 (.loop [0, 4, 5, 6, 7, 10, 11, 12, 23, 24, 25] b_lontarlaw15_Closed_0) [(0, a), (4, .pointer (some ⟨q, 0, none⟩)), (5, .int .i64 n), (6, .bool is), (7, .bool en), (10, z10), (11, z11), (12, z12), (23, a), (24, .int .i64 L.length), (25, .int .i64 j)] H) fun y e' H' => y = .exit 4 ∧ Ext H H' ∧ eget e' 0 = a ∧ eget e' 4 = .pointer (some ⟨q, 0, none⟩) ∧ eget e' 5 = .int .i64 n ∧ eget e' 6 = .bool (is || (L.drop j).any fun x => decide (x.1 = r.take n)) ∧ eget e' 7 = .bool (en || (L.drop j).any fun x => decide (lastU x.1 = u0)) ∧ eget e' 10 = z10 ∧ eget e' 11 = z11 ∧ eget e' 12 = z12 := by
  intro k
  induction k with
  | zero =>
    intro j H is en hj ha hac hq hI hC
    have hlt : ¬ ((j : Int) < L.length) := by omega
    rw [w_loop_b b_lontarlaw15_Closed_0.eq_1, List.drop_of_length_le (by omega)]
    simp only [WA, isStore, isCall, isK, freshI, stampO, List.nil_append, Option.map_some, Option.map_none, Option.bind_some, List.map_cons, List.map_nil, if_true, if_false, Nat.reduceEqDiff, Int.reduceEq, Nat.reduceAdd, Nat.reduceMul, reduceCtorEq, eq_self, Int.reduceLT, Int.reduceLE, Int.reduceToNat, List.length_cons, List.length_nil, List.all_cons, List.all_nil, List.take_zero, List.drop_nil, List.append_nil, List.getElem?_cons_zero, List.getElem?_cons_succ, List.drop_succ_cons, List.drop_zero, List.take_succ_cons, List.cons_append, Nat.reduceLeDiff, Int.cast_ofNat_Int, hlt, List.any_nil, Bool.or_false]
    exact Ext.refl _
  | succ k ih =>
    intro j H is en hj ha hac hq hI hC
    have hL := ha.1
    have hlt : (j : Int) < L.length := by omega
    obtain ⟨x, hx, hdx⟩ := drop_at (L := L) (i := j) (by omega)
    obtain ⟨i1, o1, vi, vo, h1, h2, h3, h4, h5, h6, h7, h8, h9, h10⟩ := Rules.atC ha hac hx
    have h5' := h5
    have h6' := h6
    obtain ⟨⟨xi, ki, rfl⟩, _⟩ := h5'
    obtain ⟨⟨xo, ko, rfl⟩, _⟩ := h6'
    have hx0 := h0 x (List.mem_of_getElem? hx)
    have hx1 := Ext.push H ⟨[.slice xi x.1.length ki, .slice xo x.2.length ko], 46, .tip, 1, []⟩
    obtain ⟨H1, hH1⟩ : ∃ H1, H1 = H.push ⟨[.slice xi x.1.length ki, .slice xo x.2.length ko], 46, .tip, 1, []⟩ := ⟨_, rfl⟩
    have g1 : H1.get H.n = some ⟨[.slice xi x.1.length ki, .slice xo x.2.length ko], 46, .tip, 1, []⟩ := by rw [hH1]; exact get_push_self
    rw [← hH1] at hx1
    have hq1 := hx1.get hq
    obtain ⟨v', s1, s2, s3⟩ := (hI.ext hx1).take (hC.ext hx1) hn
    have s1' := s1 .i64
    have cU := c_Units (h5.ext hx1) s2 h7
    have hlx : ∀ H2 : AHeap, vLen false (.slice xi x.1.length ki) H2 = some (.int .i64 x.1.length, H2) := fun H2 => Sl.len h5
    have h7' := h7
    unfold Lon.tiny at h7'
    have hw : IntKind.i64.wrap ((x.1.length : Int) - 1) = ((x.1.length - 1 : Nat) : Int) := by rw [wrap64 (by omega) (by omega)]; omega
    obtain ⟨j1, p1, b1, b2⟩ := last_at (h5.ext hx1) hx0
    obtain ⟨j2, p2, d1, d2⟩ := (hI.ext hx1).at hr0
    have d1' := d1 .i64
    simp only [Int.cast_ofNat_Int] at d1'
    have hw2 : IntKind.i64.wrap ((j : Int) + 1) = ((j + 1 : Nat) : Int) := by rw [wrap64 (by omega) (by omega)]; omega
    have next : ∀ (is' en' : Bool), is' = (is || decide (x.1 = r.take n)) → en' = (en || decide (lastU x.1 = u0)) → _ := fun is' en' e1 e2 => ih (j + 1) H1 is' en' (by omega) (ha.ext hx1) (hac.ext hx1) hq1 (hI.ext hx1) (hC.ext hx1)
    obtain ⟨y, e', H', r1, r2, r3, r4⟩ := next _ _ rfl rfl
    rw [bor_assoc3, bor_assoc3] at r4
    have eA : ((L.drop j).any fun x => decide (x.1 = r.take n)) = (decide (x.1 = r.take n) || (L.drop (j + 1)).any fun x => decide (x.1 = r.take n)) := by rw [hdx]; rfl
    have eB : ((L.drop j).any fun x => decide (lastU x.1 = u0)) = (decide (lastU x.1 = u0) || (L.drop (j + 1)).any fun x => decide (lastU x.1 = u0)) := by rw [hdx]; rfl
    rw [eA, eB]
    rw [w_loop_b b_lontarlaw15_Closed_0.eq_1]
    cases is <;> cases en <;>
    · simp only [Bool.true_or, Bool.false_or] at r1 r4 ⊢
      simp only [WA, isStore, isCall, isK, freshI, stampO, List.nil_append, Option.map_some, Option.map_none, Option.bind_some, List.map_cons, List.map_nil, if_true, if_false, Nat.reduceEqDiff, Int.reduceEq, Nat.reduceAdd, Nat.reduceMul, reduceCtorEq, eq_self, Int.reduceLT, Int.reduceLE, Int.reduceToNat, List.length_cons, List.length_nil, List.all_cons, List.all_nil, List.take_zero, List.drop_nil, List.append_nil, List.getElem?_cons_zero, List.getElem?_cons_succ, List.drop_succ_cons, List.drop_zero, List.take_succ_cons, List.cons_append, Nat.reduceLeDiff, Int.cast_ofNat_Int, hlt, h1, h4, ← hH1, g1, hq1, s1', cU, hlx, hw, b1, b2, d1', d2, hw2]
      rw [w_enter]
      simp only [WA, isStore, isCall, isK, freshI, stampO, List.nil_append, Option.map_some, Option.map_none, Option.bind_some, List.map_cons, List.map_nil, if_true, if_false, Nat.reduceEqDiff, Int.reduceEq, Nat.reduceAdd, Nat.reduceMul, reduceCtorEq, eq_self, Int.reduceLT, Int.reduceLE, Int.reduceToNat, List.length_cons, List.length_nil, List.all_cons, List.all_nil, List.take_zero, List.drop_nil, List.append_nil, List.getElem?_cons_zero, List.getElem?_cons_succ, List.drop_succ_cons, List.drop_zero, List.take_succ_cons, List.cons_append, Nat.reduceLeDiff, Int.cast_ofNat_Int, r1]
      exact ⟨r2, hx1.trans r3, r4⟩
def clsUp (L : List Rl) (r : List Int) : Nat → Nat → Bool
  | _, 0 => true
  | n, k + 1 => if badN L r n = true then false else clsUp L r (n + 1) k
theorem clsUp_iff {L : List Rl} {r : List Int} : ∀ {k n : Nat}, clsUp L r n k = true ↔ ∀ m, n ≤ m → m < n + k → badN L r m = false
  | 0, n => by simp [clsUp]; intro m h1 h2; omega
  | k + 1, n => by
    unfold clsUp
    split
    · rename_i h
      simp only [Bool.false_eq_true, false_iff]
      intro hh
      rw [hh n (Nat.le_refl _) (by omega)] at h
      cases h
    · rename_i h
      rw [clsUp_iff]
      constructor
      · intro hh m h1 h2
        rcases Nat.lt_or_ge n m with h3 | h3
        · exact hh m h3 (by omega)
        · obtain rfl : m = n := by omega
          simpa using h
      · intro hh m h1 h2
        exact hh m (by omega) (by omega)
theorem cls_same {L : List Rl} {r : List Int} (h0 : 0 < r.length) : clsUp L r 1 (r.length - 1) = clsIn L r (r.length - 1) := by
  rw [Bool.eq_iff_iff, clsUp_iff, clsIn_iff]
  exact ⟨fun h m h1 h2 => h m h1 (by omega), fun h m h1 h2 => h m h1 (by omega)⟩
theorem l_CD1 {a : Value} {L : List Rl} {q : Nat} {ai ao : Option Addr} {ci no co : Nat} {r : List Int} {z10 z11 z12 : Value} (h0 : ∀ r ∈ L, 0 < r.1.length) (hr0 : 0 < r.length) (hrt : tiny r) : ∀ (k n : Nat) (H : AHeap), n + k = r.length → 1 ≤ n → Rules H a L → CutR H a → H.get q = some ⟨[.slice ai r.length ci, .slice ao no co], 46, .tip, 1, []⟩ → Ints H (.slice ai r.length ci) r → Cut Try.prog H (.slice ai r.length ci) 1 →
    Out (run Try.prog (tabF tab) om1 (.loop [0, 4, 5, 10, 11, 12] b_lontarlaw15_Closed_1) [(0, a), (4, .pointer (some ⟨q, 0, none⟩)), (5, .int .i64 n), (10, z10), (11, z11), (12, z12)] H) fun y e' H' => Ext H H' ∧ if clsUp L r n k = true then y = .exit 2 ∧ eget e' 0 = a ∧ eget e' 10 = z10 ∧ eget e' 11 = z11 ∧ eget e' 12 = z12 else y = .ret ∧ eget e' 2 = .bool false := by
  intro k
  have hrt' := hrt
  unfold Lon.tiny at hrt'
  induction k with
  | zero =>
    intro n H hn h1n ha hac hq hI hC
    have hlt : ¬ ((n : Int) < r.length) := by omega
    have hlr : ∀ H2 : AHeap, vLen false (.slice ai r.length ci) H2 = some (.int .i64 r.length, H2) := fun H2 => Sl.len hI
    rw [w_loop_b b_lontarlaw15_Closed_1.eq_1]
    simp only [WA, isStore, isCall, isK, freshI, stampO, List.nil_append, Option.map_some, Option.map_none, Option.bind_some, List.map_cons, List.map_nil, if_true, if_false, Nat.reduceEqDiff, Int.reduceEq, Nat.reduceAdd, Nat.reduceMul, reduceCtorEq, eq_self, Int.reduceLT, Int.reduceLE, Int.reduceToNat, List.length_cons, List.length_nil, List.all_cons, List.all_nil, List.take_zero, List.drop_nil, List.append_nil, List.getElem?_cons_zero, List.getElem?_cons_succ, List.drop_succ_cons, List.drop_zero, List.take_succ_cons, List.cons_append, Nat.reduceLeDiff, Int.cast_ofNat_Int, hq, hlr, hlt, clsUp]
    exact Ext.refl _
  | succ k ih =>
    intro n H hn h1n ha hac hq hI hC
    have hlt : (n : Int) < r.length := by omega
    have hlr : ∀ H2 : AHeap, vLen false (.slice ai r.length ci) H2 = some (.int .i64 r.length, H2) := fun H2 => Sl.len hI
    obtain ⟨u0, hu0⟩ : ∃ u, r[0]? = some u := ⟨_, List.getElem?_eq_getElem hr0⟩
    have hgd : r.getD 0 0 = u0 := by rw [List.getD_eq_getElem?_getD, hu0]; rfl
    have hla := fun H2 => ha.len (H2 := H2)
    obtain ⟨y, e', H1, r1, rfl, x1, q1, q2, q3, q4, q5, q6, q7, q8⟩ := l_CD0 (z10 := z10) (z11 := z11) (z12 := z12) (n := n) h0 hu0 hrt (by omega) L.length 0 H false false (by omega) ha hac hq hI hC
    simp only [Bool.false_or, List.drop_zero] at q4 q5
    have e1 : (L.any fun x => decide (x.1 = r.take n)) = !decide (fnd L (r.take n) < 0) := by
      rw [Bool.eq_iff_iff]
      simp only [List.any_eq_true, decide_eq_true_eq, Bool.not_eq_true', decide_eq_false_iff_not, fnd_neg]
      constructor
      · rintro ⟨x, h1, h2⟩ h3; exact h3 x h1 h2
      · intro h; apply Classical.byContradiction; intro h2; exact h fun r' hr' e => h2 ⟨r', hr', e⟩
    have e2 : (L.any fun x => decide (lastU x.1 = u0)) = usd L u0 := by unfold usd; rw [udx_any]
    rw [e1] at q4
    rw [e2] at q5
    have hw2 : IntKind.i64.wrap ((n : Int) + 1) = ((n + 1 : Nat) : Int) := by rw [wrap64 (by omega) (by omega)]; omega
    obtain ⟨y, e3, H2, t1, t2, t3⟩ := ih (n + 1) H1 (by omega) (by omega) (ha.ext x1) (hac.ext x1) (x1.get hq) (hI.ext x1) (hC.ext x1)
    simp only [Int.cast_ofNat_Int] at r1
    rw [w_loop_b b_lontarlaw15_Closed_1.eq_1]
    unfold clsUp badN
    rw [hgd]
    by_cases f1 : fnd L (r.take n) < 0
    · rw [decide_eq_true f1] at q4
      by_cases f2 : (n : Int) > 1
      · have f2' : 1 < n := by omega
        simp only [WA, isStore, isCall, isK, freshI, stampO, List.nil_append, Option.map_some, Option.map_none, Option.bind_some, List.map_cons, List.map_nil, if_true, if_false, Nat.reduceEqDiff, Int.reduceEq, Nat.reduceAdd, Nat.reduceMul, reduceCtorEq, eq_self, Int.reduceLT, Int.reduceLE, Int.reduceToNat, List.length_cons, List.length_nil, List.all_cons, List.all_nil, List.take_zero, List.drop_nil, List.append_nil, List.getElem?_cons_zero, List.getElem?_cons_succ, List.drop_succ_cons, List.drop_zero, List.take_succ_cons, List.cons_append, Nat.reduceLeDiff, Int.cast_ofNat_Int, hq, hlr, hlt, hla]
        rw [w_enter]
        simp only [WA, isStore, isCall, isK, freshI, stampO, List.nil_append, Option.map_some, Option.map_none, Option.bind_some, List.map_cons, List.map_nil, if_true, if_false, Nat.reduceEqDiff, Int.reduceEq, Nat.reduceAdd, Nat.reduceMul, reduceCtorEq, eq_self, Int.reduceLT, Int.reduceLE, Int.reduceToNat, List.length_cons, List.length_nil, List.all_cons, List.all_nil, List.take_zero, List.drop_nil, List.append_nil, List.getElem?_cons_zero, List.getElem?_cons_succ, List.drop_succ_cons, List.drop_zero, List.take_succ_cons, List.cons_append, Nat.reduceLeDiff, Int.cast_ofNat_Int, r1, q1, q2, q3, q4, q5, q6, q7, q8, f1, f2, f2', Bool.true_or]
        exact x1
      · have f2' : ¬ 1 < n := by omega
        cases f3 : usd L u0 with
        | true =>
          rw [f3] at q5
          simp only [WA, isStore, isCall, isK, freshI, stampO, List.nil_append, Option.map_some, Option.map_none, Option.bind_some, List.map_cons, List.map_nil, if_true, if_false, Nat.reduceEqDiff, Int.reduceEq, Nat.reduceAdd, Nat.reduceMul, reduceCtorEq, eq_self, Int.reduceLT, Int.reduceLE, Int.reduceToNat, List.length_cons, List.length_nil, List.all_cons, List.all_nil, List.take_zero, List.drop_nil, List.append_nil, List.getElem?_cons_zero, List.getElem?_cons_succ, List.drop_succ_cons, List.drop_zero, List.take_succ_cons, List.cons_append, Nat.reduceLeDiff, Int.cast_ofNat_Int, hq, hlr, hlt, hla]
          rw [w_enter]
          simp only [WA, isStore, isCall, isK, freshI, stampO, List.nil_append, Option.map_some, Option.map_none, Option.bind_some, List.map_cons, List.map_nil, if_true, if_false, Nat.reduceEqDiff, Int.reduceEq, Nat.reduceAdd, Nat.reduceMul, reduceCtorEq, eq_self, Int.reduceLT, Int.reduceLE, Int.reduceToNat, List.length_cons, List.length_nil, List.all_cons, List.all_nil, List.take_zero, List.drop_nil, List.append_nil, List.getElem?_cons_zero, List.getElem?_cons_succ, List.drop_succ_cons, List.drop_zero, List.take_succ_cons, List.cons_append, Nat.reduceLeDiff, Int.cast_ofNat_Int, r1, q1, q2, q3, q4, q5, q6, q7, q8, f1, f2, f2', Bool.or_true]
          exact x1
        | false =>
          rw [f3] at q5
          simp only [WA, isStore, isCall, isK, freshI, stampO, List.nil_append, Option.map_some, Option.map_none, Option.bind_some, List.map_cons, List.map_nil, if_true, if_false, Nat.reduceEqDiff, Int.reduceEq, Nat.reduceAdd, Nat.reduceMul, reduceCtorEq, eq_self, Int.reduceLT, Int.reduceLE, Int.reduceToNat, List.length_cons, List.length_nil, List.all_cons, List.all_nil, List.take_zero, List.drop_nil, List.append_nil, List.getElem?_cons_zero, List.getElem?_cons_succ, List.drop_succ_cons, List.drop_zero, List.take_succ_cons, List.cons_append, Nat.reduceLeDiff, Int.cast_ofNat_Int, hq, hlr, hlt, hla]
          rw [w_enter]
          simp only [WA, isStore, isCall, isK, freshI, stampO, List.nil_append, Option.map_some, Option.map_none, Option.bind_some, List.map_cons, List.map_nil, if_true, if_false, Nat.reduceEqDiff, Int.reduceEq, Nat.reduceAdd, Nat.reduceMul, reduceCtorEq, eq_self, Int.reduceLT, Int.reduceLE, Int.reduceToNat, List.length_cons, List.length_nil, List.all_cons, List.all_nil, List.take_zero, List.drop_nil, List.append_nil, List.getElem?_cons_zero, List.getElem?_cons_succ, List.drop_succ_cons, List.drop_zero, List.take_succ_cons, List.cons_append, Nat.reduceLeDiff, Int.cast_ofNat_Int, r1, q1, q2, q3, q4, q5, q6, q7, q8, f1, f2, f2', Bool.or_self, Bool.and_false, Bool.false_eq_true, hw2]
          rw [w_enter]
          simp only [WA, isStore, isCall, isK, freshI, stampO, List.nil_append, Option.map_some, Option.map_none, Option.bind_some, List.map_cons, List.map_nil, if_true, if_false, Nat.reduceEqDiff, Int.reduceEq, Nat.reduceAdd, Nat.reduceMul, reduceCtorEq, eq_self, Int.reduceLT, Int.reduceLE, Int.reduceToNat, List.length_cons, List.length_nil, List.all_cons, List.all_nil, List.take_zero, List.drop_nil, List.append_nil, List.getElem?_cons_zero, List.getElem?_cons_succ, List.drop_succ_cons, List.drop_zero, List.take_succ_cons, List.cons_append, Nat.reduceLeDiff, Int.cast_ofNat_Int, q1, q2, q6, q7, q8, t1]
          exact ⟨x1.trans t2, t3⟩
    · rw [decide_eq_false f1] at q4
      simp only [WA, isStore, isCall, isK, freshI, stampO, List.nil_append, Option.map_some, Option.map_none, Option.bind_some, List.map_cons, List.map_nil, if_true, if_false, Nat.reduceEqDiff, Int.reduceEq, Nat.reduceAdd, Nat.reduceMul, reduceCtorEq, eq_self, Int.reduceLT, Int.reduceLE, Int.reduceToNat, List.length_cons, List.length_nil, List.all_cons, List.all_nil, List.take_zero, List.drop_nil, List.append_nil, List.getElem?_cons_zero, List.getElem?_cons_succ, List.drop_succ_cons, List.drop_zero, List.take_succ_cons, List.cons_append, Nat.reduceLeDiff, Int.cast_ofNat_Int, hq, hlr, hlt, hla]
      rw [w_enter]
      simp only [WA, isStore, isCall, isK, freshI, stampO, List.nil_append, Option.map_some, Option.map_none, Option.bind_some, List.map_cons, List.map_nil, if_true, if_false, Nat.reduceEqDiff, Int.reduceEq, Nat.reduceAdd, Nat.reduceMul, reduceCtorEq, eq_self, Int.reduceLT, Int.reduceLE, Int.reduceToNat, List.length_cons, List.length_nil, List.all_cons, List.all_nil, List.take_zero, List.drop_nil, List.append_nil, List.getElem?_cons_zero, List.getElem?_cons_succ, List.drop_succ_cons, List.drop_zero, List.take_succ_cons, List.cons_append, Nat.reduceLeDiff, Int.cast_ofNat_Int, r1, q1, q2, q3, q4, q5, q6, q7, q8, f1, Bool.false_and, Bool.false_eq_true, hw2]
      rw [w_enter]
      simp only [WA, isStore, isCall, isK, freshI, stampO, List.nil_append, Option.map_some, Option.map_none, Option.bind_some, List.map_cons, List.map_nil, if_true, if_false, Nat.reduceEqDiff, Int.reduceEq, Nat.reduceAdd, Nat.reduceMul, reduceCtorEq, eq_self, Int.reduceLT, Int.reduceLE, Int.reduceToNat, List.length_cons, List.length_nil, List.all_cons, List.all_nil, List.take_zero, List.drop_nil, List.append_nil, List.getElem?_cons_zero, List.getElem?_cons_succ, List.drop_succ_cons, List.drop_zero, List.take_succ_cons, List.cons_append, Nat.reduceLeDiff, Int.cast_ofNat_Int, q1, q2, q6, q7, q8, t1]
      exact ⟨x1.trans t2, t3⟩
theorem l_CD2 {a : Value} {L : List Rl} (h0 : ∀ r ∈ L, 0 < r.1.length) : ∀ (k i : Nat) (H : AHeap), i + k = L.length → Rules H a L → CutR H a →
    Out (run Try.prog (tabF tab) om1 (.loop [0, 10, 11, 12] b_lontarlaw15_Closed_2) [(0, a), (10, a), (11, .int .i64 L.length), (12, .int .i64 i)] H) fun y e' H' => Ext H H' ∧ if clsF L (L.drop i) = true then y = .exit 0 else y = .ret ∧ eget e' 2 = .bool false := by
  intro k
  induction k with
  | zero =>
    intro i H hi ha hac
    have hlt : ¬ ((i : Int) < L.length) := by omega
    rw [w_loop_b b_lontarlaw15_Closed_2.eq_1, List.drop_of_length_le (by omega)]
    simp only [WA, isStore, isCall, isK, freshI, stampO, List.nil_append, Option.map_some, Option.map_none, Option.bind_some, List.map_cons, List.map_nil, if_true, if_false, Nat.reduceEqDiff, Int.reduceEq, Nat.reduceAdd, Nat.reduceMul, reduceCtorEq, eq_self, Int.reduceLT, Int.reduceLE, Int.reduceToNat, List.length_cons, List.length_nil, List.all_cons, List.all_nil, List.take_zero, List.drop_nil, List.append_nil, List.getElem?_cons_zero, List.getElem?_cons_succ, List.drop_succ_cons, List.drop_zero, List.take_succ_cons, List.cons_append, Nat.reduceLeDiff, Int.cast_ofNat_Int, hlt, clsF]
    exact Ext.refl _
  | succ k ih =>
    intro i H hi ha hac
    have hL := ha.1
    have hlt : (i : Int) < L.length := by omega
    obtain ⟨r, hr, hdr⟩ := drop_at (L := L) (i := i) (by omega)
    obtain ⟨i1, o1, vi, vo, h1, h2, h3, h4, h5, h6, h7, h8, h9, h10⟩ := Rules.atC ha hac hr
    have h5' := h5
    have h6' := h6
    obtain ⟨⟨ai, ci, rfl⟩, _⟩ := h5'
    obtain ⟨⟨ao, co, rfl⟩, _⟩ := h6'
    have hr0 := h0 r (List.mem_of_getElem? hr)
    have hx1 := Ext.push H ⟨[.slice ai r.1.length ci, .slice ao r.2.length co], 46, .tip, 1, []⟩
    obtain ⟨H1, hH1⟩ : ∃ H1, H1 = H.push ⟨[.slice ai r.1.length ci, .slice ao r.2.length co], 46, .tip, 1, []⟩ := ⟨_, rfl⟩
    have g1 : H1.get H.n = some ⟨[.slice ai r.1.length ci, .slice ao r.2.length co], 46, .tip, 1, []⟩ := by rw [hH1]; exact get_push_self
    rw [← hH1] at hx1
    have hw2 : IntKind.i64.wrap ((i : Int) + 1) = ((i + 1 : Nat) : Int) := by rw [wrap64 (by omega) (by omega)]; omega
    obtain ⟨y, e', H2, r1, x2, r3⟩ := l_CD1 (a := a) (L := L) (z10 := a) (z11 := .int .i64 L.length) (z12 := .int .i64 i) h0 hr0 h7 (r.1.length - 1) 1 H1 (by omega) (Nat.le_refl _) (ha.ext hx1) (hac.ext hx1) g1 (h5.ext hx1) (h9.ext hx1)
    rw [cls_same hr0] at r3
    simp only [Int.cast_ofNat_Int] at r1
    rw [w_loop_b b_lontarlaw15_Closed_2.eq_1, hdr]
    unfold clsF
    split at r3
    · rename_i hc
      obtain ⟨rfl, q1, q2, q3, q4⟩ := r3
      obtain ⟨y, e2, H3, t1, t2, t3⟩ := ih (i + 1) H2 (by omega) (ha.ext (hx1.trans x2)) (hac.ext (hx1.trans x2))
      rw [if_pos hc]
      simp only [WA, isStore, isCall, isK, freshI, stampO, List.nil_append, Option.map_some, Option.map_none, Option.bind_some, List.map_cons, List.map_nil, if_true, if_false, Nat.reduceEqDiff, Int.reduceEq, Nat.reduceAdd, Nat.reduceMul, reduceCtorEq, eq_self, Int.reduceLT, Int.reduceLE, Int.reduceToNat, List.length_cons, List.length_nil, List.all_cons, List.all_nil, List.take_zero, List.drop_nil, List.append_nil, List.getElem?_cons_zero, List.getElem?_cons_succ, List.drop_succ_cons, List.drop_zero, List.take_succ_cons, List.cons_append, Nat.reduceLeDiff, Int.cast_ofNat_Int, hlt, h1, h4, ← hH1]
      rw [w_enter]
      simp only [WA, isStore, isCall, isK, freshI, stampO, List.nil_append, Option.map_some, Option.map_none, Option.bind_some, List.map_cons, List.map_nil, if_true, if_false, Nat.reduceEqDiff, Int.reduceEq, Nat.reduceAdd, Nat.reduceMul, reduceCtorEq, eq_self, Int.reduceLT, Int.reduceLE, Int.reduceToNat, List.length_cons, List.length_nil, List.all_cons, List.all_nil, List.take_zero, List.drop_nil, List.append_nil, List.getElem?_cons_zero, List.getElem?_cons_succ, List.drop_succ_cons, List.drop_zero, List.take_succ_cons, List.cons_append, Nat.reduceLeDiff, Int.cast_ofNat_Int, r1, q1, q2, q3, q4, hw2]
      rw [w_enter]
      simp only [WA, isStore, isCall, isK, freshI, stampO, List.nil_append, Option.map_some, Option.map_none, Option.bind_some, List.map_cons, List.map_nil, if_true, if_false, Nat.reduceEqDiff, Int.reduceEq, Nat.reduceAdd, Nat.reduceMul, reduceCtorEq, eq_self, Int.reduceLT, Int.reduceLE, Int.reduceToNat, List.length_cons, List.length_nil, List.all_cons, List.all_nil, List.take_zero, List.drop_nil, List.append_nil, List.getElem?_cons_zero, List.getElem?_cons_succ, List.drop_succ_cons, List.drop_zero, List.take_succ_cons, List.cons_append, Nat.reduceLeDiff, Int.cast_ofNat_Int, q1, q2, q3, q4, t1]
      exact ⟨(hx1.trans x2).trans t2, t3⟩
    · rename_i hc
      obtain ⟨rfl, q1⟩ := r3
      rw [if_neg hc]
      simp only [WA, isStore, isCall, isK, freshI, stampO, List.nil_append, Option.map_some, Option.map_none, Option.bind_some, List.map_cons, List.map_nil, if_true, if_false, Nat.reduceEqDiff, Int.reduceEq, Nat.reduceAdd, Nat.reduceMul, reduceCtorEq, eq_self, Int.reduceLT, Int.reduceLE, Int.reduceToNat, List.length_cons, List.length_nil, List.all_cons, List.all_nil, List.take_zero, List.drop_nil, List.append_nil, List.getElem?_cons_zero, List.getElem?_cons_succ, List.drop_succ_cons, List.drop_zero, List.take_succ_cons, List.cons_append, Nat.reduceLeDiff, Int.cast_ofNat_Int, hlt, h1, h4, ← hH1]
      rw [w_enter]
      simp only [WA, isStore, isCall, isK, freshI, stampO, List.nil_append, Option.map_some, Option.map_none, Option.bind_some, List.map_cons, List.map_nil, if_true, if_false, Nat.reduceEqDiff, Int.reduceEq, Nat.reduceAdd, Nat.reduceMul, reduceCtorEq, eq_self, Int.reduceLT, Int.reduceLE, Int.reduceToNat, List.length_cons, List.length_nil, List.all_cons, List.all_nil, List.take_zero, List.drop_nil, List.append_nil, List.getElem?_cons_zero, List.getElem?_cons_succ, List.drop_succ_cons, List.drop_zero, List.take_succ_cons, List.cons_append, Nat.reduceLeDiff, Int.cast_ofNat_Int, r1, q1]
      exact hx1.trans x2
theorem c_ClosedD {a : Value} {L : List Rl} {H : AHeap} (ha : Rules H a L) (hac : CutR H a) (h0 : ∀ r ∈ L, 0 < r.1.length) : Gives (cw Try.prog (tabF tab) om1 29 [a] H) fun v H' => Ext H H' ∧ v = .bool (clsF L L) := by
  rw [cw_run (F := F_lontarlaw15_Closed) rfl rfl rfl]
  unfold F_lontarlaw15_Closed k_lontarlaw15_Closed
  obtain ⟨y, e', H', r1, x1, r3⟩ := l_CD2 h0 L.length 0 H (by omega) ha hac
  rw [List.drop_zero] at r3
  simp only [Int.cast_ofNat_Int] at r1
  simp only [WA, isStore, isCall, isK, freshI, stampO, List.nil_append, Option.map_some, Option.map_none, Option.bind_some, List.map_cons, List.map_nil, if_true, if_false, Nat.reduceEqDiff, Int.reduceEq, Nat.reduceAdd, Nat.reduceMul, reduceCtorEq, eq_self, Int.reduceLT, Int.reduceLE, Int.reduceToNat, List.length_cons, List.length_nil, List.all_cons, List.all_nil, List.take_zero, List.drop_nil, List.append_nil, List.getElem?_cons_zero, List.getElem?_cons_succ, List.drop_succ_cons, List.drop_zero, List.take_succ_cons, List.cons_append, Nat.reduceLeDiff, Int.cast_ofNat_Int, ha.len]
  rw [w_enter]
  split at r3
  · rename_i hc
    subst r3
    simp only [WA, isStore, isCall, isK, freshI, stampO, List.nil_append, Option.map_some, Option.map_none, Option.bind_some, List.map_cons, List.map_nil, if_true, if_false, Nat.reduceEqDiff, Int.reduceEq, Nat.reduceAdd, Nat.reduceMul, reduceCtorEq, eq_self, Int.reduceLT, Int.reduceLE, Int.reduceToNat, List.length_cons, List.length_nil, List.all_cons, List.all_nil, List.take_zero, List.drop_nil, List.append_nil, List.getElem?_cons_zero, List.getElem?_cons_succ, List.drop_succ_cons, List.drop_zero, List.take_succ_cons, List.cons_append, Nat.reduceLeDiff, Int.cast_ofNat_Int, r1, hc]
    exact x1
  · rename_i hc
    obtain ⟨rfl, q1⟩ := r3
    simp only [WA, isStore, isCall, isK, freshI, stampO, List.nil_append, Option.map_some, Option.map_none, Option.bind_some, List.map_cons, List.map_nil, if_true, if_false, Nat.reduceEqDiff, Int.reduceEq, Nat.reduceAdd, Nat.reduceMul, reduceCtorEq, eq_self, Int.reduceLT, Int.reduceLE, Int.reduceToNat, List.length_cons, List.length_nil, List.all_cons, List.all_nil, List.take_zero, List.drop_nil, List.append_nil, List.getElem?_cons_zero, List.getElem?_cons_succ, List.drop_succ_cons, List.drop_zero, List.take_succ_cons, List.cons_append, Nat.reduceLeDiff, Int.cast_ofNat_Int, r1, q1, hc]
    exact x1
end Go.Proofs.Ytgonfmpmdahmcaa

