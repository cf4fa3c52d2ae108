/- What is proved here: what the program's functions come to, as far as the claimed statement asks. Conditions: those that each theorem names, and no others. -/
import Derived.Test.YtjicdpkgcofiaaaP1
import Derived.Test.YtjicdpkgcofiaaaP2
import Derived.Test.YtjicdpkgcofiaaaP3
/-! The longest rule, told by the rules alone. -/
set_option linter.unusedSimpArgs false
set_option linter.unusedVariables false
namespace Go.Proofs.Ytjicdpkgcofiaaa
open Go Lon
theorem mem_addIns : ∀ {us p : List Int} {P : List (List Int)} {q : List Int}, q ∈ addIns P p us ↔ q ∈ P ∨ ∃ a, a ≠ [] ∧ a <+: us ∧ q = p ++ a
  | [], p, P, q => by
    unfold addIns
    constructor
    · exact .inl
    · rintro (h | ⟨a, h1, h2, _⟩)
      · exact h
      · exact absurd (List.prefix_nil.1 h2) h1
  | u :: us, p, P, q => by
    unfold addIns
    rw [mem_addIns]
    constructor
    · rintro (h | ⟨a, h1, h2, rfl⟩)
      · split at h
        · exact .inl h
        · rcases List.mem_append.1 h with h | h
          · exact .inl h
          · exact .inr ⟨[u], by simp, ⟨us, rfl⟩, by simpa using h⟩
      · exact .inr ⟨u :: a, by simp, List.cons_prefix_cons.2 ⟨rfl, h2⟩, by simp⟩
    · rintro (h | ⟨a, h1, h2, rfl⟩)
      · left
        split
        · exact h
        · exact List.mem_append_left _ h
      · cases a with
        | nil => exact absurd rfl h1
        | cons v a =>
          obtain ⟨rfl, h3⟩ := List.cons_prefix_cons.1 h2
          cases a with
          | nil =>
            left
            split
            · assumption
            · simp
          | cons w a => exact .inr ⟨w :: a, by simp, h3, by simp⟩
theorem mem_pathsG : ∀ {L : List Rl} {P : List (List Int)} {q : List Int}, q ∈ L.foldl (fun P r => addIns P [] r.1) P ↔ q ∈ P ∨ ∃ r ∈ L, q ≠ [] ∧ q <+: r.1
  | [], P, q => by simp
  | r :: L, P, q => by
    rw [List.foldl_cons, mem_pathsG, mem_addIns]
    constructor
    · rintro ((h | ⟨a, h1, h2, rfl⟩) | ⟨x, h1, h2⟩)
      · exact .inl h
      · exact .inr ⟨r, List.mem_cons_self .., by simpa using h1, by simpa using h2⟩
      · exact .inr ⟨x, List.mem_cons_of_mem _ h1, h2⟩
    · rintro (h | ⟨x, h1, h2, h3⟩)
      · exact .inl (.inl h)
      · rcases List.mem_cons.1 h1 with rfl | h1
        · exact .inl (.inr ⟨q, h2, h3, rfl⟩)
        · exact .inr ⟨x, h1, h2, h3⟩
theorem mem_paths {L : List Rl} {q : List Int} : q ∈ paths L ↔ q = [] ∨ ∃ r ∈ L, q ≠ [] ∧ q <+: r.1 := by
  unfold paths
  rw [mem_pathsG, List.mem_singleton]
theorem paths_pre {L : List Rl} {p s : List Int} (h : p ++ s ∈ paths L) : p ∈ paths L := by
  rw [mem_paths] at h ⊢
  by_cases hp : p = []
  · exact .inl hp
  · rcases h with h | ⟨r, h1, h2, h3⟩
    · exact absurd (List.append_eq_nil_iff.1 h).1 hp
    · exact .inr ⟨r, h1, hp, (List.prefix_append p s).trans h3⟩
theorem paths_more {L : List Rl} {q : List Int} : (∃ u, q ++ [u] ∈ paths L) ↔ ∃ r ∈ L, q.length < r.1.length ∧ q <+: r.1 := by
  constructor
  · rintro ⟨u, h⟩
    rcases mem_paths.1 h with h | ⟨r, h1, h2, h3⟩
    · simp at h
    · refine ⟨r, h1, ?_, (List.prefix_append q [u]).trans h3⟩
      have := h3.length_le
      simp at this
      omega
  · rintro ⟨r, h1, h2, t, h3⟩
    cases t with
    | nil => rw [← h3] at h2; simp at h2
    | cons u t => exact ⟨u, mem_paths.2 (.inr ⟨r, h1, by simp, t, by rw [← h3]; simp⟩)⟩
/-- A rule's own place. -/
theorem fnd_get {L : List Rl} (hR : ∀ k r, L[k]? = some r → fnd (L.take k) r.1 < 0) {i : Nat} {r : Rl} (hr : L[i]? = some r) : ∀ (c : Nat), i + 1 + c ≤ L.length → fnd (L.take (i + 1 + c)) r.1 = i
  | 0, h => by
    have htk : L.take (i + 1) = L.take i ++ [r] := by rw [List.take_add_one, hr]; rfl
    show fnd (L.take (i + 1)) r.1 = i
    rw [htk, fnd_snoc (hR i r hr), if_pos rfl, List.length_take, Nat.min_eq_left (by omega)]
  | c + 1, h => by
    have ih := fnd_get hR hr c (by omega)
    obtain ⟨x, hx, _⟩ := drop_at (L := L) (i := i + 1 + c) (by omega)
    have htk : L.take (i + 1 + (c + 1)) = L.take (i + 1 + c) ++ [x] := by
      have : i + 1 + (c + 1) = i + 1 + c + 1 := by omega
      rw [this, List.take_add_one, hx]; rfl
    have hn := hR _ x hx
    rw [htk, fnd_snoc hn, if_neg (fun e => by rw [← e, ih] at hn; omega)]
    exact ih
theorem fnd_at {L : List Rl} (hR : ∀ k r, L[k]? = some r → fnd (L.take k) r.1 < 0) {i : Nat} {r : Rl} (hr : L[i]? = some r) : fnd L r.1 = i := by
  have hl := (List.getElem?_eq_some_iff.1 hr).1
  have := fnd_get hR hr (L.length - (i + 1)) (by omega)
  rwa [List.take_of_length_le (by omega)] at this
/-- The longest In with which units begin, its rule. -/
def Pre (L : List Rl) (q : List Int) (k : Int) (n : Nat) : Prop := n ≤ q.length ∧ (n = 0 → k = -1) ∧ (0 < n → k = fnd L (q.take n) ∧ 0 ≤ k) ∧ ∀ m, n < m → m ≤ q.length → fnd L (q.take m) < 0
theorem Pre.uniq {L : List Rl} {q : List Int} {k k' : Int} {n n' : Nat} (h : Pre L q k n) (h' : Pre L q k' n') : k = k' ∧ n = n' := by
  obtain ⟨a1, a2, a3, a4⟩ := h
  obtain ⟨b1, b2, b3, b4⟩ := h'
  rcases Nat.lt_trichotomy n n' with hlt | rfl | hlt
  · have h1 := a4 n' hlt b1
    obtain ⟨h2, h3⟩ := b3 (by omega)
    omega
  · refine ⟨?_, rfl⟩
    rcases Nat.eq_zero_or_pos n with h0 | h0
    · rw [a2 h0, b2 h0]
    · rw [(a3 h0).1, (b3 h0).1]
  · have h1 := b4 n hlt a1
    obtain ⟨h2, h3⟩ := a3 (by omega)
    omega
theorem lonF_is {L : List Rl} {N : List Nd} (hF : Fits (paths L) N) (hRF : RF (fnd L) (paths L) N) (hρ : ∀ q, q ∉ paths L → fnd L q = -1) : ∀ (us p : List Int) (k : Int) (n m : Nat), (paths L)[m]? = some p → Pre L p k n →
    Pre L (p ++ us) (lonF N (paths L) us p.length k n p m).1 (lonF N (paths L) us p.length k n p m).2.1 ∧ ((lonF N (paths L) us p.length k n p m).2.2 = true ↔ ∃ u, p ++ us ++ [u] ∈ paths L) := by
  intro us
  induction us with
  | nil =>
    intro p k n m hp hpre
    unfold lonF
    rw [List.append_nil]
    refine ⟨hpre, ?_⟩
    have hml : m < N.length := by rw [hF.len]; exact (List.getElem?_eq_some_iff.1 hp).1
    have hx := List.getElem?_eq_getElem hml
    have hc := hF.chain hx hp
    have h0 := hF.kid0 hx
    have hk : kidAt N m = N[m].kid := by unfold kidAt; rw [hx]
    simp only [hk, Bool.not_eq_true', decide_eq_false_iff_not]
    constructor
    · intro hne
      cases hkk : kidsOf (paths L) p with
      | nil =>
        rw [hkk] at hc
        have : N[m].kid ≤ 0 := hc
        omega
      | cons j r =>
        obtain ⟨u, hu⟩ := mem_kids.1 (show j ∈ kidsOf (paths L) p by rw [hkk]; exact List.mem_cons_self ..)
        exact ⟨u, List.mem_of_getElem? hu⟩
    · rintro ⟨u, hu⟩
      obtain ⟨j, hj, hju⟩ := List.getElem_of_mem hu
      have hm : j ∈ kidsOf (paths L) p := mem_kids.2 ⟨u, by rw [List.getElem?_eq_getElem hj, hju]⟩
      cases hkk : kidsOf (paths L) p with
      | nil => rw [hkk] at hm; cases hm
      | cons j r =>
        rw [hkk] at hc
        obtain ⟨h1, h2, _⟩ := hc
        omega
  | cons u us ih =>
    intro p k n m hp hpre
    unfold lonF
    have happ : p ++ u :: us = p ++ [u] ++ us := by simp
    cases hpk : pickU N u (kidsOf (paths L) p) with
    | none =>
      have hno := (pick_none hF).1 hpk
      obtain ⟨a1, a2, a3, a4⟩ := hpre
      refine ⟨⟨by simp; omega, a2, fun h => ?_, fun m' h1 h2 => ?_⟩, ?_⟩
      · rw [List.take_append_of_le_length a1]
        exact a3 h
      · rcases Nat.lt_or_ge p.length m' with hl | hl
        · have : (p ++ u :: us).take m' = p ++ [u] ++ us.take (m' - p.length - 1) := by
            rw [List.take_append, List.take_of_length_le (by omega)]
            obtain ⟨d, hd⟩ : ∃ d, m' - p.length = d + 1 := ⟨m' - p.length - 1, by omega⟩
            rw [hd]
            simp
          rw [this, hρ _ (fun hm => hno (paths_pre hm))]
          decide
        · rw [List.take_append_of_le_length hl]
          exact a4 m' h1 hl
      · simp only [Bool.false_eq_true, false_iff]
        rintro ⟨v, hv⟩
        rw [happ, List.append_assoc] at hv
        exact hno (paths_pre hv)
    | some j =>
      have hpj := (pick_iff hF).1 hpk
      have hjl : j < N.length := by rw [hF.len]; exact (List.getElem?_eq_some_iff.1 hpj).1
      have hxj := List.getElem?_eq_getElem hjl
      have hrj : ruleAt N j = fnd L (p ++ [u]) := by unfold ruleAt; rw [hxj]; exact hRF _ _ _ hxj hpj
      obtain ⟨a1, a2, a3, a4⟩ := hpre
      have hlen : (p ++ [u]).length = p.length + 1 := by simp
      rw [happ]
      simp only
      rw [hrj]
      by_cases h0 : fnd L (p ++ [u]) ≥ 0
      · rw [if_pos h0]
        have := ih (p ++ [u]) (fnd L (p ++ [u])) (p.length + 1) j hpj ⟨by omega, fun h => by omega, fun _ => ⟨by rw [List.take_of_length_le (by omega)], h0⟩, fun m' h1 h2 => by omega⟩
        rw [hlen] at this
        exact this
      · rw [if_neg h0]
        have := ih (p ++ [u]) k n j hpj ⟨by omega, a2, fun h => by rw [List.take_append_of_le_length a1]; exact a3 h, fun m' h1 h2 => by
          rcases Nat.lt_or_ge p.length m' with hl | hl
          · rw [List.take_of_length_le (by omega)]; omega
          · rw [List.take_append_of_le_length hl]; exact a4 m' h1 hl⟩
        rw [hlen] at this
        exact this
theorem lon_is {L : List Rl} {N : List Nd} (hF : Fits (paths L) N) (hRF : RF (fnd L) (paths L) N) (hρ : ∀ q, q ∉ paths L → fnd L q = -1) (us : List Int) :
    Pre L us (lon N (paths L) us).1 (lon N (paths L) us).2.1 ∧ ((lon N (paths L) us).2.2 = true ↔ ∃ r ∈ L, us.length < r.1.length ∧ us <+: r.1) := by
  have := lonF_is hF hRF hρ us [] (-1) 0 0 hF.root ⟨Nat.le_refl _, fun _ => rfl, fun h => by omega, fun m h1 h2 => by simp at h2; omega⟩
  rw [List.nil_append, paths_more] at this
  exact this
/-- The document's loop. -/
def docF (us : List Int) : List Rl → Nat → Int → Nat → Bool → Int × Nat × Bool
  | [], _, k, n, o => (k, n, o)
  | r :: L, i, k, n, o =>
    if r.1.length ≤ us.length ∧ r.1 = us.take r.1.length ∧ n < r.1.length then docF us L (i + 1) i r.1.length (o || (decide (us.length < r.1.length) && decide (r.1.take us.length = us)))
    else docF us L (i + 1) k n (o || (decide (us.length < r.1.length) && decide (r.1.take us.length = us)))
theorem pre_take {a b : List Int} : a <+: b ↔ b.take a.length = a := by
  constructor
  · rintro ⟨t, rfl⟩; simp
  · intro h; exact ⟨b.drop a.length, by have := List.take_append_drop a.length b; rw [h] at this; exact this⟩
theorem docF_is {us : List Int} : ∀ (R T : List Rl) (k : Int) (n : Nat) (o : Bool), (∀ j r, (T ++ R)[j]? = some r → fnd ((T ++ R).take j) r.1 < 0) → Pre T us k n → (o = true ↔ ∃ r ∈ T, us.length < r.1.length ∧ us <+: r.1) →
    Pre (T ++ R) us (docF us R T.length k n o).1 (docF us R T.length k n o).2.1 ∧ ((docF us R T.length k n o).2.2 = true ↔ ∃ r ∈ T ++ R, us.length < r.1.length ∧ us <+: r.1)
  | [], T, k, n, o, hR, hp, ho => by
    rw [List.append_nil]
    exact ⟨hp, ho⟩
  | r :: R, T, k, n, o, hR, hp, ho => by
    have happ : T ++ r :: R = T ++ [r] ++ R := by simp
    have hn : fnd T r.1 < 0 := by
      have := hR T.length r (by rw [List.getElem?_append_right (Nat.le_refl _), Nat.sub_self]; rfl)
      rwa [List.take_left] at this
    have hl : (T ++ [r]).length = T.length + 1 := by simp
    obtain ⟨a1, a2, a3, a4⟩ := hp
    have ho' : (o || (decide (us.length < r.1.length) && decide (r.1.take us.length = us))) = true ↔ ∃ x ∈ T ++ [r], us.length < x.1.length ∧ us <+: x.1 := by
      rw [Bool.or_eq_true, Bool.and_eq_true, decide_eq_true_eq, decide_eq_true_eq, ← pre_take, ho]
      constructor
      · rintro (⟨x, h1, h2⟩ | h)
        · exact ⟨x, List.mem_append_left _ h1, h2⟩
        · exact ⟨r, by simp, h⟩
      · rintro ⟨x, h1, h2⟩
        rcases List.mem_append.1 h1 with h1 | h1
        · exact .inl ⟨x, h1, h2⟩
        · simp at h1
          subst h1
          exact .inr h2
    rw [happ] at hR ⊢
    unfold docF
    split
    · rename_i hc
      obtain ⟨c1, c2, c3⟩ := hc
      have := docF_is R (T ++ [r]) T.length r.1.length _ hR ⟨c1, fun h => by omega, fun _ => ⟨by rw [fnd_snoc hn, if_pos c2.symm], by omega⟩, fun m h1 h2 => by
        rw [fnd_snoc hn, if_neg (fun e => by have := congrArg List.length e; rw [List.length_take] at this; omega)]
        exact a4 m (by omega) h2⟩ ho'
      rw [hl] at this
      exact this
    · rename_i hc
      have := docF_is R (T ++ [r]) k n _ hR ⟨a1, a2, fun h => by
        obtain ⟨b1, b2⟩ := a3 h
        rw [fnd_snoc hn, if_neg (fun e => by rw [e] at b1; omega)]
        exact ⟨b1, b2⟩, fun m h1 h2 => by
        rw [fnd_snoc hn, if_neg (fun e => hc (by
          have hm : r.1.length = m := by rw [← e, List.length_take]; omega
          exact ⟨by omega, by rw [hm]; exact e.symm, by omega⟩))]
        exact a4 m h1 h2⟩ ho'
      rw [hl] at this
      exact this
/-- What is read of a trie is what the document says. -/
theorem lon_doc {L : List Rl} {N : List Nd} (hR : Right L) (hF : Fits (paths L) N) (hRF : RF (fnd L) (paths L) N) (hρ : ∀ q, q ∉ paths L → fnd L q = -1) (us : List Int) : lon N (paths L) us = docF us L 0 (-1) 0 false := by
  obtain ⟨h1, h2⟩ := lon_is hF hRF hρ us
  have h0 : ∀ (q : List Int), fnd [] q = -1 := fun _ => rfl
  obtain ⟨h3, h4⟩ := docF_is (us := us) L [] (-1) 0 false (by simpa using hR.2) ⟨Nat.zero_le _, fun _ => rfl, fun h => by omega, fun m _ _ => by rw [h0]; decide⟩ (by simp)
  rw [List.nil_append] at h3 h4
  obtain ⟨e1, e2⟩ := h1.uniq h3
  have e3 : (lon N (paths L) us).2.2 = (docF us L 0 (-1) 0 false).2.2 := by
    rw [Bool.eq_iff_iff]
    exact h2.trans h4.symm
  exact Prod.ext e1 (Prod.ext e2 e3)
end Go.Proofs.Ytjicdpkgcofiaaa

/-! The document's longest rule. -/
set_option linter.unusedSimpArgs false
set_option linter.unusedVariables false
namespace Go.Proofs.Ytjicdpkgcofiaaa
open Go Lon
set_option maxRecDepth 100000
theorem l_Doc {a b : Value} {us : List Int} {L : List Rl} (hL : L.length < 1000000) (hus : tiny us) : ∀ (c i : Nat) (H : AHeap) (k : Int) (n : Nat) (o : Bool), i + c = L.length → Rules H a L → CutR H a → Ints H b us → Cut Try.prog H b 1 →
    Out (run Try.prog (tabF tab) om1 (.loop [1, 7, 8, 9, 12, 13, 14] b_lontarlaw04_Longest_0) [(1, b), (7, .int .i64 k), (8, .int .i64 n), (9, .bool o), (12, a), (13, .int .i64 L.length), (14, .int .i64 i)] H) fun y e' H' => y = .exit 0 ∧ Ext H H' ∧ eget e' 7 = .int .i64 (docF us (L.drop i) i k n o).1 ∧ eget e' 8 = .int .i64 (docF us (L.drop i) i k n o).2.1 ∧ eget e' 9 = .bool (docF us (L.drop i) i k n o).2.2 := by
  intro c
  induction c with
  | zero =>
    intro i H k n o hi ha hac hb hbc
    have hlt : ¬ ((i : Int) < L.length) := by omega
    rw [w_loop_b b_lontarlaw04_Longest_0.eq_1, List.drop_of_length_le (by omega)]
    simp only [w_draw, dr_cons, dr_some, dr_none, dr_go, still_no, still_yes, next_no, next_yes, last_cons, last_nil, isStore, calm_no, calm_nil, calm_cons, calmB_some, isCall, freshI, dr_nil, dr_end, still_nil, still_cons, stillB_some, stamp_some, stampV_ptr, stampV_tuple, stampO, still_here, still_here0, List.nil_append, w_out, w_gives, fin_ret, fin_normal, ress_nil, ress_tmp, pack_one, pack_nil, pack_two, entry_nil, entry_one, entry_two, entry_three, entry_four, eq_skip, eq_exit, eq_ret, w_rows, w_done, w_seq, w_normal, w_ret, w_exit, w_cond, w_true, w_false, eq_block, block_normal, block_ret, block_exit, rows_nil, rows_cons, on_some, on_none, row_plain, row_guard, guard_tt, guard_ff, guard_tf, guard_ft, guard_no, ev_tmp, ev_int, ev_bool, ev_string, ev_slice, ev_pointer, ev_map, ev_float, ev_complex, ev_nilIface, ev_nilFunc, ev_func, eget_cons, eget_nil, st_mv, st_pick, v_pick_t, v_pick_f, st_ext, v_ext0, v_ext1, v_ext2, v_ext3, st_int, v_int, int_add, int_sub, int_mul, int_eql, int_neq, int_lss, int_leq, int_gtr, int_geq, st_beq, v_beq, v_bne, st_not, v_not, st_conv, v_conv, st_faddr, v_faddr, st_iaddr, v_iaddr, st_aaddr, v_aaddr, st_nilChk, v_nil, st_len, v_len, v_lenS, st_load, v_load, got_one, got_row, mem_tip, mem_ro, mem_ret, st_alloc, st_box, st_store, v_store, got_store, cells_agg, cells_int, cells_bool, cells_slice, cells_pointer, cells_string, cells_complex, cells_func, one_int, one_bool, one_slice, one_pointer, one_string, one_complex, one_func, upd_push, get_push_self, AHeap.n_push, AHeap.n_upd, st_build, parts_nil, parts_cons, st_bslice, st_append, st_mkfun, st_mkface, st_isNil, st_max, v_max, st_min, v_min, st_field, st_index, st_slice0, v_slice0, v_slice0n, st_slice, kill_nil, st_call, v_call, forget_nil, forget_cons, Option.map_some, Option.map_none, Option.bind_some, List.map_cons, List.map_nil, if_true, if_false, Nat.reduceEqDiff, Int.reduceEq, Nat.reduceAdd, Nat.reduceMul, Bool.not_true, Bool.not_false, reduceCtorEq, decide_true, decide_false, Int.cast_ofNat_Int, eq_self, Int.reduceLT, Int.reduceLE, Int.reduceToNat, Int.toNat_natCast, Int.le_refl, Nat.le_refl, Nat.zero_add, Nat.add_zero, Nat.zero_mul, Nat.mul_one, Nat.mul_zero, and_self, and_true, true_and, List.length_cons, List.length_nil, List.all_cons, List.all_nil, Bool.and_self, Bool.and_true, Bool.true_and, List.take_zero, List.nil_append, List.drop_nil, List.append_nil, List.getElem?_cons_zero, List.getElem?_cons_succ, List.drop_succ_cons, List.drop_zero, List.take_succ_cons, List.cons_append, Nat.reduceLeDiff, hlt, docF]
    exact Ext.refl _
  | succ c ih =>
    intro i H k n o hi ha hac hb hbc
    have hlt : (i : Int) < L.length := by omega
    obtain ⟨r, hr, hdr⟩ := drop_at (L := L) (i := i) (by omega)
    obtain ⟨i1, o1, vi, vo, h1, h2, h3, h4, h5, h6, h7, h8, h9, h10⟩ := Rules.atC ha hac hr
    have h5' := h5
    have h6' := h6
    obtain ⟨⟨ai, ci, rfl⟩, _⟩ := h5'
    obtain ⟨⟨ao, co, rfl⟩, _⟩ := h6'
    have hx1 := Ext.push H ⟨[.slice ai r.1.length ci, .slice ao r.2.length co], 41, .tip, 1, []⟩
    obtain ⟨H1, hH1⟩ : ∃ H1, H1 = H.push ⟨[.slice ai r.1.length ci, .slice ao r.2.length co], 41, .tip, 1, []⟩ := ⟨_, rfl⟩
    have hg1 : H1.get H.n = some ⟨[.slice ai r.1.length ci, .slice ao r.2.length co], 41, .tip, 1, []⟩ := by rw [hH1]; exact get_push_self
    have hw2 : IntKind.i64.wrap ((i : Int) + 1) = ((i + 1 : Nat) : Int) := by rw [wrap64 (by omega) (by omega)]; omega
    have hlr : ∀ H2 : AHeap, vLen false (.slice ai r.1.length ci) H2 = some (.int .i64 r.1.length, H2) := fun H2 => Sl.len h5
    have hlb : ∀ H2 : AHeap, vLen false b H2 = some (.int .i64 us.length, H2) := fun H2 => Sl.len hb
    rw [w_loop_b b_lontarlaw04_Longest_0.eq_1, hdr]
    unfold docF
    rw [← hH1] at hx1
    by_cases hle : r.1.length ≤ us.length
    · obtain ⟨b', s1, s2, s3⟩ := (hb.ext hx1).take (hbc.ext hx1) hle
      have s1' := s1 .i64
      have cU := c_Units (h5.ext hx1) s2 h7
      have hle' : (r.1.length : Int) ≤ us.length := by omega
      have hgt : ¬ (r.1.length : Int) > us.length := by omega
      have hd : (decide (us.length < r.1.length) && decide (r.1.take us.length = us)) = false := by
        rw [decide_eq_false (by omega)]; rfl
      rw [hd, Bool.or_false]
      by_cases he : r.1 = us.take r.1.length
      · have he' : decide (r.1 = us.take r.1.length) = true := decide_eq_true he
        rw [he'] at cU
        by_cases hn : n < r.1.length
        · have hn' : (r.1.length : Int) > n := by omega
          rw [if_pos ⟨hle, he, hn⟩]
          obtain ⟨y, e', H', r1, r2, r3, r4, r5, r6⟩ := ih (i + 1) H1 i r.1.length o (by omega) (ha.ext hx1) (hac.ext hx1) (hb.ext hx1) (hbc.ext hx1)
          cases o <;>
          · simp only [w_draw, dr_cons, dr_some, dr_none, dr_go, still_no, still_yes, next_no, next_yes, last_cons, last_nil, isStore, calm_no, calm_nil, calm_cons, calmB_some, isCall, freshI, dr_nil, dr_end, still_nil, still_cons, stillB_some, stamp_some, stampV_ptr, stampV_tuple, stampO, still_here, still_here0, List.nil_append, w_out, w_gives, fin_ret, fin_normal, ress_nil, ress_tmp, pack_one, pack_nil, pack_two, entry_nil, entry_one, entry_two, entry_three, entry_four, eq_skip, eq_exit, eq_ret, w_rows, w_done, w_seq, w_normal, w_ret, w_exit, w_cond, w_true, w_false, eq_block, block_normal, block_ret, block_exit, rows_nil, rows_cons, on_some, on_none, row_plain, row_guard, guard_tt, guard_ff, guard_tf, guard_ft, guard_no, ev_tmp, ev_int, ev_bool, ev_string, ev_slice, ev_pointer, ev_map, ev_float, ev_complex, ev_nilIface, ev_nilFunc, ev_func, eget_cons, eget_nil, st_mv, st_pick, v_pick_t, v_pick_f, st_ext, v_ext0, v_ext1, v_ext2, v_ext3, st_int, v_int, int_add, int_sub, int_mul, int_eql, int_neq, int_lss, int_leq, int_gtr, int_geq, st_beq, v_beq, v_bne, st_not, v_not, st_conv, v_conv, st_faddr, v_faddr, st_iaddr, v_iaddr, st_aaddr, v_aaddr, st_nilChk, v_nil, st_len, v_len, v_lenS, st_load, v_load, got_one, got_row, mem_tip, mem_ro, mem_ret, st_alloc, st_box, st_store, v_store, got_store, cells_agg, cells_int, cells_bool, cells_slice, cells_pointer, cells_string, cells_complex, cells_func, one_int, one_bool, one_slice, one_pointer, one_string, one_complex, one_func, upd_push, get_push_self, AHeap.n_push, AHeap.n_upd, st_build, parts_nil, parts_cons, st_bslice, st_append, st_mkfun, st_mkface, st_isNil, st_max, v_max, st_min, v_min, st_field, st_index, st_slice0, v_slice0, v_slice0n, st_slice, kill_nil, st_call, v_call, forget_nil, forget_cons, Option.map_some, Option.map_none, Option.bind_some, List.map_cons, List.map_nil, if_true, if_false, Nat.reduceEqDiff, Int.reduceEq, Nat.reduceAdd, Nat.reduceMul, Bool.not_true, Bool.not_false, reduceCtorEq, decide_true, decide_false, Int.cast_ofNat_Int, eq_self, Int.reduceLT, Int.reduceLE, Int.reduceToNat, Int.toNat_natCast, Int.le_refl, Nat.le_refl, Nat.zero_add, Nat.add_zero, Nat.zero_mul, Nat.mul_one, Nat.mul_zero, and_self, and_true, true_and, List.length_cons, List.length_nil, List.all_cons, List.all_nil, Bool.and_self, Bool.and_true, Bool.true_and, List.take_zero, List.nil_append, List.drop_nil, List.append_nil, List.getElem?_cons_zero, List.getElem?_cons_succ, List.drop_succ_cons, List.drop_zero, List.take_succ_cons, List.cons_append, Nat.reduceLeDiff, hlt, h1, h4, ← hH1, hg1, hlr, hlb, hle', s1', cU, hn', hgt, hw2]
            rw [w_enter]
            simp only [w_draw, dr_cons, dr_some, dr_none, dr_go, still_no, still_yes, next_no, next_yes, last_cons, last_nil, isStore, calm_no, calm_nil, calm_cons, calmB_some, isCall, freshI, dr_nil, dr_end, still_nil, still_cons, stillB_some, stamp_some, stampV_ptr, stampV_tuple, stampO, still_here, still_here0, List.nil_append, w_out, w_gives, fin_ret, fin_normal, ress_nil, ress_tmp, pack_one, pack_nil, pack_two, entry_nil, entry_one, entry_two, entry_three, entry_four, eq_skip, eq_exit, eq_ret, w_rows, w_done, w_seq, w_normal, w_ret, w_exit, w_cond, w_true, w_false, eq_block, block_normal, block_ret, block_exit, rows_nil, rows_cons, on_some, on_none, row_plain, row_guard, guard_tt, guard_ff, guard_tf, guard_ft, guard_no, ev_tmp, ev_int, ev_bool, ev_string, ev_slice, ev_pointer, ev_map, ev_float, ev_complex, ev_nilIface, ev_nilFunc, ev_func, eget_cons, eget_nil, st_mv, st_pick, v_pick_t, v_pick_f, st_ext, v_ext0, v_ext1, v_ext2, v_ext3, st_int, v_int, int_add, int_sub, int_mul, int_eql, int_neq, int_lss, int_leq, int_gtr, int_geq, st_beq, v_beq, v_bne, st_not, v_not, st_conv, v_conv, st_faddr, v_faddr, st_iaddr, v_iaddr, st_aaddr, v_aaddr, st_nilChk, v_nil, st_len, v_len, v_lenS, st_load, v_load, got_one, got_row, mem_tip, mem_ro, mem_ret, st_alloc, st_box, st_store, v_store, got_store, cells_agg, cells_int, cells_bool, cells_slice, cells_pointer, cells_string, cells_complex, cells_func, one_int, one_bool, one_slice, one_pointer, one_string, one_complex, one_func, upd_push, get_push_self, AHeap.n_push, AHeap.n_upd, st_build, parts_nil, parts_cons, st_bslice, st_append, st_mkfun, st_mkface, st_isNil, st_max, v_max, st_min, v_min, st_field, st_index, st_slice0, v_slice0, v_slice0n, st_slice, kill_nil, st_call, v_call, forget_nil, forget_cons, Option.map_some, Option.map_none, Option.bind_some, List.map_cons, List.map_nil, if_true, if_false, Nat.reduceEqDiff, Int.reduceEq, Nat.reduceAdd, Nat.reduceMul, Bool.not_true, Bool.not_false, reduceCtorEq, decide_true, decide_false, Int.cast_ofNat_Int, eq_self, Int.reduceLT, Int.reduceLE, Int.reduceToNat, Int.toNat_natCast, Int.le_refl, Nat.le_refl, Nat.zero_add, Nat.add_zero, Nat.zero_mul, Nat.mul_one, Nat.mul_zero, and_self, and_true, true_and, List.length_cons, List.length_nil, List.all_cons, List.all_nil, Bool.and_self, Bool.and_true, Bool.true_and, List.take_zero, List.nil_append, List.drop_nil, List.append_nil, List.getElem?_cons_zero, List.getElem?_cons_succ, List.drop_succ_cons, List.drop_zero, List.take_succ_cons, List.cons_append, Nat.reduceLeDiff, r1]
            exact ⟨r2, hx1.trans r3, r4, r5, r6⟩
        · have hn' : ¬ (r.1.length : Int) > n := by omega
          rw [if_neg (fun h => hn h.2.2)]
          obtain ⟨y, e', H', r1, r2, r3, r4, r5, r6⟩ := ih (i + 1) H1 k n o (by omega) (ha.ext hx1) (hac.ext hx1) (hb.ext hx1) (hbc.ext hx1)
          cases o <;>
          · simp only [w_draw, dr_cons, dr_some, dr_none, dr_go, still_no, still_yes, next_no, next_yes, last_cons, last_nil, isStore, calm_no, calm_nil, calm_cons, calmB_some, isCall, freshI, dr_nil, dr_end, still_nil, still_cons, stillB_some, stamp_some, stampV_ptr, stampV_tuple, stampO, still_here, still_here0, List.nil_append, w_out, w_gives, fin_ret, fin_normal, ress_nil, ress_tmp, pack_one, pack_nil, pack_two, entry_nil, entry_one, entry_two, entry_three, entry_four, eq_skip, eq_exit, eq_ret, w_rows, w_done, w_seq, w_normal, w_ret, w_exit, w_cond, w_true, w_false, eq_block, block_normal, block_ret, block_exit, rows_nil, rows_cons, on_some, on_none, row_plain, row_guard, guard_tt, guard_ff, guard_tf, guard_ft, guard_no, ev_tmp, ev_int, ev_bool, ev_string, ev_slice, ev_pointer, ev_map, ev_float, ev_complex, ev_nilIface, ev_nilFunc, ev_func, eget_cons, eget_nil, st_mv, st_pick, v_pick_t, v_pick_f, st_ext, v_ext0, v_ext1, v_ext2, v_ext3, st_int, v_int, int_add, int_sub, int_mul, int_eql, int_neq, int_lss, int_leq, int_gtr, int_geq, st_beq, v_beq, v_bne, st_not, v_not, st_conv, v_conv, st_faddr, v_faddr, st_iaddr, v_iaddr, st_aaddr, v_aaddr, st_nilChk, v_nil, st_len, v_len, v_lenS, st_load, v_load, got_one, got_row, mem_tip, mem_ro, mem_ret, st_alloc, st_box, st_store, v_store, got_store, cells_agg, cells_int, cells_bool, cells_slice, cells_pointer, cells_string, cells_complex, cells_func, one_int, one_bool, one_slice, one_pointer, one_string, one_complex, one_func, upd_push, get_push_self, AHeap.n_push, AHeap.n_upd, st_build, parts_nil, parts_cons, st_bslice, st_append, st_mkfun, st_mkface, st_isNil, st_max, v_max, st_min, v_min, st_field, st_index, st_slice0, v_slice0, v_slice0n, st_slice, kill_nil, st_call, v_call, forget_nil, forget_cons, Option.map_some, Option.map_none, Option.bind_some, List.map_cons, List.map_nil, if_true, if_false, Nat.reduceEqDiff, Int.reduceEq, Nat.reduceAdd, Nat.reduceMul, Bool.not_true, Bool.not_false, reduceCtorEq, decide_true, decide_false, Int.cast_ofNat_Int, eq_self, Int.reduceLT, Int.reduceLE, Int.reduceToNat, Int.toNat_natCast, Int.le_refl, Nat.le_refl, Nat.zero_add, Nat.add_zero, Nat.zero_mul, Nat.mul_one, Nat.mul_zero, and_self, and_true, true_and, List.length_cons, List.length_nil, List.all_cons, List.all_nil, Bool.and_self, Bool.and_true, Bool.true_and, List.take_zero, List.nil_append, List.drop_nil, List.append_nil, List.getElem?_cons_zero, List.getElem?_cons_succ, List.drop_succ_cons, List.drop_zero, List.take_succ_cons, List.cons_append, Nat.reduceLeDiff, hlt, h1, h4, ← hH1, hg1, hlr, hlb, hle', s1', cU, hn', hgt, hw2]
            rw [w_enter]
            simp only [w_draw, dr_cons, dr_some, dr_none, dr_go, still_no, still_yes, next_no, next_yes, last_cons, last_nil, isStore, calm_no, calm_nil, calm_cons, calmB_some, isCall, freshI, dr_nil, dr_end, still_nil, still_cons, stillB_some, stamp_some, stampV_ptr, stampV_tuple, stampO, still_here, still_here0, List.nil_append, w_out, w_gives, fin_ret, fin_normal, ress_nil, ress_tmp, pack_one, pack_nil, pack_two, entry_nil, entry_one, entry_two, entry_three, entry_four, eq_skip, eq_exit, eq_ret, w_rows, w_done, w_seq, w_normal, w_ret, w_exit, w_cond, w_true, w_false, eq_block, block_normal, block_ret, block_exit, rows_nil, rows_cons, on_some, on_none, row_plain, row_guard, guard_tt, guard_ff, guard_tf, guard_ft, guard_no, ev_tmp, ev_int, ev_bool, ev_string, ev_slice, ev_pointer, ev_map, ev_float, ev_complex, ev_nilIface, ev_nilFunc, ev_func, eget_cons, eget_nil, st_mv, st_pick, v_pick_t, v_pick_f, st_ext, v_ext0, v_ext1, v_ext2, v_ext3, st_int, v_int, int_add, int_sub, int_mul, int_eql, int_neq, int_lss, int_leq, int_gtr, int_geq, st_beq, v_beq, v_bne, st_not, v_not, st_conv, v_conv, st_faddr, v_faddr, st_iaddr, v_iaddr, st_aaddr, v_aaddr, st_nilChk, v_nil, st_len, v_len, v_lenS, st_load, v_load, got_one, got_row, mem_tip, mem_ro, mem_ret, st_alloc, st_box, st_store, v_store, got_store, cells_agg, cells_int, cells_bool, cells_slice, cells_pointer, cells_string, cells_complex, cells_func, one_int, one_bool, one_slice, one_pointer, one_string, one_complex, one_func, upd_push, get_push_self, AHeap.n_push, AHeap.n_upd, st_build, parts_nil, parts_cons, st_bslice, st_append, st_mkfun, st_mkface, st_isNil, st_max, v_max, st_min, v_min, st_field, st_index, st_slice0, v_slice0, v_slice0n, st_slice, kill_nil, st_call, v_call, forget_nil, forget_cons, Option.map_some, Option.map_none, Option.bind_some, List.map_cons, List.map_nil, if_true, if_false, Nat.reduceEqDiff, Int.reduceEq, Nat.reduceAdd, Nat.reduceMul, Bool.not_true, Bool.not_false, reduceCtorEq, decide_true, decide_false, Int.cast_ofNat_Int, eq_self, Int.reduceLT, Int.reduceLE, Int.reduceToNat, Int.toNat_natCast, Int.le_refl, Nat.le_refl, Nat.zero_add, Nat.add_zero, Nat.zero_mul, Nat.mul_one, Nat.mul_zero, and_self, and_true, true_and, List.length_cons, List.length_nil, List.all_cons, List.all_nil, Bool.and_self, Bool.and_true, Bool.true_and, List.take_zero, List.nil_append, List.drop_nil, List.append_nil, List.getElem?_cons_zero, List.getElem?_cons_succ, List.drop_succ_cons, List.drop_zero, List.take_succ_cons, List.cons_append, Nat.reduceLeDiff, r1]
            exact ⟨r2, hx1.trans r3, r4, r5, r6⟩
      · have he' : decide (r.1 = us.take r.1.length) = false := decide_eq_false he
        rw [he'] at cU
        rw [if_neg (fun h => he h.2.1)]
        obtain ⟨y, e', H', r1, r2, r3, r4, r5, r6⟩ := ih (i + 1) H1 k n o (by omega) (ha.ext hx1) (hac.ext hx1) (hb.ext hx1) (hbc.ext hx1)
        cases o <;>
        · simp only [w_draw, dr_cons, dr_some, dr_none, dr_go, still_no, still_yes, next_no, next_yes, last_cons, last_nil, isStore, calm_no, calm_nil, calm_cons, calmB_some, isCall, freshI, dr_nil, dr_end, still_nil, still_cons, stillB_some, stamp_some, stampV_ptr, stampV_tuple, stampO, still_here, still_here0, List.nil_append, w_out, w_gives, fin_ret, fin_normal, ress_nil, ress_tmp, pack_one, pack_nil, pack_two, entry_nil, entry_one, entry_two, entry_three, entry_four, eq_skip, eq_exit, eq_ret, w_rows, w_done, w_seq, w_normal, w_ret, w_exit, w_cond, w_true, w_false, eq_block, block_normal, block_ret, block_exit, rows_nil, rows_cons, on_some, on_none, row_plain, row_guard, guard_tt, guard_ff, guard_tf, guard_ft, guard_no, ev_tmp, ev_int, ev_bool, ev_string, ev_slice, ev_pointer, ev_map, ev_float, ev_complex, ev_nilIface, ev_nilFunc, ev_func, eget_cons, eget_nil, st_mv, st_pick, v_pick_t, v_pick_f, st_ext, v_ext0, v_ext1, v_ext2, v_ext3, st_int, v_int, int_add, int_sub, int_mul, int_eql, int_neq, int_lss, int_leq, int_gtr, int_geq, st_beq, v_beq, v_bne, st_not, v_not, st_conv, v_conv, st_faddr, v_faddr, st_iaddr, v_iaddr, st_aaddr, v_aaddr, st_nilChk, v_nil, st_len, v_len, v_lenS, st_load, v_load, got_one, got_row, mem_tip, mem_ro, mem_ret, st_alloc, st_box, st_store, v_store, got_store, cells_agg, cells_int, cells_bool, cells_slice, cells_pointer, cells_string, cells_complex, cells_func, one_int, one_bool, one_slice, one_pointer, one_string, one_complex, one_func, upd_push, get_push_self, AHeap.n_push, AHeap.n_upd, st_build, parts_nil, parts_cons, st_bslice, st_append, st_mkfun, st_mkface, st_isNil, st_max, v_max, st_min, v_min, st_field, st_index, st_slice0, v_slice0, v_slice0n, st_slice, kill_nil, st_call, v_call, forget_nil, forget_cons, Option.map_some, Option.map_none, Option.bind_some, List.map_cons, List.map_nil, if_true, if_false, Nat.reduceEqDiff, Int.reduceEq, Nat.reduceAdd, Nat.reduceMul, Bool.not_true, Bool.not_false, reduceCtorEq, decide_true, decide_false, Int.cast_ofNat_Int, eq_self, Int.reduceLT, Int.reduceLE, Int.reduceToNat, Int.toNat_natCast, Int.le_refl, Nat.le_refl, Nat.zero_add, Nat.add_zero, Nat.zero_mul, Nat.mul_one, Nat.mul_zero, and_self, and_true, true_and, List.length_cons, List.length_nil, List.all_cons, List.all_nil, Bool.and_self, Bool.and_true, Bool.true_and, List.take_zero, List.nil_append, List.drop_nil, List.append_nil, List.getElem?_cons_zero, List.getElem?_cons_succ, List.drop_succ_cons, List.drop_zero, List.take_succ_cons, List.cons_append, Nat.reduceLeDiff, hlt, h1, h4, ← hH1, hg1, hlr, hlb, hle', s1', cU, hgt, hw2]
          rw [w_enter]
          simp only [w_draw, dr_cons, dr_some, dr_none, dr_go, still_no, still_yes, next_no, next_yes, last_cons, last_nil, isStore, calm_no, calm_nil, calm_cons, calmB_some, isCall, freshI, dr_nil, dr_end, still_nil, still_cons, stillB_some, stamp_some, stampV_ptr, stampV_tuple, stampO, still_here, still_here0, List.nil_append, w_out, w_gives, fin_ret, fin_normal, ress_nil, ress_tmp, pack_one, pack_nil, pack_two, entry_nil, entry_one, entry_two, entry_three, entry_four, eq_skip, eq_exit, eq_ret, w_rows, w_done, w_seq, w_normal, w_ret, w_exit, w_cond, w_true, w_false, eq_block, block_normal, block_ret, block_exit, rows_nil, rows_cons, on_some, on_none, row_plain, row_guard, guard_tt, guard_ff, guard_tf, guard_ft, guard_no, ev_tmp, ev_int, ev_bool, ev_string, ev_slice, ev_pointer, ev_map, ev_float, ev_complex, ev_nilIface, ev_nilFunc, ev_func, eget_cons, eget_nil, st_mv, st_pick, v_pick_t, v_pick_f, st_ext, v_ext0, v_ext1, v_ext2, v_ext3, st_int, v_int, int_add, int_sub, int_mul, int_eql, int_neq, int_lss, int_leq, int_gtr, int_geq, st_beq, v_beq, v_bne, st_not, v_not, st_conv, v_conv, st_faddr, v_faddr, st_iaddr, v_iaddr, st_aaddr, v_aaddr, st_nilChk, v_nil, st_len, v_len, v_lenS, st_load, v_load, got_one, got_row, mem_tip, mem_ro, mem_ret, st_alloc, st_box, st_store, v_store, got_store, cells_agg, cells_int, cells_bool, cells_slice, cells_pointer, cells_string, cells_complex, cells_func, one_int, one_bool, one_slice, one_pointer, one_string, one_complex, one_func, upd_push, get_push_self, AHeap.n_push, AHeap.n_upd, st_build, parts_nil, parts_cons, st_bslice, st_append, st_mkfun, st_mkface, st_isNil, st_max, v_max, st_min, v_min, st_field, st_index, st_slice0, v_slice0, v_slice0n, st_slice, kill_nil, st_call, v_call, forget_nil, forget_cons, Option.map_some, Option.map_none, Option.bind_some, List.map_cons, List.map_nil, if_true, if_false, Nat.reduceEqDiff, Int.reduceEq, Nat.reduceAdd, Nat.reduceMul, Bool.not_true, Bool.not_false, reduceCtorEq, decide_true, decide_false, Int.cast_ofNat_Int, eq_self, Int.reduceLT, Int.reduceLE, Int.reduceToNat, Int.toNat_natCast, Int.le_refl, Nat.le_refl, Nat.zero_add, Nat.add_zero, Nat.zero_mul, Nat.mul_one, Nat.mul_zero, and_self, and_true, true_and, List.length_cons, List.length_nil, List.all_cons, List.all_nil, Bool.and_self, Bool.and_true, Bool.true_and, List.take_zero, List.nil_append, List.drop_nil, List.append_nil, List.getElem?_cons_zero, List.getElem?_cons_succ, List.drop_succ_cons, List.drop_zero, List.take_succ_cons, List.cons_append, Nat.reduceLeDiff, r1]
          exact ⟨r2, hx1.trans r3, r4, r5, r6⟩
    · have hle' : ¬ (r.1.length : Int) ≤ us.length := by omega
      have hgt : (r.1.length : Int) > us.length := by omega
      rw [if_neg (fun h => hle h.1), decide_eq_true (show us.length < r.1.length by omega), Bool.true_and]
      obtain ⟨b', s1, s2, s3⟩ := (h5.ext hx1).take (h9.ext hx1) (show us.length ≤ r.1.length by omega)
      have s1' := s1 .i64
      have cU := c_Units s2 (hb.ext hx1) (by rw [List.length_take]; unfold Lon.tiny at hus; omega)
      obtain ⟨y, e', H', r1, r2, r3, r4, r5, r6⟩ := ih (i + 1) H1 k n (o || decide (r.1.take us.length = us)) (by omega) (ha.ext hx1) (hac.ext hx1) (hb.ext hx1) (hbc.ext hx1)
      cases o with
      | true =>
        simp only [Bool.true_or] at r1 r4 r5 r6 ⊢
        simp only [w_draw, dr_cons, dr_some, dr_none, dr_go, still_no, still_yes, next_no, next_yes, last_cons, last_nil, isStore, calm_no, calm_nil, calm_cons, calmB_some, isCall, freshI, dr_nil, dr_end, still_nil, still_cons, stillB_some, stamp_some, stampV_ptr, stampV_tuple, stampO, still_here, still_here0, List.nil_append, w_out, w_gives, fin_ret, fin_normal, ress_nil, ress_tmp, pack_one, pack_nil, pack_two, entry_nil, entry_one, entry_two, entry_three, entry_four, eq_skip, eq_exit, eq_ret, w_rows, w_done, w_seq, w_normal, w_ret, w_exit, w_cond, w_true, w_false, eq_block, block_normal, block_ret, block_exit, rows_nil, rows_cons, on_some, on_none, row_plain, row_guard, guard_tt, guard_ff, guard_tf, guard_ft, guard_no, ev_tmp, ev_int, ev_bool, ev_string, ev_slice, ev_pointer, ev_map, ev_float, ev_complex, ev_nilIface, ev_nilFunc, ev_func, eget_cons, eget_nil, st_mv, st_pick, v_pick_t, v_pick_f, st_ext, v_ext0, v_ext1, v_ext2, v_ext3, st_int, v_int, int_add, int_sub, int_mul, int_eql, int_neq, int_lss, int_leq, int_gtr, int_geq, st_beq, v_beq, v_bne, st_not, v_not, st_conv, v_conv, st_faddr, v_faddr, st_iaddr, v_iaddr, st_aaddr, v_aaddr, st_nilChk, v_nil, st_len, v_len, v_lenS, st_load, v_load, got_one, got_row, mem_tip, mem_ro, mem_ret, st_alloc, st_box, st_store, v_store, got_store, cells_agg, cells_int, cells_bool, cells_slice, cells_pointer, cells_string, cells_complex, cells_func, one_int, one_bool, one_slice, one_pointer, one_string, one_complex, one_func, upd_push, get_push_self, AHeap.n_push, AHeap.n_upd, st_build, parts_nil, parts_cons, st_bslice, st_append, st_mkfun, st_mkface, st_isNil, st_max, v_max, st_min, v_min, st_field, st_index, st_slice0, v_slice0, v_slice0n, st_slice, kill_nil, st_call, v_call, forget_nil, forget_cons, Option.map_some, Option.map_none, Option.bind_some, List.map_cons, List.map_nil, if_true, if_false, Nat.reduceEqDiff, Int.reduceEq, Nat.reduceAdd, Nat.reduceMul, Bool.not_true, Bool.not_false, reduceCtorEq, decide_true, decide_false, Int.cast_ofNat_Int, eq_self, Int.reduceLT, Int.reduceLE, Int.reduceToNat, Int.toNat_natCast, Int.le_refl, Nat.le_refl, Nat.zero_add, Nat.add_zero, Nat.zero_mul, Nat.mul_one, Nat.mul_zero, and_self, and_true, true_and, List.length_cons, List.length_nil, List.all_cons, List.all_nil, Bool.and_self, Bool.and_true, Bool.true_and, List.take_zero, List.nil_append, List.drop_nil, List.append_nil, List.getElem?_cons_zero, List.getElem?_cons_succ, List.drop_succ_cons, List.drop_zero, List.take_succ_cons, List.cons_append, Nat.reduceLeDiff, hlt, h1, h4, ← hH1, hg1, hlr, hlb, hle', hw2]
        rw [w_enter]
        simp only [w_draw, dr_cons, dr_some, dr_none, dr_go, still_no, still_yes, next_no, next_yes, last_cons, last_nil, isStore, calm_no, calm_nil, calm_cons, calmB_some, isCall, freshI, dr_nil, dr_end, still_nil, still_cons, stillB_some, stamp_some, stampV_ptr, stampV_tuple, stampO, still_here, still_here0, List.nil_append, w_out, w_gives, fin_ret, fin_normal, ress_nil, ress_tmp, pack_one, pack_nil, pack_two, entry_nil, entry_one, entry_two, entry_three, entry_four, eq_skip, eq_exit, eq_ret, w_rows, w_done, w_seq, w_normal, w_ret, w_exit, w_cond, w_true, w_false, eq_block, block_normal, block_ret, block_exit, rows_nil, rows_cons, on_some, on_none, row_plain, row_guard, guard_tt, guard_ff, guard_tf, guard_ft, guard_no, ev_tmp, ev_int, ev_bool, ev_string, ev_slice, ev_pointer, ev_map, ev_float, ev_complex, ev_nilIface, ev_nilFunc, ev_func, eget_cons, eget_nil, st_mv, st_pick, v_pick_t, v_pick_f, st_ext, v_ext0, v_ext1, v_ext2, v_ext3, st_int, v_int, int_add, int_sub, int_mul, int_eql, int_neq, int_lss, int_leq, int_gtr, int_geq, st_beq, v_beq, v_bne, st_not, v_not, st_conv, v_conv, st_faddr, v_faddr, st_iaddr, v_iaddr, st_aaddr, v_aaddr, st_nilChk, v_nil, st_len, v_len, v_lenS, st_load, v_load, got_one, got_row, mem_tip, mem_ro, mem_ret, st_alloc, st_box, st_store, v_store, got_store, cells_agg, cells_int, cells_bool, cells_slice, cells_pointer, cells_string, cells_complex, cells_func, one_int, one_bool, one_slice, one_pointer, one_string, one_complex, one_func, upd_push, get_push_self, AHeap.n_push, AHeap.n_upd, st_build, parts_nil, parts_cons, st_bslice, st_append, st_mkfun, st_mkface, st_isNil, st_max, v_max, st_min, v_min, st_field, st_index, st_slice0, v_slice0, v_slice0n, st_slice, kill_nil, st_call, v_call, forget_nil, forget_cons, Option.map_some, Option.map_none, Option.bind_some, List.map_cons, List.map_nil, if_true, if_false, Nat.reduceEqDiff, Int.reduceEq, Nat.reduceAdd, Nat.reduceMul, Bool.not_true, Bool.not_false, reduceCtorEq, decide_true, decide_false, Int.cast_ofNat_Int, eq_self, Int.reduceLT, Int.reduceLE, Int.reduceToNat, Int.toNat_natCast, Int.le_refl, Nat.le_refl, Nat.zero_add, Nat.add_zero, Nat.zero_mul, Nat.mul_one, Nat.mul_zero, and_self, and_true, true_and, List.length_cons, List.length_nil, List.all_cons, List.all_nil, Bool.and_self, Bool.and_true, Bool.true_and, List.take_zero, List.nil_append, List.drop_nil, List.append_nil, List.getElem?_cons_zero, List.getElem?_cons_succ, List.drop_succ_cons, List.drop_zero, List.take_succ_cons, List.cons_append, Nat.reduceLeDiff, r1]
        exact ⟨r2, hx1.trans r3, r4, r5, r6⟩
      | false =>
        simp only [Bool.false_or] at r1 r4 r5 r6 ⊢
        simp only [w_draw, dr_cons, dr_some, dr_none, dr_go, still_no, still_yes, next_no, next_yes, last_cons, last_nil, isStore, calm_no, calm_nil, calm_cons, calmB_some, isCall, freshI, dr_nil, dr_end, still_nil, still_cons, stillB_some, stamp_some, stampV_ptr, stampV_tuple, stampO, still_here, still_here0, List.nil_append, w_out, w_gives, fin_ret, fin_normal, ress_nil, ress_tmp, pack_one, pack_nil, pack_two, entry_nil, entry_one, entry_two, entry_three, entry_four, eq_skip, eq_exit, eq_ret, w_rows, w_done, w_seq, w_normal, w_ret, w_exit, w_cond, w_true, w_false, eq_block, block_normal, block_ret, block_exit, rows_nil, rows_cons, on_some, on_none, row_plain, row_guard, guard_tt, guard_ff, guard_tf, guard_ft, guard_no, ev_tmp, ev_int, ev_bool, ev_string, ev_slice, ev_pointer, ev_map, ev_float, ev_complex, ev_nilIface, ev_nilFunc, ev_func, eget_cons, eget_nil, st_mv, st_pick, v_pick_t, v_pick_f, st_ext, v_ext0, v_ext1, v_ext2, v_ext3, st_int, v_int, int_add, int_sub, int_mul, int_eql, int_neq, int_lss, int_leq, int_gtr, int_geq, st_beq, v_beq, v_bne, st_not, v_not, st_conv, v_conv, st_faddr, v_faddr, st_iaddr, v_iaddr, st_aaddr, v_aaddr, st_nilChk, v_nil, st_len, v_len, v_lenS, st_load, v_load, got_one, got_row, mem_tip, mem_ro, mem_ret, st_alloc, st_box, st_store, v_store, got_store, cells_agg, cells_int, cells_bool, cells_slice, cells_pointer, cells_string, cells_complex, cells_func, one_int, one_bool, one_slice, one_pointer, one_string, one_complex, one_func, upd_push, get_push_self, AHeap.n_push, AHeap.n_upd, st_build, parts_nil, parts_cons, st_bslice, st_append, st_mkfun, st_mkface, st_isNil, st_max, v_max, st_min, v_min, st_field, st_index, st_slice0, v_slice0, v_slice0n, st_slice, kill_nil, st_call, v_call, forget_nil, forget_cons, Option.map_some, Option.map_none, Option.bind_some, List.map_cons, List.map_nil, if_true, if_false, Nat.reduceEqDiff, Int.reduceEq, Nat.reduceAdd, Nat.reduceMul, Bool.not_true, Bool.not_false, reduceCtorEq, decide_true, decide_false, Int.cast_ofNat_Int, eq_self, Int.reduceLT, Int.reduceLE, Int.reduceToNat, Int.toNat_natCast, Int.le_refl, Nat.le_refl, Nat.zero_add, Nat.add_zero, Nat.zero_mul, Nat.mul_one, Nat.mul_zero, and_self, and_true, true_and, List.length_cons, List.length_nil, List.all_cons, List.all_nil, Bool.and_self, Bool.and_true, Bool.true_and, List.take_zero, List.nil_append, List.drop_nil, List.append_nil, List.getElem?_cons_zero, List.getElem?_cons_succ, List.drop_succ_cons, List.drop_zero, List.take_succ_cons, List.cons_append, Nat.reduceLeDiff, hlt, h1, h4, ← hH1, hg1, hlr, hlb, hle', hgt, s1', cU, hw2]
        rw [w_enter]
        simp only [w_draw, dr_cons, dr_some, dr_none, dr_go, still_no, still_yes, next_no, next_yes, last_cons, last_nil, isStore, calm_no, calm_nil, calm_cons, calmB_some, isCall, freshI, dr_nil, dr_end, still_nil, still_cons, stillB_some, stamp_some, stampV_ptr, stampV_tuple, stampO, still_here, still_here0, List.nil_append, w_out, w_gives, fin_ret, fin_normal, ress_nil, ress_tmp, pack_one, pack_nil, pack_two, entry_nil, entry_one, entry_two, entry_three, entry_four, eq_skip, eq_exit, eq_ret, w_rows, w_done, w_seq, w_normal, w_ret, w_exit, w_cond, w_true, w_false, eq_block, block_normal, block_ret, block_exit, rows_nil, rows_cons, on_some, on_none, row_plain, row_guard, guard_tt, guard_ff, guard_tf, guard_ft, guard_no, ev_tmp, ev_int, ev_bool, ev_string, ev_slice, ev_pointer, ev_map, ev_float, ev_complex, ev_nilIface, ev_nilFunc, ev_func, eget_cons, eget_nil, st_mv, st_pick, v_pick_t, v_pick_f, st_ext, v_ext0, v_ext1, v_ext2, v_ext3, st_int, v_int, int_add, int_sub, int_mul, int_eql, int_neq, int_lss, int_leq, int_gtr, int_geq, st_beq, v_beq, v_bne, st_not, v_not, st_conv, v_conv, st_faddr, v_faddr, st_iaddr, v_iaddr, st_aaddr, v_aaddr, st_nilChk, v_nil, st_len, v_len, v_lenS, st_load, v_load, got_one, got_row, mem_tip, mem_ro, mem_ret, st_alloc, st_box, st_store, v_store, got_store, cells_agg, cells_int, cells_bool, cells_slice, cells_pointer, cells_string, cells_complex, cells_func, one_int, one_bool, one_slice, one_pointer, one_string, one_complex, one_func, upd_push, get_push_self, AHeap.n_push, AHeap.n_upd, st_build, parts_nil, parts_cons, st_bslice, st_append, st_mkfun, st_mkface, st_isNil, st_max, v_max, st_min, v_min, st_field, st_index, st_slice0, v_slice0, v_slice0n, st_slice, kill_nil, st_call, v_call, forget_nil, forget_cons, Option.map_some, Option.map_none, Option.bind_some, List.map_cons, List.map_nil, if_true, if_false, Nat.reduceEqDiff, Int.reduceEq, Nat.reduceAdd, Nat.reduceMul, Bool.not_true, Bool.not_false, reduceCtorEq, decide_true, decide_false, Int.cast_ofNat_Int, eq_self, Int.reduceLT, Int.reduceLE, Int.reduceToNat, Int.toNat_natCast, Int.le_refl, Nat.le_refl, Nat.zero_add, Nat.add_zero, Nat.zero_mul, Nat.mul_one, Nat.mul_zero, and_self, and_true, true_and, List.length_cons, List.length_nil, List.all_cons, List.all_nil, Bool.and_self, Bool.and_true, Bool.true_and, List.take_zero, List.nil_append, List.drop_nil, List.append_nil, List.getElem?_cons_zero, List.getElem?_cons_succ, List.drop_succ_cons, List.drop_zero, List.take_succ_cons, List.cons_append, Nat.reduceLeDiff, r1]
        exact ⟨r2, hx1.trans r3, r4, r5, r6⟩
theorem c_Doc {a b : Value} {us : List Int} {L : List Rl} {H : AHeap} (ha : Rules H a L) (hac : CutR H a) (hb : Ints H b us) (hbc : Cut Try.prog H b 1) (hL : L.length < 1000000) (hus : tiny us) : Gives (cw Try.prog (tabF tab) om1 14 [a, b] H) fun v H' => Ext H H' ∧ v = .tuple ⟨[.int .i64 (docF us L 0 (-1) 0 false).1, .int .i64 (docF us L 0 (-1) 0 false).2.1, .bool (docF us L 0 (-1) 0 false).2.2]⟩ := by
  rw [cw_run (F := F_lontarlaw04_Longest) rfl rfl rfl]
  unfold F_lontarlaw04_Longest k_lontarlaw04_Longest
  obtain ⟨y, e', H', r1, rfl, r3, r4, r5, r6⟩ := l_Doc (a := a) hL hus L.length 0 H (-1) 0 false (by omega) ha hac hb hbc
  have hl := ha.len (H2 := H)
  rw [List.drop_zero] at r4 r5 r6
  simp only [Int.cast_ofNat_Int] at r1
  simp only [w_draw, dr_cons, dr_some, dr_none, dr_go, still_no, still_yes, next_no, next_yes, last_cons, last_nil, isStore, calm_no, calm_nil, calm_cons, calmB_some, isCall, freshI, dr_nil, dr_end, still_nil, still_cons, stillB_some, stamp_some, stampV_ptr, stampV_tuple, stampO, still_here, still_here0, List.nil_append, w_out, w_gives, fin_ret, fin_normal, ress_nil, ress_tmp, pack_one, pack_nil, pack_two, entry_nil, entry_one, entry_two, entry_three, entry_four, eq_skip, eq_exit, eq_ret, w_rows, w_done, w_seq, w_normal, w_ret, w_exit, w_cond, w_true, w_false, eq_block, block_normal, block_ret, block_exit, rows_nil, rows_cons, on_some, on_none, row_plain, row_guard, guard_tt, guard_ff, guard_tf, guard_ft, guard_no, ev_tmp, ev_int, ev_bool, ev_string, ev_slice, ev_pointer, ev_map, ev_float, ev_complex, ev_nilIface, ev_nilFunc, ev_func, eget_cons, eget_nil, st_mv, st_pick, v_pick_t, v_pick_f, st_ext, v_ext0, v_ext1, v_ext2, v_ext3, st_int, v_int, int_add, int_sub, int_mul, int_eql, int_neq, int_lss, int_leq, int_gtr, int_geq, st_beq, v_beq, v_bne, st_not, v_not, st_conv, v_conv, st_faddr, v_faddr, st_iaddr, v_iaddr, st_aaddr, v_aaddr, st_nilChk, v_nil, st_len, v_len, v_lenS, st_load, v_load, got_one, got_row, mem_tip, mem_ro, mem_ret, st_alloc, st_box, st_store, v_store, got_store, cells_agg, cells_int, cells_bool, cells_slice, cells_pointer, cells_string, cells_complex, cells_func, one_int, one_bool, one_slice, one_pointer, one_string, one_complex, one_func, upd_push, get_push_self, AHeap.n_push, AHeap.n_upd, st_build, parts_nil, parts_cons, st_bslice, st_append, st_mkfun, st_mkface, st_isNil, st_max, v_max, st_min, v_min, st_field, st_index, st_slice0, v_slice0, v_slice0n, st_slice, kill_nil, st_call, v_call, forget_nil, forget_cons, Option.map_some, Option.map_none, Option.bind_some, List.map_cons, List.map_nil, if_true, if_false, Nat.reduceEqDiff, Int.reduceEq, Nat.reduceAdd, Nat.reduceMul, Bool.not_true, Bool.not_false, reduceCtorEq, decide_true, decide_false, Int.cast_ofNat_Int, eq_self, Int.reduceLT, Int.reduceLE, Int.reduceToNat, Int.toNat_natCast, Int.le_refl, Nat.le_refl, Nat.zero_add, Nat.add_zero, Nat.zero_mul, Nat.mul_one, Nat.mul_zero, and_self, and_true, true_and, List.length_cons, List.length_nil, List.all_cons, List.all_nil, Bool.and_self, Bool.and_true, Bool.true_and, List.take_zero, List.nil_append, List.drop_nil, List.append_nil, List.getElem?_cons_zero, List.getElem?_cons_succ, List.drop_succ_cons, List.drop_zero, List.take_succ_cons, List.cons_append, Nat.reduceLeDiff, hl]
  rw [w_enter]
  simp only [w_draw, dr_cons, dr_some, dr_none, dr_go, still_no, still_yes, next_no, next_yes, last_cons, last_nil, isStore, calm_no, calm_nil, calm_cons, calmB_some, isCall, freshI, dr_nil, dr_end, still_nil, still_cons, stillB_some, stamp_some, stampV_ptr, stampV_tuple, stampO, still_here, still_here0, List.nil_append, w_out, w_gives, fin_ret, fin_normal, ress_nil, ress_tmp, pack_one, pack_nil, pack_two, entry_nil, entry_one, entry_two, entry_three, entry_four, eq_skip, eq_exit, eq_ret, w_rows, w_done, w_seq, w_normal, w_ret, w_exit, w_cond, w_true, w_false, eq_block, block_normal, block_ret, block_exit, rows_nil, rows_cons, on_some, on_none, row_plain, row_guard, guard_tt, guard_ff, guard_tf, guard_ft, guard_no, ev_tmp, ev_int, ev_bool, ev_string, ev_slice, ev_pointer, ev_map, ev_float, ev_complex, ev_nilIface, ev_nilFunc, ev_func, eget_cons, eget_nil, st_mv, st_pick, v_pick_t, v_pick_f, st_ext, v_ext0, v_ext1, v_ext2, v_ext3, st_int, v_int, int_add, int_sub, int_mul, int_eql, int_neq, int_lss, int_leq, int_gtr, int_geq, st_beq, v_beq, v_bne, st_not, v_not, st_conv, v_conv, st_faddr, v_faddr, st_iaddr, v_iaddr, st_aaddr, v_aaddr, st_nilChk, v_nil, st_len, v_len, v_lenS, st_load, v_load, got_one, got_row, mem_tip, mem_ro, mem_ret, st_alloc, st_box, st_store, v_store, got_store, cells_agg, cells_int, cells_bool, cells_slice, cells_pointer, cells_string, cells_complex, cells_func, one_int, one_bool, one_slice, one_pointer, one_string, one_complex, one_func, upd_push, get_push_self, AHeap.n_push, AHeap.n_upd, st_build, parts_nil, parts_cons, st_bslice, st_append, st_mkfun, st_mkface, st_isNil, st_max, v_max, st_min, v_min, st_field, st_index, st_slice0, v_slice0, v_slice0n, st_slice, kill_nil, st_call, v_call, forget_nil, forget_cons, Option.map_some, Option.map_none, Option.bind_some, List.map_cons, List.map_nil, if_true, if_false, Nat.reduceEqDiff, Int.reduceEq, Nat.reduceAdd, Nat.reduceMul, Bool.not_true, Bool.not_false, reduceCtorEq, decide_true, decide_false, Int.cast_ofNat_Int, eq_self, Int.reduceLT, Int.reduceLE, Int.reduceToNat, Int.toNat_natCast, Int.le_refl, Nat.le_refl, Nat.zero_add, Nat.add_zero, Nat.zero_mul, Nat.mul_one, Nat.mul_zero, and_self, and_true, true_and, List.length_cons, List.length_nil, List.all_cons, List.all_nil, Bool.and_self, Bool.and_true, Bool.true_and, List.take_zero, List.nil_append, List.drop_nil, List.append_nil, List.getElem?_cons_zero, List.getElem?_cons_succ, List.drop_succ_cons, List.drop_zero, List.take_succ_cons, List.cons_append, Nat.reduceLeDiff, r1, r4, r5, r6]
  exact r3
end Go.Proofs.Ytjicdpkgcofiaaa

/-! Units by numbers. -/
set_option linter.unusedSimpArgs false
set_option linter.unusedVariables false
namespace Go.Proofs.Ytjicdpkgcofiaaa
open Go Lon
def som (l : List Int) : List Int := (l.take 60).map fun u => 97 + u % 6
theorem som_len {l : List Int} : (som l).length ≤ 60 := by unfold som; rw [List.length_map, List.length_take]; omega
theorem som_map {l : List Int} {i : Nat} : (l.map fun u => 97 + u % 6).take i = (l.take i).map fun u => 97 + u % 6 := by rw [List.map_take]
theorem l_Some {a : Value} {l : List Int} {B : Nat} (hl : l.length ≤ 60) (hb : bytes l) : ∀ (k i : Nat) (H : AHeap) (out : Value), i + k = l.length → Nums H .u8 a l → Own H 3 1 out i (ints ((l.take i).map fun u => 97 + u % 6)) → From B out → B ≤ H.n →
    Out (run Try.prog (tabF tab) om1 (.loop [3, 10, 11, 12] b_lontarlaw04_Some_0) [(3, out), (10, a), (11, .int .i64 l.length), (12, .int .i64 i)] H) fun y e' H' => y = .exit 0 ∧ Own H' 3 1 (eget e' 3) l.length (ints (l.map fun u => 97 + u % 6)) ∧ From B (eget e' 3) ∧ B ≤ H'.n ∧ (∀ j, j < B → H'.get j = H.get j) := by
  intro k
  induction k with
  | zero =>
    intro i H out hi ha ho hf hB
    obtain rfl : i = l.length := by omega
    have hlt : ¬ ((l.length : Int) < l.length) := by omega
    rw [w_loop_b b_lontarlaw04_Some_0.eq_1]
    rw [List.take_length] at ho
    simp only [w_draw, dr_cons, dr_some, dr_none, dr_go, still_no, still_yes, next_no, next_yes, last_cons, last_nil, isStore, calm_no, calm_nil, calm_cons, calmB_some, isCall, freshI, dr_nil, dr_end, still_nil, still_cons, stillB_some, stamp_some, stampV_ptr, stampV_tuple, stampO, still_here, still_here0, List.nil_append, w_out, w_gives, fin_ret, fin_normal, ress_nil, ress_tmp, pack_one, pack_nil, pack_two, entry_nil, entry_one, entry_two, entry_three, entry_four, eq_skip, eq_exit, eq_ret, w_rows, w_done, w_seq, w_normal, w_ret, w_exit, w_cond, w_true, w_false, eq_block, block_normal, block_ret, block_exit, rows_nil, rows_cons, on_some, on_none, row_plain, row_guard, guard_tt, guard_ff, guard_tf, guard_ft, guard_no, ev_tmp, ev_int, ev_bool, ev_string, ev_slice, ev_pointer, ev_map, ev_float, ev_complex, ev_nilIface, ev_nilFunc, ev_func, eget_cons, eget_nil, st_mv, st_pick, v_pick_t, v_pick_f, st_ext, v_ext0, v_ext1, v_ext2, v_ext3, st_int, v_int, int_add, int_sub, int_mul, int_eql, int_neq, int_lss, int_leq, int_gtr, int_geq, st_beq, v_beq, v_bne, st_not, v_not, st_conv, v_conv, st_faddr, v_faddr, st_iaddr, v_iaddr, st_aaddr, v_aaddr, st_nilChk, v_nil, st_len, v_len, v_lenS, st_load, v_load, got_one, got_row, mem_tip, mem_ro, mem_ret, st_alloc, st_box, st_store, v_store, got_store, cells_agg, cells_int, cells_bool, cells_slice, cells_pointer, cells_string, cells_complex, cells_func, one_int, one_bool, one_slice, one_pointer, one_string, one_complex, one_func, upd_push, get_push_self, AHeap.n_push, AHeap.n_upd, st_build, parts_nil, parts_cons, st_bslice, st_append, st_mkfun, st_mkface, st_isNil, st_max, v_max, st_min, v_min, st_field, st_index, st_slice0, v_slice0, v_slice0n, st_slice, kill_nil, st_call, v_call, forget_nil, forget_cons, Option.map_some, Option.map_none, Option.bind_some, List.map_cons, List.map_nil, if_true, if_false, Nat.reduceEqDiff, Int.reduceEq, Nat.reduceAdd, Nat.reduceMul, Bool.not_true, Bool.not_false, reduceCtorEq, decide_true, decide_false, Int.cast_ofNat_Int, eq_self, Int.reduceLT, Int.reduceLE, Int.reduceToNat, Int.toNat_natCast, Int.le_refl, Nat.le_refl, Nat.zero_add, Nat.add_zero, Nat.zero_mul, Nat.mul_one, Nat.mul_zero, and_self, and_true, true_and, List.length_cons, List.length_nil, List.all_cons, List.all_nil, Bool.and_self, Bool.and_true, Bool.true_and, List.take_zero, List.nil_append, List.drop_nil, List.append_nil, List.getElem?_cons_zero, List.getElem?_cons_succ, List.drop_succ_cons, List.drop_zero, List.take_succ_cons, List.cons_append, Nat.reduceLeDiff, hlt]
    exact ⟨ho, hf, hB, fun _ _ => trivial⟩
  | succ k ih =>
    intro i H out hi ha ho hf hB
    have hlt : (i : Int) < l.length := by omega
    obtain ⟨u, hu, hd⟩ := drop_at (L := l) (i := i) (by omega)
    obtain ⟨u1, u2⟩ := hb u (List.mem_of_getElem? hu)
    obtain ⟨i1, o1, h1, h2⟩ := ha.at hu
    have hw2 : IntKind.i64.wrap ((i : Int) + 1) = ((i + 1 : Nat) : Int) := by rw [wrap64 (by omega) (by omega)]; omega
    have q1 : intOp .rem .u8 u 6 = some (.int .u8 (u % 6)) := by rw [int_rem (by decide), Int.tmod_eq_emod_of_nonneg (by omega)]
    have q2 : IntKind.i64.wrap (u % 6) = u % 6 := wrap64 (by omega) (by omega)
    have q3 : IntKind.i64.wrap (97 + u % 6) = 97 + u % 6 := wrap64 (by omega) (by omega)
    have hx1 := Ext.push H ⟨[.int .i64 (97 + u % 6)], 3, .tip, 0, []⟩
    obtain ⟨v', H5, m1, m2, m3, m4, m5, m6⟩ := Own.append2 (bytes := 8) (m := 1) (ho.ext hx1) (Sl.new (n := 1) (c := 2) (get_push_self (H := H) (b := ⟨[.int .i64 (97 + u % 6)], 3, .tip, 0, []⟩)) mem_tip rfl) (by omega) rfl (by omega)
    have hdone : ints ((l.take i).map fun u => 97 + u % 6) ++ [.int .i64 (97 + u % 6)] = ints ((l.take (i + 1)).map fun u => 97 + u % 6) := by
      rw [List.take_add_one, hu]; simp [ints]
    rw [hdone] at m2
    obtain ⟨y, e', H', r1, r2, r4, r5, r6, r7⟩ := ih (i + 1) H5 v' (by omega) (((ha.ext hx1)).keeps m4) m2 (m3.mono (by simp; omega)) (by simp at m5; omega)
    rw [w_loop_b b_lontarlaw04_Some_0.eq_1]
    simp only [w_draw, dr_cons, dr_some, dr_none, dr_go, still_no, still_yes, next_no, next_yes, last_cons, last_nil, isStore, calm_no, calm_nil, calm_cons, calmB_some, isCall, freshI, dr_nil, dr_end, still_nil, still_cons, stillB_some, stamp_some, stampV_ptr, stampV_tuple, stampO, still_here, still_here0, List.nil_append, w_out, w_gives, fin_ret, fin_normal, ress_nil, ress_tmp, pack_one, pack_nil, pack_two, entry_nil, entry_one, entry_two, entry_three, entry_four, eq_skip, eq_exit, eq_ret, w_rows, w_done, w_seq, w_normal, w_ret, w_exit, w_cond, w_true, w_false, eq_block, block_normal, block_ret, block_exit, rows_nil, rows_cons, on_some, on_none, row_plain, row_guard, guard_tt, guard_ff, guard_tf, guard_ft, guard_no, ev_tmp, ev_int, ev_bool, ev_string, ev_slice, ev_pointer, ev_map, ev_float, ev_complex, ev_nilIface, ev_nilFunc, ev_func, eget_cons, eget_nil, st_mv, st_pick, v_pick_t, v_pick_f, st_ext, v_ext0, v_ext1, v_ext2, v_ext3, st_int, v_int, int_add, int_sub, int_mul, int_eql, int_neq, int_lss, int_leq, int_gtr, int_geq, st_beq, v_beq, v_bne, st_not, v_not, st_conv, v_conv, st_faddr, v_faddr, st_iaddr, v_iaddr, st_aaddr, v_aaddr, st_nilChk, v_nil, st_len, v_len, v_lenS, st_load, v_load, got_one, got_row, mem_tip, mem_ro, mem_ret, st_alloc, st_box, st_store, v_store, got_store, cells_agg, cells_int, cells_bool, cells_slice, cells_pointer, cells_string, cells_complex, cells_func, one_int, one_bool, one_slice, one_pointer, one_string, one_complex, one_func, upd_push, get_push_self, AHeap.n_push, AHeap.n_upd, st_build, parts_nil, parts_cons, st_bslice, st_append, st_mkfun, st_mkface, st_isNil, st_max, v_max, st_min, v_min, st_field, st_index, st_slice0, v_slice0, v_slice0n, st_slice, kill_nil, st_call, v_call, forget_nil, forget_cons, Option.map_some, Option.map_none, Option.bind_some, List.map_cons, List.map_nil, if_true, if_false, Nat.reduceEqDiff, Int.reduceEq, Nat.reduceAdd, Nat.reduceMul, Bool.not_true, Bool.not_false, reduceCtorEq, decide_true, decide_false, Int.cast_ofNat_Int, eq_self, Int.reduceLT, Int.reduceLE, Int.reduceToNat, Int.toNat_natCast, Int.le_refl, Nat.le_refl, Nat.zero_add, Nat.add_zero, Nat.zero_mul, Nat.mul_one, Nat.mul_zero, and_self, and_true, true_and, List.length_cons, List.length_nil, List.all_cons, List.all_nil, Bool.and_self, Bool.and_true, Bool.true_and, List.take_zero, List.nil_append, List.drop_nil, List.append_nil, List.getElem?_cons_zero, List.getElem?_cons_succ, List.drop_succ_cons, List.drop_zero, List.take_succ_cons, List.cons_append, Nat.reduceLeDiff, hlt, h1, h2, q1, q2, q3, v_int1, m1, hw2]
    rw [w_enter]
    simp only [w_draw, dr_cons, dr_some, dr_none, dr_go, still_no, still_yes, next_no, next_yes, last_cons, last_nil, isStore, calm_no, calm_nil, calm_cons, calmB_some, isCall, freshI, dr_nil, dr_end, still_nil, still_cons, stillB_some, stamp_some, stampV_ptr, stampV_tuple, stampO, still_here, still_here0, List.nil_append, w_out, w_gives, fin_ret, fin_normal, ress_nil, ress_tmp, pack_one, pack_nil, pack_two, entry_nil, entry_one, entry_two, entry_three, entry_four, eq_skip, eq_exit, eq_ret, w_rows, w_done, w_seq, w_normal, w_ret, w_exit, w_cond, w_true, w_false, eq_block, block_normal, block_ret, block_exit, rows_nil, rows_cons, on_some, on_none, row_plain, row_guard, guard_tt, guard_ff, guard_tf, guard_ft, guard_no, ev_tmp, ev_int, ev_bool, ev_string, ev_slice, ev_pointer, ev_map, ev_float, ev_complex, ev_nilIface, ev_nilFunc, ev_func, eget_cons, eget_nil, st_mv, st_pick, v_pick_t, v_pick_f, st_ext, v_ext0, v_ext1, v_ext2, v_ext3, st_int, v_int, int_add, int_sub, int_mul, int_eql, int_neq, int_lss, int_leq, int_gtr, int_geq, st_beq, v_beq, v_bne, st_not, v_not, st_conv, v_conv, st_faddr, v_faddr, st_iaddr, v_iaddr, st_aaddr, v_aaddr, st_nilChk, v_nil, st_len, v_len, v_lenS, st_load, v_load, got_one, got_row, mem_tip, mem_ro, mem_ret, st_alloc, st_box, st_store, v_store, got_store, cells_agg, cells_int, cells_bool, cells_slice, cells_pointer, cells_string, cells_complex, cells_func, one_int, one_bool, one_slice, one_pointer, one_string, one_complex, one_func, upd_push, get_push_self, AHeap.n_push, AHeap.n_upd, st_build, parts_nil, parts_cons, st_bslice, st_append, st_mkfun, st_mkface, st_isNil, st_max, v_max, st_min, v_min, st_field, st_index, st_slice0, v_slice0, v_slice0n, st_slice, kill_nil, st_call, v_call, forget_nil, forget_cons, Option.map_some, Option.map_none, Option.bind_some, List.map_cons, List.map_nil, if_true, if_false, Nat.reduceEqDiff, Int.reduceEq, Nat.reduceAdd, Nat.reduceMul, Bool.not_true, Bool.not_false, reduceCtorEq, decide_true, decide_false, Int.cast_ofNat_Int, eq_self, Int.reduceLT, Int.reduceLE, Int.reduceToNat, Int.toNat_natCast, Int.le_refl, Nat.le_refl, Nat.zero_add, Nat.add_zero, Nat.zero_mul, Nat.mul_one, Nat.mul_zero, and_self, and_true, true_and, List.length_cons, List.length_nil, List.all_cons, List.all_nil, Bool.and_self, Bool.and_true, Bool.true_and, List.take_zero, List.nil_append, List.drop_nil, List.append_nil, List.getElem?_cons_zero, List.getElem?_cons_succ, List.drop_succ_cons, List.drop_zero, List.take_succ_cons, List.cons_append, Nat.reduceLeDiff, r1]
    refine ⟨r2, r4, r5, r6, fun j hj => ?_⟩
    rw [r7 j hj, m6 j (by simp; omega) (NotAt.of_from hf hj), hx1.2 j (by omega)]
theorem c_Some {a : Value} {l : List Int} {H : AHeap} (ha : Nums H .u8 a l) (hc : Cut Try.prog H a 1) (hb : bytes l) (hs : tiny l) : Gives (cw Try.prog (tabF tab) om1 12 [a] H) fun v H' => Ext H H' ∧ Ints H' v (som l) ∧ Cut Try.prog H' v 1 := by
  rw [cw_run (F := F_lontarlaw04_Some) rfl rfl rfl]
  unfold F_lontarlaw04_Some k_lontarlaw04_Some
  obtain ⟨k, hk⟩ : ∃ k : Nat, k = min l.length 60 := ⟨_, rfl⟩
  obtain ⟨a', s1, s2, s3⟩ := ha.take hc (show k ≤ l.length by omega)
  have hmin : (if (60 : Int) < (l.length : Int) then (60 : Int) else (l.length : Int)) = (k : Int) := by split <;> omega
  have hkl : (l.take k).length = k := by simp; omega
  have hk4 : l.take 60 = l.take k := by
    subst hk
    rcases Nat.le_total l.length 60 with h | h
    · rw [Nat.min_eq_left h, List.take_of_length_le h, List.take_length]
    · rw [Nat.min_eq_right h]
  obtain ⟨y, e', H', r1, rfl, r4, r5, r6, r7⟩ := l_Some (a := a') (l := l.take k) (B := H.n) (by omega) (fun u hu => hb u (List.mem_of_mem_take hu)) (l.take k).length 0 H (.slice none 0 0) (by omega) s2 ⟨rfl, .inl ⟨rfl, rfl⟩⟩ trivial (Nat.le_refl _)
  have hl0 := ha.len (H2 := H)
  have hl1 := Nums.len s2 (H2 := H)
  rw [hkl] at hl1 r1 r4
  simp only [Int.cast_ofNat_Int] at r1
  have s1' := s1 .i64
  simp only [w_draw, dr_cons, dr_some, dr_none, dr_go, still_no, still_yes, next_no, next_yes, last_cons, last_nil, isStore, calm_no, calm_nil, calm_cons, calmB_some, isCall, freshI, dr_nil, dr_end, still_nil, still_cons, stillB_some, stamp_some, stampV_ptr, stampV_tuple, stampO, still_here, still_here0, List.nil_append, w_out, w_gives, fin_ret, fin_normal, ress_nil, ress_tmp, pack_one, pack_nil, pack_two, entry_nil, entry_one, entry_two, entry_three, entry_four, eq_skip, eq_exit, eq_ret, w_rows, w_done, w_seq, w_normal, w_ret, w_exit, w_cond, w_true, w_false, eq_block, block_normal, block_ret, block_exit, rows_nil, rows_cons, on_some, on_none, row_plain, row_guard, guard_tt, guard_ff, guard_tf, guard_ft, guard_no, ev_tmp, ev_int, ev_bool, ev_string, ev_slice, ev_pointer, ev_map, ev_float, ev_complex, ev_nilIface, ev_nilFunc, ev_func, eget_cons, eget_nil, st_mv, st_pick, v_pick_t, v_pick_f, st_ext, v_ext0, v_ext1, v_ext2, v_ext3, st_int, v_int, int_add, int_sub, int_mul, int_eql, int_neq, int_lss, int_leq, int_gtr, int_geq, st_beq, v_beq, v_bne, st_not, v_not, st_conv, v_conv, st_faddr, v_faddr, st_iaddr, v_iaddr, st_aaddr, v_aaddr, st_nilChk, v_nil, st_len, v_len, v_lenS, st_load, v_load, got_one, got_row, mem_tip, mem_ro, mem_ret, st_alloc, st_box, st_store, v_store, got_store, cells_agg, cells_int, cells_bool, cells_slice, cells_pointer, cells_string, cells_complex, cells_func, one_int, one_bool, one_slice, one_pointer, one_string, one_complex, one_func, upd_push, get_push_self, AHeap.n_push, AHeap.n_upd, st_build, parts_nil, parts_cons, st_bslice, st_append, st_mkfun, st_mkface, st_isNil, st_max, v_max, st_min, v_min, st_field, st_index, st_slice0, v_slice0, v_slice0n, st_slice, kill_nil, st_call, v_call, forget_nil, forget_cons, Option.map_some, Option.map_none, Option.bind_some, List.map_cons, List.map_nil, if_true, if_false, Nat.reduceEqDiff, Int.reduceEq, Nat.reduceAdd, Nat.reduceMul, Bool.not_true, Bool.not_false, reduceCtorEq, decide_true, decide_false, Int.cast_ofNat_Int, eq_self, Int.reduceLT, Int.reduceLE, Int.reduceToNat, Int.toNat_natCast, Int.le_refl, Nat.le_refl, Nat.zero_add, Nat.add_zero, Nat.zero_mul, Nat.mul_one, Nat.mul_zero, and_self, and_true, true_and, List.length_cons, List.length_nil, List.all_cons, List.all_nil, Bool.and_self, Bool.and_true, Bool.true_and, List.take_zero, List.nil_append, List.drop_nil, List.append_nil, List.getElem?_cons_zero, List.getElem?_cons_succ, List.drop_succ_cons, List.drop_zero, List.take_succ_cons, List.cons_append, Nat.reduceLeDiff, hl0, hmin, s1', hl1]
  rw [w_enter]
  simp only [w_draw, dr_cons, dr_some, dr_none, dr_go, still_no, still_yes, next_no, next_yes, last_cons, last_nil, isStore, calm_no, calm_nil, calm_cons, calmB_some, isCall, freshI, dr_nil, dr_end, still_nil, still_cons, stillB_some, stamp_some, stampV_ptr, stampV_tuple, stampO, still_here, still_here0, List.nil_append, w_out, w_gives, fin_ret, fin_normal, ress_nil, ress_tmp, pack_one, pack_nil, pack_two, entry_nil, entry_one, entry_two, entry_three, entry_four, eq_skip, eq_exit, eq_ret, w_rows, w_done, w_seq, w_normal, w_ret, w_exit, w_cond, w_true, w_false, eq_block, block_normal, block_ret, block_exit, rows_nil, rows_cons, on_some, on_none, row_plain, row_guard, guard_tt, guard_ff, guard_tf, guard_ft, guard_no, ev_tmp, ev_int, ev_bool, ev_string, ev_slice, ev_pointer, ev_map, ev_float, ev_complex, ev_nilIface, ev_nilFunc, ev_func, eget_cons, eget_nil, st_mv, st_pick, v_pick_t, v_pick_f, st_ext, v_ext0, v_ext1, v_ext2, v_ext3, st_int, v_int, int_add, int_sub, int_mul, int_eql, int_neq, int_lss, int_leq, int_gtr, int_geq, st_beq, v_beq, v_bne, st_not, v_not, st_conv, v_conv, st_faddr, v_faddr, st_iaddr, v_iaddr, st_aaddr, v_aaddr, st_nilChk, v_nil, st_len, v_len, v_lenS, st_load, v_load, got_one, got_row, mem_tip, mem_ro, mem_ret, st_alloc, st_box, st_store, v_store, got_store, cells_agg, cells_int, cells_bool, cells_slice, cells_pointer, cells_string, cells_complex, cells_func, one_int, one_bool, one_slice, one_pointer, one_string, one_complex, one_func, upd_push, get_push_self, AHeap.n_push, AHeap.n_upd, st_build, parts_nil, parts_cons, st_bslice, st_append, st_mkfun, st_mkface, st_isNil, st_max, v_max, st_min, v_min, st_field, st_index, st_slice0, v_slice0, v_slice0n, st_slice, kill_nil, st_call, v_call, forget_nil, forget_cons, Option.map_some, Option.map_none, Option.bind_some, List.map_cons, List.map_nil, if_true, if_false, Nat.reduceEqDiff, Int.reduceEq, Nat.reduceAdd, Nat.reduceMul, Bool.not_true, Bool.not_false, reduceCtorEq, decide_true, decide_false, Int.cast_ofNat_Int, eq_self, Int.reduceLT, Int.reduceLE, Int.reduceToNat, Int.toNat_natCast, Int.le_refl, Nat.le_refl, Nat.zero_add, Nat.add_zero, Nat.zero_mul, Nat.mul_one, Nat.mul_zero, and_self, and_true, true_and, List.length_cons, List.length_nil, List.all_cons, List.all_nil, Bool.and_self, Bool.and_true, Bool.true_and, List.take_zero, List.nil_append, List.drop_nil, List.append_nil, List.getElem?_cons_zero, List.getElem?_cons_succ, List.drop_succ_cons, List.drop_zero, List.take_succ_cons, List.cons_append, Nat.reduceLeDiff, r1]
  refine ⟨⟨r6, r7⟩, ?_, r4.cut (by kernel_rfl)⟩
  have := r4.sl
  unfold Ints som
  rw [hk4, List.length_map, hkl]
  exact this
end Go.Proofs.Ytjicdpkgcofiaaa

/-! Layer 4: the longest rule. -/
set_option linter.unusedSimpArgs false
set_option linter.unusedVariables false
namespace Go.Proofs.Ytjicdpkgcofiaaa
open Go Lon
set_option maxRecDepth 100000
theorem v_nilp {H : AHeap} {t : Nat} : vIsNil 0 false (.pointer (some ⟨t, 0, none⟩)) H = some (.bool false, H) := rfl
theorem v_three {H : AHeap} {el : TypeId} {p q : Option Addr} {m n c d : Nat} : vBslice el 3 1 [.slice none 0 0] [(0, 1, .slice p m c), (1, 1, .slice q n d), (2, 1, .slice none 0 0)] H = some (.slice (some ⟨H.n, 0, none⟩) 3 4, H.push ⟨[.slice p m c, .slice q n d, .slice none 0 0], el, .tip, 0, []⟩) := rfl
theorem l_Lg0 {a x w : Value} {us : List Int} {L : List Rl} {t : Nat} {N : List Nd} {vr : Value} {z1 z2 : Int} (hL : L.length ≤ 512) (hR : Right L) (hF : Fits (paths L) N) (hRF : RF (fnd L) (paths L) N) (hρ : ∀ q, q ∉ paths L → fnd L q = -1) : ∀ (c n : Nat) (H : AHeap), n + c = 12 → Rules H a L → CutR H a → TrieAt H t N vr → Ints H x us → Cut Try.prog H x 1 →
    Out (run Try.prog (tabF tab) om1 (.loop [7, 8, 11, 12, 37, 38, 39] b_lontarlaw04_TrieLongest_0) [(7, a), (8, .pointer (some ⟨t, 0, none⟩)), (11, x), (12, .int .i64 n), (37, w), (38, .int .i64 z1), (39, .int .i64 z2)] H) fun y e' H' => y = .exit 2 ∧ Ext H H' ∧ eget e' 7 = a ∧ eget e' 8 = .pointer (some ⟨t, 0, none⟩) ∧ eget e' 37 = w ∧ eget e' 38 = .int .i64 z1 ∧ eget e' 39 = .int .i64 z2 := by
  intro c
  induction c with
  | zero =>
    intro n H hn ha hac hT hx hxc
    have h12 : ¬ (n : Int) < 12 := by omega
    have hlx := Sl.len (H2 := H) hx
    rw [w_loop_b b_lontarlaw04_TrieLongest_0.eq_1]
    by_cases hle : (n : Int) ≤ us.length
    · simp only [w_draw, dr_cons, dr_some, dr_none, dr_go, still_no, still_yes, next_no, next_yes, last_cons, last_nil, isStore, calm_no, calm_nil, calm_cons, calmB_some, isCall, freshI, dr_nil, dr_end, still_nil, still_cons, stillB_some, stamp_some, stampV_ptr, stampV_tuple, stampO, still_here, still_here0, List.nil_append, w_out, w_gives, fin_ret, fin_normal, ress_nil, ress_tmp, pack_one, pack_nil, pack_two, entry_nil, entry_one, entry_two, entry_three, entry_four, eq_skip, eq_exit, eq_ret, w_rows, w_done, w_seq, w_normal, w_ret, w_exit, w_cond, w_true, w_false, eq_block, block_normal, block_ret, block_exit, rows_nil, rows_cons, on_some, on_none, row_plain, row_guard, guard_tt, guard_ff, guard_tf, guard_ft, guard_no, ev_tmp, ev_int, ev_bool, ev_string, ev_slice, ev_pointer, ev_map, ev_float, ev_complex, ev_nilIface, ev_nilFunc, ev_func, eget_cons, eget_nil, st_mv, st_pick, v_pick_t, v_pick_f, st_ext, v_ext0, v_ext1, v_ext2, v_ext3, st_int, v_int, int_add, int_sub, int_mul, int_eql, int_neq, int_lss, int_leq, int_gtr, int_geq, st_beq, v_beq, v_bne, st_not, v_not, st_conv, v_conv, st_faddr, v_faddr, st_iaddr, v_iaddr, st_aaddr, v_aaddr, st_nilChk, v_nil, st_len, v_len, v_lenS, st_load, v_load, got_one, got_row, mem_tip, mem_ro, mem_ret, st_alloc, st_box, st_store, v_store, got_store, cells_agg, cells_int, cells_bool, cells_slice, cells_pointer, cells_string, cells_complex, cells_func, one_int, one_bool, one_slice, one_pointer, one_string, one_complex, one_func, upd_push, get_push_self, AHeap.n_push, AHeap.n_upd, st_build, parts_nil, parts_cons, st_bslice, st_append, st_mkfun, st_mkface, st_isNil, st_max, v_max, st_min, v_min, st_field, st_index, st_slice0, v_slice0, v_slice0n, st_slice, kill_nil, st_call, v_call, forget_nil, forget_cons, Option.map_some, Option.map_none, Option.bind_some, List.map_cons, List.map_nil, if_true, if_false, Nat.reduceEqDiff, Int.reduceEq, Nat.reduceAdd, Nat.reduceMul, Bool.not_true, Bool.not_false, reduceCtorEq, decide_true, decide_false, Int.cast_ofNat_Int, eq_self, Int.reduceLT, Int.reduceLE, Int.reduceToNat, Int.toNat_natCast, Int.le_refl, Nat.le_refl, Nat.zero_add, Nat.add_zero, Nat.zero_mul, Nat.mul_one, Nat.mul_zero, and_self, and_true, true_and, List.length_cons, List.length_nil, List.all_cons, List.all_nil, Bool.and_self, Bool.and_true, Bool.true_and, List.take_zero, List.nil_append, List.drop_nil, List.append_nil, List.getElem?_cons_zero, List.getElem?_cons_succ, List.drop_succ_cons, List.drop_zero, List.take_succ_cons, List.cons_append, Nat.reduceLeDiff, hlx, hle, h12]
      exact Ext.refl _
    · simp only [w_draw, dr_cons, dr_some, dr_none, dr_go, still_no, still_yes, next_no, next_yes, last_cons, last_nil, isStore, calm_no, calm_nil, calm_cons, calmB_some, isCall, freshI, dr_nil, dr_end, still_nil, still_cons, stillB_some, stamp_some, stampV_ptr, stampV_tuple, stampO, still_here, still_here0, List.nil_append, w_out, w_gives, fin_ret, fin_normal, ress_nil, ress_tmp, pack_one, pack_nil, pack_two, entry_nil, entry_one, entry_two, entry_three, entry_four, eq_skip, eq_exit, eq_ret, w_rows, w_done, w_seq, w_normal, w_ret, w_exit, w_cond, w_true, w_false, eq_block, block_normal, block_ret, block_exit, rows_nil, rows_cons, on_some, on_none, row_plain, row_guard, guard_tt, guard_ff, guard_tf, guard_ft, guard_no, ev_tmp, ev_int, ev_bool, ev_string, ev_slice, ev_pointer, ev_map, ev_float, ev_complex, ev_nilIface, ev_nilFunc, ev_func, eget_cons, eget_nil, st_mv, st_pick, v_pick_t, v_pick_f, st_ext, v_ext0, v_ext1, v_ext2, v_ext3, st_int, v_int, int_add, int_sub, int_mul, int_eql, int_neq, int_lss, int_leq, int_gtr, int_geq, st_beq, v_beq, v_bne, st_not, v_not, st_conv, v_conv, st_faddr, v_faddr, st_iaddr, v_iaddr, st_aaddr, v_aaddr, st_nilChk, v_nil, st_len, v_len, v_lenS, st_load, v_load, got_one, got_row, mem_tip, mem_ro, mem_ret, st_alloc, st_box, st_store, v_store, got_store, cells_agg, cells_int, cells_bool, cells_slice, cells_pointer, cells_string, cells_complex, cells_func, one_int, one_bool, one_slice, one_pointer, one_string, one_complex, one_func, upd_push, get_push_self, AHeap.n_push, AHeap.n_upd, st_build, parts_nil, parts_cons, st_bslice, st_append, st_mkfun, st_mkface, st_isNil, st_max, v_max, st_min, v_min, st_field, st_index, st_slice0, v_slice0, v_slice0n, st_slice, kill_nil, st_call, v_call, forget_nil, forget_cons, Option.map_some, Option.map_none, Option.bind_some, List.map_cons, List.map_nil, if_true, if_false, Nat.reduceEqDiff, Int.reduceEq, Nat.reduceAdd, Nat.reduceMul, Bool.not_true, Bool.not_false, reduceCtorEq, decide_true, decide_false, Int.cast_ofNat_Int, eq_self, Int.reduceLT, Int.reduceLE, Int.reduceToNat, Int.toNat_natCast, Int.le_refl, Nat.le_refl, Nat.zero_add, Nat.add_zero, Nat.zero_mul, Nat.mul_one, Nat.mul_zero, and_self, and_true, true_and, List.length_cons, List.length_nil, List.all_cons, List.all_nil, Bool.and_self, Bool.and_true, Bool.true_and, List.take_zero, List.nil_append, List.drop_nil, List.append_nil, List.getElem?_cons_zero, List.getElem?_cons_succ, List.drop_succ_cons, List.drop_zero, List.take_succ_cons, List.cons_append, Nat.reduceLeDiff, hlx, hle]
      exact Ext.refl _
  | succ c ih =>
    intro n H hn ha hac hT hx hxc
    have h12 : (n : Int) < 12 := by omega
    have hlx := Sl.len (H2 := H) hx
    by_cases hle : (n : Int) ≤ us.length
    · obtain ⟨b', s1, s2, s3⟩ := hx.take hxc (show n ≤ us.length by omega)
      have s1' := s1 .i64
      have ht : tiny (us.take n) := by unfold Lon.tiny; rw [List.length_take]; omega
      have cL := c_Long hT hF s2 ht
      obtain ⟨v, H2, cD, x2, rfl⟩ := c_Doc ha hac s2 s3 (by omega) ht
      rw [lon_doc hR hF hRF hρ] at cL
      have g1 : ((docF (us.take n) L 0 (-1) 0 false).1 ≠ (docF (us.take n) L 0 (-1) 0 false).1) = False := by simp
      have g2 : (((docF (us.take n) L 0 (-1) 0 false).2.1 : Int) ≠ ((docF (us.take n) L 0 (-1) 0 false).2.1 : Int)) = False := by simp
      have g3 : ((docF (us.take n) L 0 (-1) 0 false).2.2 == (docF (us.take n) L 0 (-1) 0 false).2.2) = true := beq_self_eq_true _
      have hw2 : IntKind.i64.wrap ((n : Int) + 1) = ((n + 1 : Nat) : Int) := by rw [wrap64 (by omega) (by omega)]; omega
      obtain ⟨y, e', H', r1, r2, r3, r4⟩ := ih (n + 1) H2 (by omega) (ha.ext x2) (hac.ext x2) (hT.ext x2) (hx.ext x2) (hxc.ext x2)
      rw [w_loop_b b_lontarlaw04_TrieLongest_0.eq_1]
      simp only [w_draw, dr_cons, dr_some, dr_none, dr_go, still_no, still_yes, next_no, next_yes, last_cons, last_nil, isStore, calm_no, calm_nil, calm_cons, calmB_some, isCall, freshI, dr_nil, dr_end, still_nil, still_cons, stillB_some, stamp_some, stampV_ptr, stampV_tuple, stampO, still_here, still_here0, List.nil_append, w_out, w_gives, fin_ret, fin_normal, ress_nil, ress_tmp, pack_one, pack_nil, pack_two, entry_nil, entry_one, entry_two, entry_three, entry_four, eq_skip, eq_exit, eq_ret, w_rows, w_done, w_seq, w_normal, w_ret, w_exit, w_cond, w_true, w_false, eq_block, block_normal, block_ret, block_exit, rows_nil, rows_cons, on_some, on_none, row_plain, row_guard, guard_tt, guard_ff, guard_tf, guard_ft, guard_no, ev_tmp, ev_int, ev_bool, ev_string, ev_slice, ev_pointer, ev_map, ev_float, ev_complex, ev_nilIface, ev_nilFunc, ev_func, eget_cons, eget_nil, st_mv, st_pick, v_pick_t, v_pick_f, st_ext, v_ext0, v_ext1, v_ext2, v_ext3, st_int, v_int, int_add, int_sub, int_mul, int_eql, int_neq, int_lss, int_leq, int_gtr, int_geq, st_beq, v_beq, v_bne, st_not, v_not, st_conv, v_conv, st_faddr, v_faddr, st_iaddr, v_iaddr, st_aaddr, v_aaddr, st_nilChk, v_nil, st_len, v_len, v_lenS, st_load, v_load, got_one, got_row, mem_tip, mem_ro, mem_ret, st_alloc, st_box, st_store, v_store, got_store, cells_agg, cells_int, cells_bool, cells_slice, cells_pointer, cells_string, cells_complex, cells_func, one_int, one_bool, one_slice, one_pointer, one_string, one_complex, one_func, upd_push, get_push_self, AHeap.n_push, AHeap.n_upd, st_build, parts_nil, parts_cons, st_bslice, st_append, st_mkfun, st_mkface, st_isNil, st_max, v_max, st_min, v_min, st_field, st_index, st_slice0, v_slice0, v_slice0n, st_slice, kill_nil, st_call, v_call, forget_nil, forget_cons, Option.map_some, Option.map_none, Option.bind_some, List.map_cons, List.map_nil, if_true, if_false, Nat.reduceEqDiff, Int.reduceEq, Nat.reduceAdd, Nat.reduceMul, Bool.not_true, Bool.not_false, reduceCtorEq, decide_true, decide_false, Int.cast_ofNat_Int, eq_self, Int.reduceLT, Int.reduceLE, Int.reduceToNat, Int.toNat_natCast, Int.le_refl, Nat.le_refl, Nat.zero_add, Nat.add_zero, Nat.zero_mul, Nat.mul_one, Nat.mul_zero, and_self, and_true, true_and, List.length_cons, List.length_nil, List.all_cons, List.all_nil, Bool.and_self, Bool.and_true, Bool.true_and, List.take_zero, List.nil_append, List.drop_nil, List.append_nil, List.getElem?_cons_zero, List.getElem?_cons_succ, List.drop_succ_cons, List.drop_zero, List.take_succ_cons, List.cons_append, Nat.reduceLeDiff, hlx, hle, h12, s1', cL, cD, g1, g2, g3, hw2]
      rw [w_enter]
      simp only [w_draw, dr_cons, dr_some, dr_none, dr_go, still_no, still_yes, next_no, next_yes, last_cons, last_nil, isStore, calm_no, calm_nil, calm_cons, calmB_some, isCall, freshI, dr_nil, dr_end, still_nil, still_cons, stillB_some, stamp_some, stampV_ptr, stampV_tuple, stampO, still_here, still_here0, List.nil_append, w_out, w_gives, fin_ret, fin_normal, ress_nil, ress_tmp, pack_one, pack_nil, pack_two, entry_nil, entry_one, entry_two, entry_three, entry_four, eq_skip, eq_exit, eq_ret, w_rows, w_done, w_seq, w_normal, w_ret, w_exit, w_cond, w_true, w_false, eq_block, block_normal, block_ret, block_exit, rows_nil, rows_cons, on_some, on_none, row_plain, row_guard, guard_tt, guard_ff, guard_tf, guard_ft, guard_no, ev_tmp, ev_int, ev_bool, ev_string, ev_slice, ev_pointer, ev_map, ev_float, ev_complex, ev_nilIface, ev_nilFunc, ev_func, eget_cons, eget_nil, st_mv, st_pick, v_pick_t, v_pick_f, st_ext, v_ext0, v_ext1, v_ext2, v_ext3, st_int, v_int, int_add, int_sub, int_mul, int_eql, int_neq, int_lss, int_leq, int_gtr, int_geq, st_beq, v_beq, v_bne, st_not, v_not, st_conv, v_conv, st_faddr, v_faddr, st_iaddr, v_iaddr, st_aaddr, v_aaddr, st_nilChk, v_nil, st_len, v_len, v_lenS, st_load, v_load, got_one, got_row, mem_tip, mem_ro, mem_ret, st_alloc, st_box, st_store, v_store, got_store, cells_agg, cells_int, cells_bool, cells_slice, cells_pointer, cells_string, cells_complex, cells_func, one_int, one_bool, one_slice, one_pointer, one_string, one_complex, one_func, upd_push, get_push_self, AHeap.n_push, AHeap.n_upd, st_build, parts_nil, parts_cons, st_bslice, st_append, st_mkfun, st_mkface, st_isNil, st_max, v_max, st_min, v_min, st_field, st_index, st_slice0, v_slice0, v_slice0n, st_slice, kill_nil, st_call, v_call, forget_nil, forget_cons, Option.map_some, Option.map_none, Option.bind_some, List.map_cons, List.map_nil, if_true, if_false, Nat.reduceEqDiff, Int.reduceEq, Nat.reduceAdd, Nat.reduceMul, Bool.not_true, Bool.not_false, reduceCtorEq, decide_true, decide_false, Int.cast_ofNat_Int, eq_self, Int.reduceLT, Int.reduceLE, Int.reduceToNat, Int.toNat_natCast, Int.le_refl, Nat.le_refl, Nat.zero_add, Nat.add_zero, Nat.zero_mul, Nat.mul_one, Nat.mul_zero, and_self, and_true, true_and, List.length_cons, List.length_nil, List.all_cons, List.all_nil, Bool.and_self, Bool.and_true, Bool.true_and, List.take_zero, List.nil_append, List.drop_nil, List.append_nil, List.getElem?_cons_zero, List.getElem?_cons_succ, List.drop_succ_cons, List.drop_zero, List.take_succ_cons, List.cons_append, Nat.reduceLeDiff, r1]
      exact ⟨r2, x2.trans r3, r4⟩
    · rw [w_loop_b b_lontarlaw04_TrieLongest_0.eq_1]
      simp only [w_draw, dr_cons, dr_some, dr_none, dr_go, still_no, still_yes, next_no, next_yes, last_cons, last_nil, isStore, calm_no, calm_nil, calm_cons, calmB_some, isCall, freshI, dr_nil, dr_end, still_nil, still_cons, stillB_some, stamp_some, stampV_ptr, stampV_tuple, stampO, still_here, still_here0, List.nil_append, w_out, w_gives, fin_ret, fin_normal, ress_nil, ress_tmp, pack_one, pack_nil, pack_two, entry_nil, entry_one, entry_two, entry_three, entry_four, eq_skip, eq_exit, eq_ret, w_rows, w_done, w_seq, w_normal, w_ret, w_exit, w_cond, w_true, w_false, eq_block, block_normal, block_ret, block_exit, rows_nil, rows_cons, on_some, on_none, row_plain, row_guard, guard_tt, guard_ff, guard_tf, guard_ft, guard_no, ev_tmp, ev_int, ev_bool, ev_string, ev_slice, ev_pointer, ev_map, ev_float, ev_complex, ev_nilIface, ev_nilFunc, ev_func, eget_cons, eget_nil, st_mv, st_pick, v_pick_t, v_pick_f, st_ext, v_ext0, v_ext1, v_ext2, v_ext3, st_int, v_int, int_add, int_sub, int_mul, int_eql, int_neq, int_lss, int_leq, int_gtr, int_geq, st_beq, v_beq, v_bne, st_not, v_not, st_conv, v_conv, st_faddr, v_faddr, st_iaddr, v_iaddr, st_aaddr, v_aaddr, st_nilChk, v_nil, st_len, v_len, v_lenS, st_load, v_load, got_one, got_row, mem_tip, mem_ro, mem_ret, st_alloc, st_box, st_store, v_store, got_store, cells_agg, cells_int, cells_bool, cells_slice, cells_pointer, cells_string, cells_complex, cells_func, one_int, one_bool, one_slice, one_pointer, one_string, one_complex, one_func, upd_push, get_push_self, AHeap.n_push, AHeap.n_upd, st_build, parts_nil, parts_cons, st_bslice, st_append, st_mkfun, st_mkface, st_isNil, st_max, v_max, st_min, v_min, st_field, st_index, st_slice0, v_slice0, v_slice0n, st_slice, kill_nil, st_call, v_call, forget_nil, forget_cons, Option.map_some, Option.map_none, Option.bind_some, List.map_cons, List.map_nil, if_true, if_false, Nat.reduceEqDiff, Int.reduceEq, Nat.reduceAdd, Nat.reduceMul, Bool.not_true, Bool.not_false, reduceCtorEq, decide_true, decide_false, Int.cast_ofNat_Int, eq_self, Int.reduceLT, Int.reduceLE, Int.reduceToNat, Int.toNat_natCast, Int.le_refl, Nat.le_refl, Nat.zero_add, Nat.add_zero, Nat.zero_mul, Nat.mul_one, Nat.mul_zero, and_self, and_true, true_and, List.length_cons, List.length_nil, List.all_cons, List.all_nil, Bool.and_self, Bool.and_true, Bool.true_and, List.take_zero, List.nil_append, List.drop_nil, List.append_nil, List.getElem?_cons_zero, List.getElem?_cons_succ, List.drop_succ_cons, List.drop_zero, List.take_succ_cons, List.cons_append, Nat.reduceLeDiff, hlx, hle]
      exact Ext.refl _
theorem l_Lg1 {a w : Value} {L : List Rl} {t : Nat} {N : List Nd} {vr : Value} {X : List (Value × List Int)} (hL : L.length ≤ 512) (hR : Right L) (hF : Fits (paths L) N) (hRF : RF (fnd L) (paths L) N) (hρ : ∀ q, q ∉ paths L → fnd L q = -1) (hX : X.length ≤ 3) : ∀ (c i : Nat) (H : AHeap), i + c = X.length → Rules H a L → CutR H a → TrieAt H t N vr → Sl H 1 w X.length (X.map (·.1)) → (∀ p ∈ X, Ints H p.1 p.2 ∧ Cut Try.prog H p.1 1) →
    Out (run Try.prog (tabF tab) om1 (.loop [7, 8, 37, 38, 39] b_lontarlaw04_TrieLongest_1) [(7, a), (8, .pointer (some ⟨t, 0, none⟩)), (37, w), (38, .int .i64 X.length), (39, .int .i64 i)] H) fun y e' H' => y = .exit 0 := by
  intro c
  induction c with
  | zero =>
    intro i H hi ha hac hT hw hp
    have hlt : ¬ ((i : Int) < X.length) := by omega
    rw [w_loop_b b_lontarlaw04_TrieLongest_1.eq_1]
    simp only [w_draw, dr_cons, dr_some, dr_none, dr_go, still_no, still_yes, next_no, next_yes, last_cons, last_nil, isStore, calm_no, calm_nil, calm_cons, calmB_some, isCall, freshI, dr_nil, dr_end, still_nil, still_cons, stillB_some, stamp_some, stampV_ptr, stampV_tuple, stampO, still_here, still_here0, List.nil_append, w_out, w_gives, fin_ret, fin_normal, ress_nil, ress_tmp, pack_one, pack_nil, pack_two, entry_nil, entry_one, entry_two, entry_three, entry_four, eq_skip, eq_exit, eq_ret, w_rows, w_done, w_seq, w_normal, w_ret, w_exit, w_cond, w_true, w_false, eq_block, block_normal, block_ret, block_exit, rows_nil, rows_cons, on_some, on_none, row_plain, row_guard, guard_tt, guard_ff, guard_tf, guard_ft, guard_no, ev_tmp, ev_int, ev_bool, ev_string, ev_slice, ev_pointer, ev_map, ev_float, ev_complex, ev_nilIface, ev_nilFunc, ev_func, eget_cons, eget_nil, st_mv, st_pick, v_pick_t, v_pick_f, st_ext, v_ext0, v_ext1, v_ext2, v_ext3, st_int, v_int, int_add, int_sub, int_mul, int_eql, int_neq, int_lss, int_leq, int_gtr, int_geq, st_beq, v_beq, v_bne, st_not, v_not, st_conv, v_conv, st_faddr, v_faddr, st_iaddr, v_iaddr, st_aaddr, v_aaddr, st_nilChk, v_nil, st_len, v_len, v_lenS, st_load, v_load, got_one, got_row, mem_tip, mem_ro, mem_ret, st_alloc, st_box, st_store, v_store, got_store, cells_agg, cells_int, cells_bool, cells_slice, cells_pointer, cells_string, cells_complex, cells_func, one_int, one_bool, one_slice, one_pointer, one_string, one_complex, one_func, upd_push, get_push_self, AHeap.n_push, AHeap.n_upd, st_build, parts_nil, parts_cons, st_bslice, st_append, st_mkfun, st_mkface, st_isNil, st_max, v_max, st_min, v_min, st_field, st_index, st_slice0, v_slice0, v_slice0n, st_slice, kill_nil, st_call, v_call, forget_nil, forget_cons, Option.map_some, Option.map_none, Option.bind_some, List.map_cons, List.map_nil, if_true, if_false, Nat.reduceEqDiff, Int.reduceEq, Nat.reduceAdd, Nat.reduceMul, Bool.not_true, Bool.not_false, reduceCtorEq, decide_true, decide_false, Int.cast_ofNat_Int, eq_self, Int.reduceLT, Int.reduceLE, Int.reduceToNat, Int.toNat_natCast, Int.le_refl, Nat.le_refl, Nat.zero_add, Nat.add_zero, Nat.zero_mul, Nat.mul_one, Nat.mul_zero, and_self, and_true, true_and, List.length_cons, List.length_nil, List.all_cons, List.all_nil, Bool.and_self, Bool.and_true, Bool.true_and, List.take_zero, List.nil_append, List.drop_nil, List.append_nil, List.getElem?_cons_zero, List.getElem?_cons_succ, List.drop_succ_cons, List.drop_zero, List.take_succ_cons, List.cons_append, Nat.reduceLeDiff, hlt]
  | succ c ih =>
    intro i H hi ha hac hT hw hp
    have hlt : (i : Int) < X.length := by omega
    obtain ⟨p, hpi, _⟩ := drop_at (L := X) (i := i) (by omega)
    obtain ⟨p1, p2⟩ := hp p (List.mem_of_getElem? hpi)
    obtain ⟨i1, o1, a1, a2, a3⟩ := hw.at (show i < X.length by omega)
    have a2' := a2 0 p.1 (by omega) (by rw [Nat.mul_one, Nat.add_zero, List.getElem?_map, hpi]; rfl)
    rw [Nat.add_zero] at a2'
    obtain ⟨y, e', H2, r1, rfl, x2, r3, r4, r5, r6, r7⟩ := l_Lg0 (a := a) (x := p.1) (w := w) (us := p.2) (z1 := X.length) (z2 := i) hL hR hF hRF hρ 12 0 H (by omega) ha hac hT p1 p2
    have hw2 : IntKind.i64.wrap ((i : Int) + 1) = ((i + 1 : Nat) : Int) := by rw [wrap64 (by omega) (by omega)]; omega
    obtain ⟨y, e2, H3, q1, q2⟩ := ih (i + 1) H2 (by omega) (ha.ext x2) (hac.ext x2) (hT.ext x2) (hw.ext x2) (fun p hm => ⟨(hp p hm).1.ext x2, (hp p hm).2.ext x2⟩)
    simp only [Int.cast_ofNat_Int] at r1
    rw [w_loop_b b_lontarlaw04_TrieLongest_1.eq_1]
    simp only [w_draw, dr_cons, dr_some, dr_none, dr_go, still_no, still_yes, next_no, next_yes, last_cons, last_nil, isStore, calm_no, calm_nil, calm_cons, calmB_some, isCall, freshI, dr_nil, dr_end, still_nil, still_cons, stillB_some, stamp_some, stampV_ptr, stampV_tuple, stampO, still_here, still_here0, List.nil_append, w_out, w_gives, fin_ret, fin_normal, ress_nil, ress_tmp, pack_one, pack_nil, pack_two, entry_nil, entry_one, entry_two, entry_three, entry_four, eq_skip, eq_exit, eq_ret, w_rows, w_done, w_seq, w_normal, w_ret, w_exit, w_cond, w_true, w_false, eq_block, block_normal, block_ret, block_exit, rows_nil, rows_cons, on_some, on_none, row_plain, row_guard, guard_tt, guard_ff, guard_tf, guard_ft, guard_no, ev_tmp, ev_int, ev_bool, ev_string, ev_slice, ev_pointer, ev_map, ev_float, ev_complex, ev_nilIface, ev_nilFunc, ev_func, eget_cons, eget_nil, st_mv, st_pick, v_pick_t, v_pick_f, st_ext, v_ext0, v_ext1, v_ext2, v_ext3, st_int, v_int, int_add, int_sub, int_mul, int_eql, int_neq, int_lss, int_leq, int_gtr, int_geq, st_beq, v_beq, v_bne, st_not, v_not, st_conv, v_conv, st_faddr, v_faddr, st_iaddr, v_iaddr, st_aaddr, v_aaddr, st_nilChk, v_nil, st_len, v_len, v_lenS, st_load, v_load, got_one, got_row, mem_tip, mem_ro, mem_ret, st_alloc, st_box, st_store, v_store, got_store, cells_agg, cells_int, cells_bool, cells_slice, cells_pointer, cells_string, cells_complex, cells_func, one_int, one_bool, one_slice, one_pointer, one_string, one_complex, one_func, upd_push, get_push_self, AHeap.n_push, AHeap.n_upd, st_build, parts_nil, parts_cons, st_bslice, st_append, st_mkfun, st_mkface, st_isNil, st_max, v_max, st_min, v_min, st_field, st_index, st_slice0, v_slice0, v_slice0n, st_slice, kill_nil, st_call, v_call, forget_nil, forget_cons, Option.map_some, Option.map_none, Option.bind_some, List.map_cons, List.map_nil, if_true, if_false, Nat.reduceEqDiff, Int.reduceEq, Nat.reduceAdd, Nat.reduceMul, Bool.not_true, Bool.not_false, reduceCtorEq, decide_true, decide_false, Int.cast_ofNat_Int, eq_self, Int.reduceLT, Int.reduceLE, Int.reduceToNat, Int.toNat_natCast, Int.le_refl, Nat.le_refl, Nat.zero_add, Nat.add_zero, Nat.zero_mul, Nat.mul_one, Nat.mul_zero, and_self, and_true, true_and, List.length_cons, List.length_nil, List.all_cons, List.all_nil, Bool.and_self, Bool.and_true, Bool.true_and, List.take_zero, List.nil_append, List.drop_nil, List.append_nil, List.getElem?_cons_zero, List.getElem?_cons_succ, List.drop_succ_cons, List.drop_zero, List.take_succ_cons, List.cons_append, Nat.reduceLeDiff, hlt, a1, a2']
    rw [w_enter]
    simp only [w_draw, dr_cons, dr_some, dr_none, dr_go, still_no, still_yes, next_no, next_yes, last_cons, last_nil, isStore, calm_no, calm_nil, calm_cons, calmB_some, isCall, freshI, dr_nil, dr_end, still_nil, still_cons, stillB_some, stamp_some, stampV_ptr, stampV_tuple, stampO, still_here, still_here0, List.nil_append, w_out, w_gives, fin_ret, fin_normal, ress_nil, ress_tmp, pack_one, pack_nil, pack_two, entry_nil, entry_one, entry_two, entry_three, entry_four, eq_skip, eq_exit, eq_ret, w_rows, w_done, w_seq, w_normal, w_ret, w_exit, w_cond, w_true, w_false, eq_block, block_normal, block_ret, block_exit, rows_nil, rows_cons, on_some, on_none, row_plain, row_guard, guard_tt, guard_ff, guard_tf, guard_ft, guard_no, ev_tmp, ev_int, ev_bool, ev_string, ev_slice, ev_pointer, ev_map, ev_float, ev_complex, ev_nilIface, ev_nilFunc, ev_func, eget_cons, eget_nil, st_mv, st_pick, v_pick_t, v_pick_f, st_ext, v_ext0, v_ext1, v_ext2, v_ext3, st_int, v_int, int_add, int_sub, int_mul, int_eql, int_neq, int_lss, int_leq, int_gtr, int_geq, st_beq, v_beq, v_bne, st_not, v_not, st_conv, v_conv, st_faddr, v_faddr, st_iaddr, v_iaddr, st_aaddr, v_aaddr, st_nilChk, v_nil, st_len, v_len, v_lenS, st_load, v_load, got_one, got_row, mem_tip, mem_ro, mem_ret, st_alloc, st_box, st_store, v_store, got_store, cells_agg, cells_int, cells_bool, cells_slice, cells_pointer, cells_string, cells_complex, cells_func, one_int, one_bool, one_slice, one_pointer, one_string, one_complex, one_func, upd_push, get_push_self, AHeap.n_push, AHeap.n_upd, st_build, parts_nil, parts_cons, st_bslice, st_append, st_mkfun, st_mkface, st_isNil, st_max, v_max, st_min, v_min, st_field, st_index, st_slice0, v_slice0, v_slice0n, st_slice, kill_nil, st_call, v_call, forget_nil, forget_cons, Option.map_some, Option.map_none, Option.bind_some, List.map_cons, List.map_nil, if_true, if_false, Nat.reduceEqDiff, Int.reduceEq, Nat.reduceAdd, Nat.reduceMul, Bool.not_true, Bool.not_false, reduceCtorEq, decide_true, decide_false, Int.cast_ofNat_Int, eq_self, Int.reduceLT, Int.reduceLE, Int.reduceToNat, Int.toNat_natCast, Int.le_refl, Nat.le_refl, Nat.zero_add, Nat.add_zero, Nat.zero_mul, Nat.mul_one, Nat.mul_zero, and_self, and_true, true_and, List.length_cons, List.length_nil, List.all_cons, List.all_nil, Bool.and_self, Bool.and_true, Bool.true_and, List.take_zero, List.nil_append, List.drop_nil, List.append_nil, List.getElem?_cons_zero, List.getElem?_cons_succ, List.drop_succ_cons, List.drop_zero, List.take_succ_cons, List.cons_append, Nat.reduceLeDiff, r1, r3, r4, r5, r6, r7, hw2]
    rw [w_enter]
    simp only [w_draw, dr_cons, dr_some, dr_none, dr_go, still_no, still_yes, next_no, next_yes, last_cons, last_nil, isStore, calm_no, calm_nil, calm_cons, calmB_some, isCall, freshI, dr_nil, dr_end, still_nil, still_cons, stillB_some, stamp_some, stampV_ptr, stampV_tuple, stampO, still_here, still_here0, List.nil_append, w_out, w_gives, fin_ret, fin_normal, ress_nil, ress_tmp, pack_one, pack_nil, pack_two, entry_nil, entry_one, entry_two, entry_three, entry_four, eq_skip, eq_exit, eq_ret, w_rows, w_done, w_seq, w_normal, w_ret, w_exit, w_cond, w_true, w_false, eq_block, block_normal, block_ret, block_exit, rows_nil, rows_cons, on_some, on_none, row_plain, row_guard, guard_tt, guard_ff, guard_tf, guard_ft, guard_no, ev_tmp, ev_int, ev_bool, ev_string, ev_slice, ev_pointer, ev_map, ev_float, ev_complex, ev_nilIface, ev_nilFunc, ev_func, eget_cons, eget_nil, st_mv, st_pick, v_pick_t, v_pick_f, st_ext, v_ext0, v_ext1, v_ext2, v_ext3, st_int, v_int, int_add, int_sub, int_mul, int_eql, int_neq, int_lss, int_leq, int_gtr, int_geq, st_beq, v_beq, v_bne, st_not, v_not, st_conv, v_conv, st_faddr, v_faddr, st_iaddr, v_iaddr, st_aaddr, v_aaddr, st_nilChk, v_nil, st_len, v_len, v_lenS, st_load, v_load, got_one, got_row, mem_tip, mem_ro, mem_ret, st_alloc, st_box, st_store, v_store, got_store, cells_agg, cells_int, cells_bool, cells_slice, cells_pointer, cells_string, cells_complex, cells_func, one_int, one_bool, one_slice, one_pointer, one_string, one_complex, one_func, upd_push, get_push_self, AHeap.n_push, AHeap.n_upd, st_build, parts_nil, parts_cons, st_bslice, st_append, st_mkfun, st_mkface, st_isNil, st_max, v_max, st_min, v_min, st_field, st_index, st_slice0, v_slice0, v_slice0n, st_slice, kill_nil, st_call, v_call, forget_nil, forget_cons, Option.map_some, Option.map_none, Option.bind_some, List.map_cons, List.map_nil, if_true, if_false, Nat.reduceEqDiff, Int.reduceEq, Nat.reduceAdd, Nat.reduceMul, Bool.not_true, Bool.not_false, reduceCtorEq, decide_true, decide_false, Int.cast_ofNat_Int, eq_self, Int.reduceLT, Int.reduceLE, Int.reduceToNat, Int.toNat_natCast, Int.le_refl, Nat.le_refl, Nat.zero_add, Nat.add_zero, Nat.zero_mul, Nat.mul_one, Nat.mul_zero, and_self, and_true, true_and, List.length_cons, List.length_nil, List.all_cons, List.all_nil, Bool.and_self, Bool.and_true, Bool.true_and, List.take_zero, List.nil_append, List.drop_nil, List.append_nil, List.getElem?_cons_zero, List.getElem?_cons_succ, List.drop_succ_cons, List.drop_zero, List.take_succ_cons, List.cons_append, Nat.reduceLeDiff, r3, r4, r5, r6, q1]
    exact q2
theorem law_Longest {a b d : Value} {R : List RowD} {l us : List Int} {H : AHeap} (ha : RowsAt H a R) (hb : Nums H .u8 b l ∧ Cut Try.prog H b 1 ∧ bytes l ∧ tiny l) (hd : Ints H d us ∧ Cut Try.prog H d 1 ∧ small us ∧ ∀ n ∈ us, (Lit.int .i64 n).wf = true) : Gives (cw Try.prog (tabF tab) om1 3 [a, b, d] H) fun v H' => v = .bool true := by
  rw [cw_run (F := F_lontarlaw04_TrieLongest) rfl rfl rfl]
  unfold F_lontarlaw04_TrieLongest k_lontarlaw04_TrieLongest
  obtain ⟨b1, b2, b3, b4⟩ := hb
  obtain ⟨d1, d2, _⟩ := hd
  obtain ⟨v1, H1, c1, x1, o1, k1⟩ := c_Right ha
  have h40 := RL_len R
  have hlen := rgt_len (L := RL R) (T := [])
  simp only [List.length_nil, Nat.zero_add] at hlen
  have hR := o1.rules (by omega)
  have hC : Cut Try.prog H1 v1 2 := o1.cut (by kernel_rfl)
  have hgood := rgt_good (L := RL R) Good.nil
  obtain ⟨v2, H2, c2, x2, t, bb, vr, N, rfl, hT, hF, hRF, hρ⟩ := c_Of hR hC hgood (by omega)
  obtain ⟨v3, H3, c3, x3, i3, k3⟩ := c_Some (b1.ext (x1.trans x2)) (b2.ext (x1.trans x2)) b3 b4
  have hx := (x1.trans x2).trans x3
  have i3' := i3
  have d1' := d1
  obtain ⟨⟨p3, q3, rfl⟩, _⟩ := i3'
  obtain ⟨⟨p4, q4, rfl⟩, _⟩ := d1'
  have x4 := Ext.push H3 ⟨[.slice p3 (som l).length q3, .slice p4 us.length q4, .slice none 0 0], 24, .tip, 0, []⟩
  have hw := Sl.new (n := 3) (c := 4) (sz := 1) (get_push_self (H := H3) (b := ⟨[.slice p3 (som l).length q3, .slice p4 us.length q4, .slice none 0 0], 24, .tip, 0, []⟩)) mem_tip rfl
  obtain ⟨y, e', H', r1, rfl⟩ := l_Lg1 (X := [(.slice p3 (som l).length q3, som l), (.slice p4 us.length q4, us), (.slice none 0 0, [])]) (by omega) hgood hF hRF hρ (Nat.le_refl 3) 3 0 _ rfl ((hR.ext (x2.trans x3)).ext x4) ((k1.ext (x2.trans x3)).ext x4) ((hT.at.ext x3).ext x4) hw (fun p hm => by
    simp at hm
    rcases hm with rfl | rfl | rfl
    · exact ⟨i3.ext x4, k3.ext x4⟩
    · exact ⟨(d1.ext hx).ext x4, (d2.ext hx).ext x4⟩
    · exact ⟨Sl.nil _ 1, trivial⟩)
  simp only [Int.cast_ofNat_Int, List.length_cons, List.length_nil, Nat.reduceAdd] at r1
  have hl3 : ∀ H : AHeap, vLen false (.slice (some ⟨H3.n, 0, none⟩) 3 4) H = some (.int .i64 3, H) := fun _ => rfl
  have z : ((0 : Int) ≠ 0) = False := by simp
  simp only [w_draw, dr_cons, dr_some, dr_none, dr_go, still_no, still_yes, next_no, next_yes, last_cons, last_nil, isStore, calm_no, calm_nil, calm_cons, calmB_some, isCall, freshI, dr_nil, dr_end, still_nil, still_cons, stillB_some, stamp_some, stampV_ptr, stampV_tuple, stampO, still_here, still_here0, List.nil_append, w_out, w_gives, fin_ret, fin_normal, ress_nil, ress_tmp, pack_one, pack_nil, pack_two, entry_nil, entry_one, entry_two, entry_three, entry_four, eq_skip, eq_exit, eq_ret, w_rows, w_done, w_seq, w_normal, w_ret, w_exit, w_cond, w_true, w_false, eq_block, block_normal, block_ret, block_exit, rows_nil, rows_cons, on_some, on_none, row_plain, row_guard, guard_tt, guard_ff, guard_tf, guard_ft, guard_no, ev_tmp, ev_int, ev_bool, ev_string, ev_slice, ev_pointer, ev_map, ev_float, ev_complex, ev_nilIface, ev_nilFunc, ev_func, eget_cons, eget_nil, st_mv, st_pick, v_pick_t, v_pick_f, st_ext, v_ext0, v_ext1, v_ext2, v_ext3, st_int, v_int, int_add, int_sub, int_mul, int_eql, int_neq, int_lss, int_leq, int_gtr, int_geq, st_beq, v_beq, v_bne, st_not, v_not, st_conv, v_conv, st_faddr, v_faddr, st_iaddr, v_iaddr, st_aaddr, v_aaddr, st_nilChk, v_nil, st_len, v_len, v_lenS, st_load, v_load, got_one, got_row, mem_tip, mem_ro, mem_ret, st_alloc, st_box, st_store, v_store, got_store, cells_agg, cells_int, cells_bool, cells_slice, cells_pointer, cells_string, cells_complex, cells_func, one_int, one_bool, one_slice, one_pointer, one_string, one_complex, one_func, upd_push, get_push_self, AHeap.n_push, AHeap.n_upd, st_build, parts_nil, parts_cons, st_bslice, st_append, st_mkfun, st_mkface, st_isNil, st_max, v_max, st_min, v_min, st_field, st_index, st_slice0, v_slice0, v_slice0n, st_slice, kill_nil, st_call, v_call, forget_nil, forget_cons, Option.map_some, Option.map_none, Option.bind_some, List.map_cons, List.map_nil, if_true, if_false, Nat.reduceEqDiff, Int.reduceEq, Nat.reduceAdd, Nat.reduceMul, Bool.not_true, Bool.not_false, reduceCtorEq, decide_true, decide_false, Int.cast_ofNat_Int, eq_self, Int.reduceLT, Int.reduceLE, Int.reduceToNat, Int.toNat_natCast, Int.le_refl, Nat.le_refl, Nat.zero_add, Nat.add_zero, Nat.zero_mul, Nat.mul_one, Nat.mul_zero, and_self, and_true, true_and, List.length_cons, List.length_nil, List.all_cons, List.all_nil, Bool.and_self, Bool.and_true, Bool.true_and, List.take_zero, List.nil_append, List.drop_nil, List.append_nil, List.getElem?_cons_zero, List.getElem?_cons_succ, List.drop_succ_cons, List.drop_zero, List.take_succ_cons, List.cons_append, Nat.reduceLeDiff, o_awake, c1, c2, v_nilp, z, c3, v_three, hl3]
  rw [w_enter]
  simp only [w_draw, dr_cons, dr_some, dr_none, dr_go, still_no, still_yes, next_no, next_yes, last_cons, last_nil, isStore, calm_no, calm_nil, calm_cons, calmB_some, isCall, freshI, dr_nil, dr_end, still_nil, still_cons, stillB_some, stamp_some, stampV_ptr, stampV_tuple, stampO, still_here, still_here0, List.nil_append, w_out, w_gives, fin_ret, fin_normal, ress_nil, ress_tmp, pack_one, pack_nil, pack_two, entry_nil, entry_one, entry_two, entry_three, entry_four, eq_skip, eq_exit, eq_ret, w_rows, w_done, w_seq, w_normal, w_ret, w_exit, w_cond, w_true, w_false, eq_block, block_normal, block_ret, block_exit, rows_nil, rows_cons, on_some, on_none, row_plain, row_guard, guard_tt, guard_ff, guard_tf, guard_ft, guard_no, ev_tmp, ev_int, ev_bool, ev_string, ev_slice, ev_pointer, ev_map, ev_float, ev_complex, ev_nilIface, ev_nilFunc, ev_func, eget_cons, eget_nil, st_mv, st_pick, v_pick_t, v_pick_f, st_ext, v_ext0, v_ext1, v_ext2, v_ext3, st_int, v_int, int_add, int_sub, int_mul, int_eql, int_neq, int_lss, int_leq, int_gtr, int_geq, st_beq, v_beq, v_bne, st_not, v_not, st_conv, v_conv, st_faddr, v_faddr, st_iaddr, v_iaddr, st_aaddr, v_aaddr, st_nilChk, v_nil, st_len, v_len, v_lenS, st_load, v_load, got_one, got_row, mem_tip, mem_ro, mem_ret, st_alloc, st_box, st_store, v_store, got_store, cells_agg, cells_int, cells_bool, cells_slice, cells_pointer, cells_string, cells_complex, cells_func, one_int, one_bool, one_slice, one_pointer, one_string, one_complex, one_func, upd_push, get_push_self, AHeap.n_push, AHeap.n_upd, st_build, parts_nil, parts_cons, st_bslice, st_append, st_mkfun, st_mkface, st_isNil, st_max, v_max, st_min, v_min, st_field, st_index, st_slice0, v_slice0, v_slice0n, st_slice, kill_nil, st_call, v_call, forget_nil, forget_cons, Option.map_some, Option.map_none, Option.bind_some, List.map_cons, List.map_nil, if_true, if_false, Nat.reduceEqDiff, Int.reduceEq, Nat.reduceAdd, Nat.reduceMul, Bool.not_true, Bool.not_false, reduceCtorEq, decide_true, decide_false, Int.cast_ofNat_Int, eq_self, Int.reduceLT, Int.reduceLE, Int.reduceToNat, Int.toNat_natCast, Int.le_refl, Nat.le_refl, Nat.zero_add, Nat.add_zero, Nat.zero_mul, Nat.mul_one, Nat.mul_zero, and_self, and_true, true_and, List.length_cons, List.length_nil, List.all_cons, List.all_nil, Bool.and_self, Bool.and_true, Bool.true_and, List.take_zero, List.nil_append, List.drop_nil, List.append_nil, List.getElem?_cons_zero, List.getElem?_cons_succ, List.drop_succ_cons, List.drop_zero, List.take_succ_cons, List.cons_append, Nat.reduceLeDiff, r1]
end Go.Proofs.Ytjicdpkgcofiaaa

