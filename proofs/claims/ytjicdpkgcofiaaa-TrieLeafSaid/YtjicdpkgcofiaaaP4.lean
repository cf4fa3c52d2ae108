/- What is proved here: what the program's functions come to, as far as the claimed statement asks. Conditions: those that each theorem names, and no others. -/
import Derived.Test.YtjicdpkgcofiaaaP1
import Derived.Test.YtjicdpkgcofiaaaP2
import Derived.Test.YtjicdpkgcofiaaaP3
/-! The longest rule, told by the rules alone. -/
set_option linter.unusedSimpArgs false
set_option linter.unusedVariables false
namespace Go.Proofs.Ytjicdpkgcofiaaa
open Go Lon
theorem mem_addIns : ∀ {us p : List Int} {P : List (List Int)} {q : List Int}, q ∈ addIns P p us ↔ q ∈ P ∨ ∃ a, a ≠ [] ∧ a <+: us ∧ q = p ++ a
  | [], p, P, q => by
    unfold addIns
    constructor
    · exact .inl
    · rintro (h | ⟨a, h1, h2, _⟩)
      · exact h
      · exact absurd (List.prefix_nil.1 h2) h1
  | u :: us, p, P, q => by
    unfold addIns
    rw [mem_addIns]
    constructor
    · rintro (h | ⟨a, h1, h2, rfl⟩)
      · split at h
        · exact .inl h
        · rcases List.mem_append.1 h with h | h
          · exact .inl h
          · exact .inr ⟨[u], by simp, ⟨us, rfl⟩, by simpa using h⟩
      · exact .inr ⟨u :: a, by simp, List.cons_prefix_cons.2 ⟨rfl, h2⟩, by simp⟩
    · rintro (h | ⟨a, h1, h2, rfl⟩)
      · left
        split
        · exact h
        · exact List.mem_append_left _ h
      · cases a with
        | nil => exact absurd rfl h1
        | cons v a =>
          obtain ⟨rfl, h3⟩ := List.cons_prefix_cons.1 h2
          cases a with
          | nil =>
            left
            split
            · assumption
            · simp
          | cons w a => exact .inr ⟨w :: a, by simp, h3, by simp⟩
theorem mem_pathsG : ∀ {L : List Rl} {P : List (List Int)} {q : List Int}, q ∈ L.foldl (fun P r => addIns P [] r.1) P ↔ q ∈ P ∨ ∃ r ∈ L, q ≠ [] ∧ q <+: r.1
  | [], P, q => by simp
  | r :: L, P, q => by
    rw [List.foldl_cons, mem_pathsG, mem_addIns]
    constructor
    · rintro ((h | ⟨a, h1, h2, rfl⟩) | ⟨x, h1, h2⟩)
      · exact .inl h
      · exact .inr ⟨r, List.mem_cons_self .., by simpa using h1, by simpa using h2⟩
      · exact .inr ⟨x, List.mem_cons_of_mem _ h1, h2⟩
    · rintro (h | ⟨x, h1, h2, h3⟩)
      · exact .inl (.inl h)
      · rcases List.mem_cons.1 h1 with rfl | h1
        · exact .inl (.inr ⟨q, h2, h3, rfl⟩)
        · exact .inr ⟨x, h1, h2, h3⟩
theorem mem_paths {L : List Rl} {q : List Int} : q ∈ paths L ↔ q = [] ∨ ∃ r ∈ L, q ≠ [] ∧ q <+: r.1 := by
  unfold paths
  rw [mem_pathsG, List.mem_singleton]
theorem paths_pre {L : List Rl} {p s : List Int} (h : p ++ s ∈ paths L) : p ∈ paths L := by
  rw [mem_paths] at h ⊢
  by_cases hp : p = []
  · exact .inl hp
  · rcases h with h | ⟨r, h1, h2, h3⟩
    · exact absurd (List.append_eq_nil_iff.1 h).1 hp
    · exact .inr ⟨r, h1, hp, (List.prefix_append p s).trans h3⟩
theorem paths_more {L : List Rl} {q : List Int} : (∃ u, q ++ [u] ∈ paths L) ↔ ∃ r ∈ L, q.length < r.1.length ∧ q <+: r.1 := by
  constructor
  · rintro ⟨u, h⟩
    rcases mem_paths.1 h with h | ⟨r, h1, h2, h3⟩
    · simp at h
    · refine ⟨r, h1, ?_, (List.prefix_append q [u]).trans h3⟩
      have := h3.length_le
      simp at this
      omega
  · rintro ⟨r, h1, h2, t, h3⟩
    cases t with
    | nil => rw [← h3] at h2; simp at h2
    | cons u t => exact ⟨u, mem_paths.2 (.inr ⟨r, h1, by simp, t, by rw [← h3]; simp⟩)⟩
/-- A rule's own place. -/
theorem fnd_get {L : List Rl} (hR : ∀ k r, L[k]? = some r → fnd (L.take k) r.1 < 0) {i : Nat} {r : Rl} (hr : L[i]? = some r) : ∀ (c : Nat), i + 1 + c ≤ L.length → fnd (L.take (i + 1 + c)) r.1 = i
  | 0, h => by
    have htk : L.take (i + 1) = L.take i ++ [r] := by rw [List.take_add_one, hr]; rfl
    show fnd (L.take (i + 1)) r.1 = i
    rw [htk, fnd_snoc (hR i r hr), if_pos rfl, List.length_take, Nat.min_eq_left (by omega)]
  | c + 1, h => by
    have ih := fnd_get hR hr c (by omega)
    obtain ⟨x, hx, _⟩ := drop_at (L := L) (i := i + 1 + c) (by omega)
    have htk : L.take (i + 1 + (c + 1)) = L.take (i + 1 + c) ++ [x] := by
      have : i + 1 + (c + 1) = i + 1 + c + 1 := by omega
      rw [this, List.take_add_one, hx]; rfl
    have hn := hR _ x hx
    rw [htk, fnd_snoc hn, if_neg (fun e => by rw [← e, ih] at hn; omega)]
    exact ih
theorem fnd_at {L : List Rl} (hR : ∀ k r, L[k]? = some r → fnd (L.take k) r.1 < 0) {i : Nat} {r : Rl} (hr : L[i]? = some r) : fnd L r.1 = i := by
  have hl := (List.getElem?_eq_some_iff.1 hr).1
  have := fnd_get hR hr (L.length - (i + 1)) (by omega)
  rwa [List.take_of_length_le (by omega)] at this
/-- The longest In with which units begin, its rule. -/
def Pre (L : List Rl) (q : List Int) (k : Int) (n : Nat) : Prop := n ≤ q.length ∧ (n = 0 → k = -1) ∧ (0 < n → k = fnd L (q.take n) ∧ 0 ≤ k) ∧ ∀ m, n < m → m ≤ q.length → fnd L (q.take m) < 0
theorem Pre.uniq {L : List Rl} {q : List Int} {k k' : Int} {n n' : Nat} (h : Pre L q k n) (h' : Pre L q k' n') : k = k' ∧ n = n' := by
  obtain ⟨a1, a2, a3, a4⟩ := h
  obtain ⟨b1, b2, b3, b4⟩ := h'
  rcases Nat.lt_trichotomy n n' with hlt | rfl | hlt
  · have h1 := a4 n' hlt b1
    obtain ⟨h2, h3⟩ := b3 (by omega)
    omega
  · refine ⟨?_, rfl⟩
    rcases Nat.eq_zero_or_pos n with h0 | h0
    · rw [a2 h0, b2 h0]
    · rw [(a3 h0).1, (b3 h0).1]
  · have h1 := b4 n hlt a1
    obtain ⟨h2, h3⟩ := a3 (by omega)
    omega
theorem lonF_is {L : List Rl} {N : List Nd} (hF : Fits (paths L) N) (hRF : RF (fnd L) (paths L) N) (hρ : ∀ q, q ∉ paths L → fnd L q = -1) : ∀ (us p : List Int) (k : Int) (n m : Nat), (paths L)[m]? = some p → Pre L p k n →
    Pre L (p ++ us) (lonF N (paths L) us p.length k n p m).1 (lonF N (paths L) us p.length k n p m).2.1 ∧ ((lonF N (paths L) us p.length k n p m).2.2 = true ↔ ∃ u, p ++ us ++ [u] ∈ paths L) := by
  intro us
  induction us with
  | nil =>
    intro p k n m hp hpre
    unfold lonF
    rw [List.append_nil]
    refine ⟨hpre, ?_⟩
    have hml : m < N.length := by rw [hF.len]; exact (List.getElem?_eq_some_iff.1 hp).1
    have hx := List.getElem?_eq_getElem hml
    have hc := hF.chain hx hp
    have h0 := hF.kid0 hx
    have hk : kidAt N m = N[m].kid := by unfold kidAt; rw [hx]
    simp only [hk, Bool.not_eq_true', decide_eq_false_iff_not]
    constructor
    · intro hne
      cases hkk : kidsOf (paths L) p with
      | nil =>
        rw [hkk] at hc
        have : N[m].kid ≤ 0 := hc
        omega
      | cons j r =>
        obtain ⟨u, hu⟩ := mem_kids.1 (show j ∈ kidsOf (paths L) p by rw [hkk]; exact List.mem_cons_self ..)
        exact ⟨u, List.mem_of_getElem? hu⟩
    · rintro ⟨u, hu⟩
      obtain ⟨j, hj, hju⟩ := List.getElem_of_mem hu
      have hm : j ∈ kidsOf (paths L) p := mem_kids.2 ⟨u, by rw [List.getElem?_eq_getElem hj, hju]⟩
      cases hkk : kidsOf (paths L) p with
      | nil => rw [hkk] at hm; cases hm
      | cons j r =>
        rw [hkk] at hc
        obtain ⟨h1, h2, _⟩ := hc
        omega
  | cons u us ih =>
    intro p k n m hp hpre
    unfold lonF
    have happ : p ++ u :: us = p ++ [u] ++ us := by simp
    cases hpk : pickU N u (kidsOf (paths L) p) with
    | none =>
      have hno := (pick_none hF).1 hpk
      obtain ⟨a1, a2, a3, a4⟩ := hpre
      refine ⟨⟨by simp; omega, a2, fun h => ?_, fun m' h1 h2 => ?_⟩, ?_⟩
      · rw [List.take_append_of_le_length a1]
        exact a3 h
      · rcases Nat.lt_or_ge p.length m' with hl | hl
        · have : (p ++ u :: us).take m' = p ++ [u] ++ us.take (m' - p.length - 1) := by
            rw [List.take_append, List.take_of_length_le (by omega)]
            obtain ⟨d, hd⟩ : ∃ d, m' - p.length = d + 1 := ⟨m' - p.length - 1, by omega⟩
            rw [hd]
            simp
          rw [this, hρ _ (fun hm => hno (paths_pre hm))]
          decide
        · rw [List.take_append_of_le_length hl]
          exact a4 m' h1 hl
      · simp only [Bool.false_eq_true, false_iff]
        rintro ⟨v, hv⟩
        rw [happ, List.append_assoc] at hv
        exact hno (paths_pre hv)
    | some j =>
      have hpj := (pick_iff hF).1 hpk
      have hjl : j < N.length := by rw [hF.len]; exact (List.getElem?_eq_some_iff.1 hpj).1
      have hxj := List.getElem?_eq_getElem hjl
      have hrj : ruleAt N j = fnd L (p ++ [u]) := by unfold ruleAt; rw [hxj]; exact hRF _ _ _ hxj hpj
      obtain ⟨a1, a2, a3, a4⟩ := hpre
      have hlen : (p ++ [u]).length = p.length + 1 := by simp
      rw [happ]
      simp only
      rw [hrj]
      by_cases h0 : fnd L (p ++ [u]) ≥ 0
      · rw [if_pos h0]
        have := ih (p ++ [u]) (fnd L (p ++ [u])) (p.length + 1) j hpj ⟨by omega, fun h => by omega, fun _ => ⟨by rw [List.take_of_length_le (by omega)], h0⟩, fun m' h1 h2 => by omega⟩
        rw [hlen] at this
        exact this
      · rw [if_neg h0]
        have := ih (p ++ [u]) k n j hpj ⟨by omega, a2, fun h => by rw [List.take_append_of_le_length a1]; exact a3 h, fun m' h1 h2 => by
          rcases Nat.lt_or_ge p.length m' with hl | hl
          · rw [List.take_of_length_le (by omega)]; omega
          · rw [List.take_append_of_le_length hl]; exact a4 m' h1 hl⟩
        rw [hlen] at this
        exact this
theorem lon_is {L : List Rl} {N : List Nd} (hF : Fits (paths L) N) (hRF : RF (fnd L) (paths L) N) (hρ : ∀ q, q ∉ paths L → fnd L q = -1) (us : List Int) :
    Pre L us (lon N (paths L) us).1 (lon N (paths L) us).2.1 ∧ ((lon N (paths L) us).2.2 = true ↔ ∃ r ∈ L, us.length < r.1.length ∧ us <+: r.1) := by
  have := lonF_is hF hRF hρ us [] (-1) 0 0 hF.root ⟨Nat.le_refl _, fun _ => rfl, fun h => by omega, fun m h1 h2 => by simp at h2; omega⟩
  rw [List.nil_append, paths_more] at this
  exact this
/-- The document's loop. -/
def docF (us : List Int) : List Rl → Nat → Int → Nat → Bool → Int × Nat × Bool
  | [], _, k, n, o => (k, n, o)
  | r :: L, i, k, n, o =>
    if r.1.length ≤ us.length ∧ r.1 = us.take r.1.length ∧ n < r.1.length then docF us L (i + 1) i r.1.length (o || (decide (us.length < r.1.length) && decide (r.1.take us.length = us)))
    else docF us L (i + 1) k n (o || (decide (us.length < r.1.length) && decide (r.1.take us.length = us)))
theorem pre_take {a b : List Int} : a <+: b ↔ b.take a.length = a := by
  constructor
  · rintro ⟨t, rfl⟩; simp
  · intro h; exact ⟨b.drop a.length, by have := List.take_append_drop a.length b; rw [h] at this; exact this⟩
theorem docF_is {us : List Int} : ∀ (R T : List Rl) (k : Int) (n : Nat) (o : Bool), (∀ j r, (T ++ R)[j]? = some r → fnd ((T ++ R).take j) r.1 < 0) → Pre T us k n → (o = true ↔ ∃ r ∈ T, us.length < r.1.length ∧ us <+: r.1) →
    Pre (T ++ R) us (docF us R T.length k n o).1 (docF us R T.length k n o).2.1 ∧ ((docF us R T.length k n o).2.2 = true ↔ ∃ r ∈ T ++ R, us.length < r.1.length ∧ us <+: r.1)
  | [], T, k, n, o, hR, hp, ho => by
    rw [List.append_nil]
    exact ⟨hp, ho⟩
  | r :: R, T, k, n, o, hR, hp, ho => by
    have happ : T ++ r :: R = T ++ [r] ++ R := by simp
    have hn : fnd T r.1 < 0 := by
      have := hR T.length r (by rw [List.getElem?_append_right (Nat.le_refl _), Nat.sub_self]; rfl)
      rwa [List.take_left] at this
    have hl : (T ++ [r]).length = T.length + 1 := by simp
    obtain ⟨a1, a2, a3, a4⟩ := hp
    have ho' : (o || (decide (us.length < r.1.length) && decide (r.1.take us.length = us))) = true ↔ ∃ x ∈ T ++ [r], us.length < x.1.length ∧ us <+: x.1 := by
      rw [Bool.or_eq_true, Bool.and_eq_true, decide_eq_true_eq, decide_eq_true_eq, ← pre_take, ho]
      constructor
      · rintro (⟨x, h1, h2⟩ | h)
        · exact ⟨x, List.mem_append_left _ h1, h2⟩
        · exact ⟨r, by simp, h⟩
      · rintro ⟨x, h1, h2⟩
        rcases List.mem_append.1 h1 with h1 | h1
        · exact .inl ⟨x, h1, h2⟩
        · simp at h1
          subst h1
          exact .inr h2
    rw [happ] at hR ⊢
    unfold docF
    split
    · rename_i hc
      obtain ⟨c1, c2, c3⟩ := hc
      have := docF_is R (T ++ [r]) T.length r.1.length _ hR ⟨c1, fun h => by omega, fun _ => ⟨by rw [fnd_snoc hn, if_pos c2.symm], by omega⟩, fun m h1 h2 => by
        rw [fnd_snoc hn, if_neg (fun e => by have := congrArg List.length e; rw [List.length_take] at this; omega)]
        exact a4 m (by omega) h2⟩ ho'
      rw [hl] at this
      exact this
    · rename_i hc
      have := docF_is R (T ++ [r]) k n _ hR ⟨a1, a2, fun h => by
        obtain ⟨b1, b2⟩ := a3 h
        rw [fnd_snoc hn, if_neg (fun e => by rw [e] at b1; omega)]
        exact ⟨b1, b2⟩, fun m h1 h2 => by
        rw [fnd_snoc hn, if_neg (fun e => hc (by
          have hm : r.1.length = m := by rw [← e, List.length_take]; omega
          exact ⟨by omega, by rw [hm]; exact e.symm, by omega⟩))]
        exact a4 m h1 h2⟩ ho'
      rw [hl] at this
      exact this
/-- What is read of a trie is what the document says. -/
theorem lon_doc {L : List Rl} {N : List Nd} (hR : Right L) (hF : Fits (paths L) N) (hRF : RF (fnd L) (paths L) N) (hρ : ∀ q, q ∉ paths L → fnd L q = -1) (us : List Int) : lon N (paths L) us = docF us L 0 (-1) 0 false := by
  obtain ⟨h1, h2⟩ := lon_is hF hRF hρ us
  have h0 : ∀ (q : List Int), fnd [] q = -1 := fun _ => rfl
  obtain ⟨h3, h4⟩ := docF_is (us := us) L [] (-1) 0 false (by simpa using hR.2) ⟨Nat.zero_le _, fun _ => rfl, fun h => by omega, fun m _ _ => by rw [h0]; decide⟩ (by simp)
  rw [List.nil_append] at h3 h4
  obtain ⟨e1, e2⟩ := h1.uniq h3
  have e3 : (lon N (paths L) us).2.2 = (docF us L 0 (-1) 0 false).2.2 := by
    rw [Bool.eq_iff_iff]
    exact h2.trans h4.symm
  exact Prod.ext e1 (Prod.ext e2 e3)
end Go.Proofs.Ytjicdpkgcofiaaa

/-! A trie in memory, read: what is out of range; its size; the Outs. -/
set_option linter.unusedSimpArgs false
set_option linter.unusedVariables false
namespace Go.Proofs.Ytjicdpkgcofiaaa
open Go Lon
theorem c_Size {t : Nat} {N : List Nd} {vr : Value} {H : AHeap} (hr : TrieAt H t N vr) : cw Try.prog (tabF tab) om1 18 [.pointer (some ⟨t, 0, none⟩)] H = some (.int .i64 N.length, H) := by
  obtain ⟨vn, hr⟩ := hr.rd
  rw [cw_run (F := F_trie_Trie__Size) rfl rfl rfl]
  unfold F_trie_Trie__Size k_trie_Trie__Size
  have hl := hr.len H
  have hn := hr.nodes
  simp only [w_draw, dr_cons, dr_some, dr_none, dr_go, still_no, still_yes, next_no, next_yes, last_cons, last_nil, isStore, calm_no, calm_nil, calm_cons, calmB_some, isCall, freshI, dr_nil, dr_end, still_nil, still_cons, stillB_some, stamp_some, stampV_ptr, stampV_tuple, stampO, still_here, still_here0, List.nil_append, w_out, w_gives, fin_ret, fin_normal, ress_nil, ress_tmp, pack_one, pack_nil, pack_two, entry_nil, entry_one, entry_two, entry_three, entry_four, eq_skip, eq_exit, eq_ret, w_rows, w_done, w_seq, w_normal, w_ret, w_exit, w_cond, w_true, w_false, eq_block, block_normal, block_ret, block_exit, rows_nil, rows_cons, on_some, on_none, row_plain, row_guard, guard_tt, guard_ff, guard_tf, guard_ft, guard_no, ev_tmp, ev_int, ev_bool, ev_string, ev_slice, ev_pointer, ev_map, ev_float, ev_complex, ev_nilIface, ev_nilFunc, ev_func, eget_cons, eget_nil, st_mv, st_pick, v_pick_t, v_pick_f, st_ext, v_ext0, v_ext1, v_ext2, v_ext3, st_int, v_int, int_add, int_sub, int_mul, int_eql, int_neq, int_lss, int_leq, int_gtr, int_geq, st_beq, v_beq, v_bne, st_not, v_not, st_conv, v_conv, st_faddr, v_faddr, st_iaddr, v_iaddr, st_aaddr, v_aaddr, st_nilChk, v_nil, st_len, v_len, v_lenS, st_load, v_load, got_one, got_row, mem_tip, mem_ro, mem_ret, st_alloc, st_box, st_store, v_store, got_store, cells_agg, cells_int, cells_bool, cells_slice, cells_pointer, cells_string, cells_complex, cells_func, one_int, one_bool, one_slice, one_pointer, one_string, one_complex, one_func, upd_push, get_push_self, AHeap.n_push, AHeap.n_upd, st_build, parts_nil, parts_cons, st_bslice, st_append, st_mkfun, st_mkface, st_isNil, st_max, v_max, st_min, v_min, st_field, st_index, st_slice0, v_slice0, v_slice0n, st_slice, kill_nil, st_call, v_call, forget_nil, forget_cons, Option.map_some, Option.map_none, Option.bind_some, List.map_cons, List.map_nil, if_true, if_false, Nat.reduceEqDiff, Int.reduceEq, Nat.reduceAdd, Nat.reduceMul, Bool.not_true, Bool.not_false, reduceCtorEq, decide_true, decide_false, Int.cast_ofNat_Int, eq_self, Int.reduceLT, Int.reduceLE, Int.reduceToNat, Int.toNat_natCast, Int.le_refl, Nat.le_refl, Nat.zero_add, Nat.add_zero, Nat.zero_mul, Nat.mul_one, Nat.mul_zero, and_self, and_true, true_and, List.length_cons, List.length_nil, List.all_cons, List.all_nil, Bool.and_self, Bool.and_true, Bool.true_and, List.take_zero, List.nil_append, List.drop_nil, List.append_nil, List.getElem?_cons_zero, List.getElem?_cons_succ, List.drop_succ_cons, List.drop_zero, List.take_succ_cons, List.cons_append, Nat.reduceLeDiff, hn, hl]
theorem c_RuleNo {t : Nat} {N : List Nd} {vr : Value} {a : Int} {H : AHeap} (hr : TrieAt H t N vr) (ha : a < 0 ∨ a ≥ N.length) : cw Try.prog (tabF tab) om1 21 [.pointer (some ⟨t, 0, none⟩), .int .i64 a] H = some (.int .i64 (-1), H) := by
  obtain ⟨vn, hr⟩ := hr.rd
  rw [cw_run (F := F_trie_Trie__Rule) rfl rfl rfl]
  unfold F_trie_Trie__Rule k_trie_Trie__Rule
  have hl := hr.len H
  have hn := hr.nodes
  by_cases h1 : a < 0
  · simp only [w_draw, dr_cons, dr_some, dr_none, dr_go, still_no, still_yes, next_no, next_yes, last_cons, last_nil, isStore, calm_no, calm_nil, calm_cons, calmB_some, isCall, freshI, dr_nil, dr_end, still_nil, still_cons, stillB_some, stamp_some, stampV_ptr, stampV_tuple, stampO, still_here, still_here0, List.nil_append, w_out, w_gives, fin_ret, fin_normal, ress_nil, ress_tmp, pack_one, pack_nil, pack_two, entry_nil, entry_one, entry_two, entry_three, entry_four, eq_skip, eq_exit, eq_ret, w_rows, w_done, w_seq, w_normal, w_ret, w_exit, w_cond, w_true, w_false, eq_block, block_normal, block_ret, block_exit, rows_nil, rows_cons, on_some, on_none, row_plain, row_guard, guard_tt, guard_ff, guard_tf, guard_ft, guard_no, ev_tmp, ev_int, ev_bool, ev_string, ev_slice, ev_pointer, ev_map, ev_float, ev_complex, ev_nilIface, ev_nilFunc, ev_func, eget_cons, eget_nil, st_mv, st_pick, v_pick_t, v_pick_f, st_ext, v_ext0, v_ext1, v_ext2, v_ext3, st_int, v_int, int_add, int_sub, int_mul, int_eql, int_neq, int_lss, int_leq, int_gtr, int_geq, st_beq, v_beq, v_bne, st_not, v_not, st_conv, v_conv, st_faddr, v_faddr, st_iaddr, v_iaddr, st_aaddr, v_aaddr, st_nilChk, v_nil, st_len, v_len, v_lenS, st_load, v_load, got_one, got_row, mem_tip, mem_ro, mem_ret, st_alloc, st_box, st_store, v_store, got_store, cells_agg, cells_int, cells_bool, cells_slice, cells_pointer, cells_string, cells_complex, cells_func, one_int, one_bool, one_slice, one_pointer, one_string, one_complex, one_func, upd_push, get_push_self, AHeap.n_push, AHeap.n_upd, st_build, parts_nil, parts_cons, st_bslice, st_append, st_mkfun, st_mkface, st_isNil, st_max, v_max, st_min, v_min, st_field, st_index, st_slice0, v_slice0, v_slice0n, st_slice, kill_nil, st_call, v_call, forget_nil, forget_cons, Option.map_some, Option.map_none, Option.bind_some, List.map_cons, List.map_nil, if_true, if_false, Nat.reduceEqDiff, Int.reduceEq, Nat.reduceAdd, Nat.reduceMul, Bool.not_true, Bool.not_false, reduceCtorEq, decide_true, decide_false, Int.cast_ofNat_Int, eq_self, Int.reduceLT, Int.reduceLE, Int.reduceToNat, Int.toNat_natCast, Int.le_refl, Nat.le_refl, Nat.zero_add, Nat.add_zero, Nat.zero_mul, Nat.mul_one, Nat.mul_zero, and_self, and_true, true_and, List.length_cons, List.length_nil, List.all_cons, List.all_nil, Bool.and_self, Bool.and_true, Bool.true_and, List.take_zero, List.nil_append, List.drop_nil, List.append_nil, List.getElem?_cons_zero, List.getElem?_cons_succ, List.drop_succ_cons, List.drop_zero, List.take_succ_cons, List.cons_append, Nat.reduceLeDiff, h1]
  · have h2 : a ≥ (N.length : Int) := by omega
    simp only [w_draw, dr_cons, dr_some, dr_none, dr_go, still_no, still_yes, next_no, next_yes, last_cons, last_nil, isStore, calm_no, calm_nil, calm_cons, calmB_some, isCall, freshI, dr_nil, dr_end, still_nil, still_cons, stillB_some, stamp_some, stampV_ptr, stampV_tuple, stampO, still_here, still_here0, List.nil_append, w_out, w_gives, fin_ret, fin_normal, ress_nil, ress_tmp, pack_one, pack_nil, pack_two, entry_nil, entry_one, entry_two, entry_three, entry_four, eq_skip, eq_exit, eq_ret, w_rows, w_done, w_seq, w_normal, w_ret, w_exit, w_cond, w_true, w_false, eq_block, block_normal, block_ret, block_exit, rows_nil, rows_cons, on_some, on_none, row_plain, row_guard, guard_tt, guard_ff, guard_tf, guard_ft, guard_no, ev_tmp, ev_int, ev_bool, ev_string, ev_slice, ev_pointer, ev_map, ev_float, ev_complex, ev_nilIface, ev_nilFunc, ev_func, eget_cons, eget_nil, st_mv, st_pick, v_pick_t, v_pick_f, st_ext, v_ext0, v_ext1, v_ext2, v_ext3, st_int, v_int, int_add, int_sub, int_mul, int_eql, int_neq, int_lss, int_leq, int_gtr, int_geq, st_beq, v_beq, v_bne, st_not, v_not, st_conv, v_conv, st_faddr, v_faddr, st_iaddr, v_iaddr, st_aaddr, v_aaddr, st_nilChk, v_nil, st_len, v_len, v_lenS, st_load, v_load, got_one, got_row, mem_tip, mem_ro, mem_ret, st_alloc, st_box, st_store, v_store, got_store, cells_agg, cells_int, cells_bool, cells_slice, cells_pointer, cells_string, cells_complex, cells_func, one_int, one_bool, one_slice, one_pointer, one_string, one_complex, one_func, upd_push, get_push_self, AHeap.n_push, AHeap.n_upd, st_build, parts_nil, parts_cons, st_bslice, st_append, st_mkfun, st_mkface, st_isNil, st_max, v_max, st_min, v_min, st_field, st_index, st_slice0, v_slice0, v_slice0n, st_slice, kill_nil, st_call, v_call, forget_nil, forget_cons, Option.map_some, Option.map_none, Option.bind_some, List.map_cons, List.map_nil, if_true, if_false, Nat.reduceEqDiff, Int.reduceEq, Nat.reduceAdd, Nat.reduceMul, Bool.not_true, Bool.not_false, reduceCtorEq, decide_true, decide_false, Int.cast_ofNat_Int, eq_self, Int.reduceLT, Int.reduceLE, Int.reduceToNat, Int.toNat_natCast, Int.le_refl, Nat.le_refl, Nat.zero_add, Nat.add_zero, Nat.zero_mul, Nat.mul_one, Nat.mul_zero, and_self, and_true, true_and, List.length_cons, List.length_nil, List.all_cons, List.all_nil, Bool.and_self, Bool.and_true, Bool.true_and, List.take_zero, List.nil_append, List.drop_nil, List.append_nil, List.getElem?_cons_zero, List.getElem?_cons_succ, List.drop_succ_cons, List.drop_zero, List.take_succ_cons, List.cons_append, Nat.reduceLeDiff, h1, hn, hl, h2]
theorem c_LeafNo {t : Nat} {N : List Nd} {vr : Value} {a : Int} {H : AHeap} (hr : TrieAt H t N vr) (ha : a < 0 ∨ a ≥ N.length) : cw Try.prog (tabF tab) om1 20 [.pointer (some ⟨t, 0, none⟩), .int .i64 a] H = some (.bool true, H) := by
  obtain ⟨vn, hr⟩ := hr.rd
  rw [cw_run (F := F_trie_Trie__Leaf) rfl rfl rfl]
  unfold F_trie_Trie__Leaf k_trie_Trie__Leaf
  have hl := hr.len H
  have hn := hr.nodes
  by_cases h1 : a < 0
  · simp only [w_draw, dr_cons, dr_some, dr_none, dr_go, still_no, still_yes, next_no, next_yes, last_cons, last_nil, isStore, calm_no, calm_nil, calm_cons, calmB_some, isCall, freshI, dr_nil, dr_end, still_nil, still_cons, stillB_some, stamp_some, stampV_ptr, stampV_tuple, stampO, still_here, still_here0, List.nil_append, w_out, w_gives, fin_ret, fin_normal, ress_nil, ress_tmp, pack_one, pack_nil, pack_two, entry_nil, entry_one, entry_two, entry_three, entry_four, eq_skip, eq_exit, eq_ret, w_rows, w_done, w_seq, w_normal, w_ret, w_exit, w_cond, w_true, w_false, eq_block, block_normal, block_ret, block_exit, rows_nil, rows_cons, on_some, on_none, row_plain, row_guard, guard_tt, guard_ff, guard_tf, guard_ft, guard_no, ev_tmp, ev_int, ev_bool, ev_string, ev_slice, ev_pointer, ev_map, ev_float, ev_complex, ev_nilIface, ev_nilFunc, ev_func, eget_cons, eget_nil, st_mv, st_pick, v_pick_t, v_pick_f, st_ext, v_ext0, v_ext1, v_ext2, v_ext3, st_int, v_int, int_add, int_sub, int_mul, int_eql, int_neq, int_lss, int_leq, int_gtr, int_geq, st_beq, v_beq, v_bne, st_not, v_not, st_conv, v_conv, st_faddr, v_faddr, st_iaddr, v_iaddr, st_aaddr, v_aaddr, st_nilChk, v_nil, st_len, v_len, v_lenS, st_load, v_load, got_one, got_row, mem_tip, mem_ro, mem_ret, st_alloc, st_box, st_store, v_store, got_store, cells_agg, cells_int, cells_bool, cells_slice, cells_pointer, cells_string, cells_complex, cells_func, one_int, one_bool, one_slice, one_pointer, one_string, one_complex, one_func, upd_push, get_push_self, AHeap.n_push, AHeap.n_upd, st_build, parts_nil, parts_cons, st_bslice, st_append, st_mkfun, st_mkface, st_isNil, st_max, v_max, st_min, v_min, st_field, st_index, st_slice0, v_slice0, v_slice0n, st_slice, kill_nil, st_call, v_call, forget_nil, forget_cons, Option.map_some, Option.map_none, Option.bind_some, List.map_cons, List.map_nil, if_true, if_false, Nat.reduceEqDiff, Int.reduceEq, Nat.reduceAdd, Nat.reduceMul, Bool.not_true, Bool.not_false, reduceCtorEq, decide_true, decide_false, Int.cast_ofNat_Int, eq_self, Int.reduceLT, Int.reduceLE, Int.reduceToNat, Int.toNat_natCast, Int.le_refl, Nat.le_refl, Nat.zero_add, Nat.add_zero, Nat.zero_mul, Nat.mul_one, Nat.mul_zero, and_self, and_true, true_and, List.length_cons, List.length_nil, List.all_cons, List.all_nil, Bool.and_self, Bool.and_true, Bool.true_and, List.take_zero, List.nil_append, List.drop_nil, List.append_nil, List.getElem?_cons_zero, List.getElem?_cons_succ, List.drop_succ_cons, List.drop_zero, List.take_succ_cons, List.cons_append, Nat.reduceLeDiff, h1]
  · have h2 : a ≥ (N.length : Int) := by omega
    simp only [w_draw, dr_cons, dr_some, dr_none, dr_go, still_no, still_yes, next_no, next_yes, last_cons, last_nil, isStore, calm_no, calm_nil, calm_cons, calmB_some, isCall, freshI, dr_nil, dr_end, still_nil, still_cons, stillB_some, stamp_some, stampV_ptr, stampV_tuple, stampO, still_here, still_here0, List.nil_append, w_out, w_gives, fin_ret, fin_normal, ress_nil, ress_tmp, pack_one, pack_nil, pack_two, entry_nil, entry_one, entry_two, entry_three, entry_four, eq_skip, eq_exit, eq_ret, w_rows, w_done, w_seq, w_normal, w_ret, w_exit, w_cond, w_true, w_false, eq_block, block_normal, block_ret, block_exit, rows_nil, rows_cons, on_some, on_none, row_plain, row_guard, guard_tt, guard_ff, guard_tf, guard_ft, guard_no, ev_tmp, ev_int, ev_bool, ev_string, ev_slice, ev_pointer, ev_map, ev_float, ev_complex, ev_nilIface, ev_nilFunc, ev_func, eget_cons, eget_nil, st_mv, st_pick, v_pick_t, v_pick_f, st_ext, v_ext0, v_ext1, v_ext2, v_ext3, st_int, v_int, int_add, int_sub, int_mul, int_eql, int_neq, int_lss, int_leq, int_gtr, int_geq, st_beq, v_beq, v_bne, st_not, v_not, st_conv, v_conv, st_faddr, v_faddr, st_iaddr, v_iaddr, st_aaddr, v_aaddr, st_nilChk, v_nil, st_len, v_len, v_lenS, st_load, v_load, got_one, got_row, mem_tip, mem_ro, mem_ret, st_alloc, st_box, st_store, v_store, got_store, cells_agg, cells_int, cells_bool, cells_slice, cells_pointer, cells_string, cells_complex, cells_func, one_int, one_bool, one_slice, one_pointer, one_string, one_complex, one_func, upd_push, get_push_self, AHeap.n_push, AHeap.n_upd, st_build, parts_nil, parts_cons, st_bslice, st_append, st_mkfun, st_mkface, st_isNil, st_max, v_max, st_min, v_min, st_field, st_index, st_slice0, v_slice0, v_slice0n, st_slice, kill_nil, st_call, v_call, forget_nil, forget_cons, Option.map_some, Option.map_none, Option.bind_some, List.map_cons, List.map_nil, if_true, if_false, Nat.reduceEqDiff, Int.reduceEq, Nat.reduceAdd, Nat.reduceMul, Bool.not_true, Bool.not_false, reduceCtorEq, decide_true, decide_false, Int.cast_ofNat_Int, eq_self, Int.reduceLT, Int.reduceLE, Int.reduceToNat, Int.toNat_natCast, Int.le_refl, Nat.le_refl, Nat.zero_add, Nat.add_zero, Nat.zero_mul, Nat.mul_one, Nat.mul_zero, and_self, and_true, true_and, List.length_cons, List.length_nil, List.all_cons, List.all_nil, Bool.and_self, Bool.and_true, Bool.true_and, List.take_zero, List.nil_append, List.drop_nil, List.append_nil, List.getElem?_cons_zero, List.getElem?_cons_succ, List.drop_succ_cons, List.drop_zero, List.take_succ_cons, List.cons_append, Nat.reduceLeDiff, h1, hn, hl, h2]
theorem app_nil2 {H : AHeap} {x : Value} {l : List Int} {el : TypeId} (hx : Ints H x l) (hb : l.length * 8 ≤ 140737488355328) :
    ∃ v H', appendA H (.slice none 0 0) x el 1 8 = some (v, H') ∧ Ext H H' ∧ Ints H' v l ∧ From H.n v := by
  by_cases hl : 0 < l.length
  · obtain ⟨c, h⟩ := app_new (el := el) hx hb hl
    exact ⟨_, _, h, Ext.push _ _, Sl.new get_push_self mem_tip (by simp [ints]), Nat.le_refl _⟩
  · have h0 : l.length = 0 := by omega
    have h1 : l = [] := List.length_eq_zero_iff.1 h0
    subst h1
    refine ⟨.slice none 0 0, H, ?_, Ext.refl _, Sl.nil H 1, trivial⟩
    obtain ⟨⟨a, c, rfl⟩, hc⟩ := hx
    have h2 : cellsOf H 1 (.slice none 0 0) = some [] := rfl
    unfold appendA
    simp only [h2, hc]
    exact if_pos List.length_nil
/-- A rule's Out, as the trie holds it. -/
theorem c_Out {t i : Nat} {N : List Nd} {vr : Value} {O : List (List Int)} {o : List Int} {H : AHeap} (hr : TrieAt H t N vr) (hO : Rules H vr (O.map fun o => ([], o))) (ho : O[i]? = some o) (hb : o.length * 8 ≤ 140737488355328) :
    Gives (cw Try.prog (tabF tab) om1 22 [.pointer (some ⟨t, 0, none⟩), .int .i64 (i : Int)] H) fun v H' => Ext H H' ∧ Ints H' v o ∧ From H.n v := by
  obtain ⟨vn, hr⟩ := hr.rd
  rw [cw_run (F := F_trie_Trie__Out) rfl rfl rfl]
  unfold F_trie_Trie__Out k_trie_Trie__Out
  have hl := hO.len (H2 := H)
  rw [List.length_map] at hl
  have hk := (List.getElem?_eq_some_iff.1 ho).1
  have hn := hr.rules
  have hn' := hr.rules'
  have h1 : ¬ (i : Int) < 0 := by omega
  have h2 : ¬ (i : Int) ≥ (O.length : Int) := by omega
  obtain ⟨i1, o1, vi, vo, a1, a2, a3, a4, a5, a6, _⟩ := hO.at (show (O.map fun o => (([], o) : Rl))[i]? = some ([], o) by rw [List.getElem?_map, ho]; rfl)
  obtain ⟨v, H', g1, g2, g3, g4⟩ := app_nil2 (el := 3) a6 hb
  simp only [w_draw, dr_cons, dr_some, dr_none, dr_go, still_no, still_yes, next_no, next_yes, last_cons, last_nil, isStore, calm_no, calm_nil, calm_cons, calmB_some, isCall, freshI, dr_nil, dr_end, still_nil, still_cons, stillB_some, stamp_some, stampV_ptr, stampV_tuple, stampO, still_here, still_here0, List.nil_append, w_out, w_gives, fin_ret, fin_normal, ress_nil, ress_tmp, pack_one, pack_nil, pack_two, entry_nil, entry_one, entry_two, entry_three, entry_four, eq_skip, eq_exit, eq_ret, w_rows, w_done, w_seq, w_normal, w_ret, w_exit, w_cond, w_true, w_false, eq_block, block_normal, block_ret, block_exit, rows_nil, rows_cons, on_some, on_none, row_plain, row_guard, guard_tt, guard_ff, guard_tf, guard_ft, guard_no, ev_tmp, ev_int, ev_bool, ev_string, ev_slice, ev_pointer, ev_map, ev_float, ev_complex, ev_nilIface, ev_nilFunc, ev_func, eget_cons, eget_nil, st_mv, st_pick, v_pick_t, v_pick_f, st_ext, v_ext0, v_ext1, v_ext2, v_ext3, st_int, v_int, int_add, int_sub, int_mul, int_eql, int_neq, int_lss, int_leq, int_gtr, int_geq, st_beq, v_beq, v_bne, st_not, v_not, st_conv, v_conv, st_faddr, v_faddr, st_iaddr, v_iaddr, st_aaddr, v_aaddr, st_nilChk, v_nil, st_len, v_len, v_lenS, st_load, v_load, got_one, got_row, mem_tip, mem_ro, mem_ret, st_alloc, st_box, st_store, v_store, got_store, cells_agg, cells_int, cells_bool, cells_slice, cells_pointer, cells_string, cells_complex, cells_func, one_int, one_bool, one_slice, one_pointer, one_string, one_complex, one_func, upd_push, get_push_self, AHeap.n_push, AHeap.n_upd, st_build, parts_nil, parts_cons, st_bslice, st_append, st_mkfun, st_mkface, st_isNil, st_max, v_max, st_min, v_min, st_field, st_index, st_slice0, v_slice0, v_slice0n, st_slice, kill_nil, st_call, v_call, forget_nil, forget_cons, Option.map_some, Option.map_none, Option.bind_some, List.map_cons, List.map_nil, if_true, if_false, Nat.reduceEqDiff, Int.reduceEq, Nat.reduceAdd, Nat.reduceMul, Bool.not_true, Bool.not_false, reduceCtorEq, decide_true, decide_false, Int.cast_ofNat_Int, eq_self, Int.reduceLT, Int.reduceLE, Int.reduceToNat, Int.toNat_natCast, Int.le_refl, Nat.le_refl, Nat.zero_add, Nat.add_zero, Nat.zero_mul, Nat.mul_one, Nat.mul_zero, and_self, and_true, true_and, List.length_cons, List.length_nil, List.all_cons, List.all_nil, Bool.and_self, Bool.and_true, Bool.true_and, List.take_zero, List.nil_append, List.drop_nil, List.append_nil, List.getElem?_cons_zero, List.getElem?_cons_succ, List.drop_succ_cons, List.drop_zero, List.take_succ_cons, List.cons_append, Nat.reduceLeDiff, h1, hn, hn', hl, h2, a1, a3, g1]
  exact ⟨g2, g3, g4⟩
theorem c_OutNo {t : Nat} {N : List Nd} {vr : Value} {O : List (List Int)} {a : Int} {H : AHeap} (hr : TrieAt H t N vr) (hO : Rules H vr (O.map fun o => ([], o))) (ha : a < 0 ∨ a ≥ O.length) :
    cw Try.prog (tabF tab) om1 22 [.pointer (some ⟨t, 0, none⟩), .int .i64 a] H = some (.slice none 0 0, H) := by
  obtain ⟨vn, hr⟩ := hr.rd
  rw [cw_run (F := F_trie_Trie__Out) rfl rfl rfl]
  unfold F_trie_Trie__Out k_trie_Trie__Out
  have hl := hO.len (H2 := H)
  rw [List.length_map] at hl
  have hn := hr.rules
  have hn' := hr.rules'
  by_cases h1 : a < 0
  · simp only [w_draw, dr_cons, dr_some, dr_none, dr_go, still_no, still_yes, next_no, next_yes, last_cons, last_nil, isStore, calm_no, calm_nil, calm_cons, calmB_some, isCall, freshI, dr_nil, dr_end, still_nil, still_cons, stillB_some, stamp_some, stampV_ptr, stampV_tuple, stampO, still_here, still_here0, List.nil_append, w_out, w_gives, fin_ret, fin_normal, ress_nil, ress_tmp, pack_one, pack_nil, pack_two, entry_nil, entry_one, entry_two, entry_three, entry_four, eq_skip, eq_exit, eq_ret, w_rows, w_done, w_seq, w_normal, w_ret, w_exit, w_cond, w_true, w_false, eq_block, block_normal, block_ret, block_exit, rows_nil, rows_cons, on_some, on_none, row_plain, row_guard, guard_tt, guard_ff, guard_tf, guard_ft, guard_no, ev_tmp, ev_int, ev_bool, ev_string, ev_slice, ev_pointer, ev_map, ev_float, ev_complex, ev_nilIface, ev_nilFunc, ev_func, eget_cons, eget_nil, st_mv, st_pick, v_pick_t, v_pick_f, st_ext, v_ext0, v_ext1, v_ext2, v_ext3, st_int, v_int, int_add, int_sub, int_mul, int_eql, int_neq, int_lss, int_leq, int_gtr, int_geq, st_beq, v_beq, v_bne, st_not, v_not, st_conv, v_conv, st_faddr, v_faddr, st_iaddr, v_iaddr, st_aaddr, v_aaddr, st_nilChk, v_nil, st_len, v_len, v_lenS, st_load, v_load, got_one, got_row, mem_tip, mem_ro, mem_ret, st_alloc, st_box, st_store, v_store, got_store, cells_agg, cells_int, cells_bool, cells_slice, cells_pointer, cells_string, cells_complex, cells_func, one_int, one_bool, one_slice, one_pointer, one_string, one_complex, one_func, upd_push, get_push_self, AHeap.n_push, AHeap.n_upd, st_build, parts_nil, parts_cons, st_bslice, st_append, st_mkfun, st_mkface, st_isNil, st_max, v_max, st_min, v_min, st_field, st_index, st_slice0, v_slice0, v_slice0n, st_slice, kill_nil, st_call, v_call, forget_nil, forget_cons, Option.map_some, Option.map_none, Option.bind_some, List.map_cons, List.map_nil, if_true, if_false, Nat.reduceEqDiff, Int.reduceEq, Nat.reduceAdd, Nat.reduceMul, Bool.not_true, Bool.not_false, reduceCtorEq, decide_true, decide_false, Int.cast_ofNat_Int, eq_self, Int.reduceLT, Int.reduceLE, Int.reduceToNat, Int.toNat_natCast, Int.le_refl, Nat.le_refl, Nat.zero_add, Nat.add_zero, Nat.zero_mul, Nat.mul_one, Nat.mul_zero, and_self, and_true, true_and, List.length_cons, List.length_nil, List.all_cons, List.all_nil, Bool.and_self, Bool.and_true, Bool.true_and, List.take_zero, List.nil_append, List.drop_nil, List.append_nil, List.getElem?_cons_zero, List.getElem?_cons_succ, List.drop_succ_cons, List.drop_zero, List.take_succ_cons, List.cons_append, Nat.reduceLeDiff, h1]
  · have h2 : a ≥ (O.length : Int) := by omega
    simp only [w_draw, dr_cons, dr_some, dr_none, dr_go, still_no, still_yes, next_no, next_yes, last_cons, last_nil, isStore, calm_no, calm_nil, calm_cons, calmB_some, isCall, freshI, dr_nil, dr_end, still_nil, still_cons, stillB_some, stamp_some, stampV_ptr, stampV_tuple, stampO, still_here, still_here0, List.nil_append, w_out, w_gives, fin_ret, fin_normal, ress_nil, ress_tmp, pack_one, pack_nil, pack_two, entry_nil, entry_one, entry_two, entry_three, entry_four, eq_skip, eq_exit, eq_ret, w_rows, w_done, w_seq, w_normal, w_ret, w_exit, w_cond, w_true, w_false, eq_block, block_normal, block_ret, block_exit, rows_nil, rows_cons, on_some, on_none, row_plain, row_guard, guard_tt, guard_ff, guard_tf, guard_ft, guard_no, ev_tmp, ev_int, ev_bool, ev_string, ev_slice, ev_pointer, ev_map, ev_float, ev_complex, ev_nilIface, ev_nilFunc, ev_func, eget_cons, eget_nil, st_mv, st_pick, v_pick_t, v_pick_f, st_ext, v_ext0, v_ext1, v_ext2, v_ext3, st_int, v_int, int_add, int_sub, int_mul, int_eql, int_neq, int_lss, int_leq, int_gtr, int_geq, st_beq, v_beq, v_bne, st_not, v_not, st_conv, v_conv, st_faddr, v_faddr, st_iaddr, v_iaddr, st_aaddr, v_aaddr, st_nilChk, v_nil, st_len, v_len, v_lenS, st_load, v_load, got_one, got_row, mem_tip, mem_ro, mem_ret, st_alloc, st_box, st_store, v_store, got_store, cells_agg, cells_int, cells_bool, cells_slice, cells_pointer, cells_string, cells_complex, cells_func, one_int, one_bool, one_slice, one_pointer, one_string, one_complex, one_func, upd_push, get_push_self, AHeap.n_push, AHeap.n_upd, st_build, parts_nil, parts_cons, st_bslice, st_append, st_mkfun, st_mkface, st_isNil, st_max, v_max, st_min, v_min, st_field, st_index, st_slice0, v_slice0, v_slice0n, st_slice, kill_nil, st_call, v_call, forget_nil, forget_cons, Option.map_some, Option.map_none, Option.bind_some, List.map_cons, List.map_nil, if_true, if_false, Nat.reduceEqDiff, Int.reduceEq, Nat.reduceAdd, Nat.reduceMul, Bool.not_true, Bool.not_false, reduceCtorEq, decide_true, decide_false, Int.cast_ofNat_Int, eq_self, Int.reduceLT, Int.reduceLE, Int.reduceToNat, Int.toNat_natCast, Int.le_refl, Nat.le_refl, Nat.zero_add, Nat.add_zero, Nat.zero_mul, Nat.mul_one, Nat.mul_zero, and_self, and_true, true_and, List.length_cons, List.length_nil, List.all_cons, List.all_nil, Bool.and_self, Bool.and_true, Bool.true_and, List.take_zero, List.nil_append, List.drop_nil, List.append_nil, List.getElem?_cons_zero, List.getElem?_cons_succ, List.drop_succ_cons, List.drop_zero, List.take_succ_cons, List.cons_append, Nat.reduceLeDiff, h1, hn, hn', hl, h2]
end Go.Proofs.Ytjicdpkgcofiaaa

/-! Layer 4: leaves. -/
set_option linter.unusedSimpArgs false
set_option linter.unusedVariables false
namespace Go.Proofs.Ytjicdpkgcofiaaa
open Go Lon
set_option maxRecDepth 100000
theorem v_nilp {H : AHeap} {t : Nat} : vIsNil 0 false (.pointer (some ⟨t, 0, none⟩)) H = some (.bool false, H) := rfl
theorem v_row1 {H : AHeap} {el : TypeId} {x1 x2 x3 x4 x5 : Value} : vBslice el 1 5 [.slice none 0 0, .slice none 0 0, .bool false, .slice none 0 0, .slice none 0 0] [(0, 5, .agg ⟨[x1, x2, x3, x4, x5]⟩)] H = some (.slice (some ⟨H.n, 0, none⟩) 1 2, H.push ⟨[x1, x2, x3, x4, x5], el, .tip, 0, []⟩) := rfl
def off (r : RowD) : RowD := (r.1, (r.2.1, (false, r.2.2.2)))
def Few (H : AHeap) (v : Value) (R : List RowD) : Prop := ∃ cells, Own H 46 5 v R.length cells ∧ ∀ (k : Nat) (r : RowD), R[k]? = some r → RowAt H ((cells.drop (k * 5)).take 5) r
theorem Few.nil (H : AHeap) : Few H (.slice none 0 0) [] := ⟨[], ⟨rfl, .inl ⟨rfl, rfl⟩⟩, fun k r h => by simp at h⟩
theorem Few.ext {H H' : AHeap} (hx : Ext H H') {v : Value} {R : List RowD} (h : Few H v R) : Few H' v R := by
  obtain ⟨cells, h1, h2⟩ := h
  exact ⟨cells, h1.ext hx, fun k r hr => (h2 k r hr).ext hx⟩
theorem Few.push {H : AHeap} {v : Value} {R : List RowD} {r : RowD} {cs : List Value} (h : Few H v R) (hr : RowAt H cs r) (hb : (R.length + 1) * 104 ≤ 140737488355328) :
    ∃ v' H', appendA (H.push ⟨cs, 46, .tip, 0, []⟩) v (.slice (some ⟨H.n, 0, none⟩) 1 2) 46 5 104 = some (v', H') ∧ Few H' v' (R ++ [r]) ∧ From H.n v' ∧ H.n ≤ H'.n ∧ (∀ i, i < H.n → NotAt v i → H'.get i = H.get i) := by
  obtain ⟨cells, h1, h2⟩ := h
  have hx1 := Ext.push H ⟨cs, 46, .tip, 0, []⟩
  have hr' := hr
  obtain ⟨vi, vo, wi, wo, h0, ⟨f1, f2⟩, ⟨f3, f4⟩, ⟨f5, f6⟩, ⟨f7, f8⟩⟩ := hr'
  have hcl : cs.length = 5 := by rw [h0]; rfl
  have hone : cs.all one = true := by
    obtain ⟨⟨a, c, rfl⟩, _⟩ := f1
    obtain ⟨⟨a, c, rfl⟩, _⟩ := f3
    obtain ⟨⟨a, c, rfl⟩, _⟩ := f5
    obtain ⟨⟨a, c, rfl⟩, _⟩ := f7
    rw [h0]
    rfl
  obtain ⟨v', H', q1, q2, q3, q4, q5, q6⟩ := Own.append2 (bytes := 104) (m := 1) (h1.ext hx1) (Sl.new (n := 1) (c := 2) (get_push_self (H := H) (b := ⟨cs, 46, .tip, 0, []⟩)) mem_tip hcl) (by omega) hone hb
  have n1 : (H.push ⟨cs, 46, .tip, 0, []⟩).n = H.n + 1 := by simp
  rw [n1] at q3 q5 q6
  have hl := h1.1
  have hv := appendA_ver q1
  refine ⟨v', H', q1, ⟨cells ++ cs, by rw [List.length_append]; exact q2, fun k x hx => ?_⟩, q3.mono (by omega), by omega, fun i hi hn => by rw [q6 i (by omega) hn, get_push_lt hi]⟩
  rcases Nat.lt_or_ge k R.length with hk | hk
  · rw [List.getElem?_append_left hk] at hx
    have hk5 : k * 5 + 5 ≤ cells.length := by rw [hl]; omega
    rw [List.drop_append_of_le_length (by omega), List.take_append_of_le_length (by rw [List.length_drop]; omega)]
    exact ((h2 k x hx).ext hx1).go q4 hv
  · have hk0 : k = R.length := by
      have := (List.getElem?_eq_some_iff.1 hx).1
      simp at this
      omega
    subst hk0
    simp at hx
    subst hx
    rw [← hl, List.drop_left, List.take_of_length_le (by omega)]
    exact (hr.ext hx1).go q4 hv
theorem l_Lf0 {H0 : AHeap} {a : Value} {R : List RowD} (ha : RowsAt H0 a R) : ∀ (k i : Nat) (H : AHeap) (v : Value), i + k = R.length → Ext H0 H → Few H v ((R.take i).map off) → From H0.n v →
    Out (run Try.prog (tabF tab) om1 (.loop [5, 17, 18, 19] b_lontarlaw04_TrieLeaf_0) [(5, v), (17, a), (18, .int .i64 R.length), (19, .int .i64 i)] H) fun y e' H' => y = .exit 0 ∧ Ext H0 H' ∧ Few H' (eget e' 5) (R.map off) := by
  have hsz : R.length * 104 ≤ 140737488355328 := by obtain ⟨_, _, _, h, _⟩ := ha; exact h
  intro k
  induction k with
  | zero =>
    intro i H v hi hx hv hf
    have hlt : ¬ ((i : Int) < R.length) := by omega
    rw [w_loop_b b_lontarlaw04_TrieLeaf_0.eq_1]
    rw [List.take_of_length_le (by omega)] at hv
    simp only [w_draw, dr_cons, dr_some, dr_none, dr_go, still_no, still_yes, next_no, next_yes, last_cons, last_nil, isStore, calm_no, calm_nil, calm_cons, calmB_some, isCall, freshI, dr_nil, dr_end, still_nil, still_cons, stillB_some, stamp_some, stampV_ptr, stampV_tuple, stampO, still_here, still_here0, List.nil_append, w_out, w_gives, fin_ret, fin_normal, ress_nil, ress_tmp, pack_one, pack_nil, pack_two, entry_nil, entry_one, entry_two, entry_three, entry_four, eq_skip, eq_exit, eq_ret, w_rows, w_done, w_seq, w_normal, w_ret, w_exit, w_cond, w_true, w_false, eq_block, block_normal, block_ret, block_exit, rows_nil, rows_cons, on_some, on_none, row_plain, row_guard, guard_tt, guard_ff, guard_tf, guard_ft, guard_no, ev_tmp, ev_int, ev_bool, ev_string, ev_slice, ev_pointer, ev_map, ev_float, ev_complex, ev_nilIface, ev_nilFunc, ev_func, eget_cons, eget_nil, st_mv, st_pick, v_pick_t, v_pick_f, st_ext, v_ext0, v_ext1, v_ext2, v_ext3, st_int, v_int, int_add, int_sub, int_mul, int_eql, int_neq, int_lss, int_leq, int_gtr, int_geq, st_beq, v_beq, v_bne, st_not, v_not, st_conv, v_conv, st_faddr, v_faddr, st_iaddr, v_iaddr, st_aaddr, v_aaddr, st_nilChk, v_nil, st_len, v_len, v_lenS, st_load, v_load, got_one, got_row, mem_tip, mem_ro, mem_ret, st_alloc, st_box, st_store, v_store, got_store, cells_agg, cells_int, cells_bool, cells_slice, cells_pointer, cells_string, cells_complex, cells_func, one_int, one_bool, one_slice, one_pointer, one_string, one_complex, one_func, upd_push, get_push_self, AHeap.n_push, AHeap.n_upd, st_build, parts_nil, parts_cons, st_bslice, st_append, st_mkfun, st_mkface, st_isNil, st_max, v_max, st_min, v_min, st_field, st_index, st_slice0, v_slice0, v_slice0n, st_slice, kill_nil, st_call, v_call, forget_nil, forget_cons, Option.map_some, Option.map_none, Option.bind_some, List.map_cons, List.map_nil, if_true, if_false, Nat.reduceEqDiff, Int.reduceEq, Nat.reduceAdd, Nat.reduceMul, Bool.not_true, Bool.not_false, reduceCtorEq, decide_true, decide_false, Int.cast_ofNat_Int, eq_self, Int.reduceLT, Int.reduceLE, Int.reduceToNat, Int.toNat_natCast, Int.le_refl, Nat.le_refl, Nat.zero_add, Nat.add_zero, Nat.zero_mul, Nat.mul_one, Nat.mul_zero, and_self, and_true, true_and, List.length_cons, List.length_nil, List.all_cons, List.all_nil, Bool.and_self, Bool.and_true, Bool.true_and, List.take_zero, List.nil_append, List.drop_nil, List.append_nil, List.getElem?_cons_zero, List.getElem?_cons_succ, List.drop_succ_cons, List.drop_zero, List.take_succ_cons, List.cons_append, Nat.reduceLeDiff, hlt]
    exact ⟨hx, hv⟩
  | succ k ih =>
    intro i H v hi hx hv hf
    have hlt : (i : Int) < R.length := by omega
    obtain ⟨r, hr, hdr⟩ := drop_at (L := R) (i := i) (by omega)
    obtain ⟨R1, R2, odd, A1, A2, i1, o1, vi, vo, wi, wo, rfl, h1, h2, f1, f2, f3, f4⟩ := (ha.ext hx).at2 hr
    have f1' := f1.1
    have f2' := f2.1
    have f3' := f3.1
    have f4' := f4.1
    obtain ⟨⟨ai, ci, rfl⟩, _⟩ := f1'
    obtain ⟨⟨ao, co, rfl⟩, _⟩ := f2'
    obtain ⟨⟨bi, qi, rfl⟩, _⟩ := f3'
    obtain ⟨⟨bo, qo, rfl⟩, _⟩ := f4'
    have hw2 : IntKind.i64.wrap ((i : Int) + 1) = ((i + 1 : Nat) : Int) := by rw [wrap64 (by omega) (by omega)]; omega
    have hx1 := Ext.push H ⟨[.slice ai R1.length ci, .slice ao R2.length co, .bool false, .slice bi A1.length qi, .slice bo A2.length qo], 46, .tip, 2, []⟩
    have hrow : RowAt H [.slice ai R1.length ci, .slice ao R2.length co, .bool false, .slice bi A1.length qi, .slice bo A2.length qo] (off (R1, (R2, (odd, ((A1, (A2, ())), ()))))) := ⟨_, _, _, _, rfl, f1, f2, f3, f4⟩
    obtain ⟨v', H2, m1, m2, m3, m4, m5⟩ := (hv.ext hx1).push (hrow.ext hx1) (by rw [List.length_map, List.length_take]; omega)
    have hdone : (R.take i).map off ++ [off (R1, (R2, (odd, ((A1, (A2, ())), ()))))] = (R.take (i + 1)).map off := by rw [List.take_add_one, hr]; simp
    rw [hdone] at m2
    rw [AHeap.n_push] at m1 m3 m4 m5
    have hx2 : Ext H0 H2 := ⟨by have := hx.1; omega, fun j hj => by rw [m5 j (by have := hx.1; omega) (NotAt.of_from hf hj), hx1.2 j (by have := hx.1; omega), hx.2 j hj]⟩
    obtain ⟨y, e', H', r1, r2⟩ := ih (i + 1) H2 v' (by omega) hx2 m2 (m3.mono (by have := hx.1; omega))
    rw [w_loop_b b_lontarlaw04_TrieLeaf_0.eq_1]
    simp only [w_draw, dr_cons, dr_some, dr_none, dr_go, still_no, still_yes, next_no, next_yes, last_cons, last_nil, isStore, calm_no, calm_nil, calm_cons, calmB_some, isCall, freshI, dr_nil, dr_end, still_nil, still_cons, stillB_some, stamp_some, stampV_ptr, stampV_tuple, stampO, still_here, still_here0, List.nil_append, w_out, w_gives, fin_ret, fin_normal, ress_nil, ress_tmp, pack_one, pack_nil, pack_two, entry_nil, entry_one, entry_two, entry_three, entry_four, eq_skip, eq_exit, eq_ret, w_rows, w_done, w_seq, w_normal, w_ret, w_exit, w_cond, w_true, w_false, eq_block, block_normal, block_ret, block_exit, rows_nil, rows_cons, on_some, on_none, row_plain, row_guard, guard_tt, guard_ff, guard_tf, guard_ft, guard_no, ev_tmp, ev_int, ev_bool, ev_string, ev_slice, ev_pointer, ev_map, ev_float, ev_complex, ev_nilIface, ev_nilFunc, ev_func, eget_cons, eget_nil, st_mv, st_pick, v_pick_t, v_pick_f, st_ext, v_ext0, v_ext1, v_ext2, v_ext3, st_int, v_int, int_add, int_sub, int_mul, int_eql, int_neq, int_lss, int_leq, int_gtr, int_geq, st_beq, v_beq, v_bne, st_not, v_not, st_conv, v_conv, st_faddr, v_faddr, st_iaddr, v_iaddr, st_aaddr, v_aaddr, st_nilChk, v_nil, st_len, v_len, v_lenS, st_load, v_load, got_one, got_row, mem_tip, mem_ro, mem_ret, st_alloc, st_box, st_store, v_store, got_store, cells_agg, cells_int, cells_bool, cells_slice, cells_pointer, cells_string, cells_complex, cells_func, one_int, one_bool, one_slice, one_pointer, one_string, one_complex, one_func, upd_push, get_push_self, AHeap.n_push, AHeap.n_upd, st_build, parts_nil, parts_cons, st_bslice, st_append, st_mkfun, st_mkface, st_isNil, st_max, v_max, st_min, v_min, st_field, st_index, st_slice0, v_slice0, v_slice0n, st_slice, kill_nil, st_call, v_call, forget_nil, forget_cons, Option.map_some, Option.map_none, Option.bind_some, List.map_cons, List.map_nil, if_true, if_false, Nat.reduceEqDiff, Int.reduceEq, Nat.reduceAdd, Nat.reduceMul, Bool.not_true, Bool.not_false, reduceCtorEq, decide_true, decide_false, Int.cast_ofNat_Int, eq_self, Int.reduceLT, Int.reduceLE, Int.reduceToNat, Int.toNat_natCast, Int.le_refl, Nat.le_refl, Nat.zero_add, Nat.add_zero, Nat.zero_mul, Nat.mul_one, Nat.mul_zero, and_self, and_true, true_and, List.length_cons, List.length_nil, List.all_cons, List.all_nil, Bool.and_self, Bool.and_true, Bool.true_and, List.take_zero, List.nil_append, List.drop_nil, List.append_nil, List.getElem?_cons_zero, List.getElem?_cons_succ, List.drop_succ_cons, List.drop_zero, List.take_succ_cons, List.cons_append, Nat.reduceLeDiff, hlt, h1, h2, v_row1, m1, hw2]
    rw [w_enter]
    simp only [w_draw, dr_cons, dr_some, dr_none, dr_go, still_no, still_yes, next_no, next_yes, last_cons, last_nil, isStore, calm_no, calm_nil, calm_cons, calmB_some, isCall, freshI, dr_nil, dr_end, still_nil, still_cons, stillB_some, stamp_some, stampV_ptr, stampV_tuple, stampO, still_here, still_here0, List.nil_append, w_out, w_gives, fin_ret, fin_normal, ress_nil, ress_tmp, pack_one, pack_nil, pack_two, entry_nil, entry_one, entry_two, entry_three, entry_four, eq_skip, eq_exit, eq_ret, w_rows, w_done, w_seq, w_normal, w_ret, w_exit, w_cond, w_true, w_false, eq_block, block_normal, block_ret, block_exit, rows_nil, rows_cons, on_some, on_none, row_plain, row_guard, guard_tt, guard_ff, guard_tf, guard_ft, guard_no, ev_tmp, ev_int, ev_bool, ev_string, ev_slice, ev_pointer, ev_map, ev_float, ev_complex, ev_nilIface, ev_nilFunc, ev_func, eget_cons, eget_nil, st_mv, st_pick, v_pick_t, v_pick_f, st_ext, v_ext0, v_ext1, v_ext2, v_ext3, st_int, v_int, int_add, int_sub, int_mul, int_eql, int_neq, int_lss, int_leq, int_gtr, int_geq, st_beq, v_beq, v_bne, st_not, v_not, st_conv, v_conv, st_faddr, v_faddr, st_iaddr, v_iaddr, st_aaddr, v_aaddr, st_nilChk, v_nil, st_len, v_len, v_lenS, st_load, v_load, got_one, got_row, mem_tip, mem_ro, mem_ret, st_alloc, st_box, st_store, v_store, got_store, cells_agg, cells_int, cells_bool, cells_slice, cells_pointer, cells_string, cells_complex, cells_func, one_int, one_bool, one_slice, one_pointer, one_string, one_complex, one_func, upd_push, get_push_self, AHeap.n_push, AHeap.n_upd, st_build, parts_nil, parts_cons, st_bslice, st_append, st_mkfun, st_mkface, st_isNil, st_max, v_max, st_min, v_min, st_field, st_index, st_slice0, v_slice0, v_slice0n, st_slice, kill_nil, st_call, v_call, forget_nil, forget_cons, Option.map_some, Option.map_none, Option.bind_some, List.map_cons, List.map_nil, if_true, if_false, Nat.reduceEqDiff, Int.reduceEq, Nat.reduceAdd, Nat.reduceMul, Bool.not_true, Bool.not_false, reduceCtorEq, decide_true, decide_false, Int.cast_ofNat_Int, eq_self, Int.reduceLT, Int.reduceLE, Int.reduceToNat, Int.toNat_natCast, Int.le_refl, Nat.le_refl, Nat.zero_add, Nat.add_zero, Nat.zero_mul, Nat.mul_one, Nat.mul_zero, and_self, and_true, true_and, List.length_cons, List.length_nil, List.all_cons, List.all_nil, Bool.and_self, Bool.and_true, Bool.true_and, List.take_zero, List.nil_append, List.drop_nil, List.append_nil, List.getElem?_cons_zero, List.getElem?_cons_succ, List.drop_succ_cons, List.drop_zero, List.take_succ_cons, List.cons_append, Nat.reduceLeDiff, r1]
    exact r2
theorem l_Lf1 {H : AHeap} {L : List Rl} {t m : Nat} {N : List Nd} {vr : Value} {p : List Int} (hT : TrieAt H t N vr) (hF : Fits (paths L) N) (hm : (paths L)[m]? = some p) : ∀ (c : Nat) (u : Int) (n : Nat), u + c = 104 → 97 ≤ u → n + c ≤ 7 →
    Out (run Try.prog (tabF tab) om1 (.loop [8, 10, 11, 12] b_lontarlaw04_TrieLeaf_1) [(8, .pointer (some ⟨t, 0, none⟩)), (10, .int .i64 m), (11, .int .i64 n), (12, .int .i32 u)] H) fun y e' H' => y = .exit 4 ∧ H' = H ∧ eget e' 8 = .pointer (some ⟨t, 0, none⟩) ∧ eget e' 10 = .int .i64 m ∧ ∃ n' : Nat, eget e' 11 = .int .i64 n' ∧ n ≤ n' ∧ (n' = n ↔ ∀ v, u ≤ v → v < 104 → p ++ [v] ∉ paths L) := by
  intro c
  induction c with
  | zero =>
    intro u n hu h97 hn
    have hlt : ¬ (u < 104) := by omega
    rw [w_loop_b b_lontarlaw04_TrieLeaf_1.eq_1]
    simp only [w_draw, dr_cons, dr_some, dr_none, dr_go, still_no, still_yes, next_no, next_yes, last_cons, last_nil, isStore, calm_no, calm_nil, calm_cons, calmB_some, isCall, freshI, dr_nil, dr_end, still_nil, still_cons, stillB_some, stamp_some, stampV_ptr, stampV_tuple, stampO, still_here, still_here0, List.nil_append, w_out, w_gives, fin_ret, fin_normal, ress_nil, ress_tmp, pack_one, pack_nil, pack_two, entry_nil, entry_one, entry_two, entry_three, entry_four, eq_skip, eq_exit, eq_ret, w_rows, w_done, w_seq, w_normal, w_ret, w_exit, w_cond, w_true, w_false, eq_block, block_normal, block_ret, block_exit, rows_nil, rows_cons, on_some, on_none, row_plain, row_guard, guard_tt, guard_ff, guard_tf, guard_ft, guard_no, ev_tmp, ev_int, ev_bool, ev_string, ev_slice, ev_pointer, ev_map, ev_float, ev_complex, ev_nilIface, ev_nilFunc, ev_func, eget_cons, eget_nil, st_mv, st_pick, v_pick_t, v_pick_f, st_ext, v_ext0, v_ext1, v_ext2, v_ext3, st_int, v_int, int_add, int_sub, int_mul, int_eql, int_neq, int_lss, int_leq, int_gtr, int_geq, st_beq, v_beq, v_bne, st_not, v_not, st_conv, v_conv, st_faddr, v_faddr, st_iaddr, v_iaddr, st_aaddr, v_aaddr, st_nilChk, v_nil, st_len, v_len, v_lenS, st_load, v_load, got_one, got_row, mem_tip, mem_ro, mem_ret, st_alloc, st_box, st_store, v_store, got_store, cells_agg, cells_int, cells_bool, cells_slice, cells_pointer, cells_string, cells_complex, cells_func, one_int, one_bool, one_slice, one_pointer, one_string, one_complex, one_func, upd_push, get_push_self, AHeap.n_push, AHeap.n_upd, st_build, parts_nil, parts_cons, st_bslice, st_append, st_mkfun, st_mkface, st_isNil, st_max, v_max, st_min, v_min, st_field, st_index, st_slice0, v_slice0, v_slice0n, st_slice, kill_nil, st_call, v_call, forget_nil, forget_cons, Option.map_some, Option.map_none, Option.bind_some, List.map_cons, List.map_nil, if_true, if_false, Nat.reduceEqDiff, Int.reduceEq, Nat.reduceAdd, Nat.reduceMul, Bool.not_true, Bool.not_false, reduceCtorEq, decide_true, decide_false, Int.cast_ofNat_Int, eq_self, Int.reduceLT, Int.reduceLE, Int.reduceToNat, Int.toNat_natCast, Int.le_refl, Nat.le_refl, Nat.zero_add, Nat.add_zero, Nat.zero_mul, Nat.mul_one, Nat.mul_zero, and_self, and_true, true_and, List.length_cons, List.length_nil, List.all_cons, List.all_nil, Bool.and_self, Bool.and_true, Bool.true_and, List.take_zero, List.nil_append, List.drop_nil, List.append_nil, List.getElem?_cons_zero, List.getElem?_cons_succ, List.drop_succ_cons, List.drop_zero, List.take_succ_cons, List.cons_append, Nat.reduceLeDiff, hlt]
    exact ⟨n, rfl, Nat.le_refl _, ⟨fun _ v h1 h2 => absurd h2 (by omega), fun _ => rfl⟩⟩
  | succ c ih =>
    intro u n hu h97 hn
    have hlt : u < 104 := by omega
    have hml : m < N.length := by rw [hF.len]; exact (List.getElem?_eq_some_iff.1 hm).1
    have hx := List.getElem?_eq_getElem hml
    have cS := c_Step (u := u) hT hx (hF.chain hx hm)
    have q2 : IntKind.i64.wrap u = u := wrap64 (by omega) (by omega)
    have q3 : IntKind.i32.wrap (u + 1) = u + 1 := by simp [IntKind.wrap, IntKind.bits, IntKind.signed]; omega
    have hw2 : IntKind.i64.wrap ((n : Int) + 1) = ((n + 1 : Nat) : Int) := by rw [wrap64 (by omega) (by omega)]; omega
    rw [w_loop_b b_lontarlaw04_TrieLeaf_1.eq_1]
    cases hpk : pickU N u (kidsOf (paths L) p) with
    | none =>
      rw [hpk] at cS
      simp only at cS
      have hno := (pick_none hF).1 hpk
      obtain ⟨y, e', H', r1, r2, r3, r4, r5, n', r6, r7, r8⟩ := ih (u + 1) n (by omega) (by omega) (by omega)
      simp only [w_draw, dr_cons, dr_some, dr_none, dr_go, still_no, still_yes, next_no, next_yes, last_cons, last_nil, isStore, calm_no, calm_nil, calm_cons, calmB_some, isCall, freshI, dr_nil, dr_end, still_nil, still_cons, stillB_some, stamp_some, stampV_ptr, stampV_tuple, stampO, still_here, still_here0, List.nil_append, w_out, w_gives, fin_ret, fin_normal, ress_nil, ress_tmp, pack_one, pack_nil, pack_two, entry_nil, entry_one, entry_two, entry_three, entry_four, eq_skip, eq_exit, eq_ret, w_rows, w_done, w_seq, w_normal, w_ret, w_exit, w_cond, w_true, w_false, eq_block, block_normal, block_ret, block_exit, rows_nil, rows_cons, on_some, on_none, row_plain, row_guard, guard_tt, guard_ff, guard_tf, guard_ft, guard_no, ev_tmp, ev_int, ev_bool, ev_string, ev_slice, ev_pointer, ev_map, ev_float, ev_complex, ev_nilIface, ev_nilFunc, ev_func, eget_cons, eget_nil, st_mv, st_pick, v_pick_t, v_pick_f, st_ext, v_ext0, v_ext1, v_ext2, v_ext3, st_int, v_int, int_add, int_sub, int_mul, int_eql, int_neq, int_lss, int_leq, int_gtr, int_geq, st_beq, v_beq, v_bne, st_not, v_not, st_conv, v_conv, st_faddr, v_faddr, st_iaddr, v_iaddr, st_aaddr, v_aaddr, st_nilChk, v_nil, st_len, v_len, v_lenS, st_load, v_load, got_one, got_row, mem_tip, mem_ro, mem_ret, st_alloc, st_box, st_store, v_store, got_store, cells_agg, cells_int, cells_bool, cells_slice, cells_pointer, cells_string, cells_complex, cells_func, one_int, one_bool, one_slice, one_pointer, one_string, one_complex, one_func, upd_push, get_push_self, AHeap.n_push, AHeap.n_upd, st_build, parts_nil, parts_cons, st_bslice, st_append, st_mkfun, st_mkface, st_isNil, st_max, v_max, st_min, v_min, st_field, st_index, st_slice0, v_slice0, v_slice0n, st_slice, kill_nil, st_call, v_call, forget_nil, forget_cons, Option.map_some, Option.map_none, Option.bind_some, List.map_cons, List.map_nil, if_true, if_false, Nat.reduceEqDiff, Int.reduceEq, Nat.reduceAdd, Nat.reduceMul, Bool.not_true, Bool.not_false, reduceCtorEq, decide_true, decide_false, Int.cast_ofNat_Int, eq_self, Int.reduceLT, Int.reduceLE, Int.reduceToNat, Int.toNat_natCast, Int.le_refl, Nat.le_refl, Nat.zero_add, Nat.add_zero, Nat.zero_mul, Nat.mul_one, Nat.mul_zero, and_self, and_true, true_and, List.length_cons, List.length_nil, List.all_cons, List.all_nil, Bool.and_self, Bool.and_true, Bool.true_and, List.take_zero, List.nil_append, List.drop_nil, List.append_nil, List.getElem?_cons_zero, List.getElem?_cons_succ, List.drop_succ_cons, List.drop_zero, List.take_succ_cons, List.cons_append, Nat.reduceLeDiff, hlt, q2, cS, q3]
      rw [w_enter]
      simp only [w_draw, dr_cons, dr_some, dr_none, dr_go, still_no, still_yes, next_no, next_yes, last_cons, last_nil, isStore, calm_no, calm_nil, calm_cons, calmB_some, isCall, freshI, dr_nil, dr_end, still_nil, still_cons, stillB_some, stamp_some, stampV_ptr, stampV_tuple, stampO, still_here, still_here0, List.nil_append, w_out, w_gives, fin_ret, fin_normal, ress_nil, ress_tmp, pack_one, pack_nil, pack_two, entry_nil, entry_one, entry_two, entry_three, entry_four, eq_skip, eq_exit, eq_ret, w_rows, w_done, w_seq, w_normal, w_ret, w_exit, w_cond, w_true, w_false, eq_block, block_normal, block_ret, block_exit, rows_nil, rows_cons, on_some, on_none, row_plain, row_guard, guard_tt, guard_ff, guard_tf, guard_ft, guard_no, ev_tmp, ev_int, ev_bool, ev_string, ev_slice, ev_pointer, ev_map, ev_float, ev_complex, ev_nilIface, ev_nilFunc, ev_func, eget_cons, eget_nil, st_mv, st_pick, v_pick_t, v_pick_f, st_ext, v_ext0, v_ext1, v_ext2, v_ext3, st_int, v_int, int_add, int_sub, int_mul, int_eql, int_neq, int_lss, int_leq, int_gtr, int_geq, st_beq, v_beq, v_bne, st_not, v_not, st_conv, v_conv, st_faddr, v_faddr, st_iaddr, v_iaddr, st_aaddr, v_aaddr, st_nilChk, v_nil, st_len, v_len, v_lenS, st_load, v_load, got_one, got_row, mem_tip, mem_ro, mem_ret, st_alloc, st_box, st_store, v_store, got_store, cells_agg, cells_int, cells_bool, cells_slice, cells_pointer, cells_string, cells_complex, cells_func, one_int, one_bool, one_slice, one_pointer, one_string, one_complex, one_func, upd_push, get_push_self, AHeap.n_push, AHeap.n_upd, st_build, parts_nil, parts_cons, st_bslice, st_append, st_mkfun, st_mkface, st_isNil, st_max, v_max, st_min, v_min, st_field, st_index, st_slice0, v_slice0, v_slice0n, st_slice, kill_nil, st_call, v_call, forget_nil, forget_cons, Option.map_some, Option.map_none, Option.bind_some, List.map_cons, List.map_nil, if_true, if_false, Nat.reduceEqDiff, Int.reduceEq, Nat.reduceAdd, Nat.reduceMul, Bool.not_true, Bool.not_false, reduceCtorEq, decide_true, decide_false, Int.cast_ofNat_Int, eq_self, Int.reduceLT, Int.reduceLE, Int.reduceToNat, Int.toNat_natCast, Int.le_refl, Nat.le_refl, Nat.zero_add, Nat.add_zero, Nat.zero_mul, Nat.mul_one, Nat.mul_zero, and_self, and_true, true_and, List.length_cons, List.length_nil, List.all_cons, List.all_nil, Bool.and_self, Bool.and_true, Bool.true_and, List.take_zero, List.nil_append, List.drop_nil, List.append_nil, List.getElem?_cons_zero, List.getElem?_cons_succ, List.drop_succ_cons, List.drop_zero, List.take_succ_cons, List.cons_append, Nat.reduceLeDiff, r1]
      refine ⟨r2, r3, r4, r5, n', r6, r7, r8.trans ⟨fun h v h1 h2 => ?_, fun h v h1 h2 => h v (by omega) h2⟩⟩
      by_cases e : v = u
      · subst e; exact hno
      · exact h v (by omega) h2
    | some j =>
      rw [hpk] at cS
      simp only at cS
      have hyes := List.mem_of_getElem? ((pick_iff hF).1 hpk)
      obtain ⟨y, e', H', r1, r2, r3, r4, r5, n', r6, r7, r8⟩ := ih (u + 1) (n + 1) (by omega) (by omega) (by omega)
      simp only [w_draw, dr_cons, dr_some, dr_none, dr_go, still_no, still_yes, next_no, next_yes, last_cons, last_nil, isStore, calm_no, calm_nil, calm_cons, calmB_some, isCall, freshI, dr_nil, dr_end, still_nil, still_cons, stillB_some, stamp_some, stampV_ptr, stampV_tuple, stampO, still_here, still_here0, List.nil_append, w_out, w_gives, fin_ret, fin_normal, ress_nil, ress_tmp, pack_one, pack_nil, pack_two, entry_nil, entry_one, entry_two, entry_three, entry_four, eq_skip, eq_exit, eq_ret, w_rows, w_done, w_seq, w_normal, w_ret, w_exit, w_cond, w_true, w_false, eq_block, block_normal, block_ret, block_exit, rows_nil, rows_cons, on_some, on_none, row_plain, row_guard, guard_tt, guard_ff, guard_tf, guard_ft, guard_no, ev_tmp, ev_int, ev_bool, ev_string, ev_slice, ev_pointer, ev_map, ev_float, ev_complex, ev_nilIface, ev_nilFunc, ev_func, eget_cons, eget_nil, st_mv, st_pick, v_pick_t, v_pick_f, st_ext, v_ext0, v_ext1, v_ext2, v_ext3, st_int, v_int, int_add, int_sub, int_mul, int_eql, int_neq, int_lss, int_leq, int_gtr, int_geq, st_beq, v_beq, v_bne, st_not, v_not, st_conv, v_conv, st_faddr, v_faddr, st_iaddr, v_iaddr, st_aaddr, v_aaddr, st_nilChk, v_nil, st_len, v_len, v_lenS, st_load, v_load, got_one, got_row, mem_tip, mem_ro, mem_ret, st_alloc, st_box, st_store, v_store, got_store, cells_agg, cells_int, cells_bool, cells_slice, cells_pointer, cells_string, cells_complex, cells_func, one_int, one_bool, one_slice, one_pointer, one_string, one_complex, one_func, upd_push, get_push_self, AHeap.n_push, AHeap.n_upd, st_build, parts_nil, parts_cons, st_bslice, st_append, st_mkfun, st_mkface, st_isNil, st_max, v_max, st_min, v_min, st_field, st_index, st_slice0, v_slice0, v_slice0n, st_slice, kill_nil, st_call, v_call, forget_nil, forget_cons, Option.map_some, Option.map_none, Option.bind_some, List.map_cons, List.map_nil, if_true, if_false, Nat.reduceEqDiff, Int.reduceEq, Nat.reduceAdd, Nat.reduceMul, Bool.not_true, Bool.not_false, reduceCtorEq, decide_true, decide_false, Int.cast_ofNat_Int, eq_self, Int.reduceLT, Int.reduceLE, Int.reduceToNat, Int.toNat_natCast, Int.le_refl, Nat.le_refl, Nat.zero_add, Nat.add_zero, Nat.zero_mul, Nat.mul_one, Nat.mul_zero, and_self, and_true, true_and, List.length_cons, List.length_nil, List.all_cons, List.all_nil, Bool.and_self, Bool.and_true, Bool.true_and, List.take_zero, List.nil_append, List.drop_nil, List.append_nil, List.getElem?_cons_zero, List.getElem?_cons_succ, List.drop_succ_cons, List.drop_zero, List.take_succ_cons, List.cons_append, Nat.reduceLeDiff, hlt, q2, cS, q3, hw2]
      rw [w_enter]
      simp only [w_draw, dr_cons, dr_some, dr_none, dr_go, still_no, still_yes, next_no, next_yes, last_cons, last_nil, isStore, calm_no, calm_nil, calm_cons, calmB_some, isCall, freshI, dr_nil, dr_end, still_nil, still_cons, stillB_some, stamp_some, stampV_ptr, stampV_tuple, stampO, still_here, still_here0, List.nil_append, w_out, w_gives, fin_ret, fin_normal, ress_nil, ress_tmp, pack_one, pack_nil, pack_two, entry_nil, entry_one, entry_two, entry_three, entry_four, eq_skip, eq_exit, eq_ret, w_rows, w_done, w_seq, w_normal, w_ret, w_exit, w_cond, w_true, w_false, eq_block, block_normal, block_ret, block_exit, rows_nil, rows_cons, on_some, on_none, row_plain, row_guard, guard_tt, guard_ff, guard_tf, guard_ft, guard_no, ev_tmp, ev_int, ev_bool, ev_string, ev_slice, ev_pointer, ev_map, ev_float, ev_complex, ev_nilIface, ev_nilFunc, ev_func, eget_cons, eget_nil, st_mv, st_pick, v_pick_t, v_pick_f, st_ext, v_ext0, v_ext1, v_ext2, v_ext3, st_int, v_int, int_add, int_sub, int_mul, int_eql, int_neq, int_lss, int_leq, int_gtr, int_geq, st_beq, v_beq, v_bne, st_not, v_not, st_conv, v_conv, st_faddr, v_faddr, st_iaddr, v_iaddr, st_aaddr, v_aaddr, st_nilChk, v_nil, st_len, v_len, v_lenS, st_load, v_load, got_one, got_row, mem_tip, mem_ro, mem_ret, st_alloc, st_box, st_store, v_store, got_store, cells_agg, cells_int, cells_bool, cells_slice, cells_pointer, cells_string, cells_complex, cells_func, one_int, one_bool, one_slice, one_pointer, one_string, one_complex, one_func, upd_push, get_push_self, AHeap.n_push, AHeap.n_upd, st_build, parts_nil, parts_cons, st_bslice, st_append, st_mkfun, st_mkface, st_isNil, st_max, v_max, st_min, v_min, st_field, st_index, st_slice0, v_slice0, v_slice0n, st_slice, kill_nil, st_call, v_call, forget_nil, forget_cons, Option.map_some, Option.map_none, Option.bind_some, List.map_cons, List.map_nil, if_true, if_false, Nat.reduceEqDiff, Int.reduceEq, Nat.reduceAdd, Nat.reduceMul, Bool.not_true, Bool.not_false, reduceCtorEq, decide_true, decide_false, Int.cast_ofNat_Int, eq_self, Int.reduceLT, Int.reduceLE, Int.reduceToNat, Int.toNat_natCast, Int.le_refl, Nat.le_refl, Nat.zero_add, Nat.add_zero, Nat.zero_mul, Nat.mul_one, Nat.mul_zero, and_self, and_true, true_and, List.length_cons, List.length_nil, List.all_cons, List.all_nil, Bool.and_self, Bool.and_true, Bool.true_and, List.take_zero, List.nil_append, List.drop_nil, List.append_nil, List.getElem?_cons_zero, List.getElem?_cons_succ, List.drop_succ_cons, List.drop_zero, List.take_succ_cons, List.cons_append, Nat.reduceLeDiff, r1]
      exact ⟨r2, r3, r4, r5, n', r6, by omega, ⟨fun h => by omega, fun h => absurd hyes (h u (Int.le_refl _) hlt)⟩⟩
theorem kid_zero {L : List Rl} {N : List Nd} {m : Nat} {p : List Int} {x : Nd} (hF : Fits (paths L) N) (hm : (paths L)[m]? = some p) (hx : N[m]? = some x) : x.kid = 0 ↔ ∀ v, p ++ [v] ∉ paths L := by
  have hc := hF.chain hx hm
  have h0 := hF.kid0 hx
  constructor
  · intro hk v hv
    obtain ⟨j, hj, hju⟩ := List.getElem_of_mem hv
    have hmem : j ∈ kidsOf (paths L) p := mem_kids.2 ⟨v, by rw [List.getElem?_eq_getElem hj, hju]⟩
    cases hkk : kidsOf (paths L) p with
    | nil => rw [hkk] at hmem; cases hmem
    | cons q r =>
      rw [hkk] at hc
      obtain ⟨h1, h2, _⟩ := hc
      omega
  · intro h
    cases hkk : kidsOf (paths L) p with
    | nil =>
      rw [hkk] at hc
      have : x.kid ≤ 0 := hc
      omega
    | cons q r =>
      obtain ⟨v, hv⟩ := mem_kids.1 (show q ∈ kidsOf (paths L) p by rw [hkk]; exact List.mem_cons_self ..)
      exact absurd (List.mem_of_getElem? hv) (h v)
theorem l_Lf2 {H : AHeap} {L : List Rl} {t : Nat} {N : List Nd} {vr : Value} (hT : TrieAt H t N vr) (hF : Fits (paths L) N) (hu : ∀ p v, p ++ [v] ∈ paths L → 97 ≤ v ∧ v < 104) : ∀ (c m : Nat), m + c = N.length →
    Out (run Try.prog (tabF tab) om1 (.loop [8, 10] b_lontarlaw04_TrieLeaf_2) [(8, .pointer (some ⟨t, 0, none⟩)), (10, .int .i64 m)] H) fun y e' H' => y = .exit 2 := by
  obtain ⟨_, _, _, _, _, _, _, hfew⟩ := id hT
  intro c
  induction c with
  | zero =>
    intro m hmc
    have hlt : ¬ ((m : Int) < N.length) := by omega
    have cZ := c_Size hT
    rw [w_loop_b b_lontarlaw04_TrieLeaf_2.eq_1]
    simp only [w_draw, dr_cons, dr_some, dr_none, dr_go, still_no, still_yes, next_no, next_yes, last_cons, last_nil, isStore, calm_no, calm_nil, calm_cons, calmB_some, isCall, freshI, dr_nil, dr_end, still_nil, still_cons, stillB_some, stamp_some, stampV_ptr, stampV_tuple, stampO, still_here, still_here0, List.nil_append, w_out, w_gives, fin_ret, fin_normal, ress_nil, ress_tmp, pack_one, pack_nil, pack_two, entry_nil, entry_one, entry_two, entry_three, entry_four, eq_skip, eq_exit, eq_ret, w_rows, w_done, w_seq, w_normal, w_ret, w_exit, w_cond, w_true, w_false, eq_block, block_normal, block_ret, block_exit, rows_nil, rows_cons, on_some, on_none, row_plain, row_guard, guard_tt, guard_ff, guard_tf, guard_ft, guard_no, ev_tmp, ev_int, ev_bool, ev_string, ev_slice, ev_pointer, ev_map, ev_float, ev_complex, ev_nilIface, ev_nilFunc, ev_func, eget_cons, eget_nil, st_mv, st_pick, v_pick_t, v_pick_f, st_ext, v_ext0, v_ext1, v_ext2, v_ext3, st_int, v_int, int_add, int_sub, int_mul, int_eql, int_neq, int_lss, int_leq, int_gtr, int_geq, st_beq, v_beq, v_bne, st_not, v_not, st_conv, v_conv, st_faddr, v_faddr, st_iaddr, v_iaddr, st_aaddr, v_aaddr, st_nilChk, v_nil, st_len, v_len, v_lenS, st_load, v_load, got_one, got_row, mem_tip, mem_ro, mem_ret, st_alloc, st_box, st_store, v_store, got_store, cells_agg, cells_int, cells_bool, cells_slice, cells_pointer, cells_string, cells_complex, cells_func, one_int, one_bool, one_slice, one_pointer, one_string, one_complex, one_func, upd_push, get_push_self, AHeap.n_push, AHeap.n_upd, st_build, parts_nil, parts_cons, st_bslice, st_append, st_mkfun, st_mkface, st_isNil, st_max, v_max, st_min, v_min, st_field, st_index, st_slice0, v_slice0, v_slice0n, st_slice, kill_nil, st_call, v_call, forget_nil, forget_cons, Option.map_some, Option.map_none, Option.bind_some, List.map_cons, List.map_nil, if_true, if_false, Nat.reduceEqDiff, Int.reduceEq, Nat.reduceAdd, Nat.reduceMul, Bool.not_true, Bool.not_false, reduceCtorEq, decide_true, decide_false, Int.cast_ofNat_Int, eq_self, Int.reduceLT, Int.reduceLE, Int.reduceToNat, Int.toNat_natCast, Int.le_refl, Nat.le_refl, Nat.zero_add, Nat.add_zero, Nat.zero_mul, Nat.mul_one, Nat.mul_zero, and_self, and_true, true_and, List.length_cons, List.length_nil, List.all_cons, List.all_nil, Bool.and_self, Bool.and_true, Bool.true_and, List.take_zero, List.nil_append, List.drop_nil, List.append_nil, List.getElem?_cons_zero, List.getElem?_cons_succ, List.drop_succ_cons, List.drop_zero, List.take_succ_cons, List.cons_append, Nat.reduceLeDiff, cZ, hlt]
  | succ c ih =>
    intro m hmc
    have hlt : (m : Int) < N.length := by omega
    have cZ := c_Size hT
    have hml : m < (paths L).length := by rw [← hF.len]; omega
    have hm := List.getElem?_eq_getElem hml
    have hx := List.getElem?_eq_getElem (show m < N.length by omega)
    have cF := c_Leaf hT hx
    have hw2 : IntKind.i64.wrap ((m : Int) + 1) = ((m + 1 : Nat) : Int) := by rw [wrap64 (by omega) (by omega)]; omega
    obtain ⟨y, e', H', r1, rfl, rfl, r2, r3, n', r4, r5, r6⟩ := l_Lf1 hT hF hm 7 97 0 (by decide) (by decide) (by decide)
    have hk : (decide (N[m].kid = 0) == decide ((n' : Int) = 0)) = true := by
      rw [beq_iff_eq, decide_eq_decide, kid_zero hF hm hx]
      constructor
      · intro h
        have := r6.2 fun v _ _ => h v
        omega
      · intro h v hv
        obtain ⟨g1, g2⟩ := hu _ v hv
        exact r6.1 (by omega) v g1 g2 hv
    obtain ⟨y, e2, H3, q1, q2⟩ := ih (m + 1) (by omega)
    simp only [Int.cast_ofNat_Int] at r1
    rw [w_loop_b b_lontarlaw04_TrieLeaf_2.eq_1]
    simp only [w_draw, dr_cons, dr_some, dr_none, dr_go, still_no, still_yes, next_no, next_yes, last_cons, last_nil, isStore, calm_no, calm_nil, calm_cons, calmB_some, isCall, freshI, dr_nil, dr_end, still_nil, still_cons, stillB_some, stamp_some, stampV_ptr, stampV_tuple, stampO, still_here, still_here0, List.nil_append, w_out, w_gives, fin_ret, fin_normal, ress_nil, ress_tmp, pack_one, pack_nil, pack_two, entry_nil, entry_one, entry_two, entry_three, entry_four, eq_skip, eq_exit, eq_ret, w_rows, w_done, w_seq, w_normal, w_ret, w_exit, w_cond, w_true, w_false, eq_block, block_normal, block_ret, block_exit, rows_nil, rows_cons, on_some, on_none, row_plain, row_guard, guard_tt, guard_ff, guard_tf, guard_ft, guard_no, ev_tmp, ev_int, ev_bool, ev_string, ev_slice, ev_pointer, ev_map, ev_float, ev_complex, ev_nilIface, ev_nilFunc, ev_func, eget_cons, eget_nil, st_mv, st_pick, v_pick_t, v_pick_f, st_ext, v_ext0, v_ext1, v_ext2, v_ext3, st_int, v_int, int_add, int_sub, int_mul, int_eql, int_neq, int_lss, int_leq, int_gtr, int_geq, st_beq, v_beq, v_bne, st_not, v_not, st_conv, v_conv, st_faddr, v_faddr, st_iaddr, v_iaddr, st_aaddr, v_aaddr, st_nilChk, v_nil, st_len, v_len, v_lenS, st_load, v_load, got_one, got_row, mem_tip, mem_ro, mem_ret, st_alloc, st_box, st_store, v_store, got_store, cells_agg, cells_int, cells_bool, cells_slice, cells_pointer, cells_string, cells_complex, cells_func, one_int, one_bool, one_slice, one_pointer, one_string, one_complex, one_func, upd_push, get_push_self, AHeap.n_push, AHeap.n_upd, st_build, parts_nil, parts_cons, st_bslice, st_append, st_mkfun, st_mkface, st_isNil, st_max, v_max, st_min, v_min, st_field, st_index, st_slice0, v_slice0, v_slice0n, st_slice, kill_nil, st_call, v_call, forget_nil, forget_cons, Option.map_some, Option.map_none, Option.bind_some, List.map_cons, List.map_nil, if_true, if_false, Nat.reduceEqDiff, Int.reduceEq, Nat.reduceAdd, Nat.reduceMul, Bool.not_true, Bool.not_false, reduceCtorEq, decide_true, decide_false, Int.cast_ofNat_Int, eq_self, Int.reduceLT, Int.reduceLE, Int.reduceToNat, Int.toNat_natCast, Int.le_refl, Nat.le_refl, Nat.zero_add, Nat.add_zero, Nat.zero_mul, Nat.mul_one, Nat.mul_zero, and_self, and_true, true_and, List.length_cons, List.length_nil, List.all_cons, List.all_nil, Bool.and_self, Bool.and_true, Bool.true_and, List.take_zero, List.nil_append, List.drop_nil, List.append_nil, List.getElem?_cons_zero, List.getElem?_cons_succ, List.drop_succ_cons, List.drop_zero, List.take_succ_cons, List.cons_append, Nat.reduceLeDiff, cZ, hlt]
    rw [w_enter]
    simp only [w_draw, dr_cons, dr_some, dr_none, dr_go, still_no, still_yes, next_no, next_yes, last_cons, last_nil, isStore, calm_no, calm_nil, calm_cons, calmB_some, isCall, freshI, dr_nil, dr_end, still_nil, still_cons, stillB_some, stamp_some, stampV_ptr, stampV_tuple, stampO, still_here, still_here0, List.nil_append, w_out, w_gives, fin_ret, fin_normal, ress_nil, ress_tmp, pack_one, pack_nil, pack_two, entry_nil, entry_one, entry_two, entry_three, entry_four, eq_skip, eq_exit, eq_ret, w_rows, w_done, w_seq, w_normal, w_ret, w_exit, w_cond, w_true, w_false, eq_block, block_normal, block_ret, block_exit, rows_nil, rows_cons, on_some, on_none, row_plain, row_guard, guard_tt, guard_ff, guard_tf, guard_ft, guard_no, ev_tmp, ev_int, ev_bool, ev_string, ev_slice, ev_pointer, ev_map, ev_float, ev_complex, ev_nilIface, ev_nilFunc, ev_func, eget_cons, eget_nil, st_mv, st_pick, v_pick_t, v_pick_f, st_ext, v_ext0, v_ext1, v_ext2, v_ext3, st_int, v_int, int_add, int_sub, int_mul, int_eql, int_neq, int_lss, int_leq, int_gtr, int_geq, st_beq, v_beq, v_bne, st_not, v_not, st_conv, v_conv, st_faddr, v_faddr, st_iaddr, v_iaddr, st_aaddr, v_aaddr, st_nilChk, v_nil, st_len, v_len, v_lenS, st_load, v_load, got_one, got_row, mem_tip, mem_ro, mem_ret, st_alloc, st_box, st_store, v_store, got_store, cells_agg, cells_int, cells_bool, cells_slice, cells_pointer, cells_string, cells_complex, cells_func, one_int, one_bool, one_slice, one_pointer, one_string, one_complex, one_func, upd_push, get_push_self, AHeap.n_push, AHeap.n_upd, st_build, parts_nil, parts_cons, st_bslice, st_append, st_mkfun, st_mkface, st_isNil, st_max, v_max, st_min, v_min, st_field, st_index, st_slice0, v_slice0, v_slice0n, st_slice, kill_nil, st_call, v_call, forget_nil, forget_cons, Option.map_some, Option.map_none, Option.bind_some, List.map_cons, List.map_nil, if_true, if_false, Nat.reduceEqDiff, Int.reduceEq, Nat.reduceAdd, Nat.reduceMul, Bool.not_true, Bool.not_false, reduceCtorEq, decide_true, decide_false, Int.cast_ofNat_Int, eq_self, Int.reduceLT, Int.reduceLE, Int.reduceToNat, Int.toNat_natCast, Int.le_refl, Nat.le_refl, Nat.zero_add, Nat.add_zero, Nat.zero_mul, Nat.mul_one, Nat.mul_zero, and_self, and_true, true_and, List.length_cons, List.length_nil, List.all_cons, List.all_nil, Bool.and_self, Bool.and_true, Bool.true_and, List.take_zero, List.nil_append, List.drop_nil, List.append_nil, List.getElem?_cons_zero, List.getElem?_cons_succ, List.drop_succ_cons, List.drop_zero, List.take_succ_cons, List.cons_append, Nat.reduceLeDiff, r1, r2, r3, r4, cF, hk, hw2]
    rw [w_enter]
    simp only [w_draw, dr_cons, dr_some, dr_none, dr_go, still_no, still_yes, next_no, next_yes, last_cons, last_nil, isStore, calm_no, calm_nil, calm_cons, calmB_some, isCall, freshI, dr_nil, dr_end, still_nil, still_cons, stillB_some, stamp_some, stampV_ptr, stampV_tuple, stampO, still_here, still_here0, List.nil_append, w_out, w_gives, fin_ret, fin_normal, ress_nil, ress_tmp, pack_one, pack_nil, pack_two, entry_nil, entry_one, entry_two, entry_three, entry_four, eq_skip, eq_exit, eq_ret, w_rows, w_done, w_seq, w_normal, w_ret, w_exit, w_cond, w_true, w_false, eq_block, block_normal, block_ret, block_exit, rows_nil, rows_cons, on_some, on_none, row_plain, row_guard, guard_tt, guard_ff, guard_tf, guard_ft, guard_no, ev_tmp, ev_int, ev_bool, ev_string, ev_slice, ev_pointer, ev_map, ev_float, ev_complex, ev_nilIface, ev_nilFunc, ev_func, eget_cons, eget_nil, st_mv, st_pick, v_pick_t, v_pick_f, st_ext, v_ext0, v_ext1, v_ext2, v_ext3, st_int, v_int, int_add, int_sub, int_mul, int_eql, int_neq, int_lss, int_leq, int_gtr, int_geq, st_beq, v_beq, v_bne, st_not, v_not, st_conv, v_conv, st_faddr, v_faddr, st_iaddr, v_iaddr, st_aaddr, v_aaddr, st_nilChk, v_nil, st_len, v_len, v_lenS, st_load, v_load, got_one, got_row, mem_tip, mem_ro, mem_ret, st_alloc, st_box, st_store, v_store, got_store, cells_agg, cells_int, cells_bool, cells_slice, cells_pointer, cells_string, cells_complex, cells_func, one_int, one_bool, one_slice, one_pointer, one_string, one_complex, one_func, upd_push, get_push_self, AHeap.n_push, AHeap.n_upd, st_build, parts_nil, parts_cons, st_bslice, st_append, st_mkfun, st_mkface, st_isNil, st_max, v_max, st_min, v_min, st_field, st_index, st_slice0, v_slice0, v_slice0n, st_slice, kill_nil, st_call, v_call, forget_nil, forget_cons, Option.map_some, Option.map_none, Option.bind_some, List.map_cons, List.map_nil, if_true, if_false, Nat.reduceEqDiff, Int.reduceEq, Nat.reduceAdd, Nat.reduceMul, Bool.not_true, Bool.not_false, reduceCtorEq, decide_true, decide_false, Int.cast_ofNat_Int, eq_self, Int.reduceLT, Int.reduceLE, Int.reduceToNat, Int.toNat_natCast, Int.le_refl, Nat.le_refl, Nat.zero_add, Nat.add_zero, Nat.zero_mul, Nat.mul_one, Nat.mul_zero, and_self, and_true, true_and, List.length_cons, List.length_nil, List.all_cons, List.all_nil, Bool.and_self, Bool.and_true, Bool.true_and, List.take_zero, List.nil_append, List.drop_nil, List.append_nil, List.getElem?_cons_zero, List.getElem?_cons_succ, List.drop_succ_cons, List.drop_zero, List.take_succ_cons, List.cons_append, Nat.reduceLeDiff, r2, q1]
    exact q2
theorem law_Leaf {a b : Value} {R : List RowD} {l : List Int} {H : AHeap} (ha : RowsAt H a R) (hb : Nums H .u8 b l ∧ Cut Try.prog H b 1 ∧ bytes l ∧ tiny l) : Gives (cw Try.prog (tabF tab) om1 5 [a, b] H) fun v H' => v = .bool true := by
  rw [cw_run (F := F_lontarlaw04_TrieLeaf) rfl rfl rfl]
  unfold F_lontarlaw04_TrieLeaf k_lontarlaw04_TrieLeaf
  have hl0 := ha.len (H2 := H)
  obtain ⟨y, e', H0, r0, rfl, x0, hw⟩ := l_Lf0 ha R.length 0 H (.slice none 0 0) (by omega) (Ext.refl _) (by rw [List.take_zero]; exact Few.nil H) trivial
  obtain ⟨cells, w1, w2⟩ := hw
  have hrows : RowsAt H0 (eget e' 5) (R.map off) := ⟨cells, w1.sl, w1.cut (by kernel_rfl), by rw [List.length_map]; obtain ⟨_, _, _, h, _⟩ := ha; exact h, w2⟩
  obtain ⟨v1, H1, c1, x1, o1, k1⟩ := c_Right hrows
  have h40 := RL_len (R.map off)
  have hlen := rgt_len (L := RL (R.map off)) (T := [])
  simp only [List.length_nil, Nat.zero_add] at hlen
  have hR := o1.rules (by omega)
  have hC : Cut Try.prog H1 v1 2 := o1.cut (by kernel_rfl)
  have hgood := rgt_good (L := RL (R.map off)) Good.nil
  obtain ⟨v2, H2, c2, x2, t, bb, vr, N, rfl, hT, hF, hRF, hρ⟩ := c_Of hR hC hgood (by omega)
  have hu : ∀ p v, p ++ [v] ∈ paths (rgt (RL (R.map off)) []) → 97 ≤ v ∧ v < 104 := by
    intro p v h
    rcases mem_paths.1 h with h | ⟨r, h1, _, h2⟩
    · simp at h
    · have hv : v ∈ r.1 := h2.subset (by simp)
      rcases rgt_mem h1 with h1 | h1
      · cases h1
      · unfold RL at h1
        obtain ⟨x, hx, rfl⟩ := List.mem_map.1 h1
        obtain ⟨z, _, rfl⟩ := List.mem_map.1 (List.mem_of_mem_take hx)
        have hv : v ∈ un z.1 := hv
        unfold un at hv
        rcases List.mem_append.1 (List.mem_of_mem_take hv) with hv | hv
        · unfold unl at hv
          obtain ⟨w, _, rfl⟩ := List.mem_map.1 hv
          omega
        · simp at hv
          omega
  obtain ⟨y, e2, H3, r1, rfl⟩ := l_Lf2 hT.at hF hu N.length 0 (by omega)
  simp only [Int.cast_ofNat_Int] at r0 r1
  have z : ((0 : Int) ≠ 0) = False := by simp
  simp only [w_draw, dr_cons, dr_some, dr_none, dr_go, still_no, still_yes, next_no, next_yes, last_cons, last_nil, isStore, calm_no, calm_nil, calm_cons, calmB_some, isCall, freshI, dr_nil, dr_end, still_nil, still_cons, stillB_some, stamp_some, stampV_ptr, stampV_tuple, stampO, still_here, still_here0, List.nil_append, w_out, w_gives, fin_ret, fin_normal, ress_nil, ress_tmp, pack_one, pack_nil, pack_two, entry_nil, entry_one, entry_two, entry_three, entry_four, eq_skip, eq_exit, eq_ret, w_rows, w_done, w_seq, w_normal, w_ret, w_exit, w_cond, w_true, w_false, eq_block, block_normal, block_ret, block_exit, rows_nil, rows_cons, on_some, on_none, row_plain, row_guard, guard_tt, guard_ff, guard_tf, guard_ft, guard_no, ev_tmp, ev_int, ev_bool, ev_string, ev_slice, ev_pointer, ev_map, ev_float, ev_complex, ev_nilIface, ev_nilFunc, ev_func, eget_cons, eget_nil, st_mv, st_pick, v_pick_t, v_pick_f, st_ext, v_ext0, v_ext1, v_ext2, v_ext3, st_int, v_int, int_add, int_sub, int_mul, int_eql, int_neq, int_lss, int_leq, int_gtr, int_geq, st_beq, v_beq, v_bne, st_not, v_not, st_conv, v_conv, st_faddr, v_faddr, st_iaddr, v_iaddr, st_aaddr, v_aaddr, st_nilChk, v_nil, st_len, v_len, v_lenS, st_load, v_load, got_one, got_row, mem_tip, mem_ro, mem_ret, st_alloc, st_box, st_store, v_store, got_store, cells_agg, cells_int, cells_bool, cells_slice, cells_pointer, cells_string, cells_complex, cells_func, one_int, one_bool, one_slice, one_pointer, one_string, one_complex, one_func, upd_push, get_push_self, AHeap.n_push, AHeap.n_upd, st_build, parts_nil, parts_cons, st_bslice, st_append, st_mkfun, st_mkface, st_isNil, st_max, v_max, st_min, v_min, st_field, st_index, st_slice0, v_slice0, v_slice0n, st_slice, kill_nil, st_call, v_call, forget_nil, forget_cons, Option.map_some, Option.map_none, Option.bind_some, List.map_cons, List.map_nil, if_true, if_false, Nat.reduceEqDiff, Int.reduceEq, Nat.reduceAdd, Nat.reduceMul, Bool.not_true, Bool.not_false, reduceCtorEq, decide_true, decide_false, Int.cast_ofNat_Int, eq_self, Int.reduceLT, Int.reduceLE, Int.reduceToNat, Int.toNat_natCast, Int.le_refl, Nat.le_refl, Nat.zero_add, Nat.add_zero, Nat.zero_mul, Nat.mul_one, Nat.mul_zero, and_self, and_true, true_and, List.length_cons, List.length_nil, List.all_cons, List.all_nil, Bool.and_self, Bool.and_true, Bool.true_and, List.take_zero, List.nil_append, List.drop_nil, List.append_nil, List.getElem?_cons_zero, List.getElem?_cons_succ, List.drop_succ_cons, List.drop_zero, List.take_succ_cons, List.cons_append, Nat.reduceLeDiff, o_awake, hl0]
  rw [w_enter]
  simp only [w_draw, dr_cons, dr_some, dr_none, dr_go, still_no, still_yes, next_no, next_yes, last_cons, last_nil, isStore, calm_no, calm_nil, calm_cons, calmB_some, isCall, freshI, dr_nil, dr_end, still_nil, still_cons, stillB_some, stamp_some, stampV_ptr, stampV_tuple, stampO, still_here, still_here0, List.nil_append, w_out, w_gives, fin_ret, fin_normal, ress_nil, ress_tmp, pack_one, pack_nil, pack_two, entry_nil, entry_one, entry_two, entry_three, entry_four, eq_skip, eq_exit, eq_ret, w_rows, w_done, w_seq, w_normal, w_ret, w_exit, w_cond, w_true, w_false, eq_block, block_normal, block_ret, block_exit, rows_nil, rows_cons, on_some, on_none, row_plain, row_guard, guard_tt, guard_ff, guard_tf, guard_ft, guard_no, ev_tmp, ev_int, ev_bool, ev_string, ev_slice, ev_pointer, ev_map, ev_float, ev_complex, ev_nilIface, ev_nilFunc, ev_func, eget_cons, eget_nil, st_mv, st_pick, v_pick_t, v_pick_f, st_ext, v_ext0, v_ext1, v_ext2, v_ext3, st_int, v_int, int_add, int_sub, int_mul, int_eql, int_neq, int_lss, int_leq, int_gtr, int_geq, st_beq, v_beq, v_bne, st_not, v_not, st_conv, v_conv, st_faddr, v_faddr, st_iaddr, v_iaddr, st_aaddr, v_aaddr, st_nilChk, v_nil, st_len, v_len, v_lenS, st_load, v_load, got_one, got_row, mem_tip, mem_ro, mem_ret, st_alloc, st_box, st_store, v_store, got_store, cells_agg, cells_int, cells_bool, cells_slice, cells_pointer, cells_string, cells_complex, cells_func, one_int, one_bool, one_slice, one_pointer, one_string, one_complex, one_func, upd_push, get_push_self, AHeap.n_push, AHeap.n_upd, st_build, parts_nil, parts_cons, st_bslice, st_append, st_mkfun, st_mkface, st_isNil, st_max, v_max, st_min, v_min, st_field, st_index, st_slice0, v_slice0, v_slice0n, st_slice, kill_nil, st_call, v_call, forget_nil, forget_cons, Option.map_some, Option.map_none, Option.bind_some, List.map_cons, List.map_nil, if_true, if_false, Nat.reduceEqDiff, Int.reduceEq, Nat.reduceAdd, Nat.reduceMul, Bool.not_true, Bool.not_false, reduceCtorEq, decide_true, decide_false, Int.cast_ofNat_Int, eq_self, Int.reduceLT, Int.reduceLE, Int.reduceToNat, Int.toNat_natCast, Int.le_refl, Nat.le_refl, Nat.zero_add, Nat.add_zero, Nat.zero_mul, Nat.mul_one, Nat.mul_zero, and_self, and_true, true_and, List.length_cons, List.length_nil, List.all_cons, List.all_nil, Bool.and_self, Bool.and_true, Bool.true_and, List.take_zero, List.nil_append, List.drop_nil, List.append_nil, List.getElem?_cons_zero, List.getElem?_cons_succ, List.drop_succ_cons, List.drop_zero, List.take_succ_cons, List.cons_append, Nat.reduceLeDiff, r0, c1, c2, v_nilp, z]
  rw [w_enter]
  simp only [w_draw, dr_cons, dr_some, dr_none, dr_go, still_no, still_yes, next_no, next_yes, last_cons, last_nil, isStore, calm_no, calm_nil, calm_cons, calmB_some, isCall, freshI, dr_nil, dr_end, still_nil, still_cons, stillB_some, stamp_some, stampV_ptr, stampV_tuple, stampO, still_here, still_here0, List.nil_append, w_out, w_gives, fin_ret, fin_normal, ress_nil, ress_tmp, pack_one, pack_nil, pack_two, entry_nil, entry_one, entry_two, entry_three, entry_four, eq_skip, eq_exit, eq_ret, w_rows, w_done, w_seq, w_normal, w_ret, w_exit, w_cond, w_true, w_false, eq_block, block_normal, block_ret, block_exit, rows_nil, rows_cons, on_some, on_none, row_plain, row_guard, guard_tt, guard_ff, guard_tf, guard_ft, guard_no, ev_tmp, ev_int, ev_bool, ev_string, ev_slice, ev_pointer, ev_map, ev_float, ev_complex, ev_nilIface, ev_nilFunc, ev_func, eget_cons, eget_nil, st_mv, st_pick, v_pick_t, v_pick_f, st_ext, v_ext0, v_ext1, v_ext2, v_ext3, st_int, v_int, int_add, int_sub, int_mul, int_eql, int_neq, int_lss, int_leq, int_gtr, int_geq, st_beq, v_beq, v_bne, st_not, v_not, st_conv, v_conv, st_faddr, v_faddr, st_iaddr, v_iaddr, st_aaddr, v_aaddr, st_nilChk, v_nil, st_len, v_len, v_lenS, st_load, v_load, got_one, got_row, mem_tip, mem_ro, mem_ret, st_alloc, st_box, st_store, v_store, got_store, cells_agg, cells_int, cells_bool, cells_slice, cells_pointer, cells_string, cells_complex, cells_func, one_int, one_bool, one_slice, one_pointer, one_string, one_complex, one_func, upd_push, get_push_self, AHeap.n_push, AHeap.n_upd, st_build, parts_nil, parts_cons, st_bslice, st_append, st_mkfun, st_mkface, st_isNil, st_max, v_max, st_min, v_min, st_field, st_index, st_slice0, v_slice0, v_slice0n, st_slice, kill_nil, st_call, v_call, forget_nil, forget_cons, Option.map_some, Option.map_none, Option.bind_some, List.map_cons, List.map_nil, if_true, if_false, Nat.reduceEqDiff, Int.reduceEq, Nat.reduceAdd, Nat.reduceMul, Bool.not_true, Bool.not_false, reduceCtorEq, decide_true, decide_false, Int.cast_ofNat_Int, eq_self, Int.reduceLT, Int.reduceLE, Int.reduceToNat, Int.toNat_natCast, Int.le_refl, Nat.le_refl, Nat.zero_add, Nat.add_zero, Nat.zero_mul, Nat.mul_one, Nat.mul_zero, and_self, and_true, true_and, List.length_cons, List.length_nil, List.all_cons, List.all_nil, Bool.and_self, Bool.and_true, Bool.true_and, List.take_zero, List.nil_append, List.drop_nil, List.append_nil, List.getElem?_cons_zero, List.getElem?_cons_succ, List.drop_succ_cons, List.drop_zero, List.take_succ_cons, List.cons_append, Nat.reduceLeDiff, r1]
end Go.Proofs.Ytjicdpkgcofiaaa

