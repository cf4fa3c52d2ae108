/- What is proved here: what the program's functions come to, as far as the claimed statement asks. Conditions: those that each theorem names, and no others. -/
import Derived.Test.YtjicdpkgcofiaaaP1
import Derived.Test.YtjicdpkgcofiaaaP2
import Derived.Test.YtjicdpkgcofiaaaP3
/-! The longest rule, told by the rules alone. -/
set_option linter.unusedSimpArgs false
set_option linter.unusedVariables false
namespace Go.Proofs.Ytjicdpkgcofiaaa
open Go Lon
theorem mem_addIns : ∀ {us p : List Int} {P : List (List Int)} {q : List Int}, q ∈ addIns P p us ↔ q ∈ P ∨ ∃ a, a ≠ [] ∧ a <+: us ∧ q = p ++ a
  | [], p, P, q => by
    unfold addIns
    constructor
    · exact .inl
    · rintro (h | ⟨a, h1, h2, _⟩)
      · exact h
      · exact absurd (List.prefix_nil.1 h2) h1
  | u :: us, p, P, q => by
    unfold addIns
    rw [mem_addIns]
    constructor
    · rintro (h | ⟨a, h1, h2, rfl⟩)
      · split at h
        · exact .inl h
        · rcases List.mem_append.1 h with h | h
          · exact .inl h
          · exact .inr ⟨[u], by simp, ⟨us, rfl⟩, by simpa using h⟩
      · exact .inr ⟨u :: a, by simp, List.cons_prefix_cons.2 ⟨rfl, h2⟩, by simp⟩
    · rintro (h | ⟨a, h1, h2, rfl⟩)
      · left
        split
        · exact h
        · exact List.mem_append_left _ h
      · cases a with
        | nil => exact absurd rfl h1
        | cons v a =>
          obtain ⟨rfl, h3⟩ := List.cons_prefix_cons.1 h2
          cases a with
          | nil =>
            left
            split
            · assumption
            · simp
          | cons w a => exact .inr ⟨w :: a, by simp, h3, by simp⟩
theorem mem_pathsG : ∀ {L : List Rl} {P : List (List Int)} {q : List Int}, q ∈ L.foldl (fun P r => addIns P [] r.1) P ↔ q ∈ P ∨ ∃ r ∈ L, q ≠ [] ∧ q <+: r.1
  | [], P, q => by simp
  | r :: L, P, q => by
    rw [List.foldl_cons, mem_pathsG, mem_addIns]
    constructor
    · rintro ((h | ⟨a, h1, h2, rfl⟩) | ⟨x, h1, h2⟩)
      · exact .inl h
      · exact .inr ⟨r, List.mem_cons_self .., by simpa using h1, by simpa using h2⟩
      · exact .inr ⟨x, List.mem_cons_of_mem _ h1, h2⟩
    · rintro (h | ⟨x, h1, h2, h3⟩)
      · exact .inl (.inl h)
      · rcases List.mem_cons.1 h1 with rfl | h1
        · exact .inl (.inr ⟨q, h2, h3, rfl⟩)
        · exact .inr ⟨x, h1, h2, h3⟩
theorem mem_paths {L : List Rl} {q : List Int} : q ∈ paths L ↔ q = [] ∨ ∃ r ∈ L, q ≠ [] ∧ q <+: r.1 := by
  unfold paths
  rw [mem_pathsG, List.mem_singleton]
theorem paths_pre {L : List Rl} {p s : List Int} (h : p ++ s ∈ paths L) : p ∈ paths L := by
  rw [mem_paths] at h ⊢
  by_cases hp : p = []
  · exact .inl hp
  · rcases h with h | ⟨r, h1, h2, h3⟩
    · exact absurd (List.append_eq_nil_iff.1 h).1 hp
    · exact .inr ⟨r, h1, hp, (List.prefix_append p s).trans h3⟩
theorem paths_more {L : List Rl} {q : List Int} : (∃ u, q ++ [u] ∈ paths L) ↔ ∃ r ∈ L, q.length < r.1.length ∧ q <+: r.1 := by
  constructor
  · rintro ⟨u, h⟩
    rcases mem_paths.1 h with h | ⟨r, h1, h2, h3⟩
    · simp at h
    · refine ⟨r, h1, ?_, (List.prefix_append q [u]).trans h3⟩
      have := h3.length_le
      simp at this
      omega
  · rintro ⟨r, h1, h2, t, h3⟩
    cases t with
    | nil => rw [← h3] at h2; simp at h2
    | cons u t => exact ⟨u, mem_paths.2 (.inr ⟨r, h1, by simp, t, by rw [← h3]; simp⟩)⟩
/-- A rule's own place. -/
theorem fnd_get {L : List Rl} (hR : ∀ k r, L[k]? = some r → fnd (L.take k) r.1 < 0) {i : Nat} {r : Rl} (hr : L[i]? = some r) : ∀ (c : Nat), i + 1 + c ≤ L.length → fnd (L.take (i + 1 + c)) r.1 = i
  | 0, h => by
    have htk : L.take (i + 1) = L.take i ++ [r] := by rw [List.take_add_one, hr]; rfl
    show fnd (L.take (i + 1)) r.1 = i
    rw [htk, fnd_snoc (hR i r hr), if_pos rfl, List.length_take, Nat.min_eq_left (by omega)]
  | c + 1, h => by
    have ih := fnd_get hR hr c (by omega)
    obtain ⟨x, hx, _⟩ := drop_at (L := L) (i := i + 1 + c) (by omega)
    have htk : L.take (i + 1 + (c + 1)) = L.take (i + 1 + c) ++ [x] := by
      have : i + 1 + (c + 1) = i + 1 + c + 1 := by omega
      rw [this, List.take_add_one, hx]; rfl
    have hn := hR _ x hx
    rw [htk, fnd_snoc hn, if_neg (fun e => by rw [← e, ih] at hn; omega)]
    exact ih
theorem fnd_at {L : List Rl} (hR : ∀ k r, L[k]? = some r → fnd (L.take k) r.1 < 0) {i : Nat} {r : Rl} (hr : L[i]? = some r) : fnd L r.1 = i := by
  have hl := (List.getElem?_eq_some_iff.1 hr).1
  have := fnd_get hR hr (L.length - (i + 1)) (by omega)
  rwa [List.take_of_length_le (by omega)] at this
/-- The longest In with which units begin, its rule. -/
def Pre (L : List Rl) (q : List Int) (k : Int) (n : Nat) : Prop := n ≤ q.length ∧ (n = 0 → k = -1) ∧ (0 < n → k = fnd L (q.take n) ∧ 0 ≤ k) ∧ ∀ m, n < m → m ≤ q.length → fnd L (q.take m) < 0
theorem Pre.uniq {L : List Rl} {q : List Int} {k k' : Int} {n n' : Nat} (h : Pre L q k n) (h' : Pre L q k' n') : k = k' ∧ n = n' := by
  obtain ⟨a1, a2, a3, a4⟩ := h
  obtain ⟨b1, b2, b3, b4⟩ := h'
  rcases Nat.lt_trichotomy n n' with hlt | rfl | hlt
  · have h1 := a4 n' hlt b1
    obtain ⟨h2, h3⟩ := b3 (by omega)
    omega
  · refine ⟨?_, rfl⟩
    rcases Nat.eq_zero_or_pos n with h0 | h0
    · rw [a2 h0, b2 h0]
    · rw [(a3 h0).1, (b3 h0).1]
  · have h1 := b4 n hlt a1
    obtain ⟨h2, h3⟩ := a3 (by omega)
    omega
theorem lonF_is {L : List Rl} {N : List Nd} (hF : Fits (paths L) N) (hRF : RF (fnd L) (paths L) N) (hρ : ∀ q, q ∉ paths L → fnd L q = -1) : ∀ (us p : List Int) (k : Int) (n m : Nat), (paths L)[m]? = some p → Pre L p k n →
    Pre L (p ++ us) (lonF N (paths L) us p.length k n p m).1 (lonF N (paths L) us p.length k n p m).2.1 ∧ ((lonF N (paths L) us p.length k n p m).2.2 = true ↔ ∃ u, p ++ us ++ [u] ∈ paths L) := by
  intro us
  induction us with
  | nil =>
    intro p k n m hp hpre
    unfold lonF
    rw [List.append_nil]
    refine ⟨hpre, ?_⟩
    have hml : m < N.length := by rw [hF.len]; exact (List.getElem?_eq_some_iff.1 hp).1
    have hx := List.getElem?_eq_getElem hml
    have hc := hF.chain hx hp
    have h0 := hF.kid0 hx
    have hk : kidAt N m = N[m].kid := by unfold kidAt; rw [hx]
    simp only [hk, Bool.not_eq_true', decide_eq_false_iff_not]
    constructor
    · intro hne
      cases hkk : kidsOf (paths L) p with
      | nil =>
        rw [hkk] at hc
        have : N[m].kid ≤ 0 := hc
        omega
      | cons j r =>
        obtain ⟨u, hu⟩ := mem_kids.1 (show j ∈ kidsOf (paths L) p by rw [hkk]; exact List.mem_cons_self ..)
        exact ⟨u, List.mem_of_getElem? hu⟩
    · rintro ⟨u, hu⟩
      obtain ⟨j, hj, hju⟩ := List.getElem_of_mem hu
      have hm : j ∈ kidsOf (paths L) p := mem_kids.2 ⟨u, by rw [List.getElem?_eq_getElem hj, hju]⟩
      cases hkk : kidsOf (paths L) p with
      | nil => rw [hkk] at hm; cases hm
      | cons j r =>
        rw [hkk] at hc
        obtain ⟨h1, h2, _⟩ := hc
        omega
  | cons u us ih =>
    intro p k n m hp hpre
    unfold lonF
    have happ : p ++ u :: us = p ++ [u] ++ us := by simp
    cases hpk : pickU N u (kidsOf (paths L) p) with
    | none =>
      have hno := (pick_none hF).1 hpk
      obtain ⟨a1, a2, a3, a4⟩ := hpre
      refine ⟨⟨by simp; omega, a2, fun h => ?_, fun m' h1 h2 => ?_⟩, ?_⟩
      · rw [List.take_append_of_le_length a1]
        exact a3 h
      · rcases Nat.lt_or_ge p.length m' with hl | hl
        · have : (p ++ u :: us).take m' = p ++ [u] ++ us.take (m' - p.length - 1) := by
            rw [List.take_append, List.take_of_length_le (by omega)]
            obtain ⟨d, hd⟩ : ∃ d, m' - p.length = d + 1 := ⟨m' - p.length - 1, by omega⟩
            rw [hd]
            simp
          rw [this, hρ _ (fun hm => hno (paths_pre hm))]
          decide
        · rw [List.take_append_of_le_length hl]
          exact a4 m' h1 hl
      · simp only [Bool.false_eq_true, false_iff]
        rintro ⟨v, hv⟩
        rw [happ, List.append_assoc] at hv
        exact hno (paths_pre hv)
    | some j =>
      have hpj := (pick_iff hF).1 hpk
      have hjl : j < N.length := by rw [hF.len]; exact (List.getElem?_eq_some_iff.1 hpj).1
      have hxj := List.getElem?_eq_getElem hjl
      have hrj : ruleAt N j = fnd L (p ++ [u]) := by unfold ruleAt; rw [hxj]; exact hRF _ _ _ hxj hpj
      obtain ⟨a1, a2, a3, a4⟩ := hpre
      have hlen : (p ++ [u]).length = p.length + 1 := by simp
      rw [happ]
      simp only
      rw [hrj]
      by_cases h0 : fnd L (p ++ [u]) ≥ 0
      · rw [if_pos h0]
        have := ih (p ++ [u]) (fnd L (p ++ [u])) (p.length + 1) j hpj ⟨by omega, fun h => by omega, fun _ => ⟨by rw [List.take_of_length_le (by omega)], h0⟩, fun m' h1 h2 => by omega⟩
        rw [hlen] at this
        exact this
      · rw [if_neg h0]
        have := ih (p ++ [u]) k n j hpj ⟨by omega, a2, fun h => by rw [List.take_append_of_le_length a1]; exact a3 h, fun m' h1 h2 => by
          rcases Nat.lt_or_ge p.length m' with hl | hl
          · rw [List.take_of_length_le (by omega)]; omega
          · rw [List.take_append_of_le_length hl]; exact a4 m' h1 hl⟩
        rw [hlen] at this
        exact this
theorem lon_is {L : List Rl} {N : List Nd} (hF : Fits (paths L) N) (hRF : RF (fnd L) (paths L) N) (hρ : ∀ q, q ∉ paths L → fnd L q = -1) (us : List Int) :
    Pre L us (lon N (paths L) us).1 (lon N (paths L) us).2.1 ∧ ((lon N (paths L) us).2.2 = true ↔ ∃ r ∈ L, us.length < r.1.length ∧ us <+: r.1) := by
  have := lonF_is hF hRF hρ us [] (-1) 0 0 hF.root ⟨Nat.le_refl _, fun _ => rfl, fun h => by omega, fun m h1 h2 => by simp at h2; omega⟩
  rw [List.nil_append, paths_more] at this
  exact this
/-- The document's loop. -/
def docF (us : List Int) : List Rl → Nat → Int → Nat → Bool → Int × Nat × Bool
  | [], _, k, n, o => (k, n, o)
  | r :: L, i, k, n, o =>
    if r.1.length ≤ us.length ∧ r.1 = us.take r.1.length ∧ n < r.1.length then docF us L (i + 1) i r.1.length (o || (decide (us.length < r.1.length) && decide (r.1.take us.length = us)))
    else docF us L (i + 1) k n (o || (decide (us.length < r.1.length) && decide (r.1.take us.length = us)))
theorem pre_take {a b : List Int} : a <+: b ↔ b.take a.length = a := by
  constructor
  · rintro ⟨t, rfl⟩; simp
  · intro h; exact ⟨b.drop a.length, by have := List.take_append_drop a.length b; rw [h] at this; exact this⟩
theorem docF_is {us : List Int} : ∀ (R T : List Rl) (k : Int) (n : Nat) (o : Bool), (∀ j r, (T ++ R)[j]? = some r → fnd ((T ++ R).take j) r.1 < 0) → Pre T us k n → (o = true ↔ ∃ r ∈ T, us.length < r.1.length ∧ us <+: r.1) →
    Pre (T ++ R) us (docF us R T.length k n o).1 (docF us R T.length k n o).2.1 ∧ ((docF us R T.length k n o).2.2 = true ↔ ∃ r ∈ T ++ R, us.length < r.1.length ∧ us <+: r.1)
  | [], T, k, n, o, hR, hp, ho => by
    rw [List.append_nil]
    exact ⟨hp, ho⟩
  | r :: R, T, k, n, o, hR, hp, ho => by
    have happ : T ++ r :: R = T ++ [r] ++ R := by simp
    have hn : fnd T r.1 < 0 := by
      have := hR T.length r (by rw [List.getElem?_append_right (Nat.le_refl _), Nat.sub_self]; rfl)
      rwa [List.take_left] at this
    have hl : (T ++ [r]).length = T.length + 1 := by simp
    obtain ⟨a1, a2, a3, a4⟩ := hp
    have ho' : (o || (decide (us.length < r.1.length) && decide (r.1.take us.length = us))) = true ↔ ∃ x ∈ T ++ [r], us.length < x.1.length ∧ us <+: x.1 := by
      rw [Bool.or_eq_true, Bool.and_eq_true, decide_eq_true_eq, decide_eq_true_eq, ← pre_take, ho]
      constructor
      · rintro (⟨x, h1, h2⟩ | h)
        · exact ⟨x, List.mem_append_left _ h1, h2⟩
        · exact ⟨r, by simp, h⟩
      · rintro ⟨x, h1, h2⟩
        rcases List.mem_append.1 h1 with h1 | h1
        · exact .inl ⟨x, h1, h2⟩
        · simp at h1
          subst h1
          exact .inr h2
    rw [happ] at hR ⊢
    unfold docF
    split
    · rename_i hc
      obtain ⟨c1, c2, c3⟩ := hc
      have := docF_is R (T ++ [r]) T.length r.1.length _ hR ⟨c1, fun h => by omega, fun _ => ⟨by rw [fnd_snoc hn, if_pos c2.symm], by omega⟩, fun m h1 h2 => by
        rw [fnd_snoc hn, if_neg (fun e => by have := congrArg List.length e; rw [List.length_take] at this; omega)]
        exact a4 m (by omega) h2⟩ ho'
      rw [hl] at this
      exact this
    · rename_i hc
      have := docF_is R (T ++ [r]) k n _ hR ⟨a1, a2, fun h => by
        obtain ⟨b1, b2⟩ := a3 h
        rw [fnd_snoc hn, if_neg (fun e => by rw [e] at b1; omega)]
        exact ⟨b1, b2⟩, fun m h1 h2 => by
        rw [fnd_snoc hn, if_neg (fun e => hc (by
          have hm : r.1.length = m := by rw [← e, List.length_take]; omega
          exact ⟨by omega, by rw [hm]; exact e.symm, by omega⟩))]
        exact a4 m h1 h2⟩ ho'
      rw [hl] at this
      exact this
/-- What is read of a trie is what the document says. -/
theorem lon_doc {L : List Rl} {N : List Nd} (hR : Right L) (hF : Fits (paths L) N) (hRF : RF (fnd L) (paths L) N) (hρ : ∀ q, q ∉ paths L → fnd L q = -1) (us : List Int) : lon N (paths L) us = docF us L 0 (-1) 0 false := by
  obtain ⟨h1, h2⟩ := lon_is hF hRF hρ us
  have h0 : ∀ (q : List Int), fnd [] q = -1 := fun _ => rfl
  obtain ⟨h3, h4⟩ := docF_is (us := us) L [] (-1) 0 false (by simpa using hR.2) ⟨Nat.zero_le _, fun _ => rfl, fun h => by omega, fun m _ _ => by rw [h0]; decide⟩ (by simp)
  rw [List.nil_append] at h3 h4
  obtain ⟨e1, e2⟩ := h1.uniq h3
  have e3 : (lon N (paths L) us).2.2 = (docF us L 0 (-1) 0 false).2.2 := by
    rw [Bool.eq_iff_iff]
    exact h2.trans h4.symm
  exact Prod.ext e1 (Prod.ext e2 e3)
end Go.Proofs.Ytjicdpkgcofiaaa

/-! A trie in memory, read: what is out of range; its size; the Outs. -/
set_option linter.unusedSimpArgs false
set_option linter.unusedVariables false
namespace Go.Proofs.Ytjicdpkgcofiaaa
open Go Lon
theorem c_Size {t : Nat} {N : List Nd} {vr : Value} {H : AHeap} (hr : TrieAt H t N vr) : cw Try.prog (tabF tab) om1 18 [.pointer (some ⟨t, 0, none⟩)] H = some (.int .i64 N.length, H) := by
  obtain ⟨vn, hr⟩ := hr.rd
  rw [cw_run (F := F_trie_Trie__Size) rfl rfl rfl]
  unfold F_trie_Trie__Size k_trie_Trie__Size
  have hl := hr.len H
  have hn := hr.nodes
  simp only [w_draw, dr_cons, dr_some, dr_none, dr_go, still_no, still_yes, next_no, next_yes, last_cons, last_nil, isStore, calm_no, calm_nil, calm_cons, calmB_some, isCall, freshI, dr_nil, dr_end, still_nil, still_cons, stillB_some, stamp_some, stampV_ptr, stampV_tuple, stampO, still_here, still_here0, List.nil_append, w_out, w_gives, fin_ret, fin_normal, ress_nil, ress_tmp, pack_one, pack_nil, pack_two, entry_nil, entry_one, entry_two, entry_three, entry_four, eq_skip, eq_exit, eq_ret, w_rows, w_done, w_seq, w_normal, w_ret, w_exit, w_cond, w_true, w_false, eq_block, block_normal, block_ret, block_exit, rows_nil, rows_cons, on_some, on_none, row_plain, row_guard, guard_tt, guard_ff, guard_tf, guard_ft, guard_no, ev_tmp, ev_int, ev_bool, ev_string, ev_slice, ev_pointer, ev_map, ev_float, ev_complex, ev_nilIface, ev_nilFunc, ev_func, eget_cons, eget_nil, st_mv, st_pick, v_pick_t, v_pick_f, st_ext, v_ext0, v_ext1, v_ext2, v_ext3, st_int, v_int, int_add, int_sub, int_mul, int_eql, int_neq, int_lss, int_leq, int_gtr, int_geq, st_beq, v_beq, v_bne, st_not, v_not, st_conv, v_conv, st_faddr, v_faddr, st_iaddr, v_iaddr, st_aaddr, v_aaddr, st_nilChk, v_nil, st_len, v_len, v_lenS, st_load, v_load, got_one, got_row, mem_tip, mem_ro, mem_ret, st_alloc, st_box, st_store, v_store, got_store, cells_agg, cells_int, cells_bool, cells_slice, cells_pointer, cells_string, cells_complex, cells_func, one_int, one_bool, one_slice, one_pointer, one_string, one_complex, one_func, upd_push, get_push_self, AHeap.n_push, AHeap.n_upd, st_build, parts_nil, parts_cons, st_bslice, st_append, st_mkfun, st_mkface, st_isNil, st_max, v_max, st_min, v_min, st_field, st_index, st_slice0, v_slice0, v_slice0n, st_slice, kill_nil, st_call, v_call, forget_nil, forget_cons, Option.map_some, Option.map_none, Option.bind_some, List.map_cons, List.map_nil, if_true, if_false, Nat.reduceEqDiff, Int.reduceEq, Nat.reduceAdd, Nat.reduceMul, Bool.not_true, Bool.not_false, reduceCtorEq, decide_true, decide_false, Int.cast_ofNat_Int, eq_self, Int.reduceLT, Int.reduceLE, Int.reduceToNat, Int.toNat_natCast, Int.le_refl, Nat.le_refl, Nat.zero_add, Nat.add_zero, Nat.zero_mul, Nat.mul_one, Nat.mul_zero, and_self, and_true, true_and, List.length_cons, List.length_nil, List.all_cons, List.all_nil, Bool.and_self, Bool.and_true, Bool.true_and, List.take_zero, List.nil_append, List.drop_nil, List.append_nil, List.getElem?_cons_zero, List.getElem?_cons_succ, List.drop_succ_cons, List.drop_zero, List.take_succ_cons, List.cons_append, Nat.reduceLeDiff, hn, hl]
theorem c_RuleNo {t : Nat} {N : List Nd} {vr : Value} {a : Int} {H : AHeap} (hr : TrieAt H t N vr) (ha : a < 0 ∨ a ≥ N.length) : cw Try.prog (tabF tab) om1 21 [.pointer (some ⟨t, 0, none⟩), .int .i64 a] H = some (.int .i64 (-1), H) := by
  obtain ⟨vn, hr⟩ := hr.rd
  rw [cw_run (F := F_trie_Trie__Rule) rfl rfl rfl]
  unfold F_trie_Trie__Rule k_trie_Trie__Rule
  have hl := hr.len H
  have hn := hr.nodes
  by_cases h1 : a < 0
  · simp only [w_draw, dr_cons, dr_some, dr_none, dr_go, still_no, still_yes, next_no, next_yes, last_cons, last_nil, isStore, calm_no, calm_nil, calm_cons, calmB_some, isCall, freshI, dr_nil, dr_end, still_nil, still_cons, stillB_some, stamp_some, stampV_ptr, stampV_tuple, stampO, still_here, still_here0, List.nil_append, w_out, w_gives, fin_ret, fin_normal, ress_nil, ress_tmp, pack_one, pack_nil, pack_two, entry_nil, entry_one, entry_two, entry_three, entry_four, eq_skip, eq_exit, eq_ret, w_rows, w_done, w_seq, w_normal, w_ret, w_exit, w_cond, w_true, w_false, eq_block, block_normal, block_ret, block_exit, rows_nil, rows_cons, on_some, on_none, row_plain, row_guard, guard_tt, guard_ff, guard_tf, guard_ft, guard_no, ev_tmp, ev_int, ev_bool, ev_string, ev_slice, ev_pointer, ev_map, ev_float, ev_complex, ev_nilIface, ev_nilFunc, ev_func, eget_cons, eget_nil, st_mv, st_pick, v_pick_t, v_pick_f, st_ext, v_ext0, v_ext1, v_ext2, v_ext3, st_int, v_int, int_add, int_sub, int_mul, int_eql, int_neq, int_lss, int_leq, int_gtr, int_geq, st_beq, v_beq, v_bne, st_not, v_not, st_conv, v_conv, st_faddr, v_faddr, st_iaddr, v_iaddr, st_aaddr, v_aaddr, st_nilChk, v_nil, st_len, v_len, v_lenS, st_load, v_load, got_one, got_row, mem_tip, mem_ro, mem_ret, st_alloc, st_box, st_store, v_store, got_store, cells_agg, cells_int, cells_bool, cells_slice, cells_pointer, cells_string, cells_complex, cells_func, one_int, one_bool, one_slice, one_pointer, one_string, one_complex, one_func, upd_push, get_push_self, AHeap.n_push, AHeap.n_upd, st_build, parts_nil, parts_cons, st_bslice, st_append, st_mkfun, st_mkface, st_isNil, st_max, v_max, st_min, v_min, st_field, st_index, st_slice0, v_slice0, v_slice0n, st_slice, kill_nil, st_call, v_call, forget_nil, forget_cons, Option.map_some, Option.map_none, Option.bind_some, List.map_cons, List.map_nil, if_true, if_false, Nat.reduceEqDiff, Int.reduceEq, Nat.reduceAdd, Nat.reduceMul, Bool.not_true, Bool.not_false, reduceCtorEq, decide_true, decide_false, Int.cast_ofNat_Int, eq_self, Int.reduceLT, Int.reduceLE, Int.reduceToNat, Int.toNat_natCast, Int.le_refl, Nat.le_refl, Nat.zero_add, Nat.add_zero, Nat.zero_mul, Nat.mul_one, Nat.mul_zero, and_self, and_true, true_and, List.length_cons, List.length_nil, List.all_cons, List.all_nil, Bool.and_self, Bool.and_true, Bool.true_and, List.take_zero, List.nil_append, List.drop_nil, List.append_nil, List.getElem?_cons_zero, List.getElem?_cons_succ, List.drop_succ_cons, List.drop_zero, List.take_succ_cons, List.cons_append, Nat.reduceLeDiff, h1]
  · have h2 : a ≥ (N.length : Int) := by omega
    simp only [w_draw, dr_cons, dr_some, dr_none, dr_go, still_no, still_yes, next_no, next_yes, last_cons, last_nil, isStore, calm_no, calm_nil, calm_cons, calmB_some, isCall, freshI, dr_nil, dr_end, still_nil, still_cons, stillB_some, stamp_some, stampV_ptr, stampV_tuple, stampO, still_here, still_here0, List.nil_append, w_out, w_gives, fin_ret, fin_normal, ress_nil, ress_tmp, pack_one, pack_nil, pack_two, entry_nil, entry_one, entry_two, entry_three, entry_four, eq_skip, eq_exit, eq_ret, w_rows, w_done, w_seq, w_normal, w_ret, w_exit, w_cond, w_true, w_false, eq_block, block_normal, block_ret, block_exit, rows_nil, rows_cons, on_some, on_none, row_plain, row_guard, guard_tt, guard_ff, guard_tf, guard_ft, guard_no, ev_tmp, ev_int, ev_bool, ev_string, ev_slice, ev_pointer, ev_map, ev_float, ev_complex, ev_nilIface, ev_nilFunc, ev_func, eget_cons, eget_nil, st_mv, st_pick, v_pick_t, v_pick_f, st_ext, v_ext0, v_ext1, v_ext2, v_ext3, st_int, v_int, int_add, int_sub, int_mul, int_eql, int_neq, int_lss, int_leq, int_gtr, int_geq, st_beq, v_beq, v_bne, st_not, v_not, st_conv, v_conv, st_faddr, v_faddr, st_iaddr, v_iaddr, st_aaddr, v_aaddr, st_nilChk, v_nil, st_len, v_len, v_lenS, st_load, v_load, got_one, got_row, mem_tip, mem_ro, mem_ret, st_alloc, st_box, st_store, v_store, got_store, cells_agg, cells_int, cells_bool, cells_slice, cells_pointer, cells_string, cells_complex, cells_func, one_int, one_bool, one_slice, one_pointer, one_string, one_complex, one_func, upd_push, get_push_self, AHeap.n_push, AHeap.n_upd, st_build, parts_nil, parts_cons, st_bslice, st_append, st_mkfun, st_mkface, st_isNil, st_max, v_max, st_min, v_min, st_field, st_index, st_slice0, v_slice0, v_slice0n, st_slice, kill_nil, st_call, v_call, forget_nil, forget_cons, Option.map_some, Option.map_none, Option.bind_some, List.map_cons, List.map_nil, if_true, if_false, Nat.reduceEqDiff, Int.reduceEq, Nat.reduceAdd, Nat.reduceMul, Bool.not_true, Bool.not_false, reduceCtorEq, decide_true, decide_false, Int.cast_ofNat_Int, eq_self, Int.reduceLT, Int.reduceLE, Int.reduceToNat, Int.toNat_natCast, Int.le_refl, Nat.le_refl, Nat.zero_add, Nat.add_zero, Nat.zero_mul, Nat.mul_one, Nat.mul_zero, and_self, and_true, true_and, List.length_cons, List.length_nil, List.all_cons, List.all_nil, Bool.and_self, Bool.and_true, Bool.true_and, List.take_zero, List.nil_append, List.drop_nil, List.append_nil, List.getElem?_cons_zero, List.getElem?_cons_succ, List.drop_succ_cons, List.drop_zero, List.take_succ_cons, List.cons_append, Nat.reduceLeDiff, h1, hn, hl, h2]
theorem c_LeafNo {t : Nat} {N : List Nd} {vr : Value} {a : Int} {H : AHeap} (hr : TrieAt H t N vr) (ha : a < 0 ∨ a ≥ N.length) : cw Try.prog (tabF tab) om1 20 [.pointer (some ⟨t, 0, none⟩), .int .i64 a] H = some (.bool true, H) := by
  obtain ⟨vn, hr⟩ := hr.rd
  rw [cw_run (F := F_trie_Trie__Leaf) rfl rfl rfl]
  unfold F_trie_Trie__Leaf k_trie_Trie__Leaf
  have hl := hr.len H
  have hn := hr.nodes
  by_cases h1 : a < 0
  · simp only [w_draw, dr_cons, dr_some, dr_none, dr_go, still_no, still_yes, next_no, next_yes, last_cons, last_nil, isStore, calm_no, calm_nil, calm_cons, calmB_some, isCall, freshI, dr_nil, dr_end, still_nil, still_cons, stillB_some, stamp_some, stampV_ptr, stampV_tuple, stampO, still_here, still_here0, List.nil_append, w_out, w_gives, fin_ret, fin_normal, ress_nil, ress_tmp, pack_one, pack_nil, pack_two, entry_nil, entry_one, entry_two, entry_three, entry_four, eq_skip, eq_exit, eq_ret, w_rows, w_done, w_seq, w_normal, w_ret, w_exit, w_cond, w_true, w_false, eq_block, block_normal, block_ret, block_exit, rows_nil, rows_cons, on_some, on_none, row_plain, row_guard, guard_tt, guard_ff, guard_tf, guard_ft, guard_no, ev_tmp, ev_int, ev_bool, ev_string, ev_slice, ev_pointer, ev_map, ev_float, ev_complex, ev_nilIface, ev_nilFunc, ev_func, eget_cons, eget_nil, st_mv, st_pick, v_pick_t, v_pick_f, st_ext, v_ext0, v_ext1, v_ext2, v_ext3, st_int, v_int, int_add, int_sub, int_mul, int_eql, int_neq, int_lss, int_leq, int_gtr, int_geq, st_beq, v_beq, v_bne, st_not, v_not, st_conv, v_conv, st_faddr, v_faddr, st_iaddr, v_iaddr, st_aaddr, v_aaddr, st_nilChk, v_nil, st_len, v_len, v_lenS, st_load, v_load, got_one, got_row, mem_tip, mem_ro, mem_ret, st_alloc, st_box, st_store, v_store, got_store, cells_agg, cells_int, cells_bool, cells_slice, cells_pointer, cells_string, cells_complex, cells_func, one_int, one_bool, one_slice, one_pointer, one_string, one_complex, one_func, upd_push, get_push_self, AHeap.n_push, AHeap.n_upd, st_build, parts_nil, parts_cons, st_bslice, st_append, st_mkfun, st_mkface, st_isNil, st_max, v_max, st_min, v_min, st_field, st_index, st_slice0, v_slice0, v_slice0n, st_slice, kill_nil, st_call, v_call, forget_nil, forget_cons, Option.map_some, Option.map_none, Option.bind_some, List.map_cons, List.map_nil, if_true, if_false, Nat.reduceEqDiff, Int.reduceEq, Nat.reduceAdd, Nat.reduceMul, Bool.not_true, Bool.not_false, reduceCtorEq, decide_true, decide_false, Int.cast_ofNat_Int, eq_self, Int.reduceLT, Int.reduceLE, Int.reduceToNat, Int.toNat_natCast, Int.le_refl, Nat.le_refl, Nat.zero_add, Nat.add_zero, Nat.zero_mul, Nat.mul_one, Nat.mul_zero, and_self, and_true, true_and, List.length_cons, List.length_nil, List.all_cons, List.all_nil, Bool.and_self, Bool.and_true, Bool.true_and, List.take_zero, List.nil_append, List.drop_nil, List.append_nil, List.getElem?_cons_zero, List.getElem?_cons_succ, List.drop_succ_cons, List.drop_zero, List.take_succ_cons, List.cons_append, Nat.reduceLeDiff, h1]
  · have h2 : a ≥ (N.length : Int) := by omega
    simp only [w_draw, dr_cons, dr_some, dr_none, dr_go, still_no, still_yes, next_no, next_yes, last_cons, last_nil, isStore, calm_no, calm_nil, calm_cons, calmB_some, isCall, freshI, dr_nil, dr_end, still_nil, still_cons, stillB_some, stamp_some, stampV_ptr, stampV_tuple, stampO, still_here, still_here0, List.nil_append, w_out, w_gives, fin_ret, fin_normal, ress_nil, ress_tmp, pack_one, pack_nil, pack_two, entry_nil, entry_one, entry_two, entry_three, entry_four, eq_skip, eq_exit, eq_ret, w_rows, w_done, w_seq, w_normal, w_ret, w_exit, w_cond, w_true, w_false, eq_block, block_normal, block_ret, block_exit, rows_nil, rows_cons, on_some, on_none, row_plain, row_guard, guard_tt, guard_ff, guard_tf, guard_ft, guard_no, ev_tmp, ev_int, ev_bool, ev_string, ev_slice, ev_pointer, ev_map, ev_float, ev_complex, ev_nilIface, ev_nilFunc, ev_func, eget_cons, eget_nil, st_mv, st_pick, v_pick_t, v_pick_f, st_ext, v_ext0, v_ext1, v_ext2, v_ext3, st_int, v_int, int_add, int_sub, int_mul, int_eql, int_neq, int_lss, int_leq, int_gtr, int_geq, st_beq, v_beq, v_bne, st_not, v_not, st_conv, v_conv, st_faddr, v_faddr, st_iaddr, v_iaddr, st_aaddr, v_aaddr, st_nilChk, v_nil, st_len, v_len, v_lenS, st_load, v_load, got_one, got_row, mem_tip, mem_ro, mem_ret, st_alloc, st_box, st_store, v_store, got_store, cells_agg, cells_int, cells_bool, cells_slice, cells_pointer, cells_string, cells_complex, cells_func, one_int, one_bool, one_slice, one_pointer, one_string, one_complex, one_func, upd_push, get_push_self, AHeap.n_push, AHeap.n_upd, st_build, parts_nil, parts_cons, st_bslice, st_append, st_mkfun, st_mkface, st_isNil, st_max, v_max, st_min, v_min, st_field, st_index, st_slice0, v_slice0, v_slice0n, st_slice, kill_nil, st_call, v_call, forget_nil, forget_cons, Option.map_some, Option.map_none, Option.bind_some, List.map_cons, List.map_nil, if_true, if_false, Nat.reduceEqDiff, Int.reduceEq, Nat.reduceAdd, Nat.reduceMul, Bool.not_true, Bool.not_false, reduceCtorEq, decide_true, decide_false, Int.cast_ofNat_Int, eq_self, Int.reduceLT, Int.reduceLE, Int.reduceToNat, Int.toNat_natCast, Int.le_refl, Nat.le_refl, Nat.zero_add, Nat.add_zero, Nat.zero_mul, Nat.mul_one, Nat.mul_zero, and_self, and_true, true_and, List.length_cons, List.length_nil, List.all_cons, List.all_nil, Bool.and_self, Bool.and_true, Bool.true_and, List.take_zero, List.nil_append, List.drop_nil, List.append_nil, List.getElem?_cons_zero, List.getElem?_cons_succ, List.drop_succ_cons, List.drop_zero, List.take_succ_cons, List.cons_append, Nat.reduceLeDiff, h1, hn, hl, h2]
theorem app_nil2 {H : AHeap} {x : Value} {l : List Int} {el : TypeId} (hx : Ints H x l) (hb : l.length * 8 ≤ 140737488355328) :
    ∃ v H', appendA H (.slice none 0 0) x el 1 8 = some (v, H') ∧ Ext H H' ∧ Ints H' v l ∧ From H.n v := by
  by_cases hl : 0 < l.length
  · obtain ⟨c, h⟩ := app_new (el := el) hx hb hl
    exact ⟨_, _, h, Ext.push _ _, Sl.new get_push_self mem_tip (by simp [ints]), Nat.le_refl _⟩
  · have h0 : l.length = 0 := by omega
    have h1 : l = [] := List.length_eq_zero_iff.1 h0
    subst h1
    refine ⟨.slice none 0 0, H, ?_, Ext.refl _, Sl.nil H 1, trivial⟩
    obtain ⟨⟨a, c, rfl⟩, hc⟩ := hx
    have h2 : cellsOf H 1 (.slice none 0 0) = some [] := rfl
    unfold appendA
    simp only [h2, hc]
    exact if_pos List.length_nil
/-- A rule's Out, as the trie holds it. -/
theorem c_Out {t i : Nat} {N : List Nd} {vr : Value} {O : List (List Int)} {o : List Int} {H : AHeap} (hr : TrieAt H t N vr) (hO : Rules H vr (O.map fun o => ([], o))) (ho : O[i]? = some o) (hb : o.length * 8 ≤ 140737488355328) :
    Gives (cw Try.prog (tabF tab) om1 22 [.pointer (some ⟨t, 0, none⟩), .int .i64 (i : Int)] H) fun v H' => Ext H H' ∧ Ints H' v o ∧ From H.n v := by
  obtain ⟨vn, hr⟩ := hr.rd
  rw [cw_run (F := F_trie_Trie__Out) rfl rfl rfl]
  unfold F_trie_Trie__Out k_trie_Trie__Out
  have hl := hO.len (H2 := H)
  rw [List.length_map] at hl
  have hk := (List.getElem?_eq_some_iff.1 ho).1
  have hn := hr.rules
  have hn' := hr.rules'
  have h1 : ¬ (i : Int) < 0 := by omega
  have h2 : ¬ (i : Int) ≥ (O.length : Int) := by omega
  obtain ⟨i1, o1, vi, vo, a1, a2, a3, a4, a5, a6, _⟩ := hO.at (show (O.map fun o => (([], o) : Rl))[i]? = some ([], o) by rw [List.getElem?_map, ho]; rfl)
  obtain ⟨v, H', g1, g2, g3, g4⟩ := app_nil2 (el := 3) a6 hb
  simp only [w_draw, dr_cons, dr_some, dr_none, dr_go, still_no, still_yes, next_no, next_yes, last_cons, last_nil, isStore, calm_no, calm_nil, calm_cons, calmB_some, isCall, freshI, dr_nil, dr_end, still_nil, still_cons, stillB_some, stamp_some, stampV_ptr, stampV_tuple, stampO, still_here, still_here0, List.nil_append, w_out, w_gives, fin_ret, fin_normal, ress_nil, ress_tmp, pack_one, pack_nil, pack_two, entry_nil, entry_one, entry_two, entry_three, entry_four, eq_skip, eq_exit, eq_ret, w_rows, w_done, w_seq, w_normal, w_ret, w_exit, w_cond, w_true, w_false, eq_block, block_normal, block_ret, block_exit, rows_nil, rows_cons, on_some, on_none, row_plain, row_guard, guard_tt, guard_ff, guard_tf, guard_ft, guard_no, ev_tmp, ev_int, ev_bool, ev_string, ev_slice, ev_pointer, ev_map, ev_float, ev_complex, ev_nilIface, ev_nilFunc, ev_func, eget_cons, eget_nil, st_mv, st_pick, v_pick_t, v_pick_f, st_ext, v_ext0, v_ext1, v_ext2, v_ext3, st_int, v_int, int_add, int_sub, int_mul, int_eql, int_neq, int_lss, int_leq, int_gtr, int_geq, st_beq, v_beq, v_bne, st_not, v_not, st_conv, v_conv, st_faddr, v_faddr, st_iaddr, v_iaddr, st_aaddr, v_aaddr, st_nilChk, v_nil, st_len, v_len, v_lenS, st_load, v_load, got_one, got_row, mem_tip, mem_ro, mem_ret, st_alloc, st_box, st_store, v_store, got_store, cells_agg, cells_int, cells_bool, cells_slice, cells_pointer, cells_string, cells_complex, cells_func, one_int, one_bool, one_slice, one_pointer, one_string, one_complex, one_func, upd_push, get_push_self, AHeap.n_push, AHeap.n_upd, st_build, parts_nil, parts_cons, st_bslice, st_append, st_mkfun, st_mkface, st_isNil, st_max, v_max, st_min, v_min, st_field, st_index, st_slice0, v_slice0, v_slice0n, st_slice, kill_nil, st_call, v_call, forget_nil, forget_cons, Option.map_some, Option.map_none, Option.bind_some, List.map_cons, List.map_nil, if_true, if_false, Nat.reduceEqDiff, Int.reduceEq, Nat.reduceAdd, Nat.reduceMul, Bool.not_true, Bool.not_false, reduceCtorEq, decide_true, decide_false, Int.cast_ofNat_Int, eq_self, Int.reduceLT, Int.reduceLE, Int.reduceToNat, Int.toNat_natCast, Int.le_refl, Nat.le_refl, Nat.zero_add, Nat.add_zero, Nat.zero_mul, Nat.mul_one, Nat.mul_zero, and_self, and_true, true_and, List.length_cons, List.length_nil, List.all_cons, List.all_nil, Bool.and_self, Bool.and_true, Bool.true_and, List.take_zero, List.nil_append, List.drop_nil, List.append_nil, List.getElem?_cons_zero, List.getElem?_cons_succ, List.drop_succ_cons, List.drop_zero, List.take_succ_cons, List.cons_append, Nat.reduceLeDiff, h1, hn, hn', hl, h2, a1, a3, g1]
  exact ⟨g2, g3, g4⟩
theorem c_OutNo {t : Nat} {N : List Nd} {vr : Value} {O : List (List Int)} {a : Int} {H : AHeap} (hr : TrieAt H t N vr) (hO : Rules H vr (O.map fun o => ([], o))) (ha : a < 0 ∨ a ≥ O.length) :
    cw Try.prog (tabF tab) om1 22 [.pointer (some ⟨t, 0, none⟩), .int .i64 a] H = some (.slice none 0 0, H) := by
  obtain ⟨vn, hr⟩ := hr.rd
  rw [cw_run (F := F_trie_Trie__Out) rfl rfl rfl]
  unfold F_trie_Trie__Out k_trie_Trie__Out
  have hl := hO.len (H2 := H)
  rw [List.length_map] at hl
  have hn := hr.rules
  have hn' := hr.rules'
  by_cases h1 : a < 0
  · simp only [w_draw, dr_cons, dr_some, dr_none, dr_go, still_no, still_yes, next_no, next_yes, last_cons, last_nil, isStore, calm_no, calm_nil, calm_cons, calmB_some, isCall, freshI, dr_nil, dr_end, still_nil, still_cons, stillB_some, stamp_some, stampV_ptr, stampV_tuple, stampO, still_here, still_here0, List.nil_append, w_out, w_gives, fin_ret, fin_normal, ress_nil, ress_tmp, pack_one, pack_nil, pack_two, entry_nil, entry_one, entry_two, entry_three, entry_four, eq_skip, eq_exit, eq_ret, w_rows, w_done, w_seq, w_normal, w_ret, w_exit, w_cond, w_true, w_false, eq_block, block_normal, block_ret, block_exit, rows_nil, rows_cons, on_some, on_none, row_plain, row_guard, guard_tt, guard_ff, guard_tf, guard_ft, guard_no, ev_tmp, ev_int, ev_bool, ev_string, ev_slice, ev_pointer, ev_map, ev_float, ev_complex, ev_nilIface, ev_nilFunc, ev_func, eget_cons, eget_nil, st_mv, st_pick, v_pick_t, v_pick_f, st_ext, v_ext0, v_ext1, v_ext2, v_ext3, st_int, v_int, int_add, int_sub, int_mul, int_eql, int_neq, int_lss, int_leq, int_gtr, int_geq, st_beq, v_beq, v_bne, st_not, v_not, st_conv, v_conv, st_faddr, v_faddr, st_iaddr, v_iaddr, st_aaddr, v_aaddr, st_nilChk, v_nil, st_len, v_len, v_lenS, st_load, v_load, got_one, got_row, mem_tip, mem_ro, mem_ret, st_alloc, st_box, st_store, v_store, got_store, cells_agg, cells_int, cells_bool, cells_slice, cells_pointer, cells_string, cells_complex, cells_func, one_int, one_bool, one_slice, one_pointer, one_string, one_complex, one_func, upd_push, get_push_self, AHeap.n_push, AHeap.n_upd, st_build, parts_nil, parts_cons, st_bslice, st_append, st_mkfun, st_mkface, st_isNil, st_max, v_max, st_min, v_min, st_field, st_index, st_slice0, v_slice0, v_slice0n, st_slice, kill_nil, st_call, v_call, forget_nil, forget_cons, Option.map_some, Option.map_none, Option.bind_some, List.map_cons, List.map_nil, if_true, if_false, Nat.reduceEqDiff, Int.reduceEq, Nat.reduceAdd, Nat.reduceMul, Bool.not_true, Bool.not_false, reduceCtorEq, decide_true, decide_false, Int.cast_ofNat_Int, eq_self, Int.reduceLT, Int.reduceLE, Int.reduceToNat, Int.toNat_natCast, Int.le_refl, Nat.le_refl, Nat.zero_add, Nat.add_zero, Nat.zero_mul, Nat.mul_one, Nat.mul_zero, and_self, and_true, true_and, List.length_cons, List.length_nil, List.all_cons, List.all_nil, Bool.and_self, Bool.and_true, Bool.true_and, List.take_zero, List.nil_append, List.drop_nil, List.append_nil, List.getElem?_cons_zero, List.getElem?_cons_succ, List.drop_succ_cons, List.drop_zero, List.take_succ_cons, List.cons_append, Nat.reduceLeDiff, h1]
  · have h2 : a ≥ (O.length : Int) := by omega
    simp only [w_draw, dr_cons, dr_some, dr_none, dr_go, still_no, still_yes, next_no, next_yes, last_cons, last_nil, isStore, calm_no, calm_nil, calm_cons, calmB_some, isCall, freshI, dr_nil, dr_end, still_nil, still_cons, stillB_some, stamp_some, stampV_ptr, stampV_tuple, stampO, still_here, still_here0, List.nil_append, w_out, w_gives, fin_ret, fin_normal, ress_nil, ress_tmp, pack_one, pack_nil, pack_two, entry_nil, entry_one, entry_two, entry_three, entry_four, eq_skip, eq_exit, eq_ret, w_rows, w_done, w_seq, w_normal, w_ret, w_exit, w_cond, w_true, w_false, eq_block, block_normal, block_ret, block_exit, rows_nil, rows_cons, on_some, on_none, row_plain, row_guard, guard_tt, guard_ff, guard_tf, guard_ft, guard_no, ev_tmp, ev_int, ev_bool, ev_string, ev_slice, ev_pointer, ev_map, ev_float, ev_complex, ev_nilIface, ev_nilFunc, ev_func, eget_cons, eget_nil, st_mv, st_pick, v_pick_t, v_pick_f, st_ext, v_ext0, v_ext1, v_ext2, v_ext3, st_int, v_int, int_add, int_sub, int_mul, int_eql, int_neq, int_lss, int_leq, int_gtr, int_geq, st_beq, v_beq, v_bne, st_not, v_not, st_conv, v_conv, st_faddr, v_faddr, st_iaddr, v_iaddr, st_aaddr, v_aaddr, st_nilChk, v_nil, st_len, v_len, v_lenS, st_load, v_load, got_one, got_row, mem_tip, mem_ro, mem_ret, st_alloc, st_box, st_store, v_store, got_store, cells_agg, cells_int, cells_bool, cells_slice, cells_pointer, cells_string, cells_complex, cells_func, one_int, one_bool, one_slice, one_pointer, one_string, one_complex, one_func, upd_push, get_push_self, AHeap.n_push, AHeap.n_upd, st_build, parts_nil, parts_cons, st_bslice, st_append, st_mkfun, st_mkface, st_isNil, st_max, v_max, st_min, v_min, st_field, st_index, st_slice0, v_slice0, v_slice0n, st_slice, kill_nil, st_call, v_call, forget_nil, forget_cons, Option.map_some, Option.map_none, Option.bind_some, List.map_cons, List.map_nil, if_true, if_false, Nat.reduceEqDiff, Int.reduceEq, Nat.reduceAdd, Nat.reduceMul, Bool.not_true, Bool.not_false, reduceCtorEq, decide_true, decide_false, Int.cast_ofNat_Int, eq_self, Int.reduceLT, Int.reduceLE, Int.reduceToNat, Int.toNat_natCast, Int.le_refl, Nat.le_refl, Nat.zero_add, Nat.add_zero, Nat.zero_mul, Nat.mul_one, Nat.mul_zero, and_self, and_true, true_and, List.length_cons, List.length_nil, List.all_cons, List.all_nil, Bool.and_self, Bool.and_true, Bool.true_and, List.take_zero, List.nil_append, List.drop_nil, List.append_nil, List.getElem?_cons_zero, List.getElem?_cons_succ, List.drop_succ_cons, List.drop_zero, List.take_succ_cons, List.cons_append, Nat.reduceLeDiff, h1, hn, hn', hl, h2]
end Go.Proofs.Ytjicdpkgcofiaaa

/-! Layer 4: a node for each beginning. -/
set_option linter.unusedSimpArgs false
set_option linter.unusedVariables false
namespace Go.Proofs.Ytjicdpkgcofiaaa
open Go Lon
set_option maxRecDepth 100000
theorem v_nilp {H : AHeap} {t : Nat} : vIsNil 0 false (.pointer (some ⟨t, 0, none⟩)) H = some (.bool false, H) := rfl
theorem v_niln {H : AHeap} : vIsNil 0 false (.pointer none) H = some (.bool true, H) := rfl
theorem v_one1 {H : AHeap} {el : TypeId} {p : Option Addr} {m c : Nat} : vBslice el 1 1 [.slice none 0 0] [(0, 1, .slice p m c)] H = some (.slice (some ⟨H.n, 0, none⟩) 1 2, H.push ⟨[.slice p m c], el, .tip, 0, []⟩) := rfl
theorem c_OfNo {a : Value} {L : List Rl} {H : AHeap} (ha : Rules H a L) (hC : Cut Try.prog H a 2) (h : (chk L L 0).2 ≠ 0) : Gives (cw Try.prog (tabF tab) om1 11 [a] H) fun v H' => Ext H H' ∧ v = .tuple ⟨[.pointer none, .int .i64 (chk L L 0).2]⟩ := by
  rw [cw_run (F := F_trie_Of) rfl rfl rfl]
  unfold F_trie_Of k_trie_Of
  obtain ⟨v, H1, c1, x1, rfl⟩ := c_Check ha hC
  have z : ((chk L L 0).2 ≠ 0) = True := eq_true h
  simp only [w_draw, dr_cons, dr_some, dr_none, dr_go, still_no, still_yes, next_no, next_yes, last_cons, last_nil, isStore, calm_no, calm_nil, calm_cons, calmB_some, isCall, freshI, dr_nil, dr_end, still_nil, still_cons, stillB_some, stamp_some, stampV_ptr, stampV_tuple, stampO, still_here, still_here0, List.nil_append, w_out, w_gives, fin_ret, fin_normal, ress_nil, ress_tmp, pack_one, pack_nil, pack_two, entry_nil, entry_one, entry_two, entry_three, entry_four, eq_skip, eq_exit, eq_ret, w_rows, w_done, w_seq, w_normal, w_ret, w_exit, w_cond, w_true, w_false, eq_block, block_normal, block_ret, block_exit, rows_nil, rows_cons, on_some, on_none, row_plain, row_guard, guard_tt, guard_ff, guard_tf, guard_ft, guard_no, ev_tmp, ev_int, ev_bool, ev_string, ev_slice, ev_pointer, ev_map, ev_float, ev_complex, ev_nilIface, ev_nilFunc, ev_func, eget_cons, eget_nil, st_mv, st_pick, v_pick_t, v_pick_f, st_ext, v_ext0, v_ext1, v_ext2, v_ext3, st_int, v_int, int_add, int_sub, int_mul, int_eql, int_neq, int_lss, int_leq, int_gtr, int_geq, st_beq, v_beq, v_bne, st_not, v_not, st_conv, v_conv, st_faddr, v_faddr, st_iaddr, v_iaddr, st_aaddr, v_aaddr, st_nilChk, v_nil, st_len, v_len, v_lenS, st_load, v_load, got_one, got_row, mem_tip, mem_ro, mem_ret, st_alloc, st_box, st_store, v_store, got_store, cells_agg, cells_int, cells_bool, cells_slice, cells_pointer, cells_string, cells_complex, cells_func, one_int, one_bool, one_slice, one_pointer, one_string, one_complex, one_func, upd_push, get_push_self, AHeap.n_push, AHeap.n_upd, st_build, parts_nil, parts_cons, st_bslice, st_append, st_mkfun, st_mkface, st_isNil, st_max, v_max, st_min, v_min, st_field, st_index, st_slice0, v_slice0, v_slice0n, st_slice, kill_nil, st_call, v_call, forget_nil, forget_cons, Option.map_some, Option.map_none, Option.bind_some, List.map_cons, List.map_nil, if_true, if_false, Nat.reduceEqDiff, Int.reduceEq, Nat.reduceAdd, Nat.reduceMul, Bool.not_true, Bool.not_false, reduceCtorEq, decide_true, decide_false, Int.cast_ofNat_Int, eq_self, Int.reduceLT, Int.reduceLE, Int.reduceToNat, Int.toNat_natCast, Int.le_refl, Nat.le_refl, Nat.zero_add, Nat.add_zero, Nat.zero_mul, Nat.mul_one, Nat.mul_zero, and_self, and_true, true_and, List.length_cons, List.length_nil, List.all_cons, List.all_nil, Bool.and_self, Bool.and_true, Bool.true_and, List.take_zero, List.nil_append, List.drop_nil, List.append_nil, List.getElem?_cons_zero, List.getElem?_cons_succ, List.drop_succ_cons, List.drop_zero, List.take_succ_cons, List.cons_append, Nat.reduceLeDiff, c1, z]
  exact x1
theorem chk_zero {T : List Rl} : ∀ (j i : Nat), i + j = T.length → (chk T (T.drop i) i).2 = 0 → ∀ k r, i ≤ k → T[k]? = some r → (sideB r.1 = true ∧ sideB r.2 = true) ∧ fnd (T.take k) r.1 < 0 := by
  intro j
  induction j with
  | zero =>
    intro i hi _ k r hk hr
    have := (List.getElem?_eq_some_iff.1 hr).1
    omega
  | succ j ih =>
    intro i hi h k r hk hr
    obtain ⟨x, hx, hdx⟩ := drop_at (L := T) (i := i) (by omega)
    rw [hdx] at h
    unfold chk at h
    split at h
    · cases h
    · split at h
      · cases h
      · rename_i h2
        split at h
        · cases h
        · rename_i h3
          rcases Nat.lt_or_ge i k with hlt | hge
          · exact ih (i + 1) (by omega) h k r (by omega) hr
          · obtain rfl : i = k := by omega
            rw [hr] at hx
            injection hx with hx
            subst hx
            cases e1 : sideB r.1 <;> cases e2 : sideB r.2 <;> simp [e1, e2] at h2 ⊢
            omega
theorem chk_right0 {T : List Rl} (h : (chk T T 0).2 = 0) : Right T := by
  have := chk_zero (T := T) T.length 0 (by omega) (by rw [List.drop_zero]; exact h)
  refine ⟨fun r hr => ?_, fun k r hr => (this k r (Nat.zero_le _) hr).2⟩
  obtain ⟨k, hk, hkr⟩ := List.getElem_of_mem hr
  exact (this k r (Nat.zero_le _) (by rw [List.getElem?_eq_getElem hk, hkr])).1
/-- Units of units, a function's own. -/
def Sees (H : AHeap) (v : Value) (S : List (List Int)) : Prop := ∃ cs, Own H 24 1 v S.length cs ∧ ∀ (k : Nat) (s : List Int), S[k]? = some s → ∃ x, cs[k]? = some x ∧ Ints H x s ∧ tiny s
theorem Sees.nil (H : AHeap) : Sees H (.slice none 0 0) [] := ⟨[], ⟨rfl, .inl ⟨rfl, rfl⟩⟩, fun k s h => by simp at h⟩
theorem Sees.ext {H H' : AHeap} (hx : Ext H H') {v : Value} {S : List (List Int)} (h : Sees H v S) : Sees H' v S := by
  obtain ⟨cs, h1, h2⟩ := h
  refine ⟨cs, h1.ext hx, fun k s hs => ?_⟩
  obtain ⟨x, h3, h4, h5⟩ := h2 k s hs
  exact ⟨x, h3, h4.ext hx, h5⟩
theorem Sees.at {H : AHeap} {v : Value} {S : List (List Int)} (h : Sees H v S) {k : Nat} {s : List Int} (hs : S[k]? = some s) :
    ∃ i o x, (∀ (kd : IntKind) (H2 : AHeap), vIaddr v (.int kd k) 1 H2 = some (.pointer (some ⟨i, o, none⟩), H2)) ∧ gotLoad (H.get i) o none H = some (x, H) ∧ Ints H x s ∧ tiny s := by
  obtain ⟨cs, h1, h2⟩ := h
  obtain ⟨x, h3, h4, h5⟩ := h2 k s hs
  obtain ⟨i, o, a1, a2, a3⟩ := h1.sl.at (List.getElem?_eq_some_iff.1 hs).1
  have := a2 0 x (by omega) (by rw [Nat.mul_one, Nat.add_zero]; exact h3)
  rw [Nat.add_zero] at this
  exact ⟨i, o, x, a1, this, h4, h5⟩
theorem Sees.push {H : AHeap} {v : Value} {S : List (List Int)} {s : List Int} {p : Option Addr} {m c : Nat} (h : Sees H v S) (hI : Ints H (.slice p m c) s) (ht : tiny s) (hb : S.length < 100000) :
    ∃ v' H', appendA (H.push ⟨[.slice p m c], 24, .tip, 0, []⟩) v (.slice (some ⟨H.n, 0, none⟩) 1 2) 24 1 24 = some (v', H') ∧ Sees H' v' (S ++ [s]) ∧ From H.n v' ∧ H.n ≤ H'.n ∧ (∀ i, i < H.n → NotAt v i → H'.get i = H.get i) := by
  obtain ⟨cs, h1, h2⟩ := h
  have hx1 := Ext.push H ⟨[.slice p m c], 24, .tip, 0, []⟩
  obtain ⟨v', H', q1, q2, q3, q4, q5, q6⟩ := Own.append2 (bytes := 24) (m := 1) (h1.ext hx1) (Sl.new (n := 1) (c := 2) (get_push_self (H := H) (b := ⟨[.slice p m c], 24, .tip, 0, []⟩)) mem_tip rfl) (by omega) rfl (by omega)
  have n1 : (H.push ⟨[.slice p m c], 24, .tip, 0, []⟩).n = H.n + 1 := by simp
  rw [n1] at q3 q5 q6
  have hcl := h1.1
  rw [Nat.mul_one] at hcl
  refine ⟨v', H', q1, ⟨cs ++ [.slice p m c], by rw [List.length_append]; exact q2, fun k s' hs => ?_⟩, q3.mono (by omega), by omega, fun i hi hn => by rw [q6 i (by omega) hn, get_push_lt hi]⟩
  rcases Nat.lt_or_ge k S.length with hk | hk
  · rw [List.getElem?_append_left hk] at hs
    obtain ⟨x, h3, h4, h5⟩ := h2 k s' hs
    exact ⟨x, by rw [List.getElem?_append_left (by omega)]; exact h3, (h4.ext hx1).keeps q4, h5⟩
  · have hk0 : k = S.length := by
      have := (List.getElem?_eq_some_iff.1 hs).1
      simp at this
      omega
    subst hk0
    simp at hs
    subst hs
    exact ⟨_, by rw [List.getElem?_append_right (by omega), hcl, Nat.sub_self]; rfl, (hI.ext hx1).keeps q4, ht⟩
theorem l_T0 {H : AHeap} {a v : Value} {S : List (List Int)} {In Out2 : List Int} {ai ao : Option Addr} {ci co q t n : Nat} {z1 z2 : Int} (hv : Sees H v S) (hS : S.length < 100000) (hq : H.get q = some ⟨[.slice ai In.length ci, .slice ao Out2.length co], 41, .tip, 1, []⟩) (hI : Ints H (.slice ai In.length ci) In) (hC : Cut Try.prog H (.slice ai In.length ci) 1) (hn : n ≤ In.length) : ∀ (c j : Nat) (is : Bool), j + c = S.length →
    Out (run Try.prog (tabF tab) om1 (.loop [4, 8, 10, 11, 12, 44, 45, 46, 57, 58, 59] b_lontarlaw04_TrieOf_0) [(4, .pointer (some ⟨t, 0, none⟩)), (8, v), (10, .pointer (some ⟨q, 0, none⟩)), (11, .int .i64 n), (12, .bool is), (44, a), (45, .int .i64 z1), (46, .int .i64 z2), (57, v), (58, .int .i64 S.length), (59, .int .i64 j)] H) fun y e' H' => y = .exit 4 ∧ H' = H ∧ eget e' 4 = .pointer (some ⟨t, 0, none⟩) ∧ eget e' 8 = v ∧ eget e' 10 = .pointer (some ⟨q, 0, none⟩) ∧ eget e' 11 = .int .i64 n ∧ eget e' 12 = .bool (is || decide (In.take n ∈ S.drop j)) ∧ eget e' 44 = a ∧ eget e' 45 = .int .i64 z1 ∧ eget e' 46 = .int .i64 z2 := by
  intro c
  induction c with
  | zero =>
    intro j is hj
    have hlt : ¬ ((j : Int) < S.length) := by omega
    rw [w_loop_b b_lontarlaw04_TrieOf_0.eq_1, List.drop_of_length_le (by omega)]
    simp only [w_draw, dr_cons, dr_some, dr_none, dr_go, still_no, still_yes, next_no, next_yes, last_cons, last_nil, isStore, calm_no, calm_nil, calm_cons, calmB_some, isCall, freshI, dr_nil, dr_end, still_nil, still_cons, stillB_some, stamp_some, stampV_ptr, stampV_tuple, stampO, still_here, still_here0, List.nil_append, w_out, w_gives, fin_ret, fin_normal, ress_nil, ress_tmp, pack_one, pack_nil, pack_two, entry_nil, entry_one, entry_two, entry_three, entry_four, eq_skip, eq_exit, eq_ret, w_rows, w_done, w_seq, w_normal, w_ret, w_exit, w_cond, w_true, w_false, eq_block, block_normal, block_ret, block_exit, rows_nil, rows_cons, on_some, on_none, row_plain, row_guard, guard_tt, guard_ff, guard_tf, guard_ft, guard_no, ev_tmp, ev_int, ev_bool, ev_string, ev_slice, ev_pointer, ev_map, ev_float, ev_complex, ev_nilIface, ev_nilFunc, ev_func, eget_cons, eget_nil, st_mv, st_pick, v_pick_t, v_pick_f, st_ext, v_ext0, v_ext1, v_ext2, v_ext3, st_int, v_int, int_add, int_sub, int_mul, int_eql, int_neq, int_lss, int_leq, int_gtr, int_geq, st_beq, v_beq, v_bne, st_not, v_not, st_conv, v_conv, st_faddr, v_faddr, st_iaddr, v_iaddr, st_aaddr, v_aaddr, st_nilChk, v_nil, st_len, v_len, v_lenS, st_load, v_load, got_one, got_row, mem_tip, mem_ro, mem_ret, st_alloc, st_box, st_store, v_store, got_store, cells_agg, cells_int, cells_bool, cells_slice, cells_pointer, cells_string, cells_complex, cells_func, one_int, one_bool, one_slice, one_pointer, one_string, one_complex, one_func, upd_push, get_push_self, AHeap.n_push, AHeap.n_upd, st_build, parts_nil, parts_cons, st_bslice, st_append, st_mkfun, st_mkface, st_isNil, st_max, v_max, st_min, v_min, st_field, st_index, st_slice0, v_slice0, v_slice0n, st_slice, kill_nil, st_call, v_call, forget_nil, forget_cons, Option.map_some, Option.map_none, Option.bind_some, List.map_cons, List.map_nil, if_true, if_false, Nat.reduceEqDiff, Int.reduceEq, Nat.reduceAdd, Nat.reduceMul, Bool.not_true, Bool.not_false, reduceCtorEq, decide_true, decide_false, Int.cast_ofNat_Int, eq_self, Int.reduceLT, Int.reduceLE, Int.reduceToNat, Int.toNat_natCast, Int.le_refl, Nat.le_refl, Nat.zero_add, Nat.add_zero, Nat.zero_mul, Nat.mul_one, Nat.mul_zero, and_self, and_true, true_and, List.length_cons, List.length_nil, List.all_cons, List.all_nil, Bool.and_self, Bool.and_true, Bool.true_and, List.take_zero, List.nil_append, List.drop_nil, List.append_nil, List.getElem?_cons_zero, List.getElem?_cons_succ, List.drop_succ_cons, List.drop_zero, List.take_succ_cons, List.cons_append, Nat.reduceLeDiff, hlt]
    simp
  | succ c ih =>
    intro j is hj
    have hlt : (j : Int) < S.length := by omega
    obtain ⟨s, hs, hds⟩ := drop_at (L := S) (i := j) (by omega)
    obtain ⟨i1, o1, x, h1, h2, h3, h4⟩ := hv.at hs
    have hw2 : IntKind.i64.wrap ((j : Int) + 1) = ((j + 1 : Nat) : Int) := by rw [wrap64 (by omega) (by omega)]; omega
    obtain ⟨b', s1, s2, s3⟩ := hI.take hC hn
    have s1' := s1 .i64
    have cU := c_Units h3 s2 h4
    have hmem : decide (In.take n ∈ S.drop j) = (decide (s = In.take n) || decide (In.take n ∈ S.drop (j + 1))) := by
      rw [hds]
      by_cases e : s = In.take n
      · simp [e]
      · have : ¬ In.take n = s := fun h => e h.symm
        simp [e, this]
    rw [hmem, ← Bool.or_assoc]
    obtain ⟨y, e', H', r1, r2⟩ := ih (j + 1) (is || decide (s = In.take n)) (by omega)
    rw [w_loop_b b_lontarlaw04_TrieOf_0.eq_1]
    cases is with
    | true =>
      simp only [Bool.true_or] at r1 r2 ⊢
      simp only [w_draw, dr_cons, dr_some, dr_none, dr_go, still_no, still_yes, next_no, next_yes, last_cons, last_nil, isStore, calm_no, calm_nil, calm_cons, calmB_some, isCall, freshI, dr_nil, dr_end, still_nil, still_cons, stillB_some, stamp_some, stampV_ptr, stampV_tuple, stampO, still_here, still_here0, List.nil_append, w_out, w_gives, fin_ret, fin_normal, ress_nil, ress_tmp, pack_one, pack_nil, pack_two, entry_nil, entry_one, entry_two, entry_three, entry_four, eq_skip, eq_exit, eq_ret, w_rows, w_done, w_seq, w_normal, w_ret, w_exit, w_cond, w_true, w_false, eq_block, block_normal, block_ret, block_exit, rows_nil, rows_cons, on_some, on_none, row_plain, row_guard, guard_tt, guard_ff, guard_tf, guard_ft, guard_no, ev_tmp, ev_int, ev_bool, ev_string, ev_slice, ev_pointer, ev_map, ev_float, ev_complex, ev_nilIface, ev_nilFunc, ev_func, eget_cons, eget_nil, st_mv, st_pick, v_pick_t, v_pick_f, st_ext, v_ext0, v_ext1, v_ext2, v_ext3, st_int, v_int, int_add, int_sub, int_mul, int_eql, int_neq, int_lss, int_leq, int_gtr, int_geq, st_beq, v_beq, v_bne, st_not, v_not, st_conv, v_conv, st_faddr, v_faddr, st_iaddr, v_iaddr, st_aaddr, v_aaddr, st_nilChk, v_nil, st_len, v_len, v_lenS, st_load, v_load, got_one, got_row, mem_tip, mem_ro, mem_ret, st_alloc, st_box, st_store, v_store, got_store, cells_agg, cells_int, cells_bool, cells_slice, cells_pointer, cells_string, cells_complex, cells_func, one_int, one_bool, one_slice, one_pointer, one_string, one_complex, one_func, upd_push, get_push_self, AHeap.n_push, AHeap.n_upd, st_build, parts_nil, parts_cons, st_bslice, st_append, st_mkfun, st_mkface, st_isNil, st_max, v_max, st_min, v_min, st_field, st_index, st_slice0, v_slice0, v_slice0n, st_slice, kill_nil, st_call, v_call, forget_nil, forget_cons, Option.map_some, Option.map_none, Option.bind_some, List.map_cons, List.map_nil, if_true, if_false, Nat.reduceEqDiff, Int.reduceEq, Nat.reduceAdd, Nat.reduceMul, Bool.not_true, Bool.not_false, reduceCtorEq, decide_true, decide_false, Int.cast_ofNat_Int, eq_self, Int.reduceLT, Int.reduceLE, Int.reduceToNat, Int.toNat_natCast, Int.le_refl, Nat.le_refl, Nat.zero_add, Nat.add_zero, Nat.zero_mul, Nat.mul_one, Nat.mul_zero, and_self, and_true, true_and, List.length_cons, List.length_nil, List.all_cons, List.all_nil, Bool.and_self, Bool.and_true, Bool.true_and, List.take_zero, List.nil_append, List.drop_nil, List.append_nil, List.getElem?_cons_zero, List.getElem?_cons_succ, List.drop_succ_cons, List.drop_zero, List.take_succ_cons, List.cons_append, Nat.reduceLeDiff, hlt, h1, h2, hw2]
      rw [w_enter]
      simp only [w_draw, dr_cons, dr_some, dr_none, dr_go, still_no, still_yes, next_no, next_yes, last_cons, last_nil, isStore, calm_no, calm_nil, calm_cons, calmB_some, isCall, freshI, dr_nil, dr_end, still_nil, still_cons, stillB_some, stamp_some, stampV_ptr, stampV_tuple, stampO, still_here, still_here0, List.nil_append, w_out, w_gives, fin_ret, fin_normal, ress_nil, ress_tmp, pack_one, pack_nil, pack_two, entry_nil, entry_one, entry_two, entry_three, entry_four, eq_skip, eq_exit, eq_ret, w_rows, w_done, w_seq, w_normal, w_ret, w_exit, w_cond, w_true, w_false, eq_block, block_normal, block_ret, block_exit, rows_nil, rows_cons, on_some, on_none, row_plain, row_guard, guard_tt, guard_ff, guard_tf, guard_ft, guard_no, ev_tmp, ev_int, ev_bool, ev_string, ev_slice, ev_pointer, ev_map, ev_float, ev_complex, ev_nilIface, ev_nilFunc, ev_func, eget_cons, eget_nil, st_mv, st_pick, v_pick_t, v_pick_f, st_ext, v_ext0, v_ext1, v_ext2, v_ext3, st_int, v_int, int_add, int_sub, int_mul, int_eql, int_neq, int_lss, int_leq, int_gtr, int_geq, st_beq, v_beq, v_bne, st_not, v_not, st_conv, v_conv, st_faddr, v_faddr, st_iaddr, v_iaddr, st_aaddr, v_aaddr, st_nilChk, v_nil, st_len, v_len, v_lenS, st_load, v_load, got_one, got_row, mem_tip, mem_ro, mem_ret, st_alloc, st_box, st_store, v_store, got_store, cells_agg, cells_int, cells_bool, cells_slice, cells_pointer, cells_string, cells_complex, cells_func, one_int, one_bool, one_slice, one_pointer, one_string, one_complex, one_func, upd_push, get_push_self, AHeap.n_push, AHeap.n_upd, st_build, parts_nil, parts_cons, st_bslice, st_append, st_mkfun, st_mkface, st_isNil, st_max, v_max, st_min, v_min, st_field, st_index, st_slice0, v_slice0, v_slice0n, st_slice, kill_nil, st_call, v_call, forget_nil, forget_cons, Option.map_some, Option.map_none, Option.bind_some, List.map_cons, List.map_nil, if_true, if_false, Nat.reduceEqDiff, Int.reduceEq, Nat.reduceAdd, Nat.reduceMul, Bool.not_true, Bool.not_false, reduceCtorEq, decide_true, decide_false, Int.cast_ofNat_Int, eq_self, Int.reduceLT, Int.reduceLE, Int.reduceToNat, Int.toNat_natCast, Int.le_refl, Nat.le_refl, Nat.zero_add, Nat.add_zero, Nat.zero_mul, Nat.mul_one, Nat.mul_zero, and_self, and_true, true_and, List.length_cons, List.length_nil, List.all_cons, List.all_nil, Bool.and_self, Bool.and_true, Bool.true_and, List.take_zero, List.nil_append, List.drop_nil, List.append_nil, List.getElem?_cons_zero, List.getElem?_cons_succ, List.drop_succ_cons, List.drop_zero, List.take_succ_cons, List.cons_append, Nat.reduceLeDiff, r1]
      exact r2
    | false =>
      simp only [Bool.false_or] at r1 r2 ⊢
      simp only [w_draw, dr_cons, dr_some, dr_none, dr_go, still_no, still_yes, next_no, next_yes, last_cons, last_nil, isStore, calm_no, calm_nil, calm_cons, calmB_some, isCall, freshI, dr_nil, dr_end, still_nil, still_cons, stillB_some, stamp_some, stampV_ptr, stampV_tuple, stampO, still_here, still_here0, List.nil_append, w_out, w_gives, fin_ret, fin_normal, ress_nil, ress_tmp, pack_one, pack_nil, pack_two, entry_nil, entry_one, entry_two, entry_three, entry_four, eq_skip, eq_exit, eq_ret, w_rows, w_done, w_seq, w_normal, w_ret, w_exit, w_cond, w_true, w_false, eq_block, block_normal, block_ret, block_exit, rows_nil, rows_cons, on_some, on_none, row_plain, row_guard, guard_tt, guard_ff, guard_tf, guard_ft, guard_no, ev_tmp, ev_int, ev_bool, ev_string, ev_slice, ev_pointer, ev_map, ev_float, ev_complex, ev_nilIface, ev_nilFunc, ev_func, eget_cons, eget_nil, st_mv, st_pick, v_pick_t, v_pick_f, st_ext, v_ext0, v_ext1, v_ext2, v_ext3, st_int, v_int, int_add, int_sub, int_mul, int_eql, int_neq, int_lss, int_leq, int_gtr, int_geq, st_beq, v_beq, v_bne, st_not, v_not, st_conv, v_conv, st_faddr, v_faddr, st_iaddr, v_iaddr, st_aaddr, v_aaddr, st_nilChk, v_nil, st_len, v_len, v_lenS, st_load, v_load, got_one, got_row, mem_tip, mem_ro, mem_ret, st_alloc, st_box, st_store, v_store, got_store, cells_agg, cells_int, cells_bool, cells_slice, cells_pointer, cells_string, cells_complex, cells_func, one_int, one_bool, one_slice, one_pointer, one_string, one_complex, one_func, upd_push, get_push_self, AHeap.n_push, AHeap.n_upd, st_build, parts_nil, parts_cons, st_bslice, st_append, st_mkfun, st_mkface, st_isNil, st_max, v_max, st_min, v_min, st_field, st_index, st_slice0, v_slice0, v_slice0n, st_slice, kill_nil, st_call, v_call, forget_nil, forget_cons, Option.map_some, Option.map_none, Option.bind_some, List.map_cons, List.map_nil, if_true, if_false, Nat.reduceEqDiff, Int.reduceEq, Nat.reduceAdd, Nat.reduceMul, Bool.not_true, Bool.not_false, reduceCtorEq, decide_true, decide_false, Int.cast_ofNat_Int, eq_self, Int.reduceLT, Int.reduceLE, Int.reduceToNat, Int.toNat_natCast, Int.le_refl, Nat.le_refl, Nat.zero_add, Nat.add_zero, Nat.zero_mul, Nat.mul_one, Nat.mul_zero, and_self, and_true, true_and, List.length_cons, List.length_nil, List.all_cons, List.all_nil, Bool.and_self, Bool.and_true, Bool.true_and, List.take_zero, List.nil_append, List.drop_nil, List.append_nil, List.getElem?_cons_zero, List.getElem?_cons_succ, List.drop_succ_cons, List.drop_zero, List.take_succ_cons, List.cons_append, Nat.reduceLeDiff, hlt, h1, h2, hq, s1', cU, hw2]
      rw [w_enter]
      simp only [w_draw, dr_cons, dr_some, dr_none, dr_go, still_no, still_yes, next_no, next_yes, last_cons, last_nil, isStore, calm_no, calm_nil, calm_cons, calmB_some, isCall, freshI, dr_nil, dr_end, still_nil, still_cons, stillB_some, stamp_some, stampV_ptr, stampV_tuple, stampO, still_here, still_here0, List.nil_append, w_out, w_gives, fin_ret, fin_normal, ress_nil, ress_tmp, pack_one, pack_nil, pack_two, entry_nil, entry_one, entry_two, entry_three, entry_four, eq_skip, eq_exit, eq_ret, w_rows, w_done, w_seq, w_normal, w_ret, w_exit, w_cond, w_true, w_false, eq_block, block_normal, block_ret, block_exit, rows_nil, rows_cons, on_some, on_none, row_plain, row_guard, guard_tt, guard_ff, guard_tf, guard_ft, guard_no, ev_tmp, ev_int, ev_bool, ev_string, ev_slice, ev_pointer, ev_map, ev_float, ev_complex, ev_nilIface, ev_nilFunc, ev_func, eget_cons, eget_nil, st_mv, st_pick, v_pick_t, v_pick_f, st_ext, v_ext0, v_ext1, v_ext2, v_ext3, st_int, v_int, int_add, int_sub, int_mul, int_eql, int_neq, int_lss, int_leq, int_gtr, int_geq, st_beq, v_beq, v_bne, st_not, v_not, st_conv, v_conv, st_faddr, v_faddr, st_iaddr, v_iaddr, st_aaddr, v_aaddr, st_nilChk, v_nil, st_len, v_len, v_lenS, st_load, v_load, got_one, got_row, mem_tip, mem_ro, mem_ret, st_alloc, st_box, st_store, v_store, got_store, cells_agg, cells_int, cells_bool, cells_slice, cells_pointer, cells_string, cells_complex, cells_func, one_int, one_bool, one_slice, one_pointer, one_string, one_complex, one_func, upd_push, get_push_self, AHeap.n_push, AHeap.n_upd, st_build, parts_nil, parts_cons, st_bslice, st_append, st_mkfun, st_mkface, st_isNil, st_max, v_max, st_min, v_min, st_field, st_index, st_slice0, v_slice0, v_slice0n, st_slice, kill_nil, st_call, v_call, forget_nil, forget_cons, Option.map_some, Option.map_none, Option.bind_some, List.map_cons, List.map_nil, if_true, if_false, Nat.reduceEqDiff, Int.reduceEq, Nat.reduceAdd, Nat.reduceMul, Bool.not_true, Bool.not_false, reduceCtorEq, decide_true, decide_false, Int.cast_ofNat_Int, eq_self, Int.reduceLT, Int.reduceLE, Int.reduceToNat, Int.toNat_natCast, Int.le_refl, Nat.le_refl, Nat.zero_add, Nat.add_zero, Nat.zero_mul, Nat.mul_one, Nat.mul_zero, and_self, and_true, true_and, List.length_cons, List.length_nil, List.all_cons, List.all_nil, Bool.and_self, Bool.and_true, Bool.true_and, List.take_zero, List.nil_append, List.drop_nil, List.append_nil, List.getElem?_cons_zero, List.getElem?_cons_succ, List.drop_succ_cons, List.drop_zero, List.take_succ_cons, List.cons_append, Nat.reduceLeDiff, r1]
      exact r2
theorem l_T1 {H0 : AHeap} {a : Value} {In Out2 : List Int} {ai ao : Option Addr} {ci co q t : Nat} {z1 z2 : Int} (hs8 : In.length ≤ 8) (hq0 : H0.n ≤ q) : ∀ (c n : Nat) (H : AHeap) (v : Value) (S : List (List Int)), n + 1 + c = In.length + 1 → Ext H0 H → H.get q = some ⟨[.slice ai In.length ci, .slice ao Out2.length co], 41, .tip, 1, []⟩ → Ints H0 (.slice ai In.length ci) In → Cut Try.prog H0 (.slice ai In.length ci) 1 → Sees H v S → From H0.n v → S.length + c < 100000 →
    Out (run Try.prog (tabF tab) om1 (.loop [4, 8, 10, 11, 44, 45, 46] b_lontarlaw04_TrieOf_1) [(4, .pointer (some ⟨t, 0, none⟩)), (8, v), (10, .pointer (some ⟨q, 0, none⟩)), (11, .int .i64 ((n + 1 : Nat) : Int)), (44, a), (45, .int .i64 z1), (46, .int .i64 z2)] H) fun y e' H' => y = .exit 2 ∧ Ext H0 H' ∧ eget e' 4 = .pointer (some ⟨t, 0, none⟩) ∧ eget e' 44 = a ∧ eget e' 45 = .int .i64 z1 ∧ eget e' 46 = .int .i64 z2 ∧ ∃ S', Sees H' (eget e' 8) S' ∧ From H0.n (eget e' 8) ∧ [] :: S' = addIns ([] :: S) (In.take n) (In.drop n) ∧ S'.length ≤ S.length + c := by
  intro c
  induction c with
  | zero =>
    intro n H v S hn hx hq hI hC hv hf hS
    have hle : ¬ ((n + 1 : Nat) : Int) ≤ In.length := by omega
    have hlr : ∀ H2 : AHeap, vLen false (.slice ai In.length ci) H2 = some (.int .i64 In.length, H2) := fun H2 => Sl.len hI
    rw [w_loop_b b_lontarlaw04_TrieOf_1.eq_1, List.drop_of_length_le (by omega)]
    simp only [w_draw, dr_cons, dr_some, dr_none, dr_go, still_no, still_yes, next_no, next_yes, last_cons, last_nil, isStore, calm_no, calm_nil, calm_cons, calmB_some, isCall, freshI, dr_nil, dr_end, still_nil, still_cons, stillB_some, stamp_some, stampV_ptr, stampV_tuple, stampO, still_here, still_here0, List.nil_append, w_out, w_gives, fin_ret, fin_normal, ress_nil, ress_tmp, pack_one, pack_nil, pack_two, entry_nil, entry_one, entry_two, entry_three, entry_four, eq_skip, eq_exit, eq_ret, w_rows, w_done, w_seq, w_normal, w_ret, w_exit, w_cond, w_true, w_false, eq_block, block_normal, block_ret, block_exit, rows_nil, rows_cons, on_some, on_none, row_plain, row_guard, guard_tt, guard_ff, guard_tf, guard_ft, guard_no, ev_tmp, ev_int, ev_bool, ev_string, ev_slice, ev_pointer, ev_map, ev_float, ev_complex, ev_nilIface, ev_nilFunc, ev_func, eget_cons, eget_nil, st_mv, st_pick, v_pick_t, v_pick_f, st_ext, v_ext0, v_ext1, v_ext2, v_ext3, st_int, v_int, int_add, int_sub, int_mul, int_eql, int_neq, int_lss, int_leq, int_gtr, int_geq, st_beq, v_beq, v_bne, st_not, v_not, st_conv, v_conv, st_faddr, v_faddr, st_iaddr, v_iaddr, st_aaddr, v_aaddr, st_nilChk, v_nil, st_len, v_len, v_lenS, st_load, v_load, got_one, got_row, mem_tip, mem_ro, mem_ret, st_alloc, st_box, st_store, v_store, got_store, cells_agg, cells_int, cells_bool, cells_slice, cells_pointer, cells_string, cells_complex, cells_func, one_int, one_bool, one_slice, one_pointer, one_string, one_complex, one_func, upd_push, get_push_self, AHeap.n_push, AHeap.n_upd, st_build, parts_nil, parts_cons, st_bslice, st_append, st_mkfun, st_mkface, st_isNil, st_max, v_max, st_min, v_min, st_field, st_index, st_slice0, v_slice0, v_slice0n, st_slice, kill_nil, st_call, v_call, forget_nil, forget_cons, Option.map_some, Option.map_none, Option.bind_some, List.map_cons, List.map_nil, if_true, if_false, Nat.reduceEqDiff, Int.reduceEq, Nat.reduceAdd, Nat.reduceMul, Bool.not_true, Bool.not_false, reduceCtorEq, decide_true, decide_false, Int.cast_ofNat_Int, eq_self, Int.reduceLT, Int.reduceLE, Int.reduceToNat, Int.toNat_natCast, Int.le_refl, Nat.le_refl, Nat.zero_add, Nat.add_zero, Nat.zero_mul, Nat.mul_one, Nat.mul_zero, and_self, and_true, true_and, List.length_cons, List.length_nil, List.all_cons, List.all_nil, Bool.and_self, Bool.and_true, Bool.true_and, List.take_zero, List.nil_append, List.drop_nil, List.append_nil, List.getElem?_cons_zero, List.getElem?_cons_succ, List.drop_succ_cons, List.drop_zero, List.take_succ_cons, List.cons_append, Nat.reduceLeDiff, hq, hlr, hle]
    exact ⟨hx, S, hv, hf, rfl, Nat.le_refl _⟩
  | succ c ih =>
    intro n H v S hn hx hq hI hC hv hf hS
    have hle : ((n + 1 : Nat) : Int) ≤ In.length := by omega
    have hlr : ∀ H2 : AHeap, vLen false (.slice ai In.length ci) H2 = some (.int .i64 In.length, H2) := fun H2 => Sl.len hI
    obtain ⟨u, hu, hdu⟩ := drop_at (L := In) (i := n) (by omega)
    have htk : In.take (n + 1) = In.take n ++ [u] := by rw [List.take_add_one, hu]; rfl
    have hw2 : IntKind.i64.wrap (((n + 1 : Nat) : Int) + 1) = ((n + 1 + 1 : Nat) : Int) := by rw [wrap64 (by omega) (by omega)]; omega
    obtain ⟨y, e', H', r1, rfl, rfl, r2, r3, r4, r5, r6, r7, r8, r9⟩ := l_T0 (a := a) (t := t) (n := n + 1) (z1 := z1) (z2 := z2) hv (by omega) hq (hI.ext hx) (hC.ext hx) (by omega) S.length 0 false (by omega)
    rw [Bool.false_or, List.drop_zero] at r6
    obtain ⟨cs0, hown, _⟩ := id hv
    have hlv : ∀ H2 : AHeap, vLen false v H2 = some (.int .i64 S.length, H2) := fun H2 => hown.sl.len
    simp only [Int.cast_ofNat_Int] at r1
    rw [w_loop_b b_lontarlaw04_TrieOf_1.eq_1, hdu]
    unfold addIns
    have hne : In.take (n + 1) ≠ [] := fun e => by have := congrArg List.length e; rw [List.length_take, List.length_nil] at this; omega
    rw [← htk]
    by_cases hin : In.take (n + 1) ∈ S
    · rw [decide_eq_true hin] at r6
      rw [if_pos (List.mem_cons_of_mem _ hin)]
      obtain ⟨y, e2, H3, q1, q2, q3, q4, q5, q6, q7, S', q8, q9, q10, q11⟩ := ih (n + 1) H' v S (by omega) hx hq hI hC hv hf (by omega)
      simp only [w_draw, dr_cons, dr_some, dr_none, dr_go, still_no, still_yes, next_no, next_yes, last_cons, last_nil, isStore, calm_no, calm_nil, calm_cons, calmB_some, isCall, freshI, dr_nil, dr_end, still_nil, still_cons, stillB_some, stamp_some, stampV_ptr, stampV_tuple, stampO, still_here, still_here0, List.nil_append, w_out, w_gives, fin_ret, fin_normal, ress_nil, ress_tmp, pack_one, pack_nil, pack_two, entry_nil, entry_one, entry_two, entry_three, entry_four, eq_skip, eq_exit, eq_ret, w_rows, w_done, w_seq, w_normal, w_ret, w_exit, w_cond, w_true, w_false, eq_block, block_normal, block_ret, block_exit, rows_nil, rows_cons, on_some, on_none, row_plain, row_guard, guard_tt, guard_ff, guard_tf, guard_ft, guard_no, ev_tmp, ev_int, ev_bool, ev_string, ev_slice, ev_pointer, ev_map, ev_float, ev_complex, ev_nilIface, ev_nilFunc, ev_func, eget_cons, eget_nil, st_mv, st_pick, v_pick_t, v_pick_f, st_ext, v_ext0, v_ext1, v_ext2, v_ext3, st_int, v_int, int_add, int_sub, int_mul, int_eql, int_neq, int_lss, int_leq, int_gtr, int_geq, st_beq, v_beq, v_bne, st_not, v_not, st_conv, v_conv, st_faddr, v_faddr, st_iaddr, v_iaddr, st_aaddr, v_aaddr, st_nilChk, v_nil, st_len, v_len, v_lenS, st_load, v_load, got_one, got_row, mem_tip, mem_ro, mem_ret, st_alloc, st_box, st_store, v_store, got_store, cells_agg, cells_int, cells_bool, cells_slice, cells_pointer, cells_string, cells_complex, cells_func, one_int, one_bool, one_slice, one_pointer, one_string, one_complex, one_func, upd_push, get_push_self, AHeap.n_push, AHeap.n_upd, st_build, parts_nil, parts_cons, st_bslice, st_append, st_mkfun, st_mkface, st_isNil, st_max, v_max, st_min, v_min, st_field, st_index, st_slice0, v_slice0, v_slice0n, st_slice, kill_nil, st_call, v_call, forget_nil, forget_cons, Option.map_some, Option.map_none, Option.bind_some, List.map_cons, List.map_nil, if_true, if_false, Nat.reduceEqDiff, Int.reduceEq, Nat.reduceAdd, Nat.reduceMul, Bool.not_true, Bool.not_false, reduceCtorEq, decide_true, decide_false, Int.cast_ofNat_Int, eq_self, Int.reduceLT, Int.reduceLE, Int.reduceToNat, Int.toNat_natCast, Int.le_refl, Nat.le_refl, Nat.zero_add, Nat.add_zero, Nat.zero_mul, Nat.mul_one, Nat.mul_zero, and_self, and_true, true_and, List.length_cons, List.length_nil, List.all_cons, List.all_nil, Bool.and_self, Bool.and_true, Bool.true_and, List.take_zero, List.nil_append, List.drop_nil, List.append_nil, List.getElem?_cons_zero, List.getElem?_cons_succ, List.drop_succ_cons, List.drop_zero, List.take_succ_cons, List.cons_append, Nat.reduceLeDiff, hq, hlr, hle, hlv]
      rw [w_enter]
      simp only [w_draw, dr_cons, dr_some, dr_none, dr_go, still_no, still_yes, next_no, next_yes, last_cons, last_nil, isStore, calm_no, calm_nil, calm_cons, calmB_some, isCall, freshI, dr_nil, dr_end, still_nil, still_cons, stillB_some, stamp_some, stampV_ptr, stampV_tuple, stampO, still_here, still_here0, List.nil_append, w_out, w_gives, fin_ret, fin_normal, ress_nil, ress_tmp, pack_one, pack_nil, pack_two, entry_nil, entry_one, entry_two, entry_three, entry_four, eq_skip, eq_exit, eq_ret, w_rows, w_done, w_seq, w_normal, w_ret, w_exit, w_cond, w_true, w_false, eq_block, block_normal, block_ret, block_exit, rows_nil, rows_cons, on_some, on_none, row_plain, row_guard, guard_tt, guard_ff, guard_tf, guard_ft, guard_no, ev_tmp, ev_int, ev_bool, ev_string, ev_slice, ev_pointer, ev_map, ev_float, ev_complex, ev_nilIface, ev_nilFunc, ev_func, eget_cons, eget_nil, st_mv, st_pick, v_pick_t, v_pick_f, st_ext, v_ext0, v_ext1, v_ext2, v_ext3, st_int, v_int, int_add, int_sub, int_mul, int_eql, int_neq, int_lss, int_leq, int_gtr, int_geq, st_beq, v_beq, v_bne, st_not, v_not, st_conv, v_conv, st_faddr, v_faddr, st_iaddr, v_iaddr, st_aaddr, v_aaddr, st_nilChk, v_nil, st_len, v_len, v_lenS, st_load, v_load, got_one, got_row, mem_tip, mem_ro, mem_ret, st_alloc, st_box, st_store, v_store, got_store, cells_agg, cells_int, cells_bool, cells_slice, cells_pointer, cells_string, cells_complex, cells_func, one_int, one_bool, one_slice, one_pointer, one_string, one_complex, one_func, upd_push, get_push_self, AHeap.n_push, AHeap.n_upd, st_build, parts_nil, parts_cons, st_bslice, st_append, st_mkfun, st_mkface, st_isNil, st_max, v_max, st_min, v_min, st_field, st_index, st_slice0, v_slice0, v_slice0n, st_slice, kill_nil, st_call, v_call, forget_nil, forget_cons, Option.map_some, Option.map_none, Option.bind_some, List.map_cons, List.map_nil, if_true, if_false, Nat.reduceEqDiff, Int.reduceEq, Nat.reduceAdd, Nat.reduceMul, Bool.not_true, Bool.not_false, reduceCtorEq, decide_true, decide_false, Int.cast_ofNat_Int, eq_self, Int.reduceLT, Int.reduceLE, Int.reduceToNat, Int.toNat_natCast, Int.le_refl, Nat.le_refl, Nat.zero_add, Nat.add_zero, Nat.zero_mul, Nat.mul_one, Nat.mul_zero, and_self, and_true, true_and, List.length_cons, List.length_nil, List.all_cons, List.all_nil, Bool.and_self, Bool.and_true, Bool.true_and, List.take_zero, List.nil_append, List.drop_nil, List.append_nil, List.getElem?_cons_zero, List.getElem?_cons_succ, List.drop_succ_cons, List.drop_zero, List.take_succ_cons, List.cons_append, Nat.reduceLeDiff, r1, r2, r3, r4, r5, r6, r7, r8, r9, hw2]
      rw [w_enter]
      simp only [w_draw, dr_cons, dr_some, dr_none, dr_go, still_no, still_yes, next_no, next_yes, last_cons, last_nil, isStore, calm_no, calm_nil, calm_cons, calmB_some, isCall, freshI, dr_nil, dr_end, still_nil, still_cons, stillB_some, stamp_some, stampV_ptr, stampV_tuple, stampO, still_here, still_here0, List.nil_append, w_out, w_gives, fin_ret, fin_normal, ress_nil, ress_tmp, pack_one, pack_nil, pack_two, entry_nil, entry_one, entry_two, entry_three, entry_four, eq_skip, eq_exit, eq_ret, w_rows, w_done, w_seq, w_normal, w_ret, w_exit, w_cond, w_true, w_false, eq_block, block_normal, block_ret, block_exit, rows_nil, rows_cons, on_some, on_none, row_plain, row_guard, guard_tt, guard_ff, guard_tf, guard_ft, guard_no, ev_tmp, ev_int, ev_bool, ev_string, ev_slice, ev_pointer, ev_map, ev_float, ev_complex, ev_nilIface, ev_nilFunc, ev_func, eget_cons, eget_nil, st_mv, st_pick, v_pick_t, v_pick_f, st_ext, v_ext0, v_ext1, v_ext2, v_ext3, st_int, v_int, int_add, int_sub, int_mul, int_eql, int_neq, int_lss, int_leq, int_gtr, int_geq, st_beq, v_beq, v_bne, st_not, v_not, st_conv, v_conv, st_faddr, v_faddr, st_iaddr, v_iaddr, st_aaddr, v_aaddr, st_nilChk, v_nil, st_len, v_len, v_lenS, st_load, v_load, got_one, got_row, mem_tip, mem_ro, mem_ret, st_alloc, st_box, st_store, v_store, got_store, cells_agg, cells_int, cells_bool, cells_slice, cells_pointer, cells_string, cells_complex, cells_func, one_int, one_bool, one_slice, one_pointer, one_string, one_complex, one_func, upd_push, get_push_self, AHeap.n_push, AHeap.n_upd, st_build, parts_nil, parts_cons, st_bslice, st_append, st_mkfun, st_mkface, st_isNil, st_max, v_max, st_min, v_min, st_field, st_index, st_slice0, v_slice0, v_slice0n, st_slice, kill_nil, st_call, v_call, forget_nil, forget_cons, Option.map_some, Option.map_none, Option.bind_some, List.map_cons, List.map_nil, if_true, if_false, Nat.reduceEqDiff, Int.reduceEq, Nat.reduceAdd, Nat.reduceMul, Bool.not_true, Bool.not_false, reduceCtorEq, decide_true, decide_false, Int.cast_ofNat_Int, eq_self, Int.reduceLT, Int.reduceLE, Int.reduceToNat, Int.toNat_natCast, Int.le_refl, Nat.le_refl, Nat.zero_add, Nat.add_zero, Nat.zero_mul, Nat.mul_one, Nat.mul_zero, and_self, and_true, true_and, List.length_cons, List.length_nil, List.all_cons, List.all_nil, Bool.and_self, Bool.and_true, Bool.true_and, List.take_zero, List.nil_append, List.drop_nil, List.append_nil, List.getElem?_cons_zero, List.getElem?_cons_succ, List.drop_succ_cons, List.drop_zero, List.take_succ_cons, List.cons_append, Nat.reduceLeDiff, r2, r3, r4, r7, r8, r9, q1]
      exact ⟨q2, q3, q4, q5, q6, q7, S', q8, q9, q10, by omega⟩
    · rw [decide_eq_false hin] at r6
      rw [if_neg (fun h => (List.mem_cons.1 h).elim hne hin)]
      obtain ⟨b', s1, s2, s3⟩ := (hI.ext hx).take (hC.ext hx) (show n + 1 ≤ In.length by omega)
      have s1' := s1 .i64
      have s2' := s2
      obtain ⟨⟨pb, cb, rfl⟩, _⟩ := s2'
      have hnq : NotAt v q := by
        obtain ⟨_, ho⟩ := hown
        rcases ho with ⟨rfl, _⟩ | ⟨q', _, _, rfl, _, g2⟩
        · trivial
        · show q' ≠ q
          intro e
          subst e
          rw [g2] at hq
          injection hq with hq
          have := congrArg ABlk.elem hq
          exact absurd (show (24 : TypeId) = 41 from this) (by decide)
      obtain ⟨v', H2, m1, m2, m3, m4, m5⟩ := hv.push s2 (by unfold Lon.tiny; rw [List.length_take]; omega) (by omega)
      have hql := AHeap.lt_of_get hq
      have hx2 : Ext H0 H2 := ⟨by have := hx.1; omega, fun j hj => by rw [m5 j (by have := hx.1; omega) (NotAt.of_from hf hj), hx.2 j hj]⟩
      obtain ⟨y, e2, H3, q1, q2, q3, q4, q5, q6, q7, S', q8, q9, q10, q11⟩ := ih (n + 1) H2 v' (S ++ [In.take (n + 1)]) (by omega) hx2 (by rw [m5 q hql hnq]; exact hq) hI hC m2 (m3.mono hx.1) (by simp; omega)
      simp only [w_draw, dr_cons, dr_some, dr_none, dr_go, still_no, still_yes, next_no, next_yes, last_cons, last_nil, isStore, calm_no, calm_nil, calm_cons, calmB_some, isCall, freshI, dr_nil, dr_end, still_nil, still_cons, stillB_some, stamp_some, stampV_ptr, stampV_tuple, stampO, still_here, still_here0, List.nil_append, w_out, w_gives, fin_ret, fin_normal, ress_nil, ress_tmp, pack_one, pack_nil, pack_two, entry_nil, entry_one, entry_two, entry_three, entry_four, eq_skip, eq_exit, eq_ret, w_rows, w_done, w_seq, w_normal, w_ret, w_exit, w_cond, w_true, w_false, eq_block, block_normal, block_ret, block_exit, rows_nil, rows_cons, on_some, on_none, row_plain, row_guard, guard_tt, guard_ff, guard_tf, guard_ft, guard_no, ev_tmp, ev_int, ev_bool, ev_string, ev_slice, ev_pointer, ev_map, ev_float, ev_complex, ev_nilIface, ev_nilFunc, ev_func, eget_cons, eget_nil, st_mv, st_pick, v_pick_t, v_pick_f, st_ext, v_ext0, v_ext1, v_ext2, v_ext3, st_int, v_int, int_add, int_sub, int_mul, int_eql, int_neq, int_lss, int_leq, int_gtr, int_geq, st_beq, v_beq, v_bne, st_not, v_not, st_conv, v_conv, st_faddr, v_faddr, st_iaddr, v_iaddr, st_aaddr, v_aaddr, st_nilChk, v_nil, st_len, v_len, v_lenS, st_load, v_load, got_one, got_row, mem_tip, mem_ro, mem_ret, st_alloc, st_box, st_store, v_store, got_store, cells_agg, cells_int, cells_bool, cells_slice, cells_pointer, cells_string, cells_complex, cells_func, one_int, one_bool, one_slice, one_pointer, one_string, one_complex, one_func, upd_push, get_push_self, AHeap.n_push, AHeap.n_upd, st_build, parts_nil, parts_cons, st_bslice, st_append, st_mkfun, st_mkface, st_isNil, st_max, v_max, st_min, v_min, st_field, st_index, st_slice0, v_slice0, v_slice0n, st_slice, kill_nil, st_call, v_call, forget_nil, forget_cons, Option.map_some, Option.map_none, Option.bind_some, List.map_cons, List.map_nil, if_true, if_false, Nat.reduceEqDiff, Int.reduceEq, Nat.reduceAdd, Nat.reduceMul, Bool.not_true, Bool.not_false, reduceCtorEq, decide_true, decide_false, Int.cast_ofNat_Int, eq_self, Int.reduceLT, Int.reduceLE, Int.reduceToNat, Int.toNat_natCast, Int.le_refl, Nat.le_refl, Nat.zero_add, Nat.add_zero, Nat.zero_mul, Nat.mul_one, Nat.mul_zero, and_self, and_true, true_and, List.length_cons, List.length_nil, List.all_cons, List.all_nil, Bool.and_self, Bool.and_true, Bool.true_and, List.take_zero, List.nil_append, List.drop_nil, List.append_nil, List.getElem?_cons_zero, List.getElem?_cons_succ, List.drop_succ_cons, List.drop_zero, List.take_succ_cons, List.cons_append, Nat.reduceLeDiff, hq, hlr, hle, hlv]
      rw [w_enter]
      simp only [w_draw, dr_cons, dr_some, dr_none, dr_go, still_no, still_yes, next_no, next_yes, last_cons, last_nil, isStore, calm_no, calm_nil, calm_cons, calmB_some, isCall, freshI, dr_nil, dr_end, still_nil, still_cons, stillB_some, stamp_some, stampV_ptr, stampV_tuple, stampO, still_here, still_here0, List.nil_append, w_out, w_gives, fin_ret, fin_normal, ress_nil, ress_tmp, pack_one, pack_nil, pack_two, entry_nil, entry_one, entry_two, entry_three, entry_four, eq_skip, eq_exit, eq_ret, w_rows, w_done, w_seq, w_normal, w_ret, w_exit, w_cond, w_true, w_false, eq_block, block_normal, block_ret, block_exit, rows_nil, rows_cons, on_some, on_none, row_plain, row_guard, guard_tt, guard_ff, guard_tf, guard_ft, guard_no, ev_tmp, ev_int, ev_bool, ev_string, ev_slice, ev_pointer, ev_map, ev_float, ev_complex, ev_nilIface, ev_nilFunc, ev_func, eget_cons, eget_nil, st_mv, st_pick, v_pick_t, v_pick_f, st_ext, v_ext0, v_ext1, v_ext2, v_ext3, st_int, v_int, int_add, int_sub, int_mul, int_eql, int_neq, int_lss, int_leq, int_gtr, int_geq, st_beq, v_beq, v_bne, st_not, v_not, st_conv, v_conv, st_faddr, v_faddr, st_iaddr, v_iaddr, st_aaddr, v_aaddr, st_nilChk, v_nil, st_len, v_len, v_lenS, st_load, v_load, got_one, got_row, mem_tip, mem_ro, mem_ret, st_alloc, st_box, st_store, v_store, got_store, cells_agg, cells_int, cells_bool, cells_slice, cells_pointer, cells_string, cells_complex, cells_func, one_int, one_bool, one_slice, one_pointer, one_string, one_complex, one_func, upd_push, get_push_self, AHeap.n_push, AHeap.n_upd, st_build, parts_nil, parts_cons, st_bslice, st_append, st_mkfun, st_mkface, st_isNil, st_max, v_max, st_min, v_min, st_field, st_index, st_slice0, v_slice0, v_slice0n, st_slice, kill_nil, st_call, v_call, forget_nil, forget_cons, Option.map_some, Option.map_none, Option.bind_some, List.map_cons, List.map_nil, if_true, if_false, Nat.reduceEqDiff, Int.reduceEq, Nat.reduceAdd, Nat.reduceMul, Bool.not_true, Bool.not_false, reduceCtorEq, decide_true, decide_false, Int.cast_ofNat_Int, eq_self, Int.reduceLT, Int.reduceLE, Int.reduceToNat, Int.toNat_natCast, Int.le_refl, Nat.le_refl, Nat.zero_add, Nat.add_zero, Nat.zero_mul, Nat.mul_one, Nat.mul_zero, and_self, and_true, true_and, List.length_cons, List.length_nil, List.all_cons, List.all_nil, Bool.and_self, Bool.and_true, Bool.true_and, List.take_zero, List.nil_append, List.drop_nil, List.append_nil, List.getElem?_cons_zero, List.getElem?_cons_succ, List.drop_succ_cons, List.drop_zero, List.take_succ_cons, List.cons_append, Nat.reduceLeDiff, r1, r2, r3, r4, r5, r6, r7, r8, r9, hq, s1', v_one1, m1, hw2]
      rw [w_enter]
      simp only [w_draw, dr_cons, dr_some, dr_none, dr_go, still_no, still_yes, next_no, next_yes, last_cons, last_nil, isStore, calm_no, calm_nil, calm_cons, calmB_some, isCall, freshI, dr_nil, dr_end, still_nil, still_cons, stillB_some, stamp_some, stampV_ptr, stampV_tuple, stampO, still_here, still_here0, List.nil_append, w_out, w_gives, fin_ret, fin_normal, ress_nil, ress_tmp, pack_one, pack_nil, pack_two, entry_nil, entry_one, entry_two, entry_three, entry_four, eq_skip, eq_exit, eq_ret, w_rows, w_done, w_seq, w_normal, w_ret, w_exit, w_cond, w_true, w_false, eq_block, block_normal, block_ret, block_exit, rows_nil, rows_cons, on_some, on_none, row_plain, row_guard, guard_tt, guard_ff, guard_tf, guard_ft, guard_no, ev_tmp, ev_int, ev_bool, ev_string, ev_slice, ev_pointer, ev_map, ev_float, ev_complex, ev_nilIface, ev_nilFunc, ev_func, eget_cons, eget_nil, st_mv, st_pick, v_pick_t, v_pick_f, st_ext, v_ext0, v_ext1, v_ext2, v_ext3, st_int, v_int, int_add, int_sub, int_mul, int_eql, int_neq, int_lss, int_leq, int_gtr, int_geq, st_beq, v_beq, v_bne, st_not, v_not, st_conv, v_conv, st_faddr, v_faddr, st_iaddr, v_iaddr, st_aaddr, v_aaddr, st_nilChk, v_nil, st_len, v_len, v_lenS, st_load, v_load, got_one, got_row, mem_tip, mem_ro, mem_ret, st_alloc, st_box, st_store, v_store, got_store, cells_agg, cells_int, cells_bool, cells_slice, cells_pointer, cells_string, cells_complex, cells_func, one_int, one_bool, one_slice, one_pointer, one_string, one_complex, one_func, upd_push, get_push_self, AHeap.n_push, AHeap.n_upd, st_build, parts_nil, parts_cons, st_bslice, st_append, st_mkfun, st_mkface, st_isNil, st_max, v_max, st_min, v_min, st_field, st_index, st_slice0, v_slice0, v_slice0n, st_slice, kill_nil, st_call, v_call, forget_nil, forget_cons, Option.map_some, Option.map_none, Option.bind_some, List.map_cons, List.map_nil, if_true, if_false, Nat.reduceEqDiff, Int.reduceEq, Nat.reduceAdd, Nat.reduceMul, Bool.not_true, Bool.not_false, reduceCtorEq, decide_true, decide_false, Int.cast_ofNat_Int, eq_self, Int.reduceLT, Int.reduceLE, Int.reduceToNat, Int.toNat_natCast, Int.le_refl, Nat.le_refl, Nat.zero_add, Nat.add_zero, Nat.zero_mul, Nat.mul_one, Nat.mul_zero, and_self, and_true, true_and, List.length_cons, List.length_nil, List.all_cons, List.all_nil, Bool.and_self, Bool.and_true, Bool.true_and, List.take_zero, List.nil_append, List.drop_nil, List.append_nil, List.getElem?_cons_zero, List.getElem?_cons_succ, List.drop_succ_cons, List.drop_zero, List.take_succ_cons, List.cons_append, Nat.reduceLeDiff, r2, r3, r4, r7, r8, r9, q1]
      exact ⟨q2, q3, q4, q5, q6, q7, S', q8, q9, q10, by simp at q11; omega⟩
theorem l_T2 {H0 : AHeap} {a : Value} {L : List Rl} {t : Nat} (hl : L.length ≤ 40) (ha : Rules H0 a L) (hac : CutR H0 a) (hR : Right L) : ∀ (k i : Nat) (H : AHeap) (v : Value) (S : List (List Int)), i + k = L.length → Ext H0 H → Sees H v S → From H0.n v → [] :: S = paths (L.take i) → S.length ≤ 8 * i →
    Out (run Try.prog (tabF tab) om1 (.loop [4, 8, 44, 45, 46] b_lontarlaw04_TrieOf_2) [(4, .pointer (some ⟨t, 0, none⟩)), (8, v), (44, a), (45, .int .i64 L.length), (46, .int .i64 i)] H) fun y e' H' => y = .exit 0 ∧ Ext H0 H' ∧ eget e' 4 = .pointer (some ⟨t, 0, none⟩) ∧ ∃ S', Sees H' (eget e' 8) S' ∧ [] :: S' = paths L := by
  intro k
  induction k with
  | zero =>
    intro i H v S hi hx hv hf hp hS
    have hlt : ¬ ((i : Int) < L.length) := by omega
    rw [w_loop_b b_lontarlaw04_TrieOf_2.eq_1]
    rw [List.take_of_length_le (by omega)] at hp
    simp only [w_draw, dr_cons, dr_some, dr_none, dr_go, still_no, still_yes, next_no, next_yes, last_cons, last_nil, isStore, calm_no, calm_nil, calm_cons, calmB_some, isCall, freshI, dr_nil, dr_end, still_nil, still_cons, stillB_some, stamp_some, stampV_ptr, stampV_tuple, stampO, still_here, still_here0, List.nil_append, w_out, w_gives, fin_ret, fin_normal, ress_nil, ress_tmp, pack_one, pack_nil, pack_two, entry_nil, entry_one, entry_two, entry_three, entry_four, eq_skip, eq_exit, eq_ret, w_rows, w_done, w_seq, w_normal, w_ret, w_exit, w_cond, w_true, w_false, eq_block, block_normal, block_ret, block_exit, rows_nil, rows_cons, on_some, on_none, row_plain, row_guard, guard_tt, guard_ff, guard_tf, guard_ft, guard_no, ev_tmp, ev_int, ev_bool, ev_string, ev_slice, ev_pointer, ev_map, ev_float, ev_complex, ev_nilIface, ev_nilFunc, ev_func, eget_cons, eget_nil, st_mv, st_pick, v_pick_t, v_pick_f, st_ext, v_ext0, v_ext1, v_ext2, v_ext3, st_int, v_int, int_add, int_sub, int_mul, int_eql, int_neq, int_lss, int_leq, int_gtr, int_geq, st_beq, v_beq, v_bne, st_not, v_not, st_conv, v_conv, st_faddr, v_faddr, st_iaddr, v_iaddr, st_aaddr, v_aaddr, st_nilChk, v_nil, st_len, v_len, v_lenS, st_load, v_load, got_one, got_row, mem_tip, mem_ro, mem_ret, st_alloc, st_box, st_store, v_store, got_store, cells_agg, cells_int, cells_bool, cells_slice, cells_pointer, cells_string, cells_complex, cells_func, one_int, one_bool, one_slice, one_pointer, one_string, one_complex, one_func, upd_push, get_push_self, AHeap.n_push, AHeap.n_upd, st_build, parts_nil, parts_cons, st_bslice, st_append, st_mkfun, st_mkface, st_isNil, st_max, v_max, st_min, v_min, st_field, st_index, st_slice0, v_slice0, v_slice0n, st_slice, kill_nil, st_call, v_call, forget_nil, forget_cons, Option.map_some, Option.map_none, Option.bind_some, List.map_cons, List.map_nil, if_true, if_false, Nat.reduceEqDiff, Int.reduceEq, Nat.reduceAdd, Nat.reduceMul, Bool.not_true, Bool.not_false, reduceCtorEq, decide_true, decide_false, Int.cast_ofNat_Int, eq_self, Int.reduceLT, Int.reduceLE, Int.reduceToNat, Int.toNat_natCast, Int.le_refl, Nat.le_refl, Nat.zero_add, Nat.add_zero, Nat.zero_mul, Nat.mul_one, Nat.mul_zero, and_self, and_true, true_and, List.length_cons, List.length_nil, List.all_cons, List.all_nil, Bool.and_self, Bool.and_true, Bool.true_and, List.take_zero, List.nil_append, List.drop_nil, List.append_nil, List.getElem?_cons_zero, List.getElem?_cons_succ, List.drop_succ_cons, List.drop_zero, List.take_succ_cons, List.cons_append, Nat.reduceLeDiff, hlt]
    exact ⟨hx, S, hv, hp⟩
  | succ k ih =>
    intro i H v S hi hx hv hf hp hS
    have hlt : (i : Int) < L.length := by omega
    obtain ⟨r, hr, hdr⟩ := drop_at (L := L) (i := i) (by omega)
    have htk : L.take (i + 1) = L.take i ++ [r] := by rw [List.take_add_one, hr]; rfl
    have hps : addIns (paths (L.take i)) [] r.1 = paths (L.take (i + 1)) := by unfold paths; rw [htk, List.foldl_append]; rfl
    obtain ⟨sd1, sd2⟩ := hR.1 r (List.mem_of_getElem? hr)
    have l1 := side_len sd1
    obtain ⟨i1, o1, vi, vo, h1, h2, h3, h4, h5, h6, h7, h8, h9, h10⟩ := Rules.atC ha hac hr
    have h5' := h5
    have h6' := h6
    obtain ⟨⟨ai, ci, rfl⟩, _⟩ := h5'
    obtain ⟨⟨ao, co, rfl⟩, _⟩ := h6'
    have h4' := got_ext hx h4
    have hx1 := Ext.push H ⟨[.slice ai r.1.length ci, .slice ao r.2.length co], 41, .tip, 1, []⟩
    have hg1 := get_push_self (H := H) (b := ⟨[.slice ai r.1.length ci, .slice ao r.2.length co], 41, .tip, 1, []⟩)
    have hw2 : IntKind.i64.wrap ((i : Int) + 1) = ((i + 1 : Nat) : Int) := by rw [wrap64 (by omega) (by omega)]; omega
    obtain ⟨y, e', H', r1, rfl, x2, r2, r3, r4, r5, S', r6, r7, r8, r9⟩ := l_T1 (a := a) (t := t) (z1 := L.length) (z2 := i) l1.2 hx.1 r.1.length 0 _ v S (by omega) (hx.trans hx1) hg1 h5 h9 (hv.ext hx1) hf (by omega)
    rw [hp, List.take_zero, List.drop_zero, hps] at r8
    obtain ⟨y, e2, H3, q1, q2, q3, q4, q5⟩ := ih (i + 1) H' (eget e' 8) S' (by omega) x2 r6 r7 r8 (by omega)
    simp only [Nat.zero_add, Int.cast_ofNat_Int] at r1
    rw [w_loop_b b_lontarlaw04_TrieOf_2.eq_1]
    simp only [w_draw, dr_cons, dr_some, dr_none, dr_go, still_no, still_yes, next_no, next_yes, last_cons, last_nil, isStore, calm_no, calm_nil, calm_cons, calmB_some, isCall, freshI, dr_nil, dr_end, still_nil, still_cons, stillB_some, stamp_some, stampV_ptr, stampV_tuple, stampO, still_here, still_here0, List.nil_append, w_out, w_gives, fin_ret, fin_normal, ress_nil, ress_tmp, pack_one, pack_nil, pack_two, entry_nil, entry_one, entry_two, entry_three, entry_four, eq_skip, eq_exit, eq_ret, w_rows, w_done, w_seq, w_normal, w_ret, w_exit, w_cond, w_true, w_false, eq_block, block_normal, block_ret, block_exit, rows_nil, rows_cons, on_some, on_none, row_plain, row_guard, guard_tt, guard_ff, guard_tf, guard_ft, guard_no, ev_tmp, ev_int, ev_bool, ev_string, ev_slice, ev_pointer, ev_map, ev_float, ev_complex, ev_nilIface, ev_nilFunc, ev_func, eget_cons, eget_nil, st_mv, st_pick, v_pick_t, v_pick_f, st_ext, v_ext0, v_ext1, v_ext2, v_ext3, st_int, v_int, int_add, int_sub, int_mul, int_eql, int_neq, int_lss, int_leq, int_gtr, int_geq, st_beq, v_beq, v_bne, st_not, v_not, st_conv, v_conv, st_faddr, v_faddr, st_iaddr, v_iaddr, st_aaddr, v_aaddr, st_nilChk, v_nil, st_len, v_len, v_lenS, st_load, v_load, got_one, got_row, mem_tip, mem_ro, mem_ret, st_alloc, st_box, st_store, v_store, got_store, cells_agg, cells_int, cells_bool, cells_slice, cells_pointer, cells_string, cells_complex, cells_func, one_int, one_bool, one_slice, one_pointer, one_string, one_complex, one_func, upd_push, get_push_self, AHeap.n_push, AHeap.n_upd, st_build, parts_nil, parts_cons, st_bslice, st_append, st_mkfun, st_mkface, st_isNil, st_max, v_max, st_min, v_min, st_field, st_index, st_slice0, v_slice0, v_slice0n, st_slice, kill_nil, st_call, v_call, forget_nil, forget_cons, Option.map_some, Option.map_none, Option.bind_some, List.map_cons, List.map_nil, if_true, if_false, Nat.reduceEqDiff, Int.reduceEq, Nat.reduceAdd, Nat.reduceMul, Bool.not_true, Bool.not_false, reduceCtorEq, decide_true, decide_false, Int.cast_ofNat_Int, eq_self, Int.reduceLT, Int.reduceLE, Int.reduceToNat, Int.toNat_natCast, Int.le_refl, Nat.le_refl, Nat.zero_add, Nat.add_zero, Nat.zero_mul, Nat.mul_one, Nat.mul_zero, and_self, and_true, true_and, List.length_cons, List.length_nil, List.all_cons, List.all_nil, Bool.and_self, Bool.and_true, Bool.true_and, List.take_zero, List.nil_append, List.drop_nil, List.append_nil, List.getElem?_cons_zero, List.getElem?_cons_succ, List.drop_succ_cons, List.drop_zero, List.take_succ_cons, List.cons_append, Nat.reduceLeDiff, hlt, h1, h4']
    rw [w_enter]
    simp only [w_draw, dr_cons, dr_some, dr_none, dr_go, still_no, still_yes, next_no, next_yes, last_cons, last_nil, isStore, calm_no, calm_nil, calm_cons, calmB_some, isCall, freshI, dr_nil, dr_end, still_nil, still_cons, stillB_some, stamp_some, stampV_ptr, stampV_tuple, stampO, still_here, still_here0, List.nil_append, w_out, w_gives, fin_ret, fin_normal, ress_nil, ress_tmp, pack_one, pack_nil, pack_two, entry_nil, entry_one, entry_two, entry_three, entry_four, eq_skip, eq_exit, eq_ret, w_rows, w_done, w_seq, w_normal, w_ret, w_exit, w_cond, w_true, w_false, eq_block, block_normal, block_ret, block_exit, rows_nil, rows_cons, on_some, on_none, row_plain, row_guard, guard_tt, guard_ff, guard_tf, guard_ft, guard_no, ev_tmp, ev_int, ev_bool, ev_string, ev_slice, ev_pointer, ev_map, ev_float, ev_complex, ev_nilIface, ev_nilFunc, ev_func, eget_cons, eget_nil, st_mv, st_pick, v_pick_t, v_pick_f, st_ext, v_ext0, v_ext1, v_ext2, v_ext3, st_int, v_int, int_add, int_sub, int_mul, int_eql, int_neq, int_lss, int_leq, int_gtr, int_geq, st_beq, v_beq, v_bne, st_not, v_not, st_conv, v_conv, st_faddr, v_faddr, st_iaddr, v_iaddr, st_aaddr, v_aaddr, st_nilChk, v_nil, st_len, v_len, v_lenS, st_load, v_load, got_one, got_row, mem_tip, mem_ro, mem_ret, st_alloc, st_box, st_store, v_store, got_store, cells_agg, cells_int, cells_bool, cells_slice, cells_pointer, cells_string, cells_complex, cells_func, one_int, one_bool, one_slice, one_pointer, one_string, one_complex, one_func, upd_push, get_push_self, AHeap.n_push, AHeap.n_upd, st_build, parts_nil, parts_cons, st_bslice, st_append, st_mkfun, st_mkface, st_isNil, st_max, v_max, st_min, v_min, st_field, st_index, st_slice0, v_slice0, v_slice0n, st_slice, kill_nil, st_call, v_call, forget_nil, forget_cons, Option.map_some, Option.map_none, Option.bind_some, List.map_cons, List.map_nil, if_true, if_false, Nat.reduceEqDiff, Int.reduceEq, Nat.reduceAdd, Nat.reduceMul, Bool.not_true, Bool.not_false, reduceCtorEq, decide_true, decide_false, Int.cast_ofNat_Int, eq_self, Int.reduceLT, Int.reduceLE, Int.reduceToNat, Int.toNat_natCast, Int.le_refl, Nat.le_refl, Nat.zero_add, Nat.add_zero, Nat.zero_mul, Nat.mul_one, Nat.mul_zero, and_self, and_true, true_and, List.length_cons, List.length_nil, List.all_cons, List.all_nil, Bool.and_self, Bool.and_true, Bool.true_and, List.take_zero, List.nil_append, List.drop_nil, List.append_nil, List.getElem?_cons_zero, List.getElem?_cons_succ, List.drop_succ_cons, List.drop_zero, List.take_succ_cons, List.cons_append, Nat.reduceLeDiff, r1, r2, r3, r4, r5, hw2]
    rw [w_enter]
    simp only [w_draw, dr_cons, dr_some, dr_none, dr_go, still_no, still_yes, next_no, next_yes, last_cons, last_nil, isStore, calm_no, calm_nil, calm_cons, calmB_some, isCall, freshI, dr_nil, dr_end, still_nil, still_cons, stillB_some, stamp_some, stampV_ptr, stampV_tuple, stampO, still_here, still_here0, List.nil_append, w_out, w_gives, fin_ret, fin_normal, ress_nil, ress_tmp, pack_one, pack_nil, pack_two, entry_nil, entry_one, entry_two, entry_three, entry_four, eq_skip, eq_exit, eq_ret, w_rows, w_done, w_seq, w_normal, w_ret, w_exit, w_cond, w_true, w_false, eq_block, block_normal, block_ret, block_exit, rows_nil, rows_cons, on_some, on_none, row_plain, row_guard, guard_tt, guard_ff, guard_tf, guard_ft, guard_no, ev_tmp, ev_int, ev_bool, ev_string, ev_slice, ev_pointer, ev_map, ev_float, ev_complex, ev_nilIface, ev_nilFunc, ev_func, eget_cons, eget_nil, st_mv, st_pick, v_pick_t, v_pick_f, st_ext, v_ext0, v_ext1, v_ext2, v_ext3, st_int, v_int, int_add, int_sub, int_mul, int_eql, int_neq, int_lss, int_leq, int_gtr, int_geq, st_beq, v_beq, v_bne, st_not, v_not, st_conv, v_conv, st_faddr, v_faddr, st_iaddr, v_iaddr, st_aaddr, v_aaddr, st_nilChk, v_nil, st_len, v_len, v_lenS, st_load, v_load, got_one, got_row, mem_tip, mem_ro, mem_ret, st_alloc, st_box, st_store, v_store, got_store, cells_agg, cells_int, cells_bool, cells_slice, cells_pointer, cells_string, cells_complex, cells_func, one_int, one_bool, one_slice, one_pointer, one_string, one_complex, one_func, upd_push, get_push_self, AHeap.n_push, AHeap.n_upd, st_build, parts_nil, parts_cons, st_bslice, st_append, st_mkfun, st_mkface, st_isNil, st_max, v_max, st_min, v_min, st_field, st_index, st_slice0, v_slice0, v_slice0n, st_slice, kill_nil, st_call, v_call, forget_nil, forget_cons, Option.map_some, Option.map_none, Option.bind_some, List.map_cons, List.map_nil, if_true, if_false, Nat.reduceEqDiff, Int.reduceEq, Nat.reduceAdd, Nat.reduceMul, Bool.not_true, Bool.not_false, reduceCtorEq, decide_true, decide_false, Int.cast_ofNat_Int, eq_self, Int.reduceLT, Int.reduceLE, Int.reduceToNat, Int.toNat_natCast, Int.le_refl, Nat.le_refl, Nat.zero_add, Nat.add_zero, Nat.zero_mul, Nat.mul_one, Nat.mul_zero, and_self, and_true, true_and, List.length_cons, List.length_nil, List.all_cons, List.all_nil, Bool.and_self, Bool.and_true, Bool.true_and, List.take_zero, List.nil_append, List.drop_nil, List.append_nil, List.getElem?_cons_zero, List.getElem?_cons_succ, List.drop_succ_cons, List.drop_zero, List.take_succ_cons, List.cons_append, Nat.reduceLeDiff, r2, r3, r4, q1]
    exact ⟨q2, q3, q4, q5⟩
theorem law_Of {a : Value} {R : List RowD} {H : AHeap} (ha : RowsAt H a R) : Gives (cw Try.prog (tabF tab) om1 4 [a] H) fun v H' => v = .bool true := by
  rw [cw_run (F := F_lontarlaw04_TrieOf) rfl rfl rfl]
  unfold F_lontarlaw04_TrieOf k_lontarlaw04_TrieOf
  obtain ⟨v1, H1, c1, x1, o1, k1⟩ := c_Rules ha
  have h40 := RL_len R
  have hR := o1.rules (by omega)
  have hC : Cut Try.prog H1 v1 2 := o1.cut (by kernel_rfl)
  by_cases h0 : (chk (RL R) (RL R) 0).2 = 0
  · have hgood := chk_right0 h0
    obtain ⟨v2, H2, c2, x2, t, bb, vr, N, rfl, hT, hF, hRF, hρ⟩ := c_Of hR hC hgood (by omega)
    obtain ⟨v3, H3, c3, x3, rfl⟩ := c_Check (hR.ext x2) (hC.ext x2)
    rw [h0] at c3
    have hl1 : ∀ H, vLen false v1 H = some (.int .i64 (RL R).length, H) := fun H => hR.len
    obtain ⟨y, e', H4, r1, rfl, x4, r3, S', r4, r5⟩ := l_T2 (t := t) h40 ((hR.ext x2).ext x3) ((k1.ext x2).ext x3) hgood (RL R).length 0 H3 (.slice none 0 0) [] (by omega) (Ext.refl _) (Sees.nil _) trivial rfl (by simp)
    have cZ := c_Size ((hT.at.ext x3).ext x4)
    obtain ⟨cs, hown, _⟩ := r4
    have hlv : ∀ H2 : AHeap, vLen false (eget e' 8) H2 = some (.int .i64 S'.length, H2) := fun H2 => hown.sl.len
    have hlen : N.length = S'.length + 1 := by rw [hF.len, ← r5]; rfl
    have hfew := hT.few
    have hw : IntKind.i64.wrap ((S'.length : Int) + 1) = (N.length : Int) := by rw [wrap64 (by omega) (by omega)]; omega
    have z : ((0 : Int) ≠ 0) = False := by simp
    have g1 : decide ((N.length : Int) = (N.length : Int)) = true := by simp
    simp only [Int.cast_ofNat_Int] at r1
    simp only [w_draw, dr_cons, dr_some, dr_none, dr_go, still_no, still_yes, next_no, next_yes, last_cons, last_nil, isStore, calm_no, calm_nil, calm_cons, calmB_some, isCall, freshI, dr_nil, dr_end, still_nil, still_cons, stillB_some, stamp_some, stampV_ptr, stampV_tuple, stampO, still_here, still_here0, List.nil_append, w_out, w_gives, fin_ret, fin_normal, ress_nil, ress_tmp, pack_one, pack_nil, pack_two, entry_nil, entry_one, entry_two, entry_three, entry_four, eq_skip, eq_exit, eq_ret, w_rows, w_done, w_seq, w_normal, w_ret, w_exit, w_cond, w_true, w_false, eq_block, block_normal, block_ret, block_exit, rows_nil, rows_cons, on_some, on_none, row_plain, row_guard, guard_tt, guard_ff, guard_tf, guard_ft, guard_no, ev_tmp, ev_int, ev_bool, ev_string, ev_slice, ev_pointer, ev_map, ev_float, ev_complex, ev_nilIface, ev_nilFunc, ev_func, eget_cons, eget_nil, st_mv, st_pick, v_pick_t, v_pick_f, st_ext, v_ext0, v_ext1, v_ext2, v_ext3, st_int, v_int, int_add, int_sub, int_mul, int_eql, int_neq, int_lss, int_leq, int_gtr, int_geq, st_beq, v_beq, v_bne, st_not, v_not, st_conv, v_conv, st_faddr, v_faddr, st_iaddr, v_iaddr, st_aaddr, v_aaddr, st_nilChk, v_nil, st_len, v_len, v_lenS, st_load, v_load, got_one, got_row, mem_tip, mem_ro, mem_ret, st_alloc, st_box, st_store, v_store, got_store, cells_agg, cells_int, cells_bool, cells_slice, cells_pointer, cells_string, cells_complex, cells_func, one_int, one_bool, one_slice, one_pointer, one_string, one_complex, one_func, upd_push, get_push_self, AHeap.n_push, AHeap.n_upd, st_build, parts_nil, parts_cons, st_bslice, st_append, st_mkfun, st_mkface, st_isNil, st_max, v_max, st_min, v_min, st_field, st_index, st_slice0, v_slice0, v_slice0n, st_slice, kill_nil, st_call, v_call, forget_nil, forget_cons, Option.map_some, Option.map_none, Option.bind_some, List.map_cons, List.map_nil, if_true, if_false, Nat.reduceEqDiff, Int.reduceEq, Nat.reduceAdd, Nat.reduceMul, Bool.not_true, Bool.not_false, reduceCtorEq, decide_true, decide_false, Int.cast_ofNat_Int, eq_self, Int.reduceLT, Int.reduceLE, Int.reduceToNat, Int.toNat_natCast, Int.le_refl, Nat.le_refl, Nat.zero_add, Nat.add_zero, Nat.zero_mul, Nat.mul_one, Nat.mul_zero, and_self, and_true, true_and, List.length_cons, List.length_nil, List.all_cons, List.all_nil, Bool.and_self, Bool.and_true, Bool.true_and, List.take_zero, List.nil_append, List.drop_nil, List.append_nil, List.getElem?_cons_zero, List.getElem?_cons_succ, List.drop_succ_cons, List.drop_zero, List.take_succ_cons, List.cons_append, Nat.reduceLeDiff, o_awake, c1, c2, c3, z, v_nilp, hl1]
    rw [w_enter]
    simp only [w_draw, dr_cons, dr_some, dr_none, dr_go, still_no, still_yes, next_no, next_yes, last_cons, last_nil, isStore, calm_no, calm_nil, calm_cons, calmB_some, isCall, freshI, dr_nil, dr_end, still_nil, still_cons, stillB_some, stamp_some, stampV_ptr, stampV_tuple, stampO, still_here, still_here0, List.nil_append, w_out, w_gives, fin_ret, fin_normal, ress_nil, ress_tmp, pack_one, pack_nil, pack_two, entry_nil, entry_one, entry_two, entry_three, entry_four, eq_skip, eq_exit, eq_ret, w_rows, w_done, w_seq, w_normal, w_ret, w_exit, w_cond, w_true, w_false, eq_block, block_normal, block_ret, block_exit, rows_nil, rows_cons, on_some, on_none, row_plain, row_guard, guard_tt, guard_ff, guard_tf, guard_ft, guard_no, ev_tmp, ev_int, ev_bool, ev_string, ev_slice, ev_pointer, ev_map, ev_float, ev_complex, ev_nilIface, ev_nilFunc, ev_func, eget_cons, eget_nil, st_mv, st_pick, v_pick_t, v_pick_f, st_ext, v_ext0, v_ext1, v_ext2, v_ext3, st_int, v_int, int_add, int_sub, int_mul, int_eql, int_neq, int_lss, int_leq, int_gtr, int_geq, st_beq, v_beq, v_bne, st_not, v_not, st_conv, v_conv, st_faddr, v_faddr, st_iaddr, v_iaddr, st_aaddr, v_aaddr, st_nilChk, v_nil, st_len, v_len, v_lenS, st_load, v_load, got_one, got_row, mem_tip, mem_ro, mem_ret, st_alloc, st_box, st_store, v_store, got_store, cells_agg, cells_int, cells_bool, cells_slice, cells_pointer, cells_string, cells_complex, cells_func, one_int, one_bool, one_slice, one_pointer, one_string, one_complex, one_func, upd_push, get_push_self, AHeap.n_push, AHeap.n_upd, st_build, parts_nil, parts_cons, st_bslice, st_append, st_mkfun, st_mkface, st_isNil, st_max, v_max, st_min, v_min, st_field, st_index, st_slice0, v_slice0, v_slice0n, st_slice, kill_nil, st_call, v_call, forget_nil, forget_cons, Option.map_some, Option.map_none, Option.bind_some, List.map_cons, List.map_nil, if_true, if_false, Nat.reduceEqDiff, Int.reduceEq, Nat.reduceAdd, Nat.reduceMul, Bool.not_true, Bool.not_false, reduceCtorEq, decide_true, decide_false, Int.cast_ofNat_Int, eq_self, Int.reduceLT, Int.reduceLE, Int.reduceToNat, Int.toNat_natCast, Int.le_refl, Nat.le_refl, Nat.zero_add, Nat.add_zero, Nat.zero_mul, Nat.mul_one, Nat.mul_zero, and_self, and_true, true_and, List.length_cons, List.length_nil, List.all_cons, List.all_nil, Bool.and_self, Bool.and_true, Bool.true_and, List.take_zero, List.nil_append, List.drop_nil, List.append_nil, List.getElem?_cons_zero, List.getElem?_cons_succ, List.drop_succ_cons, List.drop_zero, List.take_succ_cons, List.cons_append, Nat.reduceLeDiff, r1, r3, cZ, hlv, hw, g1]
  · obtain ⟨v2, H2, c2, x2, rfl⟩ := c_OfNo hR hC h0
    obtain ⟨v3, H3, c3, x3, rfl⟩ := c_Check (hR.ext x2) (hC.ext x2)
    have z : ((chk (RL R) (RL R) 0).2 ≠ 0) = True := eq_true h0
    have g1 : decide ((chk (RL R) (RL R) 0).2 = (chk (RL R) (RL R) 0).2) = true := by simp
    simp only [w_draw, dr_cons, dr_some, dr_none, dr_go, still_no, still_yes, next_no, next_yes, last_cons, last_nil, isStore, calm_no, calm_nil, calm_cons, calmB_some, isCall, freshI, dr_nil, dr_end, still_nil, still_cons, stillB_some, stamp_some, stampV_ptr, stampV_tuple, stampO, still_here, still_here0, List.nil_append, w_out, w_gives, fin_ret, fin_normal, ress_nil, ress_tmp, pack_one, pack_nil, pack_two, entry_nil, entry_one, entry_two, entry_three, entry_four, eq_skip, eq_exit, eq_ret, w_rows, w_done, w_seq, w_normal, w_ret, w_exit, w_cond, w_true, w_false, eq_block, block_normal, block_ret, block_exit, rows_nil, rows_cons, on_some, on_none, row_plain, row_guard, guard_tt, guard_ff, guard_tf, guard_ft, guard_no, ev_tmp, ev_int, ev_bool, ev_string, ev_slice, ev_pointer, ev_map, ev_float, ev_complex, ev_nilIface, ev_nilFunc, ev_func, eget_cons, eget_nil, st_mv, st_pick, v_pick_t, v_pick_f, st_ext, v_ext0, v_ext1, v_ext2, v_ext3, st_int, v_int, int_add, int_sub, int_mul, int_eql, int_neq, int_lss, int_leq, int_gtr, int_geq, st_beq, v_beq, v_bne, st_not, v_not, st_conv, v_conv, st_faddr, v_faddr, st_iaddr, v_iaddr, st_aaddr, v_aaddr, st_nilChk, v_nil, st_len, v_len, v_lenS, st_load, v_load, got_one, got_row, mem_tip, mem_ro, mem_ret, st_alloc, st_box, st_store, v_store, got_store, cells_agg, cells_int, cells_bool, cells_slice, cells_pointer, cells_string, cells_complex, cells_func, one_int, one_bool, one_slice, one_pointer, one_string, one_complex, one_func, upd_push, get_push_self, AHeap.n_push, AHeap.n_upd, st_build, parts_nil, parts_cons, st_bslice, st_append, st_mkfun, st_mkface, st_isNil, st_max, v_max, st_min, v_min, st_field, st_index, st_slice0, v_slice0, v_slice0n, st_slice, kill_nil, st_call, v_call, forget_nil, forget_cons, Option.map_some, Option.map_none, Option.bind_some, List.map_cons, List.map_nil, if_true, if_false, Nat.reduceEqDiff, Int.reduceEq, Nat.reduceAdd, Nat.reduceMul, Bool.not_true, Bool.not_false, reduceCtorEq, decide_true, decide_false, Int.cast_ofNat_Int, eq_self, Int.reduceLT, Int.reduceLE, Int.reduceToNat, Int.toNat_natCast, Int.le_refl, Nat.le_refl, Nat.zero_add, Nat.add_zero, Nat.zero_mul, Nat.mul_one, Nat.mul_zero, and_self, and_true, true_and, List.length_cons, List.length_nil, List.all_cons, List.all_nil, Bool.and_self, Bool.and_true, Bool.true_and, List.take_zero, List.nil_append, List.drop_nil, List.append_nil, List.getElem?_cons_zero, List.getElem?_cons_succ, List.drop_succ_cons, List.drop_zero, List.take_succ_cons, List.cons_append, Nat.reduceLeDiff, o_awake, c1, c2, c3, z, v_niln, g1]
end Go.Proofs.Ytjicdpkgcofiaaa

