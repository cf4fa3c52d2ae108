/- What is proved here: a part of a statement's proof. Conditions: those that each theorem names, and no others. -/
import Derived.Test.YtfhchimfdlhmaaaLonZh
/-! Appending once more, with what stays told more finely; clones. -/
set_option linter.unusedSimpArgs false
set_option linter.unusedVariables false
namespace Lon
open Go

def NotAt (v : Value) (i : Nat) : Prop := match v with
  | .slice (some a) _ _ => a.block ≠ i
  | _ => True
theorem NotAt.of_from {B i : Nat} {v : Value} (h : From B v) (hi : i < B) : NotAt v i := by
  unfold From at h
  unfold NotAt
  split
  · simp only at h; omega
  · trivial
theorem Own.append2 {H : AHeap} {el : TypeId} {sz bytes : Nat} {v x : Value} {n m : Nat} {cs new : List Value} (h : Own H el sz v n cs) (hx : Sl H sz x m new) (hm : 0 < m) (h1 : new.all one = true) (hb : (n + m) * bytes ≤ 140737488355328) :
    ∃ v' H', appendA H v x el sz bytes = some (v', H') ∧ Own H' el sz v' (n + m) (cs ++ new) ∧ From H.n v' ∧ Keeps H H' ∧ H.n ≤ H'.n ∧ (∀ i, i < H.n → NotAt v i → H'.get i = H.get i) := by
  have hsl := h.sl
  obtain ⟨⟨a', c', rfl⟩, hxc⟩ := hx
  have hxl : new.length = m * sz := Sl.length ⟨⟨_, _, rfl⟩, hxc⟩
  obtain ⟨hl, ⟨rfl, rfl⟩ | ⟨b, ver, anc, rfl, hn, hg⟩⟩ := h
  · have hcs : cs = [] := by simpa using hl
    subst hcs
    refine ⟨.slice (some ⟨H.n, 0, none⟩) (0 + m) (0 + m + 1), H.push ⟨[] ++ new, el, .tip, 0, []⟩, ?_, ⟨by simp [hxl], .inr ⟨H.n, 0, [], rfl, by omega, get_push_self⟩⟩, Nat.le_refl _, (Ext.push H _).keeps, by simp, fun i hi _ => get_push_lt (by omega)⟩
    unfold appendA
    simp only [hxc]
    rw [show cellsOf H sz (.slice none 0 0) = some [] from rfl]
    simp only
    rw [if_neg (by omega), if_pos ⟨hb, h1⟩]
  · have hsc := hsl.2
    have hni : b ≠ H.n := by have := AHeap.lt_of_get hg; omega
    refine ⟨.slice (some ⟨H.n, 0, none⟩) (n + m) (n + m + 1), (H.upd b ⟨cs, el, .ret, ver, anc⟩).push ⟨cs ++ new, el, .tip, 0, b :: anc⟩, ?_, ⟨by simp only [List.length_append, hl, hxl, Nat.add_mul], .inr ⟨H.n, 0, b :: anc, rfl, by omega, ?_⟩⟩, Nat.le_refl _, ?_, by simp, ?_⟩
    · unfold appendA
      simp only [hxc, hsc]
      rw [if_neg (by omega), if_pos ⟨hb, h1⟩, if_neg (by omega), hg]
      simp only
      rw [if_pos ⟨trivial, trivial⟩, if_pos ⟨hn, by omega⟩]
    · have := get_push_self (H := H.upd b ⟨cs, el, .ret, ver, anc⟩) (b := ⟨cs ++ new, el, .tip, 0, b :: anc⟩)
      simpa using this
    · intro i blk hi hmem
      have hlt := AHeap.lt_of_get hi
      by_cases hib : i = b
      · subst hib
        rw [hg] at hi
        injection hi with hi
        subst hi
        refine ⟨⟨cs, el, .ret, ver, anc⟩, ?_, rfl, mem_ret⟩
        rw [get_push_lt (by simpa using hlt), AHeap.get_upd hg, if_pos rfl]
      · refine ⟨blk, ?_, rfl, hmem⟩
        rw [get_push_lt (by simpa using hlt), AHeap.get_upd hg, if_neg hib]
        exact hi
    · intro i hi hbi
      have hbi' : b ≠ i := hbi
      rw [get_push_lt (by simp; omega), AHeap.get_upd hg, if_neg (fun e => hbi' e.symm)]
/-- 'append(out, Rule{In, Out})'. -/
theorem OwnRules.append2 {H : AHeap} {el : TypeId} {bytes : Nat} {v x vi vo : Value} {L : List Rl} {r : Rl} (h : OwnRules H el v L) (hx : Sl H 2 x 1 [vi, vo]) (hi : Ints H vi r.1) (ho : Ints H vo r.2) (t1 : tiny r.1) (t2 : tiny r.2)
    (hb : (L.length + 1) * bytes ≤ 140737488355328) :
    ∃ v' H', appendA H v x el 2 bytes = some (v', H') ∧ OwnRules H' el v' (L ++ [r]) ∧ From H.n v' ∧ Keeps H H' ∧ H.n ≤ H'.n ∧ (∀ i, i < H.n → NotAt v i → H'.get i = H.get i) := by
  obtain ⟨cs, h1, h2⟩ := h
  have hone : ([vi, vo] : List Value).all one = true := by
    obtain ⟨⟨a, c, rfl⟩, _⟩ := hi
    obtain ⟨⟨a', c', rfl⟩, _⟩ := ho
    rfl
  obtain ⟨v', H', q1, q2, q3, q4, q5, q6⟩ := h1.append2 hx (by omega) hone hb
  have hcl := h1.1
  refine ⟨v', H', q1, ⟨cs ++ [vi, vo], by simpa using q2, fun k r' hr => ?_⟩, q3, q4, q5, q6⟩
  by_cases hk : k < L.length
  · rw [List.getElem?_append_left hk] at hr
    obtain ⟨⟨vi', vo', h3, h4, h5, h6⟩, h7⟩ := h2 k r' hr
    exact ⟨⟨vi', vo', by rw [List.getElem?_append_left (by omega)]; exact h3, by rw [List.getElem?_append_left (by omega)]; exact h4, h5.keeps q4, h6.keeps q4⟩, h7⟩
  · rw [List.getElem?_append_right (by omega)] at hr
    have hk0 : k = L.length := by
      rcases Nat.lt_or_ge (k - L.length) 1 with h | h
      · omega
      · rw [List.getElem?_eq_none (by simpa using h)] at hr; cases hr
    subst hk0
    simp at hr
    subst hr
    refine ⟨⟨vi, vo, ?_, ?_, hi.keeps q4, ho.keeps q4⟩, t1, t2⟩
    · rw [List.getElem?_append_right (by omega), hcl]; simp
    · rw [List.getElem?_append_right (by omega), hcl]
      have : L.length * 2 + 1 - L.length * 2 = 1 := by omega
      rw [this]; rfl
theorem From.mono {A B : Nat} (h : A ≤ B) {v : Value} (hv : From B v) : From A v := by
  unfold From at hv ⊢
  split
  · simp only at hv; omega
  · trivial
theorem ones_ints (l : List Int) : (ints l).all one = true := by
  rw [List.all_eq_true]
  intro x hx
  simp only [ints, List.mem_map] at hx
  obtain ⟨n, _, rfl⟩ := hx
  rfl
/-- 'append([]int{}, x...)'. -/
theorem app_clone {H : AHeap} {x : Value} {l : List Int} {el : TypeId} (hx : Ints H x l) (hb : l.length * 8 ≤ 140737488355328) :
    ∃ v' H', appendA (H.push ⟨[], el, .tip, 0, []⟩) (.slice (some ⟨H.n, 0, none⟩) 0 1) x el 1 8 = some (v', H') ∧ Ext H H' ∧ Ints H' v' l := by
  have hx1 := Ext.push H ⟨[], el, .tip, 0, []⟩
  obtain ⟨⟨a, c, rfl⟩, hc⟩ := hx.ext hx1
  have h0 : cellsOf (H.push ⟨[], el, .tip, 0, []⟩) 1 (.slice (some ⟨H.n, 0, none⟩) 0 1) = some [] := by simp [cellsOf]
  by_cases hl : l = []
  · subst hl
    refine ⟨.slice (some ⟨H.n, 0, none⟩) 0 1, H.push ⟨[], el, .tip, 0, []⟩, ?_, hx1, ⟨⟨_, _, rfl⟩, by simp [cellsOf, ints]⟩⟩
    unfold appendA
    simp only [h0, hc]
    exact if_pos List.length_nil
  · have hne : l.length ≠ 0 := fun h => hl (List.length_eq_zero_iff.1 h)
    refine ⟨.slice (some ⟨(H.push ⟨[], el, .tip, 0, []⟩).n, 0, none⟩) (0 + l.length) (0 + l.length + 1), (killAll (H.push ⟨[], el, .tip, 0, []⟩) [H.n]).push ⟨[] ++ ints l, el, .tip, 0, []⟩, ?_, ⟨by simp [killAll_n]; omega, fun i hi => ?_⟩, ?_⟩
    · unfold appendA
      simp only [h0, hc]
      rw [if_neg hne, if_pos ⟨by omega, ones_ints l⟩, if_neg (by omega), get_push_self]
      simp only
      rw [if_pos ⟨trivial, trivial⟩, if_neg (by omega)]
    · rw [get_push_lt (by simp [killAll_n]; omega), killAll_get_not _ _ _ (by simp; omega), get_push_lt hi]
    · have hg := get_push_self (H := killAll (H.push ⟨[], el, .tip, 0, []⟩) [H.n]) (b := ⟨[] ++ ints l, el, .tip, 0, []⟩)
      rw [killAll_n] at hg
      unfold Ints
      rw [Nat.zero_add]
      exact Sl.new hg mem_tip (by simp [ints])
theorem Nums.take {P : Program} {H : AHeap} {kd : IntKind} {v : Value} {l : List Int} {k : Nat} (h : Nums H kd v l) (hc : Cut P H v 1) (hk : k ≤ l.length) :
    ∃ v', (∀ kd : IntKind, vSlice (P := P) v none (some (.int kd k)) 1 H = some (v', H)) ∧ Nums H kd v' (l.take k) ∧ Cut P H v' 1 := by
  obtain ⟨v', g1, g2, g3⟩ := Sl.take h hc hk
  refine ⟨v', g1, ?_, g3⟩
  unfold Nums
  rw [List.length_take, Nat.min_eq_left hk]
  simpa using g2
theorem Nums.len {H H2 : AHeap} {kd : IntKind} {v : Value} {l : List Int} (h : Nums H kd v l) : vLen false v H2 = some (.int .i64 l.length, H2) := Sl.len h
theorem Nums.ints {H : AHeap} {v : Value} {l : List Int} (h : Nums H .i64 v l) : Ints H v l := h
/-- A block of one's own is overwritten. -/
theorem Ext.upd {H H1 : AHeap} (hx : Ext H H1) {i : Nat} {b c : ABlk} (hg : H1.get i = some b) (hi : H.n ≤ i) : Ext H (H1.upd i c) := by
  refine ⟨by simpa using hx.1, fun j hj => ?_⟩
  rw [AHeap.get_upd hg, if_neg (by omega)]
  exact hx.2 j hj
theorem upd_self {H1 : AHeap} {i : Nat} {b c : ABlk} (hg : H1.get i = some b) : (H1.upd i c).get i = some c := by rw [AHeap.get_upd hg, if_pos rfl]
theorem upd_other {H1 : AHeap} {i j : Nat} {b c : ABlk} (hg : H1.get i = some b) (h : j ≠ i) : (H1.upd i c).get j = H1.get j := by rw [AHeap.get_upd hg, if_neg h]
theorem Cut.ver {P : Program} {H H' : AHeap} (hv : VerLe H H') {v : Value} {sz : Nat} (h : Cut P H v sz) : Cut P H' v sz := by
  unfold Cut at h ⊢
  split at h
  · obtain ⟨b, h1, h2⟩ := h
    obtain ⟨b', g1, _, g3, _⟩ := hv.2 _ _ h1
    exact ⟨b', g1, by rw [g3]; exact h2⟩
  · trivial
theorem vSlice_from {P : Program} {H H' : AHeap} {v v' : Value} {lo hi : Option Value} {sz B : Nat} (h : vSlice (P := P) v lo hi sz H = some (v', H')) (hf : From B v) : From B v' := by
  unfold vSlice at h
  rw [Option.map_eq_some_iff] at h
  obtain ⟨u, h1, h2⟩ := h
  injection h2 with h2 _
  subst h2
  split at h1
  · split at h1
    · split at h1
      · injection h1 with h1
        subst h1
        exact hf
      · cases h1
    · cases h1
  · split at h1
    · split at h1
      · injection h1 with h1
        subst h1
        trivial
      · cases h1
    · cases h1
  · split at h1
    · split at h1
      · injection h1 with h1
        subst h1
        exact hf
      · cases h1
    · cases h1
  · cases h1
theorem Sl.upd {H : AHeap} {i sz n : Nat} {v : Value} {cs : List Value} {b c : ABlk} (h : Sl H sz v n cs) (hg : H.get i = some b) (hn : NotAt v i) : Sl (H.upd i c) sz v n cs := by
  obtain ⟨⟨a, q, rfl⟩, hc⟩ := h
  refine ⟨⟨_, _, rfl⟩, ?_⟩
  unfold cellsOf at hc ⊢
  split at hc
  · exact hc
  · rename_i j o n' c' hv
    injection hv with h1 h2 h3
    subst h1 h2 h3
    have hne : j ≠ i := hn
    rw [AHeap.get_upd hg, if_neg hne]
    exact hc
  · exact hc
  · cases hc
theorem NotAt.of_above {B i : Nat} {v : Value} (h : From B v) (hi : i < B) : NotAt v i := NotAt.of_from h hi
theorem NotAt.lt {H : AHeap} {sz n i : Nat} {v : Value} {cs : List Value} (h : Sl H sz v n cs) (hn : n ≠ 0) (hi : H.n ≤ i) : NotAt v i := by
  obtain ⟨j, o, c, cells, el, st, ver, anc, rfl, hg, _⟩ := h.form hn
  have := AHeap.lt_of_get hg
  show j ≠ i
  omega
/-- A slice that was there is not changed by what befalls a later block. -/
theorem Ints.upd {H H1 : AHeap} {i : Nat} {v : Value} {l : List Int} {b c : ABlk} (h : Ints H v l) (hx : Ext H H1) (hg : H1.get i = some b) (hi : H.n ≤ i) : Ints (H1.upd i c) v l := by
  by_cases hl : l = []
  · subst hl
    obtain ⟨⟨a, q, rfl⟩, hc⟩ := h
    refine ⟨⟨_, _, rfl⟩, ?_⟩
    unfold cellsOf at hc ⊢
    split at hc
    · exact hc
    · rename_i j o n' c' hv
      injection hv with h1 h2 h3
      subst h1 h2 h3
      rfl
    · exact hc
    · cases hc
  · exact Sl.upd (h.ext hx) hg (NotAt.lt h (fun h => hl (List.length_eq_zero_iff.1 h)) hi)
end Lon
