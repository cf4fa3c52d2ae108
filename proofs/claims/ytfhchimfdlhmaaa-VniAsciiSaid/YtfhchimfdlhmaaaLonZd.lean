/- What is proved here: a part of a statement's proof. Conditions: those that each theorem names, and no others. -/
import Derived.Test.YtfhchimfdlhmaaaLonZc
/-! Rules in the interpreter's heap. -/
set_option linter.unusedSimpArgs false
set_option linter.unusedVariables false
namespace Lon
open Go

abbrev Rl := List Int × List Int
def RuleAt (H : AHeap) (cs : List Value) (k : Nat) (r : Rl) : Prop := ∃ vi vo, cs[k * 2]? = some vi ∧ cs[k * 2 + 1]? = some vo ∧ Ints H vi r.1 ∧ Ints H vo r.2
def tiny (l : List Int) : Prop := l.length < 4611686018427387904
/-- A slice of rules. -/
def Rules (H : AHeap) (v : Value) (L : List Rl) : Prop := L.length < 4611686018427387904 ∧ ∃ cs, Sl H 2 v L.length cs ∧ ∀ k r, L[k]? = some r → RuleAt H cs k r ∧ tiny r.1 ∧ tiny r.2
theorem Rules.keeps {H H' : AHeap} (hk : Keeps H H') {v : Value} {L : List Rl} (h : Rules H v L) : Rules H' v L := by
  obtain ⟨h0, cs, h1, h2⟩ := h
  refine ⟨h0, cs, h1.keeps hk, fun k r hr => ?_⟩
  obtain ⟨⟨vi, vo, h3, h4, h5, h6⟩, h7⟩ := h2 k r hr
  exact ⟨⟨vi, vo, h3, h4, h5.keeps hk, h6.keeps hk⟩, h7⟩
theorem Rules.ext {H H' : AHeap} (hk : Ext H H') {v : Value} {L : List Rl} (h : Rules H v L) : Rules H' v L := h.keeps hk.keeps
theorem Rules.len {H H2 : AHeap} {v : Value} {L : List Rl} (h : Rules H v L) : vLen false v H2 = some (.int .i64 L.length, H2) := by
  obtain ⟨_, cs, h1, _⟩ := h
  exact h1.len
theorem Rules.at {H : AHeap} {v : Value} {L : List Rl} (h : Rules H v L) {k : Nat} {r : Rl} (hr : L[k]? = some r) :
    ∃ i o vi vo, (∀ (kd : IntKind) (H2 : AHeap), vIaddr v (.int kd k) 2 H2 = some (.pointer (some ⟨i, o, none⟩), H2)) ∧ gotLoad (H.get i) o none H = some (vi, H) ∧ gotLoad (H.get i) (o + 1) none H = some (vo, H) ∧
      gotLoad (H.get i) o (some 2) H = some (.agg ⟨[vi, vo]⟩, H) ∧ Ints H vi r.1 ∧ Ints H vo r.2 ∧ tiny r.1 ∧ tiny r.2 := by
  obtain ⟨h0, cs, h1, h2⟩ := h
  obtain ⟨⟨vi, vo, h3, h4, h5, h6⟩, h7, h8⟩ := h2 k r hr
  obtain ⟨i, o, a1, a2, a3⟩ := h1.at (List.getElem?_eq_some_iff.1 hr).1
  refine ⟨i, o, vi, vo, a1, a2 0 vi (by omega) h3, a2 1 vo (by omega) h4, ?_, h5, h6, h7, h8⟩
  rw [a3]
  have : (cs.drop (k * 2)).take 2 = [vi, vo] := by
    apply List.ext_getElem?
    intro j
    rw [List.getElem?_take]
    rcases j with _ | _ | j
    · simp [List.getElem?_drop, h3]
    · simp [List.getElem?_drop, h4]
    · simp; omega
  rw [this]
/-! Literals of units and rules. -/
theorem v_int1 {H : AHeap} {el : TypeId} {a : Int} : vBslice el 1 1 [.int .i64 0] [(0, 1, .int .i64 a)] H = some (.slice (some ⟨H.n, 0, none⟩) 1 2, H.push ⟨[.int .i64 a], el, .tip, 0, []⟩) := rfl
theorem v_rule {H : AHeap} {a b : Option Addr} {n c m d : Nat} : vBuild [.slice none 0 0, .slice none 0 0] [(0, 1, .slice a n c), (1, 1, .slice b m d)] H = some (.agg ⟨[.slice a n c, .slice b m d]⟩, H) := rfl
theorem v_rule1 {H : AHeap} {el : TypeId} {x y : Value} : vBslice el 1 2 [.slice none 0 0, .slice none 0 0] [(0, 2, .agg ⟨[x, y]⟩)] H = some (.slice (some ⟨H.n, 0, none⟩) 1 2, H.push ⟨[x, y], el, .tip, 0, []⟩) := rfl
theorem get_push2 {H : AHeap} {a b : ABlk} : ((H.push a).push b).get H.n = some a := by rw [get_push_lt (by simp), get_push_self]
theorem get_push3 {H : AHeap} {a b c : ABlk} : (((H.push a).push b).push c).get H.n = some a := by rw [get_push_lt (by simp; omega), get_push2]
theorem get_push4 {H : AHeap} {a b c d : ABlk} : ((((H.push a).push b).push c).push d).get H.n = some a := by rw [get_push_lt (by simp; omega), get_push3]
/-- Rules of one's own, one more at the end. -/
def OwnRules (H : AHeap) (el : TypeId) (v : Value) (L : List Rl) : Prop := ∃ cs, Own H el 2 v L.length cs ∧ ∀ k r, L[k]? = some r → RuleAt H cs k r ∧ tiny r.1 ∧ tiny r.2
theorem OwnRules.nil (H : AHeap) (el : TypeId) : OwnRules H el (.slice none 0 0) [] := ⟨[], ⟨rfl, .inl ⟨rfl, rfl⟩⟩, fun k r h => by simp at h⟩
theorem OwnRules.rules {H : AHeap} {el : TypeId} {v : Value} {L : List Rl} (h : OwnRules H el v L) (hs : L.length < 4611686018427387904) : Rules H v L := by
  obtain ⟨cs, h1, h2⟩ := h
  exact ⟨hs, cs, h1.sl, h2⟩
theorem Own.ext {H H' : AHeap} (hx : Ext H H') {el : TypeId} {sz : Nat} {v : Value} {n : Nat} {cs : List Value} (h : Own H el sz v n cs) : Own H' el sz v n cs := by
  obtain ⟨hl, h⟩ := h
  refine ⟨hl, ?_⟩
  rcases h with h | ⟨b, ver, anc, h1, h2, h3⟩
  · exact .inl h
  · exact .inr ⟨b, ver, anc, h1, h2, hx.get h3⟩
theorem OwnRules.ext {H H' : AHeap} (hx : Ext H H') {el : TypeId} {v : Value} {L : List Rl} (h : OwnRules H el v L) : OwnRules H' el v L := by
  obtain ⟨cs, h1, h2⟩ := h
  refine ⟨cs, h1.ext hx, fun k r hr => ?_⟩
  obtain ⟨⟨vi, vo, h3, h4, h5, h6⟩, h7⟩ := h2 k r hr
  exact ⟨⟨vi, vo, h3, h4, h5.ext hx, h6.ext hx⟩, h7⟩
/-- 'append(out, Rule{In, Out})', behind the literal's own row. -/
theorem OwnRules.append {H : AHeap} {el : TypeId} {bytes : Nat} {v x vi vo : Value} {L : List Rl} {r : Rl} (h : OwnRules H el v L) (hx : Sl H 2 x 1 [vi, vo]) (hi : Ints H vi r.1) (ho : Ints H vo r.2) (t1 : tiny r.1) (t2 : tiny r.2)
    (hb : (L.length + 1) * bytes ≤ 140737488355328) {B : Nat} (hB : B ≤ H.n) (hf : From B v) :
    ∃ v' H', appendA H v x el 2 bytes = some (v', H') ∧ OwnRules H' el v' (L ++ [r]) ∧ From B v' ∧ Keeps H H' ∧ H.n ≤ H'.n ∧ (∀ i, i < B → H'.get i = H.get i) := by
  obtain ⟨cs, h1, h2⟩ := h
  have hone : ([vi, vo] : List Value).all one = true := by
    obtain ⟨⟨a, c, rfl⟩, _⟩ := hi
    obtain ⟨⟨a', c', rfl⟩, _⟩ := ho
    rfl
  obtain ⟨v', H', q1, q2, q3, q4, q5, q6⟩ := h1.append hx (by omega) hone hb hB hf
  have hcl := h1.1
  refine ⟨v', H', q1, ⟨cs ++ [vi, vo], by simpa using q2, fun k r' hr => ?_⟩, q3, q4, q5, q6⟩
  by_cases hk : k < L.length
  · rw [List.getElem?_append_left hk] at hr
    obtain ⟨⟨vi', vo', h3, h4, h5, h6⟩, h7⟩ := h2 k r' hr
    exact ⟨⟨vi', vo', by rw [List.getElem?_append_left (by omega)]; exact h3, by rw [List.getElem?_append_left (by omega)]; exact h4, h5.keeps q4, h6.keeps q4⟩, h7⟩
  · rw [List.getElem?_append_right (by omega)] at hr
    have hk0 : k = L.length := by
      rcases Nat.lt_or_ge (k - L.length) 1 with h | h
      · omega
      · rw [List.getElem?_eq_none (by simpa using h)] at hr; cases hr
    subst hk0
    simp at hr
    subst hr
    refine ⟨⟨vi, vo, ?_, ?_, hi.keeps q4, ho.keeps q4⟩, t1, t2⟩
    · rw [List.getElem?_append_right (by omega), hcl]; simp
    · rw [List.getElem?_append_right (by omega), hcl]
      have : L.length * 2 + 1 - L.length * 2 = 1 := by omega
      rw [this]; rfl
end Lon
