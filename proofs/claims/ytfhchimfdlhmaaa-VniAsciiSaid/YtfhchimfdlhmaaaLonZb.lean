/- What is proved here: a part of a statement's proof. Conditions: those that each theorem names, and no others. -/
import Derived.Test.YtfhchimfdlhmaaaLonZa
/-! Slices in the interpreter's heap: what they hold; what is laid behind them. -/
set_option linter.unusedSimpArgs false
set_option linter.unusedVariables false
namespace Lon
open Go

/-- A slice of n elements of sz cells each, and its cells. -/
def Sl (H : AHeap) (sz : Nat) (v : Value) (n : Nat) (cs : List Value) : Prop := (∃ a c, v = .slice a n c) ∧ cellsOf H sz v = some cs
theorem cellsOf_some {H : AHeap} {sz i o n c : Nat} {cs : List Value} (h : cellsOf H sz (.slice (some ⟨i, o, none⟩) n c) = some cs) (hn : n ≠ 0) :
    ∃ cells el st ver anc, H.get i = some ⟨cells, el, st, ver, anc⟩ ∧ st.mem = true ∧ o + n * sz ≤ cells.length ∧ (cells.drop o).take (n * sz) = cs := by
  unfold cellsOf at h
  simp only at h
  rw [if_neg hn] at h
  split at h
  · rename_i blk hg
    split at h
    · rename_i hc
      injection h with h
      exact ⟨_, _, _, _, _, hg, hc.1, hc.2, h⟩
    · cases h
  · cases h
theorem Sl.length {H : AHeap} {sz : Nat} {v : Value} {n : Nat} {cs : List Value} (h : Sl H sz v n cs) : cs.length = n * sz := by
  obtain ⟨⟨a, c, rfl⟩, h⟩ := h
  by_cases hn : n = 0
  · subst hn
    unfold cellsOf at h
    split at h
    · injection h with h; subst h; simp
    · rename_i i o n' c' hv
      injection hv with _ hv _
      subst hv
      rw [if_pos rfl] at h
      injection h with h; subst h; simp
    · injection h with h; subst h; simp
    · cases h
  · cases a with
    | none =>
      unfold cellsOf at h
      split at h
      · rename_i hv; injection hv with _ hv _; exact absurd hv hn
      · rename_i hv; injection hv with hv _ _; cases hv
      · rename_i hv; injection hv with hv _ _; cases hv
      · cases h
    | some a =>
      obtain ⟨i, o, s⟩ := a
      cases s with
      | none =>
        obtain ⟨cells, el, st, ver, anc, h1, h2, h3, h4⟩ := cellsOf_some h hn
        subst h4
        simp only [List.length_take, List.length_drop]
        omega
      | some s =>
        unfold cellsOf at h
        split at h
        · rename_i hv; injection hv with hv _ _; cases hv
        · rename_i hv; injection hv with hv _ _; cases hv
        · rename_i hv; injection hv with _ hv _; exact absurd hv hn
        · cases h
theorem Sl.len {H H2 : AHeap} {sz : Nat} {v : Value} {n : Nat} {cs : List Value} (h : Sl H sz v n cs) : vLen false v H2 = some (.int .i64 n, H2) := by
  obtain ⟨⟨a, c, rfl⟩, _⟩ := h
  rfl
theorem Sl.form {H : AHeap} {sz : Nat} {v : Value} {n : Nat} {cs : List Value} (h : Sl H sz v n cs) (hn : n ≠ 0) :
    ∃ i o c cells el st ver anc, v = .slice (some ⟨i, o, none⟩) n c ∧ H.get i = some ⟨cells, el, st, ver, anc⟩ ∧ st.mem = true ∧ o + n * sz ≤ cells.length ∧ (cells.drop o).take (n * sz) = cs := by
  obtain ⟨⟨a, c, rfl⟩, h⟩ := h
  cases a with
  | none =>
    unfold cellsOf at h
    split at h
    · rename_i hv; injection hv with _ hv _; exact absurd hv hn
    · rename_i hv; injection hv with hv _ _; cases hv
    · rename_i hv; injection hv with hv _ _; cases hv
    · cases h
  | some a =>
    obtain ⟨i, o, s⟩ := a
    cases s with
    | none =>
      obtain ⟨cells, el, st, ver, anc, h1, h2, h3, h4⟩ := cellsOf_some h hn
      exact ⟨i, o, c, cells, el, st, ver, anc, rfl, h1, h2, h3, h4⟩
    | some s =>
      unfold cellsOf at h
      split at h
      · rename_i hv; injection hv with hv _ _; cases hv
      · rename_i hv; injection hv with hv _ _; cases hv
      · rename_i hv; injection hv with _ hv _; exact absurd hv hn
      · cases h
/-- The k-th element: where it lies, and what is loaded there. -/
theorem Sl.at {H : AHeap} {sz : Nat} {v : Value} {n : Nat} {cs : List Value} (h : Sl H sz v n cs) {k : Nat} (hk : k < n) :
    ∃ i o, (∀ (kd : IntKind) (H2 : AHeap), vIaddr v (.int kd k) sz H2 = some (.pointer (some ⟨i, o, none⟩), H2)) ∧
      (∀ f u, f < sz → cs[k * sz + f]? = some u → gotLoad (H.get i) (o + f) none H = some (u, H)) ∧
      gotLoad (H.get i) o (some sz) H = some (.agg ⟨(cs.drop (k * sz)).take sz⟩, H) := by
  obtain ⟨i, o, c, cells, el, st, ver, anc, rfl, hg, hm, hle, hcs⟩ := h.form (by omega)
  have hkn : k * sz + sz ≤ n * sz := by rw [← Nat.succ_mul]; exact Nat.mul_le_mul_right _ hk
  refine ⟨i, o + k * sz, fun kd H2 => v_iaddr ⟨by omega, by omega⟩, fun f u hf hu => ?_, ?_⟩
  · rw [hg, got_one hm]
    have : cells[o + k * sz + f]? = some u := by
      rw [← hcs, List.getElem?_take, if_pos (by omega), List.getElem?_drop] at hu
      rw [← hu]
      congr 1
      omega
    rw [this]; rfl
  · rw [hg, got_row hm (by omega)]
    congr 3
    rw [← hcs]
    rw [List.drop_take, List.take_take, List.drop_drop, Nat.min_eq_left (by omega)]
/-- What is read stays read where the blocks that one reads stay. -/
def Keeps (H H' : AHeap) : Prop := ∀ i b, H.get i = some b → b.st.mem = true → ∃ b', H'.get i = some b' ∧ b'.cells = b.cells ∧ b'.st.mem = true
theorem Keeps.refl (H : AHeap) : Keeps H H := fun i b h hm => ⟨b, h, rfl, hm⟩
theorem Keeps.trans {a b c : AHeap} (h : Keeps a b) (k : Keeps b c) : Keeps a c := fun i x hx hm => by
  obtain ⟨y, h1, h2, h3⟩ := h i x hx hm
  obtain ⟨z, h4, h5, h6⟩ := k i y h1 h3
  exact ⟨z, h4, h5.trans h2, h6⟩
theorem Ext.keeps {H H' : AHeap} (h : Ext H H') : Keeps H H' := fun i b hb hm => ⟨b, h.get hb, rfl, hm⟩
theorem Sl.keeps {H H' : AHeap} (hk : Keeps H H') {sz : Nat} {v : Value} {n : Nat} {cs : List Value} (h : Sl H sz v n cs) : Sl H' sz v n cs := by
  by_cases hn : n = 0
  · obtain ⟨⟨a, c, rfl⟩, h⟩ := h
    refine ⟨⟨a, c, rfl⟩, ?_⟩
    subst hn
    unfold cellsOf at h ⊢
    split at h
    · exact h
    · rename_i i o n' c' hv
      injection hv with h1 h2 h3
      subst h1 h2 h3
      rw [if_pos rfl] at h
      simp only [if_true]
      exact h
    · exact h
    · cases h
  · obtain ⟨i, o, c, cells, el, st, ver, anc, rfl, hg, hm, hle, hcs⟩ := h.form hn
    obtain ⟨b', h1, h2, h3⟩ := hk i _ hg hm
    refine ⟨⟨_, _, rfl⟩, ?_⟩
    unfold cellsOf
    simp only
    rw [if_neg hn, h1]
    simp only
    rw [if_pos ⟨h3, by rw [h2]; exact hle⟩, h2, hcs]
theorem Sl.ext {H H' : AHeap} (hk : Ext H H') {sz : Nat} {v : Value} {n : Nat} {cs : List Value} (h : Sl H sz v n cs) : Sl H' sz v n cs := h.keeps hk.keeps
theorem Sl.nil (H : AHeap) (sz : Nat) : Sl H sz (.slice none 0 0) 0 [] := ⟨⟨_, _, rfl⟩, rfl⟩
theorem Sl.new {H : AHeap} {i sz n c : Nat} {cells : List Value} {el : TypeId} {st : St} {ver : Nat} {anc : List Nat} (hg : H.get i = some ⟨cells, el, st, ver, anc⟩) (hm : st.mem = true) (hl : cells.length = n * sz) : Sl H sz (.slice (some ⟨i, 0, none⟩) n c) n cells := by
  refine ⟨⟨_, _, rfl⟩, ?_⟩
  unfold cellsOf
  simp only
  split
  · rename_i hn
    subst hn
    simp at hl
    rw [hl]
  · rw [hg]
    simp only
    rw [if_pos ⟨hm, by omega⟩, List.drop_zero, ← hl, List.take_length]

/-! ### Slices of whole numbers -/
def ints (l : List Int) : List Value := l.map fun x => .int .i64 x
def Ints (H : AHeap) (v : Value) (l : List Int) : Prop := Sl H 1 v l.length (ints l)
theorem Ints.keeps {H H' : AHeap} (hk : Keeps H H') {v : Value} {l : List Int} (h : Ints H v l) : Ints H' v l := Sl.keeps hk h
theorem Ints.ext {H H' : AHeap} (hk : Ext H H') {v : Value} {l : List Int} (h : Ints H v l) : Ints H' v l := Sl.ext hk h
theorem Ints.at {H : AHeap} {v : Value} {l : List Int} (h : Ints H v l) {k : Nat} {x : Int} (hk : l[k]? = some x) :
    ∃ i o, (∀ (kd : IntKind) (H2 : AHeap), vIaddr v (.int kd k) 1 H2 = some (.pointer (some ⟨i, o, none⟩), H2)) ∧ gotLoad (H.get i) o none H = some (.int .i64 x, H) := by
  obtain ⟨i, o, h1, h2, _⟩ := Sl.at h (List.getElem?_eq_some_iff.1 hk).1
  refine ⟨i, o, h1, ?_⟩
  exact h2 0 _ (by omega) (by simp [ints, hk])

/-! ### What a function appends to a slice of its own -/
/-- A slice of one's own: nil, or the whole of a row that one may still write. -/
def Own (H : AHeap) (el : TypeId) (sz : Nat) (v : Value) (n : Nat) (cs : List Value) : Prop :=
  cs.length = n * sz ∧ ((v = .slice none 0 0 ∧ n = 0) ∨ ∃ b ver anc, v = .slice (some ⟨b, 0, none⟩) n (n + 1) ∧ 0 < n ∧ H.get b = some ⟨cs, el, .tip, ver, anc⟩)
/-- Where it lies: in no block below a number. -/
def From (B : Nat) (v : Value) : Prop := match v with
  | .slice (some a) _ _ => B ≤ a.block
  | _ => True
theorem Own.sl {H : AHeap} {el : TypeId} {sz : Nat} {v : Value} {n : Nat} {cs : List Value} (h : Own H el sz v n cs) : Sl H sz v n cs := by
  obtain ⟨hl, ⟨rfl, rfl⟩ | ⟨b, ver, anc, rfl, hn, hg⟩⟩ := h
  · simp at hl
    rw [hl]
    exact Sl.nil H sz
  · exact Sl.new hg (by decide) hl
theorem Own.append {H : AHeap} {el : TypeId} {sz bytes : Nat} {v x : Value} {n m : Nat} {cs new : List Value} (h : Own H el sz v n cs) (hx : Sl H sz x m new) (hm : 0 < m) (h1 : new.all one = true) (hb : (n + m) * bytes ≤ 140737488355328) {B : Nat} (hB : B ≤ H.n) (hf : From B v) :
    ∃ v' H', appendA H v x el sz bytes = some (v', H') ∧ Own H' el sz v' (n + m) (cs ++ new) ∧ From B v' ∧ Keeps H H' ∧ H.n ≤ H'.n ∧ (∀ i, i < B → H'.get i = H.get i) := by
  have hsl := h.sl
  obtain ⟨⟨a', c', rfl⟩, hxc⟩ := hx
  have hxl : new.length = m * sz := Sl.length ⟨⟨_, _, rfl⟩, hxc⟩
  obtain ⟨hl, ⟨rfl, rfl⟩ | ⟨b, ver, anc, rfl, hn, hg⟩⟩ := h
  · have hcs : cs = [] := by simpa using hl
    subst hcs
    refine ⟨.slice (some ⟨H.n, 0, none⟩) (0 + m) (0 + m + 1), H.push ⟨[] ++ new, el, .tip, 0, []⟩, ?_, ⟨by simp [hxl], .inr ⟨H.n, 0, [], rfl, by omega, get_push_self⟩⟩, hB, (Ext.push H _).keeps, by simp, fun i hi => get_push_lt (by omega)⟩
    unfold appendA
    simp only [hxc]
    rw [show cellsOf H sz (.slice none 0 0) = some [] from rfl]
    simp only
    rw [if_neg (by omega), if_pos ⟨hb, h1⟩]
  · have hsc := hsl.2
    have hni : b ≠ H.n := by have := AHeap.lt_of_get hg; omega
    refine ⟨.slice (some ⟨H.n, 0, none⟩) (n + m) (n + m + 1), (H.upd b ⟨cs, el, .ret, ver, anc⟩).push ⟨cs ++ new, el, .tip, 0, b :: anc⟩, ?_, ⟨by simp only [List.length_append, hl, hxl, Nat.add_mul], .inr ⟨H.n, 0, b :: anc, rfl, by omega, ?_⟩⟩, hB, ?_, by simp, ?_⟩
    · unfold appendA
      simp only [hxc, hsc]
      rw [if_neg (by omega), if_pos ⟨hb, h1⟩, if_neg (by omega), hg]
      simp only
      rw [if_pos ⟨trivial, trivial⟩, if_pos ⟨hn, by omega⟩]
    · have := get_push_self (H := H.upd b ⟨cs, el, .ret, ver, anc⟩) (b := ⟨cs ++ new, el, .tip, 0, b :: anc⟩)
      simpa using this
    · intro i blk hi hmem
      have hlt := AHeap.lt_of_get hi
      by_cases hib : i = b
      · subst hib
        rw [hg] at hi
        injection hi with hi
        subst hi
        refine ⟨⟨cs, el, .ret, ver, anc⟩, ?_, rfl, mem_ret⟩
        rw [get_push_lt (by simpa using hlt), AHeap.get_upd hg, if_pos rfl]
      · refine ⟨blk, ?_, rfl, hmem⟩
        rw [get_push_lt (by simpa using hlt), AHeap.get_upd hg, if_neg hib]
        exact hi
    · intro i hi
      have hbi : B ≤ b := hf
      rw [get_push_lt (by simp; omega), AHeap.get_upd hg, if_neg (by omega)]
end Lon
