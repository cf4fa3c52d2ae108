/- What is proved here: a part of a statement's proof. Conditions: those that each theorem names, and no others. -/
import Derived.Test.YtfhchimfdlhmaaaLonZf
/-! Cuts of slices; calls of closures. -/
set_option linter.unusedSimpArgs false
set_option linter.unusedVariables false
namespace Lon
open Go

section
variable {P : Program} {cf : CallF} {H H' : AHeap}
theorem v_call1 {g : FuncId} {p x : Value} : vCall cf (.func (.func g) ⟨[]⟩ ⟨[p]⟩) [x] H = cf g [x, p] H := rfl
theorem Own.cut {el : TypeId} {sz n : Nat} {v : Value} {cs : List Value} (h : Own H el sz v n cs) (hs : (P.info? el).map (·.size) = some sz) : Cut P H v sz := by
  obtain ⟨_, h⟩ := h
  rcases h with ⟨rfl, _⟩ | ⟨b, ver, anc, rfl, _, h3⟩
  · trivial
  · exact ⟨_, h3, hs⟩
theorem OwnRules.cut {el : TypeId} {v : Value} {L : List Rl} (h : OwnRules H el v L) (hs : (P.info? el).map (·.size) = some 2) : Cut P H v 2 := by
  obtain ⟨cs, h1, _⟩ := h
  exact h1.cut hs
theorem Sl.take {sz n k : Nat} {v : Value} {cs : List Value} (h : Sl H sz v n cs) (hc : Cut P H v sz) (hk : k ≤ n) :
    ∃ v', (∀ kd : IntKind, vSlice (P := P) v none (some (.int kd k)) sz H = some (v', H)) ∧ Sl H sz v' k (cs.take (k * sz)) ∧ Cut P H v' sz := by
  obtain ⟨⟨a, c, rfl⟩, h2⟩ := h
  have hlen := Sl.length ⟨⟨a, c, rfl⟩, h2⟩
  cases a with
  | none =>
    have h3 := h2
    unfold cellsOf at h2
    split at h2
    · rename_i hv
      injection hv with _ hv1 hv2
      subst hv1 hv2
      obtain rfl : k = 0 := by omega
      injection h2 with h2
      subst h2
      exact ⟨.slice none 0 0, fun kd => rfl, ⟨⟨_, _, rfl⟩, by simp [cellsOf]⟩, trivial⟩
    · rename_i hv; injection hv with hv _ _; cases hv
    · rename_i hv; injection hv with hv _ _; cases hv
    · cases h2
  | some a =>
    obtain ⟨i, o, s⟩ := a
    cases s with
    | none =>
      obtain ⟨b, hb, hs⟩ := hc
      have hcond : (0 : Int) ≤ 0 ∧ (0 : Int) ≤ (k : Int) ∧ (k : Int) ≤ (n : Int) ∧ sz = sz := ⟨by omega, by omega, by omega, rfl⟩
      refine ⟨.slice (some ⟨i, o + (0 : Int).toNat * sz, none⟩) ((k : Int).toNat - (0 : Int).toNat) (if c = 0 then 0 else max ((k : Int).toNat - (0 : Int).toNat) (c - 1 - (0 : Int).toNat) + 1), fun kd => ?_, ⟨⟨_, _, by simp only [Int.toNat_natCast, Int.toNat_zero, Nat.sub_zero]; exact rfl⟩, ?_⟩, ?_⟩
      · simp only [vSlice, bndV, hb, Option.map_some, hs]
        rw [if_pos ⟨by omega, by omega, by omega, trivial⟩]
        rfl
      · by_cases hk0 : k = 0
        · subst hk0
          unfold cellsOf
          simp
        · have hn : n ≠ 0 := by omega
          obtain ⟨cells, el, st, ver, anc, g1, g2, g3, g4⟩ := cellsOf_some h2 hn
          unfold cellsOf
          simp only [Int.toNat_natCast, Int.toNat_zero, Nat.sub_zero, Nat.zero_mul, Nat.add_zero]
          rw [if_neg hk0, g1]
          simp only
          have hle : k * sz ≤ n * sz := Nat.mul_le_mul_right _ hk
          rw [if_pos ⟨g2, by omega⟩, ← g4, List.take_take, Nat.min_eq_left hle]
      · exact ⟨b, hb, hs⟩
    | some s =>
      have h3 := h2
      unfold cellsOf at h2
      split at h2
      · rename_i hv; injection hv with hv _ _; cases hv
      · rename_i hv; injection hv with hv _ _; cases hv
      · rename_i hv
        injection hv with _ hv1 hv2
        subst hv1 hv2
        obtain rfl : k = 0 := by omega
        injection h2 with h2
        subst h2
        exact ⟨.slice (some ⟨i, o, some s⟩) 0 0, fun kd => rfl, ⟨⟨_, _, rfl⟩, by simp [cellsOf]⟩, trivial⟩
      · cases h2
theorem Rules.take {v : Value} {L : List Rl} {k : Nat} (h : Rules H v L) (hc : Cut P H v 2) (hk : k ≤ L.length) :
    ∃ v', (∀ kd : IntKind, vSlice (P := P) v none (some (.int kd k)) 2 H = some (v', H)) ∧ Rules H v' (L.take k) ∧ Cut P H v' 2 := by
  obtain ⟨h0, cs, h1, h2⟩ := h
  obtain ⟨v', g1, g2, g3⟩ := h1.take hc hk
  refine ⟨v', g1, ⟨by simp; omega, cs.take (k * 2), by simpa [Nat.min_eq_left hk] using g2, fun j r hr => ?_⟩, g3⟩
  rw [List.getElem?_take] at hr
  split at hr
  · rename_i hj
    obtain ⟨⟨vi, vo, a1, a2, a3, a4⟩, a5⟩ := h2 j r hr
    exact ⟨⟨vi, vo, by rw [List.getElem?_take, if_pos (by omega)]; exact a1, by rw [List.getElem?_take, if_pos (by omega)]; exact a2, a3, a4⟩, a5⟩
  · cases hr
theorem Ints.take {v : Value} {l : List Int} {k : Nat} (h : Ints H v l) (hc : Cut P H v 1) (hk : k ≤ l.length) :
    ∃ v', (∀ kd : IntKind, vSlice (P := P) v none (some (.int kd k)) 1 H = some (v', H)) ∧ Ints H v' (l.take k) ∧ Cut P H v' 1 := by
  obtain ⟨v', g1, g2, g3⟩ := Sl.take h hc hk
  refine ⟨v', g1, ?_, g3⟩
  unfold Ints
  rw [List.length_take, Nat.min_eq_left hk]
  simpa [ints] using g2
end
end Lon
