/- What is proved here: a part of a statement's proof. Conditions: those that each theorem names, and no others. -/
import Derived.Test.YtfhchimfdlhmaaaLonZj
/-! A whole row of one's own slice is overwritten. -/
set_option linter.unusedSimpArgs false
set_option linter.unusedVariables false
namespace Lon
open Go

/-- Where a slice lies: in a block below a number. -/
def Upto (N : Nat) (v : Value) : Prop := match v with
  | .slice (some a) _ _ => a.block < N
  | _ => True
theorem OwnRws.upto {ρ : Type} {s : Nat} {Q : AHeap → List Value → ρ → Prop} {H : AHeap} {el : TypeId} {v : Value} {L : List ρ} (h : OwnRws s Q H el v L) : Upto H.n v := by
  obtain ⟨_, cs, ⟨_, ⟨rfl, _⟩ | ⟨b, ver, anc, rfl, _, hg⟩⟩, _⟩ := h
  · trivial
  · exact AHeap.lt_of_get hg
theorem OwnRws.storeRow {ρ : Type} {s : Nat} {Q : AHeap → List Value → ρ → Prop} {B : Nat} {H : AHeap} {el : TypeId} {v : Value} {new : List Value} {L : List ρ} {k : Nat} {r : ρ} (h : OwnRws s Q H el v L) (hf : From B v) (ha : AncB B H el v) (hk : L[k]? = some r) (hs0 : 0 < s) (hnl : new.length = s) (hone : new.all one = true)
    (hQ : ∀ (H' : AHeap) (row : List Value) (r : ρ), (∀ j blk, H.get j = some blk → blk.elem ≠ el → H'.get j = some blk) → Q H row r → Q H' row r) :
    ∃ b, (∀ (kd : IntKind) (H2 : AHeap), vIaddr v (.int kd k) s H2 = some (.pointer (some ⟨b, k * s, none⟩), H2)) ∧
      ∃ H', gotStore (H.get b) b (k * s) (.agg ⟨new⟩) s H = some (.tuple ⟨[]⟩, H') ∧ H'.n = H.n ∧ (∀ j, j < B → H'.get j = H.get j) ∧ (∀ j blk, H.get j = some blk → blk.elem ≠ el → H'.get j = some blk) ∧ (∀ N j, Upto N v → N ≤ j → H'.get j = H.get j) ∧ AncB B H' el v ∧ VerLe H H' ∧ (∀ g w, new[g]? = some w → gotLoad (H'.get b) (k * s + g) none H' = some (w, H')) ∧ ∀ r', Q H' new r' → OwnRws s Q H' el v (L.set k r') := by
  obtain ⟨h0, cs, h1, h2⟩ := h
  have hkl := (List.getElem?_eq_some_iff.1 hk).1
  obtain ⟨hcl, ⟨rfl, hn0⟩ | ⟨b, ver, anc, rfl, hn, hg⟩⟩ := h1
  · omega
  have hle : k * s + s ≤ cs.length := by rw [hcl, ← Nat.succ_mul]; exact Nat.mul_le_mul_right _ hkl
  obtain ⟨blk, g1, g2⟩ := ha
  have g1' : blk = ⟨cs, el, .tip, ver, anc⟩ := by
    have := g1.symm.trans hg
    injection this
  subst g1'
  simp only at g2
  have hbn : b ∉ anc := fun hm => by
    have := (g2 b hm).2.1
    exact Nat.lt_irrefl _ this
  have hgk : (killAll H anc).get b = some ⟨cs, el, .tip, ver, anc⟩ := by rw [killAll_get_not _ _ _ hbn]; exact hg
  obtain ⟨cs', hcs'⟩ : ∃ cs', cs' = cs.take (k * s) ++ new ++ cs.drop (k * s + s) := ⟨_, rfl⟩
  have hcl' : cs'.length = cs.length := by rw [hcs']; simp only [List.length_append, List.length_take, List.length_drop]; omega
  obtain ⟨H', hH'⟩ : ∃ H', H' = (killAll H anc).upd b ⟨cs', el, .tip, ver + 1, []⟩ := ⟨_, rfl⟩
  have hlow : ∀ j, j < B → H'.get j = H.get j := fun j hj => by
    have hbB : B ≤ b := hf
    rw [hH', AHeap.get_upd hgk, if_neg (by omega), killAll_get_not _ _ _ (fun hm => by have := (g2 j hm).1; omega)]
  have hoth : ∀ j blk, H.get j = some blk → blk.elem ≠ el → H'.get j = some blk := fun j blk hj he => by
    have hjb : j ≠ b := fun e => by subst e; rw [hg] at hj; injection hj with hj; subst hj; exact he rfl
    rw [hH', AHeap.get_upd hgk, if_neg hjb, killAll_get_not _ _ _ (fun hm => by
      obtain ⟨_, _, b', a2, a3⟩ := g2 j hm
      rw [hj] at a2
      injection a2 with a2
      subst a2
      exact he a3)]
    exact hj
  have hself : H'.get b = some ⟨cs', el, .tip, ver + 1, []⟩ := by rw [hH', AHeap.get_upd hgk, if_pos rfl]
  have hrow : rowC cs' s k = new := by
    unfold rowC
    rw [hcs', List.append_assoc, List.drop_append, List.drop_of_length_le (by rw [List.length_take]; omega), List.nil_append, List.length_take, Nat.min_eq_left (by omega), Nat.sub_self, List.drop_zero, List.take_append_of_le_length (by omega), List.take_of_length_le (by omega)]
  refine ⟨b, fun kd H2 => ?_, H', ?_, ?_, hlow, hoth, fun N j hN hj => ?_, ⟨_, hself, fun x hx => by cases hx⟩, ?_, fun g w hw => ?_, fun r' hr' => ⟨by rw [List.length_set]; exact h0, cs', ⟨by rw [List.length_set, hcl']; exact hcl, .inr ⟨b, ver + 1, [], by rw [List.length_set], by rw [List.length_set]; exact hn, hself⟩⟩, fun m r2 hm => ?_⟩⟩
  · rw [v_iaddr ⟨by omega, by omega⟩]
    simp
  · rw [hg, got_store (v := .agg ⟨new⟩) (by exact hnl) hone hle, hH', hcs']
    rfl
  · rw [hH']; simp [killAll_n]
  · have hbN : b < N := hN
    rw [hH', AHeap.get_upd hgk, if_neg (by omega), killAll_get_not _ _ _ (fun hm => by have := (g2 j hm).2.1; omega)]
  · rw [hH']; exact (VerLe.kill H anc).trans (VerLe.upd hgk (Nat.le_succ ver) rfl (fun e => by simp only at e; omega))
  · rw [← hrow] at hw
    obtain ⟨w1, w2⟩ := rowC_at hw
    rw [hself, got_one mem_tip, w2]
    rfl
  · rw [List.getElem?_set] at hm
    split at hm
    · rename_i e
      subst e
      have hm : r' = r2 := by simpa [hkl] using hm
      subst hm
      rw [hrow]
      exact hr'
    · rename_i e
      have hml := (List.getElem?_eq_some_iff.1 hm).1
      have : rowC cs' s m = rowC cs s m := by
        unfold rowC
        rcases Nat.lt_or_ge k m with hlt | hge
        · have : (k + 1) * s ≤ m * s := Nat.mul_le_mul_right _ hlt
          rw [Nat.succ_mul] at this
          rw [hcs', List.drop_append, List.drop_of_length_le (by simp only [List.length_append, List.length_take]; omega), List.nil_append, List.drop_drop]
          congr 2
          simp only [List.length_append, List.length_take]
          omega
        · have : (m + 1) * s ≤ k * s := Nat.mul_le_mul_right _ (by omega)
          rw [Nat.succ_mul] at this
          rw [hcs', List.append_assoc, List.drop_append, List.take_append_of_le_length (by rw [List.length_drop, List.length_take]; omega), List.drop_take, List.take_take, Nat.min_eq_left (by omega)]
      rw [this]
      exact hQ _ _ _ hoth (h2 m r2 hm)
/-- 'append(slices.Clone(x), ..)': the clone of what is not empty is one's own. -/
theorem app_cloneO {H : AHeap} {x : Value} {l : List Int} {el : TypeId} (hx : Ints H x l) (hb : l.length * 8 ≤ 140737488355328) (h0 : l ≠ []) :
    ∃ v' H', appendA (H.push ⟨[], el, .tip, 0, []⟩) (.slice (some ⟨H.n, 0, none⟩) 0 1) x el 1 8 = some (v', H') ∧ Ext H H' ∧ Own H' el 1 v' l.length (ints l) ∧ From H.n v' := by
  obtain ⟨v', H', q1, q2, q3⟩ := app_clone (el := el) hx hb
  refine ⟨v', H', q1, q2, ?_⟩
  unfold appendA at q1
  obtain ⟨⟨a, c, rfl⟩, hc⟩ := hx.ext (Ext.push H ⟨[], el, .tip, 0, []⟩)
  have h1 : cellsOf (H.push ⟨[], el, .tip, 0, []⟩) 1 (.slice (some ⟨H.n, 0, none⟩) 0 1) = some [] := by simp [cellsOf]
  have hpos := List.length_pos_iff.2 h0
  simp only [h1, hc] at q1
  rw [if_neg (by omega)] at q1
  split at q1
  · rw [if_neg (by omega), get_push_self] at q1
    simp only at q1
    rw [if_pos ⟨trivial, trivial⟩, if_neg (by omega)] at q1
    injection q1 with q1
    injection q1 with q1 q2
    subst q1 q2
    have hg := get_push_self (H := killAll (H.push ⟨[], el, .tip, 0, []⟩) [H.n]) (b := ⟨[] ++ ints l, el, .tip, 0, []⟩)
    rw [killAll_n] at hg
    refine ⟨⟨by simp [ints], .inr ⟨_, 0, [], by rw [Nat.zero_add], hpos, hg⟩⟩, ?_⟩
    show H.n ≤ (H.push ⟨[], el, .tip, 0, []⟩).n
    simp
  · cases q1
end Lon
