/- What is proved here: that rows of operations are sound. Conditions: those that each theorem names, and no others. -/
import Derived.Test.YtfhchimfdlhmaaaLonN
/-! Rows of operations one behind the other. -/
set_option linter.unusedSimpArgs false
set_option linter.unusedVariables false
namespace Lon
open Go

def dstOk (nt : Nat) : Option Nat → Bool
  | some d => decide (d < nt)
  | none => true
def prepRow (P : Program) (nt : Nat) (ops : Array Oper) (o : Oper) : Option ARow :=
  match prepOp P o with
  | none => none
  | some ao =>
    if dstOk nt o.dst = true then
      match o.guard with
      | none => some ⟨o.dst, ao, none⟩
      | some (j, want) => match (ops[j]?).bind (·.dst) with
        | some d => some ⟨o.dst, ao, some (d, want)⟩
        | none => none
    else none
def prepRows (P : Program) (nt : Nat) (ops : Array Oper) : List Oper → Option (List ARow)
  | [] => some []
  | o :: os => match prepRow P nt ops o, prepRows P nt ops os with
    | some r, some rs => some (r :: rs)
    | _, _ => none
theorem prepRow_inv {P : Program} {nt : Nat} {ops : Array Oper} {o : Oper} {r : ARow} (h : prepRow P nt ops o = some r) :
    prepOp P o = some r.op ∧ r.dst = o.dst ∧ (∀ d, o.dst = some d → d < nt) ∧ (match o.guard with | none => r.guard = none | some (j, want) => ∃ d, (ops[j]?).bind (·.dst) = some d ∧ r.guard = some (d, want)) := by
  unfold prepRow at h
  split at h
  · cases h
  · rename_i ao hao
    split at h
    · rename_i hd
      have hdd : ∀ d, o.dst = some d → d < nt := by
        intro d hd2
        rw [hd2] at hd
        simpa [dstOk] using hd
      split at h
      · rename_i hg
        injection h with h
        subst h
        exact ⟨hao, rfl, hdd, rfl⟩
      · rename_i j want hg
        split at h
        · rename_i d hd2
          injection h with h
          subst h
          exact ⟨hao, rfl, hdd, d, hd2, rfl⟩
        · cases h
    · cases h

section
variable {P : Program} {σ σ' : Sig} {nt base : Nat} {e : Env} {a : Act} {o : Oper} {H H' : AHeap} {w : World} {ops : Array Oper}

theorem ER.mono (h : ER σ nt e a) (s : Sub σ σ') : ER σ' nt e a := ⟨h.size, h.defers, fun t => (h.get t).mono s⟩
theorem ER.put (h : ER σ nt e a) {d : Option Nat} (hd : ∀ x, d = some x → x < nt) {v v' : Value} (hv : VR σ v v') : ER σ nt (eput e d v) (a.put d v') := by
  cases d with
  | none => exact h
  | some d =>
    refine ⟨by simp [Act.put, h.size], by simp [Act.put, h.defers], fun t => ?_⟩
    simp only [eput, eget_cons, Act.put]
    by_cases hdt : d = t
    · subst hdt
      rw [if_pos rfl]
      have : d < a.tmps.size := by rw [h.size]; exact hd d rfl
      have e1 : (a.tmps.setIfInBounds d v').getD d undef = v' := by simp [Array.getD, this]
      rw [e1]
      exact hv
    · rw [if_neg hdt]
      have e1 : (a.tmps.setIfInBounds d v').getD t undef = a.tmps.getD t undef := by
        simp only [Array.getD_eq_getD_getElem?]
        rw [Array.getElem?_setIfInBounds_ne hdt]
      rw [e1]
      exact h.get t
theorem guard_rel (h : ER σ nt e a) {r : ARow} (hg : match o.guard with | none => r.guard = none | some (j, want) => ∃ d, (ops[j]?).bind (·.dst) = some d ∧ r.guard = some (d, want)) {b : Bool} (hb : guardA e r.guard = some b) :
    Region.wanted o (yielded ops a.tmps) = b := by
  unfold Region.wanted
  split at hg
  · rename_i h0
    rw [hg] at hb
    simp only [guardA, Option.some.injEq] at hb
    rw [h0]
    exact hb
  · rename_i j want h0
    obtain ⟨d, hd, hr⟩ := hg
    rw [hr] at hb
    simp only [guardA] at hb
    rw [h0]
    simp only [yielded, hd, Option.bind_some]
    have hv := h.get d
    split at hb
    · rename_i b0 he
      injection hb with hb
      rw [he] at hv
      have hq := VR.bool_inv hv
      have : a.tmps[d]? = some (.bool b0) := by
        rw [Array.getD_eq_getD_getElem?] at hq
        cases hh : a.tmps[d]? with
        | none => rw [hh] at hq; simp [undef] at hq
        | some x => rw [hh] at hq; simp at hq; rw [hq]
      rw [this]
      simp only
      rw [← hb]
      cases b0 <;> cases want <;> rfl
    · rename_i he
      injection hb with hb
      rw [he] at hv
      obtain ⟨ds, hq, hr2⟩ := VR.tuple_inv hv
      rw [Array.getD_eq_getD_getElem?] at hq
      cases hh : a.tmps[d]? with
      | none => simp only; rw [← hb]; rfl
      | some x =>
        rw [hh] at hq
        simp at hq
        subst hq
        simp only
        rw [← hb]; rfl
    · cases hb

/-- One row. -/
theorem row_sound {cf : CallF} (hcf : ∀ g args H v H', cf g args H = some (v, H') → Sim P base g args H v H') (her : ER σ nt e a) (hh : HR P σ base H w) (hb : base ≤ w.heap.size) {r : ARow} (hp : prepRow P nt ops o = some r) {e' : Env}
    (h : rowA P cf r e H = some (e', H')) {next : Act → World → Prop} {Q : Exit → Act → World → Prop}
    (hnext : ∀ σ' a' w', ER σ' nt e' a' → HR P σ' base H' w' → Fr σ σ' H H' w w' → next a' w') :
    if Region.wanted o (yielded ops a.tmps) then o.wp P a w next Q else next (a.put o.dst undef) w := by
  obtain ⟨h1, h2, h3, h4⟩ := prepRow_inv hp
  simp only [rowA, Option.map_eq_some_iff] at h
  obtain ⟨⟨v, H1⟩, hs, he⟩ := h
  injection he with he1 he2
  subst he1 he2
  unfold rowV at hs
  split at hs
  · rename_i hg
    rw [guard_rel her h4 hg, if_pos rfl]
    refine step_sound hcf her hh hb h1 hs next Q fun σ' w' v' q1 q2 q3 => ?_
    refine hnext σ' _ w' ?_ q2 q3
    rw [← h2]
    exact (her.mono q3.sub).put (by rw [h2]; exact h3) q1
  · rename_i hg
    rw [guard_rel her h4 hg]
    simp only [Bool.false_eq_true, if_false]
    injection hs with hs
    injection hs with he1 he2
    subst he1 he2
    refine hnext σ _ w ?_ hh (Fr.refl _ _ _)
    rw [← h2]
    exact her.put (by rw [h2]; exact h3) (.tuple _ _ .nil)
  · cases hs

theorem rows_sound {cf : CallF} (hcf : ∀ g args H v H', cf g args H = some (v, H') → Sim P base g args H v H') {Q : Exit → Act → World → Prop} : ∀ (os : List Oper) {rows : List ARow} {σ : Sig} {e : Env} {a : Act} {H : AHeap} {w : World}, prepRows P nt ops os = some rows →
    ER σ nt e a → HR P σ base H w → base ≤ w.heap.size → ∀ {e' : Env} {H' : AHeap}, rowsA P cf rows e H = some (e', H') →
    (∀ σ' a' w', ER σ' nt e' a' → HR P σ' base H' w' → Fr σ σ' H H' w w' → Q .normal a' w') → wpList P ops Q os a w
  | [], rows, σ, e, a, H, w, hp, her, hh, hb, e', H', h, hq => by
    simp [prepRows] at hp
    subst hp
    simp only [rowsA] at h
    injection h with h
    injection h with h1 h2
    subst h1 h2
    exact hq σ a w her hh (Fr.refl _ _ _)
  | o :: os, rows, σ, e, a, H, w, hp, her, hh, hb, e', H', h, hq => by
    simp only [prepRows] at hp
    split at hp
    · rename_i r rs hr hrs
      injection hp with hp
      subst hp
      simp only [rowsA] at h
      split at h
      · rename_i e1 H1 h1
        refine wpList_step fun K hK => ?_
        refine row_sound hcf her hh hb hr h1 fun σ1 a1 w1 q1 q2 q3 => hK _ _ ?_
        exact rows_sound hcf os hrs q1 q2 (Nat.le_trans hb q3.size) h fun σ2 a2 w2 p1 p2 p3 => hq σ2 a2 w2 p1 p2 (q3.trans p3)
      · cases h
    · cases hp
end
end Lon
