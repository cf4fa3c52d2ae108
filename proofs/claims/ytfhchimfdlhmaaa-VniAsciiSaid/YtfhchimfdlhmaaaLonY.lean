/- What is proved here: rules for loops and calls. Conditions: those that each theorem names, and no others. -/
import Derived.Test.YtfhchimfdlhmaaaLonX
/-! Loops, calls, and what is told of the heap. -/
set_option linter.unusedSimpArgs false
set_option linter.unusedVariables false
namespace Lon
open Go

section
variable {P : Program} {Γ : FuncId → Option AFunc} {Ω : CallF} {cf : CallF} {e : Env} {H : AHeap}

theorem eget_forget_mem {ks : List Nat} {t : Nat} (h : t ∈ ks) : eget (forget ks e) t = eget e t := by rw [eget_forget, if_pos h]
theorem forget_forget {ks : List Nat} : forget ks (forget ks e) = forget ks e := by
  unfold forget
  refine List.map_congr_left fun t ht => ?_
  have := eget_forget_mem (e := e) ht
  unfold forget at this
  rw [this]
theorem w_loop {keep : List Nat} {a : ACode} : run P Γ Ω (.loop keep a) e H = thenRun P Γ Ω (.loop keep a) (run P Γ Ω a (forget keep e) H) := eq_loop
theorem w_loop_b {keep : List Nat} {a a' : ACode} (h : a = a') : run P Γ Ω (.loop keep a) e H = thenRun P Γ Ω (.loop keep a) (run P Γ Ω a' (forget keep e) H) := by subst h; exact w_loop
/-- A loop looks at the slots that it keeps, and at no others. -/
theorem w_enter {keep : List Nat} {a : ACode} : run P Γ Ω (.loop keep a) e H = run P Γ Ω (.loop keep a) (forget keep e) H := by
  rw [w_loop, w_loop (e := forget keep e), forget_forget]

/-- A body's end, as the call's. -/
noncomputable def fin (P : Program) (rs : List ARes) (r : Option (AEx × Env × AHeap)) : Option (Value × AHeap) :=
  match r with
  | some (.exit _, _, _) => none
  | some (_, e, H') => (ressA P e H' rs).map fun vs => (packA vs, H')
  | none => none
theorem fin_ret {rs : List ARes} : fin P rs (some (.ret, e, H)) = (ressA P e H rs).map fun vs => (packA vs, H) := rfl
theorem fin_normal {rs : List ARes} : fin P rs (some (.normal, e, H)) = (ressA P e H rs).map fun vs => (packA vs, H) := rfl
theorem cw_run {g : FuncId} {args : List Value} {F : AFunc} (hΩ : Ω g args H = none) (hF : Γ g = some F) (hl : args.length = F.nargs) : cw P Γ Ω g args H = fin P F.results (run P Γ Ω F.code (entry args) H) := by
  cases hx : run P Γ Ω F.code (entry args) H with
  | some r =>
    obtain ⟨x, e', H'⟩ := r
    cases x with
    | exit id =>
      cases hc : cw P Γ Ω g args H with
      | none => rfl
      | some r =>
        obtain ⟨n, hn⟩ := cw_iff.1 hc
        cases n with
        | zero => simp [callA] at hn
        | succ n =>
          simp only [callA, hΩ, hF, if_pos hl] at hn
          cases hy : execA P (callA P Γ Ω n) n F.code (entry args) H with
          | none => rw [hy] at hn; cases hn
          | some y =>
            have := run_of n (execA_le (cw_le n) (Nat.le_refl n) hy)
            rw [hx] at this
            injection this with this
            subst this
            rw [hy] at hn
            cases hn
    | normal =>
      rw [fin_normal]
      cases hr : ressA P e' H' F.results with
      | some vs => rw [cw_body hΩ hF hl hx (by intro id h; cases h) hr]; rfl
      | none =>
        cases hc : cw P Γ Ω g args H with
        | none => rfl
        | some r =>
          obtain ⟨n, hn⟩ := cw_iff.1 hc
          cases n with
          | zero => simp [callA] at hn
          | succ n =>
            simp only [callA, hΩ, hF, if_pos hl] at hn
            cases hy : execA P (callA P Γ Ω n) n F.code (entry args) H with
            | none => rw [hy] at hn; cases hn
            | some y =>
              have := run_of n (execA_le (cw_le n) (Nat.le_refl n) hy)
              rw [hx] at this
              injection this with this
              subst this
              rw [hy] at hn
              simp only [hr] at hn
              cases hn
    | ret =>
      rw [fin_ret]
      cases hr : ressA P e' H' F.results with
      | some vs => rw [cw_body hΩ hF hl hx (by intro id h; cases h) hr]; rfl
      | none =>
        cases hc : cw P Γ Ω g args H with
        | none => rfl
        | some r =>
          obtain ⟨n, hn⟩ := cw_iff.1 hc
          cases n with
          | zero => simp [callA] at hn
          | succ n =>
            simp only [callA, hΩ, hF, if_pos hl] at hn
            cases hy : execA P (callA P Γ Ω n) n F.code (entry args) H with
            | none => rw [hy] at hn; cases hn
            | some y =>
              have := run_of n (execA_le (cw_le n) (Nat.le_refl n) hy)
              rw [hx] at this
              injection this with this
              subst this
              rw [hy] at hn
              simp only [hr] at hn
              cases hn
  | none =>
    cases hc : cw P Γ Ω g args H with
    | none => rfl
    | some r =>
      obtain ⟨n, hn⟩ := cw_iff.1 hc
      cases n with
      | zero => simp [callA] at hn
      | succ n =>
        simp only [callA, hΩ, hF, if_pos hl] at hn
        cases hy : execA P (callA P Γ Ω n) n F.code (entry args) H with
        | none => rw [hy] at hn; cases hn
        | some y =>
          have := run_of n (execA_le (cw_le n) (Nat.le_refl n) hy)
          rw [hx] at this
          cases this
/-- A run by count is the limit's. -/
theorem cw_of {g : FuncId} {args : List Value} {r : Value × AHeap} (n : Nat) (h : callA P Γ Ω n g args H = some r) : cw P Γ Ω g args H = some r := cw_iff.2 ⟨n, h⟩

/-! Results. -/
theorem ress_nil : ressA P e H [] = some [] := rfl
theorem ress_tmp {t : Nat} {r : List ARes} : ressA P e H (.tmp t :: r) = (ressA P e H r).map fun vs => eget e t :: vs := by
  simp only [ressA, resA]; cases ressA P e H r <;> rfl
theorem pack_one {v : Value} : packA [v] = v := rfl
theorem pack_nil : packA [] = .tuple ⟨[]⟩ := rfl
theorem pack_two {v u : Value} {r : List Value} : packA (v :: u :: r) = .tuple ⟨v :: u :: r⟩ := rfl
theorem entry_one {a : Value} : entry [a] = [(0, a)] := rfl
theorem entry_two {a b : Value} : entry [a, b] = [(0, a), (1, b)] := rfl
theorem entry_three {a b c : Value} : entry [a, b, c] = [(0, a), (1, b), (2, c)] := rfl
theorem entry_four {a b c d : Value} : entry [a, b, c, d] = [(0, a), (1, b), (2, c), (3, d)] := rfl
theorem entry_nil : entry [] = [] := rfl

/-- An outcome, and what is told of it. -/
def Out (r : Option (AEx × Env × AHeap)) (Q : AEx → Env → AHeap → Prop) : Prop := ∃ x e H, r = some (x, e, H) ∧ Q x e H
theorem w_out {x : AEx} {Q : AEx → Env → AHeap → Prop} : Out (some (x, e, H)) Q = Q x e H := by
  refine propext ⟨fun ⟨x', e', H', h, q⟩ => ?_, fun q => ⟨x, e, H, rfl, q⟩⟩
  injection h with h
  injection h with h1 h
  injection h with h2 h3
  subst h1 h2 h3
  exact q
/-- A call's value, and what is told of it. -/
def Gives (r : Option (Value × AHeap)) (Q : Value → AHeap → Prop) : Prop := ∃ v H, r = some (v, H) ∧ Q v H
theorem w_gives {v : Value} {Q : Value → AHeap → Prop} : Gives (some (v, H)) Q = Q v H := by
  refine propext ⟨fun ⟨v', H', h, q⟩ => ?_, fun q => ⟨v, H, rfl, q⟩⟩
  injection h with h
  injection h with h1 h2
  subst h1 h2
  exact q

/-! ### The heap: what was there stays. -/
def Ext (H H' : AHeap) : Prop := H.n ≤ H'.n ∧ ∀ i, i < H.n → H'.get i = H.get i
theorem Ext.refl (H : AHeap) : Ext H H := ⟨Nat.le_refl _, fun _ _ => rfl⟩
theorem Ext.trans {a b c : AHeap} (h : Ext a b) (k : Ext b c) : Ext a c := ⟨Nat.le_trans h.1 k.1, fun i hi => (k.2 i (by have := h.1; omega)).trans (h.2 i hi)⟩
theorem Ext.push (H : AHeap) (b : ABlk) : Ext H (H.push b) := ⟨by simp, fun i hi => by rw [AHeap.get_push, if_neg (by omega)]⟩
theorem Ext.get {a b : AHeap} (h : Ext a b) {i : Nat} {x : ABlk} (hx : a.get i = some x) : b.get i = some x := (h.2 i (AHeap.lt_of_get hx)).trans hx
theorem drop_at {α : Type} {L : List α} {i : Nat} (h : i < L.length) : ∃ p, L[i]? = some p ∧ L.drop i = p :: L.drop (i + 1) := ⟨L[i], List.getElem?_eq_getElem h, List.drop_eq_getElem_cons h⟩
/-- Rows of one length, one behind the other. -/
theorem row_at {α : Type} {f : α → List Value} {s : Nat} (hs : ∀ x, (f x).length = s) : ∀ {L : List α} {i : Nat} {p : α}, L[i]? = some p → ((L.flatMap f).drop (i * s)).take s = f p ∧ i * s + s ≤ (L.flatMap f).length
  | [], i, p, h => by simp at h
  | x :: L, 0, p, h => by
    simp at h
    subst h
    simp [hs]
  | x :: L, i + 1, p, h => by
    simp at h
    obtain ⟨h1, h2⟩ := row_at hs h
    rw [Nat.succ_mul, Nat.add_comm (i * s) s]
    simp only [List.flatMap_cons, List.length_append, hs]
    refine ⟨?_, by omega⟩
    rw [List.drop_append, List.drop_of_length_le (by rw [hs]; omega), hs]
    simp [h1]
end
end Lon
