/- What is proved here: that the interpreter has a limit, and its rules. Conditions: those that each theorem names, and no others. -/
import Derived.Test.YtfhchimfdlhmaaaLonU
/-! Runs without a count of steps: the interpreter's limit. -/
set_option linter.unusedSimpArgs false
set_option linter.unusedVariables false
namespace Lon
open Go

/-- One table of calls says all that another one says. -/
def CLe (c d : CallF) : Prop := ∀ g args H r, c g args H = some r → d g args H = some r
theorem CLe.refl (c : CallF) : CLe c c := fun _ _ _ _ h => h

section
variable {P : Program} {c d : CallF}
theorem stepA_le (h : CLe c d) {e : Env} {H : AHeap} {o : AOp} {r : Value × AHeap} (hr : stepA P c e H o = some r) : stepA P d e H o = some r := by
  cases o <;> first | exact hr | skip
  case call f args =>
    simp only [stepA] at hr ⊢
    split at hr
    · exact h _ _ _ _ hr
    · cases hr
theorem rowV_le (h : CLe c d) {e : Env} {H : AHeap} {o : ARow} {r : Value × AHeap} (hr : rowV P c o e H = some r) : rowV P d o e H = some r := by
  unfold rowV at hr ⊢
  split at hr
  · exact stepA_le h hr
  · exact hr
  · cases hr
theorem rowsA_le (h : CLe c d) : ∀ {rows : List ARow} {e : Env} {H : AHeap} {r : Env × AHeap}, rowsA P c rows e H = some r → rowsA P d rows e H = some r
  | [], _, _, _, hr => hr
  | o :: os, e, H, r, hr => by
    simp only [rowsA, rowA] at hr ⊢
    cases hv : rowV P c o e H with
    | none => rw [hv] at hr; cases hr
    | some x =>
      rw [hv] at hr
      rw [rowV_le h hv]
      exact rowsA_le h hr
theorem drawA_le (h : CLe c d) : ∀ {rows : List ARow} {l : List (Nat × Nat)} {F : List Nat} {e : Env} {H : AHeap} {r : Env × AHeap}, drawA P c rows l F e H = some r → drawA P d rows l F e H = some r
  | [], _, _, _, _, _, hr => hr
  | o :: os, l, F, e, H, r, hr => by
    simp only [drawA] at hr ⊢
    split at hr
    · rename_i v H1 hv
      rw [rowV_le h hv]
      simp only
      split at hr
      · rename_i hc
        rw [if_pos hc]
        exact drawA_le h hr
      · cases hr
    · cases hr
theorem iterA_le {keep : List Nat} {b b' : Env → AHeap → Option (AEx × Env × AHeap)} (hb : ∀ e H r, b e H = some r → b' e H = some r) : ∀ {n m : Nat} {e : Env} {H : AHeap} {r : AEx × Env × AHeap}, n ≤ m → iterA keep b n e H = some r → iterA keep b' m e H = some r
  | 0, _, _, _, _, _, hr => by simp [iterA] at hr
  | n + 1, 0, _, _, _, hm, _ => absurd hm (by omega)
  | n + 1, m + 1, e, H, r, hm, hr => by
    simp only [iterA] at hr ⊢
    cases hv : b (forget keep e) H with
    | none => rw [hv] at hr; cases hr
    | some x =>
      rw [hv] at hr
      rw [hb _ _ _ hv]
      obtain ⟨x, e', H'⟩ := x
      cases x with
      | normal => exact iterA_le hb (by omega) hr
      | exit id => exact hr
      | ret => exact hr
theorem execA_le (h : CLe c d) {n m : Nat} (hm : n ≤ m) : ∀ {x : ACode} {e : Env} {H : AHeap} {r : AEx × Env × AHeap}, execA P c n x e H = some r → execA P d m x e H = some r
  | .skip, _, _, _, hr => hr
  | .ops rows, e, H, r, hr => by
    simp only [execA, Option.map_eq_some_iff] at hr ⊢
    obtain ⟨y, h1, h2⟩ := hr
    exact ⟨y, rowsA_le h h1, h2⟩
  | .draw rows, e, H, r, hr => by
    simp only [execA, Option.map_eq_some_iff] at hr ⊢
    obtain ⟨y, h1, h2⟩ := hr
    exact ⟨y, drawA_le h h1, h2⟩
  | .seq a b, e, H, r, hr => by
    simp only [execA] at hr ⊢
    cases hv : execA P c n a e H with
    | none => rw [hv] at hr; cases hr
    | some y =>
      rw [hv] at hr
      rw [execA_le h hm hv]
      obtain ⟨x, e', H'⟩ := y
      cases x with
      | normal => exact execA_le h hm hr
      | exit id => exact hr
      | ret => exact hr
  | .cond q a b, e, H, r, hr => by
    simp only [execA] at hr ⊢
    split at hr
    · exact execA_le h hm hr
    · exact execA_le h hm hr
    · cases hr
  | .block id a, e, H, r, hr => by
    simp only [execA] at hr ⊢
    cases hv : execA P c n a e H with
    | none => rw [hv] at hr; cases hr
    | some y =>
      rw [hv] at hr
      rw [execA_le h hm hv]
      exact hr
  | .loop keep a, e, H, r, hr => by
    simp only [execA] at hr ⊢
    exact iterA_le (fun e H r hb => execA_le h hm hb) hm hr
  | .exit id, _, _, _, hr => hr
  | .ret, _, _, _, hr => hr
end

section
variable {P : Program} {Γ : FuncId → Option AFunc} {Ω : CallF}
theorem callA_le : ∀ {n m : Nat}, n ≤ m → CLe (callA P Γ Ω n) (callA P Γ Ω m)
  | 0, _, _, _, _, _, _, h => by simp [callA] at h
  | n + 1, 0, hm, _, _, _, _, _ => absurd hm (by omega)
  | n + 1, m + 1, hm, g, args, H, r, h => by
    have hnm : n ≤ m := by omega
    simp only [callA] at h ⊢
    cases hΩ : Ω g args H with
    | some y => rw [hΩ] at h; exact h
    | none =>
      rw [hΩ] at h
      simp only at h ⊢
      cases hF : Γ g with
      | none => rw [hF] at h; cases h
      | some F =>
        rw [hF] at h
        simp only at h ⊢
        split at h
        · rename_i hl
          rw [if_pos hl]
          cases hv : execA P (callA P Γ Ω n) n F.code (entry args) H with
          | none => rw [hv] at h; cases h
          | some y =>
            rw [hv] at h
            rw [execA_le (callA_le hnm) hnm hv]
            exact h
        · cases h

variable (P Γ Ω)
open Classical in
/-- The limit of the calls: a call's outcome, if there is one at some count of steps. -/
noncomputable def cw : CallF := fun g args H => if h : ∃ r n, callA P Γ Ω n g args H = some r then some (choose h) else none
open Classical in
/-- The limit of a piece of code. -/
noncomputable def run (c : ACode) (e : Env) (H : AHeap) : Option (AEx × Env × AHeap) := if h : ∃ r n, execA P (cw P Γ Ω) n c e H = some r then some (choose h) else none
variable {P Γ Ω}
theorem cw_iff {g : FuncId} {args : List Value} {H : AHeap} {r : Value × AHeap} : cw P Γ Ω g args H = some r ↔ ∃ n, callA P Γ Ω n g args H = some r := by
  unfold cw
  constructor
  · intro h
    split at h
    · rename_i hx
      injection h with h
      subst h
      exact Classical.choose_spec hx
    · cases h
  · intro ⟨n, hn⟩
    have hx : ∃ r n, callA P Γ Ω n g args H = some r := ⟨r, n, hn⟩
    rw [dif_pos hx]
    obtain ⟨m, hm⟩ := Classical.choose_spec hx
    have h1 := callA_le (Nat.le_max_left n m) _ _ _ _ hn
    have h2 := callA_le (Nat.le_max_right n m) _ _ _ _ hm
    rw [h1] at h2
    exact h2.symm
theorem run_iff {c : ACode} {e : Env} {H : AHeap} {r : AEx × Env × AHeap} : run P Γ Ω c e H = some r ↔ ∃ n, execA P (cw P Γ Ω) n c e H = some r := by
  unfold run
  constructor
  · intro h
    split at h
    · rename_i hx
      injection h with h
      subst h
      exact Classical.choose_spec hx
    · cases h
  · intro ⟨n, hn⟩
    have hx : ∃ r n, execA P (cw P Γ Ω) n c e H = some r := ⟨r, n, hn⟩
    rw [dif_pos hx]
    obtain ⟨m, hm⟩ := Classical.choose_spec hx
    have h1 := execA_le (CLe.refl _) (Nat.le_max_left n m) hn
    have h2 := execA_le (CLe.refl _) (Nat.le_max_right n m) hm
    rw [h1] at h2
    exact h2.symm
theorem cw_le (n : Nat) : CLe (callA P Γ Ω n) (cw P Γ Ω) := fun _ _ _ _ h => cw_iff.2 ⟨n, h⟩

/-! What the limit says, some finite count says. -/
theorem stepA_fin {e : Env} {H : AHeap} {o : AOp} {r : Value × AHeap} (h : stepA P (cw P Γ Ω) e H o = some r) : ∃ n, stepA P (callA P Γ Ω n) e H o = some r := by
  cases o <;> first | exact ⟨0, h⟩ | skip
  case call f args =>
    simp only [stepA] at h ⊢
    split at h
    · exact cw_iff.1 h
    · cases h
theorem rowV_fin {e : Env} {H : AHeap} {o : ARow} {r : Value × AHeap} (h : rowV P (cw P Γ Ω) o e H = some r) : ∃ n, rowV P (callA P Γ Ω n) o e H = some r := by
  unfold rowV at h ⊢
  split at h
  · exact stepA_fin h
  · exact ⟨0, h⟩
  · cases h
theorem rowsA_fin : ∀ {rows : List ARow} {e : Env} {H : AHeap} {r : Env × AHeap}, rowsA P (cw P Γ Ω) rows e H = some r → ∃ n, rowsA P (callA P Γ Ω n) rows e H = some r
  | [], _, _, _, h => ⟨0, h⟩
  | o :: os, e, H, r, h => by
    simp only [rowsA, rowA] at h
    cases hv : rowV P (cw P Γ Ω) o e H with
    | none => rw [hv] at h; cases h
    | some x =>
      rw [hv] at h
      obtain ⟨n, hn⟩ := rowV_fin hv
      obtain ⟨m, hm⟩ := rowsA_fin h
      refine ⟨max n m, ?_⟩
      simp only [rowsA, rowA]
      rw [rowV_le (callA_le (Nat.le_max_left n m)) hn]
      exact rowsA_le (callA_le (Nat.le_max_right n m)) hm
theorem drawA_fin : ∀ {rows : List ARow} {l : List (Nat × Nat)} {F : List Nat} {e : Env} {H : AHeap} {r : Env × AHeap}, drawA P (cw P Γ Ω) rows l F e H = some r → ∃ n, drawA P (callA P Γ Ω n) rows l F e H = some r
  | [], _, _, _, _, _, h => ⟨0, h⟩
  | o :: os, l, F, e, H, r, h => by
    simp only [drawA] at h
    split at h
    · rename_i v H1 hv
      obtain ⟨n, hn⟩ := rowV_fin hv
      split at h
      · rename_i hc
        obtain ⟨m, hm⟩ := drawA_fin h
        refine ⟨max n m, ?_⟩
        simp only [drawA]
        rw [rowV_le (callA_le (Nat.le_max_left n m)) hn]
        simp only
        rw [if_pos hc]
        exact drawA_le (callA_le (Nat.le_max_right n m)) hm
      · cases h
    · cases h
theorem iterA_fin {keep : List Nat} {b : Env → AHeap → Option (AEx × Env × AHeap)} {b' : Nat → Env → AHeap → Option (AEx × Env × AHeap)} (hle : ∀ n m e H r, n ≤ m → b' n e H = some r → b' m e H = some r) (hb : ∀ e H r, b e H = some r → ∃ n, b' n e H = some r) :
    ∀ {k : Nat} {e : Env} {H : AHeap} {r : AEx × Env × AHeap}, iterA keep b k e H = some r → ∃ n, iterA keep (b' n) k e H = some r
  | 0, _, _, _, h => by simp [iterA] at h
  | k + 1, e, H, r, h => by
    simp only [iterA] at h
    cases hv : b (forget keep e) H with
    | none => rw [hv] at h; cases h
    | some x =>
      rw [hv] at h
      obtain ⟨n, hn⟩ := hb _ _ _ hv
      obtain ⟨x, e', H'⟩ := x
      cases x with
      | normal =>
        obtain ⟨m, hm⟩ := iterA_fin hle hb h
        refine ⟨max n m, ?_⟩
        simp only [iterA]
        rw [hle _ _ _ _ _ (Nat.le_max_left n m) hn]
        exact iterA_le (fun e H r h => hle _ _ _ _ _ (Nat.le_max_right n m) h) (Nat.le_refl _) hm
      | exit id => exact ⟨n, by simp only [iterA]; rw [hn]; exact h⟩
      | ret => exact ⟨n, by simp only [iterA]; rw [hn]; exact h⟩
theorem execA_fin {lf : Nat} : ∀ {c : ACode} {e : Env} {H : AHeap} {r : AEx × Env × AHeap}, execA P (cw P Γ Ω) lf c e H = some r → ∃ n, execA P (callA P Γ Ω n) lf c e H = some r
  | .skip, _, _, _, h => ⟨0, h⟩
  | .ops rows, e, H, r, h => by
    simp only [execA, Option.map_eq_some_iff] at h ⊢
    obtain ⟨y, h1, h2⟩ := h
    obtain ⟨n, hn⟩ := rowsA_fin h1
    exact ⟨n, y, hn, h2⟩
  | .draw rows, e, H, r, h => by
    simp only [execA, Option.map_eq_some_iff] at h ⊢
    obtain ⟨y, h1, h2⟩ := h
    obtain ⟨n, hn⟩ := drawA_fin h1
    exact ⟨n, y, hn, h2⟩
  | .seq a b, e, H, r, h => by
    simp only [execA] at h
    cases hv : execA P (cw P Γ Ω) lf a e H with
    | none => rw [hv] at h; cases h
    | some y =>
      rw [hv] at h
      obtain ⟨n, hn⟩ := execA_fin hv
      obtain ⟨x, e', H'⟩ := y
      cases x with
      | normal =>
        obtain ⟨m, hm⟩ := execA_fin h
        refine ⟨max n m, ?_⟩
        simp only [execA]
        rw [execA_le (callA_le (Nat.le_max_left n m)) (Nat.le_refl _) hn]
        exact execA_le (callA_le (Nat.le_max_right n m)) (Nat.le_refl _) hm
      | exit id => exact ⟨n, by simp only [execA]; rw [hn]; exact h⟩
      | ret => exact ⟨n, by simp only [execA]; rw [hn]; exact h⟩
  | .cond q a b, e, H, r, h => by
    simp only [execA] at h ⊢
    split at h
    · exact execA_fin h
    · exact execA_fin h
    · cases h
  | .block id a, e, H, r, h => by
    simp only [execA] at h ⊢
    cases hv : execA P (cw P Γ Ω) lf a e H with
    | none => rw [hv] at h; cases h
    | some y =>
      rw [hv] at h
      obtain ⟨n, hn⟩ := execA_fin hv
      exact ⟨n, by rw [hn]; exact h⟩
  | .loop keep a, e, H, r, h => by
    simp only [execA] at h ⊢
    exact iterA_fin (b := execA P (cw P Γ Ω) lf a) (b' := fun n => execA P (callA P Γ Ω n) lf a) (fun n m e H r hnm h => execA_le (callA_le hnm) (Nat.le_refl _) h) (fun e H r h => execA_fin h) h
  | .exit id, _, _, _, h => ⟨0, h⟩
  | .ret, _, _, _, h => ⟨0, h⟩

/-- What the table of calls besides says, the limit says. -/
theorem cw_omega {g : FuncId} {args : List Value} {H : AHeap} {r : Value × AHeap} (h : Ω g args H = some r) : cw P Γ Ω g args H = some r :=
  cw_iff.2 ⟨1, by simp only [callA, h]⟩
/-- A call, by its body. -/
theorem cw_body {g : FuncId} {args : List Value} {H : AHeap} {F : AFunc} {x : AEx} {e : Env} {H' : AHeap} {vs : List Value} (hΩ : Ω g args H = none) (hF : Γ g = some F) (hl : args.length = F.nargs)
    (hx : run P Γ Ω F.code (entry args) H = some (x, e, H')) (hn : ∀ id, x ≠ .exit id) (hr : ressA P e H' F.results = some vs) : cw P Γ Ω g args H = some (packA vs, H') := by
  obtain ⟨n, hn1⟩ := run_iff.1 hx
  obtain ⟨m, hm⟩ := execA_fin hn1
  refine cw_iff.2 ⟨max n m + 1, ?_⟩
  simp only [callA, hΩ, hF, if_pos hl]
  rw [execA_le (callA_le (Nat.le_max_right n m)) (Nat.le_max_left n m) hm]
  cases x with
  | normal => simp only [hr]; rfl
  | ret => simp only [hr]; rfl
  | exit id => exact absurd rfl (hn id)

/-! The limit's equations. -/
theorem run_of {c : ACode} {e : Env} {H : AHeap} {r : AEx × Env × AHeap} (n : Nat) (h : execA P (cw P Γ Ω) n c e H = some r) : run P Γ Ω c e H = some r := run_iff.2 ⟨n, h⟩
theorem run_skip {e : Env} {H : AHeap} : run P Γ Ω .skip e H = some (.normal, e, H) := run_of 0 rfl
theorem run_exit {id : Nat} {e : Env} {H : AHeap} : run P Γ Ω (.exit id) e H = some (.exit id, e, H) := run_of 0 rfl
theorem run_ret {e : Env} {H : AHeap} : run P Γ Ω .ret e H = some (.ret, e, H) := run_of 0 rfl
theorem run_ops {rows : List ARow} {e e' : Env} {H H' : AHeap} (h : rowsA P (cw P Γ Ω) rows e H = some (e', H')) : run P Γ Ω (.ops rows) e H = some (.normal, e', H') := run_of 0 (by simp only [execA, h]; rfl)
theorem run_draw {rows : List ARow} {e e' : Env} {H H' : AHeap} (h : drawA P (cw P Γ Ω) rows [] [] e H = some (e', H')) : run P Γ Ω (.draw rows) e H = some (.normal, e', H') := run_of 0 (by simp only [execA, h]; rfl)
theorem run_seq {a b : ACode} {e e' : Env} {H H' : AHeap} {r : AEx × Env × AHeap} (h : run P Γ Ω a e H = some (.normal, e', H')) (k : run P Γ Ω b e' H' = some r) : run P Γ Ω (.seq a b) e H = some r := by
  obtain ⟨n, hn⟩ := run_iff.1 h
  obtain ⟨m, hm⟩ := run_iff.1 k
  refine run_of (max n m) ?_
  simp only [execA]
  rw [execA_le (CLe.refl _) (Nat.le_max_left n m) hn]
  exact execA_le (CLe.refl _) (Nat.le_max_right n m) hm
theorem run_seq_ret {a b : ACode} {e e' : Env} {H H' : AHeap} (h : run P Γ Ω a e H = some (.ret, e', H')) : run P Γ Ω (.seq a b) e H = some (.ret, e', H') := by
  obtain ⟨n, hn⟩ := run_iff.1 h
  exact run_of n (by simp only [execA]; rw [hn])
theorem run_seq_exit {a b : ACode} {e e' : Env} {H H' : AHeap} {id : Nat} (h : run P Γ Ω a e H = some (.exit id, e', H')) : run P Γ Ω (.seq a b) e H = some (.exit id, e', H') := by
  obtain ⟨n, hn⟩ := run_iff.1 h
  exact run_of n (by simp only [execA]; rw [hn])
theorem run_true {q : Operand} {a b : ACode} {e : Env} {H : AHeap} {r : AEx × Env × AHeap} (hq : ev e q = .bool true) (h : run P Γ Ω a e H = some r) : run P Γ Ω (.cond q a b) e H = some r := by
  obtain ⟨n, hn⟩ := run_iff.1 h
  exact run_of n (by simp only [execA]; rw [hq]; exact hn)
theorem run_false {q : Operand} {a b : ACode} {e : Env} {H : AHeap} {r : AEx × Env × AHeap} (hq : ev e q = .bool false) (h : run P Γ Ω b e H = some r) : run P Γ Ω (.cond q a b) e H = some r := by
  obtain ⟨n, hn⟩ := run_iff.1 h
  exact run_of n (by simp only [execA]; rw [hq]; exact hn)
theorem run_block {id : Nat} {a : ACode} {e e' : Env} {H H' : AHeap} (h : run P Γ Ω a e H = some (.normal, e', H')) : run P Γ Ω (.block id a) e H = some (.normal, e', H') := by
  obtain ⟨n, hn⟩ := run_iff.1 h
  exact run_of n (by simp only [execA]; rw [hn])
theorem run_block_ret {id : Nat} {a : ACode} {e e' : Env} {H H' : AHeap} (h : run P Γ Ω a e H = some (.ret, e', H')) : run P Γ Ω (.block id a) e H = some (.ret, e', H') := by
  obtain ⟨n, hn⟩ := run_iff.1 h
  exact run_of n (by simp only [execA]; rw [hn])
theorem run_block_exit {id : Nat} {a : ACode} {e e' : Env} {H H' : AHeap} (h : run P Γ Ω a e H = some (.exit id, e', H')) : run P Γ Ω (.block id a) e H = some (.normal, e', H') := by
  obtain ⟨n, hn⟩ := run_iff.1 h
  exact run_of n (by simp only [execA]; rw [hn]; simp)
theorem run_block_other {id id' : Nat} {a : ACode} {e e' : Env} {H H' : AHeap} (hne : id' ≠ id) (h : run P Γ Ω a e H = some (.exit id', e', H')) : run P Γ Ω (.block id a) e H = some (.exit id', e', H') := by
  obtain ⟨n, hn⟩ := run_iff.1 h
  exact run_of n (by simp only [execA]; rw [hn]; simp [hne])
theorem run_loop {keep : List Nat} {a : ACode} {e e' : Env} {H H' : AHeap} {r : AEx × Env × AHeap} (h : run P Γ Ω a (forget keep e) H = some (.normal, e', H')) (k : run P Γ Ω (.loop keep a) e' H' = some r) : run P Γ Ω (.loop keep a) e H = some r := by
  obtain ⟨n, hn⟩ := run_iff.1 h
  obtain ⟨m, hm⟩ := run_iff.1 k
  refine run_of (max n m + 1) ?_
  simp only [execA, iterA]
  rw [execA_le (CLe.refl _) (show n ≤ max n m + 1 by omega) hn]
  simp only [execA] at hm
  exact iterA_le (fun e H r h => execA_le (CLe.refl _) (show m ≤ max n m + 1 by omega) h) (Nat.le_max_right n m) hm
theorem run_loop_ret {keep : List Nat} {a : ACode} {e e' : Env} {H H' : AHeap} (h : run P Γ Ω a (forget keep e) H = some (.ret, e', H')) : run P Γ Ω (.loop keep a) e H = some (.ret, e', H') := by
  obtain ⟨n, hn⟩ := run_iff.1 h
  refine run_of (n + 1) ?_
  simp only [execA, iterA]
  rw [execA_le (CLe.refl _) (Nat.le_succ n) hn]
theorem run_loop_exit {keep : List Nat} {a : ACode} {e e' : Env} {H H' : AHeap} {id : Nat} (h : run P Γ Ω a (forget keep e) H = some (.exit id, e', H')) : run P Γ Ω (.loop keep a) e H = some (.exit id, e', H') := by
  obtain ⟨n, hn⟩ := run_iff.1 h
  refine run_of (n + 1) ?_
  simp only [execA, iterA]
  rw [execA_le (CLe.refl _) (Nat.le_succ n) hn]

theorem cw_sound {base : Nat} (hmix : P.follows .mixedOrders = true) (hΓ : ∀ g F, Γ g = some F → FOK P g F) (hΩ : ∀ g args H v H', Ω g args H = some (v, H') → Sim P base g args H v H')
    {g : FuncId} {args : List Value} {H : AHeap} {v : Value} {H' : AHeap} (h : cw P Γ Ω g args H = some (v, H')) : Sim P base g args H v H' := by
  obtain ⟨n, hn⟩ := cw_iff.1 h
  exact call_sound hmix hΓ hΩ n g args H v H' hn
end
end Lon
