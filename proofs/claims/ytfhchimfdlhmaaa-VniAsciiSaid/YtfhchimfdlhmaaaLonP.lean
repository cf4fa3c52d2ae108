/- What is proved here: that stamps only rise. Conditions: those that each theorem names, and no others. -/
import Derived.Test.YtfhchimfdlhmaaaLonO
/-! Stamps only rise. -/
set_option linter.unusedSimpArgs false
set_option linter.unusedVariables false
namespace Lon
open Go

theorem VerLe.push (H : AHeap) (b : ABlk) : VerLe H (H.push b) := ⟨by simp, fun i x hx => ⟨x, by rw [AHeap.get_push, if_neg (by have := AHeap.lt_of_get hx; omega)]; exact hx, Nat.le_refl _, rfl, fun _ => ⟨rfl, id, id⟩⟩⟩
theorem VerLe.kill (H : AHeap) (l : List Nat) : VerLe H (killAll H l) := ⟨by rw [killAll_n]; exact Nat.le_refl _, fun i b hb => by
  obtain ⟨b', h1, h2, h3⟩ := killAll_get_ex l H i b hb
  obtain ⟨b3, h4, h5⟩ := killAll_elem l h1
  rw [hb] at h4
  injection h4 with h4
  subst h4
  exact ⟨b', h1, h2, h5, fun e => by rw [h3 e]; exact ⟨rfl, id, id⟩⟩⟩
theorem VerLe.upd {H : AHeap} {i : Nat} {b b' : ABlk} (hg : H.get i = some b) (h1 : b.ver ≤ b'.ver) (h2 : b'.elem = b.elem) (h3 : b'.ver = b.ver → b'.cells = b.cells ∧ (b.st.mem = true → b'.st.mem = true) ∧ (b.st = .map → b'.st = .map)) : VerLe H (H.upd i b') :=
  ⟨by simp, fun j x hx => by
    by_cases e : j = i
    · subst e
      rw [hg] at hx
      injection hx with hx
      subst hx
      exact ⟨b', by rw [AHeap.get_upd hg, if_pos rfl], h1, h2, h3⟩
    · exact ⟨x, by rw [AHeap.get_upd hg, if_neg e]; exact hx, Nat.le_refl _, rfl, fun _ => ⟨rfl, id, id⟩⟩⟩

section
variable {P : Program} {cf : CallF} (hcf : ∀ g args H v H', cf g args H = some (v, H') → VerLe H H')
theorem storeA_ver {H H' : AHeap} {p v : Value} {n : Nat} (h : storeA H p v n = some H') : VerLe H H' := by
  obtain ⟨i, off, blk, rfl, hg, ht, hlen, hone, hle, rfl⟩ := storeA_inv h
  -- the block's own stamp rises, whether or not it stood among its ancestors
  obtain ⟨b2, h1, h2, h3⟩ := killAll_get_ex blk.anc H i blk hg
  obtain ⟨b3, h4, h5⟩ := killAll_elem blk.anc h1
  refine ⟨by simp [killAll_n], fun j x hx => ?_⟩
  by_cases e : j = i
  · subst e
    rw [hg] at hx
    injection hx with hx
    subst hx
    refine ⟨⟨blk.cells.take off ++ v.cells.toList ++ blk.cells.drop (off + n), blk.elem, .tip, blk.ver + 1, []⟩, ?_, by simp, rfl, fun e => by simp at e⟩
    rw [AHeap.get_upd h1, if_pos rfl]
  · obtain ⟨b', q1, q2, q3, q4⟩ := (VerLe.kill H blk.anc).2 j x hx
    exact ⟨b', by rw [AHeap.get_upd h1, if_neg e]; exact q1, q2, q3, q4⟩
theorem appendA_ver {H H' : AHeap} {s x v : Value} {el sz bytes : Nat} (h : appendA H s x el sz bytes = some (v, H')) : VerLe H H' := by
  unfold appendA at h
  repeat' split at h
  all_goals first
    | (cases h; done)
    | (injection h with h; injection h with h1 h2; subst h1 h2; exact VerLe.refl _)
    | (injection h with h; injection h with h1 h2; subst h1 h2; exact VerLe.push _ _)
    | skip
  · rename_i blk hg hc hend
    injection h with h
    injection h with h1 h2
    subst h1 h2
    exact (VerLe.upd (b' := { blk with st := .ret }) hg (Nat.le_refl _) rfl (fun _ => ⟨rfl, fun _ => rfl, fun e => by rw [hc.1] at e; cases e⟩)).trans (VerLe.push _ _)
  · injection h with h
    injection h with h1 h2
    subst h1 h2
    exact (VerLe.kill _ _).trans (VerLe.push _ _)
theorem storeA_ver_opt {H H' : AHeap} {p v r : Value} {n : Nat} (h : (storeA H p v n).map (fun H' => (Value.tuple ⟨[]⟩, H')) = some (r, H')) : VerLe H H' := by
  simp only [Option.map_eq_some_iff] at h
  obtain ⟨H0, h1, h2⟩ := h
  injection h2 with h2 h3
  subst h3
  exact storeA_ver h1
theorem mapA_ver {e : Env} {H H' : AHeap} {m : MapOp} {v : Value} (h : mapA e H m = some (v, H')) : VerLe H H' := by
  cases m with
  | make t =>
    have h : some (Value.map (some H.n), H.push ⟨[], t, .map, 0, []⟩) = some (v, H') := h
    injection h with h
    injection h with h1 h2
    subst h2
    exact VerLe.push _ _
  | get x i z ok =>
    have h : mapGet (ev e x) (ev e i) z ok H = some (v, H') := h
    unfold mapGet at h
    repeat' split at h
    all_goals first
      | (cases h; done)
      | (simp only [Option.map_eq_some_iff] at h; obtain ⟨r, _, h⟩ := h; injection h with h1 h2; subst h2; exact VerLe.refl _)
  | set m k x =>
    have h : mapSet (ev e m) (ev e k) (ev e x) H = some (v, H') := h
    unfold mapSet at h
    repeat' split at h
    all_goals first
      | (cases h; done)
      | skip
    rename_i blk hg hc
    simp only [Option.map_eq_some_iff] at h
    obtain ⟨r, _, h⟩ := h
    injection h with h1 h2
    subst h2
    exact VerLe.upd hg (Nat.le_succ _) rfl (fun e => absurd e (Nat.succ_ne_self _))
include hcf
theorem stepA_ver {e : Env} {H H' : AHeap} {o : AOp} {v : Value} (h : stepA P cf e H o = some (v, H')) : VerLe H H' := by
  unfold stepA at h
  split at h
  case h_7 => exact storeA_ver_opt h
  case h_8 => exact appendA_ver h
  case h_9 =>
    split at h
    · exact hcf _ _ _ _ _ h
    · cases h
  case h_10 => exact mapA_ver h
  all_goals
    simp only [Option.map_eq_some_iff] at h
    obtain ⟨r, h1, h2⟩ := h
    injection h2 with h2 h3
    subst h3
    first | exact VerLe.refl _ | exact VerLe.push _ _
theorem rowV_ver {e : Env} {H H' : AHeap} {r : ARow} {v : Value} (h : rowV P cf r e H = some (v, H')) : VerLe H H' := by
  unfold rowV at h
  split at h
  · exact stepA_ver hcf h
  · injection h with h
    injection h with h1 h2
    subst h2
    exact VerLe.refl _
  · cases h
theorem rowsA_ver : ∀ {rows : List ARow} {e e' : Env} {H H' : AHeap}, rowsA P cf rows e H = some (e', H') → VerLe H H'
  | [], e, e', H, H', h => by simp [rowsA] at h; rw [h.2]; exact VerLe.refl _
  | r :: rs, e, e', H, H', h => by
    simp only [rowsA] at h
    split at h
    · rename_i e1 H1 h1
      simp only [rowA, Option.map_eq_some_iff] at h1
      obtain ⟨⟨v, H2⟩, h2, h3⟩ := h1
      injection h3 with h3 h4
      subst h4
      exact (rowV_ver hcf h2).trans (rowsA_ver h)
    · cases h
theorem drawA_ver : ∀ {rows : List ARow} {l : List (Nat × Nat)} {F : List Nat} {e e' : Env} {H H' : AHeap}, drawA P cf rows l F e H = some (e', H') → VerLe H H'
  | [], l, F, e, e', H, H', h => by
    simp only [drawA] at h
    split at h
    · injection h with h
      injection h with h1 h2
      subst h2
      exact VerLe.refl _
    · cases h
  | r :: rs, l, F, e, e', H, H', h => by
    simp only [drawA] at h
    split at h
    · rename_i v H1 h1
      split at h
      · exact (rowV_ver hcf h1).trans (drawA_ver h)
      · cases h
    · cases h
omit hcf in
theorem iterA_ver {keep : List Nat} {body : Env → AHeap → Option (AEx × Env × AHeap)} (hb : ∀ {e H x e' H'}, body e H = some (x, e', H') → VerLe H H') : ∀ {n : Nat} {e : Env} {H : AHeap} {x : AEx} {e' : Env} {H' : AHeap}, iterA keep body n e H = some (x, e', H') → VerLe H H'
  | 0, e, H, x, e', H', h => by simp [iterA] at h
  | n + 1, e, H, x, e', H', h => by
    simp only [iterA] at h
    split at h
    · cases h
    · rename_i e1 H1 h1
      exact (hb h1).trans (iterA_ver hb h)
    · rename_i r hr h1
      injection h with h
      subst h
      exact hb h1
theorem execA_ver {lf : Nat} : ∀ {c : ACode} {e : Env} {H : AHeap} {x : AEx} {e' : Env} {H' : AHeap}, execA P cf lf c e H = some (x, e', H') → VerLe H H'
  | .skip, e, H, x, e', H', h => by simp [execA] at h; rw [h.2.2]; exact VerLe.refl _
  | .ops rows, e, H, x, e', H', h => by
    simp only [execA, Option.map_eq_some_iff] at h
    obtain ⟨⟨e1, H1⟩, h1, h2⟩ := h
    injection h2 with h2 h3
    injection h3 with h3 h4
    subst h4
    exact rowsA_ver hcf h1
  | .draw rows, e, H, x, e', H', h => by
    simp only [execA, Option.map_eq_some_iff] at h
    obtain ⟨⟨e1, H1⟩, h1, h2⟩ := h
    injection h2 with h2 h3
    injection h3 with h3 h4
    subst h4
    exact drawA_ver hcf h1
  | .seq a b, e, H, x, e', H', h => by
    simp only [execA] at h
    split at h
    · rename_i e1 H1 h1
      exact (execA_ver h1).trans (execA_ver h)
    · exact execA_ver h
  | .cond c a b, e, H, x, e', H', h => by
    simp only [execA] at h
    split at h
    · exact execA_ver h
    · exact execA_ver h
    · cases h
  | .block id c, e, H, x, e', H', h => by
    simp only [execA] at h
    split at h
    · rename_i id' e1 H1 h1
      split at h
      · injection h with h
        injection h with h2 h3
        injection h3 with h3 h4
        subst h4
        exact execA_ver h1
      · injection h with h
        injection h with h2 h3
        injection h3 with h3 h4
        subst h4
        exact execA_ver h1
    · exact execA_ver h
  | .loop keep c, e, H, x, e', H', h => by
    simp only [execA] at h
    exact iterA_ver (fun h => execA_ver h) h
  | .exit id, e, H, x, e', H', h => by simp [execA] at h; rw [h.2.2]; exact VerLe.refl _
  | .ret, e, H, x, e', H', h => by simp [execA] at h; rw [h.2.2]; exact VerLe.refl _
end
end Lon
