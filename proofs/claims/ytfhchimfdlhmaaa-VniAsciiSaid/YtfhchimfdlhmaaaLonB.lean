/- What is proved here: what the interpreter's heap says of a world. Conditions: those that each theorem names, and no others. -/
import Derived.Test.YtfhchimfdlhmaaaLonA
/-! The abstract heap; what relates it to a world; what a step leaves. -/
set_option linter.unusedSimpArgs false
namespace Lon
open Go

inductive St where
  | ro | tip | ret | map | dead
  deriving DecidableEq
def St.mem : St → Bool | .ro | .tip | .ret => true | _ => false
def St.row : St → Bool | .tip | .ret => true | _ => false
def St.own : St → Bool | .tip | .ret | .map => true | _ => false
def St.act : St → Bool | .tip | .map => true | _ => false

structure ABlk where
  cells : List Value
  elem : TypeId
  st : St
  ver : Nat
  anc : List Nat

inductive Tr where
  | e
  | n (v : Option ABlk) (l r : Tr)
noncomputable def Tr.get (t : Tr) (i : Nat) : Option ABlk :=
  Tr.rec (motive := fun _ => Nat → Option ABlk) (fun _ => none) (fun v _ _ gl gr i => cond (Nat.beq i 0) v (cond (Nat.beq (i % 2) 1) (gl (i / 2)) (gr (i / 2 - 1)))) t i
noncomputable def Tr.put (f : Nat) (t : Tr) (i : Nat) (b : ABlk) : Tr :=
  Nat.rec (motive := fun _ => Tr → Nat → Tr)
    (fun t _ => Tr.casesOn t (.n (some b) .e .e) (fun _ l r => .n (some b) l r))
    (fun _ ih t i => Tr.casesOn t
      (cond (Nat.beq i 0) (.n (some b) .e .e) (cond (Nat.beq (i % 2) 1) (.n none (ih .e (i / 2)) .e) (.n none .e (ih .e (i / 2 - 1)))))
      (fun v l r => cond (Nat.beq i 0) (.n (some b) l r) (cond (Nat.beq (i % 2) 1) (.n v (ih l (i / 2)) r) (.n v l (ih r (i / 2 - 1)))))) f t i
theorem cond_beq {α : Type} (i j : Nat) (a b : α) : cond (Nat.beq i j) a b = if i = j then a else b := by
  by_cases h : i = j
  · subst h; simp
  · have : Nat.beq i j = false := by
      cases hb : Nat.beq i j with
      | false => rfl
      | true => exact absurd (Nat.eq_of_beq_eq_true hb) h
    rw [this, if_neg h]; rfl
theorem Tr.get_n (v : Option ABlk) (l r : Tr) (i : Nat) : (Tr.n v l r).get i = if i = 0 then v else if i % 2 = 1 then l.get (i / 2) else r.get (i / 2 - 1) := by
  show cond (Nat.beq i 0) v (cond (Nat.beq (i % 2) 1) (l.get (i / 2)) (r.get (i / 2 - 1))) = _
  rw [cond_beq, cond_beq]
theorem Tr.put_ze (i : Nat) (b : ABlk) : Tr.put 0 .e i b = .n (some b) .e .e := rfl
theorem Tr.put_zn (v : Option ABlk) (l r : Tr) (i : Nat) (b : ABlk) : Tr.put 0 (.n v l r) i b = .n (some b) l r := rfl
theorem Tr.put_se (f i : Nat) (b : ABlk) : Tr.put (f + 1) .e i b = if i = 0 then .n (some b) .e .e else if i % 2 = 1 then .n none (Tr.put f .e (i / 2) b) .e else .n none .e (Tr.put f .e (i / 2 - 1) b) := by
  show cond (Nat.beq i 0) (Tr.n (some b) .e .e) (cond (Nat.beq (i % 2) 1) (.n none (Tr.put f .e (i / 2) b) .e) (.n none .e (Tr.put f .e (i / 2 - 1) b))) = _
  rw [cond_beq, cond_beq]
theorem Tr.put_sn (f : Nat) (v : Option ABlk) (l r : Tr) (i : Nat) (b : ABlk) : Tr.put (f + 1) (.n v l r) i b = if i = 0 then .n (some b) l r else if i % 2 = 1 then .n v (Tr.put f l (i / 2) b) r else .n v l (Tr.put f r (i / 2 - 1) b) := by
  show cond (Nat.beq i 0) (Tr.n (some b) l r) (cond (Nat.beq (i % 2) 1) (.n v (Tr.put f l (i / 2) b) r) (.n v l (Tr.put f r (i / 2 - 1) b))) = _
  rw [cond_beq, cond_beq]
theorem Tr.get_e (i : Nat) : Tr.e.get i = none := rfl
theorem Tr.get_set : ∀ (f : Nat) (t : Tr) (i j : Nat) (b : ABlk), i ≤ f → (Tr.put f t i b).get j = if j = i then some b else t.get j := by
  intro f
  induction f with
  | zero =>
    intro t i j b h
    obtain rfl : i = 0 := by omega
    cases t with
    | e => simp only [Tr.put_ze, Tr.put_zn, Tr.put_se, Tr.put_sn, Tr.get_n, Tr.get_e]; by_cases hj : j = 0 <;> simp [hj]
    | n v l r => simp only [Tr.put_ze, Tr.put_zn, Tr.put_se, Tr.put_sn, Tr.get_n]; by_cases hj : j = 0 <;> simp [hj]
  | succ f ih =>
    intro t i j b h
    cases t with
    | e =>
      simp only [Tr.put_se, Tr.get_e]
      by_cases hi : i = 0
      · subst hi
        simp only [↓reduceIte, Tr.get_n, Tr.get_e]
        by_cases hj : j = 0 <;> simp [hj]
      · rw [if_neg hi]
        by_cases ho : i % 2 = 1
        · rw [if_pos ho]
          simp only [Tr.get_n, Tr.get_e]
          by_cases hj : j = 0
          · rw [if_pos hj, if_neg (by omega)]
          · rw [if_neg hj]
            by_cases hjo : j % 2 = 1
            · rw [if_pos hjo, ih _ _ _ _ (by omega), Tr.get_e]
              by_cases hij : j = i
              · rw [if_pos (by omega), if_pos hij]
              · rw [if_neg (by omega), if_neg hij]
            · rw [if_neg hjo, if_neg (by omega)]
        · rw [if_neg ho]
          simp only [Tr.get_n, Tr.get_e]
          by_cases hj : j = 0
          · rw [if_pos hj, if_neg (by omega)]
          · rw [if_neg hj]
            by_cases hjo : j % 2 = 1
            · rw [if_pos hjo, if_neg (by omega)]
            · rw [if_neg hjo, ih _ _ _ _ (by omega), Tr.get_e]
              by_cases hij : j = i
              · rw [if_pos (by omega), if_pos hij]
              · rw [if_neg (by omega), if_neg hij]
    | n v l r =>
      simp only [Tr.put_sn]
      by_cases hi : i = 0
      · subst hi
        simp only [↓reduceIte, Tr.get_n]
        by_cases hj : j = 0 <;> simp [hj]
      · rw [if_neg hi]
        by_cases ho : i % 2 = 1
        · rw [if_pos ho]
          simp only [Tr.get_n]
          by_cases hj : j = 0
          · rw [if_pos hj, if_neg (by omega), if_pos hj]
          · rw [if_neg hj, if_neg hj]
            by_cases hjo : j % 2 = 1
            · rw [if_pos hjo, if_pos hjo, ih _ _ _ _ (by omega)]
              by_cases hij : j = i
              · rw [if_pos (by omega), if_pos hij]
              · rw [if_neg (by omega), if_neg hij]
            · rw [if_neg hjo, if_neg hjo, if_neg (by omega)]
        · rw [if_neg ho]
          simp only [Tr.get_n]
          by_cases hj : j = 0
          · rw [if_pos hj, if_neg (by omega), if_pos hj]
          · rw [if_neg hj, if_neg hj]
            by_cases hjo : j % 2 = 1
            · rw [if_pos hjo, if_pos hjo, if_neg (by omega)]
            · rw [if_neg hjo, if_neg hjo, ih _ _ _ _ (by omega)]
              by_cases hij : j = i
              · rw [if_pos (by omega), if_pos hij]
              · rw [if_neg (by omega), if_neg hij]

structure AHeap where
  n : Nat
  t : Tr
def AHeap.empty : AHeap := ⟨0, .e⟩
noncomputable def AHeap.get (H : AHeap) (i : Nat) : Option ABlk := cond (Nat.blt i H.n) (H.t.get i) none
theorem AHeap.get_eq (H : AHeap) (i : Nat) : H.get i = if i < H.n then H.t.get i else none := by
  unfold AHeap.get
  by_cases h : i < H.n
  · have : Nat.blt i H.n = true := by simp [Nat.blt_eq, h]
    rw [this, if_pos h]; rfl
  · have : Nat.blt i H.n = false := by
      cases hb : Nat.blt i H.n with
      | false => rfl
      | true => exact absurd (by simpa [Nat.blt_eq] using hb) h
    rw [this, if_neg h]; rfl
/-- A row of cells, written out ahead of what is done with it: so the kernel does not do the same work twice. -/
noncomputable def forceL {α : Type} (l : List Value) (k : List Value → α) : α := List.rec (motive := fun _ => (List Value → α) → α) (fun k => k []) (fun x _ ih k => ih fun r => k (x :: r)) l k
theorem forceL_eq {α : Type} (l : List Value) (k : List Value → α) : forceL l k = k l := by
  induction l generalizing k with
  | nil => rfl
  | cons x r ih => exact ih fun r => k (x :: r)
noncomputable def AHeap.push (H : AHeap) (b : ABlk) : AHeap := forceL b.cells fun cs => ⟨H.n + 1, Tr.put H.n H.t H.n ⟨cs, b.elem, b.st, b.ver, b.anc⟩⟩
noncomputable def AHeap.upd (H : AHeap) (i : Nat) (b : ABlk) : AHeap := forceL b.cells fun cs => ⟨H.n, Tr.put i H.t i ⟨cs, b.elem, b.st, b.ver, b.anc⟩⟩
theorem AHeap.push_eq (H : AHeap) (b : ABlk) : H.push b = ⟨H.n + 1, Tr.put H.n H.t H.n b⟩ := forceL_eq _ _
theorem AHeap.upd_eq (H : AHeap) (i : Nat) (b : ABlk) : H.upd i b = ⟨H.n, Tr.put i H.t i b⟩ := forceL_eq _ _
theorem AHeap.lt_of_get {H : AHeap} {i : Nat} {b : ABlk} (h : H.get i = some b) : i < H.n := by
  rw [AHeap.get_eq] at h
  split at h
  · assumption
  · cases h
theorem AHeap.get_push (H : AHeap) (b : ABlk) (i : Nat) : (H.push b).get i = if i = H.n then some b else H.get i := by
  rw [AHeap.push_eq]
  rw [AHeap.get_eq, AHeap.get_eq]
  simp only [Tr.get_set _ _ _ _ _ (Nat.le_refl _)]
  by_cases h : i = H.n
  · simp [h]
  · by_cases h2 : i < H.n
    · rw [if_pos (by omega), if_neg h, if_neg h, if_pos h2]
    · rw [if_neg (by omega), if_neg h, if_neg h2]
theorem AHeap.get_upd {H : AHeap} {i : Nat} {b0 : ABlk} (hi : H.get i = some b0) (b : ABlk) (j : Nat) : (H.upd i b).get j = if j = i then some b else H.get j := by
  have hlt := AHeap.lt_of_get hi
  rw [AHeap.upd_eq]
  rw [AHeap.get_eq, AHeap.get_eq]
  simp only [Tr.get_set _ _ _ _ _ (Nat.le_refl _)]
  by_cases h : j = i
  · subst h
    simp [hlt]
  · simp [h]
@[simp] theorem AHeap.n_push (H : AHeap) (b : ABlk) : (H.push b).n = H.n + 1 := by rw [AHeap.push_eq]
@[simp] theorem AHeap.n_upd (H : AHeap) (i : Nat) (b : ABlk) : (H.upd i b).n = H.n := by rw [AHeap.upd_eq]

/-- A block that may no longer be read. -/
noncomputable def kill1 (H : AHeap) (i : Nat) : AHeap :=
  match H.get i with
  | some b => H.upd i { b with st := .dead, ver := b.ver + 1 }
  | none => H
noncomputable def killAll (H : AHeap) : List Nat → AHeap
  | [] => H
  | i :: r => killAll (kill1 H i) r
theorem kill1_n (H : AHeap) (i : Nat) : (kill1 H i).n = H.n := by unfold kill1; split <;> simp
theorem killAll_n : ∀ (l : List Nat) (H : AHeap), (killAll H l).n = H.n
  | [], _ => rfl
  | i :: r, H => by simp only [killAll]; rw [killAll_n r, kill1_n]
theorem kill1_get (H : AHeap) (i j : Nat) : (kill1 H i).get j = if j = i then (H.get i).map (fun b => { b with st := .dead, ver := b.ver + 1 }) else H.get j := by
  unfold kill1
  split
  · rename_i b hb
    rw [AHeap.get_upd hb, hb]
    rfl
  · rename_i hb
    by_cases h : j = i
    · subst h
      simp [hb]
    · rw [if_neg h]
/-- What killing leaves: a block that is not named is as it was; one that is named is dead, if it is at all. -/
theorem killAll_get_not : ∀ (l : List Nat) (H : AHeap) (j : Nat), j ∉ l → (killAll H l).get j = H.get j
  | [], _, _, _ => rfl
  | i :: r, H, j, h => by
    simp only [List.mem_cons, not_or] at h
    simp only [killAll]
    rw [killAll_get_not r _ _ h.2, kill1_get, if_neg h.1]
theorem killAll_get_mem : ∀ (l : List Nat) (H : AHeap) (j : Nat) (b : ABlk), j ∈ l → (killAll H l).get j = some b → b.st = .dead ∧ ∃ b0, H.get j = some b0 ∧ b0.ver < b.ver
  | i :: r, H, j, b, hm, hg => by
    simp only [killAll] at hg
    by_cases hr : j ∈ r
    · obtain ⟨h1, b0, h2, h3⟩ := killAll_get_mem r _ j b hr hg
      refine ⟨h1, ?_⟩
      rw [kill1_get] at h2
      split at h2
      · rename_i e
        subst e
        cases hh : H.get j with
        | none => rw [hh] at h2; cases h2
        | some b1 =>
          rw [hh] at h2
          simp only [Option.map_some, Option.some.injEq] at h2
          subst h2
          exact ⟨b1, rfl, by simp at h3; omega⟩
      · exact ⟨b0, h2, h3⟩
    · rw [killAll_get_not r _ _ hr, kill1_get] at hg
      obtain rfl : j = i := by
        rcases List.mem_cons.1 hm with h | h
        · exact h
        · exact absurd h hr
      rw [if_pos rfl] at hg
      cases hh : H.get j with
      | none => rw [hh] at hg; cases hg
      | some b1 =>
        rw [hh] at hg
        simp only [Option.map_some, Option.some.injEq] at hg
        subst hg
        exact ⟨rfl, b1, rfl, by simp⟩
theorem killAll_get_ex : ∀ (l : List Nat) (H : AHeap) (j : Nat) (b : ABlk), H.get j = some b → ∃ b', (killAll H l).get j = some b' ∧ b.ver ≤ b'.ver ∧ (b'.ver = b.ver → b' = b)
  | [], _, _, b, h => ⟨b, h, Nat.le_refl _, fun _ => rfl⟩
  | i :: r, H, j, b, h => by
    simp only [killAll]
    by_cases e : j = i
    · subst e
      have h1 : (kill1 H j).get j = some { b with st := .dead, ver := b.ver + 1 } := by rw [kill1_get, if_pos rfl, h]; rfl
      obtain ⟨b', h2, h3, _⟩ := killAll_get_ex r _ _ _ h1
      exact ⟨b', h2, by simp at h3; omega, fun hv => by simp at h3; omega⟩
    · have h1 : (kill1 H i).get j = some b := by rw [kill1_get, if_neg e, h]
      exact killAll_get_ex r _ _ _ h1

/-! ### The relation -/
structure HR (P : Program) (σ : Sig) (base : Nat) (H : AHeap) (w : World) : Prop where
  elem : ∀ {i blk l}, H.get i = some blk → σ i = some l → (P.info? blk.elem).map (·.size) = some l.sz
  out : ∀ i, H.n ≤ i → σ i = none
  lt : ∀ {i blk l}, H.get i = some blk → blk.st ≠ .dead → σ i = some l → l.b < w.heap.size
  cells : ∀ {i blk l}, H.get i = some blk → blk.st.mem = true → σ i = some l → ∀ {k v}, blk.cells[k]? = some v → ∃ v', w.cell? ⟨l.b, l.f + k, none⟩ = some v' ∧ VR σ v v'
  ro : ∀ {i blk l}, H.get i = some blk → blk.st = .ro → σ i = some l → l.b < base
  own : ∀ {i blk l}, H.get i = some blk → blk.st.own = true → σ i = some l → base ≤ l.b
  row : ∀ {i blk l}, H.get i = some blk → blk.st.row = true → σ i = some l → ∃ cur e, w.heap[l.b]? = some (.cells cur e (0, 0)) ∧ cur.size = l.tot
  fits : ∀ {i blk l}, H.get i = some blk → blk.st.row = true → σ i = some l → l.f + blk.cells.length ≤ l.tot
  map : ∀ {i blk l}, H.get i = some blk → blk.st = .map → σ i = some l → ∃ es clock, w.heap[l.b]? = some (.map es clock) ∧ VRs σ blk.cells (es.toList.flatMap fun e => [e.key, e.val])
  sep : ∀ {i j bi bj li lj}, i ≠ j → H.get i = some bi → H.get j = some bj → bi.st.own = true → bj.st.own = true → σ i = some li → σ j = some lj → li.b = lj.b → i ∈ bj.anc ∨ j ∈ bi.anc
  anc : ∀ {i j bi bj}, H.get i = some bi → H.get j = some bj → bi.st.own = true → bj.st.own = true → i ∈ bj.anc → bi.st = .ret
  ends : ∀ {i j bi bj li lj}, H.get i = some bi → H.get j = some bj → bi.st.own = true → bj.st.own = true → i ∈ bj.anc → σ i = some li → σ j = some lj → li.b = lj.b → li.f + bi.cells.length ≤ lj.f + bj.cells.length
  ancJ : ∀ {j bj}, H.get j = some bj → ∀ i ∈ bj.anc, i < j

theorem HR.ancLt {P : Program} {σ : Sig} {base : Nat} {H : AHeap} {w : World} (h : HR P σ base H w) {j : Nat} {bj : ABlk} (hj : H.get j = some bj) (i : Nat) (hi : i ∈ bj.anc) : i < H.n :=
  Nat.lt_trans (h.ancJ hj i hi) (AHeap.lt_of_get hj)
/-- Stamps only rise; a block whose stamp has not risen reads as it did. -/
def VerLe (H H' : AHeap) : Prop := H.n ≤ H'.n ∧ ∀ i b, H.get i = some b → ∃ b', H'.get i = some b' ∧ b.ver ≤ b'.ver ∧ b'.elem = b.elem ∧ (b'.ver = b.ver → b'.cells = b.cells ∧ (b.st.mem = true → b'.st.mem = true) ∧ (b.st = .map → b'.st = .map))
theorem VerLe.refl (H : AHeap) : VerLe H H := ⟨Nat.le_refl _, fun _ b h => ⟨b, h, Nat.le_refl _, rfl, fun _ => ⟨rfl, id, id⟩⟩⟩
theorem VerLe.trans {a b c : AHeap} (h : VerLe a b) (k : VerLe b c) : VerLe a c := ⟨Nat.le_trans h.1 k.1, fun i x hx => by
  obtain ⟨y, hy, h1, he, h2⟩ := h.2 i x hx
  obtain ⟨z, hz, h3, he', h4⟩ := k.2 i y hy
  refine ⟨z, hz, by omega, he'.trans he, fun e => ?_⟩
  obtain ⟨p1, p2, p3⟩ := h2 (by omega)
  obtain ⟨q1, q2, q3⟩ := h4 (by omega)
  exact ⟨q1.trans p1, fun h => q2 (p2 h), fun h => q3 (p3 h)⟩⟩
/-- What a step may turn. -/
structure Fr (σ σ' : Sig) (H H' : AHeap) (w w' : World) : Prop where
  sub : Sub σ σ'
  old : ∀ i, i < H.n → σ' i = σ i
  mono : H.n ≤ H'.n
  os : w'.os = w.os
  tape : w'.tape = w.tape
  output : w'.output = w.output
  size : w.heap.size ≤ w'.heap.size
  keep : ∀ k, k < w.heap.size → (∀ i blk l, H.get i = some blk → blk.st.act = true → σ i = some l → l.b ≠ k) → w'.heap[k]? = w.heap[k]?
  tips : ∀ j blk l, H'.get j = some blk → blk.st.act = true → σ' j = some l → w.heap.size ≤ l.b ∨ ∃ i bi li, H.get i = some bi ∧ bi.st.act = true ∧ σ i = some li ∧ li.b = l.b
  ver : ∀ i b, H.get i = some b → ∃ b', H'.get i = some b' ∧ b.ver ≤ b'.ver ∧ b'.elem = b.elem ∧ (b'.ver = b.ver → b'.cells = b.cells ∧ (b.st.mem = true → b'.st.mem = true) ∧ (b.st = .map → b'.st = .map))
theorem Fr.refl (σ : Sig) (H : AHeap) (w : World) : Fr σ σ H H w w :=
  ⟨Sub.refl _, fun _ _ => rfl, Nat.le_refl _, rfl, rfl, rfl, Nat.le_refl _, fun _ _ _ => rfl, fun j blk l h1 h2 h3 => .inr ⟨j, blk, l, h1, h2, h3, rfl⟩, fun _ b h => ⟨b, h, Nat.le_refl _, rfl, fun _ => ⟨rfl, id, id⟩⟩⟩
theorem Fr.trans {σ0 σ1 σ2 : Sig} {H0 H1 H2 : AHeap} {w0 w1 w2 : World} (a : Fr σ0 σ1 H0 H1 w0 w1) (b : Fr σ1 σ2 H1 H2 w1 w2) : Fr σ0 σ2 H0 H2 w0 w2 where
  sub := a.sub.trans b.sub
  old i h := (b.old i (Nat.lt_of_lt_of_le h a.mono)).trans (a.old i h)
  mono := Nat.le_trans a.mono b.mono
  os := b.os.trans a.os
  tape := b.tape.trans a.tape
  output := b.output.trans a.output
  size := Nat.le_trans a.size b.size
  keep k hk h := by
    rw [b.keep k (Nat.lt_of_lt_of_le hk a.size) ?_, a.keep k hk h]
    intro j blk l h1 h2 h3 he
    rcases a.tips j blk l h1 h2 h3 with h4 | ⟨i, bi, li, h4, h5, h6, h7⟩
    · omega
    · exact h i bi li h4 h5 h6 (h7.trans he)
  tips j blk l h1 h2 h3 := by
    rcases b.tips j blk l h1 h2 h3 with h4 | ⟨i, bi, li, h4, h5, h6, h7⟩
    · exact .inl (Nat.le_trans a.size h4)
    · rcases a.tips i bi li h4 h5 h6 with h8 | ⟨i', bi', li', h8, h9, h10, h11⟩
      · exact .inl (by omega)
      · exact .inr ⟨i', bi', li', h8, h9, h10, h11.trans h7⟩
  ver i x hx := by
    obtain ⟨y, hy, h1, he, h2⟩ := a.ver i x hx
    obtain ⟨z, hz, h3, he', h4⟩ := b.ver i y hy
    refine ⟨z, hz, by omega, he'.trans he, fun e => ?_⟩
    obtain ⟨p1, p2, p3⟩ := h2 (by omega)
    obtain ⟨q1, q2, q3⟩ := h4 (by omega)
    exact ⟨q1.trans p1, fun h => q2 (p2 h), fun h => q3 (p3 h)⟩
end Lon
