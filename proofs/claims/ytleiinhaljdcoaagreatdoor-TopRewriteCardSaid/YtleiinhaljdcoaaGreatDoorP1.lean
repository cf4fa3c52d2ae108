/- What is proved here: what the program's functions come to, as far as the claimed statement asks. Conditions: those that each theorem names, and no others. -/
import Derived.Orders
import Derived.Laws.AppendOwn
import Derived.Laws.Cells
import Derived.Laws.CopyRow
import Derived.Laws.Rows
import Derived.Laws.Tables
import Derived.Below
import Derived.Laws.Small
import Derived.Laws.Pointers
import Derived.Laws.Cover3
import Derived.MapKept
import Derived.Laws.BytesString
set_option linter.unusedSimpArgs false
set_option linter.unusedVariables false
namespace Lon
open Go
structure Loc where
 b : Nat
 f : Nat
 tot : Nat
 sz : Nat
abbrev Sig := Nat → Option Loc
mutual
inductive VR (σ : Sig) : Value → Value → Prop
 | poison (v : Value) : VR σ (.chan (some 0)) v
 | bool (b : Bool) : VR σ (.bool b) (.bool b)
 | int (k : IntKind) (n : Int) : VR σ (.int k n) (.int k n)
 | float (k : FloatKind) (n : Nat) : VR σ (.float k n) (.float k n)
 | complex (k : FloatKind) (a b : Nat) : VR σ (.complex k a b) (.complex k a b)
 | string (s : ByteArray) : VR σ (.string s) (.string s)
 | nilPtr : VR σ (.pointer none) (.pointer none)
 | ptr (i o : Nat) (l : Loc) (h : σ i = some l) : VR σ (.pointer (some ⟨i, o, none⟩)) (.pointer (some ⟨l.b, l.f + o, none⟩))
 | nilSlice : VR σ (.slice none 0 0) (.slice none 0 0)
 | slice (i o n c f' c' : Nat) (l : Loc) (h : σ i = some l) (hf : 0 < n → f' = l.f + o) (hn : n ≤ c') (hc : c ≤ c' + 1) (h0 : c = 0 → c' = 0) (ht : f' + c' * l.sz ≤ l.tot) :
   VR σ (.slice (some ⟨i, o, none⟩) n c) (.slice (some ⟨l.b, f', none⟩) n c')
 | nilAt (a : Addr) : VR σ (.slice (some ⟨0, 0, some 0⟩) 0 0) (.slice (some a) 0 0)
 | nilMap : VR σ (.map none) (.map none)
 | map (i : Nat) (l : Loc) (h : σ i = some l) : VR σ (.map (some i)) (.map (some l.b))
 | func (fn : Fn) (xs ys xs' ys' : List Value) (hx : VRs σ xs xs') (hy : VRs σ ys ys') : VR σ (.func fn ⟨xs⟩ ⟨ys⟩) (.func fn ⟨xs'⟩ ⟨ys'⟩)
 | nilFunc : VR σ .nilFunc .nilFunc
 | nilIface : VR σ .nilIface .nilIface
 | iface (t : TypeId) (v v' : Value) (h : VR σ v v') : VR σ (.iface t v) (.iface t v')
 | agg (xs xs' : List Value) (h : VRs σ xs xs') : VR σ (.agg ⟨xs⟩) (.agg ⟨xs'⟩)
 | tuple (xs xs' : List Value) (h : VRs σ xs xs') : VR σ (.tuple ⟨xs⟩) (.tuple ⟨xs'⟩)
inductive VRs (σ : Sig) : List Value → List Value → Prop
 | nil : VRs σ [] []
 | cons (v v' : Value) (vs vs' : List Value) (h : VR σ v v') (hs : VRs σ vs vs') : VRs σ (v :: vs) (v' :: vs')
end
def Sub (σ σ' : Sig) : Prop := ∀ i l, σ i = some l → σ' i = some l
theorem Sub.refl (σ : Sig) : Sub σ σ := fun _ _ h => h
theorem Sub.trans {a b c : Sig} (h : Sub a b) (k : Sub b c) : Sub a c := fun i l e => k i l (h i l e)
mutual
theorem VR.mono {σ σ' : Sig} (s : Sub σ σ') : ∀ {v v' : Value}, VR σ v v' → VR σ' v v'
 | _, _, .poison v => .poison v
 | _, _, .bool b => .bool b
 | _, _, .int k n => .int k n
 | _, _, .float k n => .float k n
 | _, _, .complex k a b => .complex k a b
 | _, _, .string x => .string x
 | _, _, .nilPtr => .nilPtr
 | _, _, .ptr i o l h => .ptr i o l (s _ _ h)
 | _, _, .nilSlice => .nilSlice
 | _, _, .slice i o n c f' c' l h hf hn hc h0 ht => .slice i o n c f' c' l (s _ _ h) hf hn hc h0 ht
 | _, _, .nilAt a => .nilAt a
 | _, _, .nilMap => .nilMap
 | _, _, .map i l h => .map i l (s _ _ h)
 | _, _, .func fn xs ys xs' ys' hx hy => .func fn xs ys xs' ys' (VRs.mono s hx) (VRs.mono s hy)
 | _, _, .nilFunc => .nilFunc
 | _, _, .nilIface => .nilIface
 | _, _, .iface t v v' h => .iface t v v' (VR.mono s h)
 | _, _, .agg xs xs' h => .agg xs xs' (VRs.mono s h)
 | _, _, .tuple xs xs' h => .tuple xs xs' (VRs.mono s h)
theorem VRs.mono {σ σ' : Sig} (s : Sub σ σ') : ∀ {v v' : List Value}, VRs σ v v' → VRs σ' v v'
 | _, _, .nil => .nil
 | _, _, .cons v v' vs vs' h hs => .cons v v' vs vs' (VR.mono s h) (VRs.mono s hs)
end
theorem VRs.length {σ : Sig} : ∀ {xs ys : List Value}, VRs σ xs ys → ys.length = xs.length
 | _, _, .nil => rfl
 | _, _, .cons _ _ _ _ _ hs => by simp [VRs.length hs]
theorem VRs.get {σ : Sig} : ∀ {xs ys : List Value}, VRs σ xs ys → ∀ {k : Nat} {v : Value}, xs[k]? = some v → ∃ v', ys[k]? = some v' ∧ VR σ v v'
 | _, _, .nil, k, v, h => by simp at h
 | _, _, .cons _ _ _ _ h0 hs, 0, v, h => by
  simp at h
  subst h
  exact ⟨_, by simp, h0⟩
 | _, _, .cons _ _ _ _ _ hs, k + 1, v, h => by
  simp at h
  obtain ⟨v', e, hv⟩ := VRs.get hs h
  exact ⟨v', by simpa using e, hv⟩
theorem VRs.of_get {σ : Sig} : ∀ {xs ys : List Value}, ys.length = xs.length → (∀ (k : Nat) (v v' : Value), xs[k]? = some v → ys[k]? = some v' → VR σ v v') → VRs σ xs ys
 | [], [], _, _ => .nil
 | [], _ :: _, h, _ => by simp at h
 | _ :: _, [], h, _ => by simp at h
 | x :: xs, y :: ys, h, hk => .cons _ _ _ _ (hk 0 x y (by simp) (by simp)) (VRs.of_get (by simpa using h) fun k v v' e e' => hk (k + 1) v v' (by simpa using e) (by simpa using e'))
theorem VRs.append {σ : Sig} : ∀ {a b c d : List Value}, VRs σ a b → VRs σ c d → VRs σ (a ++ c) (b ++ d)
 | _, _, _, _, .nil, h => h
 | _, _, _, _, .cons _ _ _ _ h hs, k => .cons _ _ _ _ h (VRs.append hs k)
theorem VRs.take {σ : Sig} {a b : List Value} (h : VRs σ a b) (n : Nat) : VRs σ (a.take n) (b.take n) := by
 refine VRs.of_get (by simp [h.length]) fun k v v' e e' => ?_
 rw [List.getElem?_take] at e e'
 split at e
 ·rename_i hk
  rw [if_pos hk] at e'
  obtain ⟨u, hu, hv⟩ := h.get e
  rw [e'] at hu
  injection hu with hu
  exact hu ▸ hv
 ·cases e
theorem VRs.drop {σ : Sig} {a b : List Value} (h : VRs σ a b) (n : Nat) : VRs σ (a.drop n) (b.drop n) := by
 refine VRs.of_get (by simp [h.length]) fun k v v' e e' => ?_
 rw [List.getElem?_drop] at e e'
 obtain ⟨u, hu, hv⟩ := h.get e
 rw [e'] at hu
 injection hu with hu
 exact hu ▸ hv
def atom : Value → Bool
 | .bool _ | .int .. | .float .. | .complex .. | .string _ | .pointer none | .slice none 0 0 | .map none | .nilFunc | .nilIface => true
 | .func _ ⟨[]⟩ ⟨[]⟩ => true
 | _ => false
def ground : Value → Bool
 | .agg ⟨xs⟩ => xs.all atom
 | .tuple ⟨x :: xs⟩ => (x :: xs).all atom
 | .iface _ v => atom v
 | v => atom v
theorem VR.of_atom {σ : Sig} {v : Value} (h : atom v = true) : VR σ v v := by
 unfold atom at h
 split at h <;> first | exact .bool _ | exact .int _ _ | exact .float _ _ | exact .complex _ _ _ | exact .string _ | exact .nilPtr | exact .nilSlice | exact .nilMap | exact .nilFunc | exact .nilIface | exact .func _ _ _ _ _ .nil .nil | cases h
theorem VR.eq_atom {σ : Sig} {v v' : Value} (h : atom v = true) (r : VR σ v v') : v' = v := by
 cases r <;> first | rfl | (simp [atom] at h; done) | skip
 case func fn xs ys xs' ys' hx hy =>
  cases hx <;> cases hy <;> first | rfl | (simp [atom] at h; done)
theorem VRs.of_atoms {σ : Sig} : ∀ {xs : List Value}, xs.all atom = true → VRs σ xs xs
 | [], _ => .nil
 | x :: xs, h => by
  simp only [List.all_cons, Bool.and_eq_true] at h
  exact .cons _ _ _ _ (VR.of_atom h.1) (VRs.of_atoms h.2)
theorem VRs.eq_atoms {σ : Sig} : ∀ {xs ys : List Value}, xs.all atom = true → VRs σ xs ys → ys = xs
 | _, _, _, .nil => rfl
 | _, _, h, .cons _ _ _ _ r rs => by
  simp only [List.all_cons, Bool.and_eq_true] at h
  rw [VR.eq_atom h.1 r, VRs.eq_atoms h.2 rs]
theorem VR.of_ground {σ : Sig} {v : Value} (h : ground v = true) : VR σ v v := by
 unfold ground at h
 split at h
 ·exact .agg _ _ (VRs.of_atoms h)
 ·exact .tuple _ _ (VRs.of_atoms h)
 ·exact .iface _ _ _ (VR.of_atom h)
 ·exact VR.of_atom h
theorem VR.eq_ground {σ : Sig} {v v' : Value} (h : ground v = true) (r : VR σ v v') : v' = v := by
 unfold ground at h
 split at h
 ·cases r with | agg _ _ hs => rw [VRs.eq_atoms h hs]
 ·cases r with | tuple _ _ hs => rw [VRs.eq_atoms h hs]
 ·cases r with | iface _ _ _ hs => rw [VR.eq_atom h hs]
 ·exact VR.eq_atom h r
inductive St where
 | ro | tip | ret | map | dead
 deriving DecidableEq
def St.mem : St → Bool | .ro | .tip | .ret => true | _ => false
def St.row : St → Bool | .tip | .ret => true | _ => false
def St.own : St → Bool | .tip | .ret | .map => true | _ => false
def St.act : St → Bool | .tip | .map => true | _ => false
structure ABlk where
 cells : List Value
 elem : TypeId
 st : St
 ver : Nat
 anc : List Nat
inductive Tr where
 | e
 | n (v : Option ABlk) (l r : Tr)
noncomputable def Tr.get (t : Tr) (i : Nat) : Option ABlk :=
 Tr.rec (motive := fun _ => Nat → Option ABlk) (fun _ => none) (fun v _ _ gl gr i => cond (Nat.beq i 0) v (cond (Nat.beq (i % 2) 1) (gl (i / 2)) (gr (i / 2 - 1)))) t i
noncomputable def Tr.put (f : Nat) (t : Tr) (i : Nat) (b : ABlk) : Tr :=
 Nat.rec (motive := fun _ => Tr → Nat → Tr)
  (fun t _ => Tr.casesOn t (.n (some b) .e .e) (fun _ l r => .n (some b) l r))
  (fun _ ih t i => Tr.casesOn t
   (cond (Nat.beq i 0) (.n (some b) .e .e) (cond (Nat.beq (i % 2) 1) (.n none (ih .e (i / 2)) .e) (.n none .e (ih .e (i / 2 - 1)))))
   (fun v l r => cond (Nat.beq i 0) (.n (some b) l r) (cond (Nat.beq (i % 2) 1) (.n v (ih l (i / 2)) r) (.n v l (ih r (i / 2 - 1)))))) f t i
theorem cond_beq {α : Type} (i j : Nat) (a b : α) : cond (Nat.beq i j) a b = if i = j then a else b := by
 by_cases h : i = j
 ·subst h; simp
 ·have : Nat.beq i j = false := by
   cases hb : Nat.beq i j with
   | false => rfl
   | true => exact absurd (Nat.eq_of_beq_eq_true hb) h
  rw [this, if_neg h]; rfl
theorem Tr.get_n (v : Option ABlk) (l r : Tr) (i : Nat) : (Tr.n v l r).get i = if i = 0 then v else if i % 2 = 1 then l.get (i / 2) else r.get (i / 2 - 1) := by
 show cond (Nat.beq i 0) v (cond (Nat.beq (i % 2) 1) (l.get (i / 2)) (r.get (i / 2 - 1))) = _
 rw [cond_beq, cond_beq]
theorem Tr.put_ze (i : Nat) (b : ABlk) : Tr.put 0 .e i b = .n (some b) .e .e := rfl
theorem Tr.put_zn (v : Option ABlk) (l r : Tr) (i : Nat) (b : ABlk) : Tr.put 0 (.n v l r) i b = .n (some b) l r := rfl
theorem Tr.put_se (f i : Nat) (b : ABlk) : Tr.put (f + 1) .e i b = if i = 0 then .n (some b) .e .e else if i % 2 = 1 then .n none (Tr.put f .e (i / 2) b) .e else .n none .e (Tr.put f .e (i / 2 - 1) b) := by
 show cond (Nat.beq i 0) (Tr.n (some b) .e .e) (cond (Nat.beq (i % 2) 1) (.n none (Tr.put f .e (i / 2) b) .e) (.n none .e (Tr.put f .e (i / 2 - 1) b))) = _
 rw [cond_beq, cond_beq]
theorem Tr.put_sn (f : Nat) (v : Option ABlk) (l r : Tr) (i : Nat) (b : ABlk) : Tr.put (f + 1) (.n v l r) i b = if i = 0 then .n (some b) l r else if i % 2 = 1 then .n v (Tr.put f l (i / 2) b) r else .n v l (Tr.put f r (i / 2 - 1) b) := by
 show cond (Nat.beq i 0) (Tr.n (some b) l r) (cond (Nat.beq (i % 2) 1) (.n v (Tr.put f l (i / 2) b) r) (.n v l (Tr.put f r (i / 2 - 1) b))) = _
 rw [cond_beq, cond_beq]
theorem Tr.get_e (i : Nat) : Tr.e.get i = none := rfl
theorem Tr.get_set : ∀ (f : Nat) (t : Tr) (i j : Nat) (b : ABlk), i ≤ f → (Tr.put f t i b).get j = if j = i then some b else t.get j := by
 intro f
 induction f with
 | zero =>
  intro t i j b h
  obtain rfl : i = 0 := by omega
  cases t with
  | e => simp only [Tr.put_ze, Tr.put_zn, Tr.put_se, Tr.put_sn, Tr.get_n, Tr.get_e]; by_cases hj : j = 0 <;> simp [hj]
  | n v l r => simp only [Tr.put_ze, Tr.put_zn, Tr.put_se, Tr.put_sn, Tr.get_n]; by_cases hj : j = 0 <;> simp [hj]
 | succ f ih =>
  intro t i j b h
  cases t with
  | e =>
   simp only [Tr.put_se, Tr.get_e]
   by_cases hi : i = 0
   ·subst hi
    simp only [↓reduceIte, Tr.get_n, Tr.get_e]
    by_cases hj : j = 0 <;> simp [hj]
   ·rw [if_neg hi]
    by_cases ho : i % 2 = 1
    ·rw [if_pos ho]
     simp only [Tr.get_n, Tr.get_e]
     by_cases hj : j = 0
     ·rw [if_pos hj, if_neg (by omega)]
     ·rw [if_neg hj]
      by_cases hjo : j % 2 = 1
      ·rw [if_pos hjo, ih _ _ _ _ (by omega), Tr.get_e]
       by_cases hij : j = i
       ·rw [if_pos (by omega), if_pos hij]
       ·rw [if_neg (by omega), if_neg hij]
      ·rw [if_neg hjo, if_neg (by omega)]
    ·rw [if_neg ho]
     simp only [Tr.get_n, Tr.get_e]
     by_cases hj : j = 0
     ·rw [if_pos hj, if_neg (by omega)]
     ·rw [if_neg hj]
      by_cases hjo : j % 2 = 1
      ·rw [if_pos hjo, if_neg (by omega)]
      ·rw [if_neg hjo, ih _ _ _ _ (by omega), Tr.get_e]
       by_cases hij : j = i
       ·rw [if_pos (by omega), if_pos hij]
       ·rw [if_neg (by omega), if_neg hij]
  | n v l r =>
   simp only [Tr.put_sn]
   by_cases hi : i = 0
   ·subst hi
    simp only [↓reduceIte, Tr.get_n]
    by_cases hj : j = 0 <;> simp [hj]
   ·rw [if_neg hi]
    by_cases ho : i % 2 = 1
    ·rw [if_pos ho]
     simp only [Tr.get_n]
     by_cases hj : j = 0
     ·rw [if_pos hj, if_neg (by omega), if_pos hj]
     ·rw [if_neg hj, if_neg hj]
      by_cases hjo : j % 2 = 1
      ·rw [if_pos hjo, if_pos hjo, ih _ _ _ _ (by omega)]
       by_cases hij : j = i
       ·rw [if_pos (by omega), if_pos hij]
       ·rw [if_neg (by omega), if_neg hij]
      ·rw [if_neg hjo, if_neg hjo, if_neg (by omega)]
    ·rw [if_neg ho]
     simp only [Tr.get_n]
     by_cases hj : j = 0
     ·rw [if_pos hj, if_neg (by omega), if_pos hj]
     ·rw [if_neg hj, if_neg hj]
      by_cases hjo : j % 2 = 1
      ·rw [if_pos hjo, if_pos hjo, if_neg (by omega)]
      ·rw [if_neg hjo, if_neg hjo, ih _ _ _ _ (by omega)]
       by_cases hij : j = i
       ·rw [if_pos (by omega), if_pos hij]
       ·rw [if_neg (by omega), if_neg hij]
structure AHeap where
 n : Nat
 t : Tr
def AHeap.empty : AHeap := ⟨0, .e⟩
noncomputable def AHeap.get (H : AHeap) (i : Nat) : Option ABlk := cond (Nat.blt i H.n) (H.t.get i) none
theorem AHeap.get_eq (H : AHeap) (i : Nat) : H.get i = if i < H.n then H.t.get i else none := by
 unfold AHeap.get
 by_cases h : i < H.n
 ·have : Nat.blt i H.n = true := by simp [Nat.blt_eq, h]
  rw [this, if_pos h]; rfl
 ·have : Nat.blt i H.n = false := by
   cases hb : Nat.blt i H.n with
   | false => rfl
   | true => exact absurd (by simpa [Nat.blt_eq] using hb) h
  rw [this, if_neg h]; rfl
noncomputable def forceL {α : Type} (l : List Value) (k : List Value → α) : α := List.rec (motive := fun _ => (List Value → α) → α) (fun k => k []) (fun x _ ih k => ih fun r => k (x :: r)) l k
theorem forceL_eq {α : Type} (l : List Value) (k : List Value → α) : forceL l k = k l := by
 induction l generalizing k with
 | nil => rfl
 | cons x r ih => exact ih fun r => k (x :: r)
noncomputable def AHeap.push (H : AHeap) (b : ABlk) : AHeap := forceL b.cells fun cs => ⟨H.n + 1, Tr.put H.n H.t H.n ⟨cs, b.elem, b.st, b.ver, b.anc⟩⟩
noncomputable def AHeap.upd (H : AHeap) (i : Nat) (b : ABlk) : AHeap := forceL b.cells fun cs => ⟨H.n, Tr.put i H.t i ⟨cs, b.elem, b.st, b.ver, b.anc⟩⟩
theorem AHeap.push_eq (H : AHeap) (b : ABlk) : H.push b = ⟨H.n + 1, Tr.put H.n H.t H.n b⟩ := forceL_eq _ _
theorem AHeap.upd_eq (H : AHeap) (i : Nat) (b : ABlk) : H.upd i b = ⟨H.n, Tr.put i H.t i b⟩ := forceL_eq _ _
theorem AHeap.lt_of_get {H : AHeap} {i : Nat} {b : ABlk} (h : H.get i = some b) : i < H.n := by
 rw [AHeap.get_eq] at h
 split at h
 ·assumption
 ·cases h
theorem AHeap.get_push (H : AHeap) (b : ABlk) (i : Nat) : (H.push b).get i = if i = H.n then some b else H.get i := by
 rw [AHeap.push_eq]
 rw [AHeap.get_eq, AHeap.get_eq]
 simp only [Tr.get_set _ _ _ _ _ (Nat.le_refl _)]
 by_cases h : i = H.n
 ·simp [h]
 ·by_cases h2 : i < H.n
  ·rw [if_pos (by omega), if_neg h, if_neg h, if_pos h2]
  ·rw [if_neg (by omega), if_neg h, if_neg h2]
theorem AHeap.get_upd {H : AHeap} {i : Nat} {b0 : ABlk} (hi : H.get i = some b0) (b : ABlk) (j : Nat) : (H.upd i b).get j = if j = i then some b else H.get j := by
 have hlt := AHeap.lt_of_get hi
 rw [AHeap.upd_eq]
 rw [AHeap.get_eq, AHeap.get_eq]
 simp only [Tr.get_set _ _ _ _ _ (Nat.le_refl _)]
 by_cases h : j = i
 ·subst h
  simp [hlt]
 ·simp [h]
@[simp] theorem AHeap.n_push (H : AHeap) (b : ABlk) : (H.push b).n = H.n + 1 := by rw [AHeap.push_eq]
@[simp] theorem AHeap.n_upd (H : AHeap) (i : Nat) (b : ABlk) : (H.upd i b).n = H.n := by rw [AHeap.upd_eq]
noncomputable def kill1 (H : AHeap) (i : Nat) : AHeap :=
 match H.get i with
 | some b => H.upd i { b with st := .dead, ver := b.ver + 1 }
 | none => H
noncomputable def killAll (H : AHeap) : List Nat → AHeap
 | [] => H
 | i :: r => killAll (kill1 H i) r
theorem kill1_n (H : AHeap) (i : Nat) : (kill1 H i).n = H.n := by unfold kill1; split <;> simp
theorem killAll_n : ∀ (l : List Nat) (H : AHeap), (killAll H l).n = H.n
 | [], _ => rfl
 | i :: r, H => by simp only [killAll]; rw [killAll_n r, kill1_n]
theorem kill1_get (H : AHeap) (i j : Nat) : (kill1 H i).get j = if j = i then (H.get i).map (fun b => { b with st := .dead, ver := b.ver + 1 }) else H.get j := by
 unfold kill1
 split
 ·rename_i b hb
  rw [AHeap.get_upd hb, hb]
  rfl
 ·rename_i hb
  by_cases h : j = i
  ·subst h
   simp [hb]
  ·rw [if_neg h]
theorem killAll_get_not : ∀ (l : List Nat) (H : AHeap) (j : Nat), j ∉ l → (killAll H l).get j = H.get j
 | [], _, _, _ => rfl
 | i :: r, H, j, h => by
  simp only [List.mem_cons, not_or] at h
  simp only [killAll]
  rw [killAll_get_not r _ _ h.2, kill1_get, if_neg h.1]
theorem killAll_get_mem : ∀ (l : List Nat) (H : AHeap) (j : Nat) (b : ABlk), j ∈ l → (killAll H l).get j = some b → b.st = .dead ∧ ∃ b0, H.get j = some b0 ∧ b0.ver < b.ver
 | i :: r, H, j, b, hm, hg => by
  simp only [killAll] at hg
  by_cases hr : j ∈ r
  ·obtain ⟨h1, b0, h2, h3⟩ := killAll_get_mem r _ j b hr hg
   refine ⟨h1, ?_⟩
   rw [kill1_get] at h2
   split at h2
   ·rename_i e
    subst e
    cases hh : H.get j with
    | none => rw [hh] at h2; cases h2
    | some b1 =>
     rw [hh] at h2
     simp only [Option.map_some, Option.some.injEq] at h2
     subst h2
     exact ⟨b1, rfl, by simp at h3; omega⟩
   ·exact ⟨b0, h2, h3⟩
  ·rw [killAll_get_not r _ _ hr, kill1_get] at hg
   obtain rfl : j = i := by
    rcases List.mem_cons.1 hm with h | h
    ·exact h
    ·exact absurd h hr
   rw [if_pos rfl] at hg
   cases hh : H.get j with
   | none => rw [hh] at hg; cases hg
   | some b1 =>
    rw [hh] at hg
    simp only [Option.map_some, Option.some.injEq] at hg
    subst hg
    exact ⟨rfl, b1, rfl, by simp⟩
theorem killAll_get_ex : ∀ (l : List Nat) (H : AHeap) (j : Nat) (b : ABlk), H.get j = some b → ∃ b', (killAll H l).get j = some b' ∧ b.ver ≤ b'.ver ∧ (b'.ver = b.ver → b' = b)
 | [], _, _, b, h => ⟨b, h, Nat.le_refl _, fun _ => rfl⟩
 | i :: r, H, j, b, h => by
  simp only [killAll]
  by_cases e : j = i
  ·subst e
   have h1 : (kill1 H j).get j = some { b with st := .dead, ver := b.ver + 1 } := by rw [kill1_get, if_pos rfl, h]; rfl
   obtain ⟨b', h2, h3, _⟩ := killAll_get_ex r _ _ _ h1
   exact ⟨b', h2, by simp at h3; omega, fun hv => by simp at h3; omega⟩
  ·have h1 : (kill1 H i).get j = some b := by rw [kill1_get, if_neg e, h]
   exact killAll_get_ex r _ _ _ h1
structure HR (P : Program) (σ : Sig) (base : Nat) (H : AHeap) (w : World) : Prop where
 elem : ∀ {i blk l}, H.get i = some blk → σ i = some l → (P.info? blk.elem).map (·.size) = some l.sz
 out : ∀ i, H.n ≤ i → σ i = none
 lt : ∀ {i blk l}, H.get i = some blk → blk.st ≠ .dead → σ i = some l → l.b < w.heap.size
 cells : ∀ {i blk l}, H.get i = some blk → blk.st.mem = true → σ i = some l → ∀ {k v}, blk.cells[k]? = some v → ∃ v', w.cell? ⟨l.b, l.f + k, none⟩ = some v' ∧ VR σ v v'
 ro : ∀ {i blk l}, H.get i = some blk → blk.st = .ro → σ i = some l → l.b < base
 own : ∀ {i blk l}, H.get i = some blk → blk.st.own = true → σ i = some l → base ≤ l.b
 row : ∀ {i blk l}, H.get i = some blk → blk.st.row = true → σ i = some l → ∃ cur e z, w.heap[l.b]? = some (.cells cur e z) ∧ cur.size = l.tot ∧ (blk.st = .tip → z = (0, 0))
 fits : ∀ {i blk l}, H.get i = some blk → blk.st.row = true → σ i = some l → l.f + blk.cells.length ≤ l.tot
 map : ∀ {i blk l}, H.get i = some blk → blk.st = .map → σ i = some l → ∃ es clock, w.heap[l.b]? = some (.map es clock) ∧ VRs σ blk.cells (es.toList.flatMap fun e => [e.key, e.val])
 sep : ∀ {i j bi bj li lj}, i ≠ j → H.get i = some bi → H.get j = some bj → bi.st.own = true → bj.st.own = true → σ i = some li → σ j = some lj → li.b = lj.b → i ∈ bj.anc ∨ j ∈ bi.anc
 anc : ∀ {i j bi bj}, H.get i = some bi → H.get j = some bj → bi.st.own = true → bj.st.own = true → i ∈ bj.anc → bi.st = .ret
 ends : ∀ {i j bi bj li lj}, H.get i = some bi → H.get j = some bj → bi.st.own = true → bj.st.own = true → i ∈ bj.anc → σ i = some li → σ j = some lj → li.b = lj.b → li.f + bi.cells.length ≤ lj.f + bj.cells.length
 ancJ : ∀ {j bj}, H.get j = some bj → ∀ i ∈ bj.anc, i < j
theorem HR.ancLt {P : Program} {σ : Sig} {base : Nat} {H : AHeap} {w : World} (h : HR P σ base H w) {j : Nat} {bj : ABlk} (hj : H.get j = some bj) (i : Nat) (hi : i ∈ bj.anc) : i < H.n :=
 Nat.lt_trans (h.ancJ hj i hi) (AHeap.lt_of_get hj)
def VerLe (H H' : AHeap) : Prop := H.n ≤ H'.n ∧ ∀ i b, H.get i = some b → ∃ b', H'.get i = some b' ∧ b.ver ≤ b'.ver ∧ b'.elem = b.elem ∧ (b'.ver = b.ver → b'.cells = b.cells ∧ (b.st.mem = true → b'.st.mem = true) ∧ (b.st = .map → b'.st = .map))
theorem VerLe.refl (H : AHeap) : VerLe H H := ⟨Nat.le_refl _, fun _ b h => ⟨b, h, Nat.le_refl _, rfl, fun _ => ⟨rfl, id, id⟩⟩⟩
theorem VerLe.trans {a b c : AHeap} (h : VerLe a b) (k : VerLe b c) : VerLe a c := ⟨Nat.le_trans h.1 k.1, fun i x hx => by
 obtain ⟨y, hy, h1, he, h2⟩ := h.2 i x hx
 obtain ⟨z, hz, h3, he', h4⟩ := k.2 i y hy
 refine ⟨z, hz, by omega, he'.trans he, fun e => ?_⟩
 obtain ⟨p1, p2, p3⟩ := h2 (by omega)
 obtain ⟨q1, q2, q3⟩ := h4 (by omega)
 exact ⟨q1.trans p1, fun h => q2 (p2 h), fun h => q3 (p3 h)⟩⟩
structure Fr (σ σ' : Sig) (H H' : AHeap) (w w' : World) : Prop where
 sub : Sub σ σ'
 old : ∀ i, i < H.n → σ' i = σ i
 mono : H.n ≤ H'.n
 os : w'.os = w.os
 tape : w'.tape = w.tape
 output : w'.output = w.output
 size : w.heap.size ≤ w'.heap.size
 keep : ∀ k, k < w.heap.size → (∀ i blk l, H.get i = some blk → blk.st.act = true → σ i = some l → l.b ≠ k) → w'.heap[k]? = w.heap[k]?
 tips : ∀ j blk l, H'.get j = some blk → blk.st.act = true → σ' j = some l → w.heap.size ≤ l.b ∨ ∃ i bi li, H.get i = some bi ∧ bi.st.act = true ∧ σ i = some li ∧ li.b = l.b
 ver : ∀ i b, H.get i = some b → ∃ b', H'.get i = some b' ∧ b.ver ≤ b'.ver ∧ b'.elem = b.elem ∧ (b'.ver = b.ver → b'.cells = b.cells ∧ (b.st.mem = true → b'.st.mem = true) ∧ (b.st = .map → b'.st = .map))
theorem Fr.refl (σ : Sig) (H : AHeap) (w : World) : Fr σ σ H H w w :=
 ⟨Sub.refl _, fun _ _ => rfl, Nat.le_refl _, rfl, rfl, rfl, Nat.le_refl _, fun _ _ _ => rfl, fun j blk l h1 h2 h3 => .inr ⟨j, blk, l, h1, h2, h3, rfl⟩, fun _ b h => ⟨b, h, Nat.le_refl _, rfl, fun _ => ⟨rfl, id, id⟩⟩⟩
theorem Fr.trans {σ0 σ1 σ2 : Sig} {H0 H1 H2 : AHeap} {w0 w1 w2 : World} (a : Fr σ0 σ1 H0 H1 w0 w1) (b : Fr σ1 σ2 H1 H2 w1 w2) : Fr σ0 σ2 H0 H2 w0 w2 where
 sub := a.sub.trans b.sub
 old i h := (b.old i (Nat.lt_of_lt_of_le h a.mono)).trans (a.old i h)
 mono := Nat.le_trans a.mono b.mono
 os := b.os.trans a.os
 tape := b.tape.trans a.tape
 output := b.output.trans a.output
 size := Nat.le_trans a.size b.size
 keep k hk h := by
  rw [b.keep k (Nat.lt_of_lt_of_le hk a.size) ?_, a.keep k hk h]
  intro j blk l h1 h2 h3 he
  rcases a.tips j blk l h1 h2 h3 with h4 | ⟨i, bi, li, h4, h5, h6, h7⟩
  ·omega
  ·exact h i bi li h4 h5 h6 (h7.trans he)
 tips j blk l h1 h2 h3 := by
  rcases b.tips j blk l h1 h2 h3 with h4 | ⟨i, bi, li, h4, h5, h6, h7⟩
  ·exact .inl (Nat.le_trans a.size h4)
  ·rcases a.tips i bi li h4 h5 h6 with h8 | ⟨i', bi', li', h8, h9, h10, h11⟩
   ·exact .inl (by omega)
   ·exact .inr ⟨i', bi', li', h8, h9, h10, h11.trans h7⟩
 ver i x hx := by
  obtain ⟨y, hy, h1, he, h2⟩ := a.ver i x hx
  obtain ⟨z, hz, h3, he', h4⟩ := b.ver i y hy
  refine ⟨z, hz, by omega, he'.trans he, fun e => ?_⟩
  obtain ⟨p1, p2, p3⟩ := h2 (by omega)
  obtain ⟨q1, q2, q3⟩ := h4 (by omega)
  exact ⟨q1.trans p1, fun h => q2 (p2 h), fun h => q3 (p3 h)⟩
abbrev Env := List (Nat × Value)
def poison : Value := .chan (some 0)
noncomputable section
def eget (e : Env) (t : Nat) : Value := List.rec (motive := fun _ => Value) poison (fun p _ ih => cond (Nat.beq p.1 t) p.2 ih) e
theorem eget_nil (t : Nat) : eget [] t = poison := rfl
theorem eget_cons (k : Nat) (v : Value) (e : Env) (t : Nat) : eget ((k, v) :: e) t = if k = t then v else eget e t := by
 show cond (Nat.beq k t) v (eget e t) = _
 by_cases h : k = t
 ·subst h; simp
 ·have : Nat.beq k t = false := by
   cases hb : Nat.beq k t with
   | false => rfl
   | true => exact absurd (Nat.eq_of_beq_eq_true hb) h
  rw [this, if_neg h]; rfl
def eput (e : Env) (d : Option Nat) (v : Value) : Env :=
 match d with
 | some d => (d, v) :: e
 | none => e
def ev (e : Env) : Operand → Value
 | .tmp t => eget e t
 | .const v => if ground v then v else poison
 | .global _ => poison
 | .func f => .func (.func f) ⟨[]⟩ ⟨[]⟩
inductive MapOp where
 | make (t : TypeId)
 | get (x i : Operand) (zero : Value) (ok : Bool)
 | set (m k v : Operand)
 | inv (r : Operand) (name : String) (args : List Operand)
 | b2s (x : Operand)
 | fix (x : Operand)
inductive AOp where
 | mv (x : Operand)
 | pick (c a b : Operand)
 | ext (t : Operand) (ix : Nat)
 | field (x : Operand) (agg : Bool) (off len : Nat)
 | index (x i : Operand) (cnt : Nat) (agg : Bool) (sz : Nat)
 | build (zero : List Value) (parts : List (Nat × Nat × Operand))
 | int (op : BinOp) (x y : Operand)
 | beq (neq : Bool) (x y : Operand)
 | isNil (kd : Nat) (neq : Bool) (x : Operand)
 | not (x : Operand)
 | conv (k : IntKind) (x : Operand)
 | gen (o : Oper)
 | faddr (x : Operand) (off : Nat)
 | iaddr (x i : Operand) (sz : Nat)
 | aaddr (x i : Operand) (cnt sz : Nat)
 | nilChk (x : Operand)
 | mkfun (fn : Fn) (first captured : List Operand)
 | mkface (t : TypeId) (x : Operand)
 | len (str : Bool) (x : Operand)
 | max2 (x y : Operand)
 | min2 (x y : Operand)
 | load (x : Operand) (k : Option Nat)
 | slice (x : Operand) (lo hi : Option Operand) (sz : Nat)
 | slice0 (x : Operand)
 | alloc (cells : List Value) (elem : TypeId)
 | box (x : Operand) (elem : TypeId)
 | bslice (elem : TypeId) (n sz : Nat) (zero : List Value) (parts : List (Nat × Nat × Operand))
 | store (x v : Operand) (n : Nat)
 | append (s x : Operand) (elem : TypeId) (sz bytes : Nat)
 | call (f : Operand) (args : List Operand)
 | mop (m : MapOp)
def AOp.loud : AOp → Bool
 | .store .. | .append .. | .call .. | .mop _ => true
 | _ => false
def MapOp.ops : MapOp → List Operand
 | .make _ => []
 | .get x i _ _ => [x, i]
 | .set m k v => [m, k, v]
 | .inv r _ args => r :: args
 | .b2s x => [x]
 | .fix x => [x]
def AOp.ops : AOp → List Operand
 | .mv x | .not x | .conv _ x | .faddr x _ | .nilChk x | .mkface _ x | .len _ x | .load x _ | .slice0 x | .box x _ | .isNil _ _ x | .field x _ _ _ | .ext x _ => [x]
 | .pick c a b => [c, a, b]
 | .index x i _ _ _ | .iaddr x i _ | .aaddr x i _ _ => [x, i]
 | .build _ ps | .bslice _ _ _ _ ps => ps.map (·.2.2)
 | .int _ x y | .beq _ x y | .max2 x y | .min2 x y => [x, y]
 | .gen o => o.op.operands.toList
 | .mkfun _ a b => a ++ b
 | .slice x lo hi _ => x :: (lo.toList ++ hi.toList)
 | .alloc _ _ => []
 | .store x v _ => [x, v]
 | .append s x _ _ _ => [s, x]
 | .call f args => f :: args
 | .mop m => m.ops
structure ARow where
 dst : Option Nat
 op : AOp
 guard : Option (Nat × Bool) := none
def slotsR (r : ARow) : List Nat := (r.op.ops.filterMap fun | .tmp t => some t | _ => none) ++ (match r.guard with | some (t, _) => [t] | none => [])
def lay (cells : List Value) : List (Nat × Value) → List Value
 | [] => cells
 | (off, v) :: r => lay (cells.take off ++ v.cells.toList ++ cells.drop (off + v.cells.toList.length)) r
def okParts (n : Nat) : List (Nat × Nat × Value) → Bool
 | [] => true
 | (off, sz, v) :: r => (match v with | .tuple _ => false | .chan _ => false | _ => true) && v.cells.toList.length == sz && decide (off + sz ≤ n) && okParts n r
def evParts (e : Env) (ps : List (Nat × Nat × Operand)) : List (Nat × Nat × Value) := ps.map fun p => (p.1, p.2.1, ev e p.2.2)
def dropSz (ps : List (Nat × Nat × Value)) : List (Nat × Value) := ps.map fun p => (p.1, p.2.2)
def one : Value → Bool
 | .agg _ | .tuple _ | .chan _ => false
 | _ => true
def solid : Value → Bool
 | .tuple _ | .chan _ => false
 | _ => true
def intOp (op : BinOp) (k : IntKind) (a b : Int) : Option Value :=
 match op with
 | .add => some (.int k (k.wrap (a + b)))
 | .sub => some (.int k (k.wrap (a - b)))
 | .mul => some (.int k (k.wrap (a * b)))
 | .quo => if b = 0 then none else some (.int k (k.wrap (a.tdiv b)))
 | .rem => if b = 0 then none else some (.int k (a.tmod b))
 | .eql => some (.bool (a == b))
 | .neq => some (.bool (a != b))
 | .lss => some (.bool (decide (a < b)))
 | .leq => some (.bool (decide (a ≤ b)))
 | .gtr => some (.bool (decide (a > b)))
 | .geq => some (.bool (decide (a ≥ b)))
 | _ => none
def isNilV : Nat → Value → Option Bool
 | 0, .pointer none => some true
 | 0, .pointer (some ⟨_, _, none⟩) => some false
 | 1, .slice none 0 0 => some true
 | 1, .slice (some ⟨_, _, none⟩) _ _ => some false
 | 1, .slice (some ⟨_, _, some _⟩) 0 0 => some false
 | 2, .map none => some true
 | 2, .map (some _) => some false
 | 3, .nilIface => some true
 | 3, .iface _ _ => some false
 | _, _ => none
def pureRun {α : Type} (P : Program) : Sem α → Option α
 | .pure a => some a
 | .program k => pureRun P (k P)
 | .mark _ k => pureRun P k
 | _ => none
def bndA (e : Env) (d : Int) : Option Operand → Option Int
 | none => some d
 | some h => match ev e h with
  | .int _ j => some j
  | _ => none
section
variable (P : Program)
def pureA (e : Env) : AOp → Option Value
 | .mv x => some (ev e x)
 | .pick c a b => match ev e c with
  | .bool t => some (if t then ev e a else ev e b)
  | _ => none
 | .ext t ix => match ev e t with
  | .tuple vs => vs.toList[ix]?
  | _ => none
 | .field x agg off len => match ev e x with
  | .agg cs => if agg then (if off + len ≤ cs.toList.length then some (.agg ⟨(cs.toList.drop off).take len⟩) else none) else cs.toList[off]?
  | _ => none
 | .index x i cnt agg sz => match ev e x, ev e i with
  | .agg cs, .int _ n => if 0 ≤ n ∧ n < cnt then (if agg then (if n.toNat * sz + sz ≤ cs.toList.length then some (.agg ⟨(cs.toList.drop (n.toNat * sz)).take sz⟩) else none) else cs.toList[n.toNat * sz]?) else none
  | _, _ => none
 | .build zero parts => if okParts zero.length (evParts e parts) then some (.agg ⟨lay zero (dropSz (evParts e parts))⟩) else none
 | .int op x y => match ev e x, ev e y with
  | .int k a, .int k' b => if k = k' then intOp op k a b else none
  | _, _ => none
 | .beq neq x y => match ev e x, ev e y with
  | .bool a, .bool b => some (.bool (if neq then !(a == b) else a == b))
  | _, _ => none
 | .isNil kd neq x => (isNilV kd (ev e x)).map fun b => .bool (if neq then !b else b)
 | .not x => match ev e x with
  | .bool b => some (.bool !b)
  | _ => none
 | .conv k x => match ev e x with
  | .int _ n => some (.int k (k.wrap n))
  | _ => none
 | .gen o => if o.op.operands.toList.all fun x => ground (ev e x) then
   match pureRun P (execOp (ev e) o) with
   | some (.value v) => if ground v then some v else none
   | _ => none
  else none
 | .faddr x off => match ev e x with
  | .pointer (some ⟨i, o, none⟩) => some (.pointer (some ⟨i, o + off, none⟩))
  | _ => none
 | .iaddr x i sz => match ev e x, ev e i with
  | .slice (some ⟨b, o, none⟩) n _, .int _ j => if 0 ≤ j ∧ j < n then some (.pointer (some ⟨b, o + j.toNat * sz, none⟩)) else none
  | _, _ => none
 | .aaddr x i cnt sz => match ev e x, ev e i with
  | .pointer (some ⟨b, o, none⟩), .int _ j => if 0 ≤ j ∧ j < cnt then some (.pointer (some ⟨b, o + j.toNat * sz, none⟩)) else none
  | _, _ => none
 | .nilChk x => match ev e x with
  | .pointer (some ⟨i, o, none⟩) => some (.pointer (some ⟨i, o, none⟩))
  | _ => none
 | .mkfun fn first captured => some (.func fn ⟨first.map (ev e)⟩ ⟨captured.map (ev e)⟩)
 | .mkface t x => some (.iface t (ev e x))
 | .len str x => match str, ev e x with
  | false, .slice _ n _ => some (.int .i64 n)
  | true, .string s => some (.int .i64 s.size)
  | _, _ => none
 | .max2 x y => match ev e x, ev e y with
  | .int k a, .int _ b => some (.int k (if b > a then b else a))
  | _, _ => none
 | .min2 x y => match ev e x, ev e y with
  | .int k a, .int _ b => some (.int k (if b < a then b else a))
  | _, _ => none
 | _ => none
def readA (e : Env) (H : AHeap) : AOp → Option Value
 | .load x k => match ev e x with
  | .pointer (some ⟨i, o, none⟩) => match H.get i with
   | some blk => if blk.st.mem then (match k with
    | some n => if o + n ≤ blk.cells.length then some (.agg ⟨(blk.cells.drop o).take n⟩) else none
    | none => blk.cells[o]?) else none
   | none => none
  | _ => none
 | .slice x lo hi sz => match ev e x with
  | .slice (some ⟨i, o, none⟩) n c =>
   match bndA e n hi, bndA e 0 lo, (H.get i).map (fun b => (P.info? b.elem).map (·.size)) with
   | some h, some l, some (some s) => if 0 ≤ l ∧ l ≤ h ∧ h ≤ n ∧ s = sz then some (.slice (some ⟨i, o + l.toNat * sz, none⟩) (h.toNat - l.toNat) (if c = 0 then 0 else max (h.toNat - l.toNat) (c - 1 - l.toNat) + 1)) else none
   | _, _, _ => none
  | .slice none 0 0 =>
   match bndA e 0 hi, bndA e 0 lo with
   | some h, some l => if l = 0 ∧ h = 0 then some (.slice none 0 0) else none
   | _, _ => none
  | .slice (some ⟨i, o, some k⟩) 0 0 =>
   match bndA e 0 hi, bndA e 0 lo with
   | some h, some l => if l = 0 ∧ h = 0 then some (.slice (some ⟨i, o, some k⟩) 0 0) else none
   | _, _ => none
  | _ => none
 | .slice0 x => match ev e x with
  | .slice (some ⟨i, o, none⟩) _ _ => some (.slice (some ⟨i, o, none⟩) 0 0)
  | .slice none 0 0 => some (.slice none 0 0)
  | .slice (some ⟨i, o, some k⟩) 0 0 => some (.slice (some ⟨i, o, some k⟩) 0 0)
  | _ => none
 | _ => none
def newA (e : Env) (i : Nat) : AOp → Option (ABlk × Value)
 | .alloc cells elem => some (⟨cells, elem, .tip, 0, []⟩, .pointer (some ⟨i, 0, none⟩))
 | .box x elem => if solid (ev e x) then some (⟨(ev e x).cells.toList, elem, .tip, 0, []⟩, .pointer (some ⟨i, 0, none⟩)) else none
 | .bslice elem n sz zero parts => if okParts (n * sz) (evParts e parts) then
   some (⟨lay ((List.replicate n zero).flatten) (dropSz (evParts e parts)), elem, .tip, 0, []⟩, .slice (some ⟨i, 0, none⟩) n (n + 1)) else none
 | _ => none
def storeA (H : AHeap) (p v : Value) (n : Nat) : Option AHeap :=
 match p with
 | .pointer (some ⟨i, o, none⟩) => match H.get i with
  | some blk => if blk.st = .tip ∧ v.cells.toList.length = n ∧ v.cells.toList.all one = true ∧ o + n ≤ blk.cells.length then
    some ((killAll H blk.anc).upd i ⟨blk.cells.take o ++ v.cells.toList ++ blk.cells.drop (o + n), blk.elem, .tip, blk.ver + 1, []⟩) else none
  | none => none
 | _ => none
def cellsOf (H : AHeap) (sz : Nat) : Value → Option (List Value)
 | .slice none 0 0 => some []
 | .slice (some ⟨i, o, none⟩) n _ => if n = 0 then some [] else match H.get i with
  | some blk => if blk.st.mem ∧ o + n * sz ≤ blk.cells.length then some ((blk.cells.drop o).take (n * sz)) else none
  | none => none
 | .slice (some ⟨_, _, some _⟩) 0 0 => some []
 | _ => none
def appendA (H : AHeap) (s x : Value) (elem : TypeId) (sz bytes : Nat) : Option (Value × AHeap) :=
 match s, x with
 | .slice a n c, .slice a' m c' =>
  match cellsOf H sz (.slice a n c), cellsOf H sz (.slice a' m c') with
  | some old, some new =>
   if m = 0 then some (.slice a n c, H) else
   if (n + m) * bytes ≤ 140737488355328 ∧ new.all one = true then
    match a with
    | none => some (.slice (some ⟨H.n, 0, none⟩) (n + m) (n + m + 1), H.push ⟨old ++ new, elem, .tip, 0, []⟩)
    | some a =>
     if c = 0 then some (.slice (some ⟨H.n, 0, none⟩) (n + m) (n + m + 1), H.push ⟨old ++ new, elem, .tip, 0, []⟩) else
     match H.get a.block with
     | some blk =>
      if blk.st = .tip ∧ blk.elem = elem then
       if 0 < n ∧ a.off + n * sz = blk.cells.length then
        some (.slice (some ⟨H.n, 0, none⟩) (n + m) (n + m + 1), (H.upd a.block { blk with st := .ret }).push ⟨old ++ new, elem, .tip, 0, a.block :: blk.anc⟩)
       else some (.slice (some ⟨H.n, 0, none⟩) (n + m) (n + m + 1), (killAll H (a.block :: blk.anc)).push ⟨old ++ new, elem, .tip, 0, []⟩)
      else none
     | none => none
   else none
  | _, _ => none
 | _, _ => none
def findC (k : IntKind) (n : Int) : List Value → Option (Option Value)
 | [] => some none
 | .int k' a :: v :: r => if k = k' then (if n = a then some (some v) else findC k n r) else none
 | _ => none
def setC (k : IntKind) (n : Int) (x : Value) : List Value → Option (List Value)
 | [] => some [.int k n, x]
 | .int k' a :: v :: r => if k = k' then (if n = a then some (.int k n :: x :: r) else (setC k n x r).map fun l => .int k' a :: v :: l) else none
 | _ => none
def mapGet (x i : Value) (z : Value) (ok : Bool) (H : AHeap) : Option (Value × AHeap) :=
 match x, i with
 | .map (some m), .int k n => match H.get m with
  | some blk => if blk.st = .map then (findC k n blk.cells).map fun r => (if ok then .tuple ⟨[r.getD z, .bool r.isSome]⟩ else r.getD z, H) else none
  | none => none
 | _, _ => none
def mapSet (m k v : Value) (H : AHeap) : Option (Value × AHeap) :=
 match m, k with
 | .map (some i), .int k n => match H.get i with
  | some blk => if blk.st = .map ∧ blk.anc = [] ∧ one v = true then (setC k n v blk.cells).map fun cs => (.tuple ⟨[]⟩, H.upd i ⟨cs, blk.elem, .map, blk.ver + 1, []⟩) else none
  | none => none
 | _, _ => none
abbrev CallF := FuncId → List Value → AHeap → Option (Value × AHeap)
def methA (P : Program) (t : TypeId) (name : String) : Option (FuncId × Option (Bool × Nat)) :=
 match P.info? t, P.underlying t with
 | some i, some (.pointer _) => match i.methods.find? (·.name == name) with
  | some m => match m.func, m.path.toList with
   | some (g, true), [] => some (g, none)
   | some (g, true), [s] => match P.underlying s.struct with
    | some (.struct fs) => match fs[s.index]? with
     | some fd => match s.deref, P.underlying fd.type, (P.info? fd.type).map (·.size) with
      | true, some (.pointer _), some (_ + 1) => some (g, some (true, fd.offset))
      | true, some (.struct _), some (_ + 1) => some (g, some (false, fd.offset))
      | _, _, _ => none
     | none => none
    | _ => none
   | _, _ => none
  | none => none
 | _, _ => none
def recvA (P : Program) (r : Value) (name : String) (H : AHeap) : Option (FuncId × Value) :=
 match r with
 | .iface t v => match methA P t name with
  | some (g, none) => some (g, v)
  | some (g, some (true, off)) => match v with
   | .pointer (some ⟨i, o, none⟩) => match H.get i with
    | some blk => if blk.st.mem then (blk.cells[o + off]?).map fun u => (g, u) else none
    | none => none
   | _ => none
  | some (g, some (false, off)) => match v with
   | .pointer (some ⟨i, o, none⟩) => some (g, .pointer (some ⟨i, o + off, none⟩))
   | _ => none
  | none => none
 | _ => none
def invA (P : Program) (cf : CallF) (r : Value) (name : String) (args : List Value) (H : AHeap) : Option (Value × AHeap) :=
 match recvA P r name H with
 | some (g, x) => cf g (x :: args) H
 | none => none
def txtB : ByteArray → List Value → Option ByteArray
 | s, [] => some s
 | s, .int .u8 n :: l => txtB (s.push (UInt8.ofNat n.toNat)) l
 | _, _ => none
noncomputable def fixA (v : Value) (H : AHeap) : Option (Value × AHeap) :=
 match v with
 | .slice (some p) _ c => match H.get p.block with
  | some b => if b.st = .tip ∧ c ≠ 0 then some (v, H.upd p.block { b with st := .ret }) else none
  | none => none
 | _ => none
def mapA (P : Program) (cf : CallF) (e : Env) (H : AHeap) : MapOp → Option (Value × AHeap)
 | .make t => some (.map (some H.n), H.push ⟨[], t, .map, 0, []⟩)
 | .get x i z ok => mapGet (ev e x) (ev e i) z ok H
 | .set m k v => mapSet (ev e m) (ev e k) (ev e v) H
 | .inv r name args => invA P cf (ev e r) name (args.map (ev e)) H
 | .b2s x => match cellsOf H 1 (ev e x) with
  | some cs => (txtB ByteArray.empty cs).map fun s => (.string s, H)
  | none => none
 | .fix x => fixA (ev e x) H
def stepA (cf : CallF) (e : Env) (H : AHeap) (o : AOp) : Option (Value × AHeap) :=
 match o with
 | .load .. | .slice .. | .slice0 .. => (readA P e H o).map fun v => (v, H)
 | .alloc .. | .box .. | .bslice .. => (newA e H.n o).map fun r => (r.2, H.push r.1)
 | .store x v n => (storeA H (ev e x) (ev e v) n).map fun H' => (.tuple ⟨[]⟩, H')
 | .append s x elem sz bytes => appendA H (ev e s) (ev e x) elem sz bytes
 | .call f args => match ev e f with
  | .func (.func g) first captured => cf g (first.toList ++ args.map (ev e) ++ captured.toList) H
  | _ => none
 | .mop m => mapA P cf e H m
 | _ => (pureA P e o).map fun v => (v, H)
def guardA (e : Env) : Option (Nat × Bool) → Option Bool
 | none => some true
 | some (t, want) => match eget e t with
  | .bool b => some (b == want)
  | .tuple ⟨[]⟩ => some false
  | _ => none
def rowV (cf : CallF) (r : ARow) (e : Env) (H : AHeap) : Option (Value × AHeap) :=
 match guardA e r.guard with
 | some true => stepA P cf e H r.op
 | some false => some (.tuple ⟨[]⟩, H)
 | none => none
def rowA (cf : CallF) (r : ARow) (e : Env) (H : AHeap) : Option (Env × AHeap) :=
 (rowV P cf r e H).map fun x => (eput e r.dst x.1, x.2)
def rowsA (cf : CallF) : List ARow → Env → AHeap → Option (Env × AHeap)
 | [], e, H => some (e, H)
 | r :: rs, e, H => match rowA P cf r e H with
  | some (e', H') => rowsA cf rs e' H'
  | none => none
def forget (keep : List Nat) (e : Env) : Env := keep.map fun t => (t, eget e t)
inductive AEx where
 | normal | exit (id : Nat) | ret
 deriving DecidableEq
inductive ACode where
 | skip
 | ops (rows : List ARow)
 | draw (rows : List ARow)
 | seq (a b : ACode)
 | cond (c : Operand) (a b : ACode)
 | block (id : Nat) (c : ACode)
 | loop (keep : List Nat) (c : ACode)
 | exit (id : Nat)
 | ret
def iterA (keep : List Nat) (body : Env → AHeap → Option (AEx × Env × AHeap)) : Nat → Env → AHeap → Option (AEx × Env × AHeap)
 | 0, _, _ => none
 | n + 1, e, H => match body (forget keep e) H with
  | none => none
  | some (.normal, e', H') => iterA keep body n e' H'
  | some r => some r
def stamps (H : AHeap) (e : Env) (r : ARow) : List (Nat × Nat) :=
 match r.op with
 | .load x _ => match ev e x with
  | .pointer (some ⟨i, _, none⟩) => match H.get i with
   | some b => [(i, b.ver)]
   | none => []
  | _ => []
 | _ => []
def still (H : AHeap) (l : List (Nat × Nat)) : Bool := l.all fun p => match H.get p.1 with
 | some b => b.ver == p.2
 | none => false
def calmB : Option ABlk → Bool
 | some b => Nat.beq b.ver 0 && (match b.st with | .tip => true | _ => false) && (match b.anc with | [] => true | _ => false)
 | none => false
def calm (H : AHeap) (l : List Nat) : Bool := l.all fun i => calmB (H.get i)
def isK : Operand → Bool
 | .const _ => true
 | _ => false
def isCall : AOp → Bool
 | .call .. => true
 | .mop (.inv ..) => true
 | .append s _ _ _ _ => isK s
 | _ => false
def freshI : AOp → Nat → List Nat
 | .alloc .., i => [i]
 | .box .., i => [i]
 | .bslice .., i => [i]
 | _, _ => []
def isStore : AOp → Bool
 | .store .. => true
 | _ => false
def lastSt (r : ARow) (rs : List ARow) : Bool := rs.isEmpty && isStore r.op
def nextL (b : Bool) (l : List (Nat × Nat)) : List (Nat × Nat) := match b with
 | true => []
 | false => l
def drawA (cf : CallF) : List ARow → List (Nat × Nat) → List Nat → Env → AHeap → Option (Env × AHeap)
 | [], l, _, e, H => if still H l then some (e, H) else none
 | r :: rs, l, F, e, H => match rowV P cf r (forget (slotsR r) e) H with
  | some (v, H') => if ((!isCall r.op || calm H' F) && (!lastSt r rs || still H l)) = true then drawA cf rs (nextL (lastSt r rs) (stamps H (forget (slotsR r) e) r ++ l)) (freshI r.op H.n ++ F) (eput e r.dst v) H' else none
  | none => none
def execA (cf : CallF) (lf : Nat) : ACode → Env → AHeap → Option (AEx × Env × AHeap)
 | .skip, e, H => some (.normal, e, H)
 | .ops rows, e, H => (rowsA P cf rows e H).map fun x => (.normal, x.1, x.2)
 | .draw rows, e, H => (drawA P cf rows [] [] e H).map fun x => (.normal, x.1, x.2)
 | .seq a b, e, H => match execA cf lf a e H with
  | some (.normal, e', H') => execA cf lf b e' H'
  | r => r
 | .cond c a b, e, H => match ev e c with
  | .bool true => execA cf lf a e H
  | .bool false => execA cf lf b e H
  | _ => none
 | .block id c, e, H => match execA cf lf c e H with
  | some (.exit id', e', H') => if id' = id then some (.normal, e', H') else some (.exit id', e', H')
  | r => r
 | .loop keep c, e, H => iterA keep (execA cf lf c) lf e H
 | .exit id, e, H => some (.exit id, e, H)
 | .ret, e, H => some (.ret, e, H)
inductive ARes where
 | tmp (t : Nat)
 | cell (t : Nat) (k : Option Nat)
structure AFunc where
 nargs : Nat
 ntmps : Nat
 results : List ARes
 code : ACode
def entry (args : List Value) : Env := args.zipIdx.map fun p => (p.2, p.1)
def resA (e : Env) (H : AHeap) : ARes → Option Value
 | .tmp t => some (eget e t)
 | .cell t k => readA P e H (.load (.tmp t) k)
def ressA (e : Env) (H : AHeap) : List ARes → Option (List Value)
 | [] => some []
 | r :: rs => match resA P e H r, ressA e H rs with
  | some v, some vs => some (v :: vs)
  | _, _ => none
def packA : List Value → Value
 | [v] => v
 | vs => .tuple ⟨vs⟩
def callA (Γ : FuncId → Option AFunc) (Ω : CallF) : Nat → CallF
 | 0, _, _, _ => none
 | n + 1, f, args, H =>
  match Ω f args H with
  | some r => some r
  | none => match Γ f with
   | none => none
   | some F => if args.length = F.nargs then
     match execA P (callA Γ Ω n) n F.code (entry args) H with
     | some (.exit _, _, _) => none
     | some (_, e, H') => (ressA P e H' F.results).map fun vs => (packA vs, H')
     | none => none
    else none
end
end
section
variable (P : Program)
def szOf (t : TypeId) : Option Nat := (P.info? t).map (·.size)
def isAggD : TypeDesc → Bool
 | .struct _ | .array _ _ => true
 | _ => false
def shapeOf (t : TypeId) : Option (Bool × Nat) :=
 match P.underlying t, szOf P t with
 | some d, some n => some (isAggD d, n)
 | _, _ => none
def zeroOf (t : TypeId) : Option (List Value) := ((P.info? t).bind (·.zero)).map (·.cells.toList)
def placesOf : List Field → Option (List (Nat × Nat))
 | [] => some []
 | f :: r => match szOf P f.type, placesOf r with
  | some s, some l => some ((f.offset, s) :: l)
  | _, _ => none
def partsP (ps : List (Nat × Nat)) : List (Nat × Operand) → Option (List (Nat × Nat × Operand))
 | [] => some []
 | (i, x) :: r => match ps[i]?, partsP ps r with
  | some p, some l => some ((p.1, p.2, x) :: l)
  | _, _ => none
def partsA (s : Nat) (l : List (Nat × Operand)) : List (Nat × Nat × Operand) := l.map fun p => (p.1 * s, s, p.2)
def isNilC : Nat → Operand → Bool
 | 0, .const (.pointer none) => true
 | 1, .const (.slice none 0 0) => true
 | 2, .const (.map none) => true
 | 3, .const .nilIface => true
 | _, _ => false
def zeroC : Operand → Bool
 | .const (.int _ 0) => true
 | _ => false
def bareOf (o : Oper) : Oper := ⟨none, o.op, o.type, "", #[], none⟩
theorem execOp_bare (ρ : Operand → Value) (o : Oper) : execOp ρ (bareOf o) = execOp ρ o := by
 obtain ⟨dst, op, type, pos, after, guard⟩ := o
 cases op <;> rfl
def prepBin (o : Oper) (op : BinOp) (t : TypeId) (x y : Operand) : Option AOp :=
 match P.underlying t with
 | some (.int _) => match op with
  | .and | .or | .xor | .andNot | .shl | .shr => some (.gen (bareOf o))
  | _ => some (.int op x y)
 | some .bool => match op with
  | .eql => some (.beq false x y)
  | .neq => some (.beq true x y)
  | _ => none
 | some (.pointer _) => if isNilC 0 y then (match op with | .eql => some (.isNil 0 false x) | .neq => some (.isNil 0 true x) | _ => none) else none
 | some (.slice _) => if isNilC 1 y then (match op with | .eql => some (.isNil 1 false x) | .neq => some (.isNil 1 true x) | _ => none) else none
 | some (.map _ _) => if isNilC 2 y then (match op with | .eql => some (.isNil 2 false x) | .neq => some (.isNil 2 true x) | _ => none) else none
 | some (.interface _) => if isNilC 3 y then (match op with | .eql => some (.isNil 3 false x) | .neq => some (.isNil 3 true x) | _ => none) else some (.gen (bareOf o))
 | some _ => some (.gen (bareOf o))
 | none => none
def prepOp (o : Oper) : Option AOp :=
 match o.op with
 | .move x | .assign x => some (.mv x)
 | .pick c a b => some (.pick c a b)
 | .extract t ix => some (.ext t ix)
 | .field t x f => match P.underlying t with
  | some (.struct fs) => match fs[f]? with
   | some fd => (shapeOf P fd.type).map fun p => .field x p.1 fd.offset p.2
   | none => none
  | _ => none
 | .index t x i => match P.underlying t with
  | some (.array cnt el) => (shapeOf P el).map fun p => .index x i cnt p.1 p.2
  | _ => some (.gen (bareOf o))
 | .build t parts => match P.underlying t, zeroOf P t with
  | some (.struct fs), some z => if z.all atom then (placesOf P fs.toList).bind fun ps => (partsP ps parts.toList).map fun l => .build z l else none
  | some (.array _ el), some z => if z.all atom then (szOf P el).map fun s => .build z (partsA s parts.toList) else none
  | _, _ => none
 | .binOp op t x y _ => prepBin P o op t x y
 | .unOp .not _ x => some (.not x)
 | .convert src dst x => match P.underlying src, P.underlying dst with
  | some (.int _), some (.int k) => some (.conv k x)
  | some (.slice el), some .string => match P.underlying el with
   | some (.int .u8) => some (.mop (.b2s x))
   | _ => some (.gen (bareOf o))
  | some (.slice el), some (.slice _) => match P.underlying el with
   | some (.int .u8) => if src = dst then some (.mop (.fix x)) else some (.gen (bareOf o))
   | _ => some (.gen (bareOf o))
  | _, _ => some (.gen (bareOf o))
 | .makeFunc fn first captured => some (.mkfun fn first.toList captured.toList)
 | .makeInterface t x => match P.underlying t with
  | some (.interface _) => none
  | some _ => some (.mkface t x)
  | none => none
 | .slice t x lo hi mx => match P.underlying t with
  | some (.slice el) => match mx with
   | none => (szOf P el).map fun s => .slice x lo hi s
   | some m => match hi, lo with
    | some h, none => if zeroC h && zeroC m && (szOf P el).isSome then some (.slice0 x) else none
    | _, _ => none
  | _ => some (.gen (bareOf o))
 | .fieldAddr s x f => match P.underlying s with
  | some (.struct fs) => match fs[f]? with
   | some fd => match szOf P fd.type with
    | some (n + 1) => some (.faddr x fd.offset)
    | _ => none
   | none => none
  | _ => none
 | .indexAddr t x i => match P.underlying t with
  | some (.slice el) => (szOf P el).map fun s => .iaddr x i s
  | some (.array cnt el) => (szOf P el).map fun s => .aaddr x i cnt s
  | _ => none
 | .load t x => (shapeOf P t).map fun p => .load x (if p.1 then some p.2 else none)
 | .store t p v => (szOf P t).map fun s => .store p v s
 | .alloc el => (zeroOf P el).bind fun z => if z.all atom then some (.alloc z el) else none
 | .box el x => if (szOf P el).isSome then some (.box x el) else none
 | .buildSlice t n parts => match P.underlying t with
  | some (.slice el) => match szOf P el, zeroOf P el with
   | some s, some z => if z.all atom && z.length == s && decide (n * s ≤ 16777216) then some (.bslice el n s z (partsA s parts.toList)) else none
   | _, _ => none
  | _ => none
 | .nilCheck x => some (.nilChk x)
 | .call ⟨.value f, args, _⟩ => some (.call f args.toList)
 | .call ⟨.invoke r m, args, _⟩ => some (.mop (.inv r m args.toList))
 | .call ⟨.builtin .len, args, ts⟩ => match args.toList, ts.toList with
  | [x], [t] => match P.underlying t with
   | some (.slice _) => some (.len false x)
   | some .string => some (.len true x)
   | _ => none
  | _, _ => none
 | .call ⟨.builtin .append, args, ts⟩ => match args.toList, ts.toList with
  | [s, x], [t, u] => match P.underlying t with
   | some (.slice el) => match P.info? el, zeroOf P el with
    | some i, some z => if t = u ∧ z.length = i.size ∧ 0 < i.bytes then some (.append s x el i.size i.bytes) else none
    | _, _ => none
   | _ => none
  | _, _ => none
 | .call ⟨.builtin .max, args, _⟩ => match args.toList with
  | [x, y] => if o.type = 3 then some (.max2 x y) else some (.gen (bareOf o))
  | _ => some (.gen (bareOf o))
 | .call ⟨.builtin .min, args, _⟩ => match args.toList with
  | [x, y] => if o.type = 3 then some (.min2 x y) else some (.gen (bareOf o))
  | _ => some (.gen (bareOf o))
 | .makeMap t none => if (szOf P t).isSome then some (.mop (.make t)) else none
 | .lookup t x i c => match P.underlying t with
  | some (.map k el) => match P.underlying k, zeroOf P el, (P.info? el).bind (·.zero) with
   | some (.int _), some [z], some z' => if atom z && one z' then some (.mop (.get x i z c)) else none
   | _, _, _ => none
  | _ => none
 | .mapUpdate t m k v | .insert t m k v => match P.underlying t with
  | some (.map kt _) => match P.underlying kt with
   | some (.int _) => some (.mop (.set m k v))
   | _ => none
  | _ => none
 | .select .. | .go _ | .defer _ | .send .. | .recv .. | .panic _ => none
 | _ => some (.gen (bareOf o))
end
structure ER (σ : Sig) (nt : Nat) (e : Env) (a : Act) : Prop where
 size : a.tmps.size = nt
 defers : a.defers = []
 get : ∀ t, VR σ (eget e t) (a.tmps.getD t undef)
theorem ev_rel {σ : Sig} {nt : Nat} {e : Env} {a : Act} (h : ER σ nt e a) (x : Operand) : VR σ (ev e x) (a.eval x) := by
 cases x with
 | tmp t => exact h.get t
 | const v =>
  simp only [ev, Act.eval]
  split
  ·rename_i hg
   exact VR.of_ground hg
  ·exact .poison _
 | global g => exact .poison _
 | func f => exact .func _ _ _ _ _ .nil .nil
theorem pureRun_sound {α : Type} {P : Program} : ∀ {s : Sem α} {a : α}, pureRun P s = some a → ∀ w, s.run P w = .ok a w := by
 intro s
 induction s with
 | pure a => intro b h w; simp [pureRun] at h; subst h; rfl
 | program k ih => intro b h w; simp only [pureRun] at h; simp only [Sem.run]; exact ih _ h w
 | mark m k ih => intro b h w; simp only [pureRun] at h; simp only [Sem.run]; exact ih h w
 | _ => intro b h; simp [pureRun] at h
section
variable {σ : Sig} {v' : Value}
theorem VR.int_inv {k : IntKind} {n : Int} (h : VR σ (.int k n) v') : v' = .int k n := by cases h; rfl
theorem VR.bool_inv {b : Bool} (h : VR σ (.bool b) v') : v' = .bool b := by cases h; rfl
theorem VR.string_inv {s : ByteArray} (h : VR σ (.string s) v') : v' = .string s := by cases h; rfl
theorem VR.ptr_inv {i o : Nat} (h : VR σ (.pointer (some ⟨i, o, none⟩)) v') : ∃ l, σ i = some l ∧ v' = .pointer (some ⟨l.b, l.f + o, none⟩) := by
 cases h with | ptr _ _ l hl => exact ⟨l, hl, rfl⟩
theorem VR.slice_inv {i o n c : Nat} (h : VR σ (.slice (some ⟨i, o, none⟩) n c) v') : ∃ l f' c', σ i = some l ∧ v' = .slice (some ⟨l.b, f', none⟩) n c' ∧ (0 < n → f' = l.f + o) ∧ n ≤ c' ∧ c ≤ c' + 1 ∧ (c = 0 → c' = 0) ∧ f' + c' * l.sz ≤ l.tot := by
 cases h with | slice _ _ _ _ f' c' l hl h1 h2 h3 h4 h5 => exact ⟨l, f', c', hl, rfl, h1, h2, h3, h4, h5⟩
theorem VR.agg_inv {cs : Array Value} (h : VR σ (.agg cs) v') : ∃ ds, v' = .agg ds ∧ VRs σ cs.toList ds.toList := by
 cases h with | agg xs xs' hs => exact ⟨_, rfl, hs⟩
theorem VR.tuple_inv {cs : Array Value} (h : VR σ (.tuple cs) v') : ∃ ds, v' = .tuple ds ∧ VRs σ cs.toList ds.toList := by
 cases h with | tuple xs xs' hs => exact ⟨_, rfl, hs⟩
theorem VR.func_inv {fn : Fn} {xs ys : Array Value} (h : VR σ (.func fn xs ys) v') : ∃ xs' ys', v' = .func fn xs' ys' ∧ VRs σ xs.toList xs'.toList ∧ VRs σ ys.toList ys'.toList := by
 cases h with | func _ _ _ _ _ hx hy => exact ⟨_, _, rfl, hx, hy⟩
theorem VR.solid_cells {v : Value} (hs : solid v = true) (h : VR σ v v') : VRs σ v.cells.toList v'.cells.toList := by
 cases h <;> first | (simp [solid] at hs; done) | skip
 case agg xs xs' hh => exact hh
 all_goals (simp only [Value.cells]; refine .cons _ _ _ _ ?_ .nil)
 all_goals first | constructor | skip
 all_goals first | assumption | (intro hh; contradiction) | omega | skip
end
theorem run_und {P : Program} {t : TypeId} {d : TypeDesc} (h : P.underlying t = some d) (w : World) : (underlying t).run P w = .ok d w := by
  simp [underlying, h]
theorem run_szOf {P : Program} {t : TypeId} {n : Nat} (h : szOf P t = some n) (w : World) : (Go.sizeOf t).run P w = .ok n w := by
  unfold szOf at h
  cases hi : P.info? t with
  | none => rw [hi] at h; cases h
  | some i => rw [hi] at h; simp at h; simp [Go.sizeOf, typeInfo, hi, h]
theorem run_isAgg {P : Program} {t : TypeId} {d : TypeDesc} (h : P.underlying t = some d) (w : World) : (isAgg t).run P w = .ok (isAggD d) w := by
  simp [isAgg, run_und h]
  cases d <;> rfl
theorem shapeOf_inv {P : Program} {t : TypeId} {p : Bool × Nat} (h : shapeOf P t = some p) : ∃ d, P.underlying t = some d ∧ p.1 = isAggD d ∧ szOf P t = some p.2 := by
  unfold shapeOf at h
  split at h
  · rename_i d n hd hn
    injection h with h
    subst h
    exact ⟨d, hd, rfl, hn⟩
  · cases h
theorem run_part {P : Program} {t : TypeId} {p : Bool × Nat} (h : shapeOf P t = some p) (cs : Array Value) (off : Nat) (v : Value)
    (hv : (if p.1 then some (Value.agg (cs.extract off (off + p.2))) else cs[off]?) = some v) (w : World) : (part t cs off).run P w = .ok v w := by
  obtain ⟨d, hd, h1, h2⟩ := shapeOf_inv h
  unfold part
  simp only [Sem.run_bind, run_isAgg hd, Result.andThen_ok]
  rw [← h1]
  cases hp : p.1 with
  | true =>
    rw [hp] at hv
    simp at hv
    subst hv
    simp [run_szOf h2]
  | false =>
    rw [hp] at hv
    simp at hv
    simp [hv]
theorem extract_list (cs : Array Value) (off n : Nat) : (cs.extract off (off + n)).toList = (cs.toList.drop off).take n := by
  simp [Array.toList_extract, List.extract_eq_take_drop, Nat.add_sub_cancel_left]
theorem VRs.part {σ : Sig} {cs ds : Array Value} (h : VRs σ cs.toList ds.toList) (agg : Bool) (off n : Nat) (v : Value)
    (hv : (if agg then (if off + n ≤ cs.toList.length then some (Value.agg ⟨(cs.toList.drop off).take n⟩) else none) else cs.toList[off]?) = some v) :
    ∃ v', (if agg then some (Value.agg (ds.extract off (off + n))) else ds[off]?) = some v' ∧ VR σ v v' := by
  cases agg with
  | true =>
    simp only [if_true] at hv ⊢
    split at hv
    · injection hv with hv
      subst hv
      refine ⟨_, rfl, ?_⟩
      have := VR.agg _ _ ((h.drop off).take n)
      rw [← extract_list ds] at this
      exact this
    · cases hv
  | false =>
    simp only [Bool.false_eq_true, if_false] at hv ⊢
    obtain ⟨v', h1, h2⟩ := h.get hv
    exact ⟨v', by simpa using h1, h2⟩
def Pure (P : Program) (o : Oper) (a : Act) (v' : Value) : Prop := ∀ w, (execOp a.eval o).run P w = .ok (.value v') w
section
variable {P : Program} {σ : Sig} {nt : Nat} {e : Env} {a : Act} {o : Oper}
theorem sound_gen (her : ER σ nt e a) {v : Value} (h : pureA P e (.gen (bareOf o)) = some v) : ∃ v', Pure P o a v' ∧ VR σ v v' := by
  have hop : (bareOf o).op = o.op := rfl
  simp only [pureA, execOp_bare, hop] at h
  split at h
  · rename_i hall
    have hs : ∀ cs b, o.op ≠ .select cs b := by
      intro cs b hc
      split at h <;> try (cases h; done)
      rename_i v0 hr
      have hr0 := hr
      rw [execOp, hc] at hr
      have h1 := pureRun_sound hr default
      simp only [Sem.run_bind] at h1
      revert h1
      generalize Sem.run P _ _ = r
      cases r with
      | ok x w' => simp [Result.andThen]
      | halt x w' => simp [Result.andThen]
    have he : execOp a.eval o = execOp (ev e) o := by
      refine (execOp_congr o hs fun x hx => ?_).symm
      have hg : ground (ev e x) = true := by
        rw [List.all_eq_true] at hall
        exact hall x (by simpa using hx)
      exact (VR.eq_ground hg (ev_rel her x)).symm
    split at h
    · rename_i v0 hr
      split at h
      · rename_i hg
        injection h with h
        subst h
        exact ⟨v0, fun w => by rw [he]; exact pureRun_sound hr w, VR.of_ground hg⟩
      · cases h
    · cases h
  · cases h
theorem sound_mv (her : ER σ nt e a) {x : Operand} (ho : o.op = .move x ∨ o.op = .assign x) {v : Value} (h : pureA P e (.mv x) = some v) : ∃ v', Pure P o a v' ∧ VR σ v v' := by
  simp only [pureA, Option.some.injEq] at h
  subst h
  refine ⟨a.eval x, fun w => ?_, ev_rel her x⟩
  rcases ho with ho | ho <;> simp [execOp, ho]
theorem sound_pick (her : ER σ nt e a) {c x y : Operand} (ho : o.op = .pick c x y) {v : Value} (h : pureA P e (.pick c x y) = some v) : ∃ v', Pure P o a v' ∧ VR σ v v' := by
  simp only [pureA] at h
  split at h
  · rename_i t hc
    injection h with h
    have hc' := VR.bool_inv (hc ▸ ev_rel her c)
    subst h
    refine ⟨if t then a.eval x else a.eval y, fun w => ?_, ?_⟩
    · simp [execOp, ho, hc', asBool]
    · cases t
      · exact ev_rel her y
      · exact ev_rel her x
  · cases h
theorem sound_ext (her : ER σ nt e a) {t : Operand} {ix : Nat} (ho : o.op = .extract t ix) {v : Value} (h : pureA P e (.ext t ix) = some v) : ∃ v', Pure P o a v' ∧ VR σ v v' := by
  simp only [pureA] at h
  split at h
  · rename_i vs hc
    obtain ⟨ds, hd, hs⟩ := VR.tuple_inv (hc ▸ ev_rel her t)
    obtain ⟨v', h1, h2⟩ := hs.get h
    refine ⟨v', fun w => ?_, h2⟩
    have h3 : ds[ix]? = some v' := by simpa using h1
    simp [execOp, ho, hd, Instr.extract, h3]
  · cases h
theorem sound_field (her : ER σ nt e a) {t : TypeId} {x : Operand} {f : Nat} {fs : Array Field} {fd : Field} {p : Bool × Nat} (ho : o.op = .field t x f)
    (hu : P.underlying t = some (.struct fs)) (hf : fs[f]? = some fd) (hs : shapeOf P fd.type = some p) {v : Value} (h : pureA P e (.field x p.1 fd.offset p.2) = some v) : ∃ v', Pure P o a v' ∧ VR σ v v' := by
  simp only [pureA] at h
  split at h
  · rename_i cs hc
    obtain ⟨ds, hd, hr⟩ := VR.agg_inv (hc ▸ ev_rel her x)
    obtain ⟨v', h1, h2⟩ := hr.part p.1 fd.offset p.2 v h
    refine ⟨v', fun w => ?_, h2⟩
    simp only [execOp, ho, hd, Instr.field, asAgg, Sem.run_bind, run_und hu, Result.andThen_ok, hf, Sem.run_pure, run_part hs ds fd.offset v' h1]
  · cases h
theorem sound_index (her : ER σ nt e a) {t el : TypeId} {x i : Operand} {cnt : Nat} {p : Bool × Nat} (ho : o.op = .index t x i)
    (hu : P.underlying t = some (.array cnt el)) (hs : shapeOf P el = some p) {v : Value} (h : pureA P e (.index x i cnt p.1 p.2) = some v) : ∃ v', Pure P o a v' ∧ VR σ v v' := by
  simp only [pureA] at h
  split at h
  · rename_i cs k n hc hi
    split at h
    · rename_i hb
      obtain ⟨ds, hd, hr⟩ := VR.agg_inv (hc ▸ ev_rel her x)
      have hi' := VR.int_inv (hi ▸ ev_rel her i)
      obtain ⟨v', h1, h2⟩ := hr.part p.1 (n.toNat * p.2) p.2 v h
      refine ⟨v', fun w => ?_, h2⟩
      obtain ⟨d, _, _, hsz⟩ := shapeOf_inv hs
      simp only [execOp, ho, hd, hi', Instr.index, asIntOf, Sem.run_bind, run_und hu, Result.andThen_ok, Sem.run_pure]
      rw [if_pos hb]
      simp only [Sem.run_bind, run_szOf hsz, Result.andThen_ok, run_part hs ds (n.toNat * p.2) v' h1]
    · cases h
  · cases h
theorem sound_int (her : ER σ nt e a) {op : BinOp} {t u : TypeId} {x y : Operand} (ho : o.op = .binOp op t x y u) {v : Value} (h : pureA P e (.int op x y) = some v) (hop : op ≠ .and ∧ op ≠ .or ∧ op ≠ .xor ∧ op ≠ .andNot ∧ op ≠ .shl ∧ op ≠ .shr) : ∃ v', Pure P o a v' ∧ VR σ v v' := by
  simp only [pureA] at h
  split at h
  · rename_i k n k' m hx hy
    split at h
    · rename_i hk
      subst hk
      have hx' := VR.int_inv (hx ▸ ev_rel her x)
      have hy' := VR.int_inv (hy ▸ ev_rel her y)
      obtain ⟨h1, h2, h3, h4, h5, h6⟩ := hop
      refine ⟨v, fun w => ?_, ?_⟩
      · cases op <;> simp only [intOp] at h <;> first | contradiction | skip
        all_goals first
          | (injection h with h; subst h; simp [execOp, ho, hx', hy', eqGuard, binOp, Op.intArith, Op.intCmp])
          | (split at h; · cases h
             · rename_i hm
               injection h with h; subst h; simp [execOp, ho, hx', hy', eqGuard, binOp, Op.intDiv, hm])
      · cases op <;> simp only [intOp] at h <;> first | contradiction | skip
        all_goals first
          | (injection h with h; subst h; constructor)
          | (split at h; · cases h
             · injection h with h; subst h; constructor)
    · cases h
  · cases h
theorem sound_beq (her : ER σ nt e a) {neq : Bool} {t u : TypeId} {x y : Operand} (ho : o.op = .binOp (if neq then .neq else .eql) t x y u) (hu : P.underlying t = some .bool) {v : Value} (h : pureA P e (.beq neq x y) = some v) : ∃ v', Pure P o a v' ∧ VR σ v v' := by
  simp only [pureA] at h
  split at h
  · rename_i b c hx hy
    injection h with h
    subst h
    have hx' := VR.bool_inv (hx ▸ ev_rel her x)
    have hy' := VR.bool_inv (hy ▸ ev_rel her y)
    refine ⟨_, fun w => ?_, .bool _⟩
    cases neq with
    | false => simp only [Bool.false_eq_true, if_false] at ho ⊢; simp only [execOp, ho, hx', hy', eqGuard, Sem.run_bind, Sem.run_ite, Sem.run_pure, ite_self, Result.andThen_ok, run_eql_bool w t b c hu]
    | true => simp only [if_true] at ho ⊢; simp only [execOp, ho, hx', hy', eqGuard, Sem.run_bind, Sem.run_ite, Sem.run_pure, ite_self, Result.andThen_ok, run_neq_bool w t b c hu]
  · cases h
theorem sound_not (her : ER σ nt e a) {t : TypeId} {x : Operand} (ho : o.op = .unOp .not t x) {v : Value} (h : pureA P e (.not x) = some v) : ∃ v', Pure P o a v' ∧ VR σ v v' := by
  simp only [pureA] at h
  split at h
  · rename_i b hx
    injection h with h
    subst h
    have hx' := VR.bool_inv (hx ▸ ev_rel her x)
    exact ⟨_, fun w => by simp [execOp, ho, hx', Op.unary], .bool _⟩
  · cases h
theorem sound_conv (her : ER σ nt e a) {s d : TypeId} {k0 k : IntKind} {x : Operand} (ho : o.op = .convert s d x) (hs : P.underlying s = some (.int k0)) (hd : P.underlying d = some (.int k)) {v : Value} (h : pureA P e (.conv k x) = some v) : ∃ v', Pure P o a v' ∧ VR σ v v' := by
  simp only [pureA] at h
  split at h
  · rename_i k1 n hx
    injection h with h
    subst h
    have hx' := VR.int_inv (hx ▸ ev_rel her x)
    exact ⟨_, fun w => by simp [execOp, ho, hx', convert, run_und hs, run_und hd, Conv.intToInt], .int _ _⟩
  · cases h
end
theorem add_addr (b f n : Nat) : (⟨b, f, none⟩ : Addr).add n = ⟨b, f + n, none⟩ := by unfold Addr.add; split <;> simp_all
theorem VRs.map {σ : Sig} {nt : Nat} {e : Env} {a : Act} (her : ER σ nt e a) : ∀ xs : List Operand, VRs σ (xs.map (ev e)) (xs.map a.eval)
 | [] => .nil
 | x :: xs => .cons _ _ _ _ (ev_rel her x) (VRs.map her xs)
theorem foldl_set (vs : List Value) : ∀ (j off : Nat) (cs : Array Value), off + j + vs.length ≤ cs.size →
  ((vs.zipIdx j).foldl (fun cs (p : Value × Nat) => cs.setIfInBounds (off + p.2) p.1) cs).toList = cs.toList.take (off + j) ++ vs ++ cs.toList.drop (off + j + vs.length) := by
 induction vs with
 | nil => intro j off cs _; simp
 | cons v vs ih =>
  intro j off cs h
  simp only [List.zipIdx_cons, List.foldl_cons]
  rw [ih (j + 1) off _ (by simpa [Nat.add_assoc, Nat.add_comm 1] using h)]
  simp only [List.length_cons] at h
  have hlen : (cs.setIfInBounds (off + j) v).toList = cs.toList.set (off + j) v := by simp
  rw [hlen]
  have hlt : off + j < cs.toList.length := by simp; omega
  rw [List.set_eq_take_append_cons_drop, if_pos hlt]
  have h1 : (List.take (off + j) cs.toList).length = off + j := by simp; omega
  have e1 : off + (j + 1) = (off + j) + 1 := by omega
  have e2 : off + (j + 1) + vs.length = (off + j) + (1 + vs.length) := by omega
  rw [e2, e1]
  have t1 := List.take_length_add_append (l₁ := List.take (off + j) cs.toList) (l₂ := v :: List.drop (off + j + 1) cs.toList) 1
  have t2 := List.drop_length_add_append (l₁ := List.take (off + j) cs.toList) (l₂ := v :: List.drop (off + j + 1) cs.toList) (1 + vs.length)
  rw [h1] at t1 t2
  rw [t1, t2, Nat.add_comm 1 vs.length]
  simp only [List.take_succ_cons, List.take_zero, List.drop_succ_cons, List.drop_drop, List.append_assoc, List.cons_append, List.nil_append, List.length_cons]
  congr 4
  omega
theorem lay_length : ∀ (ps : List (Nat × Nat × Value)) (cells : List Value), okParts cells.length ps = true → (lay cells (dropSz ps)).length = cells.length
 | [], cells, _ => rfl
 | (off, sz, v) :: r, cells, h => by
  simp only [okParts, Bool.and_eq_true, beq_iff_eq, decide_eq_true_eq] at h
  obtain ⟨⟨⟨_, h1⟩, h2⟩, h3⟩ := h
  simp only [dropSz, List.map_cons, lay]
  have hl : (cells.take off ++ v.cells.toList ++ cells.drop (off + v.cells.toList.length)).length = cells.length := by simp at h1 ⊢; omega
  have := lay_length r (cells.take off ++ v.cells.toList ++ cells.drop (off + v.cells.toList.length)) (by rw [hl]; exact h3)
  simp only [dropSz] at this
  rw [this, hl]
inductive PR (σ : Sig) (place : Nat → Option (Nat × Nat)) : List (Nat × Nat × Value) → List (Nat × Value) → Prop
 | nil : PR σ place [] []
 | cons (i off sz : Nat) (v v' : Value) (r : List (Nat × Nat × Value)) (r' : List (Nat × Value)) (hp : place i = some (off, sz)) (hv : VR σ v v') (hr : PR σ place r r') : PR σ place ((off, sz, v) :: r) ((i, v') :: r')
theorem fill_rel {σ : Sig} {place : Nat → Option (Nat × Nat)} : ∀ {ps : List (Nat × Nat × Value)} {ps' : List (Nat × Value)}, PR σ place ps ps' →
  ∀ {cells : List Value} {cs : Array Value}, VRs σ cells cs.toList → okParts cells.length ps = true →
  ∃ ds, Instr.fill place cs ps' = some ds ∧ VRs σ (lay cells (dropSz ps)) ds.toList
 | _, _, .nil, cells, cs, hc, _ => ⟨cs, rfl, hc⟩
 | _, _, .cons i off sz v v' r r' hp hv hr, cells, cs, hc, hok => by
  simp only [okParts, Bool.and_eq_true, beq_iff_eq, decide_eq_true_eq] at hok
  obtain ⟨⟨⟨hs, h1⟩, h2⟩, h3⟩ := hok
  have hsolid : solid v = true := by cases v <;> first | rfl | simp at hs
  have hvc := VR.solid_cells hsolid hv
  have hlen := hvc.length
  have hcl := hc.length
  have hsz : v'.cells.size = sz := by have := hlen; simp only [Array.length_toList] at this h1; omega
  have hcs : cs.size = cells.length := by have := hcl; simpa using this
  simp only [Instr.fill, hp]
  rw [if_neg (by rw [hsz, hcs]; simp; omega)]
  have hf := foldl_set v'.cells.toList 0 off cs (by simp [hsz, hcs]; omega)
  have hz : v'.cells.zipIdx.foldl (fun cs (p : Value × Nat) => cs.setIfInBounds (off + p.2) p.1) cs = (v'.cells.toList.zipIdx 0).foldl (fun cs (p : Value × Nat) => cs.setIfInBounds (off + p.2) p.1) cs := by
   rw [← Array.foldl_toList]
   simp
  simp only [Nat.add_zero] at hf
  have hnew : VRs σ (cells.take off ++ v.cells.toList ++ cells.drop (off + v.cells.toList.length)) (v'.cells.zipIdx.foldl (fun cs (p : Value × Nat) => cs.setIfInBounds (off + p.2) p.1) cs).toList := by
   rw [hz, hf, hlen]
   exact ((hc.take off).append hvc).append (hc.drop _)
  have hl : (cells.take off ++ v.cells.toList ++ cells.drop (off + v.cells.toList.length)).length = cells.length := by simp at h1 ⊢; omega
  obtain ⟨ds, hd, hr'⟩ := fill_rel hr hnew (by rw [hl]; exact h3)
  exact ⟨ds, hd, hr'⟩
section
variable {P : Program} {σ : Sig} {nt : Nat} {e : Env} {a : Act} {o : Oper}
theorem sound_isNil0 (her : ER σ nt e a) {neq : Bool} {t u : TypeId} {x y : Operand} (ho : o.op = .binOp (if neq then .neq else .eql) t x y u)
  (hy : isNilC 0 y = true) (hu : P.underlying t = some (.pointer (P.pointee t))) {v : Value} (h : pureA P e (.isNil 0 neq x) = some v) : ∃ v', Pure P o a v' ∧ VR σ v v' := by
 simp only [pureA, Option.map_eq_some_iff] at h
 obtain ⟨b, hb, rfl⟩ := h
 refine ⟨_, fun w => ?_, .bool _⟩
 have hy' : a.eval y = .pointer none := by
  unfold isNilC at hy
  split at hy <;> first | rfl | contradiction
 obtain ⟨p', e1, e2⟩ : ∃ p' , a.eval x = .pointer p' ∧ p'.isNone = b := by
  have hx := ev_rel her x
  revert hx hb
  generalize a.eval x = ax
  generalize ev e x = vx
  intro hb hx
  cases hx <;> simp [isNilV] at hb <;> subst hb <;> exact ⟨_, rfl, rfl⟩
 cases neq with
 | false => simp only [Bool.false_eq_true, if_false] at ho ⊢; simp only [execOp, ho, e1, hy', eqGuard, Sem.run_bind, Sem.run_ite, Sem.run_pure, ite_self, Result.andThen_ok, run_eql_pointer_nil w t p' hu, e2]
 | true => simp only [if_true] at ho ⊢; simp only [execOp, ho, e1, hy', eqGuard, Sem.run_bind, Sem.run_ite, Sem.run_pure, ite_self, Result.andThen_ok, run_neq_pointer_nil w t p' hu, e2]
theorem sound_isNil1 (her : ER σ nt e a) {neq : Bool} {t u : TypeId} {x y : Operand} (ho : o.op = .binOp (if neq then .neq else .eql) t x y u)
  (hy : isNilC 1 y = true) {el : TypeId} (hu : P.underlying t = some (.slice el)) {v : Value} (h : pureA P e (.isNil 1 neq x) = some v) : ∃ v', Pure P o a v' ∧ VR σ v v' := by
 simp only [pureA, Option.map_eq_some_iff] at h
 obtain ⟨b, hb, rfl⟩ := h
 refine ⟨_, fun w => ?_, .bool _⟩
 have hy' : a.eval y = .slice none 0 0 := by
  unfold isNilC at hy
  split at hy <;> first | rfl | contradiction
 obtain ⟨p', n', c', e1, e2⟩ : ∃ p' n' c' , a.eval x = .slice p' n' c' ∧ p'.isNone = b := by
  have hx := ev_rel her x
  revert hx hb
  generalize a.eval x = ax
  generalize ev e x = vx
  intro hb hx
  cases hx <;> simp [isNilV] at hb <;> subst hb <;> exact ⟨_, _, _, rfl, rfl⟩
 cases neq with
 | false => simp only [Bool.false_eq_true, if_false] at ho ⊢; simp only [execOp, ho, e1, hy', eqGuard, Sem.run_bind, Sem.run_ite, Sem.run_pure, ite_self, Result.andThen_ok, binOp, run_equal_slice_nil w t el p' n' c' hu, e2]
 | true => simp only [if_true] at ho ⊢; simp only [execOp, ho, e1, hy', eqGuard, Sem.run_bind, Sem.run_ite, Sem.run_pure, ite_self, Result.andThen_ok, binOp, run_equal_slice_nil w t el p' n' c' hu, e2]
theorem sound_isNil2 (her : ER σ nt e a) {neq : Bool} {t u : TypeId} {x y : Operand} (ho : o.op = .binOp (if neq then .neq else .eql) t x y u)
  (hy : isNilC 2 y = true) {ky el : TypeId} (hu : P.underlying t = some (.map ky el)) {v : Value} (h : pureA P e (.isNil 2 neq x) = some v) : ∃ v', Pure P o a v' ∧ VR σ v v' := by
 simp only [pureA, Option.map_eq_some_iff] at h
 obtain ⟨b, hb, rfl⟩ := h
 refine ⟨_, fun w => ?_, .bool _⟩
 have hy' : a.eval y = .map none := by
  unfold isNilC at hy
  split at hy <;> first | rfl | contradiction
 obtain ⟨p', e1, e2⟩ : ∃ p' , a.eval x = .map p' ∧ p'.isNone = b := by
  have hx := ev_rel her x
  revert hx hb
  generalize a.eval x = ax
  generalize ev e x = vx
  intro hb hx
  cases hx <;> simp [isNilV] at hb <;> subst hb <;> exact ⟨_, rfl, rfl⟩
 cases neq with
 | false => simp only [Bool.false_eq_true, if_false] at ho ⊢; simp only [execOp, ho, e1, hy', eqGuard, Sem.run_bind, Sem.run_ite, Sem.run_pure, ite_self, Result.andThen_ok, binOp, run_equal_map_nil w t ky el p' hu, e2]
 | true => simp only [if_true] at ho ⊢; simp only [execOp, ho, e1, hy', eqGuard, Sem.run_bind, Sem.run_ite, Sem.run_pure, ite_self, Result.andThen_ok, binOp, run_equal_map_nil w t ky el p' hu, e2]
theorem run_face_nil {w : World} {t : TypeId} {ms : Array (String × TypeId)} (hu : P.underlying t = some (.interface ms)) (n : Nat) : (Op.equalIn (n + 1) t .nilIface .nilIface).run P w = .ok true w := by
 unfold Op.equalIn
 simp only [Sem.run_bind, run_und hu, Result.andThen_ok, Sem.run_pure]
theorem run_face_some {w : World} {t tt : TypeId} {u : Value} {ms : Array (String × TypeId)} (hu : P.underlying t = some (.interface ms)) (n : Nat) : (Op.equalIn (n + 1) t (.iface tt u) .nilIface).run P w = .ok false w := by
 unfold Op.equalIn
 simp only [Sem.run_bind, run_und hu, Result.andThen_ok, Sem.run_pure]
theorem bin_eq {t : TypeId} {x : Value} (hx : x = .nilIface ∨ ∃ tt u, x = .iface tt u) : binOp .eql t x .nilIface = (do pure (.bool (← Op.equalIn (9999 + 1) t x .nilIface)) : Sem Value) := by
 rcases hx with rfl | ⟨tt, u, rfl⟩ <;> rfl
theorem bin_ne {t : TypeId} {x : Value} (hx : x = .nilIface ∨ ∃ tt u, x = .iface tt u) : binOp .neq t x .nilIface = (do pure (.bool (! (← Op.equalIn (9999 + 1) t x .nilIface))) : Sem Value) := by
 rcases hx with rfl | ⟨tt, u, rfl⟩ <;> rfl
theorem guard_face {w : World} {op : BinOp} {t : TypeId} {x : Operand} {u : Value} (hx : u = .nilIface ∨ ∃ tt v, u = .iface tt v) : (eqGuard op t x (.const .nilIface) u .nilIface).run P w = .ok () w := by
 rcases hx with rfl | ⟨tt, v, rfl⟩ <;> cases op <;> cases x <;> rfl
theorem sound_isNil3 (her : ER σ nt e a) {neq : Bool} {t u : TypeId} {x y : Operand} (ho : o.op = .binOp (if neq then .neq else .eql) t x y u)
  (hy : isNilC 3 y = true) {ms : Array (String × TypeId)} (hu : P.underlying t = some (.interface ms)) {v : Value} (h : pureA P e (.isNil 3 neq x) = some v) : ∃ v', Pure P o a v' ∧ VR σ v v' := by
 simp only [pureA, Option.map_eq_some_iff] at h
 obtain ⟨b, hb, rfl⟩ := h
 refine ⟨_, fun w => ?_, .bool _⟩
 obtain ⟨hyc, hy'⟩ : y = .const .nilIface ∧ a.eval y = .nilIface := by
  unfold isNilC at hy
  split at hy <;> first | exact ⟨rfl, rfl⟩ | contradiction
 subst hyc
 obtain ⟨hx, hr⟩ : (a.eval x = .nilIface ∨ ∃ tt v, a.eval x = .iface tt v) ∧ (Op.equalIn (9999 + 1) t (a.eval x) .nilIface).run P w = .ok b w := by
  have hx := ev_rel her x
  revert hx hb
  generalize a.eval x = ax
  generalize ev e x = vx
  intro hb hx
  cases hx <;> simp [isNilV] at hb <;> subst hb
  ·exact ⟨.inl rfl, run_face_nil hu _⟩
  ·exact ⟨.inr ⟨_, _, rfl⟩, run_face_some hu _⟩
 cases neq with
 | false =>
  simp only [Bool.false_eq_true, if_false] at ho ⊢
  simp only [execOp, ho, hy', bin_eq hx, Sem.run_bind, guard_face hx, Result.andThen_ok, hr, Sem.run_pure]
 | true =>
  simp only [if_true] at ho ⊢
  simp only [execOp, ho, hy', bin_ne hx, Sem.run_bind, guard_face hx, Result.andThen_ok, hr, Sem.run_pure]
theorem sound_faddr (her : ER σ nt e a) {s : TypeId} {x : Operand} {f n : Nat} {fs : Array Field} {fd : Field} (ho : o.op = .fieldAddr s x f)
  (hu : P.underlying s = some (.struct fs)) (hf : fs[f]? = some fd) (hs : szOf P fd.type = some (n + 1)) {v : Value} (h : pureA P e (.faddr x fd.offset) = some v) : ∃ v', Pure P o a v' ∧ VR σ v v' := by
 simp only [pureA] at h
 split at h
 ·rename_i i off hx
  injection h with h
  subst h
  obtain ⟨l, hl, hx'⟩ := VR.ptr_inv (hx ▸ ev_rel her x)
  refine ⟨.pointer (some ⟨l.b, l.f + (off + fd.offset), none⟩), fun w => ?_, .ptr _ _ _ hl⟩
  simp only [execOp, ho, hx', Instr.fieldAt, Sem.run_bind, run_und hu, Result.andThen_ok, hf, Instr.sureAddr, Sem.run_pure, fieldPlace, run_szOf hs]
  simp [add_addr, Nat.add_assoc]
 ·cases h
theorem sound_iaddr (her : ER σ nt e a) {t el : TypeId} {x i : Operand} {n : Nat} (ho : o.op = .indexAddr t x i)
  (hu : P.underlying t = some (.slice el)) (hs : szOf P el = some n) {v : Value} (h : pureA P e (.iaddr x i n) = some v) : ∃ v', Pure P o a v' ∧ VR σ v v' := by
 simp only [pureA] at h
 split at h
 ·rename_i b off m c k j hx hi
  split at h
  ·rename_i hb
   injection h with h
   subst h
   obtain ⟨l, f', c', hl, hx', hf', _⟩ := VR.slice_inv (hx ▸ ev_rel her x)
   have hi' := VR.int_inv (hi ▸ ev_rel her i)
   refine ⟨.pointer (some ⟨l.b, l.f + (off + j.toNat * n), none⟩), fun w => ?_, .ptr _ _ _ hl⟩
   simp only [execOp, ho, hx', hi', Instr.indexAt, asIntOf, Sem.run_bind, run_und hu, Result.andThen_ok, Sem.run_pure]
   rw [if_pos hb]
   simp only [Sem.run_bind, run_szOf hs, Result.andThen_ok, Sem.run_pure, add_addr, hf' (by omega), Nat.add_assoc]
  ·cases h
 ·cases h
theorem sound_aaddr (her : ER σ nt e a) {t el : TypeId} {x i : Operand} {cnt n : Nat} (ho : o.op = .indexAddr t x i)
  (hu : P.underlying t = some (.array cnt el)) (hs : szOf P el = some n) {v : Value} (h : pureA P e (.aaddr x i cnt n) = some v) : ∃ v', Pure P o a v' ∧ VR σ v v' := by
 simp only [pureA] at h
 split at h
 ·rename_i b off k j hx hi
  split at h
  ·rename_i hb
   injection h with h
   subst h
   obtain ⟨l, hl, hx'⟩ := VR.ptr_inv (hx ▸ ev_rel her x)
   have hi' := VR.int_inv (hi ▸ ev_rel her i)
   refine ⟨.pointer (some ⟨l.b, l.f + (off + j.toNat * n), none⟩), fun w => ?_, .ptr _ _ _ hl⟩
   simp only [execOp, ho, hx', hi', Instr.indexAt, asIntOf, Sem.run_bind, run_und hu, Result.andThen_ok, Sem.run_pure, Instr.sureAddr]
   rw [if_pos hb]
   simp only [Sem.run_bind, run_szOf hs, Result.andThen_ok, Sem.run_pure, add_addr, Nat.add_assoc]
  ·cases h
 ·cases h
theorem sound_nilChk (her : ER σ nt e a) {x : Operand} (ho : o.op = .nilCheck x) {v : Value} (h : pureA P e (.nilChk x) = some v) : ∃ v', Pure P o a v' ∧ VR σ v v' := by
 simp only [pureA] at h
 split at h
 ·rename_i i off hx
  injection h with h
  subst h
  obtain ⟨l, hl, hx'⟩ := VR.ptr_inv (hx ▸ ev_rel her x)
  refine ⟨_, fun w => ?_, .ptr _ _ _ hl⟩
  simp only [execOp, ho, hx', Sem.run_pure]
 ·cases h
theorem sound_mkfun (her : ER σ nt e a) {fn : Fn} {first captured : Array Operand} (ho : o.op = .makeFunc fn first captured) {v : Value} (h : pureA P e (.mkfun fn first.toList captured.toList) = some v) : ∃ v', Pure P o a v' ∧ VR σ v v' := by
 obtain ⟨first⟩ := first
 obtain ⟨captured⟩ := captured
 simp only [pureA, Option.some.injEq] at h
 subst h
 refine ⟨_, fun w => ?_, .func fn _ _ _ _ (VRs.map her first) (VRs.map her captured)⟩
 simp [execOp, ho, Instr.makeFunc]
theorem sound_mkface (her : ER σ nt e a) {t : TypeId} {x : Operand} {d : TypeDesc} (ho : o.op = .makeInterface t x) (hu : P.underlying t = some d) (hd : ∀ ms, d ≠ .interface ms) {v : Value} (h : pureA P e (.mkface t x) = some v) : ∃ v', Pure P o a v' ∧ VR σ v v' := by
 simp only [pureA, Option.some.injEq] at h
 subst h
 refine ⟨_, fun w => ?_, .iface t _ _ (ev_rel her x)⟩
 simp only [execOp, ho, Instr.makeInterface, Sem.run_bind, run_und hu, Result.andThen_ok]
 cases d <;> first | rfl | exact absurd rfl (hd _)
theorem sound_len (her : ER σ nt e a) {x : Operand} {t el : TypeId} {args : Array Operand} {ts : Array TypeId} (ho : o.op = .call ⟨.builtin .len, args, ts⟩) (ha : args.toList = [x]) (ht : ts.toList = [t])
  (hu : P.underlying t = some (.slice el)) {v : Value} (h : pureA P e (.len false x) = some v) : ∃ v', Pure P o a v' ∧ VR σ v v' := by
 obtain ⟨args⟩ := args
 obtain ⟨ts⟩ := ts
 simp only at ha ht
 subst ha ht
 simp only [pureA] at h
 split at h
 ·rename_i s n c _ hx
  injection h with h
  subst h
  obtain ⟨s', c', e1⟩ : ∃ s' c', a.eval x = .slice s' n c' := by
   have hr := hx ▸ ev_rel her x
   revert hr
   generalize a.eval x = ax
   intro hr
   cases hr <;> exact ⟨_, _, rfl⟩
  refine ⟨_, fun w => ?_, .int _ _⟩
  simp [execOp, ho, resolve, invoke, builtin, Builtin.len_, e1, run_und hu, goInt]
 ·rename_i heq _
  cases heq
 ·cases h
theorem sound_lenS (her : ER σ nt e a) {x : Operand} {t : TypeId} {args : Array Operand} {ts : Array TypeId} (ho : o.op = .call ⟨.builtin .len, args, ts⟩) (ha : args.toList = [x]) (ht : ts.toList = [t])
  (hu : P.underlying t = some .string) {v : Value} (h : pureA P e (.len true x) = some v) : ∃ v', Pure P o a v' ∧ VR σ v v' := by
 obtain ⟨args⟩ := args
 obtain ⟨ts⟩ := ts
 simp only at ha ht
 subst ha ht
 simp only [pureA] at h
 split at h
 ·rename_i heq _
  cases heq
 ·rename_i s _ hx
  injection h with h
  subst h
  have hx' := VR.string_inv (hx ▸ ev_rel her x)
  refine ⟨_, fun w => ?_, .int _ _⟩
  simp [execOp, ho, resolve, invoke, builtin, Builtin.len_, hx', run_und hu, goInt]
 ·cases h
theorem sound_max2 (her : ER σ nt e a) {x y : Operand} {args : Array Operand} {ts : Array TypeId} (ho : o.op = .call ⟨.builtin .max, args, ts⟩) (ha : args.toList = [x, y]) {v : Value} (h : pureA P e (.max2 x y) = some v) : ∃ v', Pure P o a v' ∧ VR σ v v' := by
 obtain ⟨args⟩ := args
 simp only at ha
 subst ha
 simp only [pureA] at h
 split at h
 ·rename_i k n k' m hx hy
  injection h with h
  subst h
  have hx' := VR.int_inv (hx ▸ ev_rel her x)
  have hy' := VR.int_inv (hy ▸ ev_rel her y)
  refine ⟨_, fun w => ?_, .int _ _⟩
  simp [execOp, ho, resolve, invoke, builtin, Builtin.max_, Builtin.max2, hx', hy']
 ·cases h
theorem sound_min2 (her : ER σ nt e a) {x y : Operand} {args : Array Operand} {ts : Array TypeId} (ho : o.op = .call ⟨.builtin .min, args, ts⟩) (ha : args.toList = [x, y]) {v : Value} (h : pureA P e (.min2 x y) = some v) : ∃ v', Pure P o a v' ∧ VR σ v v' := by
 obtain ⟨args⟩ := args
 simp only at ha
 subst ha
 simp only [pureA] at h
 split at h
 ·rename_i k n k' m hx hy
  injection h with h
  subst h
  have hx' := VR.int_inv (hx ▸ ev_rel her x)
  have hy' := VR.int_inv (hy ▸ ev_rel her y)
  refine ⟨_, fun w => ?_, .int _ _⟩
  simp [execOp, ho, resolve, invoke, builtin, Builtin.min_, Builtin.min2, hx', hy']
 ·cases h
end
def ext (σ : Sig) (i : Nat) (l : Loc) : Sig := fun j => if j = i then some l else σ j
theorem Sub.ext {σ : Sig} {i : Nat} (h : σ i = none) (l : Loc) : Sub σ (ext σ i l) := fun j l' e => by
 unfold Lon.ext
 by_cases hj : j = i
 ·subst hj; rw [h] at e; cases e
 ·rw [if_neg hj]; exact e
theorem mem_ne_dead {s : St} (h : s.mem = true) : s ≠ .dead := by cases s <;> first | (intro e; cases e; done) | simp [St.mem] at h
theorem own_ne_dead {s : St} (h : s.own = true) : s ≠ .dead := by cases s <;> first | (intro e; cases e; done) | simp [St.own] at h
theorem act_own {s : St} (h : s.act = true) : s.own = true := by cases s <;> first | rfl | simp [St.act] at h
theorem row_mem {s : St} (h : s.row = true) : s.mem = true := by cases s <;> first | rfl | simp [St.row] at h
theorem row_own {s : St} (h : s.row = true) : s.own = true := by cases s <;> first | rfl | simp [St.row] at h
section
variable {P : Program} {σ : Sig} {base : Nat} {H : AHeap} {w : World}
theorem HR.rowOf (h : HR P σ base H w) {i : Nat} {blk : ABlk} {l : Loc} (hg : H.get i = some blk) (hm : blk.st.mem = true) (hl : σ i = some l) (o : Nat) :
  ∀ n, o + n ≤ blk.cells.length → ∃ ds : List Value, VRs σ ((blk.cells.drop o).take n) ds ∧ ∀ j v, ds[j]? = some v → w.cell? ⟨l.b, l.f + (o + j), none⟩ = some v
 | 0, _ => ⟨[], by simpa using VRs.nil, fun j v hj => by simp at hj⟩
 | n + 1, hn => by
  obtain ⟨ds, h1, h2⟩ := h.rowOf hg hm hl o n (by omega)
  have hlt : o + n < blk.cells.length := by omega
  obtain ⟨v', hc, hv⟩ := h.cells hg hm hl (List.getElem?_eq_getElem hlt)
  have hdl : ds.length = n := by have := h1.length; simp at this; omega
  refine ⟨ds ++ [v'], ?_, fun j v hj => ?_⟩
  ·have e : (blk.cells.drop o).take (n + 1) = (blk.cells.drop o).take n ++ [blk.cells[o + n]] := by
    rw [List.take_succ_eq_append_getElem (by simp; omega)]
    simp
   rw [e]
   exact h1.append (.cons _ _ _ _ hv .nil)
  ·by_cases hj2 : j < n
   ·exact h2 j v (by rwa [List.getElem?_append_left (by omega)] at hj)
   ·rw [List.getElem?_append_right (by omega), hdl] at hj
    have hj3 : j = n := by
     rcases Nat.lt_or_ge (j - n) 1 with h3 | h3
     ·omega
     ·rw [List.getElem?_eq_none (by simpa using h3)] at hj; cases hj
    subst hj3
    simp at hj
    subst hj
    exact hc
theorem HR.pushBig (h : HR P σ base H w) (hb : base ≤ w.heap.size) {cells : List Value} {cs : Array Value} (hc : VRs σ cells (cs.toList.take cells.length)) (hle : cells.length ≤ cs.size) {elem : TypeId} {sz : Nat} (hs : (P.info? elem).map (·.size) = some sz) (A : List Nat) (hA : ∀ i ∈ A, i < H.n ∧ ∀ bi, H.get i = some bi → bi.st.own = true → bi.st = .ret) :
  HR P (ext σ H.n ⟨w.heap.size, 0, cs.size, sz⟩) base (H.push ⟨cells, elem, .tip, 0, A⟩) (w.alloc (.cells cs elem)) := by
 have hn : σ H.n = none := h.out _ (Nat.le_refl _)
 have hsub := Sub.ext hn ⟨w.heap.size, 0, cs.size, sz⟩
 have hold : ∀ j, j ≠ H.n → ext σ H.n ⟨w.heap.size, 0, cs.size, sz⟩ j = σ j := fun j hj => by simp [ext, hj]
 have hnew : ext σ H.n ⟨w.heap.size, 0, cs.size, sz⟩ H.n = some ⟨w.heap.size, 0, cs.size, sz⟩ := by simp [ext]
 have hget : ∀ i, (H.push ⟨cells, elem, .tip, 0, A⟩).get i = if i = H.n then some ⟨cells, elem, .tip, 0, A⟩ else H.get i := AHeap.get_push H _
 have hne : ∀ {i blk}, H.get i = some blk → i ≠ H.n := fun hi e => by have := AHeap.lt_of_get hi; omega
 constructor
 ·intro i blk l hg hl
  rw [hget] at hg
  by_cases hi : i = H.n
  ·subst hi
   rw [if_pos rfl] at hg
   injection hg with hg
   subst hg
   rw [hnew] at hl
   injection hl with hl
   subst hl
   exact hs
  ·rw [if_neg hi] at hg
   rw [hold i hi] at hl
   exact h.elem hg hl
 ·intro i hi
  simp at hi
  rw [hold i (by omega)]
  exact h.out i (by omega)
 ·intro i blk l hg hst hl
  rw [hget] at hg
  by_cases hi : i = H.n
  ·subst hi
   rw [hnew] at hl
   injection hl with hl
   subst hl
   simp
  ·rw [if_neg hi] at hg
   rw [hold i hi] at hl
   have := h.lt hg hst hl
   simp; omega
 ·intro i blk l hg hst hl k v hk
  rw [hget] at hg
  by_cases hi : i = H.n
  ·subst hi
   rw [if_pos rfl] at hg
   injection hg with hg
   subst hg
   rw [hnew] at hl
   injection hl with hl
   subst hl
   obtain ⟨v', h1, h2⟩ := hc.get hk
   rw [List.getElem?_take] at h1
   split at h1
   ·exact ⟨v', by simpa using h1, h2.mono hsub⟩
   ·cases h1
  ·rw [if_neg hi] at hg
   rw [hold i hi] at hl
   obtain ⟨v', h1, h2⟩ := h.cells hg hst hl hk
   exact ⟨v', by rw [World.cell?_alloc_lt _ _ _ (h.lt hg (mem_ne_dead hst) hl)]; exact h1, h2.mono hsub⟩
 ·intro i blk l hg hst hl
  rw [hget] at hg
  by_cases hi : i = H.n
  ·subst hi
   rw [if_pos rfl] at hg
   injection hg with hg
   subst hg
   cases hst
  ·rw [if_neg hi] at hg
   rw [hold i hi] at hl
   exact h.ro hg hst hl
 ·intro i blk l hg hst hl
  rw [hget] at hg
  by_cases hi : i = H.n
  ·subst hi
   rw [hnew] at hl
   injection hl with hl
   subst hl
   exact hb
  ·rw [if_neg hi] at hg
   rw [hold i hi] at hl
   exact h.own hg hst hl
 ·intro i blk l hg hst hl
  rw [hget] at hg
  by_cases hi : i = H.n
  ·subst hi
   rw [hnew] at hl
   injection hl with hl
   subst hl
   exact ⟨cs, elem, _, heap_alloc_new w _, rfl, fun _ => rfl⟩
  ·rw [if_neg hi] at hg
   rw [hold i hi] at hl
   obtain ⟨cur, e, z, h1, h2⟩ := h.row hg hst hl
   exact ⟨cur, e, z, by rw [heap_alloc_old w _ _ (h.lt hg (mem_ne_dead (row_mem hst)) hl)]; exact h1, h2⟩
 ·intro i blk l hg hst hl
  rw [hget] at hg
  by_cases hi : i = H.n
  ·subst hi
   rw [if_pos rfl] at hg
   injection hg with hg
   subst hg
   rw [hnew] at hl
   injection hl with hl
   subst hl
   simp
   omega
  ·rw [if_neg hi] at hg
   rw [hold i hi] at hl
   exact h.fits hg hst hl
 ·intro i blk l hg hst hl
  rw [hget] at hg
  by_cases hi : i = H.n
  ·subst hi
   rw [if_pos rfl] at hg
   injection hg with hg
   subst hg
   cases hst
  ·rw [if_neg hi] at hg
   rw [hold i hi] at hl
   obtain ⟨es, clock, h1, h2⟩ := h.map hg hst hl
   exact ⟨es, clock, by rw [heap_alloc_old w _ _ (h.lt hg (by rw [hst]; intro e; cases e) hl)]; exact h1, h2.mono hsub⟩
 ·intro i j bi bj li lj hij hi hj si sj hli hlj hb
  rw [hget] at hi hj
  by_cases h1 : i = H.n
  ·subst h1
   by_cases h2 : j = H.n
   ·exact absurd h2.symm hij
   ·rw [if_neg h2] at hj
    rw [hold j h2] at hlj
    rw [hnew] at hli
    injection hli with hli
    subst hli
    have := h.lt hj (own_ne_dead sj) hlj
    simp at hb
    omega
  ·rw [if_neg h1] at hi
   rw [hold i h1] at hli
   by_cases h2 : j = H.n
   ·subst h2
    rw [hnew] at hlj
    injection hlj with hlj
    subst hlj
    have := h.lt hi (own_ne_dead si) hli
    simp at hb
    omega
   ·rw [if_neg h2] at hj
    rw [hold j h2] at hlj
    exact h.sep hij hi hj si sj hli hlj hb
 ·intro i j bi bj hi hj si sj hm
  rw [hget] at hi hj
  by_cases h2 : j = H.n
  ·subst h2
   rw [if_pos rfl] at hj
   injection hj with hj
   subst hj
   have := hA i hm
   rw [if_neg (by omega)] at hi
   exact this.2 bi hi si
  ·rw [if_neg h2] at hj
   have := h.ancLt hj i hm
   rw [if_neg (by omega)] at hi
   exact h.anc hi hj si sj hm
 ·intro i j bi bj li lj hi hj si sj hm hli hlj hb
  rw [hget] at hi hj
  by_cases h2 : j = H.n
  ·subst h2
   rw [if_pos rfl] at hj
   injection hj with hj
   subst hj
   have hlt := (hA i hm).1
   rw [if_neg (by omega)] at hi
   rw [hold i (by omega)] at hli
   rw [hnew] at hlj
   injection hlj with hlj
   subst hlj
   have := h.lt hi (own_ne_dead si) hli
   simp at hb
   omega
  ·rw [if_neg h2] at hj
   have hlt := h.ancLt hj i hm
   rw [if_neg (by omega)] at hi
   rw [hold j h2] at hlj
   rw [hold i (by omega)] at hli
   exact h.ends hi hj si sj hm hli hlj hb
 ·intro j bj hj i hm
  rw [hget] at hj
  by_cases h2 : j = H.n
  ·subst h2
   rw [if_pos rfl] at hj
   injection hj with hj
   subst hj
   exact (hA i hm).1
  ·rw [if_neg h2] at hj
   exact h.ancJ hj i hm
theorem HR.push (h : HR P σ base H w) (hb : base ≤ w.heap.size) {cells : List Value} {cs : Array Value} (hc : VRs σ cells cs.toList) {elem : TypeId} {sz : Nat} (hs : (P.info? elem).map (·.size) = some sz) (A : List Nat) (hA : ∀ i ∈ A, i < H.n ∧ ∀ bi, H.get i = some bi → bi.st.own = true → bi.st = .ret) :
  HR P (ext σ H.n ⟨w.heap.size, 0, cs.size, sz⟩) base (H.push ⟨cells, elem, .tip, 0, A⟩) (w.alloc (.cells cs elem)) :=
 h.pushBig hb (by rw [← hc.length, List.take_length]; exact hc) (by have := hc.length; simp at this; omega) hs A hA
theorem Fr.push (h : HR P σ base H w) (b : ABlk) (o : Obj) (l : Loc) (hl : l.b = w.heap.size) :
  Fr σ (ext σ H.n l) H (H.push b) w (w.alloc o) where
 sub := Sub.ext (h.out _ (Nat.le_refl _)) l
 old i hi := by simp [ext]; intro e; omega
 mono := by simp
 os := rfl
 tape := rfl
 output := rfl
 size := by simp
 keep k hk _ := heap_alloc_old w o k hk
 tips j blk lj hj ha hlj := by
  rw [AHeap.get_push] at hj
  by_cases e : j = H.n
  ·subst e
   simp only [ext, if_true] at hlj
   injection hlj with hlj
   subst hlj
   exact .inl (by omega)
  ·rw [if_neg e] at hj
   simp only [ext, if_neg e] at hlj
   exact .inr ⟨j, blk, lj, hj, ha, hlj, rfl⟩
 ver i bi hi := by
  refine ⟨bi, ?_, Nat.le_refl _, rfl, fun _ => ⟨rfl, id, id⟩⟩
  rw [AHeap.get_push, if_neg (by have := AHeap.lt_of_get hi; omega)]
  exact hi
theorem HR.drewN (h : HR P σ base H w) (d : Nat) : HR P σ base H { w with drawn := d } := ⟨h.elem, h.out, h.lt, h.cells, h.ro, h.own, h.row, h.fits, h.map, h.sep, h.anc, h.ends, h.ancJ⟩
theorem Fr.drewN (σ : Sig) (H : AHeap) (w : World) (d : Nat) : Fr σ σ H H w { w with drawn := d } :=
 ⟨Sub.refl _, fun _ _ => rfl, Nat.le_refl _, rfl, rfl, rfl, Nat.le_refl _, fun _ _ _ => rfl, fun j blk l h1 h2 h3 => .inr ⟨j, blk, l, h1, h2, h3, rfl⟩, fun _ b h => ⟨b, h, Nat.le_refl _, rfl, fun _ => ⟨rfl, id, id⟩⟩⟩
end
section
variable {P : Program} {σ : Sig} {base : Nat} {H H' : AHeap} {w : World}
theorem HR.sub (h : HR P σ base H w) (hn : H'.n = H.n)
  (hs : ∀ i b', H'.get i = some b' → ∃ b, H.get i = some b ∧ b'.elem = b.elem ∧ b'.anc = b.anc ∧ b'.cells = b.cells ∧ (b'.st = b.st ∨ b'.st = .dead ∨ (b.st = .tip ∧ b'.st = .ret))) : HR P σ base H' w where
 elem hg hl := by
  obtain ⟨b, h1, h2, _⟩ := hs _ _ hg
  rw [h2]; exact h.elem h1 hl
 out i hi := h.out i (by omega)
 lt hg hst hl := by
  obtain ⟨b, h1, _, _, _, h5⟩ := hs _ _ hg
  refine h.lt h1 (fun e => ?_) hl
  rcases h5 with h5 | h5 | ⟨h5, h6⟩
  ·exact hst (h5.trans e)
  ·exact hst h5
  ·rw [e] at h5; cases h5
 cells hg hst hl k v hk := by
  obtain ⟨b, h1, _, _, h4, h5⟩ := hs _ _ hg
  refine h.cells h1 ?_ hl (by rw [← h4]; exact hk)
  rcases h5 with h5 | h5 | ⟨h5, h6⟩
  ·rw [← h5]; exact hst
  ·rw [h5] at hst; cases hst
  ·rw [h5]; rfl
 ro hg hst hl := by
  obtain ⟨b, h1, _, _, _, h5⟩ := hs _ _ hg
  refine h.ro h1 ?_ hl
  rcases h5 with h5 | h5 | ⟨h5, h6⟩
  ·rw [← h5]; exact hst
  ·rw [h5] at hst; cases hst
  ·rw [h6] at hst; cases hst
 own hg hst hl := by
  obtain ⟨b, h1, _, _, _, h5⟩ := hs _ _ hg
  refine h.own h1 ?_ hl
  rcases h5 with h5 | h5 | ⟨h5, h6⟩
  ·rw [← h5]; exact hst
  ·rw [h5] at hst; cases hst
  ·rw [h5]; rfl
 row hg hst hl := by
  obtain ⟨b, h1, _, _, _, h5⟩ := hs _ _ hg
  have hb : b.st.row = true := by
   rcases h5 with h5 | h5 | ⟨h5, h6⟩
   ·rw [← h5]; exact hst
   ·rw [h5] at hst; cases hst
   ·rw [h5]; rfl
  obtain ⟨cur, e, z, q1, q2, q3⟩ := h.row h1 hb hl
  refine ⟨cur, e, z, q1, q2, fun ht => ?_⟩
  rcases h5 with h5 | h5 | ⟨h5, h6⟩
  ·exact q3 (by rw [← h5]; exact ht)
  ·rw [ht] at h5; cases h5
  ·exact q3 h5
 fits hg hst hl := by
  obtain ⟨b, h1, _, _, h4, h5⟩ := hs _ _ hg
  rw [h4]
  refine h.fits h1 ?_ hl
  rcases h5 with h5 | h5 | ⟨h5, h6⟩
  ·rw [← h5]; exact hst
  ·rw [h5] at hst; cases hst
  ·rw [h5]; rfl
 map hg hst hl := by
  obtain ⟨b, h1, _, _, h4, h5⟩ := hs _ _ hg
  rw [h4]
  refine h.map h1 ?_ hl
  rcases h5 with h5 | h5 | ⟨h5, h6⟩
  ·rw [← h5]; exact hst
  ·rw [h5] at hst; cases hst
  ·rw [h6] at hst; cases hst
 sep hij hi hj si sj hli hlj hb := by
  obtain ⟨bi, h1, _, a1, _, s1⟩ := hs _ _ hi
  obtain ⟨bj, h2, _, a2, _, s2⟩ := hs _ _ hj
  rw [a1, a2]
  refine h.sep hij h1 h2 ?_ ?_ hli hlj hb
  ·rcases s1 with s | s | ⟨s, s'⟩
   ·rw [← s]; exact si
   ·rw [s] at si; cases si
   ·rw [s]; rfl
  ·rcases s2 with s | s | ⟨s, s'⟩
   ·rw [← s]; exact sj
   ·rw [s] at sj; cases sj
   ·rw [s]; rfl
 anc hi hj si sj hm := by
  obtain ⟨bi, h1, _, a1, _, s1⟩ := hs _ _ hi
  obtain ⟨bj, h2, _, a2, _, s2⟩ := hs _ _ hj
  rw [a2] at hm
  have q1 : bi.st.own = true := by
   rcases s1 with s | s | ⟨s, s'⟩
   ·rw [← s]; exact si
   ·rw [s] at si; cases si
   ·rw [s]; rfl
  have q2 : bj.st.own = true := by
   rcases s2 with s | s | ⟨s, s'⟩
   ·rw [← s]; exact sj
   ·rw [s] at sj; cases sj
   ·rw [s]; rfl
  have := h.anc h1 h2 q1 q2 hm
  rcases s1 with s | s | ⟨s, s'⟩
  ·rw [s]; exact this
  ·rw [s] at si; cases si
  ·exact s'
 ends hi hj si sj hm hli hlj hb := by
  obtain ⟨bi, h1, _, a1, c1, s1⟩ := hs _ _ hi
  obtain ⟨bj, h2, _, a2, c2, s2⟩ := hs _ _ hj
  rw [a2] at hm
  rw [c1, c2]
  refine h.ends h1 h2 ?_ ?_ hm hli hlj hb
  ·rcases s1 with s | s | ⟨s, s'⟩
   ·rw [← s]; exact si
   ·rw [s] at si; cases si
   ·rw [s]; rfl
  ·rcases s2 with s | s | ⟨s, s'⟩
   ·rw [← s]; exact sj
   ·rw [s] at sj; cases sj
   ·rw [s]; rfl
 ancJ hj i hm := by
  obtain ⟨bj, h2, _, a2, _⟩ := hs _ _ hj
  rw [a2] at hm
  exact h.ancJ h2 i hm
theorem kill1_sub (H : AHeap) (i : Nat) : ∀ j b', (kill1 H i).get j = some b' → ∃ b, H.get j = some b ∧ b'.elem = b.elem ∧ b'.anc = b.anc ∧ b'.cells = b.cells ∧ (b'.st = b.st ∨ b'.st = .dead ∨ (b.st = .tip ∧ b'.st = .ret)) := by
 intro j b' h
 rw [kill1_get] at h
 split at h
 ·rename_i e
  subst e
  cases hh : H.get j with
  | none => rw [hh] at h; cases h
  | some b =>
   rw [hh] at h
   simp only [Option.map_some, Option.some.injEq] at h
   subst h
   exact ⟨b, rfl, rfl, rfl, rfl, .inr (.inl rfl)⟩
 ·exact ⟨b', h, rfl, rfl, rfl, .inl rfl⟩
theorem HR.killAll : ∀ (l : List Nat) {H : AHeap}, HR P σ base H w → HR P σ base (Lon.killAll H l) w
 | [], _, h => h
 | i :: r, H, h => by
  simp only [Lon.killAll]
  exact HR.killAll r (h.sub (kill1_n H i) (kill1_sub H i))
theorem HR.retire (h : HR P σ base H w) {i : Nat} {b : ABlk} (hg : H.get i = some b) (ht : b.st = .tip) : HR P σ base (H.upd i { b with st := .ret }) w :=
 h.sub (by simp) fun j b' hj => by
  rw [AHeap.get_upd hg] at hj
  split at hj
  ·rename_i e
   subst e
   injection hj with hj
   subst hj
   exact ⟨b, hg, rfl, rfl, rfl, .inr (.inr ⟨ht, rfl⟩)⟩
  ·exact ⟨b', hj, rfl, rfl, rfl, .inl rfl⟩
theorem killAll_alive {l : List Nat} {j : Nat} {b : ABlk} (h : (killAll H l).get j = some b) (hs : b.st ≠ .dead) : j ∉ l ∧ H.get j = some b := by
 by_cases hm : j ∈ l
 ·exact absurd (killAll_get_mem l H j b hm h).1 hs
 ·exact ⟨hm, by rwa [killAll_get_not l H j hm] at h⟩
theorem HR.alone (h : HR P σ base H w) {i : Nat} {b : ABlk} {l : Loc} (hg : H.get i = some b) (ht : b.st = .tip) (hl : σ i = some l) {j : Nat} {bj : ABlk} {lj : Loc}
  (hj : (Lon.killAll H b.anc).get j = some bj) (hs : bj.st ≠ .dead) (hlj : σ j = some lj) (hji : j ≠ i) : lj.b ≠ l.b := by
 obtain ⟨h1, h2⟩ := killAll_alive hj hs
 intro e
 have hbase := h.own hg (by rw [ht]; rfl) hl
 by_cases hro : bj.st = .ro
 ·have := h.ro h2 hro hlj
  omega
 ·have hown : bj.st.own = true := by cases hh : bj.st <;> first | rfl | exact absurd hh hs | exact absurd hh hro
  rcases h.sep hji h2 hg hown (by rw [ht]; rfl) hlj hl e with h3 | h3
  ·exact h1 h3
  ·have := h.anc hg h2 (by rw [ht]; rfl) hown h3
   rw [ht] at this; cases this
theorem HR.stored (h : HR P σ base H w) {i : Nat} {b : ABlk} {l : Loc} (hg : H.get i = some b) (ht : b.st = .tip) (hl : σ i = some l)
  {cur cur' : Array Value} {e : TypeId} (hw : w.heap[l.b]? = some (.cells cur e (0, 0))) (hsz : cur'.size = cur.size) {cells : List Value} (hlen : cells.length = b.cells.length)
  (hc : ∀ k v, cells[k]? = some v → ∃ v', cur'[l.f + k]? = some v' ∧ VR σ v v') :
  HR P σ base ((Lon.killAll H b.anc).upd i ⟨cells, b.elem, .tip, b.ver + 1, []⟩) (w.setRow l.b cur') := by
 have hk := HR.killAll b.anc h
 have hni : i ∉ b.anc := fun hm => by
  have := h.anc hg hg (by rw [ht]; rfl) (by rw [ht]; rfl) hm
  rw [ht] at this; cases this
 have hgk : (Lon.killAll H b.anc).get i = some b := by rw [killAll_get_not _ _ _ hni]; exact hg
 have hget : ∀ j, ((Lon.killAll H b.anc).upd i ⟨cells, b.elem, .tip, b.ver + 1, []⟩).get j = if j = i then some ⟨cells, b.elem, .tip, b.ver + 1, []⟩ else (Lon.killAll H b.anc).get j := AHeap.get_upd hgk _
 have hrow : (w.setRow l.b cur').heap[l.b]? = some (.cells cur' e (0, 0)) := setRow_heap w l.b cur cur' e (0, 0) hw
 have hother : ∀ k, k ≠ l.b → (w.setRow l.b cur').heap[k]? = w.heap[k]? := fun k hk => by
  simp only [World.setRow, Array.getElem?_modify]
  rw [if_neg (fun e => hk e.symm)]
 have hsize : (w.setRow l.b cur').heap.size = w.heap.size := by simp [World.setRow]
 have hal : ∀ {j bj lj}, (Lon.killAll H b.anc).get j = some bj → bj.st ≠ .dead → σ j = some lj → j ≠ i → lj.b ≠ l.b := fun hj hs hlj hji => h.alone hg ht hl hj hs hlj hji
 constructor
 ·intro j bj lj hj hlj
  rw [hget] at hj
  split at hj
  ·rename_i e1
   subst e1
   injection hj with hj
   subst hj
   have := h.elem hg hlj
   exact this
  ·exact hk.elem hj hlj
 ·intro j hj
  exact hk.out j (by simpa using hj)
 ·intro j bj lj hj hs hlj
  rw [hsize]
  rw [hget] at hj
  split at hj
  ·rename_i e1
   subst e1
   exact h.lt hg (by rw [ht]; intro e; cases e) hlj
  ·exact hk.lt hj hs hlj
 ·intro j bj lj hj hs hlj k v hkv
  rw [hget] at hj
  split at hj
  ·rename_i e1
   subst e1
   injection hj with hj
   subst hj
   rw [hl] at hlj
   injection hlj with hlj
   subst hlj
   obtain ⟨v', h1, h2⟩ := hc k v hkv
   exact ⟨v', by simp [World.cell?, hrow, h1], h2⟩
  ·rename_i hji
   obtain ⟨v', h1, h2⟩ := hk.cells hj hs hlj hkv
   exact ⟨v', by rw [World.cell?_of_block (w := w) (hother _ (hal hj (mem_ne_dead hs) hlj hji))]; exact h1, h2⟩
 ·intro j bj lj hj hs hlj
  rw [hget] at hj
  split at hj
  ·injection hj with hj
   subst hj
   cases hs
  ·exact hk.ro hj hs hlj
 ·intro j bj lj hj hs hlj
  rw [hget] at hj
  split at hj
  ·rename_i e1
   subst e1
   exact h.own hg (by rw [ht]; rfl) hlj
  ·exact hk.own hj hs hlj
 ·intro j bj lj hj hs hlj
  rw [hget] at hj
  split at hj
  ·rename_i e1
   subst e1
   rw [hl] at hlj
   injection hlj with hlj
   subst hlj
   obtain ⟨cur0, e0, z, h1, h2, _⟩ := h.row hg (by rw [ht]; rfl) hl
   rw [hw] at h1
   injection h1 with h1
   injection h1 with h1 _
   subst h1
   exact ⟨cur', e, _, hrow, by omega, fun _ => rfl⟩
  ·rename_i hji
   obtain ⟨c0, e0, z, h1, h2⟩ := hk.row hj hs hlj
   exact ⟨c0, e0, z, by rw [hother _ (hal hj (mem_ne_dead (row_mem hs)) hlj hji)]; exact h1, h2⟩
 ·intro j bj lj hj hs hlj
  rw [hget] at hj
  split at hj
  ·rename_i e1
   subst e1
   injection hj with hj
   subst hj
   have := h.fits hg (by rw [ht]; rfl) hlj
   simp only
   omega
  ·exact hk.fits hj hs hlj
 ·intro j bj lj hj hs hlj
  rw [hget] at hj
  split at hj
  ·injection hj with hj
   subst hj
   cases hs
  ·rename_i hji
   obtain ⟨es, cl, h1, h2⟩ := hk.map hj hs hlj
   exact ⟨es, cl, by rw [hother _ (hal hj (by rw [hs]; intro e; cases e) hlj hji)]; exact h1, h2⟩
 ·intro j1 j2 b1 b2 l1 l2 h12 h1 h2 s1 s2 e1 e2 eb
  rw [hget] at h1 h2
  split at h1
  ·rename_i q1
   subst q1
   rw [hl] at e1
   injection e1 with e1
   subst e1
   rw [if_neg (fun q => h12 q.symm)] at h2
   exact absurd eb.symm (hal h2 (own_ne_dead s2) e2 (fun q => h12 q.symm))
  ·split at h2
   ·rename_i q1 q2
    subst q2
    rw [hl] at e2
    injection e2 with e2
    subst e2
    exact absurd eb (hal h1 (own_ne_dead s1) e1 q1)
   ·exact hk.sep h12 h1 h2 s1 s2 e1 e2 eb
 ·intro j1 j2 b1 b2 h1 h2 s1 s2 hm
  rw [hget] at h1 h2
  split at h2
  ·injection h2 with h2
   subst h2
   simp at hm
  ·split at h1
   ·rename_i q2 q1
    subst q1
    have := hk.anc hgk h2 (by rw [ht]; rfl) s2 hm
    rw [ht] at this; cases this
   ·exact hk.anc h1 h2 s1 s2 hm
 ·intro j1 j2 b1 b2 l1 l2 h1 h2 s1 s2 hm e1 e2 eb
  rw [hget] at h1 h2
  split at h2
  ·injection h2 with h2
   subst h2
   simp at hm
  ·split at h1
   ·rename_i q2 q1
    subst q1
    have := hk.anc hgk h2 (by rw [ht]; rfl) s2 hm
    rw [ht] at this; cases this
   ·exact hk.ends h1 h2 s1 s2 hm e1 e2 eb
 ·intro j bj hj x hx
  rw [hget] at hj
  split at hj
  ·injection hj with hj
   subst hj
   simp at hx
  ·exact hk.ancJ hj x hx
end
def StepOK (P : Program) (base : Nat) (σ : Sig) (H : AHeap) (w : World) (o : Oper) (a : Act) (v : Value) (H' : AHeap) : Prop :=
 ∀ (next : Act → World → Prop) (Q : Exit → Act → World → Prop),
  (∀ σ' w' v', VR σ' v v' → HR P σ' base H' w' → Fr σ σ' H H' w w' → next (a.put o.dst v') w') → o.wp P a w next Q
section
variable {P : Program} {σ : Sig} {nt base : Nat} {e : Env} {a : Act} {o : Oper} {H H' : AHeap} {w : World}
theorem StepOK.value {v : Value} {σ' : Sig} {w' : World} {v' : Value} (hr : (execOp a.eval o).run P w = .ok (.value v') w') (hv : VR σ' v v') (hh : HR P σ' base H' w') (hf : Fr σ σ' H H' w w') : StepOK P base σ H w o a v H' := by
 intro next Q h
 unfold Oper.wp
 rw [hr]
 exact h σ' w' v' hv hh hf
theorem StepOK.skip {σ' : Sig} {w' : World} (hr : (execOp a.eval o).run P w = .ok .skip w') (hh : HR P σ' base H' w') (hf : Fr σ σ' H H' w w') : StepOK P base σ H w o a (.tuple ⟨[]⟩) H' := by
 intro next Q h
 unfold Oper.wp
 rw [hr]
 exact h σ' w' undef (.tuple _ _ .nil) hh hf
theorem StepOK.pure (hh : HR P σ base H w) {v : Value} (h : ∃ v', Pure P o a v' ∧ VR σ v v') : StepOK P base σ H w o a v H := by
 obtain ⟨v', h1, h2⟩ := h
 exact .value (h1 w) h2 hh (Fr.refl _ _ _)
theorem sound_load (her : ER σ nt e a) (hh : HR P σ base H w) {t : TypeId} {x : Operand} {p : Bool × Nat} (ho : o.op = .load t x) (hs : shapeOf P t = some p) {v : Value}
  (h : readA P e H (.load x (if p.1 then some p.2 else none)) = some v) : ∃ v', (execOp a.eval o).run P w = .ok (.value v') w ∧ VR σ v v' := by
 obtain ⟨d, hd, hp1, hsz⟩ := shapeOf_inv hs
 simp only [readA] at h
 split at h
 ·rename_i i off hx
  obtain ⟨l, hl, hx'⟩ := VR.ptr_inv (hx ▸ ev_rel her x)
  split at h
  ·rename_i blk hg
   split at h
   ·rename_i hm
    split at h
    ·rename_i n hn
     split at h
     ·rename_i hle
      injection h with h
      subst h
      cases hp : p.1 with
      | false => rw [hp] at hn; cases hn
      | true =>
       rw [hp] at hn
       simp at hn
       subst hn
       obtain ⟨ds, h1, h2⟩ := hh.rowOf hg hm hl off p.2 hle
       have hdl : ds.length = p.2 := by have := h1.length; simp at this; omega
       refine ⟨.agg ⟨ds⟩, ?_, .agg _ _ h1⟩
       have hrun := run_loadCells_list (P := P) w ⟨l.b, l.f + off, none⟩ ds (fun j v hj => by rw [add_addr]; have := h2 j v hj; rwa [← Nat.add_assoc] at this)
       rw [hdl] at hrun
       simp only [execOp, ho, hx', Instr.loadAt, Instr.sureAddr, loadVar, Sem.run_bind, Sem.run_pure, Result.andThen_ok, run_isAgg hd, ← hp1, hp, if_true, run_szOf hsz, hrun]
     ·cases h
    ·rename_i hn
     cases hp : p.1 with
     | true => rw [hp] at hn; cases hn
     | false =>
      obtain ⟨v', h1, h2⟩ := hh.cells hg hm hl h
      refine ⟨v', ?_, h2⟩
      have h1' : w.cell? ⟨l.b, l.f + off, none⟩ = some v' := h1
      simp [execOp, ho, hx', Instr.loadAt, Instr.sureAddr, loadVar, run_isAgg hd, ← hp1, hp, h1']
   ·cases h
  ·cases h
 ·cases h
theorem run_bound (P : Program) (w : World) (k : IntKind) (i : Int) (y : Nat) (code : BoundsCode) (h : 0 ≤ i ∧ i ≤ y) : (Instr.sliceBound (.int k i) y code).run P w = .ok i.toNat w := by
 simp only [Instr.sliceBound, asIntOf, Sem.run_bind, Sem.run_pure, Result.andThen_ok]
 rw [if_pos h]
 rfl
theorem bnd_inv (her : ER σ nt e a) {d j : Int} {h : Option Operand} (hb : bndA e d h = some j) : (h = none ∧ j = d) ∨ ∃ q k, h = some q ∧ a.eval q = .int k j := by
 unfold bndA at hb
 split at hb
 ·injection hb with hb
  exact .inl ⟨rfl, hb.symm⟩
 ·rename_i q
  split at hb
  ·rename_i k j' hj
   injection hb with hb
   subst hb
   exact .inr ⟨q, k, rfl, VR.int_inv (hj ▸ ev_rel her q)⟩
  ·cases hb
theorem sound_slice (her : ER σ nt e a) (hh : HR P σ base H w) {t el : TypeId} {x : Operand} {lo hi : Option Operand} {s : Nat} (ho : o.op = .slice t x lo hi none) (hu : P.underlying t = some (.slice el)) (hs : szOf P el = some s) {v : Value}
  (h : readA P e H (.slice x lo hi s) = some v) : ∃ v', (execOp a.eval o).run P w = .ok (.value v') w ∧ VR σ v v' := by
 simp only [readA] at h
 split at h
 ·rename_i i off n c hx
  obtain ⟨l, f', c', hl, hx', hf', hnc, hcc, hc0, htot⟩ := VR.slice_inv (hx ▸ ev_rel her x)
  split at h
  ·rename_i hv lv s' eh elo es
   split at h
   ·rename_i hb
    injection h with h
    subst h
    obtain ⟨h1, h2, h3, h4⟩ := hb
    subst h4
    have hsz : s' = l.sz := by
     cases hg : H.get i with
     | none => rw [hg] at es; cases es
     | some b =>
      have := hh.elem hg hl
      rw [hg] at es
      simp only [Option.map_some] at es
      injection es with es
      rw [this] at es
      injection es with es
      exact es.symm
    have hrun : (execOp a.eval o).run P w = .ok (.value (.slice (if c' = lv.toNat then some ⟨l.b, f', none⟩ else (some (⟨l.b, f', none⟩ : Addr)).map (·.add (lv.toNat * s'))) (hv.toNat - lv.toNat) (c' - lv.toNat))) w := by
     rcases bnd_inv her eh with ⟨rfl, rfl⟩ | ⟨q, k, rfl, hq⟩ <;> rcases bnd_inv her elo with ⟨rfl, rfl⟩ | ⟨q', k', rfl, hq'⟩
     ·simp [execOp, ho, hx', Instr.sliceAt, run_und hu, Instr.slice, Instr.sliceBounds, run_szOf hs]
     ·have b2 := run_bound P w k' lv n .sliceB ⟨h1, by omega⟩
      simp [execOp, ho, hx', Instr.sliceAt, run_und hu, Instr.slice, Instr.sliceBounds, run_szOf hs, hq', b2]
     ·have b1 := run_bound P w k hv c' .sliceAcap ⟨by omega, by omega⟩
      simp [execOp, ho, hx', Instr.sliceAt, run_und hu, Instr.slice, Instr.sliceBounds, run_szOf hs, hq, b1]
     ·have b1 := run_bound P w k hv c' .sliceAcap ⟨by omega, by omega⟩
      have b2 := run_bound P w k' lv hv.toNat .sliceB ⟨h1, by omega⟩
      simp [execOp, ho, hx', Instr.sliceAt, run_und hu, Instr.slice, Instr.sliceBounds, run_szOf hs, hq, hq', b1, b2]
    by_cases hcl : c' = lv.toNat
    ·rw [if_pos hcl] at hrun
     refine ⟨_, hrun, ?_⟩
     have e0 : hv.toNat - lv.toNat = 0 := by omega
     rw [e0]
     refine .slice _ _ _ _ _ _ l hl (fun h => absurd h (by omega)) (by omega) (by split <;> omega) (fun h => by omega) ?_
     rw [hcl, Nat.sub_self, Nat.zero_mul]
     have : f' ≤ f' + c' * l.sz := Nat.le_add_right _ _
     omega
    ·rw [if_neg hcl] at hrun
     simp only [Option.map_some, add_addr] at hrun
     refine ⟨_, hrun, ?_⟩
     refine .slice _ _ _ _ _ _ l hl (fun h => ?_) (by omega) (by split <;> omega) (fun h => ?_) ?_
     ·rw [hf' (by omega), Nat.add_assoc]
     ·split at h
      ·rename_i hc; have := hc0 hc; omega
      ·omega
     ·rw [hsz]
      have hcl2 : lv.toNat ≤ c' := by omega
      have : lv.toNat * l.sz + (c' - lv.toNat) * l.sz = c' * l.sz := by rw [← Nat.add_mul]; congr 1; omega
      omega
   ·cases h
  ·cases h
 ·rename_i hx
  have hx' : a.eval x = .slice none 0 0 := by
   have hr := hx ▸ ev_rel her x
   revert hr
   generalize a.eval x = ax
   intro hr
   cases hr
   rfl
  split at h
  ·rename_i hv lv eh elo
   split at h
   ·rename_i hb
    injection h with h
    subst h
    obtain ⟨rfl, rfl⟩ := hb
    refine ⟨.slice none 0 0, ?_, .nilSlice⟩
    rcases bnd_inv her eh with ⟨rfl, _⟩ | ⟨q, k, rfl, hq⟩ <;> rcases bnd_inv her elo with ⟨rfl, _⟩ | ⟨q', k', rfl, hq'⟩
    ·simp [execOp, ho, hx', Instr.sliceAt, run_und hu, Instr.slice, Instr.sliceBounds, run_szOf hs]
    ·have b2 := run_bound P w k' 0 0 .sliceB ⟨by omega, by omega⟩
     simp [execOp, ho, hx', Instr.sliceAt, run_und hu, Instr.slice, Instr.sliceBounds, run_szOf hs, hq', b2]
    ·have b1 := run_bound P w k 0 0 .sliceAcap ⟨by omega, by omega⟩
     simp [execOp, ho, hx', Instr.sliceAt, run_und hu, Instr.slice, Instr.sliceBounds, run_szOf hs, hq, b1]
    ·have b1 := run_bound P w k 0 0 .sliceAcap ⟨by omega, by omega⟩
     have b2 := run_bound P w k' 0 0 .sliceB ⟨by omega, by omega⟩
     simp [execOp, ho, hx', Instr.sliceAt, run_und hu, Instr.slice, Instr.sliceBounds, run_szOf hs, hq, hq', b1, b2]
   ·cases h
  ·cases h
 ·rename_i i0 o0 k0 hx
  obtain ⟨a0, hx', hv0⟩ : ∃ a0, a.eval x = .slice (some a0) 0 0 ∧ VR σ (.slice (some ⟨i0, o0, some k0⟩) 0 0) (.slice (some a0) 0 0) := by
   have hr := hx ▸ ev_rel her x
   revert hr
   generalize a.eval x = ax
   intro hr
   cases hr
   exact ⟨_, rfl, .nilAt _⟩
  split at h
  ·rename_i hv lv eh elo
   split at h
   ·rename_i hb
    injection h with h
    subst h
    obtain ⟨rfl, rfl⟩ := hb
    refine ⟨.slice (some a0) 0 0, ?_, hv0⟩
    rcases bnd_inv her eh with ⟨rfl, _⟩ | ⟨q, k, rfl, hq⟩ <;> rcases bnd_inv her elo with ⟨rfl, _⟩ | ⟨q', k', rfl, hq'⟩
    ·simp [execOp, ho, hx', Instr.sliceAt, run_und hu, Instr.slice, Instr.sliceBounds, run_szOf hs]
    ·have b2 := run_bound P w k' 0 0 .sliceB ⟨by omega, by omega⟩
     simp [execOp, ho, hx', Instr.sliceAt, run_und hu, Instr.slice, Instr.sliceBounds, run_szOf hs, hq', b2]
    ·have b1 := run_bound P w k 0 0 .sliceAcap ⟨by omega, by omega⟩
     simp [execOp, ho, hx', Instr.sliceAt, run_und hu, Instr.slice, Instr.sliceBounds, run_szOf hs, hq, b1]
    ·have b1 := run_bound P w k 0 0 .sliceAcap ⟨by omega, by omega⟩
     have b2 := run_bound P w k' 0 0 .sliceB ⟨by omega, by omega⟩
     simp [execOp, ho, hx', Instr.sliceAt, run_und hu, Instr.slice, Instr.sliceBounds, run_szOf hs, hq, hq', b1, b2]
   ·cases h
  ·cases h
 ·cases h
theorem zeroC_inv (her : ER σ nt e a) {h : Operand} (hz : zeroC h = true) : ∃ k, a.eval h = .int k 0 := by
 unfold zeroC at hz
 split at hz
 ·exact ⟨_, rfl⟩
 ·cases hz
theorem sound_slice0 (her : ER σ nt e a) (hh : HR P σ base H w) {t el : TypeId} {x h m : Operand} (ho : o.op = .slice t x none (some h) (some m)) (hu : P.underlying t = some (.slice el)) {s : Nat} (hs : szOf P el = some s) (z1 : zeroC h = true) (z2 : zeroC m = true) {v : Value}
  (hr : readA P e H (.slice0 x) = some v) : ∃ v', (execOp a.eval o).run P w = .ok (.value v') w ∧ VR σ v v' := by
 obtain ⟨k1, q1⟩ := zeroC_inv her z1
 obtain ⟨k2, q2⟩ := zeroC_inv her z2
 simp only [readA] at hr
 split at hr
 ·rename_i i off n c hx
  obtain ⟨l, f', c', hl, hx', hf', hnc, hcc, hc0, htot⟩ := VR.slice_inv (hx ▸ ev_rel her x)
  injection hr with hr
  subst hr
  have b1 := run_bound P w k2 0 c' .slice3Acap ⟨by omega, by omega⟩
  have b2 := run_bound P w k1 0 0 .slice3B ⟨by omega, by omega⟩
  refine ⟨.slice (some ⟨l.b, f', none⟩) 0 0, ?_, .slice _ _ _ _ _ _ l hl (fun h => absurd h (by omega)) (Nat.le_refl _) (by omega) (fun _ => rfl) (by have : f' ≤ f' + c' * l.sz := Nat.le_add_right _ _; omega)⟩
  simp [execOp, ho, hx', Instr.sliceAt, run_und hu, Instr.slice, Instr.sliceBounds, run_szOf hs, q1, q2, b1, b2]
 ·rename_i hx
  have hx' : a.eval x = .slice none 0 0 := by
   have hr := hx ▸ ev_rel her x
   revert hr
   generalize a.eval x = ax
   intro hr
   cases hr
   rfl
  injection hr with hr
  subst hr
  have b1 := run_bound P w k2 0 0 .slice3Acap ⟨by omega, by omega⟩
  have b2 := run_bound P w k1 0 0 .slice3B ⟨by omega, by omega⟩
  refine ⟨.slice none 0 0, ?_, .nilSlice⟩
  simp [execOp, ho, hx', Instr.sliceAt, run_und hu, Instr.slice, Instr.sliceBounds, run_szOf hs, q1, q2, b1, b2]
 ·rename_i i0 o0 k0 hx
  obtain ⟨a0, hx', hv0⟩ : ∃ a0, a.eval x = .slice (some a0) 0 0 ∧ VR σ (.slice (some ⟨i0, o0, some k0⟩) 0 0) (.slice (some a0) 0 0) := by
   have hr := hx ▸ ev_rel her x
   revert hr
   generalize a.eval x = ax
   intro hr
   cases hr
   exact ⟨_, rfl, .nilAt _⟩
  injection hr with hr
  subst hr
  have b1 := run_bound P w k2 0 0 .slice3Acap ⟨by omega, by omega⟩
  have b2 := run_bound P w k1 0 0 .slice3B ⟨by omega, by omega⟩
  refine ⟨.slice (some a0) 0 0, ?_, hv0⟩
  simp [execOp, ho, hx', Instr.sliceAt, run_und hu, Instr.slice, Instr.sliceBounds, run_szOf hs, q1, q2, b1, b2]
 ·cases hr
end
theorem zeroOf_inv {P : Program} {t : TypeId} {z : List Value} (h : zeroOf P t = some z) : ∃ i v, P.info? t = some i ∧ i.zero = some v ∧ v.cells.toList = z := by
 unfold zeroOf at h
 cases hi : P.info? t with
 | none => rw [hi] at h; cases h
 | some i =>
  rw [hi] at h
  simp only [Option.bind_some] at h
  cases hz : i.zero with
  | none => rw [hz] at h; cases h
  | some v =>
   rw [hz] at h
   simp only [Option.map_some, Option.some.injEq] at h
   exact ⟨i, v, rfl, hz, h⟩
theorem range_cells (z : Array Value) : ∀ n, ((Array.range (n * z.size)).map (fun k => z[k % z.size]!)).toList = (List.replicate n z.toList).flatten
 | 0 => by simp
 | n + 1 => by
  have ih := range_cells z n
  simp only [Array.toList_map, Array.toList_range] at ih ⊢
  rw [List.replicate_succ', List.flatten_append, ← ih, Nat.succ_mul, List.range_add, List.map_append]
  congr 1
  simp only [List.map_map, List.flatten_cons, List.flatten_nil, List.append_nil]
  apply List.ext_getElem?
  intro k
  simp only [List.getElem?_map]
  by_cases hk : k < z.size
  ·rw [List.getElem?_range hk]
   simp only [Option.map_some, Function.comp]
   rw [Nat.mul_comm n, Nat.mul_add_mod, Nat.mod_eq_of_lt hk]
   simp [hk]
  ·rw [List.getElem?_eq_none (by simp; omega), List.getElem?_eq_none (by simp; omega)]
   rfl
def Enters (P : Program) (g : FuncId) : Prop := ∃ fn, P.funcs[g]? = some fn ∧ fn.body.isNone = false ∧ (fn.name == "runtime.NumGoroutine") = false
def Sim (P : Program) (base : Nat) (g : FuncId) (args : List Value) (H : AHeap) (v : Value) (H' : AHeap) : Prop :=
 Enters P g ∧ VerLe H H' ∧ ∀ σ w args', VRs σ args args' → HR P σ base H w → base ≤ w.heap.size →
  Calls P g ⟨args'⟩ w fun e w' => ∃ σ' v', e = .returned v' ∧ VR σ' v v' ∧ HR P σ' base H' w' ∧ Fr σ σ' H H' w w'
section
variable {P : Program} {σ : Sig} {nt base : Nat} {e : Env} {a : Act} {o : Oper} {H H' : AHeap} {w : World}
def NewOK (P : Program) (σ : Sig) (o : Oper) (a : Act) (i : Nat) (blk : ABlk) (v : Value) : Prop :=
 blk.st = .tip ∧ blk.ver = 0 ∧ blk.anc = [] ∧ ∃ (cs : Array Value) (sz : Nat), VRs σ blk.cells cs.toList ∧ szOf P blk.elem = some sz ∧
  ∀ w : World, ∃ v', (execOp a.eval o).run P w = .ok (.value v') (w.alloc (.cells cs blk.elem)) ∧ ∀ σ' : Sig, σ' i = some ⟨w.heap.size, 0, cs.size, sz⟩ → VR σ' v v'
theorem ext_new (σ : Sig) (i : Nat) (l : Loc) : ext σ i l i = some l := by simp [ext]
theorem StepOK.new (hh : HR P σ base H w) (hb : base ≤ w.heap.size) {blk : ABlk} {v : Value} (h : NewOK P σ o a H.n blk v) : StepOK P base σ H w o a v (H.push blk) := by
 obtain ⟨h1, h2, h3, cs, sz, hc, hs, hr⟩ := h
 obtain ⟨v', hr1, hr2⟩ := hr w
 obtain ⟨cells, elem, st, ver, anc⟩ := blk
 simp only at h1 h2 h3
 subst h1 h2 h3
 exact .value hr1 (hr2 _ (ext_new _ _ _)) (hh.push hb hc hs [] (fun _ h => absurd h (by simp))) (Fr.push hh _ _ _ rfl)
theorem sound_alloc (her : ER σ nt e a) {el : TypeId} {z : List Value} (ho : o.op = .alloc el) (hz : zeroOf P el = some z) (ha : z.all atom = true) (i : Nat) :
  NewOK P σ o a i ⟨z, el, .tip, 0, []⟩ (.pointer (some ⟨i, 0, none⟩)) := by
 obtain ⟨ti, v, hi, hv, rfl⟩ := zeroOf_inv hz
 refine ⟨rfl, rfl, rfl, v.cells, ti.size, VRs.of_atoms ha, by simp [szOf, hi], fun w => ⟨.pointer (some ⟨w.heap.size, 0, none⟩), ?_, fun σ' h => .ptr _ 0 _ h⟩⟩
 simp [execOp, ho, Instr.alloc, zeroValue, typeInfo, hi, hv, newVar, newRow]
theorem sound_box (her : ER σ nt e a) {el : TypeId} {x : Operand} {s : Nat} (ho : o.op = .box el x) (hs : szOf P el = some s) (hx : solid (ev e x) = true) (i : Nat) :
  NewOK P σ o a i ⟨(ev e x).cells.toList, el, .tip, 0, []⟩ (.pointer (some ⟨i, 0, none⟩)) := by
 refine ⟨rfl, rfl, rfl, (a.eval x).cells, s, VR.solid_cells hx (ev_rel her x), hs, fun w => ⟨.pointer (some ⟨w.heap.size, 0, none⟩), ?_, fun σ' h => .ptr _ 0 _ h⟩⟩
 simp [execOp, ho, Instr.box, newVar, newRow]
theorem PR.partsA (her : ER σ nt e a) (s : Nat) : ∀ l : List (Nat × Operand), PR σ (fun i => some (i * s, s)) (evParts e (Lon.partsA s l)) (l.map fun p => (p.1, a.eval p.2))
 | [] => .nil
 | (i, x) :: r => .cons i (i * s) s _ _ _ _ rfl (ev_rel her x) (PR.partsA her s r)
theorem sound_bslice (her : ER σ nt e a) {t el : TypeId} {n s : Nat} {z : List Value} {parts : Array (Nat × Operand)} (ho : o.op = .buildSlice t n parts) (hu : P.underlying t = some (.slice el))
  (hs : szOf P el = some s) (hz : zeroOf P el = some z) (ha : z.all atom = true) (hl : z.length = s) (hn : n * s ≤ 16777216) (hk : okParts (n * s) (evParts e (Lon.partsA s parts.toList)) = true) (j : Nat) :
  NewOK P σ o a j ⟨lay ((List.replicate n z).flatten) (dropSz (evParts e (Lon.partsA s parts.toList))), el, .tip, 0, []⟩ (.slice (some ⟨j, 0, none⟩) n (n + 1)) := by
 obtain ⟨i, v, hi, hv, rfl⟩ := zeroOf_inv hz
 have hvs : v.cells.size = s := by simpa using hl
 have hflat : ∀ m, ((List.replicate m v.cells.toList).flatten).length = m * s := by intro m; simp [hvs]
 have h0 : VRs σ ((List.replicate n v.cells.toList).flatten) ((Array.range (n * s)).map (fun k => (if n * s = 0 then (#[] : Array Value) else v.cells)[k % (if n * s = 0 then (#[] : Array Value) else v.cells).size]!)).toList := by
  by_cases h00 : n * s = 0
  ·have : (List.replicate n v.cells.toList).flatten = [] := List.eq_nil_of_length_eq_zero (by rw [hflat]; exact h00)
   rw [this, h00]
   simp
   exact .nil
  ·simp only [h00, if_false]
   have hr := range_cells v.cells n
   rw [hvs] at hr
   simp only [hvs]
   rw [hr]
   refine VRs.of_atoms ?_
   rw [List.all_eq_true]
   intro x hx
   simp only [List.mem_flatten, List.mem_replicate] at hx
   obtain ⟨l, ⟨_, rfl⟩, hx⟩ := hx
   exact List.all_eq_true.1 ha x hx
 obtain ⟨ds, hf, hd⟩ := fill_rel (PR.partsA her s parts.toList) h0 (by rw [hflat]; exact hk)
 have hds : ds.size = n * s := by
  have h1 := hd.length
  rw [lay_length _ _ (by rw [hflat]; exact hk), hflat] at h1
  simpa using h1
 refine ⟨rfl, rfl, rfl, ds, s, hd, hs, fun w => ⟨.slice (some ⟨w.heap.size, 0, none⟩) n n, ?_, fun σ' h => ?_⟩⟩
 ·have hf' := hf
  by_cases h00 : n * s = 0
  ·simp only [h00, if_true] at hf'
   simp at hf'
   simp [execOp, ho, Instr.buildSlice, run_und hu, run_szOf hs, h00, hf', newRow]
  ·simp only [h00, if_false] at hf'
   have hn2 : ¬ (16777216 < n * s) := by omega
   simp only [execOp, ho, Instr.buildSlice, Sem.run_bind, run_und hu, Result.andThen_ok, run_szOf hs, Sem.run_ite, if_neg h00]
   rw [if_neg (by simpa using hn2)]
   simp [zeroValue, typeInfo, hi, hv, hf', newRow]
 ·refine .slice _ _ _ _ _ _ _ h (fun _ => by simp) (Nat.le_refl _) (Nat.le_refl _) (fun h => by omega) ?_
  simp [hds]
theorem killAll_elem : ∀ (l : List Nat) {H : AHeap} {j : Nat} {b : ABlk}, (killAll H l).get j = some b → ∃ b0, H.get j = some b0 ∧ b.elem = b0.elem
 | [], _, _, b, h => ⟨b, h, rfl⟩
 | i :: r, H, j, b, h => by
  simp only [killAll] at h
  obtain ⟨b1, h1, h2⟩ := killAll_elem r h
  obtain ⟨b2, h3, h4, _⟩ := kill1_sub H i j b1 h1
  exact ⟨b2, h3, h2.trans h4⟩
theorem storeA_inv {p v : Value} {n : Nat} (h : storeA H p v n = some H') : ∃ i off blk, p = .pointer (some ⟨i, off, none⟩) ∧ H.get i = some blk ∧ blk.st = .tip ∧ v.cells.toList.length = n ∧ v.cells.toList.all one = true ∧ off + n ≤ blk.cells.length ∧
  H' = (killAll H blk.anc).upd i ⟨blk.cells.take off ++ v.cells.toList ++ blk.cells.drop (off + n), blk.elem, .tip, blk.ver + 1, []⟩ := by
 unfold storeA at h
 split at h
 ·rename_i i off
  split at h
  ·rename_i blk hg
   split at h
   ·rename_i hc
    injection h with h
    exact ⟨i, off, blk, rfl, hg, hc.1, hc.2.1, hc.2.2.1, hc.2.2.2, h.symm⟩
   ·cases h
  ·cases h
 ·cases h
theorem solid_of_one {v : Value} (h : v.cells.toList.all one = true) : solid v = true := by
 cases v <;> first | rfl | (simp [Value.cells, one] at h; done)
theorem one_rel {u u' : Value} (h : one u = true) (r : VR σ u u') : u'.oneCell' = true := by
 cases r <;> first | rfl | (simp [one] at h; done)
theorem ones_rel {xs ys : List Value} (h : xs.all one = true) (r : VRs σ xs ys) : ∀ u ∈ ys, u.oneCell' = true := by
 intro u hu
 obtain ⟨k, hk⟩ := List.mem_iff_getElem?.1 hu
 have hlt : k < ys.length := (List.getElem?_eq_some_iff.1 hk).1
 rw [r.length] at hlt
 obtain ⟨u', h1, h2⟩ := r.get (List.getElem?_eq_getElem hlt)
 rw [hk] at h1
 injection h1 with h1
 subst h1
 exact one_rel (List.all_eq_true.1 h _ (List.getElem_mem hlt)) h2
theorem Fr.stored (hh : HR P σ base H w) {i : Nat} {b b' : ABlk} {l : Loc} (hg : H.get i = some b) (ht : b.st = .tip) (hl : σ i = some l) (ht' : b'.st = .tip) (he : b'.elem = b.elem) (hv : b.ver < b'.ver) (cur' : Array Value) :
  Fr σ σ H ((killAll H b.anc).upd i b') w (w.setRow l.b cur') := by
 have hni : i ∉ b.anc := fun hm => by
  have := hh.anc hg hg (by rw [ht]; rfl) (by rw [ht]; rfl) hm
  rw [ht] at this; cases this
 have hgk : (killAll H b.anc).get i = some b := by rw [killAll_get_not _ _ _ hni]; exact hg
 refine ⟨Sub.refl _, fun _ _ => rfl, by simp [killAll_n], rfl, rfl, rfl, by simp [World.setRow], ?_, ?_, ?_⟩
 ·intro k hk hno
  have := hno i b l hg (by rw [ht]; rfl) hl
  simp only [World.setRow, Array.getElem?_modify]
  rw [if_neg this]
 ·intro j bj lj hj ha hlj
  rw [AHeap.get_upd hgk] at hj
  split at hj
  ·rename_i e1
   subst e1
   exact .inr ⟨j, b, lj, hg, by rw [ht]; rfl, hlj, rfl⟩
  ·obtain ⟨h1, h2⟩ := killAll_alive hj (own_ne_dead (act_own ha))
   exact .inr ⟨j, bj, lj, h2, ha, hlj, rfl⟩
 ·intro j bj hj
  by_cases e1 : j = i
  ·subst e1
   rw [hg] at hj
   injection hj with hj
   subst hj
   exact ⟨b', by rw [AHeap.get_upd hgk, if_pos rfl], by omega, he, fun e => by omega⟩
  ·obtain ⟨b2, h1, h2, h3⟩ := killAll_get_ex b.anc H j bj hj
   refine ⟨b2, by rw [AHeap.get_upd hgk, if_neg e1]; exact h1, h2, ?_, fun e => ?_⟩
   ·obtain ⟨b3, h4, h5⟩ := killAll_elem b.anc h1
    rw [hj] at h4
    injection h4 with h4
    subst h4
    exact h5
   ·have := h3 e
    subst this
    exact ⟨rfl, id, id⟩
theorem sound_store (her : ER σ nt e a) (hh : HR P σ base H w) {t : TypeId} {p x : Operand} {n : Nat} (ho : o.op = .store t p x) (hs : szOf P t = some n)
  (h : storeA H (ev e p) (ev e x) n = some H') : StepOK P base σ H w o a (.tuple ⟨[]⟩) H' := by
 obtain ⟨i, off, blk, hp, hg, ht, hlen, hone, hle, rfl⟩ := storeA_inv h
 obtain ⟨l, hl, hp'⟩ := VR.ptr_inv (hp ▸ ev_rel her p)
 have hvc := VR.solid_cells (solid_of_one hone) (ev_rel her x)
 have h1 := ones_rel hone hvc
 have hlen' : (a.eval x).cells.toList.length = n := by rw [hvc.length]; exact hlen
 obtain ⟨cur, e0, z, hw, htot, hz⟩ := hh.row hg (by rw [ht]; rfl) hl
 obtain rfl := hz ht
 have hin : l.f + blk.cells.length ≤ cur.size := by
  have := hh.fits hg (by rw [ht]; rfl) hl
  omega
 have hrun := run_storeCells_at P l.b (l.f + off) e0 (a.eval x).cells.toList 0 cur w hw (by rw [hlen']; omega) h1
 simp only [Nat.add_zero] at hrun
 have hstep : (execOp a.eval o).run P w = .ok .skip (w.setRow l.b (cur.toList.take (l.f + off) ++ (a.eval x).cells.toList ++ cur.toList.drop (l.f + off + (a.eval x).cells.toList.length)).toArray) := by
  have hsz : (a.eval x).cells.size = n := by simpa using hlen'
  simp only [execOp, ho, hp', Instr.storeAt, Instr.sureAddr, Sem.run_bind, Sem.run_pure, Result.andThen_ok, storeVar, run_szOf hs, Sem.run_ite]
  rw [if_neg (by simp [hsz])]
  simp only [Sem.run_pure, Result.andThen_ok, hrun]
 have hcurl : cur.toList.length = cur.size := by simp
 refine StepOK.skip hstep (hh.stored hg ht hl hw ?_ ?_ ?_) ?_
 rotate_left 3
 ·refine Fr.stored hh hg ht hl ?_ ?_ ?_ _ <;> simp
 ·simp [hlen']; omega
 ·simp [hlen]; omega
 ·intro k v hk
  simp only [List.getElem?_toArray]
  by_cases c1 : k < off
  ·rw [List.append_assoc, List.getElem?_append_left (by simp; omega), List.getElem?_take, if_pos c1] at hk
   obtain ⟨v', hc, hv⟩ := hh.cells hg (by rw [ht]; rfl) hl hk
   refine ⟨v', ?_, hv⟩
   rw [List.append_assoc, List.getElem?_append_left (by simp; omega), List.getElem?_take, if_pos (by omega)]
   simp only [World.cell?, hw] at hc
   simpa using hc
  ·by_cases c2 : k < off + n
   ·rw [List.getElem?_append_left (by simp [hlen]; omega), List.getElem?_append_right (by simp; omega)] at hk
    have e1 : (blk.cells.take off).length = off := by simp; omega
    rw [e1] at hk
    obtain ⟨v', h3, h4⟩ := hvc.get hk
    refine ⟨v', ?_, h4⟩
    have e2 : (cur.toList.take (l.f + off)).length = l.f + off := by simp; omega
    rw [List.getElem?_append_left (by simp [hlen']; omega), List.getElem?_append_right (by rw [e2]; omega), e2]
    rw [show l.f + k - (l.f + off) = k - off by omega]
    exact h3
   ·rw [List.getElem?_append_right (by simp [hlen]; omega), List.getElem?_drop] at hk
    have e1 : (blk.cells.take off ++ (ev e x).cells.toList).length = off + n := by simp [hlen]; omega
    rw [e1] at hk
    rw [show off + n + (k - (off + n)) = k by omega] at hk
    obtain ⟨v', hc, hv⟩ := hh.cells hg (by rw [ht]; rfl) hl hk
    refine ⟨v', ?_, hv⟩
    have e2 : (cur.toList.take (l.f + off) ++ (a.eval x).cells.toList).length = l.f + off + n := by simp [hlen']; omega
    rw [List.getElem?_append_right (by rw [e2]; omega), e2, List.getElem?_drop, hlen']
    rw [show l.f + off + n + (l.f + k - (l.f + off + n)) = l.f + k by omega]
    simp only [World.cell?, hw] at hc
    simpa using hc
theorem sound_call {cf : CallF} (hcf : ∀ g args H v H', cf g args H = some (v, H') → Sim P base g args H v H') (her : ER σ nt e a) (hh : HR P σ base H w) (hb : base ≤ w.heap.size) {f : Operand} {args : Array Operand} {ts : Array TypeId}
  (ho : o.op = .call ⟨.value f, args, ts⟩) {v : Value} (h : stepA P cf e H (.call f args.toList) = some (v, H')) : StepOK P base σ H w o a v H' := by
 simp only [stepA] at h
 split at h
 ·rename_i g first captured hf
  obtain ⟨first', captured', hf', h1, h2⟩ := VR.func_inv (hf ▸ ev_rel her f)
  obtain ⟨⟨fn, hfn, hbody, hname⟩, _, hcalls⟩ := hcf _ _ _ _ _ h
  have hargs : VRs σ (first.toList ++ args.toList.map (ev e) ++ captured.toList) (first'.toList ++ args.toList.map a.eval ++ captured'.toList) := (h1.append (VRs.map her args.toList)).append h2
  have hc := hcalls σ w _ hargs hh hb
  intro next Q hnext
  unfold Oper.wp
  have hrun : (execOp a.eval o).run P w = .ok (.enter g (first' ++ args.map a.eval ++ captured')) w := by
   have hn' : ¬ fn.name = "runtime.NumGoroutine" := by simpa using hname
   have hb' : ¬ fn.body = none := by intro e; rw [e] at hbody; cases hbody
   simp [execOp, ho, resolve, hf', Deferred.ofValue, invoke, callFunc, hfn, hn', hb']
  rw [hrun]
  have he : (first' ++ args.map a.eval ++ captured') = ⟨first'.toList ++ args.toList.map a.eval ++ captured'.toList⟩ := by
   apply Array.toList_inj.1
   simp
  simp only [Oper.upon]
  rw [he]
  refine Calls.mono hc fun e w' hq => ?_
  obtain ⟨σ', v', rfl, q1, q2, q3⟩ := hq
  exact hnext σ' w' v' q1 q2 q3
 ·cases h
end
section
variable {P : Program} {σ : Sig} {nt base : Nat} {e : Env} {a : Act} {o : Oper} {H H' : AHeap} {w : World}
theorem HR.onto (h : HR P σ base H w) {b f tot sz : Nat} (hb : base ≤ b) {cur cur' : Array Value} {e0 : TypeId} (hw : w.heap[b]? = some (.cells cur e0 (0, 0))) (hcs : cur.size = tot) (hcs' : cur'.size = tot) {elem : TypeId} (hs : (P.info? elem).map (·.size) = some sz)
  {A : List Nat} (hA : ∀ i ∈ A, i < H.n ∧ ∀ bi, H.get i = some bi → bi.st.own = true → bi.st = .ret) {lim : Nat}
  (hal : ∀ {j bj lj}, H.get j = some bj → bj.st ≠ .dead → σ j = some lj → lj.b = b → bj.st.row = true ∧ j ∈ A ∧ lj.f + bj.cells.length ≤ lim) (hkeep : ∀ k, k < lim → cur'[k]? = cur[k]?)
  {cells : List Value} (hc : ∀ k v, cells[k]? = some v → ∃ v', cur'[f + k]? = some v' ∧ VR σ v v') (hfit : f + cells.length ≤ tot) (hend : A ≠ [] → lim ≤ f + cells.length) :
  HR P (ext σ H.n ⟨b, f, tot, sz⟩) base (H.push ⟨cells, elem, .tip, 0, A⟩) (w.setRow b cur') := by
 have hn : σ H.n = none := h.out _ (Nat.le_refl _)
 have hsub := Sub.ext hn ⟨b, f, tot, sz⟩
 have hold : ∀ j, j ≠ H.n → ext σ H.n ⟨b, f, tot, sz⟩ j = σ j := fun j hj => by simp [ext, hj]
 have hnew : ext σ H.n ⟨b, f, tot, sz⟩ H.n = some ⟨b, f, tot, sz⟩ := by simp [ext]
 have hget : ∀ i, (H.push ⟨cells, elem, .tip, 0, A⟩).get i = if i = H.n then some ⟨cells, elem, .tip, 0, A⟩ else H.get i := AHeap.get_push H _
 have hrow : (w.setRow b cur').heap[b]? = some (.cells cur' e0 (0, 0)) := setRow_heap w b cur cur' e0 (0, 0) hw
 have hother : ∀ k, k ≠ b → (w.setRow b cur').heap[k]? = w.heap[k]? := fun k hk => by
  simp only [World.setRow, Array.getElem?_modify]
  rw [if_neg (fun e => hk e.symm)]
 have hsize : (w.setRow b cur').heap.size = w.heap.size := by simp [World.setRow]
 have hlt : b < w.heap.size := (Array.getElem?_eq_some_iff.1 hw).1
 constructor
 ·intro i blk l hg hl
  rw [hget] at hg
  by_cases hi : i = H.n
  ·subst hi
   rw [if_pos rfl] at hg
   injection hg with hg
   subst hg
   rw [hnew] at hl
   injection hl with hl
   subst hl
   exact hs
  ·rw [if_neg hi] at hg
   rw [hold i hi] at hl
   exact h.elem hg hl
 ·intro i hi
  simp at hi
  rw [hold i (by omega)]
  exact h.out i (by omega)
 ·intro i blk l hg hst hl
  rw [hsize]
  rw [hget] at hg
  by_cases hi : i = H.n
  ·subst hi
   rw [hnew] at hl
   injection hl with hl
   subst hl
   exact hlt
  ·rw [if_neg hi] at hg
   rw [hold i hi] at hl
   exact h.lt hg hst hl
 ·intro i blk l hg hst hl k v hk
  rw [hget] at hg
  by_cases hi : i = H.n
  ·subst hi
   rw [if_pos rfl] at hg
   injection hg with hg
   subst hg
   rw [hnew] at hl
   injection hl with hl
   subst hl
   obtain ⟨v', h1, h2⟩ := hc k v hk
   exact ⟨v', by simp [World.cell?, hrow, h1], h2.mono hsub⟩
  ·rw [if_neg hi] at hg
   rw [hold i hi] at hl
   obtain ⟨v', h1, h2⟩ := h.cells hg hst hl hk
   refine ⟨v', ?_, h2.mono hsub⟩
   by_cases e1 : l.b = b
   ·obtain ⟨_, _, hle⟩ := hal hg (mem_ne_dead hst) hl e1
    have hkl : k < blk.cells.length := (List.getElem?_eq_some_iff.1 hk).1
    rw [e1] at h1 ⊢
    simp only [World.cell?, hw] at h1
    simp only [World.cell?, hrow, hkeep (l.f + k) (by omega)]
    exact h1
   ·rw [World.cell?_of_block (w := w) (hother _ e1)]
    exact h1
 ·intro i blk l hg hst hl
  rw [hget] at hg
  by_cases hi : i = H.n
  ·subst hi
   rw [if_pos rfl] at hg
   injection hg with hg
   subst hg
   cases hst
  ·rw [if_neg hi] at hg
   rw [hold i hi] at hl
   exact h.ro hg hst hl
 ·intro i blk l hg hst hl
  rw [hget] at hg
  by_cases hi : i = H.n
  ·subst hi
   rw [hnew] at hl
   injection hl with hl
   subst hl
   exact hb
  ·rw [if_neg hi] at hg
   rw [hold i hi] at hl
   exact h.own hg hst hl
 ·intro i blk l hg hst hl
  rw [hget] at hg
  by_cases hi : i = H.n
  ·subst hi
   rw [hnew] at hl
   injection hl with hl
   subst hl
   exact ⟨cur', e0, _, hrow, hcs', fun _ => rfl⟩
  ·rw [if_neg hi] at hg
   rw [hold i hi] at hl
   obtain ⟨c0, e1, z, h1, h2⟩ := h.row hg hst hl
   by_cases e2 : l.b = b
   ·rw [e2, hw] at h1
    injection h1 with h1
    injection h1 with h1 _
    subst h1
    exact ⟨cur', e0, _, by rw [e2]; exact hrow, by omega, fun _ => rfl⟩
   ·exact ⟨c0, e1, z, by rw [hother _ e2]; exact h1, h2⟩
 ·intro i blk l hg hst hl
  rw [hget] at hg
  by_cases hi : i = H.n
  ·subst hi
   rw [if_pos rfl] at hg
   injection hg with hg
   subst hg
   rw [hnew] at hl
   injection hl with hl
   subst hl
   exact hfit
  ·rw [if_neg hi] at hg
   rw [hold i hi] at hl
   exact h.fits hg hst hl
 ·intro i blk l hg hst hl
  rw [hget] at hg
  by_cases hi : i = H.n
  ·subst hi
   rw [if_pos rfl] at hg
   injection hg with hg
   subst hg
   cases hst
  ·rw [if_neg hi] at hg
   rw [hold i hi] at hl
   obtain ⟨es, clock, h1, h2⟩ := h.map hg hst hl
   have e1 : l.b ≠ b := fun e1 => by
    have := (hal hg (by rw [hst]; intro e; cases e) hl e1).1
    rw [hst] at this; cases this
   exact ⟨es, clock, by rw [hother _ e1]; exact h1, h2.mono hsub⟩
 ·intro i j bi bj li lj hij hi hj si sj hli hlj hbb
  rw [hget] at hi hj
  by_cases h1 : i = H.n
  ·subst h1
   by_cases h2 : j = H.n
   ·exact absurd h2.symm hij
   ·rw [if_pos rfl] at hi
    injection hi with hi
    subst hi
    rw [if_neg h2] at hj
    rw [hold j h2] at hlj
    rw [hnew] at hli
    injection hli with hli
    subst hli
    exact .inr (hal hj (own_ne_dead sj) hlj hbb.symm).2.1
  ·rw [if_neg h1] at hi
   rw [hold i h1] at hli
   by_cases h2 : j = H.n
   ·subst h2
    rw [if_pos rfl] at hj
    injection hj with hj
    subst hj
    rw [hnew] at hlj
    injection hlj with hlj
    subst hlj
    exact .inl (hal hi (own_ne_dead si) hli hbb).2.1
   ·rw [if_neg h2] at hj
    rw [hold j h2] at hlj
    exact h.sep hij hi hj si sj hli hlj hbb
 ·intro i j bi bj hi hj si sj hm
  rw [hget] at hi hj
  by_cases h2 : j = H.n
  ·subst h2
   rw [if_pos rfl] at hj
   injection hj with hj
   subst hj
   have := hA i hm
   rw [if_neg (by omega)] at hi
   exact this.2 bi hi si
  ·rw [if_neg h2] at hj
   have := h.ancLt hj i hm
   rw [if_neg (by omega)] at hi
   exact h.anc hi hj si sj hm
 ·intro i j bi bj li lj hi hj si sj hm hli hlj hbb
  rw [hget] at hi hj
  by_cases h2 : j = H.n
  ·subst h2
   rw [if_pos rfl] at hj
   injection hj with hj
   subst hj
   have hlt := (hA i hm).1
   rw [if_neg (by omega)] at hi
   rw [hold i (by omega)] at hli
   rw [hnew] at hlj
   injection hlj with hlj
   subst hlj
   have := (hal hi (own_ne_dead si) hli hbb).2.2
   have := hend (fun e => by rw [e] at hm; simp at hm)
   simp only
   omega
  ·rw [if_neg h2] at hj
   have hlt := h.ancLt hj i hm
   rw [if_neg (by omega)] at hi
   rw [hold j h2] at hlj
   rw [hold i (by omega)] at hli
   exact h.ends hi hj si sj hm hli hlj hbb
 ·intro j bj hj i hm
  rw [hget] at hj
  by_cases h2 : j = H.n
  ·subst h2
   rw [if_pos rfl] at hj
   injection hj with hj
   subst hj
   exact (hA i hm).1
  ·rw [if_neg h2] at hj
   exact h.ancJ hj i hm
end
section
variable {P : Program} {σ : Sig} {nt base : Nat} {e : Env} {a : Act} {o : Oper} {H H' : AHeap} {w : World}
theorem cells_rel (hh : HR P σ base H w) {sz : Nat} {p : Option Addr} {n c : Nat} {cs : List Value} {v' : Value} (hc : cellsOf H sz (.slice p n c) = some cs) (hv : VR σ (.slice p n c) v') :
  ∃ A c' ds, v' = .slice A n c' ∧ VRs σ cs ds ∧ cs.length = n * sz ∧ (A = none → n = 0 ∧ p = none) ∧ (p = none → A = none ∧ n = 0 ∧ c' = 0) ∧ ∀ ad, A = some ad → ∀ j v, ds[j]? = some v → w.cell? (ad.add j) = some v := by
 unfold cellsOf at hc
 split at hc
 ·injection hc with hc
  rename_i heq
  injection heq with h1 h2 h3
  subst h1 h2 h3 hc
  cases hv
  exact ⟨none, 0, [], rfl, .nil, (by simp), (fun _ => ⟨rfl, rfl⟩), (fun _ => ⟨rfl, rfl, rfl⟩), (fun ad h => by cases h)⟩
 ·rename_i i off n0 c0 heq
  injection heq with h1 h2 h3
  subst h1 h2 h3
  obtain ⟨l, f', c', hl, rfl, hf', hnc, hcc, hc0, htot⟩ := VR.slice_inv hv
  split at hc
  ·rename_i hn0
   injection hc with hc
   subst hc hn0
   exact ⟨some ⟨l.b, f', none⟩, c', [], rfl, .nil, (by simp), (fun h => by cases h), (fun h => by cases h), (fun ad _ j v hj => by simp at hj)⟩
  ·rename_i hn0
   split at hc
   ·rename_i blk hg
    split at hc
    ·rename_i hm
     injection hc with hc
     subst hc
     obtain ⟨ds, h1, h2⟩ := hh.rowOf hg hm.1 hl off (n * sz) hm.2
     refine ⟨some ⟨l.b, f', none⟩, c', ds, rfl, h1, (by simp; omega), (fun h => by cases h), (fun h => by cases h), (fun ad had j v hj => ?_)⟩
     injection had with had
     subst had
     rw [add_addr, hf' (by omega), Nat.add_assoc]
     exact h2 j v hj
    ·cases hc
   ·cases hc
 ·injection hc with hc
  rename_i heq
  injection heq with h1 h2 h3
  subst h1 h2 h3 hc
  cases hv
  exact ⟨some _, 0, [], rfl, .nil, (by simp), (fun h => by cases h), (fun h => by cases h), (fun ad _ j v hj => by simp at hj)⟩
 ·cases hc
theorem run_exec_append {args : Array Operand} {ts : Array TypeId} {s x : Operand} {t : TypeId} {v u r : Value} {w' : World} (ho : o.op = .call ⟨.builtin .append, args, ts⟩) (ha : args.toList = [s, x]) (ht : ts.toList = [t, t]) (hs : a.eval s = v) (hx : a.eval x = u)
  (hr : (Builtin.append_ #[t, t] o.type #[v, u]).run P w = .ok r w') : (execOp a.eval o).run P w = .ok (.value r) w' := by
 obtain ⟨args⟩ := args
 obtain ⟨ts⟩ := ts
 simp only at ha ht
 subst ha ht
 unfold execOp
 simp only [ho, resolve, invoke, builtin, Sem.run_bind, Sem.run_pure, Result.andThen_ok, List.map_toArray, List.map_cons, List.map_nil, hs, hx, hr]
theorem run_append_zero {t ty el : TypeId} {i : TypeInfo} (hu : P.underlying t = some (.slice el)) (hi : P.info? el = some i) (A A' : Option Addr) (n c c' : Nat) (hnc : n ≤ c) :
  (Builtin.append_ #[t, t] ty #[.slice A n c, .slice A' 0 c']).run P w = .ok (.slice A n c) w := by
 cases A <;> cases A' <;> simp [Builtin.append_, run_und hu, Go.sizeOf, typeInfo, hi, Builtin.lenOf, hnc, Builtin.firstCells, loadCells, loadCellsFrom, storeCells]
theorem run_append_room' {t ty el : TypeId} {i : TypeInfo} (hu : P.underlying t = some (.slice el)) (hi : P.info? el = some i) (g f n c : Nat) {cur : Array Value} {e0 : TypeId} (hg : w.heap[g]? = some (.cells cur e0 (0, 0)))
  (ad : Addr) (m c' : Nat) {news : List Value} (hl : news.length = m * i.size) (hnews : ∀ j u, news[j]? = some u → w.cell? (ad.add j) = some u) (h1 : ∀ u ∈ news, u.oneCell' = true) (hroom : n + m ≤ c) (hfit : f + n * i.size + news.length ≤ cur.size) :
  (Builtin.append_ #[t, t] ty #[.slice (some ⟨g, f, none⟩) n c, .slice (some ad) m c']).run P w =
   .ok (.slice (some ⟨g, f, none⟩) (n + m) c) (w.setRow g (cur.toList.take (f + n * i.size) ++ news ++ cur.toList.drop (f + n * i.size + news.length)).toArray) := by
 have hf := run_firstCells_some (P := P) w i.size m ad m c' news hl hnews
 have hst := run_storeCells_at P g (f + n * i.size) e0 news 0 cur w hg (by simpa using hfit) h1
 simp only [Nat.add_zero] at hst
 simp [Builtin.append_, run_und hu, Go.sizeOf, typeInfo, hi, Builtin.lenOf, hroom, hf, add_addr, hst]
theorem grown_fits {w : World} {n m sz zs old : Nat} {el : TypeId} (hz : zs = sz) : (n + m) * sz + (grownCap w (n + m) old el - (n + m)) * zs = grownCap w (n + m) old el * sz := by
 subst hz
 have := grownCap_ge w (n + m) old el
 rw [← Nat.add_mul]
 congr 1
 omega
theorem StepOK.grown {H1 : AHeap} (hh : HR P σ base H w) (hb : base ≤ w.heap.size) (h1 : HR P σ base H1 w) (hf1 : Fr σ σ H H1 w w) {A : List Nat} (hA : ∀ i ∈ A, i < H1.n ∧ ∀ bi, H1.get i = some bi → bi.st.own = true → bi.st = .ret)
  {cells : List Value} {ds : List Value} (hc : VRs σ cells ds) {el : TypeId} {i : TypeInfo} {z : Value} (hi : P.info? el = some i) (hzs : z.cells.size = i.size) {n m old : Nat} (hlen : ds.length = (n + m) * i.size) (h0 : 0 < n + m)
  (hr : (execOp a.eval o).run P w = .ok (.value (.slice (some ⟨w.heap.size, 0, none⟩) (n + m) (grownCap w (n + m) old el))) (w.drew.alloc (.cells (ds.toArray ++ Builtin.zeroCells z.cells (grownCap w (n + m) old el - (n + m))) el))) :
  StepOK P base σ H w o a (.slice (some ⟨H1.n, 0, none⟩) (n + m) (n + m + 1)) (H1.push ⟨cells, el, .tip, 0, A⟩) := by
 have hd := h1.drewN (w.drawn + 1)
 have hcs : VRs σ cells ((ds.toArray ++ Builtin.zeroCells z.cells (grownCap w (n + m) old el - (n + m))).toList.take cells.length) := by
  have : (ds.toArray ++ Builtin.zeroCells z.cells (grownCap w (n + m) old el - (n + m))).toList.take cells.length = ds := by
   simp only [Array.toList_append]
   rw [← hc.length, List.take_left']
   simp
  rw [this]; exact hc
 have hsize : (ds.toArray ++ Builtin.zeroCells z.cells (grownCap w (n + m) old el - (n + m))).size = grownCap w (n + m) old el * i.size := by
  have := grown_fits (w := w) (n := n) (m := m) (old := old) (el := el) hzs
  simp only [Array.size_append, List.size_toArray, size_zeroCells, hlen]
  exact this
 have hp := hd.pushBig (by simpa using hb) hcs (by rw [hsize, ← hc.length, hlen]; exact Nat.mul_le_mul_right _ (grownCap_ge w (n + m) old el)) (elem := el) (sz := i.size) (by simp [hi]) A hA
 refine StepOK.value hr ?_ hp ((hf1.trans (Fr.drewN σ H1 w (w.drawn + 1))).trans (Fr.push hd _ _ _ rfl))
 refine .slice _ _ _ _ _ _ _ (ext_new _ _ _) (fun _ => by simp) (grownCap_ge _ _ _ _) (by have := grownCap_ge w (n + m) old el; omega) (fun h => by omega) ?_
 simp only [hsize, Nat.zero_add]
 exact Nat.le_refl _
end
section
variable {P : Program} {σ : Sig} {nt base : Nat} {e : Env} {a : Act} {o : Oper} {H H' : AHeap} {w : World}
theorem Fr.lower (hh : HR P σ base H w) {H1 : AHeap} (hn : H1.n = H.n)
  (hs : ∀ i b', H1.get i = some b' → b'.st.act = true → ∃ b, H.get i = some b ∧ b.st.act = true)
  (hv : ∀ i b, H.get i = some b → ∃ b', H1.get i = some b' ∧ b.ver ≤ b'.ver ∧ b'.elem = b.elem ∧ (b'.ver = b.ver → b'.cells = b.cells ∧ (b.st.mem = true → b'.st.mem = true) ∧ (b.st = .map → b'.st = .map))) : Fr σ σ H H1 w w :=
 ⟨Sub.refl _, fun _ _ => rfl, by omega, rfl, rfl, rfl, Nat.le_refl _, fun _ _ _ => rfl, fun j b' l hj ha hl => by
  obtain ⟨b, h1, h2⟩ := hs j b' hj ha
  exact .inr ⟨j, b, l, h1, h2, hl, rfl⟩, hv⟩
theorem Fr.kill (hh : HR P σ base H w) (l : List Nat) : Fr σ σ H (killAll H l) w w :=
 Fr.lower hh (killAll_n _ _) (fun i b' h ha => ⟨b', (killAll_alive h (own_ne_dead (act_own ha))).2, ha⟩) (fun i b hb => by
  obtain ⟨b', h1, h2, h3⟩ := killAll_get_ex l H i b hb
  obtain ⟨b3, h4, h5⟩ := killAll_elem l h1
  rw [hb] at h4
  injection h4 with h4
  subst h4
  exact ⟨b', h1, h2, h5, fun e => by rw [h3 e]; exact ⟨rfl, id, id⟩⟩)
theorem Fr.retire (hh : HR P σ base H w) {i : Nat} {b : ABlk} (hg : H.get i = some b) (ht : b.st = .tip) : Fr σ σ H (H.upd i { b with st := .ret }) w w :=
 Fr.lower hh (by simp) (fun j b' h ha => by
  rw [AHeap.get_upd hg] at h
  split at h
  ·injection h with h
   subst h
   cases ha
  ·exact ⟨b', h, ha⟩) (fun j bj hj => by
  rw [AHeap.get_upd hg]
  by_cases e1 : j = i
  ·subst e1
   rw [hg] at hj
   injection hj with hj
   subst hj
   exact ⟨_, if_pos rfl, Nat.le_refl _, rfl, fun _ => ⟨rfl, fun _ => rfl, fun e => by rw [ht] at e; cases e⟩⟩
  ·exact ⟨bj, by rw [if_neg e1]; exact hj, Nat.le_refl _, rfl, fun _ => ⟨rfl, id, id⟩⟩)
theorem Fr.onto {H1 : AHeap} (hh : HR P σ base H w) (h1 : HR P σ base H1 w) (hf1 : Fr σ σ H H1 w w) {i : Nat} {b : ABlk} {l : Loc} (hg : H.get i = some b) (ht : b.st = .tip) (hl : σ i = some l) (nb : ABlk) (loc : Loc) (hloc : loc.b = l.b) (cur' : Array Value) :
  Fr σ (ext σ H1.n loc) H (H1.push nb) w (w.setRow l.b cur') where
 sub := Sub.ext (h1.out _ (Nat.le_refl _)) loc
 old j hj := by
  have := hf1.mono
  simp [ext]; intro e; omega
 mono := by have := hf1.mono; simp; omega
 os := rfl
 tape := rfl
 output := rfl
 size := by simp [World.setRow]
 keep k hk hno := by
  have := hno i b l hg (by rw [ht]; rfl) hl
  simp only [World.setRow, Array.getElem?_modify]
  rw [if_neg this]
 tips j bj lj hj ha hlj := by
  rw [AHeap.get_push] at hj
  by_cases e : j = H1.n
  ·subst e
   simp only [ext, if_true] at hlj
   injection hlj with hlj
   subst hlj
   exact .inr ⟨i, b, l, hg, by rw [ht]; rfl, hl, hloc.symm⟩
  ·rw [if_neg e] at hj
   simp only [ext, if_neg e] at hlj
   rcases hf1.tips j bj lj hj ha hlj with h | h
   ·exact .inl h
   ·exact .inr h
 ver j bj hj := by
  obtain ⟨b', q1, q2⟩ := hf1.ver j bj hj
  exact ⟨b', by rw [AHeap.get_push, if_neg (by have := AHeap.lt_of_get q1; omega)]; exact q1, q2⟩
theorem sound_append (her : ER σ nt e a) (hh : HR P σ base H w) (hb : base ≤ w.heap.size) {t el : TypeId} {args : Array Operand} {ts : Array TypeId} {s x : Operand} {i : TypeInfo} {z : List Value}
  (ho : o.op = .call ⟨.builtin .append, args, ts⟩) (ha : args.toList = [s, x]) (hts : ts.toList = [t, t]) (hu : P.underlying t = some (.slice el)) (hi : P.info? el = some i) (hz : zeroOf P el = some z) (hzl : z.length = i.size) (hby : 0 < i.bytes)
  {v : Value} (h : appendA H (ev e s) (ev e x) el i.size i.bytes = some (v, H')) : StepOK P base σ H w o a v H' := by
 obtain ⟨i', zv, hi', hzv, rfl⟩ := zeroOf_inv hz
 rw [hi] at hi'
 injection hi' with hi'
 subst hi'
 have hzs : zv.cells.size = i.size := by simpa using hzl
 unfold appendA at h
 split at h
 case h_2 => cases h
 rename_i sv xv p n c p' m c' hsv hxv
 split at h
 case h_2 => cases h
 rename_i old new hold hnew
 have hsr := hsv ▸ ev_rel her s
 have hxr := hxv ▸ ev_rel her x
 obtain ⟨A, cA, ods, hsa, hor, hol, hA1, hA2, hA3⟩ := cells_rel hh hold hsr
 obtain ⟨X, cX, nds, hxa, hnr, hnl, hX1, hX2, hX3⟩ := cells_rel hh hnew hxr
 have hodl : ods.length = n * i.size := by rw [hor.length]; exact hol
 have hndl : nds.length = m * i.size := by rw [hnr.length]; exact hnl
 have hncA : n ≤ cA := by
  rw [hsa] at hsr
  cases hsr with
  | nilSlice => omega
  | nilAt => omega
  | slice _ _ _ _ _ _ _ _ _ h2 => exact h2
 split at h
 ·
  rename_i hm
  subst hm
  injection h with h
  injection h with h1 h2
  subst h1 h2
  have hr := run_append_zero (w := w) (ty := o.type) hu hi A X n cA cX hncA
  exact StepOK.value (run_exec_append ho ha hts hsa hxa hr) (hsa ▸ hsr) hh (Fr.refl _ _ _)
 rename_i hm
 split at h
 case isFalse => cases h
 rename_i hbytes
 obtain ⟨hbytes, hone⟩ := hbytes
 have hone' := ones_rel hone hnr
 obtain ⟨ad, had⟩ : ∃ ad, X = some ad := by
  cases hX : X with
  | none => exact absurd (hX1 hX).1 hm
  | some ad => exact ⟨ad, rfl⟩
 subst had
 have hnews := hX3 ad rfl
 have hnm : (n + m) ≤ 140737488355328 := Nat.le_trans (Nat.le_mul_of_pos_right _ hby) hbytes
 have happ : VRs σ (old ++ new) (ods ++ nds) := hor.append hnr
 have happl : (ods ++ nds).length = (n + m) * i.size := by rw [List.length_append, hodl, hndl, Nat.add_mul]
 split at h
 ·
  injection h with h
  injection h with h1 h2
  subst h1 h2
  obtain ⟨rfl, rfl, rfl⟩ := hA2 rfl
  have ho0 : ods = [] := List.eq_nil_of_length_eq_zero (by rw [hodl]; simp)
  subst ho0
  have hr := run_append_nil (P := P) w t o.type el i zv hu hi hzv ad m cX nds hndl hnews (by omega) (by omega) (by simp at hbytes; omega)
  refine StepOK.grown (old := 0) (n := 0) hh hb hh (Fr.refl _ _ _) (A := []) (fun _ h => absurd h (by simp)) happ hi hzs happl (by omega) ?_
  simp only [Nat.zero_add, List.nil_append]
  exact run_exec_append ho ha hts hsa hxa hr
 rename_i p0
 obtain ⟨A0, rfl⟩ : ∃ A0, A = some A0 := by
  cases hA : A with
  | none => have := (hA1 hA).2; cases this
  | some A0 => exact ⟨A0, rfl⟩
 split at h
 ·
  rename_i hc0
  injection h with h
  injection h with h1 h2
  subst h1 h2 hc0
  rw [hsa] at hsr
  have q4 : cA = 0 := by
   cases hsr with
   | nilAt => rfl
   | slice i0 o0 _ _ f' _ l0 hl0 _ _ _ h0 _ => exact h0 rfl
  subst q4
  have hn0 : n = 0 := by omega
  subst hn0
  have ho0 : ods = [] := List.eq_nil_of_length_eq_zero (by rw [hodl]; simp)
  subst ho0
  have hr := run_append_grow (P := P) w t o.type el i zv hu hi hzv A0 0 0 [] (by simp) (fun j v hj => by simp at hj) ad m cX nds hndl hnews (by omega) (by omega) (growslice_fits (by omega) hbytes)
  refine StepOK.grown (old := 0) (n := 0) hh hb hh (Fr.refl _ _ _) (A := []) (fun _ h => absurd h (by simp)) happ hi hzs happl (by omega) ?_
  simp only [List.nil_append, Array.empty_append] at hr ⊢
  exact run_exec_append ho ha hts hsa hxa hr
 rename_i hc0
 split at h
 case h_2 => cases h
 rename_i blk hg
 split at h
 case isFalse => cases h
 rename_i hte
 obtain ⟨htip, hel⟩ := hte
 obtain ⟨off, f', l, hp0, hl, hA0, hf', hcc, htot⟩ : ∃ off f' l, p0 = ⟨p0.block, off, none⟩ ∧ σ p0.block = some l ∧ A0 = ⟨l.b, f', none⟩ ∧ (0 < n → f' = l.f + off) ∧ c ≤ cA + 1 ∧ f' + cA * l.sz ≤ l.tot := by
  rw [hsa] at hsr
  cases hsr with
  | nilAt => exact absurd rfl hc0
  | slice i0 o0 _ _ f' _ l0 hl0 q1 q2 q3 q4 q5 => exact ⟨o0, f', l0, rfl, hl0, rfl, q1, q3, q5⟩
 subst hA0
 have hlsz : l.sz = i.size := by
  have := hh.elem hg hl
  rw [hel, hi] at this
  simpa using this.symm
 have hbase := hh.own hg (by rw [htip]; rfl) hl
 obtain ⟨cur, e0, z, hw, hcs, hz⟩ := hh.row hg (by rw [htip]; rfl) hl
 obtain rfl := hz htip
 have hni : p0.block ∉ blk.anc := fun hm => by
  have := hh.anc hg hg (by rw [htip]; rfl) (by rw [htip]; rfl) hm
  rw [htip] at this; cases this
 have both : ∀ (H1 : AHeap) (Anc : List Nat), HR P σ base H1 w → Fr σ σ H H1 w w → (∀ j ∈ Anc, j < H1.n ∧ ∀ bj, H1.get j = some bj → bj.st.own = true → bj.st = .ret) →
   (∀ {j bj lj}, H1.get j = some bj → bj.st ≠ .dead → σ j = some lj → lj.b = l.b → bj.st.row = true ∧ j ∈ Anc ∧ lj.f + bj.cells.length ≤ f' + n * i.size) →
   StepOK P base σ H w o a (.slice (some ⟨H1.n, 0, none⟩) (n + m) (n + m + 1)) (H1.push ⟨old ++ new, el, .tip, 0, Anc⟩) := by
  intro H1 Anc h1 hf1 hAnc hal
  by_cases hroom : n + m ≤ cA
  ·have hmul : (n + m) * i.size ≤ cA * i.size := Nat.mul_le_mul_right _ hroom
   rw [hlsz] at htot
   have hsum : (n + m) * i.size = n * i.size + m * i.size := Nat.add_mul _ _ _
   have hr := run_append_room' (w := w) (ty := o.type) hu hi l.b f' n cA hw ad m cX hndl hnews hone' hroom (by rw [hndl]; omega)
   have hcl : cur.toList.length = cur.size := by simp
   have hwl : (cur.toList.take (f' + n * i.size)).length = f' + n * i.size := by simp; omega
   have hon := h1.onto (b := l.b) (f := f') (tot := l.tot) (sz := i.size) hbase hw hcs (cur' := (cur.toList.take (f' + n * i.size) ++ nds ++ cur.toList.drop (f' + n * i.size + nds.length)).toArray) (by simp [hndl]; omega) (elem := el) (by simp [hi]) hAnc hal
    (fun k hk => by
     simp only [List.getElem?_toArray]
     rw [List.append_assoc, List.getElem?_append_left (by rw [hwl]; exact hk), List.getElem?_take, if_pos hk]
     simp)
    (cells := old ++ new) (fun k v hk => by
     simp only [List.getElem?_toArray]
     by_cases ck : k < n * i.size
     ·rw [List.getElem?_append_left (by omega)] at hk
      obtain ⟨v', q1, q2⟩ := hor.get hk
      refine ⟨v', ?_, q2⟩
      have hc := hA3 _ rfl k v' q1
      rw [add_addr] at hc
      simp only [World.cell?, hw] at hc
      rw [List.append_assoc, List.getElem?_append_left (by rw [hwl]; omega), List.getElem?_take, if_pos (by omega)]
      simpa using hc
     ·have hk2 := hk
      rw [List.getElem?_append_right (by omega), hol] at hk2
      obtain ⟨v', q1, q2⟩ := hnr.get hk2
      have hkn : k - n * i.size < nds.length := (List.getElem?_eq_some_iff.1 q1).1
      refine ⟨v', ?_, q2⟩
      rw [List.getElem?_append_left (by rw [List.length_append, hwl]; omega), List.getElem?_append_right (by rw [hwl]; omega), hwl]
      rw [show f' + k - (f' + n * i.size) = k - n * i.size by omega]
      exact q1) (by rw [List.length_append, hol, hnl]; omega) (fun _ => by rw [List.length_append, hol, hnl]; omega)
   have hfr := Fr.onto hh h1 hf1 hg htip hl ⟨old ++ new, el, .tip, 0, Anc⟩ ⟨l.b, f', l.tot, i.size⟩ rfl (cur.toList.take (f' + n * i.size) ++ nds ++ cur.toList.drop (f' + n * i.size + nds.length)).toArray
   refine StepOK.value (run_exec_append ho ha hts hsa hxa hr) ?_ hon hfr
   exact .slice _ _ _ _ f' cA ⟨l.b, f', l.tot, i.size⟩ (ext_new _ _ _) (fun _ => by simp) hroom (by omega) (fun h => by omega) htot
  ·have hr := run_append_grow (P := P) w t o.type el i zv hu hi hzv ⟨l.b, f', none⟩ n cA ods hodl (fun j v hj => hA3 _ rfl j v hj) ad m cX nds hndl hnews (by omega) (by omega) (growslice_fits (by omega) hbytes)
   refine StepOK.grown (old := cA) (n := n) hh hb h1 hf1 hAnc happ hi hzs happl (by omega) ?_
   have := run_exec_append ho ha hts hsa hxa hr
   rw [this]
   congr 3
   simp
 split at h
 ·
  rename_i hend
  injection h with h
  injection h with h1 h2
  subst h1 h2
  have hret := hh.retire hg htip
  have hoff : p0.off = off := by rw [hp0]
  have hHn : H.n = (H.upd p0.block { blk with st := .ret }).n := by simp
  rw [show (Value.slice (some { block := H.n, off := 0 }) (n + m) (n + m + 1)) = Value.slice (some { block := (H.upd p0.block { blk with st := .ret }).n, off := 0 }) (n + m) (n + m + 1) by rw [← hHn]]
  refine both _ _ hret (Fr.retire hh hg htip) ?_ ?_
  ·intro j hj
   rcases List.mem_cons.1 hj with rfl | hj
   ·refine ⟨by have := AHeap.lt_of_get hg; simpa using this, fun bj hbj _ => ?_⟩
    rw [AHeap.get_upd hg, if_pos rfl] at hbj
    injection hbj with hbj
    subst hbj
    rfl
   ·refine ⟨by have := hh.ancLt hg j hj; simpa using this, fun bj hbj hown => ?_⟩
    rw [AHeap.get_upd hg, if_neg (by rintro rfl; exact hni hj)] at hbj
    exact hh.anc hbj hg hown (by rw [htip]; rfl) hj
  ·intro j bj lj hj hs hlj hbb
   rw [AHeap.get_upd hg] at hj
   split at hj
   ·rename_i e1
    subst e1
    injection hj with hj
    subst hj
    rw [hl] at hlj
    injection hlj with hlj
    subst hlj
    refine ⟨rfl, List.mem_cons_self, ?_⟩
    simp only
    rw [hf' hend.1]
    have := hend.2
    omega
   ·rename_i e1
    have hnro : bj.st ≠ .ro := fun e => by have := hh.ro hj e hlj; omega
    have hown : bj.st.own = true := by cases hh' : bj.st <;> first | rfl | exact absurd hh' hs | exact absurd hh' hnro
    rcases hh.sep e1 hj hg hown (by rw [htip]; rfl) hlj hl hbb with q | q
    ·have hr := hh.anc hj hg hown (by rw [htip]; rfl) q
     refine ⟨by rw [hr]; rfl, List.mem_cons_of_mem _ q, ?_⟩
     have := hh.ends hj hg hown (by rw [htip]; rfl) q hlj hl hbb
     rw [hf' hend.1]
     have := hend.2
     omega
    ·have := hh.anc hg hj (by rw [htip]; rfl) hown q
     rw [htip] at this; cases this
 ·injection h with h
  injection h with h1 h2
  subst h1 h2
  have hkk := hh.killAll (p0.block :: blk.anc)
  have hnn : (killAll H (p0.block :: blk.anc)).n = H.n := killAll_n _ _
  have := both _ [] hkk (Fr.kill hh _) (fun _ h => absurd h (by simp)) ?_
  ·rw [hnn] at this; exact this
  ·intro j bj lj hj hs hlj hbb
   obtain ⟨hnm', hgj⟩ := killAll_alive hj hs
   simp only [List.mem_cons, not_or] at hnm'
   have hnro : bj.st ≠ .ro := fun e => by have := hh.ro hgj e hlj; omega
   have hown : bj.st.own = true := by cases hh' : bj.st <;> first | rfl | exact absurd hh' hs | exact absurd hh' hnro
   rcases hh.sep hnm'.1 hgj hg hown (by rw [htip]; rfl) hlj hl hbb with q | q
   ·exact absurd q hnm'.2
   ·have := hh.anc hg hgj (by rw [htip]; rfl) hown q
    rw [htip] at this; cases this
end
section
variable {P : Program} {σ : Sig} {nt base : Nat} {e : Env} {a : Act} {o : Oper} {H H' : AHeap} {w : World}
abbrev flatE (es : List MapEntry) : List Value := es.flatMap fun e => [e.key, e.val]
theorem VRs.nil_inv {vs : List Value} (h : VRs σ vs []) : vs = [] := by cases h; rfl
theorem VRs.two_inv {vs : List Value} {x y : Value} {r : List Value} (h : VRs σ vs (x :: y :: r)) : ∃ a b s, vs = a :: b :: s ∧ VR σ a x ∧ VR σ b y ∧ VRs σ s r := by
 cases h with
 | cons a _ s _ h1 h2 => cases h2 with
  | cons b _ s _ h3 h4 => exact ⟨a, b, s, rfl, h1, h3, h4⟩
theorem find_rel {kd k : IntKind} {n : Int} : ∀ {es : List MapEntry} {cells : List Value} {r : Option Value} (i : Nat), VRs σ cells (flatE es) → findC k n cells = some r →
  (r = none ∧ Instr.findNow (.int kd) (.int k n) es i = some none) ∨ ∃ (j : Nat) (e : MapEntry) (v : Value), r = some v ∧ es[j]? = some e ∧ e.key = .int k n ∧ VR σ v e.val ∧ Instr.findNow (.int kd) (.int k n) es i = some (some (i + j, e.val))
 | [], cells, r, i, h, hf => by
  have := VRs.nil_inv h
  subst this
  simp only [findC] at hf
  injection hf with hf
  exact .inl ⟨hf.symm, rfl⟩
 | e :: es, cells, r, i, h, hf => by
  obtain ⟨c1, c2, cs, rfl, h1, h2, h3⟩ := VRs.two_inv (r := flatE es) (by simpa [flatE] using h)
  unfold findC at hf
  split at hf
  ·rename_i heq; cases heq
  ·rename_i k' a v r0 heq
   injection heq with e1 e2
   injection e2 with e2 e3
   subst e1 e2 e3
   have hk := VR.int_inv h1
   split at hf
   ·rename_i hkk
    subst hkk
    split at hf
    ·rename_i hna
     subst hna
     injection hf with hf
     refine .inr ⟨0, e, c2, hf.symm, rfl, hk, h2, ?_⟩
     simp [Instr.findNow, Instr.sameNow, hk]
    ·rename_i hna
     have hfn : Instr.findNow (.int kd) (.int k n) (e :: es) i = Instr.findNow (.int kd) (.int k n) es (i + 1) := by
      have : (n == a) = false := by simpa using hna
      simp [Instr.findNow, Instr.sameNow, hk, this]
     rcases find_rel (kd := kd) (i + 1) h3 hf with ⟨q1, q2⟩ | ⟨j, e', v, q1, q2, q3, q4, q5⟩
     ·exact .inl ⟨q1, by rw [hfn]; exact q2⟩
     ·exact .inr ⟨j + 1, e', v, q1, by simpa using q2, q3, q4, by rw [hfn, q5]; congr 3; omega⟩
   ·cases hf
  ·cases hf
theorem set_rel {kd k : IntKind} {n : Int} {x x' : Value} (hx : VR σ x x') : ∀ {es : List MapEntry} {cells cs : List Value} (i : Nat), VRs σ cells (flatE es) → setC k n x cells = some cs →
  (Instr.findNow (.int kd) (.int k n) es i = some none ∧ ∀ b, VRs σ cs (flatE (es ++ [{ key := .int k n, val := x', born := b }]))) ∨ ∃ (j : Nat) (e : MapEntry), es[j]? = some e ∧ e.key = .int k n ∧ Instr.findNow (.int kd) (.int k n) es i = some (some (i + j, e.val)) ∧ VRs σ cs (flatE (es.modify j fun e => { e with key := .int k n, val := x' }))
 | [], cells, cs, i, h, hf => by
  have := VRs.nil_inv h
  subst this
  simp only [setC] at hf
  injection hf with hf
  subst hf
  exact .inl ⟨rfl, fun b => .cons _ _ _ _ (.int _ _) (.cons _ _ _ _ hx .nil)⟩
 | e :: es, cells, cs, i, h, hf => by
  obtain ⟨c1, c2, cs0, rfl, h1, h2, h3⟩ := VRs.two_inv (r := flatE es) (by simpa [flatE] using h)
  unfold setC at hf
  split at hf
  ·rename_i heq; cases heq
  ·rename_i k' a v r0 heq
   injection heq with e1 e2
   injection e2 with e2 e3
   subst e1 e2 e3
   have hk := VR.int_inv h1
   split at hf
   ·rename_i hkk
    subst hkk
    split at hf
    ·rename_i hna
     subst hna
     injection hf with hf
     subst hf
     refine .inr ⟨0, e, rfl, hk, by simp [Instr.findNow, Instr.sameNow, hk], ?_⟩
     simp only [List.modify_zero_cons, flatE, List.flatMap_cons]
     exact .cons _ _ _ _ (.int _ _) (.cons _ _ _ _ hx h3)
    ·rename_i hna
     have hfn : Instr.findNow (.int kd) (.int k n) (e :: es) i = Instr.findNow (.int kd) (.int k n) es (i + 1) := by
      have : (n == a) = false := by simpa using hna
      simp [Instr.findNow, Instr.sameNow, hk, this]
     simp only [Option.map_eq_some_iff] at hf
     obtain ⟨l, hl, rfl⟩ := hf
     rcases set_rel (kd := kd) hx (i + 1) h3 hl with ⟨q1, q2⟩ | ⟨j, e', q2, q3, q5, q6⟩
     ·refine .inl ⟨by rw [hfn]; exact q1, fun b => ?_⟩
      simp only [List.cons_append, flatE, List.flatMap_cons]
      exact .cons _ _ _ _ h1 (.cons _ _ _ _ h2 (q2 b))
     ·refine .inr ⟨j + 1, e', by simpa using q2, q3, by rw [hfn, q5]; congr 3; omega, ?_⟩
      simp only [List.modify_succ_cons, flatE, List.flatMap_cons]
      exact .cons _ _ _ _ h1 (.cons _ _ _ _ h2 q6)
   ·cases hf
  ·cases hf
theorem run_checkInt {kt : TypeId} {kd k : IntKind} {n : Int} (hk : P.underlying kt = some (.int kd)) (b : Bool) (m : Nat) : (Instr.checkKey b (m + 1) kt (.int k n)).run P w = .ok () w := by
 unfold Instr.checkKey
 simp only [Sem.run_bind, run_und hk, Result.andThen_ok]
 rfl
theorem run_findInt {kt : TypeId} {d : TypeDesc} {k : Value} {l : List MapEntry} {r : Option (Nat × Value)} (hd : P.underlying kt = some d) (h : Instr.findNow d k l 0 = some r) : (Instr.findKey kt k l).run P w = .ok r w := by
 unfold Instr.findKey
 simp only [Sem.run_bind, run_und hd, Result.andThen_ok, h]
 rfl
theorem run_getMap {r : Nat} {es : Array MapEntry} {clock : Nat} (hb : w.heap[r]? = some (.map es clock)) : (getObj r).run P w = .ok (.map es clock) w := by
 simp [getObj, Sem.run, hb]
theorem run_setMap {r : Nat} {es : Array MapEntry} {clock : Nat} (o : Obj) (hb : w.heap[r]? = some (.map es clock)) : (setObj r o).run P w = .ok () { w with heap := w.heap.setIfInBounds r o } := by
 simp [setObj, Sem.run, hb]
theorem VR.map_inv {i : Nat} {v' : Value} (h : VR σ (.map (some i)) v') : ∃ l, σ i = some l ∧ v' = .map (some l.b) := by
 cases h with | map _ l hl => exact ⟨l, hl, rfl⟩
theorem sound_mget (her : ER σ nt e a) (hh : HR P σ base H w) {t k el : TypeId} {x i : Operand} {c : Bool} {kd : IntKind} {z z' : Value} (ho : o.op = .lookup t x i c) (hu : P.underlying t = some (.map k el)) (hk : P.underlying k = some (.int kd)) (hz : zeroOf P el = some [z]) (hz' : (P.info? el).bind (·.zero) = some z') (ha : atom z = true) (h1 : one z' = true)
  {cf : CallF} {v : Value} (h : stepA P cf e H (.mop (.get x i z c)) = some (v, H')) : StepOK P base σ H w o a v H' := by
 have h : mapGet (ev e x) (ev e i) z c H = some (v, H') := h
 unfold mapGet at h
 split at h
 ·rename_i m kk n hx hi
  obtain ⟨l, hl, hx'⟩ := VR.map_inv (hx ▸ ev_rel her x)
  have hi' := VR.int_inv (hi ▸ ev_rel her i)
  split at h
  ·rename_i blk hg
   split at h
   ·rename_i hst
    simp only [Option.map_eq_some_iff] at h
    obtain ⟨r, hr, he⟩ := h
    injection he with he1 he2
    subst he2
    obtain ⟨es, clock, hw, hc⟩ := hh.map hg hst hl
    obtain ⟨ti, zv, hti, hzv, hze⟩ := zeroOf_inv hz
    have hzz : zv = z' := by rw [hti] at hz'; simp only [Option.bind_some] at hz'; rw [hzv] at hz'; exact Option.some.inj hz'
    subst hzz
    have hzc : zv = z := by
     cases zv <;> simp [one] at h1 <;> simp [Value.cells] at hze <;> exact hze
    subst hzc
    have hzr : (zeroValue el).run P w = .ok zv w := by simp [zeroValue, typeInfo, hti, hzv]
    rcases find_rel (kd := kd) 0 hc hr with ⟨rfl, q2⟩ | ⟨j, e', v0, rfl, q2, q3, q4, q5⟩
    ·have hrun : (execOp a.eval o).run P w = .ok (.value (if c then .tuple #[zv, .bool false] else zv)) w := by
      simp only [execOp, ho, hx', hi', Instr.lookup, Sem.run_bind, run_und hu, Result.andThen_ok, run_getMap hw, run_checkInt hk, run_findInt hk q2, hzr, Sem.run_pure]
     refine .value hrun ?_ hh (Fr.refl _ _ _)
     subst he1
     cases c with
     | true => exact .tuple _ _ (.cons _ _ _ _ (VR.of_atom ha) (.cons _ _ _ _ (.bool _) .nil))
     | false => exact VR.of_atom ha
    ·have hrun : (execOp a.eval o).run P w = .ok (.value (if c then .tuple #[e'.val, .bool true] else e'.val)) w := by
      simp only [execOp, ho, hx', hi', Instr.lookup, Sem.run_bind, run_und hu, Result.andThen_ok, run_getMap hw, run_checkInt hk, run_findInt hk q5, Sem.run_pure]
     refine .value hrun ?_ hh (Fr.refl _ _ _)
     subst he1
     cases c with
     | true => exact .tuple _ _ (.cons _ _ _ _ q4 (.cons _ _ _ _ (.bool _) .nil))
     | false => exact q4
   ·cases h
  ·cases h
 ·cases h
theorem HR.pushMap (h : HR P σ base H w) (hb : base ≤ w.heap.size) {elem : TypeId} {sz : Nat} (hs : (P.info? elem).map (·.size) = some sz) :
  HR P (ext σ H.n ⟨w.heap.size, 0, 0, sz⟩) base (H.push ⟨[], elem, .map, 0, []⟩) (w.alloc (.map #[] 0)) := by
 have hn : σ H.n = none := h.out _ (Nat.le_refl _)
 have hsub := Sub.ext hn ⟨w.heap.size, 0, 0, sz⟩
 have hold : ∀ j, j ≠ H.n → ext σ H.n ⟨w.heap.size, 0, 0, sz⟩ j = σ j := fun j hj => by simp [ext, hj]
 have hnew : ext σ H.n ⟨w.heap.size, 0, 0, sz⟩ H.n = some ⟨w.heap.size, 0, 0, sz⟩ := by simp [ext]
 have hget : ∀ i, (H.push ⟨[], elem, .map, 0, []⟩).get i = if i = H.n then some ⟨[], elem, .map, 0, []⟩ else H.get i := AHeap.get_push H _
 have two : ∀ {i : Nat} {blk : ABlk} {l : Loc}, (H.push ⟨[], elem, .map, 0, []⟩).get i = some blk → ext σ H.n ⟨w.heap.size, 0, 0, sz⟩ i = some l → (i = H.n ∧ blk = ⟨[], elem, .map, 0, []⟩ ∧ l = ⟨w.heap.size, 0, 0, sz⟩) ∨ (i ≠ H.n ∧ H.get i = some blk ∧ σ i = some l) := fun {i blk l} hg hl => by
  rw [hget] at hg
  by_cases hi : i = H.n
  ·subst hi
   rw [if_pos rfl] at hg
   injection hg with hg
   rw [hnew] at hl
   injection hl with hl
   exact .inl ⟨rfl, hg.symm, hl.symm⟩
  ·rw [if_neg hi] at hg
   rw [hold i hi] at hl
   exact .inr ⟨hi, hg, hl⟩
 constructor
 ·intro i blk l hg hl
  rcases two hg hl with ⟨_, rfl, rfl⟩ | ⟨_, hg, hl⟩
  ·exact hs
  ·exact h.elem hg hl
 ·intro i hi
  simp at hi
  rw [hold i (by omega)]
  exact h.out i (by omega)
 ·intro i blk l hg hst hl
  rcases two hg hl with ⟨_, rfl, rfl⟩ | ⟨_, hg, hl⟩
  ·simp
  ·have := h.lt hg hst hl
   simp; omega
 ·intro i blk l hg hst hl k v hk
  rcases two hg hl with ⟨_, rfl, rfl⟩ | ⟨_, hg, hl⟩
  ·cases hst
  ·obtain ⟨v', h1, h2⟩ := h.cells hg hst hl hk
   exact ⟨v', by rw [World.cell?_alloc_lt _ _ _ (h.lt hg (mem_ne_dead hst) hl)]; exact h1, h2.mono hsub⟩
 ·intro i blk l hg hst hl
  rcases two hg hl with ⟨_, rfl, rfl⟩ | ⟨_, hg, hl⟩
  ·cases hst
  ·exact h.ro hg hst hl
 ·intro i blk l hg hst hl
  rcases two hg hl with ⟨_, rfl, rfl⟩ | ⟨_, hg, hl⟩
  ·exact hb
  ·exact h.own hg hst hl
 ·intro i blk l hg hst hl
  rcases two hg hl with ⟨_, rfl, rfl⟩ | ⟨_, hg, hl⟩
  ·cases hst
  ·obtain ⟨cur, e, z, h1, h2⟩ := h.row hg hst hl
   exact ⟨cur, e, z, by rw [heap_alloc_old w _ _ (h.lt hg (mem_ne_dead (row_mem hst)) hl)]; exact h1, h2⟩
 ·intro i blk l hg hst hl
  rcases two hg hl with ⟨_, rfl, rfl⟩ | ⟨_, hg, hl⟩
  ·cases hst
  ·exact h.fits hg hst hl
 ·intro i blk l hg hst hl
  rcases two hg hl with ⟨_, rfl, rfl⟩ | ⟨_, hg, hl⟩
  ·exact ⟨#[], 0, heap_alloc_new w _, .nil⟩
  ·obtain ⟨es, clock, h1, h2⟩ := h.map hg hst hl
   exact ⟨es, clock, by rw [heap_alloc_old w _ _ (h.lt hg (by rw [hst]; intro e; cases e) hl)]; exact h1, h2.mono hsub⟩
 ·intro i j bi bj li lj hij hi hj si sj hli hlj hbb
  rcases two hi hli with ⟨rfl, rfl, rfl⟩ | ⟨_, hi, hli⟩
  ·rcases two hj hlj with ⟨rfl, rfl, rfl⟩ | ⟨_, hj, hlj⟩
   ·exact absurd rfl hij
   ·have := h.lt hj (own_ne_dead sj) hlj
    simp at hbb
    omega
  ·rcases two hj hlj with ⟨rfl, rfl, rfl⟩ | ⟨_, hj, hlj⟩
   ·have := h.lt hi (own_ne_dead si) hli
    simp at hbb
    omega
   ·exact h.sep hij hi hj si sj hli hlj hbb
 ·intro i j bi bj hi hj si sj hm
  rw [hget] at hi hj
  by_cases h2 : j = H.n
  ·subst h2
   rw [if_pos rfl] at hj
   injection hj with hj
   subst hj
   simp at hm
  ·rw [if_neg h2] at hj
   have := h.ancLt hj i hm
   rw [if_neg (by omega)] at hi
   exact h.anc hi hj si sj hm
 ·intro i j bi bj li lj hi hj si sj hm hli hlj hbb
  rcases two hj hlj with ⟨rfl, rfl, rfl⟩ | ⟨_, hj, hlj⟩
  ·simp at hm
  ·have hlt := h.ancLt hj i hm
   rcases two hi hli with ⟨rfl, rfl, rfl⟩ | ⟨_, hi, hli⟩
   ·omega
   ·exact h.ends hi hj si sj hm hli hlj hbb
 ·intro j bj hj i hm
  rw [hget] at hj
  by_cases h2 : j = H.n
  ·subst h2
   rw [if_pos rfl] at hj
   injection hj with hj
   subst hj
   simp at hm
  ·rw [if_neg h2] at hj
   exact h.ancJ hj i hm
theorem sound_mmake (her : ER σ nt e a) (hh : HR P σ base H w) (hb : base ≤ w.heap.size) {t : TypeId} (ho : o.op = .makeMap t none) (hs : (szOf P t).isSome = true)
  {cf : CallF} {v : Value} (h : stepA P cf e H (.mop (.make t)) = some (v, H')) : StepOK P base σ H w o a v H' := by
 have h : some (Value.map (some H.n), H.push ⟨[], t, .map, 0, []⟩) = some (v, H') := h
 injection h with h
 injection h with h1 h2
 subst h1 h2
 obtain ⟨s, hs⟩ := Option.isSome_iff_exists.1 hs
 have hrun : (execOp a.eval o).run P w = .ok (.value (.map (some w.heap.size))) (w.alloc (.map #[] 0)) := by
  simp only [execOp, ho, Instr.makeMap]
  rfl
 refine .value hrun (.map _ ⟨w.heap.size, 0, 0, s⟩ (by simp [ext])) (hh.pushMap hb hs) (Fr.push hh _ _ _ rfl)
theorem HR.aloneM (h : HR P σ base H w) {i : Nat} {b : ABlk} {l : Loc} (hg : H.get i = some b) (ht : b.st = .map) (ha : b.anc = []) (hl : σ i = some l) {j : Nat} {bj : ABlk} {lj : Loc}
  (h2 : H.get j = some bj) (hs : bj.st ≠ .dead) (hlj : σ j = some lj) (hji : j ≠ i) : lj.b ≠ l.b := by
 intro e
 have hbase := h.own hg (by rw [ht]; rfl) hl
 by_cases hro : bj.st = .ro
 ·have := h.ro h2 hro hlj
  omega
 ·have hown : bj.st.own = true := by cases hh : bj.st <;> first | rfl | exact absurd hh hs | exact absurd hh hro
  rcases h.sep hji h2 hg hown (by rw [ht]; rfl) hlj hl e with h3 | h3
  ·rw [ha] at h3; simp at h3
  ·have := h.anc hg h2 (by rw [ht]; rfl) hown h3
   rw [ht] at this; cases this
theorem HR.mapped (h : HR P σ base H w) {i : Nat} {b : ABlk} {l : Loc} (hg : H.get i = some b) (ht : b.st = .map) (ha : b.anc = []) (hl : σ i = some l)
  {es es' : Array MapEntry} {clock clock' : Nat} (hw : w.heap[l.b]? = some (.map es clock)) {cells : List Value} (hc : VRs σ cells (flatE es'.toList)) :
  HR P σ base (H.upd i ⟨cells, b.elem, .map, b.ver + 1, []⟩) { w with heap := w.heap.setIfInBounds l.b (.map es' clock') } := by
 have hget : ∀ j, (H.upd i ⟨cells, b.elem, .map, b.ver + 1, []⟩).get j = if j = i then some ⟨cells, b.elem, .map, b.ver + 1, []⟩ else H.get j := AHeap.get_upd hg _
 have hlt : l.b < w.heap.size := (Array.getElem?_eq_some_iff.1 hw).1
 have hnew : ({ w with heap := w.heap.setIfInBounds l.b (.map es' clock') } : World).heap[l.b]? = some (.map es' clock') := by simp [hlt]
 have hother : ∀ k, k ≠ l.b → ({ w with heap := w.heap.setIfInBounds l.b (.map es' clock') } : World).heap[k]? = w.heap[k]? := fun k hk => by simp [Ne.symm hk]
 have hsize : ({ w with heap := w.heap.setIfInBounds l.b (.map es' clock') } : World).heap.size = w.heap.size := by simp
 have hal : ∀ {j bj lj}, H.get j = some bj → bj.st ≠ .dead → σ j = some lj → j ≠ i → lj.b ≠ l.b := fun hj hs hlj hji => h.aloneM hg ht ha hl hj hs hlj hji
 have two : ∀ {j : Nat} {bj : ABlk}, (H.upd i ⟨cells, b.elem, .map, b.ver + 1, []⟩).get j = some bj → (j = i ∧ bj = ⟨cells, b.elem, .map, b.ver + 1, []⟩) ∨ (j ≠ i ∧ H.get j = some bj) := fun {j bj} hj => by
  rw [hget] at hj
  split at hj
  ·injection hj with hj; exact .inl ⟨by assumption, hj.symm⟩
  ·exact .inr ⟨by assumption, hj⟩
 constructor
 ·intro j bj lj hj hlj
  rcases two hj with ⟨rfl, rfl⟩ | ⟨_, hj⟩
  ·have := h.elem hg hlj; exact this
  ·exact h.elem hj hlj
 ·intro j hj
  exact h.out j (by simpa using hj)
 ·intro j bj lj hj hs hlj
  rw [hsize]
  rcases two hj with ⟨rfl, rfl⟩ | ⟨_, hj⟩
  ·exact h.lt hg (by rw [ht]; intro e; cases e) hlj
  ·exact h.lt hj hs hlj
 ·intro j bj lj hj hs hlj k v hkv
  rcases two hj with ⟨rfl, rfl⟩ | ⟨hji, hj⟩
  ·cases hs
  ·obtain ⟨v', h1, h2⟩ := h.cells hj hs hlj hkv
   exact ⟨v', by rw [World.cell?_of_block (w := w) (hother _ (hal hj (mem_ne_dead hs) hlj hji))]; exact h1, h2⟩
 ·intro j bj lj hj hs hlj
  rcases two hj with ⟨rfl, rfl⟩ | ⟨hji, hj⟩
  ·cases hs
  ·exact h.ro hj hs hlj
 ·intro j bj lj hj hs hlj
  rcases two hj with ⟨rfl, rfl⟩ | ⟨hji, hj⟩
  ·exact h.own hg (by rw [ht]; rfl) hlj
  ·exact h.own hj hs hlj
 ·intro j bj lj hj hs hlj
  rcases two hj with ⟨rfl, rfl⟩ | ⟨hji, hj⟩
  ·cases hs
  ·obtain ⟨c0, e0, z, h1, h2⟩ := h.row hj hs hlj
   exact ⟨c0, e0, z, by rw [hother _ (hal hj (mem_ne_dead (row_mem hs)) hlj hji)]; exact h1, h2⟩
 ·intro j bj lj hj hs hlj
  rcases two hj with ⟨rfl, rfl⟩ | ⟨hji, hj⟩
  ·cases hs
  ·exact h.fits hj hs hlj
 ·intro j bj lj hj hs hlj
  rcases two hj with ⟨rfl, rfl⟩ | ⟨hji, hj⟩
  ·rw [hl] at hlj
   injection hlj with hlj
   subst hlj
   exact ⟨es', clock', hnew, hc⟩
  ·obtain ⟨es0, cl, h1, h2⟩ := h.map hj hs hlj
   exact ⟨es0, cl, by rw [hother _ (hal hj (by rw [hs]; intro e; cases e) hlj hji)]; exact h1, h2⟩
 ·intro j1 j2 b1 b2 l1 l2 h12 h1 h2 s1 s2 e1 e2 eb
  rcases two h1 with ⟨rfl, rfl⟩ | ⟨q1, k1⟩
  ·rcases two h2 with ⟨rfl, rfl⟩ | ⟨q2, k2⟩
   ·exact absurd rfl h12
   ·rw [hl] at e1
    injection e1 with e1
    subst e1
    exact absurd eb.symm (hal k2 (own_ne_dead s2) e2 q2)
  ·rcases two h2 with ⟨rfl, rfl⟩ | ⟨q2, k2⟩
   ·rw [hl] at e2
    injection e2 with e2
    subst e2
    exact absurd eb (hal k1 (own_ne_dead s1) e1 q1)
   ·exact h.sep h12 k1 k2 s1 s2 e1 e2 eb
 ·intro j1 j2 b1 b2 h1 h2 s1 s2 hm
  rcases two h2 with ⟨rfl, rfl⟩ | ⟨q2, k2⟩
  ·simp at hm
  ·rcases two h1 with ⟨rfl, rfl⟩ | ⟨q1, k1⟩
   ·have := h.anc hg k2 (by rw [ht]; rfl) s2 hm
    rw [ht] at this; cases this
   ·exact h.anc k1 k2 s1 s2 hm
 ·intro j1 j2 b1 b2 l1 l2 h1 h2 s1 s2 hm e1 e2 eb
  rcases two h2 with ⟨rfl, rfl⟩ | ⟨q2, k2⟩
  ·simp at hm
  ·rcases two h1 with ⟨rfl, rfl⟩ | ⟨q1, k1⟩
   ·have := h.anc hg k2 (by rw [ht]; rfl) s2 hm
    rw [ht] at this; cases this
   ·exact h.ends k1 k2 s1 s2 hm e1 e2 eb
 ·intro j bj hj x hx
  rcases two hj with ⟨rfl, rfl⟩ | ⟨hji, hj⟩
  ·simp at hx
  ·exact h.ancJ hj x hx
theorem Fr.mapped (hh : HR P σ base H w) {i : Nat} {b b' : ABlk} {l : Loc} (hg : H.get i = some b) (ht : b.st = .map) (hl : σ i = some l) (he : b'.elem = b.elem) (hv : b.ver < b'.ver) (o : Obj) :
  Fr σ σ H (H.upd i b') w { w with heap := w.heap.setIfInBounds l.b o } := by
 refine ⟨Sub.refl _, fun _ _ => rfl, by simp, rfl, rfl, rfl, by simp, ?_, ?_, ?_⟩
 ·intro k hk hno
  have := hno i b l hg (by rw [ht]; rfl) hl
  simp [this]
 ·intro j bj lj hj ha hlj
  rw [AHeap.get_upd hg] at hj
  split at hj
  ·rename_i e1
   subst e1
   exact .inr ⟨j, b, lj, hg, by rw [ht]; rfl, hlj, rfl⟩
  ·exact .inr ⟨j, bj, lj, hj, ha, hlj, rfl⟩
 ·intro j bj hj
  by_cases e1 : j = i
  ·subst e1
   rw [hg] at hj
   injection hj with hj
   subst hj
   exact ⟨b', by rw [AHeap.get_upd hg, if_pos rfl], by omega, he, fun e => by omega⟩
  ·exact ⟨bj, by rw [AHeap.get_upd hg, if_neg e1]; exact hj, Nat.le_refl _, rfl, fun _ => ⟨rfl, id, id⟩⟩
theorem sound_mset (her : ER σ nt e a) (hh : HR P σ base H w) {t kt el : TypeId} {m k x : Operand} {kd : IntKind} (ho : o.op = .mapUpdate t m k x ∨ o.op = .insert t m k x) (hu : P.underlying t = some (.map kt el)) (hk : P.underlying kt = some (.int kd))
  {cf : CallF} {v : Value} (h : stepA P cf e H (.mop (.set m k x)) = some (v, H')) : StepOK P base σ H w o a v H' := by
 have h : mapSet (ev e m) (ev e k) (ev e x) H = some (v, H') := h
 unfold mapSet at h
 split at h
 ·rename_i i kk n hm hi
  obtain ⟨l, hl, hm'⟩ := VR.map_inv (hm ▸ ev_rel her m)
  have hi' := VR.int_inv (hi ▸ ev_rel her k)
  split at h
  ·rename_i blk hg
   split at h
   ·rename_i hst
    obtain ⟨hst, hanc, _⟩ := hst
    simp only [Option.map_eq_some_iff] at h
    obtain ⟨cs, hr, he⟩ := h
    injection he with he1 he2
    subst he1 he2
    obtain ⟨es, clock, hw, hc⟩ := hh.map hg hst hl
    have hx := ev_rel her x
    rcases set_rel (kd := kd) hx 0 hc hr with ⟨q1, q2⟩ | ⟨j, e', q2, q3, q5, q6⟩
    ·have hrun : (execOp a.eval o).run P w = .ok .skip { w with heap := w.heap.setIfInBounds l.b (.map (es.push { key := .int kk n, val := a.eval x, born := clock }) (clock + 1)) } := by
      rcases ho with ho | ho <;>
       simp only [execOp, ho, hm', hi', Instr.mapUpdate, Sem.run_bind, run_und hu, Result.andThen_ok, run_getMap hw, run_checkInt hk, run_findInt hk q1, run_setMap _ hw, Sem.run_pure]
     refine .skip hrun (hh.mapped hg hst hanc hl hw ?_) (Fr.mapped (b' := ⟨cs, blk.elem, .map, blk.ver + 1, []⟩) hh hg hst hl rfl (Nat.lt_succ_self _) _)
     have := q2 clock
     simpa using this
    ·have hkey : ∀ {w2 : World}, (Instr.keyThatStays (((es[0 + j]?).map (·.key)).getD (.int kk n)) (.int kk n)).run P w2 = .ok (.int kk n) w2 := by
      intro w2
      have : es[0 + j]? = some e' := by rw [Nat.zero_add]; simpa using q2
      rw [this]
      simp only [Option.map_some, Option.getD_some, q3, Instr.keyThatStays]
      have : Instr.sameBits 10000 (.int kk n) (.int kk n) = true := by simp [Instr.sameBits]
      rw [if_pos this]
      rfl
     have hrun : (execOp a.eval o).run P w = .ok .skip { w with heap := w.heap.setIfInBounds l.b (.map (es.modify (0 + j) fun e => { e with key := .int kk n, val := a.eval x }) clock) } := by
      rcases ho with ho | ho <;>
       simp only [execOp, ho, hm', hi', Instr.mapUpdate, Sem.run_bind, run_und hu, Result.andThen_ok, run_getMap hw, run_checkInt hk, run_findInt hk q5, hkey, run_setMap _ hw, Sem.run_pure]
     refine .skip hrun (hh.mapped hg hst hanc hl hw ?_) (Fr.mapped (b' := ⟨cs, blk.elem, .map, blk.ver + 1, []⟩) hh hg hst hl rfl (Nat.lt_succ_self _) _)
     rw [Nat.zero_add, Array.toList_modify]
     exact q6
   ·cases h
  ·cases h
 ·cases h
end
section
variable {P : Program} {σ : Sig} {nt base : Nat} {e : Env} {a : Act} {o : Oper} {H H' : AHeap} {w : World}
theorem run_info {t : TypeId} {i : TypeInfo} (h : P.info? t = some i) (w : World) : (typeInfo t).run P w = .ok i w := by simp [typeInfo, h]
theorem fuel_succ (n : Nat) : ∃ k, n + Made.depth = k + 1 := ⟨n + 99, rfl⟩
theorem VR.face_inv {t : TypeId} {v v' : Value} (h : VR σ (.iface t v) v') : ∃ u, v' = .iface t u ∧ VR σ v u := by
 cases h with | iface _ _ u hu => exact ⟨u, rfl, hu⟩
theorem run_method (hh : HR P σ base H w) {t : TypeId} {name : String} {v u : Value} (hv : VR σ v u) {g : FuncId} {r : Option (Bool × Nat)} (hm : methA P t name = some (g, r)) (n : Nat) {x : Value}
  (hx : (r = none ∧ x = v) ∨ (∃ off i o blk, r = some (true, off) ∧ v = .pointer (some ⟨i, o, none⟩) ∧ H.get i = some blk ∧ blk.st.mem = true ∧ blk.cells[o + off]? = some x) ∨ (∃ off i o, r = some (false, off) ∧ v = .pointer (some ⟨i, o, none⟩) ∧ x = .pointer (some ⟨i, o + off, none⟩))) :
  ∃ x', (method (n + 1) t u name).run P w = .ok (g, x') w ∧ VR σ x x' := by
 unfold methA at hm
 split at hm
 case h_2 => cases hm
 rename_i i el hi hu
 split at hm
 case h_2 => cases hm
 rename_i m hf
 split at hm
 ·rename_i g0 hfn hp
  injection hm with hm
  injection hm with h1 h2
  subst h1 h2
  have hpe : m.path = #[] := by
   have : m.path.toList = [] := hp
   simpa using this
  rcases hx with ⟨_, rfl⟩ | ⟨_, _, _, _, e1, _⟩ | ⟨_, _, _, e1, _⟩
  ·refine ⟨u, ?_, hv⟩
   unfold method
   simp only [Sem.run_bind, run_info hi, Result.andThen_ok, hf, hfn, hp, follow, Sem.run_pure, receiverAt, run_und hu, Place.get]
  ·cases e1
  ·cases e1
 ·rename_i g0 s hfn hp
  split at hm
  case h_2 => cases hm
  rename_i fs hfs
  split at hm
  case h_2 => cases hm
  rename_i fd hfd
  split at hm
  ·rename_i el2 k hd hfu hsz
   injection hm with hm
   injection hm with h1 h2
   subst h1 h2
   rcases hx with ⟨e1, _⟩ | ⟨off, ib, ob, blk, e1, rfl, hg, hmem, hc⟩ | ⟨_, _, _, e1, _⟩
   ·cases e1
   ·injection e1 with e1
    injection e1 with _ e1
    subst e1
    obtain ⟨l, hl, rfl⟩ := VR.ptr_inv hv
    obtain ⟨x', q1, q2⟩ := hh.cells hg hmem hl hc
    refine ⟨x', ?_, q2⟩
    have hsz' : szOf P fd.type = some (k + 1) := hsz
    have hag := run_isAgg hfu w
    have hq : w.cell? ⟨l.b, l.f + (ob + fd.offset), none⟩ = some x' := q1
    unfold method
    simp only [Sem.run_bind, run_info hi, Result.andThen_ok, hf, hfn, hp, follow, run_und hfs, hfd, hd, if_true, Place.get, Sem.run_pure, asAddr, fieldPlace, run_szOf hsz', receiverAt, run_und hfu]
    simp [add_addr, Nat.add_assoc, receiverAt, run_und hfu, Place.get, loadVar, hag, isAggD, hq]
   ·cases e1
  ·rename_i el2 k hd hfu hsz
   injection hm with hm
   injection hm with h1 h2
   subst h1 h2
   rcases hx with ⟨e1, _⟩ | ⟨_, _, _, _, e1, _⟩ | ⟨off, ib, ob, e1, rfl, rfl⟩
   ·cases e1
   ·cases e1
   ·injection e1 with e1
    injection e1 with _ e1
    subst e1
    obtain ⟨l, hl, rfl⟩ := VR.ptr_inv hv
    refine ⟨.pointer (some ⟨l.b, l.f + (ob + fd.offset), none⟩), ?_, .ptr _ _ _ hl⟩
    have hsz' : szOf P fd.type = some (k + 1) := hsz
    unfold method
    simp only [Sem.run_bind, run_info hi, Result.andThen_ok, hf, hfn, hp, follow, run_und hfs, hfd, hd, if_true, Place.get, Sem.run_pure, asAddr, fieldPlace, run_szOf hsz', receiverAt, run_und hfu]
    simp [add_addr, Nat.add_assoc, receiverAt, run_und hfu]
  ·cases hm
 ·cases hm
theorem sound_inv {cf : CallF} (hcf : ∀ g args H v H', cf g args H = some (v, H') → Sim P base g args H v H') (her : ER σ nt e a) (hh : HR P σ base H w) (hb : base ≤ w.heap.size) {r : Operand} {name : String} {args : Array Operand} {ts : Array TypeId}
  (ho : o.op = .call ⟨.invoke r name, args, ts⟩) {v : Value} (h : stepA P cf e H (.mop (.inv r name args.toList)) = some (v, H')) : StepOK P base σ H w o a v H' := by
 have h : invA P cf (ev e r) name (args.toList.map (ev e)) H = some (v, H') := h
 obtain ⟨t, u, g, m, x, hr, hm, hx, hc⟩ : ∃ t u g m x, ev e r = .iface t u ∧ methA P t name = some (g, m) ∧ ((m = none ∧ x = u) ∨ (∃ off i o blk, m = some (true, off) ∧ u = .pointer (some ⟨i, o, none⟩) ∧ H.get i = some blk ∧ blk.st.mem = true ∧ blk.cells[o + off]? = some x) ∨ (∃ off i o, m = some (false, off) ∧ u = .pointer (some ⟨i, o, none⟩) ∧ x = .pointer (some ⟨i, o + off, none⟩))) ∧ cf g (x :: args.toList.map (ev e)) H = some (v, H') := by
  unfold invA at h
  split at h
  case h_2 => cases h
  rename_i g x hrec
  unfold recvA at hrec
  split at hrec
  case h_2 => cases hrec
  rename_i t u hr
  split at hrec
  ·rename_i g0 hm
   injection hrec with hrec
   injection hrec with h1 h2
   subst h1 h2
   exact ⟨t, u, g0, none, u, hr, hm, .inl ⟨rfl, rfl⟩, h⟩
  ·rename_i g0 off hm
   split at hrec
   case h_2 => cases hrec
   rename_i i ob
   split at hrec
   case h_2 => cases hrec
   rename_i blk hg
   split at hrec
   case isFalse => cases hrec
   rename_i hmem
   simp only [Option.map_eq_some_iff] at hrec
   obtain ⟨x0, hx, hrec⟩ := hrec
   injection hrec with h1 h2
   subst h1 h2
   exact ⟨t, _, g0, _, x0, hr, hm, .inr (.inl ⟨off, i, ob, blk, rfl, rfl, hg, hmem, hx⟩), h⟩
  ·rename_i g0 off hm
   split at hrec
   case h_2 => cases hrec
   rename_i i ob
   injection hrec with hrec
   injection hrec with h1 h2
   subst h1 h2
   exact ⟨t, _, g0, _, _, hr, hm, .inr (.inr ⟨off, i, ob, rfl, rfl, rfl⟩), h⟩
  ·cases hrec
 obtain ⟨u', hr', hu⟩ := VR.face_inv (hr ▸ ev_rel her r)
 obtain ⟨k, hk⟩ := fuel_succ P.types.size
 obtain ⟨x', hx1, hx2⟩ := run_method hh hu hm k hx
 obtain ⟨⟨fn, hfn, hbody, hname⟩, _, hcalls⟩ := hcf _ _ _ _ _ hc
 have hargs : VRs σ (x :: args.toList.map (ev e)) (x' :: args.toList.map a.eval) := .cons _ _ _ _ hx2 (VRs.map her args.toList)
 have hc := hcalls σ w _ hargs hh hb
 intro next Q hnext
 unfold Oper.wp
 have hrun : (execOp a.eval o).run P w = .ok (.enter g ⟨x' :: args.toList.map a.eval⟩) w := by
  have hn' : ¬ fn.name = "runtime.NumGoroutine" := by simpa using hname
  have hb' : ¬ fn.body = none := by intro e; rw [e] at hbody; cases hbody
  have hex : ((#[Value.iface t u'] ++ args.map a.eval).extract 1 (#[Value.iface t u'] ++ args.map a.eval).size) = args.map a.eval := by
   apply Array.toList_inj.1
   simp
   exact List.take_of_length_le (by simp)
  have ha : #[x'] ++ args.map a.eval = ⟨x' :: args.toList.map a.eval⟩ := by
   apply Array.toList_inj.1
   simp
  have h0 : (#[Value.iface t u'] ++ args.map a.eval)[0]? = some (Value.iface t u') := by
   rw [← Array.getElem?_toList, Array.toList_append]
   rfl
  have e1 : execOp a.eval o = invoke (.fn (.method name) #[]) (#[a.eval r] ++ args.map a.eval) := by
   unfold execOp
   rw [ho]
   rfl
  have e2 : invoke (.fn (.method name) #[]) (#[Value.iface t u'] ++ args.map a.eval) = callMethod (.iface t u') name (args.map a.eval) := by
   unfold invoke
   rw [h0]
   show callMethod (.iface t u') name _ = _
   rw [hex]
  have e3 : (callFunc g ⟨x' :: args.toList.map a.eval⟩).run P w = .ok (.enter g ⟨x' :: args.toList.map a.eval⟩) w := by
   simp [callFunc, hfn, hn', hb']
  rw [e1, hr', e2]
  unfold callMethod
  simp only [Sem.run_bind, run_program, Result.andThen_ok, hk, hx1, ha, e3]
 rw [hrun]
 simp only [Oper.upon]
 refine Calls.mono hc fun e w' hq => ?_
 obtain ⟨σ', v', rfl, q1, q2, q3⟩ := hq
 exact hnext σ' w' v' q1 q2 q3
theorem txtB_inv : ∀ {cs : List Value} {s t : ByteArray}, txtB s cs = some t → ∃ ns : List Int, cs = ns.map (Value.int .u8) ∧ t = ns.foldl (fun r n => r.push (UInt8.ofNat n.toNat)) s
 | [], s, t, h => by
  unfold txtB at h
  injection h with h
  exact ⟨[], rfl, h.symm⟩
 | c :: cs, s, t, h => by
  unfold txtB at h
  split at h
  ·rename_i heq; cases heq
  ·rename_i n l heq
   injection heq with h1 h2
   subst h1 h2
   obtain ⟨ns, h3, h4⟩ := txtB_inv h
   exact ⟨n :: ns, by rw [h3]; rfl, h4⟩
  ·cases h
theorem VRs.ints_inv {k : IntKind} : ∀ {ns : List Int} {ds : List Value}, VRs σ (ns.map (Value.int k)) ds → ds = ns.map (Value.int k)
 | [], ds, h => by cases h; rfl
 | n :: ns, ds, h => by
  cases h with
  | cons _ d _ ds h1 h2 =>
   rw [VR.int_inv h1, VRs.ints_inv h2]
   rfl
theorem sound_b2s {cf : CallF} (her : ER σ nt e a) (hh : HR P σ base H w) {src dst el : TypeId} {x : Operand} (ho : o.op = .convert src dst x) (hs : P.underlying src = some (.slice el)) (hd : P.underlying dst = some .string) (he : P.underlying el = some (.int .u8))
  {v : Value} (h : stepA P cf e H (.mop (.b2s x)) = some (v, H')) : StepOK P base σ H w o a v H' := by
 have h : (match cellsOf H 1 (ev e x) with
  | some cs => (txtB ByteArray.empty cs).map fun s => (Value.string s, H)
  | none => none) = some (v, H') := h
 split at h
 case h_2 => cases h
 rename_i cs hcs
 simp only [Option.map_eq_some_iff] at h
 obtain ⟨t, ht, h1⟩ := h
 injection h1 with h1 h2
 subst h1 h2
 obtain ⟨ns, rfl, rfl⟩ := txtB_inv ht
 obtain ⟨p, n, c, hx⟩ : ∃ p n c, ev e x = .slice p n c := by
  unfold cellsOf at hcs
  split at hcs <;> first | exact ⟨_, _, _, by assumption⟩ | cases hcs
 rw [hx] at hcs
 obtain ⟨A, c', ds, hax, hr, hl, hA1, hA2, hA3⟩ := cells_rel hh hcs (hx ▸ ev_rel her x)
 have hds := VRs.ints_inv hr
 subst hds
 refine .value (v' := .string (ns.foldl (fun r n => r.push (UInt8.ofNat n.toNat)) ByteArray.empty)) ?_ (.string _) hh (Fr.refl _ _ _)
 have hrun : (convert src dst (.slice A n c')).run P w = .ok (.string (ns.foldl (fun r n => r.push (UInt8.ofNat n.toNat)) ByteArray.empty)) w := by
  rw [run_convert_bytes_string w src dst el A n c' hs he hd]
  cases A with
  | none =>
   obtain ⟨rfl, _⟩ := hA1 rfl
   have : ns = [] := by
    rw [List.length_map] at hl
    exact List.length_eq_zero_iff.1 (by omega)
   subst this
   simp [Conv.bytesToString]
  | some ad =>
   refine run_bytesToString w ad n c' ns ?_
   have hq := run_loadCells_list (P := P) w ad (ns.map (Value.int .u8)) (fun j v hj => hA3 ad rfl j v hj)
   rw [hl, Nat.mul_one] at hq
   exact hq
 simp only [execOp, ho, hax, Sem.run_bind, hrun, Result.andThen_ok, Sem.run_pure]
theorem freeze_get (w : World) (b n k : Nat) (hk : k ≠ b) : (w.freeze ⟨b, n, none⟩ 1).heap[k]? = w.heap[k]? := by
 unfold World.freeze
 rw [if_neg (by decide)]
 simp only [Array.getElem?_modify]
 rw [if_neg (fun e => hk e.symm)]
theorem freeze_at {w : World} {b n : Nat} {c : Array Value} {e : TypeId} {z : Nat × Nat} (h : w.heap[b]? = some (.cells c e z)) : ∃ z', (w.freeze ⟨b, n, none⟩ 1).heap[b]? = some (.cells c e z') := by
 unfold World.freeze
 rw [if_neg (by decide)]
 simp only [Array.getElem?_modify]
 rw [if_pos trivial, h]
 exact ⟨_, rfl⟩
theorem freeze_size (w : World) (a : Addr) (n : Nat) : (w.freeze a n).heap.size = w.heap.size := by
 unfold World.freeze
 split
 ·rfl
 ·simp
theorem sound_fix {cf : CallF} (her : ER σ nt e a) (hh : HR P σ base H w) {src el : TypeId} {x : Operand} (ho : o.op = .convert src src x) (hs : P.underlying src = some (.slice el)) (he : P.underlying el = some (.int .u8))
  {v : Value} (h : stepA P cf e H (.mop (.fix x)) = some (v, H')) : StepOK P base σ H w o a v H' := by
 have h : fixA (ev e x) H = some (v, H') := h
 unfold fixA at h
 split at h
 case h_2 => cases h
 rename_i p n c hx
 split at h
 case h_2 => cases h
 rename_i b hg
 split at h
 case isFalse => cases h
 rename_i hc
 injection h with h
 injection h with h1 h2
 subst h1 h2
 obtain ⟨ht, hc0⟩ := hc
 have hv := hx ▸ ev_rel her x
 obtain ⟨f', c', l, hl, hax⟩ : ∃ f' c' l, σ p.block = some l ∧ a.eval x = .slice (some ⟨l.b, f', none⟩) n c' := by
  generalize hy : a.eval x = y at hv
  cases hv with
  | nilAt => exact absurd rfl hc0
  | slice i0 o0 _ _ f' c' l0 hl0 q1 q2 q3 q4 q5 => exact ⟨f', c', l0, hl0, rfl⟩
 obtain ⟨cur, e0, z, hw, htot, hz⟩ := hh.row hg (by rw [ht]; rfl) hl
 obtain rfl := hz ht
 have hret := hh.retire hg ht
 have hfr := Fr.retire hh hg ht
 obtain ⟨z', hw'⟩ := freeze_at (n := cur.size) hw
 have hother : ∀ k, k ≠ l.b → (w.freeze ⟨l.b, cur.size, none⟩ 1).heap[k]? = w.heap[k]? := fun k hk => freeze_get w l.b cur.size k hk
 have hsz := freeze_size w ⟨l.b, cur.size, none⟩ 1
 have hni : p.block ∉ b.anc := fun hm => by
  have := hh.anc hg hg (by rw [ht]; rfl) (by rw [ht]; rfl) hm
  rw [ht] at this; cases this
 have hget : ∀ j, (H.upd p.block { b with st := .ret }).get j = if j = p.block then some { b with st := .ret } else H.get j := fun j => AHeap.get_upd hg _ j
 have hcell : ∀ k, (w.freeze ⟨l.b, cur.size, none⟩ 1).cell? ⟨l.b, k, none⟩ = w.cell? ⟨l.b, k, none⟩ := fun k => by simp only [World.cell?, hw, hw']
 have hal : ∀ {j bj lj}, (H.upd p.block { b with st := .ret }).get j = some bj → bj.st.own = true → σ j = some lj → lj.b = l.b → bj.st = .ret := fun {j bj lj} hj hs hlj hb => by
  rw [hget] at hj
  split at hj
  ·injection hj with hj; subst hj; rfl
  ·rename_i hne
   rcases hh.sep hne hj hg hs (by rw [ht]; rfl) hlj hl hb with h1 | h1
   ·exact hh.anc hj hg hs (by rw [ht]; rfl) h1
   ·have := hh.anc hg hj (by rw [ht]; rfl) hs h1
    rw [ht] at this; cases this
 have hnew : HR P σ base (H.upd p.block { b with st := .ret }) (w.freeze ⟨l.b, cur.size, none⟩ 1) := by
  refine ⟨hret.elem, hret.out, fun hj hs hlj => by rw [hsz]; exact hret.lt hj hs hlj, ?_, hret.ro, hret.own, ?_, hret.fits, ?_, hret.sep, hret.anc, hret.ends, hret.ancJ⟩
  ·intro j bj lj hj hs hlj k u hk
   obtain ⟨u', h1, h2⟩ := hret.cells hj hs hlj hk
   refine ⟨u', ?_, h2⟩
   by_cases e1 : lj.b = l.b
   ·rw [e1] at h1 ⊢
    rw [hcell]; exact h1
   ·rw [World.cell?_of_block (w := w) (hother _ e1)]; exact h1
  ·intro j bj lj hj hs hlj
   obtain ⟨c1, e1, z1, h1, h2, h3⟩ := hret.row hj hs hlj
   by_cases eb : lj.b = l.b
   ·rw [eb, hw] at h1
    injection h1 with h1
    injection h1 with q1 q2 q3
    subst q1 q2
    refine ⟨cur, e0, z', by rw [eb]; exact hw', h2, fun e => ?_⟩
    have := hal hj (row_own hs) hlj eb
    rw [e] at this; cases this
   ·exact ⟨c1, e1, z1, by rw [hother _ eb]; exact h1, h2, h3⟩
  ·intro j bj lj hj hs hlj
   obtain ⟨es, cl, h1, h2⟩ := hret.map hj hs hlj
   refine ⟨es, cl, ?_, h2⟩
   by_cases eb : lj.b = l.b
   ·rw [eb, hw] at h1; cases h1
   ·rw [hother _ eb]; exact h1
 have hfr2 : Fr σ σ H (H.upd p.block { b with st := .ret }) w (w.freeze ⟨l.b, cur.size, none⟩ 1) := by
  refine ⟨hfr.sub, hfr.old, hfr.mono, ?_, ?_, ?_, by rw [hsz]; exact Nat.le_refl _, fun k hk hn => ?_, hfr.tips, hfr.ver⟩
  ·unfold World.freeze; rw [if_neg (by decide)]
  ·unfold World.freeze; rw [if_neg (by decide)]
  ·unfold World.freeze; rw [if_neg (by decide)]
  ·exact hother k fun e => hn _ _ _ hg (by rw [ht]; rfl) hl e.symm
 refine .value (v' := a.eval x) ?_ (by rw [hx]; exact hv) hnew hfr2
 rw [hax]
 have hrun : (convert src src (.slice (some ⟨l.b, f', none⟩) n c')).run P w = .ok (.slice (some ⟨l.b, f', none⟩) n c') (w.freeze ⟨l.b, cur.size, none⟩ 1) := by
  unfold convert
  have hshape : w.shape? l.b = some (e0, cur.size) := by unfold World.shape?; rw [hw]
  simp only [Sem.run_bind, run_und hs, Result.andThen_ok, run_und he, beq_self_eq_true, markStringish, shape, freeze, Sem.run, hshape]
  rfl
 simp only [execOp, ho, hax, Sem.run_bind, hrun, Result.andThen_ok, Sem.run_pure]
end
theorem run_places {P : Program} {w : World} : ∀ {l : List Field} {ps : List (Nat × Nat)}, placesOf P l = some ps → (l.mapM (fun f => do pure (f.offset, ← Go.sizeOf f.type) : Field → Sem (Nat × Nat))).run P w = .ok ps w
 | [], ps, h => by simp [placesOf] at h; subst h; simp
 | f :: r, ps, h => by
  simp only [placesOf] at h
  split at h
  ·rename_i s l hs hl
   injection h with h
   subst h
   have ih := run_places (w := w) hl
   simp only [List.mapM_cons, Sem.run_bind, run_szOf hs, Result.andThen_ok, Sem.run_pure]
   rw [ih]
   simp
  ·cases h
theorem PR.partsP {σ : Sig} {nt : Nat} {e : Env} {a : Act} (her : ER σ nt e a) {ps : List (Nat × Nat)} : ∀ {l : List (Nat × Operand)} {q : List (Nat × Nat × Operand)}, Lon.partsP ps l = some q →
  PR σ (fun i => ps[i]?) (evParts e q) (l.map fun p => (p.1, a.eval p.2))
 | [], q, h => by simp [Lon.partsP] at h; subst h; exact .nil
 | (i, x) :: r, q, h => by
  simp only [Lon.partsP] at h
  split at h
  ·rename_i p l hp hl
   injection h with h
   subst h
   exact .cons i p.1 p.2 _ _ _ _ hp (ev_rel her x) (PR.partsP her hl)
  ·cases h
section
variable {P : Program} {σ : Sig} {nt base : Nat} {e : Env} {a : Act} {o : Oper} {H H' : AHeap} {w : World}
theorem sound_buildS (her : ER σ nt e a) {t : TypeId} {parts : Array (Nat × Operand)} {fs : Array Field} {z : List Value} {ps : List (Nat × Nat)} {q : List (Nat × Nat × Operand)} (ho : o.op = .build t parts) (hu : P.underlying t = some (.struct fs)) (hz : zeroOf P t = some z) (hza : z.all atom = true)
  (hps : placesOf P fs.toList = some ps) (hq : partsP ps parts.toList = some q) {v : Value} (h : pureA P e (.build z q) = some v) : ∃ v', Pure P o a v' ∧ VR σ v v' := by
 obtain ⟨i, zv, hi, hzv, rfl⟩ := zeroOf_inv hz
 simp only [pureA] at h
 split at h
 ·rename_i hok
  injection h with h
  subst h
  obtain ⟨ds, hf, hd⟩ := fill_rel (PR.partsP her hq) (cs := zv.cells) (VRs.of_atoms hza) hok
  refine ⟨.agg ds, fun w => ?_, .agg _ _ hd⟩
  have hm : (fs.mapM (fun f => do pure (f.offset, ← Go.sizeOf f.type) : Field → Sem (Nat × Nat))).run P w = .ok ps.toArray w := by
   obtain ⟨fl⟩ := fs
   have := run_places (w := w) hps
   simp only [List.mapM_toArray, Sem.run_map, this, Result.andThen_ok]
  have hplace : (fun i : Nat => (ps.toArray)[i]?) = (fun i : Nat => ps[i]?) := by funext i; simp
  simp only [execOp, ho, Instr.build, Sem.run_bind, zeroValue, typeInfo, run_program, hi, Sem.run_pure, Result.andThen_ok, hzv, run_und hu, hm, hplace]
  have : (parts.map fun x => (x.1, a.eval x.2)).toList = parts.toList.map fun p => (p.1, a.eval p.2) := by simp
  rw [this, hf]
  rfl
 ·cases h
theorem sound_buildA (her : ER σ nt e a) {t el : TypeId} {cnt s : Nat} {parts : Array (Nat × Operand)} {z : List Value} (ho : o.op = .build t parts) (hu : P.underlying t = some (.array cnt el)) (hz : zeroOf P t = some z) (hza : z.all atom = true)
  (hs : szOf P el = some s) {v : Value} (h : pureA P e (.build z (partsA s parts.toList)) = some v) : ∃ v', Pure P o a v' ∧ VR σ v v' := by
 obtain ⟨i, zv, hi, hzv, rfl⟩ := zeroOf_inv hz
 simp only [pureA] at h
 split at h
 ·rename_i hok
  injection h with h
  subst h
  obtain ⟨ds, hf, hd⟩ := fill_rel (PR.partsA her s parts.toList) (cs := zv.cells) (VRs.of_atoms hza) hok
  refine ⟨.agg ds, fun w => ?_, .agg _ _ hd⟩
  simp only [execOp, ho, Instr.build, Sem.run_bind, zeroValue, typeInfo, run_program, hi, Sem.run_pure, Result.andThen_ok, hzv, run_und hu, run_szOf hs]
  have : (parts.map fun x => (x.1, a.eval x.2)).toList = parts.toList.map fun p => (p.1, a.eval p.2) := by simp
  rw [this, hf]
  rfl
 ·cases h
theorem pure_step {cf : CallF} {ao : AOp} {v : Value} (hna : ∀ x k, ao ≠ .load x k) (h1 : ∀ x lo hi s, ao ≠ .slice x lo hi s) (h2 : ∀ x, ao ≠ .slice0 x) (h3 : ∀ c el, ao ≠ .alloc c el) (h4 : ∀ x el, ao ≠ .box x el) (h5 : ∀ el n s z p, ao ≠ .bslice el n s z p) (h6 : ∀ x v n, ao ≠ .store x v n) (h7 : ∀ s x el sz b, ao ≠ .append s x el sz b) (h8 : ∀ f args, ao ≠ .call f args) (h9 : ∀ m, ao ≠ .mop m)
  (h : stepA P cf e H ao = some (v, H')) : pureA P e ao = some v ∧ H' = H := by
 cases ao <;> first | exact absurd rfl (hna _ _) | exact absurd rfl (h1 _ _ _ _) | exact absurd rfl (h2 _) | exact absurd rfl (h3 _ _) | exact absurd rfl (h4 _ _) | exact absurd rfl (h5 _ _ _ _ _) | exact absurd rfl (h6 _ _ _) | exact absurd rfl (h7 _ _ _ _ _) | exact absurd rfl (h8 _ _) | exact absurd rfl (h9 _) | skip
 all_goals
  simp only [stepA, Option.map_eq_some_iff] at h
  obtain ⟨v0, hv, he⟩ := h
  injection he with he1 he2
  subst he1 he2
  exact ⟨hv, rfl⟩
theorem step_sound {cf : CallF} (hcf : ∀ g args H v H', cf g args H = some (v, H') → Sim P base g args H v H') (her : ER σ nt e a) (hh : HR P σ base H w) (hb : base ≤ w.heap.size) {ao : AOp} (hp : prepOp P o = some ao)
  {v : Value} (h : stepA P cf e H ao = some (v, H')) : StepOK P base σ H w o a v H' := by
 have gen : ao = .gen (bareOf o) → StepOK P base σ H w o a v H' := by
  intro e1
  subst e1
  obtain ⟨h1, rfl⟩ := pure_step (by intros; simp) (by intros; simp) (by intros; simp) (by intros; simp) (by intros; simp) (by intros; simp) (by intros; simp) (by intros; simp) (by intros; simp) (by intros; simp) h
  exact .pure hh (sound_gen her h1)
 have pu : ∀ {ao' : AOp}, (∀ v, pureA P e ao' = some v → ∃ v', Pure P o a v' ∧ VR σ v v') → ao = ao' → (∀ x k, ao' ≠ .load x k) ∧ (∀ x lo hi s, ao' ≠ .slice x lo hi s) ∧ (∀ x, ao' ≠ .slice0 x) ∧ (∀ c el, ao' ≠ .alloc c el) ∧ (∀ x el, ao' ≠ .box x el) ∧ (∀ el n s z p, ao' ≠ .bslice el n s z p) ∧ (∀ x v n, ao' ≠ .store x v n) ∧ (∀ s x el sz b, ao' ≠ .append s x el sz b) ∧ (∀ f args, ao' ≠ .call f args) ∧ (∀ m, ao' ≠ .mop m) → StepOK P base σ H w o a v H' := by
  intro ao' hs e1 hne
  subst e1
  obtain ⟨q0, q1, q2, q3, q4, q5, q6, q7, q8, q9⟩ := hne
  obtain ⟨h1, rfl⟩ := pure_step q0 q1 q2 q3 q4 q5 q6 q7 q8 q9 h
  exact .pure hh (hs v h1)
 unfold prepOp at hp
 split at hp
 ·rename_i x ho; injection hp with hp; exact pu (fun v => sound_mv her (.inl ho)) hp.symm (by simp)
 ·rename_i x ho; injection hp with hp; exact pu (fun v => sound_mv her (.inr ho)) hp.symm (by simp)
 ·rename_i c x y ho; injection hp with hp; exact pu (fun v => sound_pick her ho) hp.symm (by simp)
 ·rename_i t ix ho; injection hp with hp; exact pu (fun v => sound_ext her ho) hp.symm (by simp)
 ·
  rename_i t x f ho
  split at hp
  ·rename_i fs hu
   split at hp
   ·rename_i fd hf
    simp only [Option.map_eq_some_iff] at hp
    obtain ⟨p, hs, hp⟩ := hp
    exact pu (fun v => sound_field her ho hu hf hs) hp.symm (by simp)
   ·cases hp
  ·cases hp
 ·
  rename_i t x i ho
  split at hp
  ·rename_i cnt el hu
   simp only [Option.map_eq_some_iff] at hp
   obtain ⟨p, hs, hp⟩ := hp
   exact pu (fun v => sound_index her ho hu hs) hp.symm (by simp)
  ·injection hp with hp; exact gen hp.symm
 ·
  rename_i t parts ho
  split at hp
  ·rename_i fs z hu hz
   split at hp
   ·rename_i hza
    simp only [Option.bind_eq_some_iff, Option.map_eq_some_iff] at hp
    obtain ⟨ps, hps, q, hq, hp⟩ := hp
    exact pu (fun v => sound_buildS her ho hu hz hza hps hq) hp.symm (by simp)
   ·cases hp
  ·rename_i cnt el z hu hz
   split at hp
   ·rename_i hza
    simp only [Option.map_eq_some_iff] at hp
    obtain ⟨s, hs, hp⟩ := hp
    exact pu (fun v => sound_buildA her ho hu hz hza hs) hp.symm (by simp)
   ·cases hp
  ·cases hp
 ·
  rename_i op t x y u ho
  unfold prepBin at hp
  split at hp
  ·rename_i k hu
   split at hp
   all_goals first
    | (injection hp with hp; exact gen hp.symm)
    | skip
   rename_i n1 n2 n3 n4 n5 n6
   injection hp with hp
   exact pu (fun v hv => sound_int her ho hv ⟨n1, n2, n3, n4, n5, n6⟩) hp.symm (by simp)
  ·rename_i hu
   split at hp
   ·injection hp with hp; exact pu (fun v => sound_beq her (neq := false) ho hu) hp.symm (by simp)
   ·injection hp with hp; exact pu (fun v => sound_beq her (neq := true) ho hu) hp.symm (by simp)
   ·cases hp
  ·rename_i el hu
   have hu' : P.underlying t = some (.pointer (P.pointee t)) := by simp [Program.pointee, hu]
   split at hp
   ·rename_i hy
    split at hp
    ·injection hp with hp; exact pu (fun v => sound_isNil0 her (neq := false) ho hy hu') hp.symm (by simp)
    ·injection hp with hp; exact pu (fun v => sound_isNil0 her (neq := true) ho hy hu') hp.symm (by simp)
    ·cases hp
   ·cases hp
  ·rename_i el hu
   split at hp
   ·rename_i hy
    split at hp
    ·injection hp with hp; exact pu (fun v => sound_isNil1 her (neq := false) ho hy hu) hp.symm (by simp)
    ·injection hp with hp; exact pu (fun v => sound_isNil1 her (neq := true) ho hy hu) hp.symm (by simp)
    ·cases hp
   ·cases hp
  ·rename_i ky el hu
   split at hp
   ·rename_i hy
    split at hp
    ·injection hp with hp; exact pu (fun v => sound_isNil2 her (neq := false) ho hy hu) hp.symm (by simp)
    ·injection hp with hp; exact pu (fun v => sound_isNil2 her (neq := true) ho hy hu) hp.symm (by simp)
    ·cases hp
   ·cases hp
  ·rename_i ms hu
   split at hp
   ·rename_i hy
    split at hp
    ·injection hp with hp; exact pu (fun v => sound_isNil3 her (neq := false) ho hy hu) hp.symm (by simp)
    ·injection hp with hp; exact pu (fun v => sound_isNil3 her (neq := true) ho hy hu) hp.symm (by simp)
    ·cases hp
   ·injection hp with hp; exact gen hp.symm
  ·injection hp with hp; exact gen hp.symm
  ·cases hp
 ·rename_i t x ho; injection hp with hp; exact pu (fun v => sound_not her ho) hp.symm (by simp)
 ·
  rename_i s d x ho
  split at hp
  ·rename_i k0 k hs hd
   injection hp with hp
   exact pu (fun v => sound_conv her ho hs hd) hp.symm (by simp)
  ·rename_i el hs hd
   split at hp
   ·rename_i he
    injection hp with hp
    subst hp
    exact sound_b2s her hh ho hs hd he h
   ·injection hp with hp; exact gen hp.symm
  ·rename_i el el2 hs hd
   split at hp
   ·rename_i he
    split at hp
    ·rename_i hsd
     injection hp with hp
     subst hp hsd
     exact sound_fix her hh ho hs he h
    ·injection hp with hp; exact gen hp.symm
   ·injection hp with hp; exact gen hp.symm
  ·injection hp with hp; exact gen hp.symm
 ·rename_i fn first captured ho; injection hp with hp; exact pu (fun v => sound_mkfun her ho) hp.symm (by simp)
 ·
  rename_i t x ho
  split at hp
  ·cases hp
  ·rename_i d hnd hu
   injection hp with hp
   exact pu (fun v => sound_mkface her ho hu (fun ms e => hnd ms e)) hp.symm (by simp)
  ·cases hp
 ·
  rename_i t x lo hi mx ho
  split at hp
  ·rename_i el hu
   split at hp
   ·simp only [Option.map_eq_some_iff] at hp
    obtain ⟨s, hs, rfl⟩ := hp
    simp only [stepA, Option.map_eq_some_iff] at h
    obtain ⟨v0, hv, he⟩ := h
    injection he with he1 he2
    subst he1 he2
    obtain ⟨v', q1, q2⟩ := sound_slice her hh ho hu hs hv
    exact .value q1 q2 hh (Fr.refl _ _ _)
   ·rename_i m
    split at hp
    ·rename_i h0
     split at hp
     ·rename_i hc
      simp only [Bool.and_eq_true] at hc
      injection hp with hp
      subst hp
      obtain ⟨s, hs⟩ := Option.isSome_iff_exists.1 hc.2
      simp only [stepA, Option.map_eq_some_iff] at h
      obtain ⟨v0, hv, he⟩ := h
      injection he with he1 he2
      subst he1 he2
      obtain ⟨v', q1, q2⟩ := sound_slice0 her hh ho hu hs hc.1.1 hc.1.2 hv
      exact .value q1 q2 hh (Fr.refl _ _ _)
     ·cases hp
    ·cases hp
  ·injection hp with hp; exact gen hp.symm
 ·
  rename_i s x f ho
  split at hp
  ·rename_i fs hu
   split at hp
   ·rename_i fd hf
    split at hp
    ·rename_i n hs
     injection hp with hp
     exact pu (fun v => sound_faddr her ho hu hf hs) hp.symm (by simp)
    ·cases hp
   ·cases hp
  ·cases hp
 ·
  rename_i t x i ho
  split at hp
  ·rename_i el hu
   simp only [Option.map_eq_some_iff] at hp
   obtain ⟨s, hs, hp⟩ := hp
   exact pu (fun v => sound_iaddr her ho hu hs) hp.symm (by simp)
  ·rename_i cnt el hu
   simp only [Option.map_eq_some_iff] at hp
   obtain ⟨s, hs, hp⟩ := hp
   exact pu (fun v => sound_aaddr her ho hu hs) hp.symm (by simp)
  ·cases hp
 ·
  rename_i t x ho
  simp only [Option.map_eq_some_iff] at hp
  obtain ⟨p, hs, rfl⟩ := hp
  simp only [stepA, Option.map_eq_some_iff] at h
  obtain ⟨v0, hv, he⟩ := h
  injection he with he1 he2
  subst he1 he2
  obtain ⟨v', q1, q2⟩ := sound_load her hh ho hs hv
  exact .value q1 q2 hh (Fr.refl _ _ _)
 ·
  rename_i t p x ho
  simp only [Option.map_eq_some_iff] at hp
  obtain ⟨s, hs, rfl⟩ := hp
  simp only [stepA, Option.map_eq_some_iff] at h
  obtain ⟨H0, hst, he⟩ := h
  injection he with he1 he2
  subst he1 he2
  exact sound_store her hh ho hs hst
 ·
  rename_i el ho
  simp only [Option.bind_eq_some_iff] at hp
  obtain ⟨z, hz, hp⟩ := hp
  split at hp
  ·rename_i hza
   injection hp with hp
   subst hp
   simp only [stepA, newA, Option.map_some] at h
   injection h with h
   injection h with h1 h2
   subst h1 h2
   exact .new hh hb (sound_alloc her ho hz hza _)
  ·cases hp
 ·
  rename_i el x ho
  split at hp
  ·rename_i hs
   injection hp with hp
   subst hp
   obtain ⟨s, hs⟩ := Option.isSome_iff_exists.1 hs
   simp only [stepA, newA] at h
   split at h
   ·rename_i hx
    simp only [Option.map_some] at h
    injection h with h
    injection h with h1 h2
    subst h1 h2
    exact .new hh hb (sound_box her ho hs hx _)
   ·cases h
  ·cases hp
 ·
  rename_i t n parts ho
  split at hp
  ·rename_i el hu
   split at hp
   ·rename_i s z hs hz
    split at hp
    ·rename_i hc
     simp only [Bool.and_eq_true, beq_iff_eq, decide_eq_true_eq] at hc
     injection hp with hp
     subst hp
     simp only [stepA, newA] at h
     split at h
     ·rename_i hk
      simp only [Option.map_some] at h
      injection h with h
      injection h with h1 h2
      subst h1 h2
      exact .new hh hb (sound_bslice her ho hu hs hz hc.1.1 hc.1.2 hc.2 hk _)
     ·cases h
    ·cases hp
   ·cases hp
  ·cases hp
 ·rename_i x ho; injection hp with hp; exact pu (fun v => sound_nilChk her ho) hp.symm (by simp)
 ·
  rename_i f args ts ho
  injection hp with hp
  subst hp
  exact sound_call hcf her hh hb ho h
 ·
  rename_i r m args ts ho
  injection hp with hp
  subst hp
  exact sound_inv hcf her hh hb ho h
 ·
  rename_i args ts ho
  split at hp
  ·rename_i x t ha ht
   split at hp
   ·rename_i el hu
    injection hp with hp
    exact pu (fun v => sound_len her ho ha ht hu) hp.symm (by simp)
   ·rename_i hu
    injection hp with hp
    exact pu (fun v => sound_lenS her ho ha ht hu) hp.symm (by simp)
   ·cases hp
  ·cases hp
 ·
  rename_i args ts ho
  split at hp
  ·rename_i s x t u ha ht
   split at hp
   ·rename_i el hu
    split at hp
    ·rename_i i z hi hz
     split at hp
     ·rename_i hc
      obtain ⟨rfl, hzl, hby⟩ := hc
      injection hp with hp
      subst hp
      exact sound_append her hh hb ho ha ht hu hi hz hzl hby h
     ·cases hp
    ·cases hp
   ·cases hp
  ·cases hp
 ·
  rename_i args ts ho
  split at hp
  ·rename_i x y ha
   split at hp
   ·injection hp with hp; exact pu (fun v => sound_max2 her ho ha) hp.symm (by simp)
   ·injection hp with hp; exact gen hp.symm
  ·injection hp with hp; exact gen hp.symm
 ·
  rename_i args ts ho
  split at hp
  ·rename_i x y ha
   split at hp
   ·injection hp with hp; exact pu (fun v => sound_min2 her ho ha) hp.symm (by simp)
   ·injection hp with hp; exact gen hp.symm
  ·injection hp with hp; exact gen hp.symm
 ·
  rename_i t ho
  split at hp
  ·rename_i hs
   injection hp with hp
   subst hp
   exact sound_mmake her hh hb ho hs h
  ·cases hp
 ·
  rename_i t x i c ho
  split at hp
  ·rename_i k el hu
   split at hp
   ·rename_i kd z z' hk hz hz'
    split at hp
    ·rename_i ha
     rw [Bool.and_eq_true] at ha
     injection hp with hp
     subst hp
     exact sound_mget her hh ho hu hk hz hz' ha.1 ha.2 h
    ·cases hp
   ·cases hp
  ·cases hp
 ·
  rename_i t m k v ho
  split at hp
  ·rename_i kt el hu
   split at hp
   ·rename_i kd hk
    injection hp with hp
    subst hp
    exact sound_mset her hh (.inl ho) hu hk h
   ·cases hp
  ·cases hp
 ·
  rename_i t m k v ho
  split at hp
  ·rename_i kt el hu
   split at hp
   ·rename_i kd hk
    injection hp with hp
    subst hp
    exact sound_mset her hh (.inr ho) hu hk h
   ·cases hp
  ·cases hp
 all_goals first
  | (injection hp with hp; exact gen hp.symm)
  | (cases hp; done)
end
def dstOk (nt : Nat) : Option Nat → Bool
 | some d => decide (d < nt)
 | none => true
def prepRow (P : Program) (nt : Nat) (ops : Array Oper) (o : Oper) : Option ARow :=
 match prepOp P o with
 | none => none
 | some ao =>
  if dstOk nt o.dst = true then
   match o.guard with
   | none => some ⟨o.dst, ao, none⟩
   | some (j, want) => match (ops[j]?).bind (·.dst) with
    | some d => some ⟨o.dst, ao, some (d, want)⟩
    | none => none
  else none
def prepRows (P : Program) (nt : Nat) (ops : Array Oper) : List Oper → Option (List ARow)
 | [] => some []
 | o :: os => match prepRow P nt ops o, prepRows P nt ops os with
  | some r, some rs => some (r :: rs)
  | _, _ => none
theorem prepRow_inv {P : Program} {nt : Nat} {ops : Array Oper} {o : Oper} {r : ARow} (h : prepRow P nt ops o = some r) :
  prepOp P o = some r.op ∧ r.dst = o.dst ∧ (∀ d, o.dst = some d → d < nt) ∧ (match o.guard with | none => r.guard = none | some (j, want) => ∃ d, (ops[j]?).bind (·.dst) = some d ∧ r.guard = some (d, want)) := by
 unfold prepRow at h
 split at h
 ·cases h
 ·rename_i ao hao
  split at h
  ·rename_i hd
   have hdd : ∀ d, o.dst = some d → d < nt := by
    intro d hd2
    rw [hd2] at hd
    simpa [dstOk] using hd
   split at h
   ·rename_i hg
    injection h with h
    subst h
    exact ⟨hao, rfl, hdd, rfl⟩
   ·rename_i j want hg
    split at h
    ·rename_i d hd2
     injection h with h
     subst h
     exact ⟨hao, rfl, hdd, d, hd2, rfl⟩
    ·cases h
  ·cases h
section
variable {P : Program} {σ σ' : Sig} {nt base : Nat} {e : Env} {a : Act} {o : Oper} {H H' : AHeap} {w : World} {ops : Array Oper}
theorem ER.mono (h : ER σ nt e a) (s : Sub σ σ') : ER σ' nt e a := ⟨h.size, h.defers, fun t => (h.get t).mono s⟩
theorem ER.put (h : ER σ nt e a) {d : Option Nat} (hd : ∀ x, d = some x → x < nt) {v v' : Value} (hv : VR σ v v') : ER σ nt (eput e d v) (a.put d v') := by
 cases d with
 | none => exact h
 | some d =>
  refine ⟨by simp [Act.put, h.size], by simp [Act.put, h.defers], fun t => ?_⟩
  simp only [eput, eget_cons, Act.put]
  by_cases hdt : d = t
  ·subst hdt
   rw [if_pos rfl]
   have : d < a.tmps.size := by rw [h.size]; exact hd d rfl
   have e1 : (a.tmps.setIfInBounds d v').getD d undef = v' := by simp [Array.getD, this]
   rw [e1]
   exact hv
  ·rw [if_neg hdt]
   have e1 : (a.tmps.setIfInBounds d v').getD t undef = a.tmps.getD t undef := by
    simp only [Array.getD_eq_getD_getElem?]
    rw [Array.getElem?_setIfInBounds_ne hdt]
   rw [e1]
   exact h.get t
theorem guard_rel (h : ER σ nt e a) {r : ARow} (hg : match o.guard with | none => r.guard = none | some (j, want) => ∃ d, (ops[j]?).bind (·.dst) = some d ∧ r.guard = some (d, want)) {b : Bool} (hb : guardA e r.guard = some b) :
  Region.wanted o (yielded ops a.tmps) = b := by
 unfold Region.wanted
 split at hg
 ·rename_i h0
  rw [hg] at hb
  simp only [guardA, Option.some.injEq] at hb
  rw [h0]
  exact hb
 ·rename_i j want h0
  obtain ⟨d, hd, hr⟩ := hg
  rw [hr] at hb
  simp only [guardA] at hb
  rw [h0]
  simp only [yielded, hd, Option.bind_some]
  have hv := h.get d
  split at hb
  ·rename_i b0 he
   injection hb with hb
   rw [he] at hv
   have hq := VR.bool_inv hv
   have : a.tmps[d]? = some (.bool b0) := by
    rw [Array.getD_eq_getD_getElem?] at hq
    cases hh : a.tmps[d]? with
    | none => rw [hh] at hq; simp [undef] at hq
    | some x => rw [hh] at hq; simp at hq; rw [hq]
   rw [this]
   simp only
   rw [← hb]
   cases b0 <;> cases want <;> rfl
  ·rename_i he
   injection hb with hb
   rw [he] at hv
   obtain ⟨ds, hq, hr2⟩ := VR.tuple_inv hv
   rw [Array.getD_eq_getD_getElem?] at hq
   cases hh : a.tmps[d]? with
   | none => simp only; rw [← hb]; rfl
   | some x =>
    rw [hh] at hq
    simp at hq
    subst hq
    simp only
    rw [← hb]; rfl
  ·cases hb
theorem row_sound {cf : CallF} (hcf : ∀ g args H v H', cf g args H = some (v, H') → Sim P base g args H v H') (her : ER σ nt e a) (hh : HR P σ base H w) (hb : base ≤ w.heap.size) {r : ARow} (hp : prepRow P nt ops o = some r) {e' : Env}
  (h : rowA P cf r e H = some (e', H')) {next : Act → World → Prop} {Q : Exit → Act → World → Prop}
  (hnext : ∀ σ' a' w', ER σ' nt e' a' → HR P σ' base H' w' → Fr σ σ' H H' w w' → next a' w') :
  if Region.wanted o (yielded ops a.tmps) then o.wp P a w next Q else next (a.put o.dst undef) w := by
 obtain ⟨h1, h2, h3, h4⟩ := prepRow_inv hp
 simp only [rowA, Option.map_eq_some_iff] at h
 obtain ⟨⟨v, H1⟩, hs, he⟩ := h
 injection he with he1 he2
 subst he1 he2
 unfold rowV at hs
 split at hs
 ·rename_i hg
  rw [guard_rel her h4 hg, if_pos rfl]
  refine step_sound hcf her hh hb h1 hs next Q fun σ' w' v' q1 q2 q3 => ?_
  refine hnext σ' _ w' ?_ q2 q3
  rw [← h2]
  exact (her.mono q3.sub).put (by rw [h2]; exact h3) q1
 ·rename_i hg
  rw [guard_rel her h4 hg]
  simp only [Bool.false_eq_true, if_false]
  injection hs with hs
  injection hs with he1 he2
  subst he1 he2
  refine hnext σ _ w ?_ hh (Fr.refl _ _ _)
  rw [← h2]
  exact her.put (by rw [h2]; exact h3) (.tuple _ _ .nil)
 ·cases hs
theorem rows_sound {cf : CallF} (hcf : ∀ g args H v H', cf g args H = some (v, H') → Sim P base g args H v H') {Q : Exit → Act → World → Prop} : ∀ (os : List Oper) {rows : List ARow} {σ : Sig} {e : Env} {a : Act} {H : AHeap} {w : World}, prepRows P nt ops os = some rows →
  ER σ nt e a → HR P σ base H w → base ≤ w.heap.size → ∀ {e' : Env} {H' : AHeap}, rowsA P cf rows e H = some (e', H') →
  (∀ σ' a' w', ER σ' nt e' a' → HR P σ' base H' w' → Fr σ σ' H H' w w' → Q .normal a' w') → wpList P ops Q os a w
 | [], rows, σ, e, a, H, w, hp, her, hh, hb, e', H', h, hq => by
  simp [prepRows] at hp
  subst hp
  simp only [rowsA] at h
  injection h with h
  injection h with h1 h2
  subst h1 h2
  exact hq σ a w her hh (Fr.refl _ _ _)
 | o :: os, rows, σ, e, a, H, w, hp, her, hh, hb, e', H', h, hq => by
  simp only [prepRows] at hp
  split at hp
  ·rename_i r rs hr hrs
   injection hp with hp
   subst hp
   simp only [rowsA] at h
   split at h
   ·rename_i e1 H1 h1
    refine wpList_step fun K hK => ?_
    refine row_sound hcf her hh hb hr h1 fun σ1 a1 w1 q1 q2 q3 => hK _ _ ?_
    exact rows_sound hcf os hrs q1 q2 (Nat.le_trans hb q3.size) h fun σ2 a2 w2 p1 p2 p3 => hq σ2 a2 w2 p1 p2 (q3.trans p3)
   ·cases h
  ·cases hp
end
theorem VerLe.push (H : AHeap) (b : ABlk) : VerLe H (H.push b) := ⟨by simp, fun i x hx => ⟨x, by rw [AHeap.get_push, if_neg (by have := AHeap.lt_of_get hx; omega)]; exact hx, Nat.le_refl _, rfl, fun _ => ⟨rfl, id, id⟩⟩⟩
theorem VerLe.kill (H : AHeap) (l : List Nat) : VerLe H (killAll H l) := ⟨by rw [killAll_n]; exact Nat.le_refl _, fun i b hb => by
 obtain ⟨b', h1, h2, h3⟩ := killAll_get_ex l H i b hb
 obtain ⟨b3, h4, h5⟩ := killAll_elem l h1
 rw [hb] at h4
 injection h4 with h4
 subst h4
 exact ⟨b', h1, h2, h5, fun e => by rw [h3 e]; exact ⟨rfl, id, id⟩⟩⟩
theorem VerLe.upd {H : AHeap} {i : Nat} {b b' : ABlk} (hg : H.get i = some b) (h1 : b.ver ≤ b'.ver) (h2 : b'.elem = b.elem) (h3 : b'.ver = b.ver → b'.cells = b.cells ∧ (b.st.mem = true → b'.st.mem = true) ∧ (b.st = .map → b'.st = .map)) : VerLe H (H.upd i b') :=
 ⟨by simp, fun j x hx => by
  by_cases e : j = i
  ·subst e
   rw [hg] at hx
   injection hx with hx
   subst hx
   exact ⟨b', by rw [AHeap.get_upd hg, if_pos rfl], h1, h2, h3⟩
  ·exact ⟨x, by rw [AHeap.get_upd hg, if_neg e]; exact hx, Nat.le_refl _, rfl, fun _ => ⟨rfl, id, id⟩⟩⟩
section
variable {P : Program} {cf : CallF} (hcf : ∀ g args H v H', cf g args H = some (v, H') → VerLe H H')
theorem storeA_ver {H H' : AHeap} {p v : Value} {n : Nat} (h : storeA H p v n = some H') : VerLe H H' := by
 obtain ⟨i, off, blk, rfl, hg, ht, hlen, hone, hle, rfl⟩ := storeA_inv h
 obtain ⟨b2, h1, h2, h3⟩ := killAll_get_ex blk.anc H i blk hg
 obtain ⟨b3, h4, h5⟩ := killAll_elem blk.anc h1
 refine ⟨by simp [killAll_n], fun j x hx => ?_⟩
 by_cases e : j = i
 ·subst e
  rw [hg] at hx
  injection hx with hx
  subst hx
  refine ⟨⟨blk.cells.take off ++ v.cells.toList ++ blk.cells.drop (off + n), blk.elem, .tip, blk.ver + 1, []⟩, ?_, by simp, rfl, fun e => by simp at e⟩
  rw [AHeap.get_upd h1, if_pos rfl]
 ·obtain ⟨b', q1, q2, q3, q4⟩ := (VerLe.kill H blk.anc).2 j x hx
  exact ⟨b', by rw [AHeap.get_upd h1, if_neg e]; exact q1, q2, q3, q4⟩
theorem appendA_ver {H H' : AHeap} {s x v : Value} {el sz bytes : Nat} (h : appendA H s x el sz bytes = some (v, H')) : VerLe H H' := by
 unfold appendA at h
 repeat' split at h
 all_goals first
  | (cases h; done)
  | (injection h with h; injection h with h1 h2; subst h1 h2; exact VerLe.refl _)
  | (injection h with h; injection h with h1 h2; subst h1 h2; exact VerLe.push _ _)
  | skip
 ·rename_i blk hg hc hend
  injection h with h
  injection h with h1 h2
  subst h1 h2
  exact (VerLe.upd (b' := { blk with st := .ret }) hg (Nat.le_refl _) rfl (fun _ => ⟨rfl, fun _ => rfl, fun e => by rw [hc.1] at e; cases e⟩)).trans (VerLe.push _ _)
 ·injection h with h
  injection h with h1 h2
  subst h1 h2
  exact (VerLe.kill _ _).trans (VerLe.push _ _)
theorem storeA_ver_opt {H H' : AHeap} {p v r : Value} {n : Nat} (h : (storeA H p v n).map (fun H' => (Value.tuple ⟨[]⟩, H')) = some (r, H')) : VerLe H H' := by
 simp only [Option.map_eq_some_iff] at h
 obtain ⟨H0, h1, h2⟩ := h
 injection h2 with h2 h3
 subst h3
 exact storeA_ver h1
include hcf
theorem mapA_ver {e : Env} {H H' : AHeap} {m : MapOp} {v : Value} (h : mapA P cf e H m = some (v, H')) : VerLe H H' := by
 cases m with
 | make t =>
  have h : some (Value.map (some H.n), H.push ⟨[], t, .map, 0, []⟩) = some (v, H') := h
  injection h with h
  injection h with h1 h2
  subst h2
  exact VerLe.push _ _
 | get x i z ok =>
  have h : mapGet (ev e x) (ev e i) z ok H = some (v, H') := h
  unfold mapGet at h
  repeat' split at h
  all_goals first
   | (cases h; done)
   | (simp only [Option.map_eq_some_iff] at h; obtain ⟨r, _, h⟩ := h; injection h with h1 h2; subst h2; exact VerLe.refl _)
 | set m k x =>
  have h : mapSet (ev e m) (ev e k) (ev e x) H = some (v, H') := h
  unfold mapSet at h
  repeat' split at h
  all_goals first
   | (cases h; done)
   | skip
  rename_i blk hg hc
  simp only [Option.map_eq_some_iff] at h
  obtain ⟨r, _, h⟩ := h
  injection h with h1 h2
  subst h2
  exact VerLe.upd hg (Nat.le_succ _) rfl (fun e => absurd e (Nat.succ_ne_self _))
 | b2s x =>
  have h : (match cellsOf H 1 (ev e x) with | some cs => (txtB ByteArray.empty cs).map fun s => (Value.string s, H) | none => none) = some (v, H') := h
  split at h
  ·simp only [Option.map_eq_some_iff] at h
   obtain ⟨r, _, h⟩ := h
   injection h with h1 h2
   subst h2
   exact VerLe.refl _
  ·cases h
 | fix x =>
  have h : fixA (ev e x) H = some (v, H') := h
  unfold fixA at h
  repeat' split at h
  all_goals first
   | (cases h; done)
   | skip
  rename_i b hg hc
  injection h with h
  injection h with h1 h2
  subst h2
  exact VerLe.upd hg (Nat.le_refl _) rfl (fun _ => ⟨rfl, fun _ => rfl, fun e => by rw [hc.1] at e; cases e⟩)
 | inv r name args =>
  have h : invA P cf (ev e r) name (args.map (ev e)) H = some (v, H') := h
  unfold invA at h
  repeat' split at h
  all_goals first
   | (cases h; done)
   | exact hcf _ _ _ _ _ h
theorem stepA_ver {e : Env} {H H' : AHeap} {o : AOp} {v : Value} (h : stepA P cf e H o = some (v, H')) : VerLe H H' := by
 unfold stepA at h
 split at h
 case h_7 => exact storeA_ver_opt h
 case h_8 => exact appendA_ver h
 case h_9 =>
  split at h
  ·exact hcf _ _ _ _ _ h
  ·cases h
 case h_10 => exact mapA_ver hcf h
 all_goals
  simp only [Option.map_eq_some_iff] at h
  obtain ⟨r, h1, h2⟩ := h
  injection h2 with h2 h3
  subst h3
  first | exact VerLe.refl _ | exact VerLe.push _ _
theorem rowV_ver {e : Env} {H H' : AHeap} {r : ARow} {v : Value} (h : rowV P cf r e H = some (v, H')) : VerLe H H' := by
 unfold rowV at h
 split at h
 ·exact stepA_ver hcf h
 ·injection h with h
  injection h with h1 h2
  subst h2
  exact VerLe.refl _
 ·cases h
theorem rowsA_ver : ∀ {rows : List ARow} {e e' : Env} {H H' : AHeap}, rowsA P cf rows e H = some (e', H') → VerLe H H'
 | [], e, e', H, H', h => by simp [rowsA] at h; rw [h.2]; exact VerLe.refl _
 | r :: rs, e, e', H, H', h => by
  simp only [rowsA] at h
  split at h
  ·rename_i e1 H1 h1
   simp only [rowA, Option.map_eq_some_iff] at h1
   obtain ⟨⟨v, H2⟩, h2, h3⟩ := h1
   injection h3 with h3 h4
   subst h4
   exact (rowV_ver hcf h2).trans (rowsA_ver h)
  ·cases h
theorem drawA_ver : ∀ {rows : List ARow} {l : List (Nat × Nat)} {F : List Nat} {e e' : Env} {H H' : AHeap}, drawA P cf rows l F e H = some (e', H') → VerLe H H'
 | [], l, F, e, e', H, H', h => by
  simp only [drawA] at h
  split at h
  ·injection h with h
   injection h with h1 h2
   subst h2
   exact VerLe.refl _
  ·cases h
 | r :: rs, l, F, e, e', H, H', h => by
  simp only [drawA] at h
  split at h
  ·rename_i v H1 h1
   split at h
   ·exact (rowV_ver hcf h1).trans (drawA_ver h)
   ·cases h
  ·cases h
omit hcf in
theorem iterA_ver {keep : List Nat} {body : Env → AHeap → Option (AEx × Env × AHeap)} (hb : ∀ {e H x e' H'}, body e H = some (x, e', H') → VerLe H H') : ∀ {n : Nat} {e : Env} {H : AHeap} {x : AEx} {e' : Env} {H' : AHeap}, iterA keep body n e H = some (x, e', H') → VerLe H H'
 | 0, e, H, x, e', H', h => by simp [iterA] at h
 | n + 1, e, H, x, e', H', h => by
  simp only [iterA] at h
  split at h
  ·cases h
  ·rename_i e1 H1 h1
   exact (hb h1).trans (iterA_ver hb h)
  ·rename_i r hr h1
   injection h with h
   subst h
   exact hb h1
theorem execA_ver {lf : Nat} : ∀ {c : ACode} {e : Env} {H : AHeap} {x : AEx} {e' : Env} {H' : AHeap}, execA P cf lf c e H = some (x, e', H') → VerLe H H'
 | .skip, e, H, x, e', H', h => by simp [execA] at h; rw [h.2.2]; exact VerLe.refl _
 | .ops rows, e, H, x, e', H', h => by
  simp only [execA, Option.map_eq_some_iff] at h
  obtain ⟨⟨e1, H1⟩, h1, h2⟩ := h
  injection h2 with h2 h3
  injection h3 with h3 h4
  subst h4
  exact rowsA_ver hcf h1
 | .draw rows, e, H, x, e', H', h => by
  simp only [execA, Option.map_eq_some_iff] at h
  obtain ⟨⟨e1, H1⟩, h1, h2⟩ := h
  injection h2 with h2 h3
  injection h3 with h3 h4
  subst h4
  exact drawA_ver hcf h1
 | .seq a b, e, H, x, e', H', h => by
  simp only [execA] at h
  split at h
  ·rename_i e1 H1 h1
   exact (execA_ver h1).trans (execA_ver h)
  ·exact execA_ver h
 | .cond c a b, e, H, x, e', H', h => by
  simp only [execA] at h
  split at h
  ·exact execA_ver h
  ·exact execA_ver h
  ·cases h
 | .block id c, e, H, x, e', H', h => by
  simp only [execA] at h
  split at h
  ·rename_i id' e1 H1 h1
   split at h
   ·injection h with h
    injection h with h2 h3
    injection h3 with h3 h4
    subst h4
    exact execA_ver h1
   ·injection h with h
    injection h with h2 h3
    injection h3 with h3 h4
    subst h4
    exact execA_ver h1
  ·exact execA_ver h
 | .loop keep c, e, H, x, e', H', h => by
  simp only [execA] at h
  exact iterA_ver (fun h => execA_ver h) h
 | .exit id, e, H, x, e', H', h => by simp [execA] at h; rw [h.2.2]; exact VerLe.refl _
 | .ret, e, H, x, e', H', h => by simp [execA] at h; rw [h.2.2]; exact VerLe.refl _
end
end Lon
