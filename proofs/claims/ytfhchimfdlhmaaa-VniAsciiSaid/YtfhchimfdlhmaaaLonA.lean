/- What is proved here: how a value of the interpreter stands for a value of the model. Conditions: those that each theorem names, and no others. -/
import Derived.Orders
import Derived.Laws.AppendOwn
import Derived.Laws.Cells
import Derived.Laws.CopyRow
import Derived.Laws.Rows
import Derived.Laws.Tables
import Derived.Below
/-! The abstract heap of the interpreter, and how it is related to the model's world. -/
namespace Lon
open Go

/-- Where an abstract block lies: the block, where it begins in it, how many cells the block has, how many an element has. -/
structure Loc where
  b : Nat
  f : Nat
  tot : Nat
  sz : Nat

abbrev Sig := Nat → Option Loc

mutual
inductive VR (σ : Sig) : Value → Value → Prop
  | poison (v : Value) : VR σ (.chan (some 0)) v
  | bool (b : Bool) : VR σ (.bool b) (.bool b)
  | int (k : IntKind) (n : Int) : VR σ (.int k n) (.int k n)
  | float (k : FloatKind) (n : Nat) : VR σ (.float k n) (.float k n)
  | complex (k : FloatKind) (a b : Nat) : VR σ (.complex k a b) (.complex k a b)
  | string (s : ByteArray) : VR σ (.string s) (.string s)
  | nilPtr : VR σ (.pointer none) (.pointer none)
  | ptr (i o : Nat) (l : Loc) (h : σ i = some l) : VR σ (.pointer (some ⟨i, o, none⟩)) (.pointer (some ⟨l.b, l.f + o, none⟩))
  | nilSlice : VR σ (.slice none 0 0) (.slice none 0 0)
  | slice (i o n c f' c' : Nat) (l : Loc) (h : σ i = some l) (hf : 0 < n → f' = l.f + o) (hn : n ≤ c') (hc : c ≤ c' + 1) (h0 : c = 0 → c' = 0) (ht : f' + c' * l.sz ≤ l.tot) :
      VR σ (.slice (some ⟨i, o, none⟩) n c) (.slice (some ⟨l.b, f', none⟩) n c')
  | nilAt (a : Addr) : VR σ (.slice (some ⟨0, 0, some 0⟩) 0 0) (.slice (some a) 0 0)
  | nilMap : VR σ (.map none) (.map none)
  | map (i : Nat) (l : Loc) (h : σ i = some l) : VR σ (.map (some i)) (.map (some l.b))
  | func (fn : Fn) (xs ys xs' ys' : List Value) (hx : VRs σ xs xs') (hy : VRs σ ys ys') : VR σ (.func fn ⟨xs⟩ ⟨ys⟩) (.func fn ⟨xs'⟩ ⟨ys'⟩)
  | nilFunc : VR σ .nilFunc .nilFunc
  | nilIface : VR σ .nilIface .nilIface
  | iface (t : TypeId) (v v' : Value) (h : VR σ v v') : VR σ (.iface t v) (.iface t v')
  | agg (xs xs' : List Value) (h : VRs σ xs xs') : VR σ (.agg ⟨xs⟩) (.agg ⟨xs'⟩)
  | tuple (xs xs' : List Value) (h : VRs σ xs xs') : VR σ (.tuple ⟨xs⟩) (.tuple ⟨xs'⟩)
inductive VRs (σ : Sig) : List Value → List Value → Prop
  | nil : VRs σ [] []
  | cons (v v' : Value) (vs vs' : List Value) (h : VR σ v v') (hs : VRs σ vs vs') : VRs σ (v :: vs) (v' :: vs')
end

def Sub (σ σ' : Sig) : Prop := ∀ i l, σ i = some l → σ' i = some l
theorem Sub.refl (σ : Sig) : Sub σ σ := fun _ _ h => h
theorem Sub.trans {a b c : Sig} (h : Sub a b) (k : Sub b c) : Sub a c := fun i l e => k i l (h i l e)

mutual
theorem VR.mono {σ σ' : Sig} (s : Sub σ σ') : ∀ {v v' : Value}, VR σ v v' → VR σ' v v'
  | _, _, .poison v => .poison v
  | _, _, .bool b => .bool b
  | _, _, .int k n => .int k n
  | _, _, .float k n => .float k n
  | _, _, .complex k a b => .complex k a b
  | _, _, .string x => .string x
  | _, _, .nilPtr => .nilPtr
  | _, _, .ptr i o l h => .ptr i o l (s _ _ h)
  | _, _, .nilSlice => .nilSlice
  | _, _, .slice i o n c f' c' l h hf hn hc h0 ht => .slice i o n c f' c' l (s _ _ h) hf hn hc h0 ht
  | _, _, .nilAt a => .nilAt a
  | _, _, .nilMap => .nilMap
  | _, _, .map i l h => .map i l (s _ _ h)
  | _, _, .func fn xs ys xs' ys' hx hy => .func fn xs ys xs' ys' (VRs.mono s hx) (VRs.mono s hy)
  | _, _, .nilFunc => .nilFunc
  | _, _, .nilIface => .nilIface
  | _, _, .iface t v v' h => .iface t v v' (VR.mono s h)
  | _, _, .agg xs xs' h => .agg xs xs' (VRs.mono s h)
  | _, _, .tuple xs xs' h => .tuple xs xs' (VRs.mono s h)
theorem VRs.mono {σ σ' : Sig} (s : Sub σ σ') : ∀ {v v' : List Value}, VRs σ v v' → VRs σ' v v'
  | _, _, .nil => .nil
  | _, _, .cons v v' vs vs' h hs => .cons v v' vs vs' (VR.mono s h) (VRs.mono s hs)
end

theorem VRs.length {σ : Sig} : ∀ {xs ys : List Value}, VRs σ xs ys → ys.length = xs.length
  | _, _, .nil => rfl
  | _, _, .cons _ _ _ _ _ hs => by simp [VRs.length hs]
theorem VRs.get {σ : Sig} : ∀ {xs ys : List Value}, VRs σ xs ys → ∀ {k : Nat} {v : Value}, xs[k]? = some v → ∃ v', ys[k]? = some v' ∧ VR σ v v'
  | _, _, .nil, k, v, h => by simp at h
  | _, _, .cons _ _ _ _ h0 hs, 0, v, h => by
    simp at h
    subst h
    exact ⟨_, by simp, h0⟩
  | _, _, .cons _ _ _ _ _ hs, k + 1, v, h => by
    simp at h
    obtain ⟨v', e, hv⟩ := VRs.get hs h
    exact ⟨v', by simpa using e, hv⟩
theorem VRs.of_get {σ : Sig} : ∀ {xs ys : List Value}, ys.length = xs.length → (∀ (k : Nat) (v v' : Value), xs[k]? = some v → ys[k]? = some v' → VR σ v v') → VRs σ xs ys
  | [], [], _, _ => .nil
  | [], _ :: _, h, _ => by simp at h
  | _ :: _, [], h, _ => by simp at h
  | x :: xs, y :: ys, h, hk => .cons _ _ _ _ (hk 0 x y (by simp) (by simp)) (VRs.of_get (by simpa using h) fun k v v' e e' => hk (k + 1) v v' (by simpa using e) (by simpa using e'))
theorem VRs.append {σ : Sig} : ∀ {a b c d : List Value}, VRs σ a b → VRs σ c d → VRs σ (a ++ c) (b ++ d)
  | _, _, _, _, .nil, h => h
  | _, _, _, _, .cons _ _ _ _ h hs, k => .cons _ _ _ _ h (VRs.append hs k)
theorem VRs.take {σ : Sig} {a b : List Value} (h : VRs σ a b) (n : Nat) : VRs σ (a.take n) (b.take n) := by
  refine VRs.of_get (by simp [h.length]) fun k v v' e e' => ?_
  rw [List.getElem?_take] at e e'
  split at e
  · rename_i hk
    rw [if_pos hk] at e'
    obtain ⟨u, hu, hv⟩ := h.get e
    rw [e'] at hu
    injection hu with hu
    exact hu ▸ hv
  · cases e
theorem VRs.drop {σ : Sig} {a b : List Value} (h : VRs σ a b) (n : Nat) : VRs σ (a.drop n) (b.drop n) := by
  refine VRs.of_get (by simp [h.length]) fun k v v' e e' => ?_
  rw [List.getElem?_drop] at e e'
  obtain ⟨u, hu, hv⟩ := h.get e
  rw [e'] at hu
  injection hu with hu
  exact hu ▸ hv

/-! ### Ground values: they have no address -/
def atom : Value → Bool
  | .bool _ | .int .. | .float .. | .complex .. | .string _ | .pointer none | .slice none 0 0 | .map none | .nilFunc | .nilIface => true
  | .func _ ⟨[]⟩ ⟨[]⟩ => true
  | _ => false
def ground : Value → Bool
  | .agg ⟨xs⟩ => xs.all atom
  | .tuple ⟨x :: xs⟩ => (x :: xs).all atom
  | .iface _ v => atom v
  | v => atom v
theorem VR.of_atom {σ : Sig} {v : Value} (h : atom v = true) : VR σ v v := by
  unfold atom at h
  split at h <;> first | exact .bool _ | exact .int _ _ | exact .float _ _ | exact .complex _ _ _ | exact .string _ | exact .nilPtr | exact .nilSlice | exact .nilMap | exact .nilFunc | exact .nilIface | exact .func _ _ _ _ _ .nil .nil | cases h
theorem VR.eq_atom {σ : Sig} {v v' : Value} (h : atom v = true) (r : VR σ v v') : v' = v := by
  cases r <;> first | rfl | (simp [atom] at h; done) | skip
  case func fn xs ys xs' ys' hx hy =>
    cases hx <;> cases hy <;> first | rfl | (simp [atom] at h; done)
theorem VRs.of_atoms {σ : Sig} : ∀ {xs : List Value}, xs.all atom = true → VRs σ xs xs
  | [], _ => .nil
  | x :: xs, h => by
    simp only [List.all_cons, Bool.and_eq_true] at h
    exact .cons _ _ _ _ (VR.of_atom h.1) (VRs.of_atoms h.2)
theorem VRs.eq_atoms {σ : Sig} : ∀ {xs ys : List Value}, xs.all atom = true → VRs σ xs ys → ys = xs
  | _, _, _, .nil => rfl
  | _, _, h, .cons _ _ _ _ r rs => by
    simp only [List.all_cons, Bool.and_eq_true] at h
    rw [VR.eq_atom h.1 r, VRs.eq_atoms h.2 rs]
theorem VR.of_ground {σ : Sig} {v : Value} (h : ground v = true) : VR σ v v := by
  unfold ground at h
  split at h
  · exact .agg _ _ (VRs.of_atoms h)
  · exact .tuple _ _ (VRs.of_atoms h)
  · exact .iface _ _ _ (VR.of_atom h)
  · exact VR.of_atom h
theorem VR.eq_ground {σ : Sig} {v v' : Value} (h : ground v = true) (r : VR σ v v') : v' = v := by
  unfold ground at h
  split at h
  · cases r with | agg _ _ hs => rw [VRs.eq_atoms h hs]
  · cases r with | tuple _ _ hs => rw [VRs.eq_atoms h hs]
  · cases r with | iface _ _ _ hs => rw [VR.eq_atom h hs]
  · exact VR.eq_atom h r
end Lon
