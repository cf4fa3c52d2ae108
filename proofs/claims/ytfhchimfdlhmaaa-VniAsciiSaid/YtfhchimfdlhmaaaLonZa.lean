/- What is proved here: that a faster form of the interpreter is the same. Conditions: those that each theorem names, and no others. -/
import Derived.Test.YtfhchimfdlhmaaaLonZ
/-! The interpreter once more, in a form that the kernel runs faster; and that it is the same. -/
set_option linter.unusedSimpArgs false
set_option linter.unusedVariables false
namespace Lon
open Go

/-! Whole numbers. -/
def iLt (a b : Int) : Bool := match a, b with
  | .ofNat m, .ofNat n => Nat.blt m n
  | .ofNat _, .negSucc _ => false
  | .negSucc _, .ofNat _ => true
  | .negSucc m, .negSucc n => Nat.blt n m
def iEq (a b : Int) : Bool := match a, b with
  | .ofNat m, .ofNat n => Nat.beq m n
  | .negSucc m, .negSucc n => Nat.beq m n
  | _, _ => false
theorem iLt_eq (a b : Int) : iLt a b = decide (a < b) := by
  unfold iLt
  split
  · rename_i m n
    by_cases h : m < n
    · have : Nat.blt m n = true := by simp [Nat.blt_eq, h]
      rw [this]; symm; simp; omega
    · have : Nat.blt m n = false := by
        cases hb : Nat.blt m n with
        | false => rfl
        | true => exact absurd (by simpa [Nat.blt_eq] using hb) h
      rw [this]; symm; simp; omega
  · symm; simp; omega
  · symm; simp; omega
  · rename_i m n
    by_cases h : n < m
    · have : Nat.blt n m = true := by simp [Nat.blt_eq, h]
      rw [this]; symm; simp; omega
    · have : Nat.blt n m = false := by
        cases hb : Nat.blt n m with
        | false => rfl
        | true => exact absurd (by simpa [Nat.blt_eq] using hb) h
      rw [this]; symm; simp; omega
theorem iEq_eq (a b : Int) : iEq a b = (a == b) := by
  have key : ∀ m n : Nat, Nat.beq m n = decide (m = n) := fun m n => by
    by_cases h : m = n
    · subst h; simp
    · have : Nat.beq m n = false := by
        cases hb : Nat.beq m n with
        | false => rfl
        | true => exact absurd (Nat.eq_of_beq_eq_true hb) h
      rw [this]; simp [h]
  unfold iEq
  split
  · rename_i m n
    rw [key]
    by_cases h : m = n
    · simp [h]
    · simp [h]; omega
  · rename_i m n
    rw [key]
    by_cases h : m = n <;> simp [h]
  · rename_i h1 h2
    cases a <;> cases b <;> first | rfl | (rename_i m n; exact absurd rfl (h1 m n rfl)) | (rename_i m n; exact absurd rfl (h2 m n rfl)) | skip
    all_goals first | (exfalso; exact h1 _ _ rfl rfl) | (exfalso; exact h2 _ _ rfl rfl)
/-- The first number beyond a kind's. -/
def limK : IntKind → Nat
  | .i8 => 128 | .i16 => 32768 | .i32 => 2147483648 | .i64 => 9223372036854775808
  | .u8 => 256 | .u16 => 65536 | .u32 => 4294967296 | .u64 => 18446744073709551616
def iWrap (k : IntKind) (n : Int) : Int := match n with
  | .ofNat m => cond (Nat.blt m (limK k)) (.ofNat m) (k.wrap (.ofNat m))
  | .negSucc m => k.wrap (.negSucc m)
theorem iWrap_eq (k : IntKind) (n : Int) : iWrap k n = k.wrap n := by
  unfold iWrap
  split
  · rename_i m
    cases h : Nat.blt m (limK k) with
    | false => rfl
    | true =>
      have hlt : m < limK k := by simpa [Nat.blt_eq] using h
      show (Int.ofNat m) = _
      unfold IntKind.wrap
      cases k <;> simp only [limK] at hlt <;> simp only [IntKind.bits, IntKind.signed] <;> (try simp) <;> (try split) <;> omega
  · rfl
def nAdd (a b : Int) : Int := match a, b with
  | .ofNat m, .ofNat n => .ofNat (Nat.add m n)
  | a, b => a + b
theorem nAdd_eq (a b : Int) : nAdd a b = a + b := by
  unfold nAdd
  split
  · rfl
  · rfl
def oAdd (k : IntKind) (a b : Int) : Option Value := some (.int k (iWrap k (nAdd a b)))
def oEql (k : IntKind) (a b : Int) : Option Value := some (.bool (iEq a b))
def oNeq (k : IntKind) (a b : Int) : Option Value := some (.bool (not (iEq a b)))
def oLss (k : IntKind) (a b : Int) : Option Value := some (.bool (iLt a b))
def oGtr (k : IntKind) (a b : Int) : Option Value := some (.bool (iLt b a))
def oLeq (k : IntKind) (a b : Int) : Option Value := some (.bool (not (iLt b a)))
def oGeq (k : IntKind) (a b : Int) : Option Value := some (.bool (not (iLt a b)))
def intB : BinOp → IntKind → Int → Int → Option Value
  | .add => oAdd
  | .eql => oEql
  | .neq => oNeq
  | .lss => oLss
  | .gtr => oGtr
  | .leq => oLeq
  | .geq => oGeq
  | op => intOp op
theorem intB_eq (op : BinOp) (k : IntKind) (a b : Int) : intB op k a b = intOp op k a b := by
  cases op <;> simp only [intB, oAdd, oEql, oNeq, oLss, oGtr, oLeq, oGeq, intOp, iWrap_eq, nAdd_eq, iEq_eq, iLt_eq, bne] <;> try rfl
  · simp only [Option.some.injEq, Value.bool.injEq]
    by_cases h : b < a <;> simp [h] <;> omega
  · simp only [Option.some.injEq, Value.bool.injEq]
    by_cases h : a < b <;> simp [h] <;> omega

/-! Operands. -/
noncomputable def evT (t : Nat) (e : Env) : Value := eget e t
def evC (v : Value) (_ : Env) : Value := cond (ground v) v poison
def evP (_ : Env) : Value := poison
def evF (f : FuncId) (_ : Env) : Value := .func (.func f) ⟨[]⟩ ⟨[]⟩
noncomputable def evB : Operand → Env → Value
  | .tmp t => evT t
  | .const v => evC v
  | .global _ => evP
  | .func f => evF f
theorem evB_eq (x : Operand) (e : Env) : evB x e = ev e x := by
  cases x <;> simp only [evB, ev, evT, evC, evP, evF]
  rename_i v
  cases ground v <;> rfl

abbrev StepF := Program → CallF → Env → AHeap → Option (Value × AHeap)
noncomputable def sMv (x : Operand) : StepF := fun _ _ e H => some (evB x e, H)
def kPick (a b : Value) (H : AHeap) (c : Value) : Option (Value × AHeap) := match c with
  | .bool t => some (cond t a b, H)
  | _ => none
noncomputable def sPick (c a b : Operand) : StepF := fun _ _ e H => kPick (evB a e) (evB b e) H (evB c e)
def kInt2 (op : BinOp) (k : IntKind) (a : Int) (H : AHeap) (y : Value) : Option (Value × AHeap) := match y with
  | .int k' b => if k = k' then (match intB op k a b with | some v => some (v, H) | none => none) else none
  | _ => none
noncomputable def kInt (op : BinOp) (y : Operand) (e : Env) (H : AHeap) (x : Value) : Option (Value × AHeap) := match x with
  | .int k a => kInt2 op k a H (evB y e)
  | _ => none
noncomputable def sInt (op : BinOp) (x y : Operand) : StepF := fun _ _ e H => kInt op y e H (evB x e)
def kConv (k : IntKind) (H : AHeap) (x : Value) : Option (Value × AHeap) := match x with
  | .int _ n => some (.int k (iWrap k n), H)
  | _ => none
noncomputable def sConv (k : IntKind) (x : Operand) : StepF := fun _ _ e H => kConv k H (evB x e)
/-- Whether an index is within its bound, and where it leads. -/
def kAt (b o n sz : Nat) (H : AHeap) (j : Int) : Option (Value × AHeap) := match j with
  | .ofNat m => cond (Nat.blt m n) (some (.pointer (some ⟨b, o + m * sz, none⟩), H)) none
  | .negSucc _ => none
def kIaddr2 (b o n sz : Nat) (H : AHeap) (i : Value) : Option (Value × AHeap) := match i with
  | .int _ j => kAt b o n sz H j
  | _ => none
noncomputable def kIaddr (i : Operand) (sz : Nat) (e : Env) (H : AHeap) (x : Value) : Option (Value × AHeap) := match x with
  | .slice (some ⟨b, o, none⟩) n _ => kIaddr2 b o n sz H (evB i e)
  | _ => none
noncomputable def sIaddr (x i : Operand) (sz : Nat) : StepF := fun _ _ e H => kIaddr i sz e H (evB x e)
noncomputable def kAaddr (i : Operand) (cnt sz : Nat) (e : Env) (H : AHeap) (x : Value) : Option (Value × AHeap) := match x with
  | .pointer (some ⟨b, o, none⟩) => kIaddr2 b o cnt sz H (evB i e)
  | _ => none
noncomputable def sAaddr (x i : Operand) (cnt sz : Nat) : StepF := fun _ _ e H => kAaddr i cnt sz e H (evB x e)
/-! Rows of cells. -/
noncomputable def appB (a b : List Value) : List Value := List.rec (motive := fun _ => List Value) b (fun x _ ih => x :: ih) a
noncomputable def dropB (n : Nat) (l : List Value) : List Value := Nat.rec (motive := fun _ => List Value → List Value) (fun l => l) (fun _ ih l => List.casesOn l [] (fun _ r => ih r)) n l
noncomputable def takeB (n : Nat) (l : List Value) : List Value := Nat.rec (motive := fun _ => List Value → List Value) (fun _ => []) (fun _ ih l => List.casesOn l [] (fun x r => x :: ih r)) n l
noncomputable def lenB (l : List Value) : Nat := List.rec (motive := fun _ => Nat) 0 (fun _ _ ih => Nat.add ih 1) l
noncomputable def getB (i : Nat) (l : List Value) : Option Value := Nat.rec (motive := fun _ => List Value → Option Value) (fun l => List.casesOn l none (fun x _ => some x)) (fun _ ih l => List.casesOn l none (fun _ r => ih r)) i l
noncomputable def allB (l : List Value) : Bool := List.rec (motive := fun _ => Bool) true (fun x _ ih => cond (one x) ih false) l
theorem appB_eq (b : List Value) : ∀ a : List Value, appB a b = a ++ b
  | [] => rfl
  | x :: r => by show x :: appB r b = _; rw [appB_eq b r]; rfl
theorem dropB_eq : ∀ (n : Nat) (l : List Value), dropB n l = l.drop n
  | 0, l => rfl
  | n + 1, [] => rfl
  | n + 1, _ :: r => dropB_eq n r
theorem takeB_eq : ∀ (n : Nat) (l : List Value), takeB n l = l.take n
  | 0, l => rfl
  | n + 1, [] => rfl
  | n + 1, x :: r => by show x :: takeB n r = _; rw [takeB_eq n r]; rfl
theorem lenB_eq : ∀ l : List Value, lenB l = l.length
  | [] => rfl
  | x :: r => by show Nat.add (lenB r) 1 = _; rw [lenB_eq r]; rfl
theorem getB_eq : ∀ (i : Nat) (l : List Value), getB i l = l[i]?
  | 0, [] => rfl
  | 0, _ :: _ => rfl
  | n + 1, [] => rfl
  | n + 1, _ :: r => getB_eq n r
theorem allB_eq : ∀ l : List Value, allB l = l.all one
  | [] => rfl
  | x :: r => by
    show cond (one x) (allB r) false = _
    rw [allB_eq r, List.all_cons]
    cases one x <;> rfl
theorem ble_ite {α : Type} (m n : Nat) (a b : α) : cond (Nat.ble m n) a b = if m ≤ n then a else b := by
  by_cases h : m ≤ n
  · have : Nat.ble m n = true := Nat.ble_eq_true_of_le h
    rw [this, if_pos h]; rfl
  · have : Nat.ble m n = false := by
      cases hb : Nat.ble m n with
      | false => rfl
      | true => exact absurd (Nat.le_of_ble_eq_true hb) h
    rw [this, if_neg h]; rfl
noncomputable def gotB (o : Nat) (k : Option Nat) (H : AHeap) (b : Option ABlk) : Option (Value × AHeap) := match b with
  | some blk => cond blk.st.mem (match k with
      | some n => cond (Nat.ble (o + n) (lenB blk.cells)) (some (.agg ⟨takeB n (dropB o blk.cells)⟩, H)) none
      | none => match getB o blk.cells with | some v => some (v, H) | none => none) none
  | none => none
noncomputable def kLoad (k : Option Nat) (H : AHeap) (x : Value) : Option (Value × AHeap) := match x with
  | .pointer (some ⟨i, o, none⟩) => gotB o k H (H.get i)
  | _ => none
theorem kLoad_eq (k : Option Nat) (H : AHeap) (x : Value) : kLoad k H x = vLoad x k H := by
  unfold kLoad
  split
  · rename_i i o
    rw [v_load]
    unfold gotB gotLoad
    cases H.get i with
    | none => rfl
    | some blk =>
      simp only [lenB_eq, takeB_eq, dropB_eq, getB_eq, ble_ite]
      cases blk.st.mem with
      | false => rfl
      | true =>
        simp only [cond_true, if_true]
        cases k with
        | none => simp only; cases blk.cells[o]? <;> rfl
        | some n => simp only; split <;> rfl
  · rename_i h
    unfold vLoad
    split
    · rename_i i o; exact absurd rfl (h i o)
    · rfl
/-- Parts that lie one behind the other. -/
noncomputable def rowParts (sz off : Nat) (ps : List (Nat × Nat × Value)) : Bool := List.rec (motive := fun _ => Nat → Bool) (fun _ => true) (fun p _ ih off => cond (Nat.beq p.1 off) (cond (Nat.beq (lenB p.2.2.cells.toList) sz) (ih (off + sz)) false) false) ps off
noncomputable def flatParts (ps : List (Nat × Nat × Value)) : List Value := List.rec (motive := fun _ => List Value) [] (fun p _ ih => appB p.2.2.cells.toList ih) ps
theorem rowParts_lay (sz : Nat) : ∀ (ps : List (Nat × Nat × Value)) (off : Nat) (cells : List Value), rowParts sz off ps = true → off ≤ cells.length → lay cells (dropSz ps) = cells.take off ++ flatParts ps ++ cells.drop (off + ps.length * sz)
  | [], off, cells, _, _ => by simp [lay, dropSz, flatParts]
  | (o, s, v) :: r, off, cells, h, hle => by
    have h' : cond (Nat.beq o off) (cond (Nat.beq (lenB v.cells.toList) sz) (rowParts sz (off + sz) r) false) false = true := h
    rw [cond_beq, cond_beq, lenB_eq] at h'
    split at h'
    · rename_i ho
      subst ho
      split at h'
      · rename_i hs
        have hf : flatParts ((o, s, v) :: r) = v.cells.toList ++ flatParts r := appB_eq _ _
        simp only [dropSz, List.map_cons, lay, hf]
        by_cases hfit : o + sz ≤ cells.length
        · have ih := rowParts_lay sz r (o + sz) (cells.take o ++ v.cells.toList ++ cells.drop (o + v.cells.toList.length)) h' (by simp only [List.length_append, List.length_take, List.length_drop, hs]; omega)
          rw [show dropSz r = r.map (fun p => (p.1, p.2.2)) from rfl] at ih
          rw [ih, hs]
          have hlen : (cells.take o ++ v.cells.toList).length = o + sz := by simp only [List.length_append, List.length_take, hs]; omega
          rw [List.append_assoc (cells.take o), ← List.append_assoc (cells.take o), List.take_left' hlen]
          rw [List.drop_append, List.drop_of_length_le (by rw [hlen]; omega), hlen, List.nil_append, List.drop_drop]
          simp only [List.append_assoc, List.length_cons, Nat.succ_mul]
          congr 3
          congr 1
          omega
        · have ih := rowParts_lay sz r (o + sz) (cells.take o ++ v.cells.toList ++ cells.drop (o + v.cells.toList.length)) h' (by simp only [List.length_append, List.length_take, List.length_drop, hs]; omega)
          rw [show dropSz r = r.map (fun p => (p.1, p.2.2)) from rfl] at ih
          rw [ih, hs]
          have hlen : (cells.take o ++ v.cells.toList).length = o + sz := by simp only [List.length_append, List.length_take, hs]; omega
          rw [List.append_assoc (cells.take o), ← List.append_assoc (cells.take o), List.take_left' hlen]
          rw [List.drop_append, List.drop_of_length_le (by rw [hlen]; omega), hlen, List.nil_append, List.drop_drop]
          simp only [List.append_assoc, List.length_cons, Nat.succ_mul]
          congr 3
          congr 1
          omega
      · cases h'
    · cases h'
noncomputable def layB (sz n : Nat) (cells : List Value) (ps : List (Nat × Nat × Value)) : List Value :=
  cond (rowParts sz 0 ps) (cond (Nat.beq n (ps.length * sz)) (flatParts ps) (lay cells (dropSz ps))) (lay cells (dropSz ps))
theorem layB_eq (sz n : Nat) (cells : List Value) (ps : List (Nat × Nat × Value)) (hn : cells.length = n) : layB sz n cells ps = lay cells (dropSz ps) := by
  unfold layB
  cases h : rowParts sz 0 ps with
  | false => rfl
  | true =>
    simp only [cond_true]
    rw [cond_beq]
    split
    · rename_i he
      rw [rowParts_lay sz ps 0 cells h (Nat.zero_le _)]
      rw [List.drop_of_length_le (by omega)]
      simp
    · rfl
noncomputable def kBslice (el : TypeId) (n sz : Nat) (z : List Value) (ps : List (Nat × Nat × Value)) (H : AHeap) : Option (Value × AHeap) :=
  cond (okParts (n * sz) ps) (some (.slice (some ⟨H.n, 0, none⟩) n (n + 1), H.push ⟨layB sz (n * sz) ((List.replicate n z).flatten) ps, el, .tip, 0, []⟩)) none
theorem kBslice_eq (el : TypeId) (n sz : Nat) (z : List Value) (ps : List (Nat × Nat × Value)) (H : AHeap) (hz : z.length = sz) : kBslice el n sz z ps H = vBslice el n sz z ps H := by
  unfold kBslice vBslice
  rw [layB_eq sz (n * sz) _ ps (by simp [hz])]
  cases okParts (n * sz) ps <;> rfl
noncomputable def sBslice (el : TypeId) (n sz : Nat) (z : List Value) (ps : List (Nat × Nat × Operand)) : StepF := fun P cf e H =>
  cond (Nat.beq (lenB z) sz) (kBslice el n sz z (ps.map fun p => (p.1, p.2.1, evB p.2.2 e)) H) (stepA P cf e H (.bslice el n sz z ps))
noncomputable def kCells (H : AHeap) (sz : Nat) (x : Value) : Option (List Value) := match x with
  | .slice none 0 0 => some []
  | .slice (some ⟨i, o, none⟩) n _ => cond (Nat.beq n 0) (some []) (match H.get i with
    | some blk => cond blk.st.mem (cond (Nat.ble (o + n * sz) (lenB blk.cells)) (some (cond (Nat.beq o 0) (cond (Nat.beq (n * sz) (lenB blk.cells)) blk.cells (takeB (n * sz) blk.cells)) (takeB (n * sz) (dropB o blk.cells)))) none) none
    | none => none)
  | .slice (some ⟨_, _, some _⟩) 0 0 => some []
  | _ => none
theorem kCells_eq (H : AHeap) (sz : Nat) (x : Value) : kCells H sz x = cellsOf H sz x := by
  unfold kCells cellsOf
  split
  · rfl
  · rename_i i o n c
    simp only [cond_beq, ble_ite, lenB_eq, takeB_eq, dropB_eq]
    split
    · rfl
    · cases H.get i with
      | none => rfl
      | some blk =>
        simp only
        cases hm : blk.st.mem with
        | false => simp
        | true =>
          simp only [cond_true, true_and]
          split
          · congr 1
            split
            · rename_i h1
              subst h1
              split
              · rename_i h2; simp [h2]
              · simp
            · rfl
          · rfl
  · rfl
  · rename_i h1 h2 h3
    split
    · exact absurd rfl h1
    · rename_i i o n c; exact absurd rfl (h2 i o n c)
    · rename_i i o k; exact absurd rfl (h3 i o k)
    · rfl
def isTip : St → Bool | .tip => true | _ => false
theorem isTip_ite {α : Type} (t : St) (a b : α) : cond (isTip t) a b = if t = .tip then a else b := by cases t <;> rfl
noncomputable def kApp3 (H : AHeap) (i n m o sz : Nat) (el : TypeId) (cells : List Value) (b : Option ABlk) : Option (Value × AHeap) := match b with
  | some blk => cond (isTip blk.st) (cond (Nat.beq blk.elem el)
      (cond (Nat.beq n 0) (some (.slice (some ⟨H.n, 0, none⟩) (n + m) (n + m + 1), (killAll H (i :: blk.anc)).push ⟨cells, el, .tip, 0, []⟩))
        (cond (Nat.beq (o + n * sz) (lenB blk.cells))
          (some (.slice (some ⟨H.n, 0, none⟩) (n + m) (n + m + 1), (H.upd i ⟨blk.cells, blk.elem, .ret, blk.ver, blk.anc⟩).push ⟨cells, el, .tip, 0, i :: blk.anc⟩))
          (some (.slice (some ⟨H.n, 0, none⟩) (n + m) (n + m + 1), (killAll H (i :: blk.anc)).push ⟨cells, el, .tip, 0, []⟩)))) none) none
  | none => none
noncomputable def kApp2 (H : AHeap) (n c m sz : Nat) (el : TypeId) (cells : List Value) (a : Option Addr) : Option (Value × AHeap) := match a with
  | none => some (.slice (some ⟨H.n, 0, none⟩) (n + m) (n + m + 1), H.push ⟨cells, el, .tip, 0, []⟩)
  | some a => cond (Nat.beq c 0) (some (.slice (some ⟨H.n, 0, none⟩) (n + m) (n + m + 1), H.push ⟨cells, el, .tip, 0, []⟩)) (kApp3 H a.block n m a.off sz el cells (H.get a.block))
noncomputable def kApp1 (H : AHeap) (a : Option Addr) (n c m bytes sz : Nat) (el : TypeId) (o x : Option (List Value)) : Option (Value × AHeap) := match o, x with
  | some old, some new => cond (Nat.beq m 0) (some (.slice a n c, H)) (cond (Nat.ble ((n + m) * bytes) 140737488355328) (cond (allB new) (kApp2 H n c m sz el (appB old new) a) none) none)
  | _, _ => none
noncomputable def kAppend (H : AHeap) (s x : Value) (el : TypeId) (sz bytes : Nat) : Option (Value × AHeap) := match s, x with
  | .slice a n c, .slice a' m c' => kApp1 H a n c m bytes sz el (kCells H sz (.slice a n c)) (kCells H sz (.slice a' m c'))
  | _, _ => none
theorem kAppend_eq (H : AHeap) (s x : Value) (el : TypeId) (sz bytes : Nat) : kAppend H s x el sz bytes = appendA H s x el sz bytes := by
  unfold kAppend appendA
  split
  · rename_i a n c a' m c'
    simp only [kCells_eq]
    generalize cellsOf H sz (.slice a n c) = o
    generalize cellsOf H sz (.slice a' m c') = x
    cases o <;> cases x <;> try rfl
    rename_i old new
    simp only [kApp1, cond_beq, ble_ite, allB_eq, appB_eq]
    split
    · rfl
    · by_cases h1 : (n + m) * bytes ≤ 140737488355328
      · by_cases h2 : new.all one = true
        · rw [if_pos h1, if_pos ⟨h1, h2⟩, h2]
          simp only [cond_true, kApp2, cond_beq]
          cases a with
          | none => rfl
          | some a =>
            simp only
            split
            · rfl
            · cases H.get a.block with
              | none => rfl
              | some blk =>
                simp only [kApp3, isTip_ite, cond_beq, lenB_eq]
                by_cases h3 : blk.st = .tip
                · by_cases h4 : blk.elem = el
                  · rw [if_pos h3, if_pos h4, if_pos (show blk.st = .tip ∧ blk.elem = el from ⟨h3, h4⟩)]
                    by_cases h5 : n = 0
                    · rw [if_pos h5, if_neg (show ¬ (0 < n ∧ a.off + n * sz = blk.cells.length) by omega)]
                    · rw [if_neg h5]
                      by_cases h6 : a.off + n * sz = blk.cells.length
                      · rw [if_pos h6, if_pos (show 0 < n ∧ a.off + n * sz = blk.cells.length from ⟨by omega, h6⟩)]
                      · rw [if_neg h6, if_neg (show ¬ (0 < n ∧ a.off + n * sz = blk.cells.length) from fun hh => h6 hh.2)]
                  · rw [if_pos h3, if_neg h4, if_neg (show ¬ (blk.st = .tip ∧ blk.elem = el) from fun hh => h4 hh.2)]
                · rw [if_neg h3, if_neg (show ¬ (blk.st = .tip ∧ blk.elem = el) from fun hh => h3 hh.1)]
        · rw [if_pos h1, if_neg (by intro hh; exact h2 hh.2)]
          have : new.all one = false := by cases hb : new.all one with | false => rfl | true => exact absurd hb h2
          rw [this]; rfl
      · rw [if_neg h1, if_neg (by intro hh; exact h1 hh.1)]
  · rename_i h
    split
    · rename_i a n c a' m c'; exact absurd rfl (h a n c a' m c' rfl)
    · rfl
/-- The operations, each by a function of its own. -/
noncomputable def stepB : AOp → StepF
  | .mv x => sMv x
  | .pick c a b => sPick c a b
  | .int op x y => sInt op x y
  | .conv k x => sConv k x
  | .iaddr x i sz => sIaddr x i sz
  | .aaddr x i cnt sz => sAaddr x i cnt sz
  | .ext t ix => fun P cf e H => vExt (evB t e) ix H
  | .not x => fun P cf e H => vNot (evB x e) H
  | .beq neq x y => fun P cf e H => vBeq neq (evB x e) (evB y e) H
  | .len str x => fun P cf e H => vLen str (evB x e) H
  | .load x k => fun P cf e H => kLoad k H (evB x e)
  | .alloc cells el => fun P cf e H => some (.pointer (some ⟨H.n, 0, none⟩), H.push ⟨cells, el, .tip, 0, []⟩)
  | .store x v n => fun P cf e H => vStore (evB x e) (evB v e) n H
  | .call f args => fun P cf e H => vCall cf (evB f e) (args.map fun x => evB x e) H
  | .append x y el sz bytes => fun P cf e H => kAppend H (evB x e) (evB y e) el sz bytes
  | .gen o => fun P cf e H => stepA P cf e H (.gen o)
  | .field x a o l => fun P cf e H => vField (evB x e) a o l H
  | .index x i c a s => fun P cf e H => vIndex (evB x e) (evB i e) c a s H
  | .build z ps => fun P cf e H => stepA P cf e H (.build z ps)
  | .isNil k n x => fun P cf e H => stepA P cf e H (.isNil k n x)
  | .faddr x o => fun P cf e H => stepA P cf e H (.faddr x o)
  | .nilChk x => fun P cf e H => stepA P cf e H (.nilChk x)
  | .mkfun f a b => fun P cf e H => stepA P cf e H (.mkfun f a b)
  | .mkface t x => fun P cf e H => stepA P cf e H (.mkface t x)
  | .max2 x y => fun P cf e H => stepA P cf e H (.max2 x y)
  | .min2 x y => fun P cf e H => stepA P cf e H (.min2 x y)
  | .slice x l h s => fun P cf e H => stepA P cf e H (.slice x l h s)
  | .slice0 x => fun P cf e H => stepA P cf e H (.slice0 x)
  | .box x el => fun P cf e H => stepA P cf e H (.box x el)
  | .bslice el n sz z ps => sBslice el n sz z ps
  | .mop m => fun P cf e H => stepA P cf e H (.mop m)
theorem kAt_eq (b o n sz : Nat) (H : AHeap) (j : Int) : kAt b o n sz H j = (if 0 ≤ j ∧ j < n then some (.pointer (some ⟨b, o + j.toNat * sz, none⟩)) else none : Option Value).map fun v => (v, H) := by
  unfold kAt
  split
  · rename_i m
    cases h : Nat.blt m n with
    | true =>
      have : m < n := by simpa [Nat.blt_eq] using h
      rw [if_pos ⟨by simp, by simp; omega⟩]
      simp
    | false =>
      rw [if_neg]
      · rfl
      · intro ⟨_, h2⟩
        have : Nat.blt m n = true := by simp at h2; simp [Nat.blt_eq]; omega
        rw [h] at this; cases this
  · rw [if_neg (by intro ⟨h1, _⟩; omega)]; rfl
theorem stepB_eq (P : Program) (cf : CallF) (e : Env) (H : AHeap) (o : AOp) : stepB o P cf e H = stepA P cf e H o := by
  cases o <;> try rfl
  case mv x => simp only [stepB, sMv, evB_eq]; rfl
  case pick c a b =>
    simp only [stepB, sPick, evB_eq, st_pick, vPick, kPick]
    cases ev e c <;> first | rfl | (rename_i t; cases t <;> rfl)
  case ext t ix => simp only [stepB, evB_eq, st_ext]
  case not x => simp only [stepB, evB_eq, st_not]
  case beq neq x y => simp only [stepB, evB_eq, st_beq]
  case len str x => simp only [stepB, evB_eq, st_len]
  case load x k => simp only [stepB, evB_eq, st_load, kLoad_eq]
  case bslice el n sz z ps =>
    simp only [stepB, sBslice, evB_eq, cond_beq, lenB_eq]
    split
    · rename_i hz
      rw [kBslice_eq el n sz z _ H hz, st_bslice]; rfl
    · rfl
  case store x v n => simp only [stepB, evB_eq, st_store]
  case field => simp only [stepB, evB_eq, st_field]
  case index => simp only [stepB, evB_eq, st_index]
  case append => simp only [stepB, evB_eq, st_append, kAppend_eq]
  case call f args =>
    simp only [stepB, evB_eq, st_call]
  case conv k x =>
    simp only [stepB, sConv, evB_eq, st_conv, vConv, kConv, iWrap_eq]
    cases ev e x <;> rfl
  case int op x y =>
    simp only [stepB, sInt, evB_eq, st_int, vInt, kInt]
    generalize ev e x = u
    cases u <;> try rfl
    simp only [kInt2]
    generalize ev e y = v
    cases v <;> try rfl
    simp only [intB_eq]
    split
    · cases intOp op _ _ _ <;> rfl
    · rfl
  case iaddr x i sz =>
    simp only [stepB, sIaddr, evB_eq, st_iaddr, kIaddr]
    split
    · rename_i b o n c hx
      rw [hx]
      simp only [kIaddr2, vIaddr, kAt_eq]
      generalize ev e i = v
      cases v <;> rfl
    · rename_i hx
      simp only [vIaddr]
      split
      · rename_i b o n c k j h1 h2; exact absurd h1 (hx b o n c)
      · rfl
  case aaddr x i cnt sz =>
    simp only [stepB, sAaddr, evB_eq, st_aaddr, kAaddr]
    split
    · rename_i b o hx
      rw [hx]
      simp only [kIaddr2, vAaddr, kAt_eq]
      generalize ev e i = v
      cases v <;> rfl
    · rename_i hx
      simp only [vAaddr]
      split
      · rename_i b o k j h1 h2; exact absurd h1 (hx b o)
      · rfl

/-! Rows, code, calls. -/
noncomputable def kGuard (want : Bool) (r : Env → AHeap → Option (Value × AHeap)) (e : Env) (H : AHeap) (v : Value) : Option (Value × AHeap) := match v with
  | .bool b => cond (b == want) (r e H) (some (.tuple ⟨[]⟩, H))
  | .tuple ⟨[]⟩ => some (.tuple ⟨[]⟩, H)
  | _ => none
noncomputable def kRow (o : StepF) (P : Program) (cf : CallF) (e : Env) (H : AHeap) (g : Option (Nat × Bool)) : Option (Value × AHeap) := match g with
  | none => o P cf e H
  | some (t, want) => kGuard want (o P cf) e H (eget e t)
noncomputable def rowB (P : Program) (cf : CallF) (r : ARow) (e : Env) (H : AHeap) : Option (Value × AHeap) := kRow (stepB r.op) P cf e H r.guard
theorem rowB_eq (P : Program) (cf : CallF) (r : ARow) (e : Env) (H : AHeap) : rowB P cf r e H = rowV P cf r e H := by
  obtain ⟨d, o, g⟩ := r
  cases g with
  | none => simp only [rowB, kRow, stepB_eq]; rfl
  | some g =>
    obtain ⟨t, want⟩ := g
    rw [row_guard]
    simp only [rowB, kRow]
    unfold kGuard guarded
    split
    · rename_i b hb
      simp only [hb, stepB_eq]
      cases b <;> cases want <;> rfl
    · rename_i hb
      simp only [hb]
    · rename_i h1 h2
      split
      · rename_i b hb; exact absurd hb (h1 b)
      · rename_i hb; exact absurd hb h2
      · rfl
def kPut (d : Option Nat) (k : Env → AHeap → Option (Env × AHeap)) (e : Env) (r : Option (Value × AHeap)) : Option (Env × AHeap) := match r with
  | some (v, H) => k (match d with | some d => (d, v) :: e | none => e) H
  | none => none
noncomputable def rowsB (rows : List ARow) : Program → CallF → Env → AHeap → Option (Env × AHeap) :=
  List.rec (motive := fun _ => Program → CallF → Env → AHeap → Option (Env × AHeap)) (fun _ _ e H => some (e, H)) (fun r _ ih P cf e H => kPut r.dst (ih P cf) e (rowB P cf r e H)) rows
theorem rowsB_eq (P : Program) (cf : CallF) : ∀ (rows : List ARow) (e : Env) (H : AHeap), rowsB rows P cf e H = rowsA P cf rows e H
  | [], _, _ => rfl
  | r :: rs, e, H => by
    show kPut r.dst (rowsB rs P cf) e (rowB P cf r e H) = _
    rw [rowB_eq]
    simp only [rowsA, rowA]
    cases rowV P cf r e H with
    | none => rfl
    | some x =>
      obtain ⟨v, H'⟩ := x
      simp only [kPut, Option.map_some]
      rw [rowsB_eq P cf rs]
      cases r.dst <;> rfl
def kThen (k : Env → AHeap → Option (AEx × Env × AHeap)) (r : Option (AEx × Env × AHeap)) : Option (AEx × Env × AHeap) := match r with
  | some (.normal, e, H) => k e H
  | r => r
def kIn (id : Nat) (r : Option (AEx × Env × AHeap)) : Option (AEx × Env × AHeap) := match r with
  | some (.exit id', e, H) => cond (Nat.beq id' id) (some (.normal, e, H)) (some (.exit id', e, H))
  | r => r
def kFork (a b : Env → AHeap → Option (AEx × Env × AHeap)) (e : Env) (H : AHeap) (v : Value) : Option (AEx × Env × AHeap) := match v with
  | .bool true => a e H
  | .bool false => b e H
  | _ => none
def kDone (r : Option (Env × AHeap)) : Option (AEx × Env × AHeap) := match r with
  | some (e, H) => some (.normal, e, H)
  | none => none
noncomputable def forgetB (keep : List Nat) (e : Env) : Env := List.rec (motive := fun _ => Env) [] (fun t _ ih => (t, eget e t) :: ih) keep
theorem forgetB_eq (e : Env) : ∀ keep : List Nat, forgetB keep e = forget keep e
  | [] => rfl
  | t :: ts => by
    show (t, eget e t) :: forgetB ts e = _
    rw [forgetB_eq e ts]; rfl
def kIter (again : Env → AHeap → Option (AEx × Env × AHeap)) (r : Option (AEx × Env × AHeap)) : Option (AEx × Env × AHeap) := match r with
  | none => none
  | some (.normal, e, H) => again e H
  | some r => some r
noncomputable def iterB (keep : List Nat) (body : Env → AHeap → Option (AEx × Env × AHeap)) (n : Nat) : Env → AHeap → Option (AEx × Env × AHeap) :=
  Nat.rec (motive := fun _ => Env → AHeap → Option (AEx × Env × AHeap)) (fun _ _ => none) (fun _ ih e H => kIter ih (body (forgetB keep e) H)) n
theorem iterB_eq (keep : List Nat) (body : Env → AHeap → Option (AEx × Env × AHeap)) : ∀ (n : Nat) (e : Env) (H : AHeap), iterB keep body n e H = iterA keep body n e H
  | 0, _, _ => rfl
  | n + 1, e, H => by
    show kIter (iterB keep body n) (body (forgetB keep e) H) = _
    rw [forgetB_eq]
    simp only [iterA]
    unfold kIter
    split
    · rename_i h; simp only [h]
    · rename_i e' H' h; simp only [h]; exact iterB_eq keep body n e' H'
    · rename_i r hr h
      simp only [h]
abbrev RunF := Program → CallF → Nat → Env → AHeap → Option (AEx × Env × AHeap)
noncomputable def execB (c : ACode) : RunF :=
  ACode.rec (motive := fun _ => RunF)
    (fun _ _ _ e H => some (.normal, e, H))
    (fun rows P cf _ e H => kDone (rowsB rows P cf e H))
    (fun rows P cf _ e H => kDone (drawA P cf rows [] [] e H))
    (fun _ _ a b P cf lf e H => kThen (b P cf lf) (a P cf lf e H))
    (fun q _ _ a b P cf lf e H => kFork (a P cf lf) (b P cf lf) e H (evB q e))
    (fun id _ a P cf lf e H => kIn id (a P cf lf e H))
    (fun keep _ a P cf lf e H => iterB keep (a P cf lf) lf e H)
    (fun id _ _ _ e H => some (.exit id, e, H))
    (fun _ _ _ e H => some (.ret, e, H)) c
theorem execB_eq (P : Program) (cf : CallF) (lf : Nat) : ∀ (c : ACode) (e : Env) (H : AHeap), execB c P cf lf e H = execA P cf lf c e H := by
  intro c
  induction c with
  | skip => intro e H; rfl
  | ops rows =>
    intro e H
    show kDone (rowsB rows P cf e H) = _
    rw [rowsB_eq]
    simp only [execA]
    cases rowsA P cf rows e H <;> rfl
  | draw rows =>
    intro e H
    show kDone (drawA P cf rows [] [] e H) = _
    simp only [execA]
    cases drawA P cf rows [] [] e H <;> rfl
  | seq a b iha ihb =>
    intro e H
    show kThen (execB b P cf lf) (execB a P cf lf e H) = _
    rw [iha, show execB b P cf lf = execA P cf lf b from by funext e H; exact ihb e H]
    simp only [execA]
    cases execA P cf lf a e H with
    | none => rfl
    | some r => obtain ⟨x, e', H'⟩ := r; cases x <;> rfl
  | cond q a b iha ihb =>
    intro e H
    show kFork (execB a P cf lf) (execB b P cf lf) e H (evB q e) = _
    rw [evB_eq, show execB b P cf lf = execA P cf lf b from by funext e H; exact ihb e H, show execB a P cf lf = execA P cf lf a from by funext e H; exact iha e H]
    simp only [execA, kFork]
    cases ev e q <;> rfl
  | block id a iha =>
    intro e H
    show kIn id (execB a P cf lf e H) = _
    rw [iha]
    simp only [execA]
    cases execA P cf lf a e H with
    | none => rfl
    | some r =>
      obtain ⟨x, e', H'⟩ := r
      cases x with
      | normal => rfl
      | ret => rfl
      | exit id' =>
        simp only [kIn]
        by_cases h : id' = id
        · subst h; simp
        · have : Nat.beq id' id = false := by
            cases hb : Nat.beq id' id with
            | false => rfl
            | true => exact absurd (Nat.eq_of_beq_eq_true hb) h
          rw [this, if_neg h]; rfl
  | loop keep a iha =>
    intro e H
    show iterB keep (execB a P cf lf) lf e H = _
    rw [iterB_eq, show execB a P cf lf = execA P cf lf a from by funext e H; exact iha e H]
    simp only [execA]
  | exit id => intro e H; rfl
  | ret => intro e H; rfl
noncomputable def kFin (P : Program) (rs : List ARes) (r : Option (AEx × Env × AHeap)) : Option (Value × AHeap) := match r with
  | some (.exit _, _, _) => none
  | some (_, e, H') => (ressA P e H' rs).map fun vs => (packA vs, H')
  | none => none
noncomputable def kBody (P : Program) (cf : CallF) (n : Nat) (args : List Value) (H : AHeap) (F : Option AFunc) : Option (Value × AHeap) := match F with
  | none => none
  | some F => cond (Nat.beq args.length F.nargs) (kFin P F.results (execB F.code P cf n (entry args) H)) none
noncomputable def kOm (k : Option (Value × AHeap)) (r : Option (Value × AHeap)) : Option (Value × AHeap) := match r with
  | some r => some r
  | none => k
noncomputable def callB (P : Program) (Γ : FuncId → Option AFunc) (Ω : CallF) (n : Nat) : CallF :=
  Nat.rec (motive := fun _ => CallF) (fun _ _ _ => none) (fun n ih f args H => kOm (kBody P ih n args H (Γ f)) (Ω f args H)) n
theorem callB_eq (P : Program) (Γ : FuncId → Option AFunc) (Ω : CallF) : ∀ (n : Nat) (f : FuncId) (args : List Value) (H : AHeap), callB P Γ Ω n f args H = callA P Γ Ω n f args H
  | 0, _, _, _ => rfl
  | n + 1, f, args, H => by
    show kOm (kBody P (callB P Γ Ω n) n args H (Γ f)) (Ω f args H) = _
    rw [show callB P Γ Ω n = callA P Γ Ω n from by funext f args H; exact callB_eq P Γ Ω n f args H]
    simp only [callA]
    cases Ω f args H with
    | some r => rfl
    | none =>
      simp only [kOm]
      cases Γ f with
      | none => rfl
      | some F =>
        simp only [kBody, execB_eq]
        by_cases h : args.length = F.nargs
        · rw [if_pos h, h]
          simp
          cases execA P (callA P Γ Ω n) n F.code (entry args) H with
          | none => rfl
          | some r => obtain ⟨x, e', H'⟩ := r; cases x <;> rfl
        · have : Nat.beq args.length F.nargs = false := by
            cases hb : Nat.beq args.length F.nargs with
            | false => rfl
            | true => exact absurd (Nat.eq_of_beq_eq_true hb) h
          rw [if_neg h, this]; rfl
/-- A closed run, by the kernel's own road. -/
theorem cw_ofB {P : Program} {Γ : FuncId → Option AFunc} {Ω : CallF} {g : FuncId} {args : List Value} {H : AHeap} {r : Value × AHeap} (n : Nat) (h : callB P Γ Ω n g args H = some r) : cw P Γ Ω g args H = some r :=
  cw_of n (by rw [← callB_eq]; exact h)
/-- A table of functions, by bare tests. -/
noncomputable def tabB (l : List (FuncId × AFunc)) (g : FuncId) : Option AFunc := List.rec (motive := fun _ => Option AFunc) none (fun p _ ih => cond (Nat.beq p.1 g) (some p.2) ih) l
theorem tabB_eq : ∀ (l : List (FuncId × AFunc)) (g : FuncId), tabB l g = tabF l g
  | [], _ => rfl
  | (k, F) :: r, g => by
    show cond (Nat.beq k g) (some F) (tabB r g) = _
    rw [tabB_eq r g]
    simp only [tabF]
    by_cases h : g = k
    · subst h; simp
    · have : Nat.beq k g = false := by
        cases hb : Nat.beq k g with
        | false => rfl
        | true => exact absurd (Nat.eq_of_beq_eq_true hb).symm h
      rw [this, if_neg h]; rfl
theorem cw_ofT {P : Program} {l : List (FuncId × AFunc)} {Ω : CallF} {g : FuncId} {args : List Value} {H : AHeap} {r : Value × AHeap} (n : Nat) (h : callB P (tabB l) Ω n g args H = some r) : cw P (tabF l) Ω g args H = some r :=
  cw_ofB n (by rw [← show tabB l = tabF l from by funext g; exact tabB_eq l g]; exact h)
end Lon
