/- What is proved here: nothing yet: the interpreter is defined. Conditions: those that each theorem names, and no others. -/
import Derived.Test.YtfhchimfdlhmaaaLonB
/-! The interpreter: its own form of the code, and what it does. -/
set_option linter.unusedSimpArgs false
namespace Lon
open Go

abbrev Env := List (Nat × Value)
def poison : Value := .chan (some 0)
noncomputable section
def eget (e : Env) (t : Nat) : Value := List.rec (motive := fun _ => Value) poison (fun p _ ih => cond (Nat.beq p.1 t) p.2 ih) e
theorem eget_nil (t : Nat) : eget [] t = poison := rfl
theorem eget_cons (k : Nat) (v : Value) (e : Env) (t : Nat) : eget ((k, v) :: e) t = if k = t then v else eget e t := by
  show cond (Nat.beq k t) v (eget e t) = _
  by_cases h : k = t
  · subst h; simp
  · have : Nat.beq k t = false := by
      cases hb : Nat.beq k t with
      | false => rfl
      | true => exact absurd (Nat.eq_of_beq_eq_true hb) h
    rw [this, if_neg h]; rfl
def eput (e : Env) (d : Option Nat) (v : Value) : Env :=
  match d with
  | some d => (d, v) :: e
  | none => e
def ev (e : Env) : Operand → Value
  | .tmp t => eget e t
  | .const v => if ground v then v else poison
  | .global _ => poison
  | .func f => .func (.func f) ⟨[]⟩ ⟨[]⟩

/-- The operations on maps of whole numbers. -/
inductive MapOp where
  | make (t : TypeId)
  | get (x i : Operand) (zero : Value) (ok : Bool)
  | set (m k v : Operand)
/-- The interpreter's operations. -/
inductive AOp where
  | mv (x : Operand)
  | pick (c a b : Operand)
  | ext (t : Operand) (ix : Nat)
  | field (x : Operand) (agg : Bool) (off len : Nat)
  | index (x i : Operand) (cnt : Nat) (agg : Bool) (sz : Nat)
  | build (zero : List Value) (parts : List (Nat × Nat × Operand))
  | int (op : BinOp) (x y : Operand)
  | beq (neq : Bool) (x y : Operand)
  | isNil (kd : Nat) (neq : Bool) (x : Operand)
  | not (x : Operand)
  | conv (k : IntKind) (x : Operand)
  | gen (o : Oper)
  | faddr (x : Operand) (off : Nat)
  | iaddr (x i : Operand) (sz : Nat)
  | aaddr (x i : Operand) (cnt sz : Nat)
  | nilChk (x : Operand)
  | mkfun (fn : Fn) (first captured : List Operand)
  | mkface (t : TypeId) (x : Operand)
  | len (str : Bool) (x : Operand)
  | max2 (x y : Operand)
  | min2 (x y : Operand)
  | load (x : Operand) (k : Option Nat)
  | slice (x : Operand) (lo hi : Option Operand) (sz : Nat)
  | slice0 (x : Operand)
  | alloc (cells : List Value) (elem : TypeId)
  | box (x : Operand) (elem : TypeId)
  | bslice (elem : TypeId) (n sz : Nat) (zero : List Value) (parts : List (Nat × Nat × Operand))
  | store (x v : Operand) (n : Nat)
  | append (s x : Operand) (elem : TypeId) (sz bytes : Nat)
  | call (f : Operand) (args : List Operand)
  | mop (m : MapOp)
/-- Whether an operation may turn what others read. -/
def AOp.loud : AOp → Bool
  | .store .. | .append .. | .call .. | .mop _ => true
  | _ => false
def MapOp.ops : MapOp → List Operand
  | .make _ => []
  | .get x i _ _ => [x, i]
  | .set m k v => [m, k, v]

def AOp.ops : AOp → List Operand
  | .mv x | .not x | .conv _ x | .faddr x _ | .nilChk x | .mkface _ x | .len _ x | .load x _ | .slice0 x | .box x _ | .isNil _ _ x | .field x _ _ _ | .ext x _ => [x]
  | .pick c a b => [c, a, b]
  | .index x i _ _ _ | .iaddr x i _ | .aaddr x i _ _ => [x, i]
  | .build _ ps | .bslice _ _ _ _ ps => ps.map (·.2.2)
  | .int _ x y | .beq _ x y | .max2 x y | .min2 x y => [x, y]
  | .gen o => o.op.operands.toList
  | .mkfun _ a b => a ++ b
  | .slice x lo hi _ => x :: (lo.toList ++ hi.toList)
  | .alloc _ _ => []
  | .store x v _ => [x, v]
  | .append s x _ _ _ => [s, x]
  | .call f args => f :: args
  | .mop m => m.ops
structure ARow where
  dst : Option Nat
  op : AOp
  guard : Option (Nat × Bool) := none

/-- The slots that a row looks at. -/
def slotsR (r : ARow) : List Nat := (r.op.ops.filterMap fun | .tmp t => some t | _ => none) ++ (match r.guard with | some (t, _) => [t] | none => [])
/-- Parts laid into a row of cells. -/
def lay (cells : List Value) : List (Nat × Value) → List Value
  | [] => cells
  | (off, v) :: r => lay (cells.take off ++ v.cells.toList ++ cells.drop (off + v.cells.toList.length)) r
def okParts (n : Nat) : List (Nat × Nat × Value) → Bool
  | [] => true
  | (off, sz, v) :: r => (match v with | .tuple _ => false | .chan _ => false | _ => true) && v.cells.toList.length == sz && decide (off + sz ≤ n) && okParts n r
def evParts (e : Env) (ps : List (Nat × Nat × Operand)) : List (Nat × Nat × Value) := ps.map fun p => (p.1, p.2.1, ev e p.2.2)
def dropSz (ps : List (Nat × Nat × Value)) : List (Nat × Value) := ps.map fun p => (p.1, p.2.2)

def one : Value → Bool
  | .agg _ | .tuple _ | .chan _ => false
  | _ => true
def solid : Value → Bool
  | .tuple _ | .chan _ => false
  | _ => true
def intOp (op : BinOp) (k : IntKind) (a b : Int) : Option Value :=
  match op with
  | .add => some (.int k (k.wrap (a + b)))
  | .sub => some (.int k (k.wrap (a - b)))
  | .mul => some (.int k (k.wrap (a * b)))
  | .quo => if b = 0 then none else some (.int k (k.wrap (a.tdiv b)))
  | .rem => if b = 0 then none else some (.int k (a.tmod b))
  | .eql => some (.bool (a == b))
  | .neq => some (.bool (a != b))
  | .lss => some (.bool (decide (a < b)))
  | .leq => some (.bool (decide (a ≤ b)))
  | .gtr => some (.bool (decide (a > b)))
  | .geq => some (.bool (decide (a ≥ b)))
  | _ => none
def isNilV : Nat → Value → Option Bool
  | 0, .pointer none => some true
  | 0, .pointer (some ⟨_, _, none⟩) => some false
  | 1, .slice none 0 0 => some true
  | 1, .slice (some ⟨_, _, none⟩) _ _ => some false
  | 1, .slice (some ⟨_, _, some _⟩) 0 0 => some false
  | 2, .map none => some true
  | 2, .map (some _) => some false
  | _, _ => none
/-- A run that looks at no memory. -/
def pureRun {α : Type} (P : Program) : Sem α → Option α
  | .pure a => some a
  | .program k => pureRun P (k P)
  | .mark _ k => pureRun P k
  | _ => none

/-- A slice expression's bound. -/
def bndA (e : Env) (d : Int) : Option Operand → Option Int
  | none => some d
  | some h => match ev e h with
    | .int _ j => some j
    | _ => none
section
variable (P : Program)
/-- The operations that look at no memory. -/
def pureA (e : Env) : AOp → Option Value
  | .mv x => some (ev e x)
  | .pick c a b => match ev e c with
    | .bool t => some (if t then ev e a else ev e b)
    | _ => none
  | .ext t ix => match ev e t with
    | .tuple vs => vs.toList[ix]?
    | _ => none
  | .field x agg off len => match ev e x with
    | .agg cs => if agg then (if off + len ≤ cs.toList.length then some (.agg ⟨(cs.toList.drop off).take len⟩) else none) else cs.toList[off]?
    | _ => none
  | .index x i cnt agg sz => match ev e x, ev e i with
    | .agg cs, .int _ n => if 0 ≤ n ∧ n < cnt then (if agg then (if n.toNat * sz + sz ≤ cs.toList.length then some (.agg ⟨(cs.toList.drop (n.toNat * sz)).take sz⟩) else none) else cs.toList[n.toNat * sz]?) else none
    | _, _ => none
  | .build zero parts => if okParts zero.length (evParts e parts) then some (.agg ⟨lay zero (dropSz (evParts e parts))⟩) else none
  | .int op x y => match ev e x, ev e y with
    | .int k a, .int k' b => if k = k' then intOp op k a b else none
    | _, _ => none
  | .beq neq x y => match ev e x, ev e y with
    | .bool a, .bool b => some (.bool (if neq then !(a == b) else a == b))
    | _, _ => none
  | .isNil kd neq x => (isNilV kd (ev e x)).map fun b => .bool (if neq then !b else b)
  | .not x => match ev e x with
    | .bool b => some (.bool !b)
    | _ => none
  | .conv k x => match ev e x with
    | .int _ n => some (.int k (k.wrap n))
    | _ => none
  | .gen o => if o.op.operands.toList.all fun x => ground (ev e x) then
      match pureRun P (execOp (ev e) o) with
      | some (.value v) => if ground v then some v else none
      | _ => none
    else none
  | .faddr x off => match ev e x with
    | .pointer (some ⟨i, o, none⟩) => some (.pointer (some ⟨i, o + off, none⟩))
    | _ => none
  | .iaddr x i sz => match ev e x, ev e i with
    | .slice (some ⟨b, o, none⟩) n _, .int _ j => if 0 ≤ j ∧ j < n then some (.pointer (some ⟨b, o + j.toNat * sz, none⟩)) else none
    | _, _ => none
  | .aaddr x i cnt sz => match ev e x, ev e i with
    | .pointer (some ⟨b, o, none⟩), .int _ j => if 0 ≤ j ∧ j < cnt then some (.pointer (some ⟨b, o + j.toNat * sz, none⟩)) else none
    | _, _ => none
  | .nilChk x => match ev e x with
    | .pointer (some ⟨i, o, none⟩) => some (.pointer (some ⟨i, o, none⟩))
    | _ => none
  | .mkfun fn first captured => some (.func fn ⟨first.map (ev e)⟩ ⟨captured.map (ev e)⟩)
  | .mkface t x => some (.iface t (ev e x))
  | .len str x => match str, ev e x with
    | false, .slice _ n _ => some (.int .i64 n)
    | true, .string s => some (.int .i64 s.size)
    | _, _ => none
  | .max2 x y => match ev e x, ev e y with
    | .int k a, .int _ b => some (.int k (if b > a then b else a))
    | _, _ => none
  | .min2 x y => match ev e x, ev e y with
    | .int k a, .int _ b => some (.int k (if b < a then b else a))
    | _, _ => none
  | _ => none

/-- The operations that read. -/
def readA (e : Env) (H : AHeap) : AOp → Option Value
  | .load x k => match ev e x with
    | .pointer (some ⟨i, o, none⟩) => match H.get i with
      | some blk => if blk.st.mem then (match k with
        | some n => if o + n ≤ blk.cells.length then some (.agg ⟨(blk.cells.drop o).take n⟩) else none
        | none => blk.cells[o]?) else none
      | none => none
    | _ => none
  | .slice x lo hi sz => match ev e x with
    | .slice (some ⟨i, o, none⟩) n c =>
      match bndA e n hi, bndA e 0 lo, (H.get i).map (fun b => (P.info? b.elem).map (·.size)) with
      | some h, some l, some (some s) => if 0 ≤ l ∧ l ≤ h ∧ h ≤ n ∧ s = sz then some (.slice (some ⟨i, o + l.toNat * sz, none⟩) (h.toNat - l.toNat) (if c = 0 then 0 else max (h.toNat - l.toNat) (c - 1 - l.toNat) + 1)) else none
      | _, _, _ => none
    | .slice none 0 0 =>
      match bndA e 0 hi, bndA e 0 lo with
      | some h, some l => if l = 0 ∧ h = 0 then some (.slice none 0 0) else none
      | _, _ => none
    | .slice (some ⟨i, o, some k⟩) 0 0 =>
      match bndA e 0 hi, bndA e 0 lo with
      | some h, some l => if l = 0 ∧ h = 0 then some (.slice (some ⟨i, o, some k⟩) 0 0) else none
      | _, _ => none
    | _ => none
  | .slice0 x => match ev e x with
    | .slice (some ⟨i, o, none⟩) _ _ => some (.slice (some ⟨i, o, none⟩) 0 0)
    | .slice none 0 0 => some (.slice none 0 0)
    | .slice (some ⟨i, o, some k⟩) 0 0 => some (.slice (some ⟨i, o, some k⟩) 0 0)
    | _ => none
  | _ => none

/-- The operations that lay a new block: the block, and the value that leads to it. -/
def newA (e : Env) (i : Nat) : AOp → Option (ABlk × Value)
  | .alloc cells elem => some (⟨cells, elem, .tip, 0, []⟩, .pointer (some ⟨i, 0, none⟩))
  | .box x elem => if solid (ev e x) then some (⟨(ev e x).cells.toList, elem, .tip, 0, []⟩, .pointer (some ⟨i, 0, none⟩)) else none
  | .bslice elem n sz zero parts => if okParts (n * sz) (evParts e parts) then
      some (⟨lay ((List.replicate n zero).flatten) (dropSz (evParts e parts)), elem, .tip, 0, []⟩, .slice (some ⟨i, 0, none⟩) n (n + 1)) else none
  | _ => none

def storeA (H : AHeap) (p v : Value) (n : Nat) : Option AHeap :=
  match p with
  | .pointer (some ⟨i, o, none⟩) => match H.get i with
    | some blk => if blk.st = .tip ∧ v.cells.toList.length = n ∧ v.cells.toList.all one = true ∧ o + n ≤ blk.cells.length then
        some ((killAll H blk.anc).upd i ⟨blk.cells.take o ++ v.cells.toList ++ blk.cells.drop (o + n), blk.elem, .tip, blk.ver + 1, []⟩) else none
    | none => none
  | _ => none

/-- The cells that a slice has, and of which block. -/
def cellsOf (H : AHeap) (sz : Nat) : Value → Option (List Value)
  | .slice none 0 0 => some []
  | .slice (some ⟨i, o, none⟩) n _ => if n = 0 then some [] else match H.get i with
    | some blk => if blk.st.mem ∧ o + n * sz ≤ blk.cells.length then some ((blk.cells.drop o).take (n * sz)) else none
    | none => none
  | .slice (some ⟨_, _, some _⟩) 0 0 => some []
  | _ => none
def appendA (H : AHeap) (s x : Value) (elem : TypeId) (sz bytes : Nat) : Option (Value × AHeap) :=
  match s, x with
  | .slice a n c, .slice a' m c' =>
    match cellsOf H sz (.slice a n c), cellsOf H sz (.slice a' m c') with
    | some old, some new =>
      if m = 0 then some (.slice a n c, H) else
      if (n + m) * bytes ≤ 140737488355328 ∧ new.all one = true then
        match a with
        | none => some (.slice (some ⟨H.n, 0, none⟩) (n + m) (n + m + 1), H.push ⟨old ++ new, elem, .tip, 0, []⟩)
        | some a =>
          if c = 0 then some (.slice (some ⟨H.n, 0, none⟩) (n + m) (n + m + 1), H.push ⟨old ++ new, elem, .tip, 0, []⟩) else
          match H.get a.block with
          | some blk =>
            if blk.st = .tip ∧ blk.elem = elem then
              if 0 < n ∧ a.off + n * sz = blk.cells.length then
                some (.slice (some ⟨H.n, 0, none⟩) (n + m) (n + m + 1), (H.upd a.block { blk with st := .ret }).push ⟨old ++ new, elem, .tip, 0, a.block :: blk.anc⟩)
              else some (.slice (some ⟨H.n, 0, none⟩) (n + m) (n + m + 1), (killAll H (a.block :: blk.anc)).push ⟨old ++ new, elem, .tip, 0, []⟩)
            else none
          | none => none
      else none
    | _, _ => none
  | _, _ => none

/-- A map's cells are its keys and values, in turn. -/
def findC (k : IntKind) (n : Int) : List Value → Option (Option Value)
  | [] => some none
  | .int k' a :: v :: r => if k = k' then (if n = a then some (some v) else findC k n r) else none
  | _ => none
def setC (k : IntKind) (n : Int) (x : Value) : List Value → Option (List Value)
  | [] => some [.int k n, x]
  | .int k' a :: v :: r => if k = k' then (if n = a then some (.int k n :: x :: r) else (setC k n x r).map fun l => .int k' a :: v :: l) else none
  | _ => none
def mapGet (x i : Value) (z : Value) (ok : Bool) (H : AHeap) : Option (Value × AHeap) :=
  match x, i with
  | .map (some m), .int k n => match H.get m with
    | some blk => if blk.st = .map then (findC k n blk.cells).map fun r => (if ok then .tuple ⟨[r.getD z, .bool r.isSome]⟩ else r.getD z, H) else none
    | none => none
  | _, _ => none
def mapSet (m k v : Value) (H : AHeap) : Option (Value × AHeap) :=
  match m, k with
  | .map (some i), .int k n => match H.get i with
    | some blk => if blk.st = .map ∧ blk.anc = [] ∧ one v = true then (setC k n v blk.cells).map fun cs => (.tuple ⟨[]⟩, H.upd i ⟨cs, blk.elem, .map, blk.ver + 1, []⟩) else none
    | none => none
  | _, _ => none
def mapA (e : Env) (H : AHeap) : MapOp → Option (Value × AHeap)
  | .make t => some (.map (some H.n), H.push ⟨[], t, .map, 0, []⟩)
  | .get x i z ok => mapGet (ev e x) (ev e i) z ok H
  | .set m k v => mapSet (ev e m) (ev e k) (ev e v) H

abbrev CallF := FuncId → List Value → AHeap → Option (Value × AHeap)

def stepA (cf : CallF) (e : Env) (H : AHeap) (o : AOp) : Option (Value × AHeap) :=
  match o with
  | .load .. | .slice .. | .slice0 .. => (readA P e H o).map fun v => (v, H)
  | .alloc .. | .box .. | .bslice .. => (newA e H.n o).map fun r => (r.2, H.push r.1)
  | .store x v n => (storeA H (ev e x) (ev e v) n).map fun H' => (.tuple ⟨[]⟩, H')
  | .append s x elem sz bytes => appendA H (ev e s) (ev e x) elem sz bytes
  | .call f args => match ev e f with
    | .func (.func g) first captured => cf g (first.toList ++ args.map (ev e) ++ captured.toList) H
    | _ => none
  | .mop m => mapA e H m
  | _ => (pureA P e o).map fun v => (v, H)

/-- Whether a guarded row runs; none: it can't be told. -/
def guardA (e : Env) : Option (Nat × Bool) → Option Bool
  | none => some true
  | some (t, want) => match eget e t with
    | .bool b => some (b == want)
    | .tuple ⟨[]⟩ => some false
    | _ => none
def rowV (cf : CallF) (r : ARow) (e : Env) (H : AHeap) : Option (Value × AHeap) :=
  match guardA e r.guard with
  | some true => stepA P cf e H r.op
  | some false => some (.tuple ⟨[]⟩, H)
  | none => none
def rowA (cf : CallF) (r : ARow) (e : Env) (H : AHeap) : Option (Env × AHeap) :=
  (rowV P cf r e H).map fun x => (eput e r.dst x.1, x.2)
def rowsA (cf : CallF) : List ARow → Env → AHeap → Option (Env × AHeap)
  | [], e, H => some (e, H)
  | r :: rs, e, H => match rowA P cf r e H with
    | some (e', H') => rowsA cf rs e' H'
    | none => none

def forget (keep : List Nat) (e : Env) : Env := keep.map fun t => (t, eget e t)
inductive AEx where
  | normal | exit (id : Nat) | ret
  deriving DecidableEq
inductive ACode where
  | skip
  | ops (rows : List ARow)
  | draw (rows : List ARow)
  | seq (a b : ACode)
  | cond (c : Operand) (a b : ACode)
  | block (id : Nat) (c : ACode)
  | loop (keep : List Nat) (c : ACode)
  | exit (id : Nat)
  | ret


def iterA (keep : List Nat) (body : Env → AHeap → Option (AEx × Env × AHeap)) : Nat → Env → AHeap → Option (AEx × Env × AHeap)
  | 0, _, _ => none
  | n + 1, e, H => match body (forget keep e) H with
    | none => none
    | some (.normal, e', H') => iterA keep body n e' H'
    | some r => some r
/-- The reads of a region, with the stamp of what was read, hold still at its end. -/
def stamps (H : AHeap) (e : Env) (r : ARow) : List (Nat × Nat) :=
  match r.op with
  | .load x _ => match ev e x with
    | .pointer (some ⟨i, _, none⟩) => match H.get i with
      | some b => [(i, b.ver)]
      | none => []
    | _ => []
  | _ => []
def still (H : AHeap) (l : List (Nat × Nat)) : Bool := l.all fun p => match H.get p.1 with
  | some b => b.ver == p.2
  | none => false
/-- The blocks that a region has laid are as they were laid. -/
def calmB : Option ABlk → Bool
  | some b => Nat.beq b.ver 0 && (match b.st with | .tip => true | _ => false) && (match b.anc with | [] => true | _ => false)
  | none => false
def calm (H : AHeap) (l : List Nat) : Bool := l.all fun i => calmB (H.get i)
def isK : Operand → Bool
  | .const _ => true
  | _ => false
/-- A call, or an append to what is none: such a row may lay blocks beside the region's own. -/
def isCall : AOp → Bool
  | .call .. => true
  | .append s _ _ _ _ => isK s
  | _ => false
def freshI : AOp → Nat → List Nat
  | .alloc .., i => [i]
  | .box .., i => [i]
  | .bslice .., i => [i]
  | _, _ => []
def isStore : AOp → Bool
  | .store .. => true
  | _ => false
/-- Whether a region's last row is a store: what was loaded is to be as it was ahead of it. -/
def lastSt (r : ARow) (rs : List ARow) : Bool := rs.isEmpty && isStore r.op
def nextL (b : Bool) (l : List (Nat × Nat)) : List (Nat × Nat) := match b with
  | true => []
  | false => l
def drawA (cf : CallF) : List ARow → List (Nat × Nat) → List Nat → Env → AHeap → Option (Env × AHeap)
  | [], l, _, e, H => if still H l then some (e, H) else none
  | r :: rs, l, F, e, H => match rowV P cf r (forget (slotsR r) e) H with
    | some (v, H') => if ((!isCall r.op || calm H' F) && (!lastSt r rs || still H l)) = true then drawA cf rs (nextL (lastSt r rs) (stamps H (forget (slotsR r) e) r ++ l)) (freshI r.op H.n ++ F) (eput e r.dst v) H' else none
    | none => none
def execA (cf : CallF) (lf : Nat) : ACode → Env → AHeap → Option (AEx × Env × AHeap)
  | .skip, e, H => some (.normal, e, H)
  | .ops rows, e, H => (rowsA P cf rows e H).map fun x => (.normal, x.1, x.2)
  | .draw rows, e, H => (drawA P cf rows [] [] e H).map fun x => (.normal, x.1, x.2)
  | .seq a b, e, H => match execA cf lf a e H with
    | some (.normal, e', H') => execA cf lf b e' H'
    | r => r
  | .cond c a b, e, H => match ev e c with
    | .bool true => execA cf lf a e H
    | .bool false => execA cf lf b e H
    | _ => none
  | .block id c, e, H => match execA cf lf c e H with
    | some (.exit id', e', H') => if id' = id then some (.normal, e', H') else some (.exit id', e', H')
    | r => r
  | .loop keep c, e, H => iterA keep (execA cf lf c) lf e H
  | .exit id, e, H => some (.exit id, e, H)
  | .ret, e, H => some (.ret, e, H)

inductive ARes where
  | tmp (t : Nat)
  | cell (t : Nat) (k : Option Nat)
structure AFunc where
  nargs : Nat
  ntmps : Nat
  results : List ARes
  code : ACode
def entry (args : List Value) : Env := args.zipIdx.map fun p => (p.2, p.1)
def resA (e : Env) (H : AHeap) : ARes → Option Value
  | .tmp t => some (eget e t)
  | .cell t k => readA P e H (.load (.tmp t) k)
def ressA (e : Env) (H : AHeap) : List ARes → Option (List Value)
  | [] => some []
  | r :: rs => match resA P e H r, ressA e H rs with
    | some v, some vs => some (v :: vs)
    | _, _ => none
def packA : List Value → Value
  | [v] => v
  | vs => .tuple ⟨vs⟩
/-- A call: 'Γ' holds the functions' code, 'Ω' what is known of some calls besides. -/
def callA (Γ : FuncId → Option AFunc) (Ω : CallF) : Nat → CallF
  | 0, _, _, _ => none
  | n + 1, f, args, H =>
    match Ω f args H with
    | some r => some r
    | none => match Γ f with
      | none => none
      | some F => if args.length = F.nargs then
          match execA P (callA Γ Ω n) n F.code (entry args) H with
          | some (.exit _, _, _) => none
          | some (_, e, H') => (ressA P e H' F.results).map fun vs => (packA vs, H')
          | none => none
        else none
end
end
end Lon
