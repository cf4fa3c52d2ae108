/- What is proved here: the interpreter's equations. Conditions: those that each theorem names, and no others. -/
import Derived.Test.YtfhchimfdlhmaaaLonW
/-! The interpreter's equations, for walks with letters in them. -/
set_option linter.unusedSimpArgs false
set_option linter.unusedVariables false
namespace Lon
open Go

section
variable {P : Program} {Γ : FuncId → Option AFunc} {Ω : CallF} {cf : CallF} {e : Env} {H : AHeap}

theorem run_none {c : ACode} : run P Γ Ω c e H = none ↔ ∀ n, execA P (cw P Γ Ω) n c e H = none := by
  constructor
  · intro h n
    cases hx : execA P (cw P Γ Ω) n c e H with
    | none => rfl
    | some r => rw [run_of n hx] at h; cases h
  · intro h
    cases hx : run P Γ Ω c e H with
    | none => rfl
    | some r => obtain ⟨n, hn⟩ := run_iff.1 hx; rw [h n] at hn; cases hn
theorem eq_skip : run P Γ Ω .skip e H = some (.normal, e, H) := run_skip
theorem eq_exit {id : Nat} : run P Γ Ω (.exit id) e H = some (.exit id, e, H) := run_exit
theorem eq_ret : run P Γ Ω .ret e H = some (.ret, e, H) := run_ret
theorem eq_ops {rows : List ARow} : run P Γ Ω (.ops rows) e H = (rowsA P (cw P Γ Ω) rows e H).map fun x => (.normal, x.1, x.2) := by
  cases h : rowsA P (cw P Γ Ω) rows e H with
  | none => exact run_none.2 fun n => by simp only [execA, h]; rfl
  | some x => exact run_ops h
theorem eq_draw {rows : List ARow} : run P Γ Ω (.draw rows) e H = (drawA P (cw P Γ Ω) rows [] [] e H).map fun x => (.normal, x.1, x.2) := by
  cases h : drawA P (cw P Γ Ω) rows [] [] e H with
  | none => exact run_none.2 fun n => by simp only [execA, h]; rfl
  | some x => exact run_draw h
/-- What follows an outcome. -/
def andThen (r : Option (AEx × Env × AHeap)) (k : Env → AHeap → Option (AEx × Env × AHeap)) : Option (AEx × Env × AHeap) :=
  match r with
  | some (.normal, e, H) => k e H
  | r => r
theorem then_normal {k : Env → AHeap → Option (AEx × Env × AHeap)} : andThen (some (.normal, e, H)) k = k e H := rfl
theorem then_ret {k : Env → AHeap → Option (AEx × Env × AHeap)} : andThen (some (.ret, e, H)) k = some (.ret, e, H) := rfl
theorem then_exit {k : Env → AHeap → Option (AEx × Env × AHeap)} {id : Nat} : andThen (some (.exit id, e, H)) k = some (.exit id, e, H) := rfl
theorem eq_seq {a b : ACode} : run P Γ Ω (.seq a b) e H = andThen (run P Γ Ω a e H) fun e' H' => run P Γ Ω b e' H' := by
  cases h : run P Γ Ω a e H with
  | none => exact run_none.2 fun n => by simp only [execA, run_none.1 h n]
  | some r =>
    obtain ⟨x, e', H'⟩ := r
    cases x with
    | normal =>
      rw [then_normal]
      cases k : run P Γ Ω b e' H' with
      | some r => exact run_seq h k
      | none =>
        refine run_none.2 fun n => ?_
        simp only [execA]
        cases hx : execA P (cw P Γ Ω) n a e H with
        | none => rfl
        | some r =>
          have := run_of n hx
          rw [h] at this
          injection this with this
          subst this
          exact run_none.1 k n
    | ret => exact run_seq_ret h
    | exit id => exact run_seq_exit h
/-- Which way, by a test's value. -/
def byBool {α : Type} (v : Value) (a b : Option α) : Option α :=
  match v with
  | .bool true => a
  | .bool false => b
  | _ => none
theorem byBool_true {α : Type} {a b : Option α} : byBool (.bool true) a b = a := rfl
theorem byBool_false {α : Type} {a b : Option α} : byBool (.bool false) a b = b := rfl
theorem byBool_dec {α : Type} {p : Prop} [Decidable p] {a b : Option α} : byBool (.bool (decide p)) a b = if p then a else b := by
  by_cases h : p <;> simp [h, byBool]
theorem eq_cond {q : Operand} {a b : ACode} : run P Γ Ω (.cond q a b) e H = byBool (ev e q) (run P Γ Ω a e H) (run P Γ Ω b e H) := by
  have hex : ∀ n, execA P (cw P Γ Ω) n (.cond q a b) e H = byBool (ev e q) (execA P (cw P Γ Ω) n a e H) (execA P (cw P Γ Ω) n b e H) := fun n => by
    simp only [execA]
    unfold byBool
    generalize ev e q = v
    cases v <;> rfl
  unfold byBool
  split
  · rename_i hq
    cases h : run P Γ Ω a e H with
    | some r => exact run_true hq h
    | none => exact run_none.2 fun n => by rw [hex n, hq]; exact run_none.1 h n
  · rename_i hq
    cases h : run P Γ Ω b e H with
    | some r => exact run_false hq h
    | none => exact run_none.2 fun n => by rw [hex n, hq]; exact run_none.1 h n
  · rename_i h1 h2
    refine run_none.2 fun n => ?_
    rw [hex n]
    unfold byBool
    split
    · rename_i hq; exact absurd hq h1
    · rename_i hq; exact absurd hq h2
    · rfl
/-- The end of a block. -/
def inBlock (id : Nat) (r : Option (AEx × Env × AHeap)) : Option (AEx × Env × AHeap) :=
  match r with
  | some (.exit id', e, H) => if id' = id then some (.normal, e, H) else some (.exit id', e, H)
  | r => r
theorem block_normal {id : Nat} : inBlock id (some (.normal, e, H)) = some (.normal, e, H) := rfl
theorem block_ret {id : Nat} : inBlock id (some (.ret, e, H)) = some (.ret, e, H) := rfl
theorem block_exit {id id' : Nat} : inBlock id (some (.exit id', e, H)) = if id' = id then some (.normal, e, H) else some (.exit id', e, H) := rfl
theorem eq_block {id : Nat} {a : ACode} : run P Γ Ω (.block id a) e H = inBlock id (run P Γ Ω a e H) := by
  cases h : run P Γ Ω a e H with
  | none => exact run_none.2 fun n => by simp only [execA, run_none.1 h n]
  | some r =>
    obtain ⟨x, e', H'⟩ := r
    obtain ⟨n, hn⟩ := run_iff.1 h
    cases x with
    | normal => exact run_of n (by simp only [execA]; rw [hn])
    | ret => exact run_of n (by simp only [execA]; rw [hn])
    | exit id' =>
      rw [block_exit]
      split
      · rename_i hid; exact run_of n (by simp only [execA]; rw [hn]; simp [hid])
      · rename_i hid; exact run_of n (by simp only [execA]; rw [hn]; simp [hid])
theorem eq_loop {keep : List Nat} {a : ACode} : run P Γ Ω (.loop keep a) e H = andThen (run P Γ Ω a (forget keep e) H) fun e' H' => run P Γ Ω (.loop keep a) e' H' := by
  cases h : run P Γ Ω a (forget keep e) H with
  | none =>
    refine run_none.2 fun n => ?_
    simp only [execA]
    cases n with
    | zero => rfl
    | succ n => simp only [iterA]; rw [run_none.1 h (n + 1)]
  | some r =>
    obtain ⟨x, e', H'⟩ := r
    cases x with
    | ret => exact run_loop_ret h
    | exit id => exact run_loop_exit h
    | normal =>
      rw [then_normal]
      cases k : run P Γ Ω (.loop keep a) e' H' with
      | some r => exact run_loop h k
      | none =>
        refine run_none.2 fun n => ?_
        simp only [execA]
        cases n with
        | zero => rfl
        | succ n =>
          simp only [iterA]
          cases hx : execA P (cw P Γ Ω) (n + 1) a (forget keep e) H with
          | none => rfl
          | some r =>
            have := run_of (n + 1) hx
            rw [h] at this
            injection this with this
            subst this
            simp only
            have hk := run_none.1 k (n + 1)
            simp only [execA] at hk
            cases hy : iterA keep (execA P (cw P Γ Ω) (n + 1) a) n e' H' with
            | none => rfl
            | some r => rw [iterA_le (fun _ _ _ h => h) (Nat.le_succ n) hy] at hk; cases hk

/-- What follows a piece of code. -/
noncomputable def thenRun (P : Program) (Γ : FuncId → Option AFunc) (Ω : CallF) (b : ACode) (r : Option (AEx × Env × AHeap)) : Option (AEx × Env × AHeap) := andThen r fun e' H' => run P Γ Ω b e' H'
theorem w_seq {a b : ACode} : run P Γ Ω (.seq a b) e H = thenRun P Γ Ω b (run P Γ Ω a e H) := eq_seq
theorem w_normal {b : ACode} : thenRun P Γ Ω b (some (.normal, e, H)) = run P Γ Ω b e H := rfl
theorem w_ret {b : ACode} : thenRun P Γ Ω b (some (.ret, e, H)) = some (.ret, e, H) := rfl
theorem w_exit {b : ACode} {id : Nat} : thenRun P Γ Ω b (some (.exit id, e, H)) = some (.exit id, e, H) := rfl
/-- A fork, by the test's value. -/
noncomputable def fork (P : Program) (Γ : FuncId → Option AFunc) (Ω : CallF) (a b : ACode) (e : Env) (H : AHeap) (v : Value) : Option (AEx × Env × AHeap) := byBool v (run P Γ Ω a e H) (run P Γ Ω b e H)
theorem w_cond {q : Operand} {a b : ACode} : run P Γ Ω (.cond q a b) e H = fork P Γ Ω a b e H (ev e q) := eq_cond
theorem w_true {a b : ACode} : fork P Γ Ω a b e H (.bool true) = run P Γ Ω a e H := rfl
theorem w_false {a b : ACode} : fork P Γ Ω a b e H (.bool false) = run P Γ Ω b e H := rfl

/-! Rows. -/
/-- What follows a row. -/
noncomputable def onward (P : Program) (cf : CallF) (rs : List ARow) (e : Env) (d : Option Nat) (r : Option (Value × AHeap)) : Option (Env × AHeap) := r.bind fun x => rowsA P cf rs (eput e d x.1) x.2
theorem w_rows {rows : List ARow} : run P Γ Ω (.ops rows) e H = (rowsA P (cw P Γ Ω) rows e H).map fun x => (.normal, x.1, x.2) := eq_ops
theorem w_done : Option.map (fun x : Env × AHeap => ((AEx.normal, x.1, x.2) : AEx × Env × AHeap)) (some (e, H)) = some (.normal, e, H) := rfl
theorem rows_nil : rowsA P cf [] e H = some (e, H) := rfl
theorem rows_cons {r : ARow} {rs : List ARow} : rowsA P cf (r :: rs) e H = onward P cf rs e r.dst (rowV P cf r e H) := by
  unfold onward
  simp only [rowsA, rowA]
  cases rowV P cf r e H <;> rfl
theorem on_some {rs : List ARow} {d : Nat} {v : Value} {H' : AHeap} : onward P cf rs e (some d) (some (v, H')) = rowsA P cf rs ((d, v) :: e) H' := rfl
theorem on_none {rs : List ARow} {v : Value} {H' : AHeap} : onward P cf rs e none (some (v, H')) = rowsA P cf rs e H' := rfl
theorem row_plain {d : Option Nat} {o : AOp} : rowV P cf ⟨d, o, none⟩ e H = stepA P cf e H o := rfl
/-- A guarded row, by the guard's value. -/
noncomputable def guarded (P : Program) (cf : CallF) (e : Env) (H : AHeap) (o : AOp) (want : Bool) (v : Value) : Option (Value × AHeap) :=
  match v with
  | .bool b => if b = want then stepA P cf e H o else some (.tuple ⟨[]⟩, H)
  | .tuple ⟨[]⟩ => some (.tuple ⟨[]⟩, H)
  | _ => none
theorem row_guard {d : Option Nat} {o : AOp} {t : Nat} {want : Bool} : rowV P cf ⟨d, o, some (t, want)⟩ e H = guarded P cf e H o want (eget e t) := by
  unfold guarded
  simp only [rowV, guardA]
  split <;> rename_i h
  · split at h
    · rename_i b hb
      injection h with h
      simp only [hb]
      rw [if_pos (by simpa using h)]
    · cases h
    · cases h
  · split at h
    · rename_i b hb
      injection h with h
      simp only [hb]
      rw [if_neg (by intro hh; subst hh; simp at h)]
    · rename_i hb
      simp only [hb]
    · cases h
  · split at h
    · cases h
    · cases h
    · rename_i h1 h2
      split
      · rename_i b hb; exact absurd hb (h1 b)
      · rename_i hb; exact absurd hb h2
      · rfl
theorem guard_tt {o : AOp} : guarded P cf e H o true (.bool true) = stepA P cf e H o := rfl
theorem guard_ff {o : AOp} : guarded P cf e H o false (.bool false) = stepA P cf e H o := rfl
theorem guard_tf {o : AOp} : guarded P cf e H o true (.bool false) = some (.tuple ⟨[]⟩, H) := rfl
theorem guard_ft {o : AOp} : guarded P cf e H o false (.bool true) = some (.tuple ⟨[]⟩, H) := rfl
theorem guard_no {o : AOp} {b : Bool} : guarded P cf e H o b (.tuple ⟨[]⟩) = some (.tuple ⟨[]⟩, H) := rfl
theorem put_some {d : Nat} {v : Value} : eput e (some d) v = (d, v) :: e := rfl
theorem put_none {v : Value} : eput e none v = e := rfl
theorem draw_nil {l : List (Nat × Nat)} {F : List Nat} : drawA P cf [] l F e H = if still H l then some (e, H) else none := rfl
theorem draw_cons {r : ARow} {rs : List ARow} {l : List (Nat × Nat)} {F : List Nat} : drawA P cf (r :: rs) l F e H = (rowV P cf r (forget (slotsR r) e) H).bind fun x => if ((!isCall r.op || calm x.2 F) && (!lastSt r rs || still H l)) = true then drawA P cf rs (nextL (lastSt r rs) (stamps H (forget (slotsR r) e) r ++ l)) (freshI r.op H.n ++ F) (eput e r.dst x.1) x.2 else none := by
  simp only [drawA]
  cases rowV P cf r (forget (slotsR r) e) H <;> rfl
theorem forget_nil : forget [] e = [] := rfl
theorem forget_cons {t : Nat} {ts : List Nat} : forget (t :: ts) e = (t, eget e t) :: forget ts e := rfl

/-! Operands. -/
theorem ev_tmp {t : Nat} : ev e (.tmp t) = eget e t := rfl
theorem ev_int {k : IntKind} {n : Int} : ev e (.const (.int k n)) = .int k n := rfl
theorem ev_bool {b : Bool} : ev e (.const (.bool b)) = .bool b := rfl
theorem ev_string {b : ByteArray} : ev e (.const (.string b)) = .string b := rfl
theorem ev_slice : ev e (.const (.slice none 0 0)) = .slice none 0 0 := rfl
theorem ev_pointer : ev e (.const (.pointer none)) = .pointer none := rfl
theorem ev_map : ev e (.const (.map none)) = .map none := rfl
theorem ev_float {k : FloatKind} {n : Nat} : ev e (.const (.float k n)) = .float k n := rfl
theorem ev_complex {k : FloatKind} {a b : Nat} : ev e (.const (.complex k a b)) = .complex k a b := rfl
theorem ev_nilIface : ev e (.const .nilIface) = .nilIface := rfl
theorem ev_nilFunc : ev e (.const .nilFunc) = .nilFunc := rfl
theorem ev_func {f : FuncId} : ev e (.func f) = .func (.func f) ⟨[]⟩ ⟨[]⟩ := rfl

/-! Operations. -/
theorem st_mv {x : Operand} : stepA P cf e H (.mv x) = some (ev e x, H) := rfl
def vPick (c a b : Value) (H : AHeap) : Option (Value × AHeap) := match c with | .bool t => some (if t then a else b, H) | _ => none
theorem st_pick {c a b : Operand} : stepA P cf e H (.pick c a b) = vPick (ev e c) (ev e a) (ev e b) H := by
  simp only [stepA, pureA, vPick]; cases ev e c <;> rfl
theorem v_pick_t {a b : Value} : vPick (.bool true) a b H = some (a, H) := rfl
theorem v_pick_f {a b : Value} : vPick (.bool false) a b H = some (b, H) := rfl
def vExt (t : Value) (ix : Nat) (H : AHeap) : Option (Value × AHeap) := match t with | .tuple vs => (vs.toList[ix]?).map fun v => (v, H) | _ => none
theorem st_ext {t : Operand} {ix : Nat} : stepA P cf e H (.ext t ix) = vExt (ev e t) ix H := by
  simp only [stepA, pureA, vExt]; cases ev e t <;> rfl
theorem v_ext0 {a : Value} {r : List Value} : vExt (.tuple ⟨a :: r⟩) 0 H = some (a, H) := rfl
theorem v_ext1 {a b : Value} {r : List Value} : vExt (.tuple ⟨a :: b :: r⟩) 1 H = some (b, H) := rfl
theorem v_ext2 {a b c : Value} {r : List Value} : vExt (.tuple ⟨a :: b :: c :: r⟩) 2 H = some (c, H) := rfl
theorem v_ext3 {a b c d : Value} {r : List Value} : vExt (.tuple ⟨a :: b :: c :: d :: r⟩) 3 H = some (d, H) := rfl
def vInt (op : BinOp) (x y : Value) (H : AHeap) : Option (Value × AHeap) := match x, y with | .int k a, .int k' b => if k = k' then (intOp op k a b).map fun v => (v, H) else none | _, _ => none
theorem st_int {op : BinOp} {x y : Operand} : stepA P cf e H (.int op x y) = vInt op (ev e x) (ev e y) H := by
  simp only [stepA, pureA, vInt]; generalize ev e x = u; generalize ev e y = v
  cases u <;> cases v <;> first | rfl | (simp only; split <;> rfl)
theorem v_int {op : BinOp} {k : IntKind} {a b : Int} : vInt op (.int k a) (.int k b) H = (intOp op k a b).map fun v => (v, H) := by simp [vInt]
def vBeq (neq : Bool) (x y : Value) (H : AHeap) : Option (Value × AHeap) := match x, y with | .bool a, .bool b => some (.bool (if neq then !(a == b) else a == b), H) | _, _ => none
theorem st_beq {neq : Bool} {x y : Operand} : stepA P cf e H (.beq neq x y) = vBeq neq (ev e x) (ev e y) H := by
  simp only [stepA, pureA, vBeq]; generalize ev e x = u; generalize ev e y = v
  cases u <;> cases v <;> rfl
theorem v_beq {a b : Bool} : vBeq false (.bool a) (.bool b) H = some (.bool (a == b), H) := rfl
theorem v_bne {a b : Bool} : vBeq true (.bool a) (.bool b) H = some (.bool (!(a == b)), H) := rfl
def vNot (x : Value) (H : AHeap) : Option (Value × AHeap) := match x with | .bool a => some (.bool !a, H) | _ => none
theorem st_not {x : Operand} : stepA P cf e H (.not x) = vNot (ev e x) H := by
  simp only [stepA, pureA, vNot]; cases ev e x <;> rfl
theorem v_not {a : Bool} : vNot (.bool a) H = some (.bool !a, H) := rfl
def vConv (k : IntKind) (x : Value) (H : AHeap) : Option (Value × AHeap) := match x with | .int _ n => some (.int k (k.wrap n), H) | _ => none
theorem st_conv {k : IntKind} {x : Operand} : stepA P cf e H (.conv k x) = vConv k (ev e x) H := by
  simp only [stepA, pureA, vConv]; cases ev e x <;> rfl
theorem v_conv {k k' : IntKind} {n : Int} : vConv k (.int k' n) H = some (.int k (k.wrap n), H) := rfl
def vFaddr (x : Value) (off : Nat) (H : AHeap) : Option (Value × AHeap) := (match x with | .pointer (some ⟨i, o, none⟩) => some (.pointer (some ⟨i, o + off, none⟩)) | _ => none : Option Value).map fun v => (v, H)
theorem st_faddr {x : Operand} {off : Nat} : stepA P cf e H (.faddr x off) = vFaddr (ev e x) off H := rfl
theorem v_faddr {i o off : Nat} : vFaddr (.pointer (some ⟨i, o, none⟩)) off H = some (.pointer (some ⟨i, o + off, none⟩), H) := rfl
def vIaddr (x i : Value) (sz : Nat) (H : AHeap) : Option (Value × AHeap) := (match x, i with | .slice (some ⟨b, o, none⟩) n _, .int _ j => if 0 ≤ j ∧ j < n then some (.pointer (some ⟨b, o + j.toNat * sz, none⟩)) else none | _, _ => none : Option Value).map fun v => (v, H)
theorem st_iaddr {x i : Operand} {sz : Nat} : stepA P cf e H (.iaddr x i sz) = vIaddr (ev e x) (ev e i) sz H := rfl
theorem v_iaddr {b o n c sz : Nat} {k : IntKind} {j : Int} (h : 0 ≤ j ∧ j < n) : vIaddr (.slice (some ⟨b, o, none⟩) n c) (.int k j) sz H = some (.pointer (some ⟨b, o + j.toNat * sz, none⟩), H) := by simp [vIaddr, h]
def vAaddr (x i : Value) (cnt sz : Nat) (H : AHeap) : Option (Value × AHeap) := (match x, i with | .pointer (some ⟨b, o, none⟩), .int _ j => if 0 ≤ j ∧ j < cnt then some (.pointer (some ⟨b, o + j.toNat * sz, none⟩)) else none | _, _ => none : Option Value).map fun v => (v, H)
theorem st_aaddr {x i : Operand} {cnt sz : Nat} : stepA P cf e H (.aaddr x i cnt sz) = vAaddr (ev e x) (ev e i) cnt sz H := rfl
theorem v_aaddr {b o cnt sz : Nat} {k : IntKind} {j : Int} (h : 0 ≤ j ∧ j < cnt) : vAaddr (.pointer (some ⟨b, o, none⟩)) (.int k j) cnt sz H = some (.pointer (some ⟨b, o + j.toNat * sz, none⟩), H) := by simp [vAaddr, h]
def vNil (x : Value) (H : AHeap) : Option (Value × AHeap) := (match x with | .pointer (some ⟨i, o, none⟩) => some (.pointer (some ⟨i, o, none⟩)) | _ => none : Option Value).map fun v => (v, H)
theorem st_nilChk {x : Operand} : stepA P cf e H (.nilChk x) = vNil (ev e x) H := rfl
theorem v_nil {i o : Nat} : vNil (.pointer (some ⟨i, o, none⟩)) H = some (.pointer (some ⟨i, o, none⟩), H) := rfl
def vLen (str : Bool) (x : Value) (H : AHeap) : Option (Value × AHeap) := match str, x with | false, .slice _ n _ => some (.int .i64 n, H) | true, .string s => some (.int .i64 s.size, H) | _, _ => none
theorem st_len {str : Bool} {x : Operand} : stepA P cf e H (.len str x) = vLen str (ev e x) H := by
  simp only [stepA, pureA, vLen]; cases str <;> cases ev e x <;> rfl
theorem v_len {a : Option Addr} {n c : Nat} : vLen false (.slice a n c) H = some (.int .i64 n, H) := rfl
theorem v_lenS {b : ByteArray} : vLen true (.string b) H = some (.int .i64 b.size, H) := rfl
noncomputable def vLoad (x : Value) (k : Option Nat) (H : AHeap) : Option (Value × AHeap) := (match x with
  | .pointer (some ⟨i, o, none⟩) => match H.get i with
    | some blk => if blk.st.mem then (match k with
      | some n => if o + n ≤ blk.cells.length then some (.agg ⟨(blk.cells.drop o).take n⟩) else none
      | none => blk.cells[o]?) else none
    | none => none
  | _ => none : Option Value).map fun v => (v, H)
theorem st_load {x : Operand} {k : Option Nat} : stepA P cf e H (.load x k) = vLoad (ev e x) k H := rfl
/-- A load, by what the heap has there. -/
def gotLoad (b : Option ABlk) (o : Nat) (k : Option Nat) (H : AHeap) : Option (Value × AHeap) := (match b with
    | some blk => if blk.st.mem then (match k with
      | some n => if o + n ≤ blk.cells.length then some (.agg ⟨(blk.cells.drop o).take n⟩) else none
      | none => blk.cells[o]?) else none
    | none => none : Option Value).map fun v => (v, H)
theorem v_load {i o : Nat} {k : Option Nat} : vLoad (.pointer (some ⟨i, o, none⟩)) k H = gotLoad (H.get i) o k H := rfl
theorem got_one {cells : List Value} {el : TypeId} {st : St} {ver : Nat} {anc : List Nat} {o : Nat} (h : st.mem = true) : gotLoad (some ⟨cells, el, st, ver, anc⟩) o none H = (cells[o]?).map fun v => (v, H) := by simp [gotLoad, h]
theorem got_row {cells : List Value} {el : TypeId} {st : St} {ver : Nat} {anc : List Nat} {o n : Nat} (h : st.mem = true) (hn : o + n ≤ cells.length) : gotLoad (some ⟨cells, el, st, ver, anc⟩) o (some n) H = some (.agg ⟨(cells.drop o).take n⟩, H) := by simp [gotLoad, h, hn]
theorem mem_tip : St.mem .tip = true := by decide
theorem mem_ro : St.mem .ro = true := by decide
theorem mem_ret : St.mem .ret = true := by decide
theorem st_mmake {t : TypeId} : stepA P cf e H (.mop (.make t)) = some (.map (some H.n), H.push ⟨[], t, .map, 0, []⟩) := rfl
theorem st_mget {x i : Operand} {z : Value} {ok : Bool} : stepA P cf e H (.mop (.get x i z ok)) = mapGet (ev e x) (ev e i) z ok H := rfl
theorem st_mset {m k v : Operand} : stepA P cf e H (.mop (.set m k v)) = mapSet (ev e m) (ev e k) (ev e v) H := rfl
theorem st_alloc {cells : List Value} {el : TypeId} : stepA P cf e H (.alloc cells el) = some (.pointer (some ⟨H.n, 0, none⟩), H.push ⟨cells, el, .tip, 0, []⟩) := rfl
noncomputable def vBox (v : Value) (el : TypeId) (H : AHeap) : Option (Value × AHeap) := if solid v then some (.pointer (some ⟨H.n, 0, none⟩), H.push ⟨v.cells.toList, el, .tip, 0, []⟩) else none
theorem st_box {x : Operand} {el : TypeId} : stepA P cf e H (.box x el) = vBox (ev e x) el H := by
  simp only [stepA, newA, vBox]; split <;> rfl
theorem v_box {v : Value} {el : TypeId} (h : solid v = true) : vBox v el H = some (.pointer (some ⟨H.n, 0, none⟩), H.push ⟨v.cells.toList, el, .tip, 0, []⟩) := by simp [vBox, h]
noncomputable def vStore (p v : Value) (n : Nat) (H : AHeap) : Option (Value × AHeap) := (storeA H p v n).map fun H' => (.tuple ⟨[]⟩, H')
theorem st_store {x v : Operand} {n : Nat} : stepA P cf e H (.store x v n) = vStore (ev e x) (ev e v) n H := rfl
/-- A store, by what the heap has there. -/
noncomputable def gotStore (b : Option ABlk) (i o : Nat) (v : Value) (n : Nat) (H : AHeap) : Option (Value × AHeap) := (match b with
    | some blk => if blk.st = .tip ∧ v.cells.toList.length = n ∧ v.cells.toList.all one = true ∧ o + n ≤ blk.cells.length then
        some ((killAll H blk.anc).upd i ⟨blk.cells.take o ++ v.cells.toList ++ blk.cells.drop (o + n), blk.elem, .tip, blk.ver + 1, []⟩) else none
    | none => none : Option AHeap).map fun H' => (.tuple ⟨[]⟩, H')
theorem v_store {i o n : Nat} {v : Value} : vStore (.pointer (some ⟨i, o, none⟩)) v n H = gotStore (H.get i) i o v n H := rfl
theorem got_store {cells : List Value} {el : TypeId} {ver : Nat} {anc : List Nat} {i o n : Nat} {v : Value} (hl : v.cells.toList.length = n) (h1 : v.cells.toList.all one = true) (hn : o + n ≤ cells.length) :
    gotStore (some ⟨cells, el, .tip, ver, anc⟩) i o v n H = some (.tuple ⟨[]⟩, (killAll H anc).upd i ⟨cells.take o ++ v.cells.toList ++ cells.drop (o + n), el, .tip, ver + 1, []⟩) := by
  simp only [gotStore]
  rw [if_pos ⟨trivial, hl, h1, hn⟩]; rfl
theorem cells_agg {l : List Value} : (Value.agg ⟨l⟩).cells.toList = l := rfl
theorem cells_int {k : IntKind} {n : Int} : (Value.int k n).cells.toList = [.int k n] := rfl
theorem cells_bool {b : Bool} : (Value.bool b).cells.toList = [.bool b] := rfl
theorem cells_slice {a : Option Addr} {n c : Nat} : (Value.slice a n c).cells.toList = [.slice a n c] := rfl
theorem cells_pointer {a : Option Addr} : (Value.pointer a).cells.toList = [.pointer a] := rfl
theorem cells_string {b : ByteArray} : (Value.string b).cells.toList = [.string b] := rfl
theorem cells_complex {k : FloatKind} {a b : Nat} : (Value.complex k a b).cells.toList = [.complex k a b] := rfl
theorem cells_func {f : Fn} {a b : Array Value} : (Value.func f a b).cells.toList = [.func f a b] := rfl
theorem one_int {k : IntKind} {n : Int} : one (.int k n) = true := of_eq_true (eq_self true)
theorem one_bool {b : Bool} : one (.bool b) = true := of_eq_true (eq_self true)
theorem one_slice {a : Option Addr} {n c : Nat} : one (.slice a n c) = true := of_eq_true (eq_self true)
theorem one_pointer {a : Option Addr} : one (.pointer a) = true := of_eq_true (eq_self true)
theorem one_string {b : ByteArray} : one (.string b) = true := of_eq_true (eq_self true)
theorem one_complex {k : FloatKind} {a b : Nat} : one (.complex k a b) = true := of_eq_true (eq_self true)
theorem one_func {f : Fn} {a b : Array Value} : one (.func f a b) = true := of_eq_true (eq_self true)
/-- A write of what has just been laid. -/
theorem Tr.put_put : ∀ (f : Nat) (t : Tr) (i : Nat) (b b' : ABlk), Tr.put f (Tr.put f t i b) i b' = Tr.put f t i b' := by
  intro f
  induction f with
  | zero => intro t i b b'; cases t <;> rfl
  | succ f ih =>
    intro t i b b'
    cases t with
    | e =>
      simp only [Tr.put_se, Tr.put_sn]
      by_cases h : i = 0
      · simp only [h, if_true, Tr.put_se, Tr.put_sn]
      · simp only [h, if_false]
        by_cases ho : i % 2 = 1
        · simp only [ho, if_true, Tr.put_se, Tr.put_sn, h, if_false, ih]
        · simp only [ho, if_false, Tr.put_se, Tr.put_sn, h, ih]
    | n v l r =>
      simp only [Tr.put_se, Tr.put_sn]
      by_cases h : i = 0
      · simp only [h, if_true, Tr.put_se, Tr.put_sn]
      · simp only [h, if_false]
        by_cases ho : i % 2 = 1
        · simp only [ho, if_true, Tr.put_se, Tr.put_sn, h, if_false, ih]
        · simp only [ho, if_false, Tr.put_se, Tr.put_sn, h, ih]
theorem upd_push {b b' : ABlk} : (H.push b).upd H.n b' = H.push b' := by
  rw [AHeap.upd_eq, AHeap.push_eq, AHeap.push_eq]
  simp only [Tr.put_put]
theorem get_push_self {b : ABlk} : (H.push b).get H.n = some b := by rw [AHeap.get_push, if_pos rfl]
theorem get_push_lt {b : ABlk} {i : Nat} (h : i < H.n) : (H.push b).get i = H.get i := by rw [AHeap.get_push, if_neg (by omega)]
def vCall (cf : CallF) (f : Value) (args : List Value) (H : AHeap) : Option (Value × AHeap) := match f with | .func (.func g) first captured => cf g (first.toList ++ args ++ captured.toList) H | _ => none
theorem st_call {f : Operand} {args : List Operand} : stepA P cf e H (.call f args) = vCall cf (ev e f) (args.map (ev e)) H := by
  simp only [stepA, vCall]; cases ev e f <;> rfl
/-- A row built of parts. -/
def vBuild (z : List Value) (ps : List (Nat × Nat × Value)) (H : AHeap) : Option (Value × AHeap) := (if okParts z.length ps then some (.agg ⟨lay z (dropSz ps)⟩) else none : Option Value).map fun v => (v, H)
theorem st_build {z : List Value} {ps : List (Nat × Nat × Operand)} : stepA P cf e H (.build z ps) = vBuild z (evParts e ps) H := rfl
theorem parts_nil : evParts e [] = [] := rfl
theorem parts_cons {a b : Nat} {x : Operand} {r : List (Nat × Nat × Operand)} : evParts e ((a, b, x) :: r) = (a, b, ev e x) :: evParts e r := rfl
theorem v_build {z : List Value} {ps : List (Nat × Nat × Value)} (h : okParts z.length ps = true) : vBuild z ps H = some (.agg ⟨lay z (dropSz ps)⟩, H) := by simp [vBuild, h]
noncomputable def vBslice (el : TypeId) (n sz : Nat) (z : List Value) (ps : List (Nat × Nat × Value)) (H : AHeap) : Option (Value × AHeap) :=
  (if okParts (n * sz) ps then some (⟨lay ((List.replicate n z).flatten) (dropSz ps), el, .tip, 0, []⟩, .slice (some ⟨H.n, 0, none⟩) n (n + 1)) else none : Option (ABlk × Value)).map fun r => (r.2, H.push r.1)
theorem st_bslice {el : TypeId} {n sz : Nat} {z : List Value} {ps : List (Nat × Nat × Operand)} : stepA P cf e H (.bslice el n sz z ps) = vBslice el n sz z (evParts e ps) H := rfl
theorem v_bslice {el : TypeId} {n sz : Nat} {z : List Value} {ps : List (Nat × Nat × Value)} (h : okParts (n * sz) ps = true) :
    vBslice el n sz z ps H = some (.slice (some ⟨H.n, 0, none⟩) n (n + 1), H.push ⟨lay ((List.replicate n z).flatten) (dropSz ps), el, .tip, 0, []⟩) := by simp [vBslice, h]
theorem st_append {x y : Operand} {el : TypeId} {sz bytes : Nat} : stepA P cf e H (.append x y el sz bytes) = appendA H (ev e x) (ev e y) el sz bytes := rfl
theorem st_mkfun {fn : Fn} {a b : List Operand} : stepA P cf e H (.mkfun fn a b) = some (.func fn ⟨a.map (ev e)⟩ ⟨b.map (ev e)⟩, H) := rfl
theorem st_mkface {t : TypeId} {x : Operand} : stepA P cf e H (.mkface t x) = some (.iface t (ev e x), H) := rfl
def vIsNil (kd : Nat) (neq : Bool) (x : Value) (H : AHeap) : Option (Value × AHeap) := ((isNilV kd x).map fun b => (.bool (if neq then !b else b) : Value)).map fun v => (v, H)
theorem st_isNil {kd : Nat} {neq : Bool} {x : Operand} : stepA P cf e H (.isNil kd neq x) = vIsNil kd neq (ev e x) H := rfl
def vMax (x y : Value) (H : AHeap) : Option (Value × AHeap) := (match x, y with | .int k a, .int _ b => some (.int k (if b > a then b else a)) | _, _ => none : Option Value).map fun v => (v, H)
theorem st_max {x y : Operand} : stepA P cf e H (.max2 x y) = vMax (ev e x) (ev e y) H := rfl
theorem v_max {k k' : IntKind} {a b : Int} : vMax (.int k a) (.int k' b) H = some (.int k (if b > a then b else a), H) := rfl
def vMin (x y : Value) (H : AHeap) : Option (Value × AHeap) := (match x, y with | .int k a, .int _ b => some (.int k (if b < a then b else a)) | _, _ => none : Option Value).map fun v => (v, H)
theorem st_min {x y : Operand} : stepA P cf e H (.min2 x y) = vMin (ev e x) (ev e y) H := rfl
theorem v_min {k k' : IntKind} {a b : Int} : vMin (.int k a) (.int k' b) H = some (.int k (if b < a then b else a), H) := rfl
def vField (x : Value) (agg : Bool) (off len : Nat) (H : AHeap) : Option (Value × AHeap) := (match x with
  | .agg cs => if agg then (if off + len ≤ cs.toList.length then some (.agg ⟨(cs.toList.drop off).take len⟩) else none) else cs.toList[off]?
  | _ => none : Option Value).map fun v => (v, H)
theorem st_field {x : Operand} {agg : Bool} {off len : Nat} : stepA P cf e H (.field x agg off len) = vField (ev e x) agg off len H := rfl
def vIndex (x i : Value) (cnt : Nat) (agg : Bool) (sz : Nat) (H : AHeap) : Option (Value × AHeap) := (match x, i with
  | .agg cs, .int _ n => if 0 ≤ n ∧ n < cnt then (if agg then (if n.toNat * sz + sz ≤ cs.toList.length then some (.agg ⟨(cs.toList.drop (n.toNat * sz)).take sz⟩) else none) else cs.toList[n.toNat * sz]?) else none
  | _, _ => none : Option Value).map fun v => (v, H)
theorem st_index {x i : Operand} {cnt sz : Nat} {agg : Bool} : stepA P cf e H (.index x i cnt agg sz) = vIndex (ev e x) (ev e i) cnt agg sz H := rfl
def vSlice0 (x : Value) (H : AHeap) : Option (Value × AHeap) := (match x with
  | .slice (some ⟨i, o, none⟩) _ _ => some (.slice (some ⟨i, o, none⟩) 0 0)
  | .slice none 0 0 => some (.slice none 0 0)
  | .slice (some ⟨i, o, some k⟩) 0 0 => some (.slice (some ⟨i, o, some k⟩) 0 0)
  | _ => none : Option Value).map fun v => (v, H)
theorem st_slice0 {x : Operand} : stepA P cf e H (.slice0 x) = vSlice0 (ev e x) H := rfl
theorem v_slice0 {i o n c : Nat} : vSlice0 (.slice (some ⟨i, o, none⟩) n c) H = some (.slice (some ⟨i, o, none⟩) 0 0, H) := rfl
theorem v_slice0n : vSlice0 (.slice none 0 0) H = some (.slice none 0 0, H) := rfl
/-- A slice's bounds, and what they cut out. -/
def bndV (d : Int) (v : Option Value) : Option Int := match v with | none => some d | some (.int _ j) => some j | some _ => none
noncomputable def vSlice (x : Value) (lo hi : Option Value) (sz : Nat) (H : AHeap) : Option (Value × AHeap) := (match x with
    | .slice (some ⟨i, o, none⟩) n c =>
      match bndV n hi, bndV 0 lo, (H.get i).map (fun b => (P.info? b.elem).map (·.size)) with
      | some h, some l, some (some s) => if 0 ≤ l ∧ l ≤ h ∧ h ≤ n ∧ s = sz then some (.slice (some ⟨i, o + l.toNat * sz, none⟩) (h.toNat - l.toNat) (if c = 0 then 0 else max (h.toNat - l.toNat) (c - 1 - l.toNat) + 1)) else none
      | _, _, _ => none
    | .slice none 0 0 =>
      match bndV 0 hi, bndV 0 lo with
      | some h, some l => if l = 0 ∧ h = 0 then some (.slice none 0 0) else none
      | _, _ => none
    | .slice (some ⟨i, o, some k⟩) 0 0 =>
      match bndV 0 hi, bndV 0 lo with
      | some h, some l => if l = 0 ∧ h = 0 then some (.slice (some ⟨i, o, some k⟩) 0 0) else none
      | _, _ => none
    | _ => none : Option Value).map fun v => (v, H)
theorem bnd_val {d : Int} {x : Option Operand} : bndA e d x = bndV d (x.map (ev e)) := by
  cases x with
  | none => rfl
  | some x => simp only [bndA, bndV, Option.map_some]; cases ev e x <;> rfl
theorem st_slice {x : Operand} {lo hi : Option Operand} {sz : Nat} : stepA P cf e H (.slice x lo hi sz) = vSlice (P := P) (ev e x) (lo.map (ev e)) (hi.map (ev e)) sz H := by
  simp only [stepA, readA, vSlice, bnd_val]; rfl
theorem kill_nil : killAll H [] = H := rfl
theorem v_call {g : FuncId} {args : List Value} : vCall cf (.func (.func g) ⟨[]⟩ ⟨[]⟩) args H = cf g args H := by simp [vCall]
theorem int_add {k : IntKind} {a b : Int} : intOp .add k a b = some (.int k (k.wrap (a + b))) := rfl
theorem int_sub {k : IntKind} {a b : Int} : intOp .sub k a b = some (.int k (k.wrap (a - b))) := rfl
theorem int_mul {k : IntKind} {a b : Int} : intOp .mul k a b = some (.int k (k.wrap (a * b))) := rfl
theorem int_eql {k : IntKind} {a b : Int} : intOp .eql k a b = some (.bool (decide (a = b))) := by
  simp only [intOp]
  by_cases h : a = b <;> simp [h]
theorem int_neq {k : IntKind} {a b : Int} : intOp .neq k a b = some (.bool (decide (a ≠ b))) := by
  simp only [intOp]
  by_cases h : a = b <;> simp [h, bne]
theorem int_lss {k : IntKind} {a b : Int} : intOp .lss k a b = some (.bool (decide (a < b))) := rfl
theorem int_leq {k : IntKind} {a b : Int} : intOp .leq k a b = some (.bool (decide (a ≤ b))) := rfl
theorem int_gtr {k : IntKind} {a b : Int} : intOp .gtr k a b = some (.bool (decide (a > b))) := rfl
theorem int_geq {k : IntKind} {a b : Int} : intOp .geq k a b = some (.bool (decide (a ≥ b))) := rfl
theorem wrap64 {n : Int} (h1 : -9223372036854775808 ≤ n) (h2 : n < 9223372036854775808) : IntKind.i64.wrap n = n := by
  unfold IntKind.wrap
  have hb : (2 : Int) ^ IntKind.i64.bits = 18446744073709551616 := by decide
  have hb' : (2 : Int) ^ (IntKind.i64.bits - 1) = 9223372036854775808 := by decide
  have hs : IntKind.i64.signed = true := rfl
  rw [hb, hb', hs]
  simp only [Bool.true_and, decide_eq_true_eq]
  split <;> omega
end
end Lon
