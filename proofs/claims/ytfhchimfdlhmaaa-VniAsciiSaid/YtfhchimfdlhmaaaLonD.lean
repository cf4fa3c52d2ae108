/- What is proved here: how the model's operations are brought into the interpreter's form. Conditions: those that each theorem names, and no others. -/
import Derived.Test.YtfhchimfdlhmaaaLonC
/-! From the model's operations to the interpreter's; the operations that look at no memory are sound. -/
set_option linter.unusedSimpArgs false
set_option linter.unusedVariables false
namespace Lon
open Go

section
variable (P : Program)
def szOf (t : TypeId) : Option Nat := (P.info? t).map (·.size)
def isAggD : TypeDesc → Bool
  | .struct _ | .array _ _ => true
  | _ => false
/-- A type's own: whether its values are rows of cells, and how many cells they have. -/
def shapeOf (t : TypeId) : Option (Bool × Nat) :=
  match P.underlying t, szOf P t with
  | some d, some n => some (isAggD d, n)
  | _, _ => none
def zeroOf (t : TypeId) : Option (List Value) := ((P.info? t).bind (·.zero)).map (·.cells.toList)
def placesOf : List Field → Option (List (Nat × Nat))
  | [] => some []
  | f :: r => match szOf P f.type, placesOf r with
    | some s, some l => some ((f.offset, s) :: l)
    | _, _ => none
def partsP (ps : List (Nat × Nat)) : List (Nat × Operand) → Option (List (Nat × Nat × Operand))
  | [] => some []
  | (i, x) :: r => match ps[i]?, partsP ps r with
    | some p, some l => some ((p.1, p.2, x) :: l)
    | _, _ => none
def partsA (s : Nat) (l : List (Nat × Operand)) : List (Nat × Nat × Operand) := l.map fun p => (p.1 * s, s, p.2)
def isNilC : Nat → Operand → Bool
  | 0, .const (.pointer none) => true
  | 1, .const (.slice none 0 0) => true
  | 2, .const (.map none) => true
  | _, _ => false
def zeroC : Operand → Bool
  | .const (.int _ 0) => true
  | _ => false

/-- An operation without what its run does not look at. -/
def bareOf (o : Oper) : Oper := ⟨none, o.op, o.type, "", #[], none⟩
theorem execOp_bare (ρ : Operand → Value) (o : Oper) : execOp ρ (bareOf o) = execOp ρ o := by
  obtain ⟨dst, op, type, pos, after, guard⟩ := o
  cases op <;> rfl
def prepBin (o : Oper) (op : BinOp) (t : TypeId) (x y : Operand) : Option AOp :=
  match P.underlying t with
  | some (.int _) => match op with
    | .and | .or | .xor | .andNot | .shl | .shr => some (.gen (bareOf o))
    | _ => some (.int op x y)
  | some .bool => match op with
    | .eql => some (.beq false x y)
    | .neq => some (.beq true x y)
    | _ => none
  | some (.pointer _) => if isNilC 0 y then (match op with | .eql => some (.isNil 0 false x) | .neq => some (.isNil 0 true x) | _ => none) else none
  | some (.slice _) => if isNilC 1 y then (match op with | .eql => some (.isNil 1 false x) | .neq => some (.isNil 1 true x) | _ => none) else none
  | some (.map _ _) => if isNilC 2 y then (match op with | .eql => some (.isNil 2 false x) | .neq => some (.isNil 2 true x) | _ => none) else none
  | some _ => some (.gen (bareOf o))
  | none => none
def prepOp (o : Oper) : Option AOp :=
  match o.op with
  | .move x | .assign x => some (.mv x)
  | .pick c a b => some (.pick c a b)
  | .extract t ix => some (.ext t ix)
  | .field t x f => match P.underlying t with
    | some (.struct fs) => match fs[f]? with
      | some fd => (shapeOf P fd.type).map fun p => .field x p.1 fd.offset p.2
      | none => none
    | _ => none
  | .index t x i => match P.underlying t with
    | some (.array cnt el) => (shapeOf P el).map fun p => .index x i cnt p.1 p.2
    | _ => some (.gen (bareOf o))
  | .build t parts => match P.underlying t, zeroOf P t with
    | some (.struct fs), some z => if z.all atom then (placesOf P fs.toList).bind fun ps => (partsP ps parts.toList).map fun l => .build z l else none
    | some (.array _ el), some z => if z.all atom then (szOf P el).map fun s => .build z (partsA s parts.toList) else none
    | _, _ => none
  | .binOp op t x y _ => prepBin P o op t x y
  | .unOp .not _ x => some (.not x)
  | .convert src dst x => match P.underlying src, P.underlying dst with
    | some (.int _), some (.int k) => some (.conv k x)
    | _, _ => some (.gen (bareOf o))
  | .makeFunc fn first captured => some (.mkfun fn first.toList captured.toList)
  | .makeInterface t x => match P.underlying t with
    | some (.interface _) => none
    | some _ => some (.mkface t x)
    | none => none
  | .slice t x lo hi mx => match P.underlying t with
    | some (.slice el) => match mx with
      | none => (szOf P el).map fun s => .slice x lo hi s
      | some m => match hi, lo with
        | some h, none => if zeroC h && zeroC m && (szOf P el).isSome then some (.slice0 x) else none
        | _, _ => none
    | _ => some (.gen (bareOf o))
  | .fieldAddr s x f => match P.underlying s with
    | some (.struct fs) => match fs[f]? with
      | some fd => match szOf P fd.type with
        | some (n + 1) => some (.faddr x fd.offset)
        | _ => none
      | none => none
    | _ => none
  | .indexAddr t x i => match P.underlying t with
    | some (.slice el) => (szOf P el).map fun s => .iaddr x i s
    | some (.array cnt el) => (szOf P el).map fun s => .aaddr x i cnt s
    | _ => none
  | .load t x => (shapeOf P t).map fun p => .load x (if p.1 then some p.2 else none)
  | .store t p v => (szOf P t).map fun s => .store p v s
  | .alloc el => (zeroOf P el).bind fun z => if z.all atom then some (.alloc z el) else none
  | .box el x => if (szOf P el).isSome then some (.box x el) else none
  | .buildSlice t n parts => match P.underlying t with
    | some (.slice el) => match szOf P el, zeroOf P el with
      | some s, some z => if z.all atom && z.length == s && decide (n * s ≤ 16777216) then some (.bslice el n s z (partsA s parts.toList)) else none
      | _, _ => none
    | _ => none
  | .nilCheck x => some (.nilChk x)
  | .call ⟨.value f, args, _⟩ => some (.call f args.toList)
  | .call ⟨.builtin .len, args, ts⟩ => match args.toList, ts.toList with
    | [x], [t] => match P.underlying t with
      | some (.slice _) => some (.len false x)
      | some .string => some (.len true x)
      | _ => none
    | _, _ => none
  | .call ⟨.builtin .append, args, ts⟩ => match args.toList, ts.toList with
    | [s, x], [t, u] => match P.underlying t with
      | some (.slice el) => match P.info? el, zeroOf P el with
        | some i, some z => if t = u ∧ z.length = i.size ∧ 0 < i.bytes then some (.append s x el i.size i.bytes) else none
        | _, _ => none
      | _ => none
    | _, _ => none
  | .call ⟨.builtin .max, args, _⟩ => match args.toList with
    | [x, y] => if o.type = 3 then some (.max2 x y) else some (.gen (bareOf o))
    | _ => some (.gen (bareOf o))
  | .call ⟨.builtin .min, args, _⟩ => match args.toList with
    | [x, y] => if o.type = 3 then some (.min2 x y) else some (.gen (bareOf o))
    | _ => some (.gen (bareOf o))
  | .makeMap t none => if (szOf P t).isSome then some (.mop (.make t)) else none
  | .lookup t x i c => match P.underlying t with
    | some (.map k el) => match P.underlying k, zeroOf P el, (P.info? el).bind (·.zero) with
      | some (.int _), some [z], some z' => if atom z && one z' then some (.mop (.get x i z c)) else none
      | _, _, _ => none
    | _ => none
  | .mapUpdate t m k v | .insert t m k v => match P.underlying t with
    | some (.map kt _) => match P.underlying kt with
      | some (.int _) => some (.mop (.set m k v))
      | _ => none
    | _ => none
  | .select .. | .go _ | .defer _ | .send .. | .recv .. | .panic _ => none
  | _ => some (.gen (bareOf o))
end

structure ER (σ : Sig) (nt : Nat) (e : Env) (a : Act) : Prop where
  size : a.tmps.size = nt
  defers : a.defers = []
  get : ∀ t, VR σ (eget e t) (a.tmps.getD t undef)

theorem ev_rel {σ : Sig} {nt : Nat} {e : Env} {a : Act} (h : ER σ nt e a) (x : Operand) : VR σ (ev e x) (a.eval x) := by
  cases x with
  | tmp t => exact h.get t
  | const v =>
    simp only [ev, Act.eval]
    split
    · rename_i hg
      exact VR.of_ground hg
    · exact .poison _
  | global g => exact .poison _
  | func f => exact .func _ _ _ _ _ .nil .nil

theorem pureRun_sound {α : Type} {P : Program} : ∀ {s : Sem α} {a : α}, pureRun P s = some a → ∀ w, s.run P w = .ok a w := by
  intro s
  induction s with
  | pure a => intro b h w; simp [pureRun] at h; subst h; rfl
  | program k ih => intro b h w; simp only [pureRun] at h; simp only [Sem.run]; exact ih _ h w
  | mark m k ih => intro b h w; simp only [pureRun] at h; simp only [Sem.run]; exact ih h w
  | _ => intro b h; simp [pureRun] at h

/-! Inversions. -/
section
variable {σ : Sig} {v' : Value}
theorem VR.int_inv {k : IntKind} {n : Int} (h : VR σ (.int k n) v') : v' = .int k n := by cases h; rfl
theorem VR.bool_inv {b : Bool} (h : VR σ (.bool b) v') : v' = .bool b := by cases h; rfl
theorem VR.string_inv {s : ByteArray} (h : VR σ (.string s) v') : v' = .string s := by cases h; rfl
theorem VR.ptr_inv {i o : Nat} (h : VR σ (.pointer (some ⟨i, o, none⟩)) v') : ∃ l, σ i = some l ∧ v' = .pointer (some ⟨l.b, l.f + o, none⟩) := by
  cases h with | ptr _ _ l hl => exact ⟨l, hl, rfl⟩
theorem VR.slice_inv {i o n c : Nat} (h : VR σ (.slice (some ⟨i, o, none⟩) n c) v') : ∃ l f' c', σ i = some l ∧ v' = .slice (some ⟨l.b, f', none⟩) n c' ∧ (0 < n → f' = l.f + o) ∧ n ≤ c' ∧ c ≤ c' + 1 ∧ (c = 0 → c' = 0) ∧ f' + c' * l.sz ≤ l.tot := by
  cases h with | slice _ _ _ _ f' c' l hl h1 h2 h3 h4 h5 => exact ⟨l, f', c', hl, rfl, h1, h2, h3, h4, h5⟩
theorem VR.agg_inv {cs : Array Value} (h : VR σ (.agg cs) v') : ∃ ds, v' = .agg ds ∧ VRs σ cs.toList ds.toList := by
  cases h with | agg xs xs' hs => exact ⟨_, rfl, hs⟩
theorem VR.tuple_inv {cs : Array Value} (h : VR σ (.tuple cs) v') : ∃ ds, v' = .tuple ds ∧ VRs σ cs.toList ds.toList := by
  cases h with | tuple xs xs' hs => exact ⟨_, rfl, hs⟩
theorem VR.func_inv {fn : Fn} {xs ys : Array Value} (h : VR σ (.func fn xs ys) v') : ∃ xs' ys', v' = .func fn xs' ys' ∧ VRs σ xs.toList xs'.toList ∧ VRs σ ys.toList ys'.toList := by
  cases h with | func _ _ _ _ _ hx hy => exact ⟨_, _, rfl, hx, hy⟩
theorem VR.solid_cells {v : Value} (hs : solid v = true) (h : VR σ v v') : VRs σ v.cells.toList v'.cells.toList := by
  cases h <;> first | (simp [solid] at hs; done) | skip
  case agg xs xs' hh => exact hh
  all_goals (simp only [Value.cells]; refine .cons _ _ _ _ ?_ .nil)
  all_goals first | constructor | skip
  all_goals first | assumption | (intro hh; contradiction) | omega | skip
end
end Lon
