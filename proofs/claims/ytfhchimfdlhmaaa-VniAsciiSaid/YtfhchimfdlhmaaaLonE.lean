/- What is proved here: that operations which look at no memory are sound. Conditions: those that each theorem names, and no others. -/
import Derived.Test.YtfhchimfdlhmaaaLonD
import Derived.Laws.Small
import Derived.Laws.Pointers
import Derived.Laws.Cover3
/-! The operations that look at no memory are sound. -/
set_option linter.unusedSimpArgs false
set_option linter.unusedVariables false
namespace Lon
open Go

theorem run_und {P : Program} {t : TypeId} {d : TypeDesc} (h : P.underlying t = some d) (w : World) : (underlying t).run P w = .ok d w := by
  simp [underlying, h]
theorem run_szOf {P : Program} {t : TypeId} {n : Nat} (h : szOf P t = some n) (w : World) : (Go.sizeOf t).run P w = .ok n w := by
  unfold szOf at h
  cases hi : P.info? t with
  | none => rw [hi] at h; cases h
  | some i => rw [hi] at h; simp at h; simp [Go.sizeOf, typeInfo, hi, h]
theorem run_isAgg {P : Program} {t : TypeId} {d : TypeDesc} (h : P.underlying t = some d) (w : World) : (isAgg t).run P w = .ok (isAggD d) w := by
  simp [isAgg, run_und h]
  cases d <;> rfl
theorem shapeOf_inv {P : Program} {t : TypeId} {p : Bool × Nat} (h : shapeOf P t = some p) : ∃ d, P.underlying t = some d ∧ p.1 = isAggD d ∧ szOf P t = some p.2 := by
  unfold shapeOf at h
  split at h
  · rename_i d n hd hn
    injection h with h
    subst h
    exact ⟨d, hd, rfl, hn⟩
  · cases h
theorem run_part {P : Program} {t : TypeId} {p : Bool × Nat} (h : shapeOf P t = some p) (cs : Array Value) (off : Nat) (v : Value)
    (hv : (if p.1 then some (Value.agg (cs.extract off (off + p.2))) else cs[off]?) = some v) (w : World) : (part t cs off).run P w = .ok v w := by
  obtain ⟨d, hd, h1, h2⟩ := shapeOf_inv h
  unfold part
  simp only [Sem.run_bind, run_isAgg hd, Result.andThen_ok]
  rw [← h1]
  cases hp : p.1 with
  | true =>
    rw [hp] at hv
    simp at hv
    subst hv
    simp [run_szOf h2]
  | false =>
    rw [hp] at hv
    simp at hv
    simp [hv]
theorem extract_list (cs : Array Value) (off n : Nat) : (cs.extract off (off + n)).toList = (cs.toList.drop off).take n := by
  simp [Array.toList_extract, List.extract_eq_take_drop, Nat.add_sub_cancel_left]
theorem VRs.part {σ : Sig} {cs ds : Array Value} (h : VRs σ cs.toList ds.toList) (agg : Bool) (off n : Nat) (v : Value)
    (hv : (if agg then (if off + n ≤ cs.toList.length then some (Value.agg ⟨(cs.toList.drop off).take n⟩) else none) else cs.toList[off]?) = some v) :
    ∃ v', (if agg then some (Value.agg (ds.extract off (off + n))) else ds[off]?) = some v' ∧ VR σ v v' := by
  cases agg with
  | true =>
    simp only [if_true] at hv ⊢
    split at hv
    · injection hv with hv
      subst hv
      refine ⟨_, rfl, ?_⟩
      have := VR.agg _ _ ((h.drop off).take n)
      rw [← extract_list ds] at this
      exact this
    · cases hv
  | false =>
    simp only [Bool.false_eq_true, if_false] at hv ⊢
    obtain ⟨v', h1, h2⟩ := h.get hv
    exact ⟨v', by simpa using h1, h2⟩

/-- What is left of a pure operation: the model's answers the same in every world. -/
def Pure (P : Program) (o : Oper) (a : Act) (v' : Value) : Prop := ∀ w, (execOp a.eval o).run P w = .ok (.value v') w

section
variable {P : Program} {σ : Sig} {nt : Nat} {e : Env} {a : Act} {o : Oper}

theorem sound_gen (her : ER σ nt e a) {v : Value} (h : pureA P e (.gen (bareOf o)) = some v) : ∃ v', Pure P o a v' ∧ VR σ v v' := by
  have hop : (bareOf o).op = o.op := rfl
  simp only [pureA, execOp_bare, hop] at h
  split at h
  · rename_i hall
    have hs : ∀ cs b, o.op ≠ .select cs b := by
      intro cs b hc
      split at h <;> try (cases h; done)
      rename_i v0 hr
      have hr0 := hr
      rw [execOp, hc] at hr
      have h1 := pureRun_sound hr default
      simp only [Sem.run_bind] at h1
      revert h1
      generalize Sem.run P _ _ = r
      cases r with
      | ok x w' => simp [Result.andThen]
      | halt x w' => simp [Result.andThen]
    have he : execOp a.eval o = execOp (ev e) o := by
      refine (execOp_congr o hs fun x hx => ?_).symm
      have hg : ground (ev e x) = true := by
        rw [List.all_eq_true] at hall
        exact hall x (by simpa using hx)
      exact (VR.eq_ground hg (ev_rel her x)).symm
    split at h
    · rename_i v0 hr
      split at h
      · rename_i hg
        injection h with h
        subst h
        exact ⟨v0, fun w => by rw [he]; exact pureRun_sound hr w, VR.of_ground hg⟩
      · cases h
    · cases h
  · cases h

theorem sound_mv (her : ER σ nt e a) {x : Operand} (ho : o.op = .move x ∨ o.op = .assign x) {v : Value} (h : pureA P e (.mv x) = some v) : ∃ v', Pure P o a v' ∧ VR σ v v' := by
  simp only [pureA, Option.some.injEq] at h
  subst h
  refine ⟨a.eval x, fun w => ?_, ev_rel her x⟩
  rcases ho with ho | ho <;> simp [execOp, ho]

theorem sound_pick (her : ER σ nt e a) {c x y : Operand} (ho : o.op = .pick c x y) {v : Value} (h : pureA P e (.pick c x y) = some v) : ∃ v', Pure P o a v' ∧ VR σ v v' := by
  simp only [pureA] at h
  split at h
  · rename_i t hc
    injection h with h
    have hc' := VR.bool_inv (hc ▸ ev_rel her c)
    subst h
    refine ⟨if t then a.eval x else a.eval y, fun w => ?_, ?_⟩
    · simp [execOp, ho, hc', asBool]
    · cases t
      · exact ev_rel her y
      · exact ev_rel her x
  · cases h

theorem sound_ext (her : ER σ nt e a) {t : Operand} {ix : Nat} (ho : o.op = .extract t ix) {v : Value} (h : pureA P e (.ext t ix) = some v) : ∃ v', Pure P o a v' ∧ VR σ v v' := by
  simp only [pureA] at h
  split at h
  · rename_i vs hc
    obtain ⟨ds, hd, hs⟩ := VR.tuple_inv (hc ▸ ev_rel her t)
    obtain ⟨v', h1, h2⟩ := hs.get h
    refine ⟨v', fun w => ?_, h2⟩
    have h3 : ds[ix]? = some v' := by simpa using h1
    simp [execOp, ho, hd, Instr.extract, h3]
  · cases h

theorem sound_field (her : ER σ nt e a) {t : TypeId} {x : Operand} {f : Nat} {fs : Array Field} {fd : Field} {p : Bool × Nat} (ho : o.op = .field t x f)
    (hu : P.underlying t = some (.struct fs)) (hf : fs[f]? = some fd) (hs : shapeOf P fd.type = some p) {v : Value} (h : pureA P e (.field x p.1 fd.offset p.2) = some v) : ∃ v', Pure P o a v' ∧ VR σ v v' := by
  simp only [pureA] at h
  split at h
  · rename_i cs hc
    obtain ⟨ds, hd, hr⟩ := VR.agg_inv (hc ▸ ev_rel her x)
    obtain ⟨v', h1, h2⟩ := hr.part p.1 fd.offset p.2 v h
    refine ⟨v', fun w => ?_, h2⟩
    simp only [execOp, ho, hd, Instr.field, asAgg, Sem.run_bind, run_und hu, Result.andThen_ok, hf, Sem.run_pure, run_part hs ds fd.offset v' h1]
  · cases h

theorem sound_index (her : ER σ nt e a) {t el : TypeId} {x i : Operand} {cnt : Nat} {p : Bool × Nat} (ho : o.op = .index t x i)
    (hu : P.underlying t = some (.array cnt el)) (hs : shapeOf P el = some p) {v : Value} (h : pureA P e (.index x i cnt p.1 p.2) = some v) : ∃ v', Pure P o a v' ∧ VR σ v v' := by
  simp only [pureA] at h
  split at h
  · rename_i cs k n hc hi
    split at h
    · rename_i hb
      obtain ⟨ds, hd, hr⟩ := VR.agg_inv (hc ▸ ev_rel her x)
      have hi' := VR.int_inv (hi ▸ ev_rel her i)
      obtain ⟨v', h1, h2⟩ := hr.part p.1 (n.toNat * p.2) p.2 v h
      refine ⟨v', fun w => ?_, h2⟩
      obtain ⟨d, _, _, hsz⟩ := shapeOf_inv hs
      simp only [execOp, ho, hd, hi', Instr.index, asIntOf, Sem.run_bind, run_und hu, Result.andThen_ok, Sem.run_pure]
      rw [if_pos hb]
      simp only [Sem.run_bind, run_szOf hsz, Result.andThen_ok, run_part hs ds (n.toNat * p.2) v' h1]
    · cases h
  · cases h

theorem sound_int (her : ER σ nt e a) {op : BinOp} {t u : TypeId} {x y : Operand} (ho : o.op = .binOp op t x y u) {v : Value} (h : pureA P e (.int op x y) = some v) (hop : op ≠ .and ∧ op ≠ .or ∧ op ≠ .xor ∧ op ≠ .andNot ∧ op ≠ .shl ∧ op ≠ .shr) : ∃ v', Pure P o a v' ∧ VR σ v v' := by
  simp only [pureA] at h
  split at h
  · rename_i k n k' m hx hy
    split at h
    · rename_i hk
      subst hk
      have hx' := VR.int_inv (hx ▸ ev_rel her x)
      have hy' := VR.int_inv (hy ▸ ev_rel her y)
      obtain ⟨h1, h2, h3, h4, h5, h6⟩ := hop
      refine ⟨v, fun w => ?_, ?_⟩
      · cases op <;> simp only [intOp] at h <;> first | contradiction | skip
        all_goals first
          | (injection h with h; subst h; simp [execOp, ho, hx', hy', eqGuard, binOp, Op.intArith, Op.intCmp])
          | (split at h; · cases h
             · rename_i hm
               injection h with h; subst h; simp [execOp, ho, hx', hy', eqGuard, binOp, Op.intDiv, hm])
      · cases op <;> simp only [intOp] at h <;> first | contradiction | skip
        all_goals first
          | (injection h with h; subst h; constructor)
          | (split at h; · cases h
             · injection h with h; subst h; constructor)
    · cases h
  · cases h

theorem sound_beq (her : ER σ nt e a) {neq : Bool} {t u : TypeId} {x y : Operand} (ho : o.op = .binOp (if neq then .neq else .eql) t x y u) (hu : P.underlying t = some .bool) {v : Value} (h : pureA P e (.beq neq x y) = some v) : ∃ v', Pure P o a v' ∧ VR σ v v' := by
  simp only [pureA] at h
  split at h
  · rename_i b c hx hy
    injection h with h
    subst h
    have hx' := VR.bool_inv (hx ▸ ev_rel her x)
    have hy' := VR.bool_inv (hy ▸ ev_rel her y)
    refine ⟨_, fun w => ?_, .bool _⟩
    cases neq with
    | false => simp only [Bool.false_eq_true, if_false] at ho ⊢; simp only [execOp, ho, hx', hy', eqGuard, Sem.run_bind, Sem.run_ite, Sem.run_pure, ite_self, Result.andThen_ok, run_eql_bool w t b c hu]
    | true => simp only [if_true] at ho ⊢; simp only [execOp, ho, hx', hy', eqGuard, Sem.run_bind, Sem.run_ite, Sem.run_pure, ite_self, Result.andThen_ok, run_neq_bool w t b c hu]
  · cases h

theorem sound_not (her : ER σ nt e a) {t : TypeId} {x : Operand} (ho : o.op = .unOp .not t x) {v : Value} (h : pureA P e (.not x) = some v) : ∃ v', Pure P o a v' ∧ VR σ v v' := by
  simp only [pureA] at h
  split at h
  · rename_i b hx
    injection h with h
    subst h
    have hx' := VR.bool_inv (hx ▸ ev_rel her x)
    exact ⟨_, fun w => by simp [execOp, ho, hx', Op.unary], .bool _⟩
  · cases h

theorem sound_conv (her : ER σ nt e a) {s d : TypeId} {k0 k : IntKind} {x : Operand} (ho : o.op = .convert s d x) (hs : P.underlying s = some (.int k0)) (hd : P.underlying d = some (.int k)) {v : Value} (h : pureA P e (.conv k x) = some v) : ∃ v', Pure P o a v' ∧ VR σ v v' := by
  simp only [pureA] at h
  split at h
  · rename_i k1 n hx
    injection h with h
    subst h
    have hx' := VR.int_inv (hx ▸ ev_rel her x)
    exact ⟨_, fun w => by simp [execOp, ho, hx', convert, run_und hs, run_und hd, Conv.intToInt], .int _ _⟩
  · cases h
end
end Lon
