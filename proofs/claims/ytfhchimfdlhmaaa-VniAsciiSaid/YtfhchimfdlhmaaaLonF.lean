/- What is proved here: that operations which look at no memory are sound, second part. Conditions: those that each theorem names, and no others. -/
import Derived.Test.YtfhchimfdlhmaaaLonE
/-! The operations that look at no memory are sound, second part. -/
set_option linter.unusedSimpArgs false
set_option linter.unusedVariables false
namespace Lon
open Go

theorem add_addr (b f n : Nat) : (⟨b, f, none⟩ : Addr).add n = ⟨b, f + n, none⟩ := by unfold Addr.add; split <;> simp_all
theorem VRs.map {σ : Sig} {nt : Nat} {e : Env} {a : Act} (her : ER σ nt e a) : ∀ xs : List Operand, VRs σ (xs.map (ev e)) (xs.map a.eval)
  | [] => .nil
  | x :: xs => .cons _ _ _ _ (ev_rel her x) (VRs.map her xs)

/-! fill and lay -/
theorem foldl_set (vs : List Value) : ∀ (j off : Nat) (cs : Array Value), off + j + vs.length ≤ cs.size →
    ((vs.zipIdx j).foldl (fun cs (p : Value × Nat) => cs.setIfInBounds (off + p.2) p.1) cs).toList = cs.toList.take (off + j) ++ vs ++ cs.toList.drop (off + j + vs.length) := by
  induction vs with
  | nil => intro j off cs _; simp
  | cons v vs ih =>
    intro j off cs h
    simp only [List.zipIdx_cons, List.foldl_cons]
    rw [ih (j + 1) off _ (by simpa [Nat.add_assoc, Nat.add_comm 1] using h)]
    simp only [List.length_cons] at h
    have hlen : (cs.setIfInBounds (off + j) v).toList = cs.toList.set (off + j) v := by simp
    rw [hlen]
    have hlt : off + j < cs.toList.length := by simp; omega
    rw [List.set_eq_take_append_cons_drop, if_pos hlt]
    have h1 : (List.take (off + j) cs.toList).length = off + j := by simp; omega
    have e1 : off + (j + 1) = (off + j) + 1 := by omega
    have e2 : off + (j + 1) + vs.length = (off + j) + (1 + vs.length) := by omega
    rw [e2, e1]
    have t1 := List.take_length_add_append (l₁ := List.take (off + j) cs.toList) (l₂ := v :: List.drop (off + j + 1) cs.toList) 1
    have t2 := List.drop_length_add_append (l₁ := List.take (off + j) cs.toList) (l₂ := v :: List.drop (off + j + 1) cs.toList) (1 + vs.length)
    rw [h1] at t1 t2
    rw [t1, t2, Nat.add_comm 1 vs.length]
    simp only [List.take_succ_cons, List.take_zero, List.drop_succ_cons, List.drop_drop, List.append_assoc, List.cons_append, List.nil_append, List.length_cons]
    congr 4
    omega

theorem lay_length : ∀ (ps : List (Nat × Nat × Value)) (cells : List Value), okParts cells.length ps = true → (lay cells (dropSz ps)).length = cells.length
  | [], cells, _ => rfl
  | (off, sz, v) :: r, cells, h => by
    simp only [okParts, Bool.and_eq_true, beq_iff_eq, decide_eq_true_eq] at h
    obtain ⟨⟨⟨_, h1⟩, h2⟩, h3⟩ := h
    simp only [dropSz, List.map_cons, lay]
    have hl : (cells.take off ++ v.cells.toList ++ cells.drop (off + v.cells.toList.length)).length = cells.length := by simp at h1 ⊢; omega
    have := lay_length r (cells.take off ++ v.cells.toList ++ cells.drop (off + v.cells.toList.length)) (by rw [hl]; exact h3)
    simp only [dropSz] at this
    rw [this, hl]

/-- The parts of a row as the model has them, and as the interpreter has them. -/
inductive PR (σ : Sig) (place : Nat → Option (Nat × Nat)) : List (Nat × Nat × Value) → List (Nat × Value) → Prop
  | nil : PR σ place [] []
  | cons (i off sz : Nat) (v v' : Value) (r : List (Nat × Nat × Value)) (r' : List (Nat × Value)) (hp : place i = some (off, sz)) (hv : VR σ v v') (hr : PR σ place r r') : PR σ place ((off, sz, v) :: r) ((i, v') :: r')
theorem fill_rel {σ : Sig} {place : Nat → Option (Nat × Nat)} : ∀ {ps : List (Nat × Nat × Value)} {ps' : List (Nat × Value)}, PR σ place ps ps' →
    ∀ {cells : List Value} {cs : Array Value}, VRs σ cells cs.toList → okParts cells.length ps = true →
    ∃ ds, Instr.fill place cs ps' = some ds ∧ VRs σ (lay cells (dropSz ps)) ds.toList
  | _, _, .nil, cells, cs, hc, _ => ⟨cs, rfl, hc⟩
  | _, _, .cons i off sz v v' r r' hp hv hr, cells, cs, hc, hok => by
    simp only [okParts, Bool.and_eq_true, beq_iff_eq, decide_eq_true_eq] at hok
    obtain ⟨⟨⟨hs, h1⟩, h2⟩, h3⟩ := hok
    have hsolid : solid v = true := by cases v <;> first | rfl | simp at hs
    have hvc := VR.solid_cells hsolid hv
    have hlen := hvc.length
    have hcl := hc.length
    have hsz : v'.cells.size = sz := by have := hlen; simp only [Array.length_toList] at this h1; omega
    have hcs : cs.size = cells.length := by have := hcl; simpa using this
    simp only [Instr.fill, hp]
    rw [if_neg (by rw [hsz, hcs]; simp; omega)]
    have hf := foldl_set v'.cells.toList 0 off cs (by simp [hsz, hcs]; omega)
    have hz : v'.cells.zipIdx.foldl (fun cs (p : Value × Nat) => cs.setIfInBounds (off + p.2) p.1) cs = (v'.cells.toList.zipIdx 0).foldl (fun cs (p : Value × Nat) => cs.setIfInBounds (off + p.2) p.1) cs := by
      rw [← Array.foldl_toList]
      simp
    simp only [Nat.add_zero] at hf
    have hnew : VRs σ (cells.take off ++ v.cells.toList ++ cells.drop (off + v.cells.toList.length)) (v'.cells.zipIdx.foldl (fun cs (p : Value × Nat) => cs.setIfInBounds (off + p.2) p.1) cs).toList := by
      rw [hz, hf, hlen]
      exact ((hc.take off).append hvc).append (hc.drop _)
    have hl : (cells.take off ++ v.cells.toList ++ cells.drop (off + v.cells.toList.length)).length = cells.length := by simp at h1 ⊢; omega
    obtain ⟨ds, hd, hr'⟩ := fill_rel hr hnew (by rw [hl]; exact h3)
    exact ⟨ds, hd, hr'⟩

section
variable {P : Program} {σ : Sig} {nt : Nat} {e : Env} {a : Act} {o : Oper}

theorem sound_isNil0 (her : ER σ nt e a) {neq : Bool} {t u : TypeId} {x y : Operand} (ho : o.op = .binOp (if neq then .neq else .eql) t x y u)
    (hy : isNilC 0 y = true) (hu : P.underlying t = some (.pointer (P.pointee t))) {v : Value} (h : pureA P e (.isNil 0 neq x) = some v) : ∃ v', Pure P o a v' ∧ VR σ v v' := by
  simp only [pureA, Option.map_eq_some_iff] at h
  obtain ⟨b, hb, rfl⟩ := h
  refine ⟨_, fun w => ?_, .bool _⟩
  have hy' : a.eval y = .pointer none := by
    unfold isNilC at hy
    split at hy <;> first | rfl | contradiction
  obtain ⟨p', e1, e2⟩ : ∃ p' , a.eval x = .pointer p' ∧ p'.isNone = b := by
    have hx := ev_rel her x
    revert hx hb
    generalize a.eval x = ax
    generalize ev e x = vx
    intro hb hx
    cases hx <;> simp [isNilV] at hb <;> subst hb <;> exact ⟨_, rfl, rfl⟩
  cases neq with
  | false => simp only [Bool.false_eq_true, if_false] at ho ⊢; simp only [execOp, ho, e1, hy', eqGuard, Sem.run_bind, Sem.run_ite, Sem.run_pure, ite_self, Result.andThen_ok, run_eql_pointer_nil w t p' hu, e2]
  | true => simp only [if_true] at ho ⊢; simp only [execOp, ho, e1, hy', eqGuard, Sem.run_bind, Sem.run_ite, Sem.run_pure, ite_self, Result.andThen_ok, run_neq_pointer_nil w t p' hu, e2]

theorem sound_isNil1 (her : ER σ nt e a) {neq : Bool} {t u : TypeId} {x y : Operand} (ho : o.op = .binOp (if neq then .neq else .eql) t x y u)
    (hy : isNilC 1 y = true) {el : TypeId} (hu : P.underlying t = some (.slice el)) {v : Value} (h : pureA P e (.isNil 1 neq x) = some v) : ∃ v', Pure P o a v' ∧ VR σ v v' := by
  simp only [pureA, Option.map_eq_some_iff] at h
  obtain ⟨b, hb, rfl⟩ := h
  refine ⟨_, fun w => ?_, .bool _⟩
  have hy' : a.eval y = .slice none 0 0 := by
    unfold isNilC at hy
    split at hy <;> first | rfl | contradiction
  obtain ⟨p', n', c', e1, e2⟩ : ∃ p' n' c' , a.eval x = .slice p' n' c' ∧ p'.isNone = b := by
    have hx := ev_rel her x
    revert hx hb
    generalize a.eval x = ax
    generalize ev e x = vx
    intro hb hx
    cases hx <;> simp [isNilV] at hb <;> subst hb <;> exact ⟨_, _, _, rfl, rfl⟩
  cases neq with
  | false => simp only [Bool.false_eq_true, if_false] at ho ⊢; simp only [execOp, ho, e1, hy', eqGuard, Sem.run_bind, Sem.run_ite, Sem.run_pure, ite_self, Result.andThen_ok, binOp, run_equal_slice_nil w t el p' n' c' hu, e2]
  | true => simp only [if_true] at ho ⊢; simp only [execOp, ho, e1, hy', eqGuard, Sem.run_bind, Sem.run_ite, Sem.run_pure, ite_self, Result.andThen_ok, binOp, run_equal_slice_nil w t el p' n' c' hu, e2]

theorem sound_isNil2 (her : ER σ nt e a) {neq : Bool} {t u : TypeId} {x y : Operand} (ho : o.op = .binOp (if neq then .neq else .eql) t x y u)
    (hy : isNilC 2 y = true) {ky el : TypeId} (hu : P.underlying t = some (.map ky el)) {v : Value} (h : pureA P e (.isNil 2 neq x) = some v) : ∃ v', Pure P o a v' ∧ VR σ v v' := by
  simp only [pureA, Option.map_eq_some_iff] at h
  obtain ⟨b, hb, rfl⟩ := h
  refine ⟨_, fun w => ?_, .bool _⟩
  have hy' : a.eval y = .map none := by
    unfold isNilC at hy
    split at hy <;> first | rfl | contradiction
  obtain ⟨p', e1, e2⟩ : ∃ p' , a.eval x = .map p' ∧ p'.isNone = b := by
    have hx := ev_rel her x
    revert hx hb
    generalize a.eval x = ax
    generalize ev e x = vx
    intro hb hx
    cases hx <;> simp [isNilV] at hb <;> subst hb <;> exact ⟨_, rfl, rfl⟩
  cases neq with
  | false => simp only [Bool.false_eq_true, if_false] at ho ⊢; simp only [execOp, ho, e1, hy', eqGuard, Sem.run_bind, Sem.run_ite, Sem.run_pure, ite_self, Result.andThen_ok, binOp, run_equal_map_nil w t ky el p' hu, e2]
  | true => simp only [if_true] at ho ⊢; simp only [execOp, ho, e1, hy', eqGuard, Sem.run_bind, Sem.run_ite, Sem.run_pure, ite_self, Result.andThen_ok, binOp, run_equal_map_nil w t ky el p' hu, e2]

theorem sound_faddr (her : ER σ nt e a) {s : TypeId} {x : Operand} {f n : Nat} {fs : Array Field} {fd : Field} (ho : o.op = .fieldAddr s x f)
    (hu : P.underlying s = some (.struct fs)) (hf : fs[f]? = some fd) (hs : szOf P fd.type = some (n + 1)) {v : Value} (h : pureA P e (.faddr x fd.offset) = some v) : ∃ v', Pure P o a v' ∧ VR σ v v' := by
  simp only [pureA] at h
  split at h
  · rename_i i off hx
    injection h with h
    subst h
    obtain ⟨l, hl, hx'⟩ := VR.ptr_inv (hx ▸ ev_rel her x)
    refine ⟨.pointer (some ⟨l.b, l.f + (off + fd.offset), none⟩), fun w => ?_, .ptr _ _ _ hl⟩
    simp only [execOp, ho, hx', Instr.fieldAt, Sem.run_bind, run_und hu, Result.andThen_ok, hf, Instr.sureAddr, Sem.run_pure, fieldPlace, run_szOf hs]
    simp [add_addr, Nat.add_assoc]
  · cases h

theorem sound_iaddr (her : ER σ nt e a) {t el : TypeId} {x i : Operand} {n : Nat} (ho : o.op = .indexAddr t x i)
    (hu : P.underlying t = some (.slice el)) (hs : szOf P el = some n) {v : Value} (h : pureA P e (.iaddr x i n) = some v) : ∃ v', Pure P o a v' ∧ VR σ v v' := by
  simp only [pureA] at h
  split at h
  · rename_i b off m c k j hx hi
    split at h
    · rename_i hb
      injection h with h
      subst h
      obtain ⟨l, f', c', hl, hx', hf', _⟩ := VR.slice_inv (hx ▸ ev_rel her x)
      have hi' := VR.int_inv (hi ▸ ev_rel her i)
      refine ⟨.pointer (some ⟨l.b, l.f + (off + j.toNat * n), none⟩), fun w => ?_, .ptr _ _ _ hl⟩
      simp only [execOp, ho, hx', hi', Instr.indexAt, asIntOf, Sem.run_bind, run_und hu, Result.andThen_ok, Sem.run_pure]
      rw [if_pos hb]
      simp only [Sem.run_bind, run_szOf hs, Result.andThen_ok, Sem.run_pure, add_addr, hf' (by omega), Nat.add_assoc]
    · cases h
  · cases h

theorem sound_aaddr (her : ER σ nt e a) {t el : TypeId} {x i : Operand} {cnt n : Nat} (ho : o.op = .indexAddr t x i)
    (hu : P.underlying t = some (.array cnt el)) (hs : szOf P el = some n) {v : Value} (h : pureA P e (.aaddr x i cnt n) = some v) : ∃ v', Pure P o a v' ∧ VR σ v v' := by
  simp only [pureA] at h
  split at h
  · rename_i b off k j hx hi
    split at h
    · rename_i hb
      injection h with h
      subst h
      obtain ⟨l, hl, hx'⟩ := VR.ptr_inv (hx ▸ ev_rel her x)
      have hi' := VR.int_inv (hi ▸ ev_rel her i)
      refine ⟨.pointer (some ⟨l.b, l.f + (off + j.toNat * n), none⟩), fun w => ?_, .ptr _ _ _ hl⟩
      simp only [execOp, ho, hx', hi', Instr.indexAt, asIntOf, Sem.run_bind, run_und hu, Result.andThen_ok, Sem.run_pure, Instr.sureAddr]
      rw [if_pos hb]
      simp only [Sem.run_bind, run_szOf hs, Result.andThen_ok, Sem.run_pure, add_addr, Nat.add_assoc]
    · cases h
  · cases h

theorem sound_nilChk (her : ER σ nt e a) {x : Operand} (ho : o.op = .nilCheck x) {v : Value} (h : pureA P e (.nilChk x) = some v) : ∃ v', Pure P o a v' ∧ VR σ v v' := by
  simp only [pureA] at h
  split at h
  · rename_i i off hx
    injection h with h
    subst h
    obtain ⟨l, hl, hx'⟩ := VR.ptr_inv (hx ▸ ev_rel her x)
    refine ⟨_, fun w => ?_, .ptr _ _ _ hl⟩
    simp only [execOp, ho, hx', Sem.run_pure]
  · cases h

theorem sound_mkfun (her : ER σ nt e a) {fn : Fn} {first captured : Array Operand} (ho : o.op = .makeFunc fn first captured) {v : Value} (h : pureA P e (.mkfun fn first.toList captured.toList) = some v) : ∃ v', Pure P o a v' ∧ VR σ v v' := by
  obtain ⟨first⟩ := first
  obtain ⟨captured⟩ := captured
  simp only [pureA, Option.some.injEq] at h
  subst h
  refine ⟨_, fun w => ?_, .func fn _ _ _ _ (VRs.map her first) (VRs.map her captured)⟩
  simp [execOp, ho, Instr.makeFunc]

theorem sound_mkface (her : ER σ nt e a) {t : TypeId} {x : Operand} {d : TypeDesc} (ho : o.op = .makeInterface t x) (hu : P.underlying t = some d) (hd : ∀ ms, d ≠ .interface ms) {v : Value} (h : pureA P e (.mkface t x) = some v) : ∃ v', Pure P o a v' ∧ VR σ v v' := by
  simp only [pureA, Option.some.injEq] at h
  subst h
  refine ⟨_, fun w => ?_, .iface t _ _ (ev_rel her x)⟩
  simp only [execOp, ho, Instr.makeInterface, Sem.run_bind, run_und hu, Result.andThen_ok]
  cases d <;> first | rfl | exact absurd rfl (hd _)

theorem sound_len (her : ER σ nt e a) {x : Operand} {t el : TypeId} {args : Array Operand} {ts : Array TypeId} (ho : o.op = .call ⟨.builtin .len, args, ts⟩) (ha : args.toList = [x]) (ht : ts.toList = [t])
    (hu : P.underlying t = some (.slice el)) {v : Value} (h : pureA P e (.len false x) = some v) : ∃ v', Pure P o a v' ∧ VR σ v v' := by
  obtain ⟨args⟩ := args
  obtain ⟨ts⟩ := ts
  simp only at ha ht
  subst ha ht
  simp only [pureA] at h
  split at h
  · rename_i s n c _ hx
    injection h with h
    subst h
    obtain ⟨s', c', e1⟩ : ∃ s' c', a.eval x = .slice s' n c' := by
      have hr := hx ▸ ev_rel her x
      revert hr
      generalize a.eval x = ax
      intro hr
      cases hr <;> exact ⟨_, _, rfl⟩
    refine ⟨_, fun w => ?_, .int _ _⟩
    simp [execOp, ho, resolve, invoke, builtin, Builtin.len_, e1, run_und hu, goInt]
  · rename_i heq _
    cases heq
  · cases h
theorem sound_lenS (her : ER σ nt e a) {x : Operand} {t : TypeId} {args : Array Operand} {ts : Array TypeId} (ho : o.op = .call ⟨.builtin .len, args, ts⟩) (ha : args.toList = [x]) (ht : ts.toList = [t])
    (hu : P.underlying t = some .string) {v : Value} (h : pureA P e (.len true x) = some v) : ∃ v', Pure P o a v' ∧ VR σ v v' := by
  obtain ⟨args⟩ := args
  obtain ⟨ts⟩ := ts
  simp only at ha ht
  subst ha ht
  simp only [pureA] at h
  split at h
  · rename_i heq _
    cases heq
  · rename_i s _ hx
    injection h with h
    subst h
    have hx' := VR.string_inv (hx ▸ ev_rel her x)
    refine ⟨_, fun w => ?_, .int _ _⟩
    simp [execOp, ho, resolve, invoke, builtin, Builtin.len_, hx', run_und hu, goInt]
  · cases h

theorem sound_max2 (her : ER σ nt e a) {x y : Operand} {args : Array Operand} {ts : Array TypeId} (ho : o.op = .call ⟨.builtin .max, args, ts⟩) (ha : args.toList = [x, y]) {v : Value} (h : pureA P e (.max2 x y) = some v) : ∃ v', Pure P o a v' ∧ VR σ v v' := by
  obtain ⟨args⟩ := args
  simp only at ha
  subst ha
  simp only [pureA] at h
  split at h
  · rename_i k n k' m hx hy
    injection h with h
    subst h
    have hx' := VR.int_inv (hx ▸ ev_rel her x)
    have hy' := VR.int_inv (hy ▸ ev_rel her y)
    refine ⟨_, fun w => ?_, .int _ _⟩
    simp [execOp, ho, resolve, invoke, builtin, Builtin.max_, Builtin.max2, hx', hy']
  · cases h
theorem sound_min2 (her : ER σ nt e a) {x y : Operand} {args : Array Operand} {ts : Array TypeId} (ho : o.op = .call ⟨.builtin .min, args, ts⟩) (ha : args.toList = [x, y]) {v : Value} (h : pureA P e (.min2 x y) = some v) : ∃ v', Pure P o a v' ∧ VR σ v v' := by
  obtain ⟨args⟩ := args
  simp only at ha
  subst ha
  simp only [pureA] at h
  split at h
  · rename_i k n k' m hx hy
    injection h with h
    subst h
    have hx' := VR.int_inv (hx ▸ ev_rel her x)
    have hy' := VR.int_inv (hy ▸ ev_rel her y)
    refine ⟨_, fun w => ?_, .int _ _⟩
    simp [execOp, ho, resolve, invoke, builtin, Builtin.min_, Builtin.min2, hx', hy']
  · cases h
end
end Lon
