/- What is proved here: a part of a statement's proof. Conditions: those that each theorem names, and no others. -/
import Derived.Test.YtfhchimfdlhmaaaLonZb
/-! Regions that draw, in walks with letters. -/
set_option linter.unusedSimpArgs false
set_option linter.unusedVariables false
namespace Lon
open Go

section
variable {P : Program} {Γ : FuncId → Option AFunc} {Ω : CallF} {cf : CallF} {e e' : Env} {H : AHeap}

theorem evParts_congr : ∀ {ps : List (Nat × Nat × Operand)}, (∀ x ∈ ps.map (·.2.2), ev e x = ev e' x) → evParts e ps = evParts e' ps := by
  intro ps h
  unfold evParts
  refine List.map_congr_left fun p hp => ?_
  rw [h _ (List.mem_map.2 ⟨p, hp, rfl⟩)]
theorem bndA_congr {d : Int} {x : Option Operand} (h : ∀ y ∈ x.toList, ev e y = ev e' y) : bndA e d x = bndA e' d x := by
  cases x with
  | none => rfl
  | some x => unfold bndA; simp only [h x (by simp)]
/-- An operation looks at its operands alone. -/
theorem stepA_congr {o : AOp} (h : ∀ x ∈ o.ops, ev e x = ev e' x) : stepA P cf e H o = stepA P cf e' H o := by
  cases o with
  | gen o =>
    have hx : ∀ x ∈ o.op.operands, ev e x = ev e' x := fun x hx => h x (by simpa [AOp.ops] using hx)
    have hall : (o.op.operands.toList.all fun x => ground (ev e x)) = (o.op.operands.toList.all fun x => ground (ev e' x)) := by
      rw [Bool.eq_iff_iff, List.all_eq_true, List.all_eq_true]
      exact ⟨fun hh x hm => by rw [← hx x (by simpa using hm)]; exact hh x hm, fun hh x hm => by rw [hx x (by simpa using hm)]; exact hh x hm⟩
    simp only [stepA, pureA, hall]
    by_cases hs : ∃ cs b, o.op = .select cs b
    · obtain ⟨cs, b, hs⟩ := hs
      have key : ∀ (ρ : Operand → Value) (v : Value), pureRun P (execOp ρ o) ≠ some (.value v) := by
        intro ρ v hr
        rw [execOp, hs] at hr
        have h1 := pureRun_sound hr default
        simp only [Sem.run_bind] at h1
        revert h1
        generalize Sem.run P _ _ = r
        cases r with
        | ok x w' => simp [Result.andThen]
        | halt x w' => simp [Result.andThen]
      congr 1
      split
      · split
        · rename_i v hr; exact absurd hr (key _ _)
        · split
          · rename_i v hr; exact absurd hr (key _ _)
          · rfl
      · rfl
    · rw [execOp_congr o (fun cs b hc => hs ⟨cs, b, hc⟩) hx]
  | mkfun fn a b =>
    simp only [stepA, pureA]
    rw [List.map_congr_left (fun x hx => h x (by simp [AOp.ops, hx])), List.map_congr_left (f := ev e) (g := ev e') (fun x hx => h x (by simp [AOp.ops, hx]))]
  | call f args =>
    rw [st_call, st_call, h f (by simp [AOp.ops]), List.map_congr_left (f := ev e) (g := ev e') (fun x hx => h x (by simp [AOp.ops, hx]))]
  | build z ps => rw [st_build, st_build, evParts_congr (fun x hx => h x (by simpa [AOp.ops] using hx))]
  | bslice el n sz z ps => rw [st_bslice, st_bslice, evParts_congr (fun x hx => h x (by simpa [AOp.ops] using hx))]
  | slice x lo hi sz =>
    simp only [stepA, readA]
    have h1 : ev e x = ev e' x := h x (by simp [AOp.ops])
    have h2 : ∀ d, bndA e d lo = bndA e' d lo := fun d => bndA_congr (fun y hy => h y (by simp [AOp.ops] at hy ⊢; exact Or.inr (Or.inl hy)))
    have h3 : ∀ d, bndA e d hi = bndA e' d hi := fun d => bndA_congr (fun y hy => h y (by simp [AOp.ops] at hy ⊢; exact Or.inr (Or.inr hy)))
    simp only [h1, h2, h3]
  | alloc cells el => rfl
  | mop m =>
    show mapA e H m = mapA e' H m
    cases m with
    | make t => rfl
    | get x i z ok =>
      show mapGet _ _ z ok H = mapGet _ _ z ok H
      rw [h x (by simp [AOp.ops, MapOp.ops]), h i (by simp [AOp.ops, MapOp.ops])]
    | set m k v =>
      show mapSet _ _ _ H = mapSet _ _ _ H
      rw [h m (by simp [AOp.ops, MapOp.ops]), h k (by simp [AOp.ops, MapOp.ops]), h v (by simp [AOp.ops, MapOp.ops])]
  | mv x => rw [st_mv, st_mv, h x (by simp [AOp.ops])]
  | pick c a b => rw [st_pick, st_pick, h c (by simp [AOp.ops]), h a (by simp [AOp.ops]), h b (by simp [AOp.ops])]
  | ext t ix => rw [st_ext, st_ext, h t (by simp [AOp.ops])]
  | field x a o l => rw [st_field, st_field, h x (by simp [AOp.ops])]
  | index x i c a s => rw [st_index, st_index, h x (by simp [AOp.ops]), h i (by simp [AOp.ops])]
  | int op x y => rw [st_int, st_int, h x (by simp [AOp.ops]), h y (by simp [AOp.ops])]
  | beq n x y => rw [st_beq, st_beq, h x (by simp [AOp.ops]), h y (by simp [AOp.ops])]
  | isNil k n x => rw [st_isNil, st_isNil, h x (by simp [AOp.ops])]
  | not x => rw [st_not, st_not, h x (by simp [AOp.ops])]
  | conv k x => rw [st_conv, st_conv, h x (by simp [AOp.ops])]
  | faddr x o => rw [st_faddr, st_faddr, h x (by simp [AOp.ops])]
  | iaddr x i s => rw [st_iaddr, st_iaddr, h x (by simp [AOp.ops]), h i (by simp [AOp.ops])]
  | aaddr x i c s => rw [st_aaddr, st_aaddr, h x (by simp [AOp.ops]), h i (by simp [AOp.ops])]
  | nilChk x => rw [st_nilChk, st_nilChk, h x (by simp [AOp.ops])]
  | mkface t x => rw [st_mkface, st_mkface, h x (by simp [AOp.ops])]
  | len s x => rw [st_len, st_len, h x (by simp [AOp.ops])]
  | max2 x y => rw [st_max, st_max, h x (by simp [AOp.ops]), h y (by simp [AOp.ops])]
  | min2 x y => rw [st_min, st_min, h x (by simp [AOp.ops]), h y (by simp [AOp.ops])]
  | load x k => rw [st_load, st_load, h x (by simp [AOp.ops])]
  | slice0 x => rw [st_slice0, st_slice0, h x (by simp [AOp.ops])]
  | box x el => rw [st_box, st_box, h x (by simp [AOp.ops])]
  | store x v n => rw [st_store, st_store, h x (by simp [AOp.ops]), h v (by simp [AOp.ops])]
  | append s x el sz b => rw [st_append, st_append, h s (by simp [AOp.ops]), h x (by simp [AOp.ops])]
theorem ev_forget {r : ARow} {x : Operand} (hx : x ∈ r.op.ops) : ev (forget (slotsR r) e) x = ev e x := by
  cases x with
  | tmp t =>
    refine eget_forget_mem ?_
    unfold slotsR
    refine List.mem_append_left _ ?_
    rw [List.mem_filterMap]
    exact ⟨.tmp t, hx, rfl⟩
  | _ => rfl
theorem rowV_forget {r : ARow} : rowV P cf r (forget (slotsR r) e) H = rowV P cf r e H := by
  obtain ⟨d, o, g⟩ := r
  have hs : stepA P cf (forget (slotsR ⟨d, o, g⟩) e) H o = stepA P cf e H o := stepA_congr fun x hx => ev_forget (r := ⟨d, o, g⟩) hx
  cases g with
  | none => rw [row_plain, row_plain]; exact hs
  | some g =>
    obtain ⟨t, want⟩ := g
    rw [row_guard, row_guard]
    have ht : eget (forget (slotsR ⟨d, o, some (t, want)⟩) e) t = eget e t := eget_forget_mem (by unfold slotsR; simp)
    rw [ht]
    unfold guarded
    rw [hs]
/-- The stamp of what a load reads. -/
noncomputable def stampB (i : Nat) (b : Option ABlk) : List (Nat × Nat) := match b with
  | some b => [(i, b.ver)]
  | none => []
noncomputable def stampV (v : Value) (H : AHeap) : List (Nat × Nat) := match v with
  | .pointer (some ⟨i, _, none⟩) => stampB i (H.get i)
  | _ => []
noncomputable def stampO (o : AOp) (e : Env) (H : AHeap) : List (Nat × Nat) := match o with
  | .load x _ => stampV (ev e x) H
  | _ => []
theorem stamps_eq {r : ARow} : stamps H (forget (slotsR r) e) r = stampO r.op e H := by
  obtain ⟨d, o, g⟩ := r
  cases o <;> try rfl
  rename_i x k
  have : ev (forget (slotsR ⟨d, .load x k, g⟩) e) x = ev e x := ev_forget (r := ⟨d, .load x k, g⟩) (by simp [AOp.ops])
  simp only [stamps, stampO, this]
  unfold stampV stampB
  split
  · rename_i i o h
    simp only [h]
    cases H.get i <;> rfl
  · rename_i h
    split
    · rename_i i o h2; exact absurd h2 (h i o)
    · rfl
/-- What follows a row of a region that draws. -/
noncomputable def drawGo (b : Bool) (r : Option (Env × AHeap)) : Option (Env × AHeap) := if b = true then r else none
noncomputable def calmC (c : Bool) (H : AHeap) (F : List Nat) : Bool := !c || calm H F
noncomputable def stillC (b : Bool) (H : AHeap) (l : List (Nat × Nat)) : Bool := !b || still H l
noncomputable def onDraw (P : Program) (cf : CallF) (rs : List ARow) (e : Env) (d : Option Nat) (l : List (Nat × Nat)) (F' : List Nat) (c : Bool) (F : List Nat) (s : Bool) (r : Option (Value × AHeap)) : Option (Env × AHeap) := r.bind fun x => drawGo (calmC c x.2 F && s) (drawA P cf rs l F' (eput e d x.1) x.2)
theorem still_no {l : List (Nat × Nat)} : stillC false H l = true := rfl
theorem still_yes {l : List (Nat × Nat)} : stillC true H l = still H l := by simp [stillC]
theorem next_no {l : List (Nat × Nat)} : nextL false l = l := rfl
theorem next_yes {l : List (Nat × Nat)} : nextL true l = [] := rfl
theorem last_cons {r r' : ARow} {rs : List ARow} : lastSt r (r' :: rs) = false := rfl
theorem last_nil {r : ARow} : lastSt r [] = isStore r.op := rfl
theorem w_draw {rows : List ARow} : run P Γ Ω (.draw rows) e H = (drawA P (cw P Γ Ω) rows [] [] e H).map fun x => (.normal, x.1, x.2) := eq_draw
theorem dr_cons {r : ARow} {rs : List ARow} {l : List (Nat × Nat)} {F : List Nat} : drawA P cf (r :: rs) l F e H = onDraw P cf rs e r.dst (nextL (lastSt r rs) (stampO r.op e H ++ l)) (freshI r.op H.n ++ F) (isCall r.op) F (stillC (lastSt r rs) H l) (rowV P cf r e H) := by
  rw [draw_cons, rowV_forget, stamps_eq]; rfl
theorem dr_some {rs : List ARow} {d : Nat} {l : List (Nat × Nat)} {F' F : List Nat} {c s : Bool} {v : Value} {H' : AHeap} : onDraw P cf rs e (some d) l F' c F s (some (v, H')) = drawGo (calmC c H' F && s) (drawA P cf rs l F' ((d, v) :: e) H') := rfl
theorem dr_none {rs : List ARow} {l : List (Nat × Nat)} {F' F : List Nat} {c s : Bool} {v : Value} {H' : AHeap} : onDraw P cf rs e none l F' c F s (some (v, H')) = drawGo (calmC c H' F && s) (drawA P cf rs l F' e H') := rfl
theorem dr_go {r : Option (Env × AHeap)} : drawGo true r = r := rfl
theorem calm_no {F : List Nat} : calmC false H F = true := rfl
theorem calm_nil : calmC true H [] = true := rfl
theorem calm_cons {i : Nat} {F : List Nat} : calmC true H (i :: F) = (calmB (H.get i) && calmC true H F) := by simp [calmC, calm]
theorem calmB_some {cells : List Value} {el : TypeId} : calmB (some ⟨cells, el, .tip, 0, []⟩) = true := rfl
/-- The end of a region that draws. -/
noncomputable def drawEnd (b : Bool) (e : Env) (H : AHeap) : Option (Env × AHeap) := if b = true then some (e, H) else none
theorem dr_nil {l : List (Nat × Nat)} {F : List Nat} : drawA P cf [] l F e H = drawEnd (still H l) e H := rfl
theorem dr_end : drawEnd true e H = some (e, H) := rfl
theorem still_nil : still H [] = true := rfl
/-- Whether a stamp is still the block's. -/
noncomputable def stillB (v : Nat) (b : Option ABlk) : Bool := match b with
  | some b => b.ver == v
  | none => false
theorem still_cons {i v : Nat} {l : List (Nat × Nat)} : still H ((i, v) :: l) = (stillB v (H.get i) && still H l) := rfl
theorem stillB_some {cells : List Value} {el : TypeId} {st : St} {ver : Nat} {anc : List Nat} : stillB ver (some ⟨cells, el, st, ver, anc⟩) = true := by simp [stillB]
theorem stamp_some {i : Nat} {cells : List Value} {el : TypeId} {st : St} {ver : Nat} {anc : List Nat} : stampB i (some ⟨cells, el, st, ver, anc⟩) = [(i, ver)] := rfl
theorem still_here {i : Nat} {l : List (Nat × Nat)} : still H (stampB i (H.get i) ++ l) = still H l := by
  unfold stampB
  cases hg : H.get i with
  | none => rfl
  | some b =>
    simp only [List.cons_append, List.nil_append, still_cons, hg]
    simp [stillB]
theorem still_ext {H1 : AHeap} (hx : Ext H H1) {i : Nat} {l : List (Nat × Nat)} : still H1 (stampB i (H.get i) ++ l) = still H1 l := by
  unfold stampB
  cases hg : H.get i with
  | none => rfl
  | some b =>
    simp only [List.cons_append, List.nil_append, still_cons, hx.get hg]
    simp [stillB]
theorem still_here0 {i : Nat} : still H (stampB i (H.get i)) = true := by
  have := still_here (H := H) (i := i) (l := [])
  rw [List.append_nil] at this
  rw [this, still_nil]
theorem still_ext0 {H1 : AHeap} (hx : Ext H H1) {i : Nat} : still H1 (stampB i (H.get i)) = true := by
  have := still_ext hx (i := i) (l := [])
  rw [List.append_nil] at this
  rw [this, still_nil]
theorem stampV_ptr {i o : Nat} : stampV (.pointer (some ⟨i, o, none⟩)) H = stampB i (H.get i) := rfl
def isLoad : AOp → Bool | .load .. => true | _ => false
theorem stampO_other {o : AOp} (h : isLoad o = false) : stampO o e H = [] := by cases o <;> first | rfl | cases h
theorem stampV_tuple {xs : Array Value} : stampV (.tuple xs) H = [] := rfl
theorem stampO_load {x : Operand} {k : Option Nat} : stampO (.load x k) e H = stampV (ev e x) H := rfl
end
end Lon
