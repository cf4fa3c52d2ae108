/- What is proved here: a part of a statement's proof. Conditions: those that each theorem names, and no others. -/
import Derived.Test.YtfhchimfdlhmaaaLonM
import Derived.MapKept
/-! Maps of whole numbers. -/
set_option linter.unusedSimpArgs false
set_option linter.unusedVariables false
namespace Lon
open Go
section
variable {P : Program} {σ : Sig} {nt base : Nat} {e : Env} {a : Act} {o : Oper} {H H' : AHeap} {w : World}
abbrev flatE (es : List MapEntry) : List Value := es.flatMap fun e => [e.key, e.val]
theorem VRs.nil_inv {vs : List Value} (h : VRs σ vs []) : vs = [] := by cases h; rfl
theorem VRs.two_inv {vs : List Value} {x y : Value} {r : List Value} (h : VRs σ vs (x :: y :: r)) : ∃ a b s, vs = a :: b :: s ∧ VR σ a x ∧ VR σ b y ∧ VRs σ s r := by
  cases h with
  | cons a _ s _ h1 h2 => cases h2 with
    | cons b _ s _ h3 h4 => exact ⟨a, b, s, rfl, h1, h3, h4⟩
theorem find_rel {kd k : IntKind} {n : Int} : ∀ {es : List MapEntry} {cells : List Value} {r : Option Value} (i : Nat), VRs σ cells (flatE es) → findC k n cells = some r →
    (r = none ∧ Instr.findNow (.int kd) (.int k n) es i = some none) ∨ ∃ (j : Nat) (e : MapEntry) (v : Value), r = some v ∧ es[j]? = some e ∧ e.key = .int k n ∧ VR σ v e.val ∧ Instr.findNow (.int kd) (.int k n) es i = some (some (i + j, e.val))
  | [], cells, r, i, h, hf => by
    have := VRs.nil_inv h
    subst this
    simp only [findC] at hf
    injection hf with hf
    exact .inl ⟨hf.symm, rfl⟩
  | e :: es, cells, r, i, h, hf => by
    obtain ⟨c1, c2, cs, rfl, h1, h2, h3⟩ := VRs.two_inv (r := flatE es) (by simpa [flatE] using h)
    unfold findC at hf
    split at hf
    · rename_i heq; cases heq
    · rename_i k' a v r0 heq
      injection heq with e1 e2
      injection e2 with e2 e3
      subst e1 e2 e3
      have hk := VR.int_inv h1
      split at hf
      · rename_i hkk
        subst hkk
        split at hf
        · rename_i hna
          subst hna
          injection hf with hf
          refine .inr ⟨0, e, c2, hf.symm, rfl, hk, h2, ?_⟩
          simp [Instr.findNow, Instr.sameNow, hk]
        · rename_i hna
          have hfn : Instr.findNow (.int kd) (.int k n) (e :: es) i = Instr.findNow (.int kd) (.int k n) es (i + 1) := by
            have : (n == a) = false := by simpa using hna
            simp [Instr.findNow, Instr.sameNow, hk, this]
          rcases find_rel (kd := kd) (i + 1) h3 hf with ⟨q1, q2⟩ | ⟨j, e', v, q1, q2, q3, q4, q5⟩
          · exact .inl ⟨q1, by rw [hfn]; exact q2⟩
          · exact .inr ⟨j + 1, e', v, q1, by simpa using q2, q3, q4, by rw [hfn, q5]; congr 3; omega⟩
      · cases hf
    · cases hf
theorem set_rel {kd k : IntKind} {n : Int} {x x' : Value} (hx : VR σ x x') : ∀ {es : List MapEntry} {cells cs : List Value} (i : Nat), VRs σ cells (flatE es) → setC k n x cells = some cs →
    (Instr.findNow (.int kd) (.int k n) es i = some none ∧ ∀ b, VRs σ cs (flatE (es ++ [{ key := .int k n, val := x', born := b }]))) ∨ ∃ (j : Nat) (e : MapEntry), es[j]? = some e ∧ e.key = .int k n ∧ Instr.findNow (.int kd) (.int k n) es i = some (some (i + j, e.val)) ∧ VRs σ cs (flatE (es.modify j fun e => { e with key := .int k n, val := x' }))
  | [], cells, cs, i, h, hf => by
    have := VRs.nil_inv h
    subst this
    simp only [setC] at hf
    injection hf with hf
    subst hf
    exact .inl ⟨rfl, fun b => .cons _ _ _ _ (.int _ _) (.cons _ _ _ _ hx .nil)⟩
  | e :: es, cells, cs, i, h, hf => by
    obtain ⟨c1, c2, cs0, rfl, h1, h2, h3⟩ := VRs.two_inv (r := flatE es) (by simpa [flatE] using h)
    unfold setC at hf
    split at hf
    · rename_i heq; cases heq
    · rename_i k' a v r0 heq
      injection heq with e1 e2
      injection e2 with e2 e3
      subst e1 e2 e3
      have hk := VR.int_inv h1
      split at hf
      · rename_i hkk
        subst hkk
        split at hf
        · rename_i hna
          subst hna
          injection hf with hf
          subst hf
          refine .inr ⟨0, e, rfl, hk, by simp [Instr.findNow, Instr.sameNow, hk], ?_⟩
          simp only [List.modify_zero_cons, flatE, List.flatMap_cons]
          exact .cons _ _ _ _ (.int _ _) (.cons _ _ _ _ hx h3)
        · rename_i hna
          have hfn : Instr.findNow (.int kd) (.int k n) (e :: es) i = Instr.findNow (.int kd) (.int k n) es (i + 1) := by
            have : (n == a) = false := by simpa using hna
            simp [Instr.findNow, Instr.sameNow, hk, this]
          simp only [Option.map_eq_some_iff] at hf
          obtain ⟨l, hl, rfl⟩ := hf
          rcases set_rel (kd := kd) hx (i + 1) h3 hl with ⟨q1, q2⟩ | ⟨j, e', q2, q3, q5, q6⟩
          · refine .inl ⟨by rw [hfn]; exact q1, fun b => ?_⟩
            simp only [List.cons_append, flatE, List.flatMap_cons]
            exact .cons _ _ _ _ h1 (.cons _ _ _ _ h2 (q2 b))
          · refine .inr ⟨j + 1, e', by simpa using q2, q3, by rw [hfn, q5]; congr 3; omega, ?_⟩
            simp only [List.modify_succ_cons, flatE, List.flatMap_cons]
            exact .cons _ _ _ _ h1 (.cons _ _ _ _ h2 q6)
      · cases hf
    · cases hf
theorem run_checkInt {kt : TypeId} {kd k : IntKind} {n : Int} (hk : P.underlying kt = some (.int kd)) (b : Bool) (m : Nat) : (Instr.checkKey b (m + 1) kt (.int k n)).run P w = .ok () w := by
  unfold Instr.checkKey
  simp only [Sem.run_bind, run_und hk, Result.andThen_ok]
  rfl
theorem run_findInt {kt : TypeId} {d : TypeDesc} {k : Value} {l : List MapEntry} {r : Option (Nat × Value)} (hd : P.underlying kt = some d) (h : Instr.findNow d k l 0 = some r) : (Instr.findKey kt k l).run P w = .ok r w := by
  unfold Instr.findKey
  simp only [Sem.run_bind, run_und hd, Result.andThen_ok, h]
  rfl
theorem run_getMap {r : Nat} {es : Array MapEntry} {clock : Nat} (hb : w.heap[r]? = some (.map es clock)) : (getObj r).run P w = .ok (.map es clock) w := by
  simp [getObj, Sem.run, hb]
theorem run_setMap {r : Nat} {es : Array MapEntry} {clock : Nat} (o : Obj) (hb : w.heap[r]? = some (.map es clock)) : (setObj r o).run P w = .ok () { w with heap := w.heap.setIfInBounds r o } := by
  simp [setObj, Sem.run, hb]
theorem VR.map_inv {i : Nat} {v' : Value} (h : VR σ (.map (some i)) v') : ∃ l, σ i = some l ∧ v' = .map (some l.b) := by
  cases h with | map _ l hl => exact ⟨l, hl, rfl⟩
theorem sound_mget (her : ER σ nt e a) (hh : HR P σ base H w) {t k el : TypeId} {x i : Operand} {c : Bool} {kd : IntKind} {z z' : Value} (ho : o.op = .lookup t x i c) (hu : P.underlying t = some (.map k el)) (hk : P.underlying k = some (.int kd)) (hz : zeroOf P el = some [z]) (hz' : (P.info? el).bind (·.zero) = some z') (ha : atom z = true) (h1 : one z' = true)
    {cf : CallF} {v : Value} (h : stepA P cf e H (.mop (.get x i z c)) = some (v, H')) : StepOK P base σ H w o a v H' := by
  have h : mapGet (ev e x) (ev e i) z c H = some (v, H') := h
  unfold mapGet at h
  split at h
  · rename_i m kk n hx hi
    obtain ⟨l, hl, hx'⟩ := VR.map_inv (hx ▸ ev_rel her x)
    have hi' := VR.int_inv (hi ▸ ev_rel her i)
    split at h
    · rename_i blk hg
      split at h
      · rename_i hst
        simp only [Option.map_eq_some_iff] at h
        obtain ⟨r, hr, he⟩ := h
        injection he with he1 he2
        subst he2
        obtain ⟨es, clock, hw, hc⟩ := hh.map hg hst hl
        obtain ⟨ti, zv, hti, hzv, hze⟩ := zeroOf_inv hz
        have hzz : zv = z' := by rw [hti] at hz'; simp only [Option.bind_some] at hz'; rw [hzv] at hz'; exact Option.some.inj hz'
        subst hzz
        have hzc : zv = z := by
          cases zv <;> simp [one] at h1 <;> simp [Value.cells] at hze <;> exact hze
        subst hzc
        have hzr : (zeroValue el).run P w = .ok zv w := by simp [zeroValue, typeInfo, hti, hzv]
        rcases find_rel (kd := kd) 0 hc hr with ⟨rfl, q2⟩ | ⟨j, e', v0, rfl, q2, q3, q4, q5⟩
        · have hrun : (execOp a.eval o).run P w = .ok (.value (if c then .tuple #[zv, .bool false] else zv)) w := by
            simp only [execOp, ho, hx', hi', Instr.lookup, Sem.run_bind, run_und hu, Result.andThen_ok, run_getMap hw, run_checkInt hk, run_findInt hk q2, hzr, Sem.run_pure]
          refine .value hrun ?_ hh (Fr.refl _ _ _)
          subst he1
          cases c with
          | true => exact .tuple _ _ (.cons _ _ _ _ (VR.of_atom ha) (.cons _ _ _ _ (.bool _) .nil))
          | false => exact VR.of_atom ha
        · have hrun : (execOp a.eval o).run P w = .ok (.value (if c then .tuple #[e'.val, .bool true] else e'.val)) w := by
            simp only [execOp, ho, hx', hi', Instr.lookup, Sem.run_bind, run_und hu, Result.andThen_ok, run_getMap hw, run_checkInt hk, run_findInt hk q5, Sem.run_pure]
          refine .value hrun ?_ hh (Fr.refl _ _ _)
          subst he1
          cases c with
          | true => exact .tuple _ _ (.cons _ _ _ _ q4 (.cons _ _ _ _ (.bool _) .nil))
          | false => exact q4
      · cases h
    · cases h
  · cases h
theorem HR.pushMap (h : HR P σ base H w) (hb : base ≤ w.heap.size) {elem : TypeId} {sz : Nat} (hs : (P.info? elem).map (·.size) = some sz) :
    HR P (ext σ H.n ⟨w.heap.size, 0, 0, sz⟩) base (H.push ⟨[], elem, .map, 0, []⟩) (w.alloc (.map #[] 0)) := by
  have hn : σ H.n = none := h.out _ (Nat.le_refl _)
  have hsub := Sub.ext hn ⟨w.heap.size, 0, 0, sz⟩
  have hold : ∀ j, j ≠ H.n → ext σ H.n ⟨w.heap.size, 0, 0, sz⟩ j = σ j := fun j hj => by simp [ext, hj]
  have hnew : ext σ H.n ⟨w.heap.size, 0, 0, sz⟩ H.n = some ⟨w.heap.size, 0, 0, sz⟩ := by simp [ext]
  have hget : ∀ i, (H.push ⟨[], elem, .map, 0, []⟩).get i = if i = H.n then some ⟨[], elem, .map, 0, []⟩ else H.get i := AHeap.get_push H _
  have two : ∀ {i : Nat} {blk : ABlk} {l : Loc}, (H.push ⟨[], elem, .map, 0, []⟩).get i = some blk → ext σ H.n ⟨w.heap.size, 0, 0, sz⟩ i = some l → (i = H.n ∧ blk = ⟨[], elem, .map, 0, []⟩ ∧ l = ⟨w.heap.size, 0, 0, sz⟩) ∨ (i ≠ H.n ∧ H.get i = some blk ∧ σ i = some l) := fun {i blk l} hg hl => by
    rw [hget] at hg
    by_cases hi : i = H.n
    · subst hi
      rw [if_pos rfl] at hg
      injection hg with hg
      rw [hnew] at hl
      injection hl with hl
      exact .inl ⟨rfl, hg.symm, hl.symm⟩
    · rw [if_neg hi] at hg
      rw [hold i hi] at hl
      exact .inr ⟨hi, hg, hl⟩
  constructor
  · intro i blk l hg hl
    rcases two hg hl with ⟨_, rfl, rfl⟩ | ⟨_, hg, hl⟩
    · exact hs
    · exact h.elem hg hl
  · intro i hi
    simp at hi
    rw [hold i (by omega)]
    exact h.out i (by omega)
  · intro i blk l hg hst hl
    rcases two hg hl with ⟨_, rfl, rfl⟩ | ⟨_, hg, hl⟩
    · simp
    · have := h.lt hg hst hl
      simp; omega
  · intro i blk l hg hst hl k v hk
    rcases two hg hl with ⟨_, rfl, rfl⟩ | ⟨_, hg, hl⟩
    · cases hst
    · obtain ⟨v', h1, h2⟩ := h.cells hg hst hl hk
      exact ⟨v', by rw [World.cell?_alloc_lt _ _ _ (h.lt hg (mem_ne_dead hst) hl)]; exact h1, h2.mono hsub⟩
  · intro i blk l hg hst hl
    rcases two hg hl with ⟨_, rfl, rfl⟩ | ⟨_, hg, hl⟩
    · cases hst
    · exact h.ro hg hst hl
  · intro i blk l hg hst hl
    rcases two hg hl with ⟨_, rfl, rfl⟩ | ⟨_, hg, hl⟩
    · exact hb
    · exact h.own hg hst hl
  · intro i blk l hg hst hl
    rcases two hg hl with ⟨_, rfl, rfl⟩ | ⟨_, hg, hl⟩
    · cases hst
    · obtain ⟨cur, e, h1, h2⟩ := h.row hg hst hl
      exact ⟨cur, e, by rw [heap_alloc_old w _ _ (h.lt hg (mem_ne_dead (row_mem hst)) hl)]; exact h1, h2⟩
  · intro i blk l hg hst hl
    rcases two hg hl with ⟨_, rfl, rfl⟩ | ⟨_, hg, hl⟩
    · cases hst
    · exact h.fits hg hst hl
  · intro i blk l hg hst hl
    rcases two hg hl with ⟨_, rfl, rfl⟩ | ⟨_, hg, hl⟩
    · exact ⟨#[], 0, heap_alloc_new w _, .nil⟩
    · obtain ⟨es, clock, h1, h2⟩ := h.map hg hst hl
      exact ⟨es, clock, by rw [heap_alloc_old w _ _ (h.lt hg (by rw [hst]; intro e; cases e) hl)]; exact h1, h2.mono hsub⟩
  · intro i j bi bj li lj hij hi hj si sj hli hlj hbb
    rcases two hi hli with ⟨rfl, rfl, rfl⟩ | ⟨_, hi, hli⟩
    · rcases two hj hlj with ⟨rfl, rfl, rfl⟩ | ⟨_, hj, hlj⟩
      · exact absurd rfl hij
      · have := h.lt hj (own_ne_dead sj) hlj
        simp at hbb
        omega
    · rcases two hj hlj with ⟨rfl, rfl, rfl⟩ | ⟨_, hj, hlj⟩
      · have := h.lt hi (own_ne_dead si) hli
        simp at hbb
        omega
      · exact h.sep hij hi hj si sj hli hlj hbb
  · intro i j bi bj hi hj si sj hm
    rw [hget] at hi hj
    by_cases h2 : j = H.n
    · subst h2
      rw [if_pos rfl] at hj
      injection hj with hj
      subst hj
      simp at hm
    · rw [if_neg h2] at hj
      have := h.ancLt hj i hm
      rw [if_neg (by omega)] at hi
      exact h.anc hi hj si sj hm
  · intro i j bi bj li lj hi hj si sj hm hli hlj hbb
    rcases two hj hlj with ⟨rfl, rfl, rfl⟩ | ⟨_, hj, hlj⟩
    · simp at hm
    · have hlt := h.ancLt hj i hm
      rcases two hi hli with ⟨rfl, rfl, rfl⟩ | ⟨_, hi, hli⟩
      · omega
      · exact h.ends hi hj si sj hm hli hlj hbb
  · intro j bj hj i hm
    rw [hget] at hj
    by_cases h2 : j = H.n
    · subst h2
      rw [if_pos rfl] at hj
      injection hj with hj
      subst hj
      simp at hm
    · rw [if_neg h2] at hj
      exact h.ancJ hj i hm
theorem sound_mmake (her : ER σ nt e a) (hh : HR P σ base H w) (hb : base ≤ w.heap.size) {t : TypeId} (ho : o.op = .makeMap t none) (hs : (szOf P t).isSome = true)
    {cf : CallF} {v : Value} (h : stepA P cf e H (.mop (.make t)) = some (v, H')) : StepOK P base σ H w o a v H' := by
  have h : some (Value.map (some H.n), H.push ⟨[], t, .map, 0, []⟩) = some (v, H') := h
  injection h with h
  injection h with h1 h2
  subst h1 h2
  obtain ⟨s, hs⟩ := Option.isSome_iff_exists.1 hs
  have hrun : (execOp a.eval o).run P w = .ok (.value (.map (some w.heap.size))) (w.alloc (.map #[] 0)) := by
    simp only [execOp, ho, Instr.makeMap]
    rfl
  refine .value hrun (.map _ ⟨w.heap.size, 0, 0, s⟩ (by simp [ext])) (hh.pushMap hb hs) (Fr.push hh _ _ _ rfl)
theorem HR.aloneM (h : HR P σ base H w) {i : Nat} {b : ABlk} {l : Loc} (hg : H.get i = some b) (ht : b.st = .map) (ha : b.anc = []) (hl : σ i = some l) {j : Nat} {bj : ABlk} {lj : Loc}
    (h2 : H.get j = some bj) (hs : bj.st ≠ .dead) (hlj : σ j = some lj) (hji : j ≠ i) : lj.b ≠ l.b := by
  intro e
  have hbase := h.own hg (by rw [ht]; rfl) hl
  by_cases hro : bj.st = .ro
  · have := h.ro h2 hro hlj
    omega
  · have hown : bj.st.own = true := by cases hh : bj.st <;> first | rfl | exact absurd hh hs | exact absurd hh hro
    rcases h.sep hji h2 hg hown (by rw [ht]; rfl) hlj hl e with h3 | h3
    · rw [ha] at h3; simp at h3
    · have := h.anc hg h2 (by rw [ht]; rfl) hown h3
      rw [ht] at this; cases this
theorem HR.mapped (h : HR P σ base H w) {i : Nat} {b : ABlk} {l : Loc} (hg : H.get i = some b) (ht : b.st = .map) (ha : b.anc = []) (hl : σ i = some l)
    {es es' : Array MapEntry} {clock clock' : Nat} (hw : w.heap[l.b]? = some (.map es clock)) {cells : List Value} (hc : VRs σ cells (flatE es'.toList)) :
    HR P σ base (H.upd i ⟨cells, b.elem, .map, b.ver + 1, []⟩) { w with heap := w.heap.setIfInBounds l.b (.map es' clock') } := by
  have hget : ∀ j, (H.upd i ⟨cells, b.elem, .map, b.ver + 1, []⟩).get j = if j = i then some ⟨cells, b.elem, .map, b.ver + 1, []⟩ else H.get j := AHeap.get_upd hg _
  have hlt : l.b < w.heap.size := (Array.getElem?_eq_some_iff.1 hw).1
  have hnew : ({ w with heap := w.heap.setIfInBounds l.b (.map es' clock') } : World).heap[l.b]? = some (.map es' clock') := by simp [hlt]
  have hother : ∀ k, k ≠ l.b → ({ w with heap := w.heap.setIfInBounds l.b (.map es' clock') } : World).heap[k]? = w.heap[k]? := fun k hk => by simp [Ne.symm hk]
  have hsize : ({ w with heap := w.heap.setIfInBounds l.b (.map es' clock') } : World).heap.size = w.heap.size := by simp
  have hal : ∀ {j bj lj}, H.get j = some bj → bj.st ≠ .dead → σ j = some lj → j ≠ i → lj.b ≠ l.b := fun hj hs hlj hji => h.aloneM hg ht ha hl hj hs hlj hji
  have two : ∀ {j : Nat} {bj : ABlk}, (H.upd i ⟨cells, b.elem, .map, b.ver + 1, []⟩).get j = some bj → (j = i ∧ bj = ⟨cells, b.elem, .map, b.ver + 1, []⟩) ∨ (j ≠ i ∧ H.get j = some bj) := fun {j bj} hj => by
    rw [hget] at hj
    split at hj
    · injection hj with hj; exact .inl ⟨by assumption, hj.symm⟩
    · exact .inr ⟨by assumption, hj⟩
  constructor
  · intro j bj lj hj hlj
    rcases two hj with ⟨rfl, rfl⟩ | ⟨_, hj⟩
    · have := h.elem hg hlj; exact this
    · exact h.elem hj hlj
  · intro j hj
    exact h.out j (by simpa using hj)
  · intro j bj lj hj hs hlj
    rw [hsize]
    rcases two hj with ⟨rfl, rfl⟩ | ⟨_, hj⟩
    · exact h.lt hg (by rw [ht]; intro e; cases e) hlj
    · exact h.lt hj hs hlj
  · intro j bj lj hj hs hlj k v hkv
    rcases two hj with ⟨rfl, rfl⟩ | ⟨hji, hj⟩
    · cases hs
    · obtain ⟨v', h1, h2⟩ := h.cells hj hs hlj hkv
      exact ⟨v', by rw [World.cell?_of_block (w := w) (hother _ (hal hj (mem_ne_dead hs) hlj hji))]; exact h1, h2⟩
  · intro j bj lj hj hs hlj
    rcases two hj with ⟨rfl, rfl⟩ | ⟨hji, hj⟩
    · cases hs
    · exact h.ro hj hs hlj
  · intro j bj lj hj hs hlj
    rcases two hj with ⟨rfl, rfl⟩ | ⟨hji, hj⟩
    · exact h.own hg (by rw [ht]; rfl) hlj
    · exact h.own hj hs hlj
  · intro j bj lj hj hs hlj
    rcases two hj with ⟨rfl, rfl⟩ | ⟨hji, hj⟩
    · cases hs
    · obtain ⟨c0, e0, h1, h2⟩ := h.row hj hs hlj
      exact ⟨c0, e0, by rw [hother _ (hal hj (mem_ne_dead (row_mem hs)) hlj hji)]; exact h1, h2⟩
  · intro j bj lj hj hs hlj
    rcases two hj with ⟨rfl, rfl⟩ | ⟨hji, hj⟩
    · cases hs
    · exact h.fits hj hs hlj
  · intro j bj lj hj hs hlj
    rcases two hj with ⟨rfl, rfl⟩ | ⟨hji, hj⟩
    · rw [hl] at hlj
      injection hlj with hlj
      subst hlj
      exact ⟨es', clock', hnew, hc⟩
    · obtain ⟨es0, cl, h1, h2⟩ := h.map hj hs hlj
      exact ⟨es0, cl, by rw [hother _ (hal hj (by rw [hs]; intro e; cases e) hlj hji)]; exact h1, h2⟩
  · intro j1 j2 b1 b2 l1 l2 h12 h1 h2 s1 s2 e1 e2 eb
    rcases two h1 with ⟨rfl, rfl⟩ | ⟨q1, k1⟩
    · rcases two h2 with ⟨rfl, rfl⟩ | ⟨q2, k2⟩
      · exact absurd rfl h12
      · rw [hl] at e1
        injection e1 with e1
        subst e1
        exact absurd eb.symm (hal k2 (own_ne_dead s2) e2 q2)
    · rcases two h2 with ⟨rfl, rfl⟩ | ⟨q2, k2⟩
      · rw [hl] at e2
        injection e2 with e2
        subst e2
        exact absurd eb (hal k1 (own_ne_dead s1) e1 q1)
      · exact h.sep h12 k1 k2 s1 s2 e1 e2 eb
  · intro j1 j2 b1 b2 h1 h2 s1 s2 hm
    rcases two h2 with ⟨rfl, rfl⟩ | ⟨q2, k2⟩
    · simp at hm
    · rcases two h1 with ⟨rfl, rfl⟩ | ⟨q1, k1⟩
      · have := h.anc hg k2 (by rw [ht]; rfl) s2 hm
        rw [ht] at this; cases this
      · exact h.anc k1 k2 s1 s2 hm
  · intro j1 j2 b1 b2 l1 l2 h1 h2 s1 s2 hm e1 e2 eb
    rcases two h2 with ⟨rfl, rfl⟩ | ⟨q2, k2⟩
    · simp at hm
    · rcases two h1 with ⟨rfl, rfl⟩ | ⟨q1, k1⟩
      · have := h.anc hg k2 (by rw [ht]; rfl) s2 hm
        rw [ht] at this; cases this
      · exact h.ends k1 k2 s1 s2 hm e1 e2 eb
  · intro j bj hj x hx
    rcases two hj with ⟨rfl, rfl⟩ | ⟨hji, hj⟩
    · simp at hx
    · exact h.ancJ hj x hx
theorem Fr.mapped (hh : HR P σ base H w) {i : Nat} {b b' : ABlk} {l : Loc} (hg : H.get i = some b) (ht : b.st = .map) (hl : σ i = some l) (he : b'.elem = b.elem) (hv : b.ver < b'.ver) (o : Obj) :
    Fr σ σ H (H.upd i b') w { w with heap := w.heap.setIfInBounds l.b o } := by
  refine ⟨Sub.refl _, fun _ _ => rfl, by simp, rfl, rfl, rfl, by simp, ?_, ?_, ?_⟩
  · intro k hk hno
    have := hno i b l hg (by rw [ht]; rfl) hl
    simp [this]
  · intro j bj lj hj ha hlj
    rw [AHeap.get_upd hg] at hj
    split at hj
    · rename_i e1
      subst e1
      exact .inr ⟨j, b, lj, hg, by rw [ht]; rfl, hlj, rfl⟩
    · exact .inr ⟨j, bj, lj, hj, ha, hlj, rfl⟩
  · intro j bj hj
    by_cases e1 : j = i
    · subst e1
      rw [hg] at hj
      injection hj with hj
      subst hj
      exact ⟨b', by rw [AHeap.get_upd hg, if_pos rfl], by omega, he, fun e => by omega⟩
    · exact ⟨bj, by rw [AHeap.get_upd hg, if_neg e1]; exact hj, Nat.le_refl _, rfl, fun _ => ⟨rfl, id, id⟩⟩
theorem sound_mset (her : ER σ nt e a) (hh : HR P σ base H w) {t kt el : TypeId} {m k x : Operand} {kd : IntKind} (ho : o.op = .mapUpdate t m k x ∨ o.op = .insert t m k x) (hu : P.underlying t = some (.map kt el)) (hk : P.underlying kt = some (.int kd))
    {cf : CallF} {v : Value} (h : stepA P cf e H (.mop (.set m k x)) = some (v, H')) : StepOK P base σ H w o a v H' := by
  have h : mapSet (ev e m) (ev e k) (ev e x) H = some (v, H') := h
  unfold mapSet at h
  split at h
  · rename_i i kk n hm hi
    obtain ⟨l, hl, hm'⟩ := VR.map_inv (hm ▸ ev_rel her m)
    have hi' := VR.int_inv (hi ▸ ev_rel her k)
    split at h
    · rename_i blk hg
      split at h
      · rename_i hst
        obtain ⟨hst, hanc, _⟩ := hst
        simp only [Option.map_eq_some_iff] at h
        obtain ⟨cs, hr, he⟩ := h
        injection he with he1 he2
        subst he1 he2
        obtain ⟨es, clock, hw, hc⟩ := hh.map hg hst hl
        have hx := ev_rel her x
        rcases set_rel (kd := kd) hx 0 hc hr with ⟨q1, q2⟩ | ⟨j, e', q2, q3, q5, q6⟩
        · have hrun : (execOp a.eval o).run P w = .ok .skip { w with heap := w.heap.setIfInBounds l.b (.map (es.push { key := .int kk n, val := a.eval x, born := clock }) (clock + 1)) } := by
            rcases ho with ho | ho <;>
              simp only [execOp, ho, hm', hi', Instr.mapUpdate, Sem.run_bind, run_und hu, Result.andThen_ok, run_getMap hw, run_checkInt hk, run_findInt hk q1, run_setMap _ hw, Sem.run_pure]
          refine .skip hrun (hh.mapped hg hst hanc hl hw ?_) (Fr.mapped (b' := ⟨cs, blk.elem, .map, blk.ver + 1, []⟩) hh hg hst hl rfl (Nat.lt_succ_self _) _)
          have := q2 clock
          simpa using this
        · have hkey : ∀ {w2 : World}, (Instr.keyThatStays (((es[0 + j]?).map (·.key)).getD (.int kk n)) (.int kk n)).run P w2 = .ok (.int kk n) w2 := by
            intro w2
            have : es[0 + j]? = some e' := by rw [Nat.zero_add]; simpa using q2
            rw [this]
            simp only [Option.map_some, Option.getD_some, q3, Instr.keyThatStays]
            have : Instr.sameBits 10000 (.int kk n) (.int kk n) = true := by simp [Instr.sameBits]
            rw [if_pos this]
            rfl
          have hrun : (execOp a.eval o).run P w = .ok .skip { w with heap := w.heap.setIfInBounds l.b (.map (es.modify (0 + j) fun e => { e with key := .int kk n, val := a.eval x }) clock) } := by
            rcases ho with ho | ho <;>
              simp only [execOp, ho, hm', hi', Instr.mapUpdate, Sem.run_bind, run_und hu, Result.andThen_ok, run_getMap hw, run_checkInt hk, run_findInt hk q5, hkey, run_setMap _ hw, Sem.run_pure]
          refine .skip hrun (hh.mapped hg hst hanc hl hw ?_) (Fr.mapped (b' := ⟨cs, blk.elem, .map, blk.ver + 1, []⟩) hh hg hst hl rfl (Nat.lt_succ_self _) _)
          rw [Nat.zero_add, Array.toList_modify]
          exact q6
      · cases h
    · cases h
  · cases h
end
end Lon
