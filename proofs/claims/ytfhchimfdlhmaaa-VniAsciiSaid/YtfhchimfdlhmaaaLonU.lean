/- What is proved here: that bodies and calls are sound. Conditions: those that each theorem names, and no others. -/
import Derived.Test.YtfhchimfdlhmaaaLonT
import Derived.LoopN
/-! Whole bodies, whole calls. -/
set_option linter.unusedSimpArgs false
set_option linter.unusedVariables false
namespace Lon
open Go

/-- Which places must be listed ahead of each place. -/
def closures (ops : Array Oper) (l : List Nat) : List (List Nat) :=
  (List.range ops.size).foldl (fun acc q => acc ++ [(edgesPos ops l q ++ (edgesPos ops l q).flatMap fun x => acc.getD x []).eraseDups]) []
/-- A body in the interpreter's form. The hints: for each loop, the slots that outlive a round; for each region that draws, an order. -/
def prepC (P : Program) (nt : Nat) : Code → List (List Nat) → Option (ACode × List (List Nat))
  | .skip, hs => some (.skip, hs)
  | .region _ ops false, hs => (prepRows P nt ops ops.toList).map fun rows => (.ops rows, hs)
  | .region _ ops true, hs => match hs with
    | l :: hs => match prepDraw P nt ops l with
      | some rows => if drawOk ops l rows (closures ops l) = true then some (.draw rows, hs) else none
      | none => none
    | [] => none
  | .seq a b, hs => match prepC P nt a hs with
    | some (a', hs) => match prepC P nt b hs with
      | some (b', hs) => some (.seq a' b', hs)
      | none => none
    | none => none
  | .cond c a b, hs => match prepC P nt a hs with
    | some (a', hs) => match prepC P nt b hs with
      | some (b', hs) => some (.cond c a' b', hs)
      | none => none
    | none => none
  | .block id c, hs => match prepC P nt c hs with
    | some (c', hs) => some (.block id c', hs)
    | none => none
  | .loop c, hs => match hs with
    | keep :: hs => match prepC P nt c hs with
      | some (c', hs) => some (.loop keep c', hs)
      | none => none
    | [] => none
  | .exit id, hs => some (.exit id, hs)
  | .ret, hs => some (.ret, hs)
  | _, _ => none

def AEx.toExit : AEx → Exit
  | .normal => .normal
  | .exit id => .exit id
  | .ret => .ret

section
variable {P : Program} {nt base : Nat} {cf : CallF}

theorem ER.forget {σ : Sig} {e : Env} {a : Act} (h : ER σ nt e a) (ks : List Nat) : ER σ nt (forget ks e) a := by
  refine ⟨h.size, h.defers, fun t => ?_⟩
  rw [eget_forget]
  split
  · exact h.get t
  · exact .poison _

/-- What a piece of code leaves. -/
def Leaves (P : Program) (base : Nat) (nt : Nat) (c : Code) (σ : Sig) (a : Act) (w : World) (H : AHeap) (x : AEx) (e' : Env) (H' : AHeap) : Prop :=
  ∀ Q : Exit → Act → World → Prop, (∀ σ' a' w', ER σ' nt e' a' → HR P σ' base H' w' → Fr σ σ' H H' w w' → Q x.toExit a' w') → c.wp P Q a w

theorem iter_sound {c : Code} {keep : List Nat} {body : Env → AHeap → Option (AEx × Env × AHeap)}
    (hb : ∀ {σ e a H w x e' H'}, ER σ nt e a → HR P σ base H w → base ≤ w.heap.size → body e H = some (x, e', H') → Leaves P base nt c σ a w H x e' H') :
    ∀ (n : Nat) {σ e a H w x e' H'}, ER σ nt e a → HR P σ base H w → base ≤ w.heap.size → iterA keep body n e H = some (x, e', H') → Leaves P base nt (.loop c) σ a w H x e' H' := by
  intro n σ e a H w x e' H' her hh hbs h Q hQ
  refine wp_loop_rounds n ?_
  revert hQ
  suffices hgo : ∀ (n : Nat) {σ1 : Sig} {e1 : Env} {a1 : Act} {H1 : AHeap} {w1 : World}, ER σ1 nt e1 a1 → HR P σ1 base H1 w1 → base ≤ w1.heap.size → iterA keep body n e1 H1 = some (x, e', H') →
      (∀ σ' a' w', ER σ' nt e' a' → HR P σ' base H' w' → Fr σ1 σ' H1 H' w1 w' → Q x.toExit a' w') → Code.rounds P c Q n a1 w1 from fun hQ => hgo n her hh hbs h hQ
  intro n
  induction n with
  | zero => intro σ1 e1 a1 H1 w1 _ _ _ h; simp [iterA] at h
  | succ n ih =>
    intro σ1 e1 a1 H1 w1 her hh hbs h hQ
    rw [rounds_succ]
    simp only [iterA] at h
    split at h
    · cases h
    · rename_i e2 H2 h2
      refine hb (her.forget keep) hh hbs h2 _ fun σ' a' w' q1 q2 q3 => ?_
      simp only [AEx.toExit, Exit.then]
      exact ih q1 q2 (Nat.le_trans hbs q3.size) h fun σ2 a2 w2 p1 p2 p3 => hQ σ2 a2 w2 p1 p2 (q3.trans p3)
    · rename_i r hr h2
      injection h with h
      subst h
      refine hb (her.forget keep) hh hbs h2 _ fun σ' a' w' q1 q2 q3 => ?_
      have := hQ σ' a' w' q1 q2 q3
      cases x with
      | normal => exact absurd rfl (hr e' H')
      | exit id => exact this
      | ret => exact this

theorem exec_sound (hmix : P.follows .mixedOrders = true) (hcf : ∀ g args H v H', cf g args H = some (v, H') → Sim P base g args H v H') {lf : Nat} :
    ∀ (c : Code) {hs hs' : List (List Nat)} {ac : ACode}, prepC P nt c hs = some (ac, hs') → ∀ {σ : Sig} {e : Env} {a : Act} {H : AHeap} {w : World} {x : AEx} {e' : Env} {H' : AHeap},
      ER σ nt e a → HR P σ base H w → base ≤ w.heap.size → execA P cf lf ac e H = some (x, e', H') → Leaves P base nt c σ a w H x e' H' := by
  intro c
  induction c with
  | skip =>
    intro hs hs' ac hp σ e a H w x e' H' her hh hb h Q hQ
    simp only [prepC, Option.some.injEq, Prod.mk.injEq] at hp
    obtain ⟨rfl, rfl⟩ := hp
    simp only [execA, Option.some.injEq, Prod.mk.injEq] at h
    obtain ⟨rfl, rfl, rfl⟩ := h
    exact wp_skip (hQ σ a w her hh (Fr.refl _ _ _))
  | region id ops draw =>
    intro hs hs' ac hp σ e a H w x e' H' her hh hb h Q hQ
    cases draw with
    | false =>
      simp only [prepC, Option.map_eq_some_iff, Prod.mk.injEq] at hp
      obtain ⟨rows, hr, rfl, rfl⟩ := hp
      simp only [execA, Option.map_eq_some_iff, Prod.mk.injEq] at h
      obtain ⟨⟨e1, H1⟩, h1, rfl, rfl, rfl⟩ := h
      exact wp_region_list (rows_sound hcf _ hr her hh hb h1 hQ)
    | true =>
      cases hs with
      | nil => simp [prepC] at hp
      | cons l hs =>
        simp only [prepC] at hp
        split at hp
        · rename_i rows hr
          split at hp
          · rename_i hd
            simp only [Option.some.injEq, Prod.mk.injEq] at hp
            obtain ⟨rfl, rfl⟩ := hp
            simp only [execA, Option.map_eq_some_iff, Prod.mk.injEq] at h
            obtain ⟨⟨e1, H1⟩, h1, rfl, rfl, rfl⟩ := h
            exact draw_sound hmix hcf hd hr her hh hb h1 hQ
          · cases hp
        · cases hp
  | seq c1 c2 ih1 ih2 =>
    intro hs hs' ac hp σ e a H w x e' H' her hh hb h Q hQ
    simp only [prepC] at hp
    split at hp
    · rename_i a1 hs1 hp1
      split at hp
      · rename_i b1 hs2 hp2
        simp only [Option.some.injEq, Prod.mk.injEq] at hp
        obtain ⟨rfl, rfl⟩ := hp
        simp only [execA] at h
        split at h
        · rename_i e1 H1 h1
          refine wp_seq (ih1 hp1 her hh hb h1 _ fun σ' a' w' q1 q2 q3 => ?_)
          simp only [AEx.toExit, Exit.then]
          exact ih2 hp2 q1 q2 (Nat.le_trans hb q3.size) h _ fun σ2 a2 w2 p1 p2 p3 => hQ σ2 a2 w2 p1 p2 (q3.trans p3)
        · rename_i hn
          refine wp_seq (ih1 hp1 her hh hb h _ fun σ' a' w' q1 q2 q3 => ?_)
          have := hQ σ' a' w' q1 q2 q3
          cases x with
          | normal => exact absurd h (hn e' H')
          | exit id => exact this
          | ret => exact this
      · cases hp
    · cases hp
  | cond c c1 c2 ih1 ih2 =>
    intro hs hs' ac hp σ e a H w x e' H' her hh hb h Q hQ
    simp only [prepC] at hp
    split at hp
    · rename_i a1 hs1 hp1
      split at hp
      · rename_i b1 hs2 hp2
        simp only [Option.some.injEq, Prod.mk.injEq] at hp
        obtain ⟨rfl, rfl⟩ := hp
        simp only [execA] at h
        have hv := ev_rel her c
        split at h
        · rename_i hc
          rw [hc] at hv
          exact wp_cond_true (VR.bool_inv hv) (ih1 hp1 her hh hb h Q hQ)
        · rename_i hc
          rw [hc] at hv
          exact wp_cond_false (VR.bool_inv hv) (ih2 hp2 her hh hb h Q hQ)
        · cases h
      · cases hp
    · cases hp
  | block id c ih =>
    intro hs hs' ac hp σ e a H w x e' H' her hh hb h Q hQ
    simp only [prepC] at hp
    split at hp
    · rename_i a1 hs1 hp1
      simp only [Option.some.injEq, Prod.mk.injEq] at hp
      obtain ⟨rfl, rfl⟩ := hp
      simp only [execA] at h
      refine wp_block ?_
      split at h
      · rename_i id' e1 H1 h1
        refine ih hp1 her hh hb h1 _ fun σ' a' w' q1 q2 q3 => ?_
        simp only [AEx.toExit, Exit.inBlock]
        split at h
        · rename_i hid
          rw [if_pos hid]
          simp only [Option.some.injEq, Prod.mk.injEq] at h
          obtain ⟨rfl, rfl, rfl⟩ := h
          exact hQ σ' a' w' q1 q2 q3
        · rename_i hid
          rw [if_neg hid]
          simp only [Option.some.injEq, Prod.mk.injEq] at h
          obtain ⟨rfl, rfl, rfl⟩ := h
          exact hQ σ' a' w' q1 q2 q3
      · rename_i hn
        refine ih hp1 her hh hb h _ fun σ' a' w' q1 q2 q3 => ?_
        have := hQ σ' a' w' q1 q2 q3
        cases x with
        | normal => exact this
        | exit id' => exact absurd h (hn id' e' H')
        | ret => exact this
    · cases hp
  | loop c ih =>
    intro hs hs' ac hp σ e a H w x e' H' her hh hb h Q hQ
    cases hs with
    | nil => simp [prepC] at hp
    | cons keep hs =>
      simp only [prepC] at hp
      split at hp
      · rename_i a1 hs1 hp1
        simp only [Option.some.injEq, Prod.mk.injEq] at hp
        obtain ⟨rfl, rfl⟩ := hp
        simp only [execA] at h
        exact iter_sound (fun g1 g2 g3 g4 => ih hp1 g1 g2 g3 g4) lf her hh hb h Q hQ
      · cases hp
  | exit id =>
    intro hs hs' ac hp σ e a H w x e' H' her hh hb h Q hQ
    simp only [prepC, Option.some.injEq, Prod.mk.injEq] at hp
    obtain ⟨rfl, rfl⟩ := hp
    simp only [execA, Option.some.injEq, Prod.mk.injEq] at h
    obtain ⟨rfl, rfl, rfl⟩ := h
    exact wp_exit (hQ σ a w her hh (Fr.refl _ _ _))
  | ret =>
    intro hs hs' ac hp σ e a H w x e' H' her hh hb h Q hQ
    simp only [prepC, Option.some.injEq, Prod.mk.injEq] at hp
    obtain ⟨rfl, rfl⟩ := hp
    simp only [execA, Option.some.injEq, Prod.mk.injEq] at h
    obtain ⟨rfl, rfl, rfl⟩ := h
    exact wp_ret (hQ σ a w her hh (Fr.refl _ _ _))
  | _ => intro hs hs' ac hp; simp [prepC] at hp
end

/-! ### Results, calls -/
def prepRes (P : Program) : List ResultVar → Option (List ARes)
  | [] => some []
  | .tmp t :: r => (prepRes P r).map fun l => .tmp t :: l
  | .cell a t :: r => match shapeOf P t, prepRes P r with
    | some p, some l => some (.cell a (if p.1 then some p.2 else none) :: l)
    | _, _ => none

section
variable {P : Program} {base nt : Nat}
theorem run_load (w : World) {σ : Sig} {e : Env} {a : Act} {H : AHeap} (her : ER σ nt e a) (hh : HR P σ base H w) {t : TypeId} {x : Nat} {p : Bool × Nat} (hs : shapeOf P t = some p) {v : Value}
    (h : readA P e H (.load (.tmp x) (if p.1 then some p.2 else none)) = some v) : ∃ i o l, eget e x = .pointer (some ⟨i, o, none⟩) ∧ σ i = some l ∧ a.tmps.getD x undef = .pointer (some ⟨l.b, l.f + o, none⟩) ∧ ∃ v', (loadVar t ⟨l.b, l.f + o, none⟩).run P w = .ok v' w ∧ VR σ v v' := by
  obtain ⟨d, hd, hp1, hsz⟩ := shapeOf_inv hs
  simp only [readA] at h
  split at h
  · rename_i i off hx
    have hx0 := ev_rel her (.tmp x)
    rw [hx] at hx0
    obtain ⟨l, hl, hx'⟩ := VR.ptr_inv hx0
    refine ⟨i, off, l, hx, hl, hx', ?_⟩
    split at h
    · rename_i blk hg
      split at h
      · rename_i hm
        split at h
        · rename_i n hn
          split at h
          · rename_i hle
            injection h with h
            subst h
            cases hp : p.1 with
            | false => rw [hp] at hn; cases hn
            | true =>
              rw [hp] at hn
              simp at hn
              subst hn
              obtain ⟨ds, h1, h2⟩ := hh.rowOf hg hm hl off p.2 hle
              have hdl : ds.length = p.2 := by have := h1.length; simp at this; omega
              refine ⟨.agg ⟨ds⟩, ?_, .agg _ _ h1⟩
              have hrun := run_loadCells_list (P := P) w ⟨l.b, l.f + off, none⟩ ds (fun j v hj => by rw [add_addr]; have := h2 j v hj; rwa [← Nat.add_assoc] at this)
              rw [hdl] at hrun
              simp only [loadVar, Sem.run_bind, Sem.run_pure, Result.andThen_ok, run_isAgg hd, ← hp1, hp, if_true, run_szOf hsz, hrun]
          · cases h
        · rename_i hn
          cases hp : p.1 with
          | true => rw [hp] at hn; cases hn
          | false =>
            obtain ⟨v', h1, h2⟩ := hh.cells hg hm hl h
            refine ⟨v', ?_, h2⟩
            have h1' : w.cell? ⟨l.b, l.f + off, none⟩ = some v' := h1
            simp [loadVar, run_isAgg hd, ← hp1, hp, h1']
      · cases h
    · cases h
  · cases h

def res1 (a : Act) : ResultVar → Sem Value
  | .tmp t => pure (a.tmps.getD t undef)
  | .cell x t => do loadVar t (← asAddr (a.tmps.getD x undef))
theorem res_sound (w : World) {σ : Sig} {e : Env} {a : Act} {H : AHeap} (her : ER σ nt e a) (hh : HR P σ base H w) : ∀ (rs : List ResultVar) {rs' : List ARes} {vs : List Value}, prepRes P rs = some rs' → ressA P e H rs' = some vs →
    ∃ vs', (rs.mapM (res1 a)).run P w = .ok vs' w ∧ VRs σ vs vs'
  | [], rs', vs, hp, h => by
    simp [prepRes] at hp
    subst hp
    simp [ressA] at h
    subst h
    exact ⟨[], by simp, .nil⟩
  | .tmp t :: rs, rs', vs, hp, h => by
    simp only [prepRes, Option.map_eq_some_iff] at hp
    obtain ⟨l, hl, rfl⟩ := hp
    simp only [ressA, resA] at h
    split at h
    · rename_i v vs0 h1 h2
      injection h with h
      subst h
      injection h1 with h1
      subst h1
      obtain ⟨vs', h3, h4⟩ := res_sound w her hh rs hl h2
      refine ⟨_ :: vs', ?_, .cons _ _ _ _ (her.get t) h4⟩
      rw [List.mapM_cons, Sem.run_bind]
      simp only [res1, Sem.run_pure, Result.andThen_ok, Sem.run_bind, h3]
    · cases h
  | .cell x t :: rs, rs', vs, hp, h => by
    simp only [prepRes] at hp
    split at hp
    · rename_i p l hs hl
      injection hp with hp
      subst hp
      simp only [ressA, resA] at h
      split at h
      · rename_i v vs0 h1 h2
        injection h with h
        subst h
        obtain ⟨vs', h3, h4⟩ := res_sound w her hh rs hl h2
        obtain ⟨i, o, lo, hx, hlo, hav, v', hv1, hv2⟩ := run_load w her hh hs h1
        refine ⟨v' :: vs', ?_, .cons _ _ _ _ hv2 h4⟩
        rw [List.mapM_cons, Sem.run_bind]
        simp only [res1, hav, asAddr, Sem.run_pure, Result.andThen_ok, Sem.run_bind, hv1, h3]
      · cases h
    · cases hp

theorem VRs.get? {σ : Sig} {xs ys : List Value} (h : VRs σ xs ys) (k : Nat) : (xs[k]? = none ∧ ys[k]? = none) ∨ ∃ v v', xs[k]? = some v ∧ ys[k]? = some v' ∧ VR σ v v' := by
  cases hx : xs[k]? with
  | none => left; refine ⟨rfl, ?_⟩; rw [List.getElem?_eq_none_iff] at hx ⊢; rw [h.length]; exact hx
  | some v => right; obtain ⟨v', h1, h2⟩ := h.get hx; exact ⟨v, v', rfl, h1, h2⟩
theorem eget_zip : ∀ (args : List Value) (k t : Nat), eget ((args.zipIdx k).map fun p => (p.2, p.1)) t = if k ≤ t then (args[t - k]?).getD poison else poison
  | [], k, t => by simp [eget_nil]
  | v :: vs, k, t => by
    have ih := eget_zip vs (k + 1) t
    simp only [List.zipIdx_cons, List.map_cons, eget_cons]
    by_cases h : k = t
    · subst h; simp
    · rw [if_neg h, ih]
      by_cases h2 : k ≤ t
      · rw [if_pos h2, if_pos (by omega)]
        have : t - k = (t - (k + 1)) + 1 := by omega
        rw [this, List.getElem?_cons_succ]
      · rw [if_neg h2, if_neg (by omega)]
theorem entry_rel {σ : Sig} {args args' : List Value} (h : VRs σ args args') (hn : args.length ≤ nt) : ER σ nt (entry args) { tmps := ⟨args'⟩ ++ Array.replicate (nt - (⟨args'⟩ : Array Value).size) undef, defers := [] } := by
  have hl := h.length
  refine ⟨by simp [hl]; omega, rfl, fun t => ?_⟩
  unfold entry
  rw [eget_zip]
  simp only [Nat.zero_le, if_true, Nat.sub_zero]
  rcases h.get? t with ⟨h1, h2⟩ | ⟨v, v', h1, h2, h3⟩
  · rw [h1]; exact .poison _
  · rw [h1]
    have hlt : t < args'.length := (List.getElem?_eq_some_iff.1 h2).1
    have : (⟨args'⟩ ++ Array.replicate (nt - (⟨args'⟩ : Array Value).size) undef : Array Value).getD t undef = v' := by
      rw [Array.getD_eq_getD_getElem?, Array.getElem?_append_left (by simpa using hlt)]
      simp [h2]
    rw [this]
    exact h3

/-- The interpreter's table of functions is the program's. -/
def FOK (P : Program) (g : FuncId) (F : AFunc) : Prop :=
  ∃ fn c hs hs', P.funcs[g]? = some fn ∧ fn.body = some c ∧ (fn.name == "runtime.NumGoroutine") = false ∧ fn.ntmps = F.ntmps ∧ F.nargs ≤ F.ntmps ∧ prepC P F.ntmps c hs = some (F.code, hs') ∧ prepRes P fn.results.toList = some F.results

theorem call_sound (hmix : P.follows .mixedOrders = true) {Γ : FuncId → Option AFunc} (hΓ : ∀ g F, Γ g = some F → FOK P g F) {Ω : CallF} (hΩ : ∀ g args H v H', Ω g args H = some (v, H') → Sim P base g args H v H') :
    ∀ (n : Nat) (g : FuncId) (args : List Value) (H : AHeap) (v : Value) (H' : AHeap), callA P Γ Ω n g args H = some (v, H') → Sim P base g args H v H' := by
  intro n
  induction n with
  | zero => intro g args H v H' h; simp [callA] at h
  | succ n ih =>
    intro g args H v H' h
    simp only [callA] at h
    split at h
    · rename_i r hr
      injection h with h
      subst h
      exact hΩ _ _ _ _ _ hr
    · split at h
      · cases h
      · rename_i F hF
        obtain ⟨fn, c, hs, hs', hfn, hc, hname, hnt, hna, hprep, hres⟩ := hΓ g F hF
        split at h
        · rename_i hlen
          have hfin : ∃ x e H1 vs, execA P (callA P Γ Ω n) n F.code (entry args) H = some (x, e, H1) ∧ (x = .normal ∨ x = .ret) ∧ ressA P e H1 F.results = some vs ∧ v = packA vs ∧ H' = H1 := by
            split at h
            · cases h
            · rename_i x e H1 hnx hx
              simp only [Option.map_eq_some_iff, Prod.mk.injEq] at h
              obtain ⟨vs, h1, rfl, rfl⟩ := h
              refine ⟨x, e, H1, vs, hx, ?_, h1, rfl, rfl⟩
              cases x with
              | normal => exact .inl rfl
              | ret => exact .inr rfl
              | exit id => exact absurd rfl (hnx id)
            · cases h
          obtain ⟨x, e, H1, vs, hx, hxx, hvs, hv0, hH0⟩ := hfin
          subst hv0 hH0
          refine ⟨⟨fn, hfn, by rw [hc]; rfl, hname⟩, execA_ver (fun g args H v H' h => (ih g args H v H' h).2.1) hx, fun σ w args' hargs hh hb => ?_⟩
          refine calls_of_wp hfn hc ?_
          rw [hnt]
          have her := entry_rel (nt := F.ntmps) hargs (by rw [hlen]; exact hna)
          refine exec_sound hmix ih c hprep her hh hb hx _ fun σ' a' w' q1 q2 q3 => ?_
          obtain ⟨vs', r1, r2⟩ := res_sound w' q1 q2 fn.results.toList hres hvs
          have hfin : a'.defers = [] ∧ ∃ v, (results fn a'.tmps).run P w' = .ok v w' ∧ ∃ σ'' v'', Ending.returned v = Ending.returned v'' ∧ VR σ'' (packA vs) v'' ∧ HR P σ'' base H' w' ∧ Fr σ σ'' H H' w w' := by
            refine ⟨q1.defers, (if h : (⟨vs'⟩ : Array Value).size = 1 then (⟨vs'⟩ : Array Value)[0] else .tuple ⟨vs'⟩), ?_, σ', _, rfl, ?_, q2, q3⟩
            · have hres : results fn a'.tmps = (do let vs ← fn.results.mapM (res1 a'); pure (if h : vs.size = 1 then vs[0] else .tuple vs)) := rfl
              rw [hres, Sem.run_bind, Array.mapM_eq_mapM_toList]
              have r1' : (List.mapM (res1 a') fn.results.toList).run P w' = .ok vs' w' := r1
              simp only [Sem.run_map, r1', Result.andThen_ok, Sem.run_pure]
            · cases r2 with
              | nil => exact .tuple _ _ .nil
              | cons u u' us us' k1 k2 =>
                cases k2 with
                | nil => exact k1
                | cons _ _ _ _ k3 k4 => exact .tuple _ _ (.cons _ _ _ _ k1 (.cons _ _ _ _ k3 k4))
          rcases hxx with rfl | rfl
          · exact hfin
          · exact hfin
        · cases h
end
end Lon
