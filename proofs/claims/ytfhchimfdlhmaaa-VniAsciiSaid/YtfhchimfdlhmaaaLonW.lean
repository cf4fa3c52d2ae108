/- What is proved here: how a run leads to a row's statement. Conditions: those that each theorem names, and no others. -/
import Derived.Test.YtfhchimfdlhmaaaLonV
import Derived.Carry
import Derived.ProofKit
import Derived.OpenShut
/-! From a run to a row's statement. -/
set_option linter.unusedSimpArgs false
set_option linter.unusedVariables false
namespace Lon
open Go Go.ChangeShapes Go.WideShapes Go.ChangeAt Go.RowKit

def prepF (P : Program) (hs : List (List Nat)) (fn : Func) : Option AFunc :=
  match fn.body with
  | some c => match prepC P fn.ntmps c hs, prepRes P fn.results.toList with
    | some (ac, _), some rs => if fn.params.size + fn.nfree ≤ fn.ntmps then some ⟨fn.params.size + fn.nfree, fn.ntmps, rs, ac⟩ else none
    | _, _ => none
  | none => none
theorem FOK.of {P : Program} {g : FuncId} {fn : Func} {F : AFunc} (hs : List (List Nat)) (h1 : P.funcs[g]? = some fn) (h2 : (fn.name == "runtime.NumGoroutine") = false) (h3 : prepF P hs fn = some F) : FOK P g F := by
  unfold prepF at h3
  split at h3
  · rename_i c hc
    split at h3
    · rename_i ac hs' rs hp hr
      split at h3
      · rename_i hn
        injection h3 with h3
        subst h3
        exact ⟨fn, c, hs, _, h1, hc, h2, rfl, hn, hp, hr⟩
      · cases h3
    · cases h3
  · cases h3
/-- A table of functions. -/
def tabF (l : List (FuncId × AFunc)) (g : FuncId) : Option AFunc :=
  match l with
  | [] => none
  | (k, F) :: r => if g = k then some F else tabF r g
theorem tabF_ok {P : Program} : ∀ {l : List (FuncId × AFunc)}, (∀ x ∈ l, FOK P x.1 x.2) → ∀ g F, tabF l g = some F → FOK P g F
  | [], _, g, F, h => by simp [tabF] at h
  | (k, F0) :: r, hl, g, F, h => by
    simp only [tabF] at h
    split at h
    · rename_i hg
      injection h with h
      subst h hg
      exact hl _ (List.mem_cons_self ..)
    · exact tabF_ok (fun x hx => hl x (List.mem_cons_of_mem _ hx)) g F h

theorem tab_nil {P : Program} : ∀ x ∈ ([] : List (FuncId × AFunc)), FOK P x.1 x.2 := fun x hx => by simp at hx
theorem tab_cons {P : Program} {k : FuncId} {F : AFunc} {r : List (FuncId × AFunc)} (h : FOK P k F) (hr : ∀ x ∈ r, FOK P x.1 x.2) : ∀ x ∈ ((k, F) :: r), FOK P x.1 x.2 := fun x hx => by
  rcases List.mem_cons.1 hx with rfl | hx
  · exact h
  · exact hr x hx

section
variable {P : Program}
def sig0 : Sig := fun _ => none
theorem empty_get (i : Nat) : AHeap.empty.get i = none := by rw [AHeap.get_eq]; simp [AHeap.empty]
theorem HR.empty (base : Nat) (w : World) : HR P sig0 base AHeap.empty w := by
  constructor
  case out => intro i _; rfl
  all_goals intros; simp_all [empty_get]
/-- A call whose arguments hold no address, from nothing. -/
theorem calls_of_empty {g : FuncId} {args : List Value} {v : Value} {H' : AHeap} {w : World} (h : Sim P w.heap.size g args AHeap.empty v H') (hg : args.all ground = true) (hv : ground v = true) :
    Calls P g ⟨args⟩ w fun e w' => e = .returned v ∧ Below w.heap.size w w' := by
  have hargs : ∀ {l : List Value}, l.all ground = true → VRs sig0 l l := by
    intro l
    induction l with
    | nil => intro _; exact .nil
    | cons x xs ih =>
      intro hl
      simp only [List.all_cons, Bool.and_eq_true] at hl
      exact .cons _ _ _ _ (VR.of_ground hl.1) (ih hl.2)
  refine (h.2.2 sig0 w args (hargs hg) (HR.empty _ _) (Nat.le_refl _)).mono fun e w' hq => ?_
  obtain ⟨σ', v', rfl, q1, q2, q3⟩ := hq
  rw [VR.eq_ground hv q1]
  exact ⟨rfl, q3.os, q3.tape, q3.output, q3.size, fun k hk => q3.keep k hk (fun i blk l hi _ _ => by rw [empty_get] at hi; cases hi)⟩

/-- Arguments read behind the call as before it. -/
theorem trodAll_below {H : Type} {enc : TypeId × Value → H} (hl : laidOutB P = true) {W W' : World} (hb : Below W.heap.size W W') {sp : Nat → Bool} : ∀ {ts : List TypeId} {vs : List Value} {ds : List (DataW H)} {ps : List MemPlace},
    (∀ t ∈ ts, P.readableRec t = true ∧ t < P.types.size) → DataW.TrodAll enc P W 0 (fun _ => true) true ts vs ds ps → (∀ p ∈ ps, p.block < W.heap.size) → (∀ p ∈ ps, sp p.block = true) → DataW.TrodAll enc P W' 0 sp true ts vs ds ps
  | [], vs, ds, ps, _, h, _, _ => by
    obtain ⟨rfl, rfl, rfl⟩ := trodAll_nil h
    exact h
  | t :: ts, vs, ds, ps, ht, h, hlt, hs => by
    obtain ⟨v, vs', d, ds', p, q, rfl, rfl, rfl, h1, h2⟩ := trodAll_cons h
    have hp : ∀ x ∈ p, x.block < W.heap.size := fun x hx => hlt x (List.mem_append_left _ hx)
    refine ⟨p, q, ?_, trodAll_below hl hb (fun t hm => ht t (List.mem_cons_of_mem _ hm)) h2 (fun x hx => hlt x (List.mem_append_right _ hx)) (fun x hx => hs x (List.mem_append_right _ hx)), rfl⟩
    exact Go.WideElems.Trod_stays hl (ht t (List.mem_cons_self ..)).1 (ht t (List.mem_cons_self ..)).2 h1 (fun x hx => hb.same (hp x hx)) (fun x hx => hs x (List.mem_append_left _ hx))

/-- What a law's row asks, of a run that leaves all that was there. -/
theorem law_post {H : Type} {enc : TypeId × Value → H} {f : Func} {s : ChangeSpec} {W W' : World} {args : Array Value} {ds : List (DataW H)} {before : List MemPlace} {tb : TypeId}
    (hl : laidOutB P = true) (hp0 : (f.params.toList.all fun t => P.readableRec t && decide (t < P.types.size)) = true) (hrt : f.resultTypes = #[tb]) (hu : P.underlying tb = some .bool) (hvs : s.vars = [])
    (hW : DataW.Whole enc P f.params.toList s.vars false W args.toList ds [] before) (hs : s.fn H ds = { results := [.lit (.bool true)], args := ds }) (hb : Below W.heap.size W W') :
    s.post enc P f false true false false W args (.bool true) W' := by
  have hp : ∀ t ∈ f.params.toList, P.readableRec t = true ∧ t < P.types.size := fun t ht => by
    have := List.all_eq_true.1 hp0 t ht
    simpa using this
  have hW' := hW
  have hlt : ∀ p ∈ before, p.block < W.heap.size := fun p hp => hW'.lt p hp
  obtain ⟨p, q, hA, hV, rfl, hfz, hnd⟩ := hW
  rw [hvs] at hV
  obtain ⟨_, rfl⟩ := trodVars_none hV
  simp only [List.append_nil] at hW' hlt
  refine ⟨ds, [], p, [], p, [], hW', ?_, ?_, ?_, hb.frame _, fun h => by cases h⟩
  · simp only [List.append_nil, hs, hrt]
    exact trodAll_mk1 (shut_bool hu _)
  · simp only [List.append_nil, hs]
    exact trodAll_below hl hb hp hA hlt (fun x hx => by simpa using hlt x hx)
  · rw [hvs]
    simp only [List.append_nil, hs]
    exact rfl
end
end Lon
