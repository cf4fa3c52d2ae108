/- What is proved here: what holds amid a region that draws its order. Conditions: those that each theorem names, and no others. -/
import Derived.Test.YtfhchimfdlhmaaaLonR
/-! Regions that draw their order: whatever order is drawn, the interpreter's own order tells what comes. -/
set_option linter.unusedSimpArgs false
set_option linter.unusedVariables false
namespace Lon
open Go

theorem newA_blk {e : Env} {i : Nat} {ao : AOp} {b : ABlk} {v : Value} (h : newA e i ao = some (b, v)) : b.st = .tip ∧ b.anc = [] ∧ b.ver = 0 := by
  unfold newA at h
  split at h
  · injection h with h; injection h with h1 h2; subst h1; exact ⟨rfl, rfl, rfl⟩
  · split at h
    · injection h with h; injection h with h1 h2; subst h1; exact ⟨rfl, rfl, rfl⟩
    · cases h
  · split at h
    · injection h with h; injection h with h1 h2; subst h1; exact ⟨rfl, rfl, rfl⟩
    · cases h
  · cases h

section
variable {P : Program} {nt base : Nat} {ops : Array Oper} {l : List Nat} {rows : List ARow} {cls : List (List Nat)} {S : Nat → Env × AHeap} {cf : CallF} {σ0 : Sig} {H0 : AHeap} {w0 : World}

def Lst (ops : Array Oper) (l : List Nat) (listed : Array Bool) (q : Nat) : Prop := listed.getD (l.getD q ops.size) false = true

def DInv (P : Program) (nt base : Nat) (ops : Array Oper) (l : List Nat) (rows : List ARow) (S : Nat → Env × AHeap) (σ0 : Sig) (H0 : AHeap) (w0 : World) (fuel : Nat) (listed : Array Bool) (a : Act) (w : World) : Prop :=
  ∃ (p : Nat) (σ : Sig) (U : List Nat),
    p ≤ ops.size ∧ listed.size = ops.size ∧ U.length = fuel ∧ (∀ q, q < ops.size → ¬ Lst ops l listed q → q ∈ U) ∧
    (∀ q, p ≤ q → q < ops.size → ¬ Lst ops l listed q) ∧
    (∀ q, q < ops.size → Lst ops l listed q → ∀ o, ops[l.getD q ops.size]? = some o → ∀ e ∈ o.after, Region.binds .any e = true → listed.getD e.on false = true) ∧
    (∀ q, q < p → ¬ Lst ops l listed q → firmR rows q = false) ∧
    HR P σ base (S p).2 w ∧ Fr σ0 σ H0 (S p).2 w0 w ∧ base ≤ w.heap.size ∧ a.tmps.size = nt ∧ a.defers = [] ∧
    (∀ t, (∃ q, q < p ∧ ¬ Lst ops l listed q ∧ (rowAt rows q).dst = some t) ∨ VR σ (eget (S p).1 t) (a.tmps.getD t undef)) ∧
    (∀ q, q < p → ¬ Lst ops l listed q → (S (q + 1)).2.n = (S q).2.n + 1 → σ (S q).2.n = none)

theorem lst_closed (D : DOK ops l rows cls) {listed : Array Bool}
    (hcl : ∀ q, q < ops.size → Lst ops l listed q → ∀ o, ops[l.getD q ops.size]? = some o → ∀ e ∈ o.after, Region.binds .any e = true → listed.getD e.on false = true) :
    ∀ q, q < ops.size → Lst ops l listed q → ∀ x, depB cls x q = true → Lst ops l listed x := by
  intro q
  induction q using Nat.strongRecOn with
  | _ q ih =>
    intro hq hL x hd
    obtain ⟨hx, o, ho, e, he, hb, hor⟩ := D.dep hq hd
    obtain ⟨h1, h2⟩ := D.edge hq ho e he hb
    have hLe : Lst ops l listed (l.idxOf e.on) := by
      unfold Lst
      rw [h2]
      exact hcl q hq hL o ho e he hb
    rcases hor with h3 | h3
    · rw [← h3]; exact hLe
    · exact ih _ h1 (by omega) hLe x h3

theorem dep_edges (D : DOK ops l rows cls) {listed : Array Bool}
    (hcl : ∀ q, q < ops.size → Lst ops l listed q → ∀ o, ops[l.getD q ops.size]? = some o → ∀ e ∈ o.after, Region.binds .any e = true → listed.getD e.on false = true)
    {q : Nat} (hq : q < ops.size) {o : Oper} (ho : ops[l.getD q ops.size]? = some o) (hall : ∀ e ∈ o.after, Region.binds .any e = true → listed.getD e.on false = true) {x : Nat} (hd : depB cls x q = true) : Lst ops l listed x := by
  obtain ⟨hx, o', ho', e, he, hb, hor⟩ := D.dep hq hd
  rw [ho] at ho'
  injection ho' with ho'
  subst ho'
  obtain ⟨h1, h2⟩ := D.edge hq ho e he hb
  have hLe : Lst ops l listed (l.idxOf e.on) := by
    unfold Lst
    rw [h2]
    exact hall e he hb
  rcases hor with h3 | h3
  · rw [← h3]; exact hLe
  · exact lst_closed D hcl _ (by omega) hLe x h3

theorem pair_of {rows : List ARow} {q r : Nat} (h : pairOk rows cls q r = true) (hd : ¬ depB cls q r = true) :
    firmR rows q = false ∧ dstIn (rowAt rows r) (rowAt rows q) = false ∧ dstIn (rowAt rows q) (rowAt rows r) = false ∧ ((rowAt rows q).op.fresh = true → (rowAt rows r).op.loud = false ∨ isCall (rowAt rows r).op = true) := by
  unfold pairOk at h
  have hd' : depB cls q r = false := by simpa using hd
  rw [hd'] at h
  simp only [Bool.false_or, Bool.and_eq_true, Bool.not_eq_true', Bool.and_eq_false_iff] at h
  obtain ⟨⟨⟨h1, h2⟩, h3⟩, h4⟩ := h
  exact ⟨h1, h2, h3, fun hf => by rcases h4 with (h4 | h4) | h4; · rw [hf] at h4; cases h4
                                  · exact .inl h4
                                  · exact .inr (by simpa using h4)⟩
theorem firm_loud {rows : List ARow} {q : Nat} (h : firmR rows q = false) : (rowAt rows q).op.loud = false := by
  unfold firmR at h
  simp only [Bool.or_eq_false_iff] at h
  exact h.1
theorem firm_war {rows : List ARow} {q x : Nat} (h : firmR rows q = false) (hx : x < q) : dstIn (rowAt rows q) (rowAt rows x) = false := by
  unfold firmR at h
  simp only [Bool.or_eq_false_iff, List.any_eq_false, List.mem_range] at h
  simpa using h.2 x hx
theorem dstIn_true {x y : ARow} {d : Nat} (hd : x.dst = some d) (hm : d ∈ namesR y) : dstIn x y = true := by
  unfold dstIn
  rw [hd]
  simpa using hm

variable (T : Trace P cf rows S) (hver : ∀ g args H v H', cf g args H = some (v, H') → VerLe H H')
include T in
theorem env_same {t : Nat} : ∀ {r q : Nat}, q ≤ r → r ≤ rows.length → (∀ x, q ≤ x → x < r → (rowAt rows x).dst ≠ some t) → eget (S r).1 t = eget (S q).1 t := by
  intro r
  induction r with
  | zero => 
    intro q h _ _
    obtain rfl : q = 0 := by omega
    rfl
  | succ r ih =>
    intro q h hr hx
    by_cases e : q = r + 1
    · subst e; rfl
    · obtain ⟨v, _, he⟩ := T.step r (by omega)
      rw [he]
      have hne := hx r (by omega) (by omega)
      have : eget (eput (S r).1 (rowAt rows r).dst v) t = eget (S r).1 t := by
        cases hd : (rowAt rows r).dst with
        | none => rfl
        | some d =>
          simp only [eput, eget_cons]
          rw [if_neg (fun e => hne (by rw [hd, e]))]
      rw [this]
      exact ih (by omega) (by omega) (fun x h1 h2 => hx x h1 (by omega))
include T hver in
theorem ver_range : ∀ {r q : Nat}, q ≤ r → r ≤ rows.length → VerLe (S q).2 (S r).2 := by
  intro r
  induction r with
  | zero => 
    intro q h _
    obtain rfl : q = 0 := by omega
    exact VerLe.refl _
  | succ r ih =>
    intro q h hr
    by_cases e : q = r + 1
    · subst e; exact VerLe.refl _
    · obtain ⟨v, hv, _⟩ := T.step r (by omega)
      exact (ih (by omega) (by omega)).trans (rowV_ver hver hv)
include T in
theorem quiet_range {σ : Sig} {w : World} {p : Nat} (hh : HR P σ base (S p).2 w) (hf : Fr σ0 σ H0 (S p).2 w0 w) : ∀ {q : Nat}, p ≤ q → q ≤ rows.length → (∀ x, p ≤ x → x < q → (rowAt rows x).op.loud = false) → HR P σ base (S q).2 w ∧ Fr σ0 σ H0 (S q).2 w0 w := by
  intro q
  induction q with
  | zero => 
    intro h _ _
    obtain rfl : p = 0 := by omega
    exact ⟨hh, hf⟩
  | succ q ih =>
    intro h hq hx
    by_cases e : p = q + 1
    · subst e; exact ⟨hh, hf⟩
    · obtain ⟨h1, h2⟩ := ih (by omega) (by omega) (fun x a b => hx x a (by omega))
      obtain ⟨v, hv, _⟩ := T.step q (by omega)
      rcases rowV_quiet (hx q (by omega) (by omega)) hv with ⟨e1, _⟩ | ⟨_, _, b, hb, e1⟩
      · rw [e1]; exact ⟨h1, h2⟩
      · rw [e1]
        exact ⟨h1.reserve (newA_blk hb).2.1, h2.reserve h1 b⟩
include T hver in
theorem quiet_block {q : Nat} {b : ABlk} (hb : (S (q + 1)).2 = (S q).2.push b) (hfr : (rowAt rows q).op.fresh = true) (hb0 : b.st = .tip ∧ b.anc = [] ∧ b.ver = 0) : ∀ {p : Nat}, q + 1 ≤ p → p ≤ rows.length → (∀ x, q + 1 ≤ x → x < p → (rowAt rows x).op.loud = false ∨ isCall (rowAt rows x).op = true) →
    (S p).2.get (S q).2.n = some b ∧ (S q).2.n + 1 ≤ (S p).2.n := by
  intro p
  induction p with
  | zero => intro h; omega
  | succ p ih =>
    intro h hp hx
    by_cases e : q = p
    · subst e
      rw [hb]
      exact ⟨by rw [AHeap.get_push, if_pos rfl], by simp⟩
    · obtain ⟨h1, h2⟩ := ih (by omega) (by omega) (fun x a b => hx x a (by omega))
      obtain ⟨v, hv, _⟩ := T.step p (by omega)
      rcases hx p (by omega) (by omega) with hl | hc
      · rcases rowV_quiet hl hv with ⟨e1, _⟩ | ⟨_, _, b2, hb2, e1⟩
        · rw [e1]; exact ⟨h1, h2⟩
        · rw [e1]
          refine ⟨?_, by simp; omega⟩
          rw [AHeap.get_push, if_neg (by omega)]
          exact h1
      · have hw := T.watch q p (by omega) (by omega) hfr hc
        obtain ⟨hn, hall⟩ := rowV_ver hver hv
        obtain ⟨b', g1, g2, g3, g4⟩ := hall _ _ h1
        rw [g1] at hw
        simp only [calmB, Bool.and_eq_true] at hw
        obtain ⟨⟨w1, w2⟩, w3⟩ := hw
        have hv0 : b'.ver = 0 := Nat.eq_of_beq_eq_true w1
        have hst : b'.st = .tip := by revert w2; cases b'.st <;> simp
        have han : b'.anc = [] := by revert w3; cases b'.anc <;> simp
        obtain ⟨g5, _, _⟩ := g4 (by rw [hv0, hb0.2.2])
        refine ⟨?_, by omega⟩
        rw [g1]
        obtain ⟨c1, c2, c3, c4, c5⟩ := b'
        obtain ⟨d1, d2, d3, d4, d5⟩ := b
        simp only at g3 g5 hv0 hst han hb0
        obtain ⟨rfl, rfl, rfl⟩ := hb0
        subst g3 g5 hv0 hst han
        rfl
end
end Lon
