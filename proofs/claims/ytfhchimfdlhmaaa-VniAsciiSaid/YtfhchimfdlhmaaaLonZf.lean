/- What is proved here: a part of a statement's proof. Conditions: those that each theorem names, and no others. -/
import Derived.Test.YtfhchimfdlhmaaaLonZe
import Derived.Deep.Slices
import Derived.SizedLaws
/-! Arguments in memory: how what lies ahead of the call comes into the interpreter's heap. -/
set_option linter.unusedSimpArgs false
set_option linter.unusedVariables false
namespace Lon
open Go Go.ChangeShapes Go.WideShapes Go.ChangeAt Go.RowKit

section
variable {P : Program} {σ : Sig} {base : Nat} {H : AHeap} {w : World}
def Sig.more (σ : Sig) (n : Nat) (l : Loc) : Sig := fun i => if i = n then some l else σ i
theorem HR.sigLt (h : HR P σ base H w) {i : Nat} {l : Loc} (hi : σ i = some l) : i < H.n := by
  rcases Nat.lt_or_ge i H.n with h1 | h1
  · exact h1
  · rw [h.out i h1] at hi; cases hi
theorem HR.subMore (h : HR P σ base H w) (l : Loc) : Sub σ (σ.more H.n l) := fun i x hi => by
  have := h.sigLt hi
  unfold Sig.more
  rw [if_neg (by omega)]
  exact hi
theorem HR.push_ro (h : HR P σ base H w) {cells : List Value} {el : TypeId} {l : Loc} (hel : (P.info? el).map (·.size) = some l.sz) (hlt : l.b < w.heap.size) (hbase : l.b < base) (hcells : ∀ k v, cells[k]? = some v → ∃ v', w.cell? ⟨l.b, l.f + k, none⟩ = some v' ∧ VR σ v v') :
    HR P (σ.more H.n l) base (H.push ⟨cells, el, .ro, 0, []⟩) w := by
  have hs := h.subMore l
  have old : ∀ {i blk}, (H.push ⟨cells, el, .ro, 0, []⟩).get i = some blk → (i = H.n ∧ blk = ⟨cells, el, .ro, 0, []⟩) ∨ (i ≠ H.n ∧ H.get i = some blk) := by
    intro i blk hg
    rw [AHeap.get_push] at hg
    split at hg
    · injection hg with hg; exact .inl ⟨by assumption, hg.symm⟩
    · exact .inr ⟨by assumption, hg⟩
  have sg0 : σ.more H.n l H.n = some l := by unfold Sig.more; rw [if_pos rfl]
  have sg1 : ∀ {i}, i ≠ H.n → σ.more H.n l i = σ i := fun hi => by unfold Sig.more; rw [if_neg hi]
  constructor
  · intro i blk l' hg hl
    rcases old hg with ⟨rfl, rfl⟩ | ⟨hi, hg⟩
    · rw [sg0] at hl; injection hl with hl; subst hl; exact hel
    · rw [sg1 hi] at hl; exact h.elem hg hl
  · intro i hi
    simp at hi
    rw [sg1 (by omega)]
    exact h.out i (by omega)
  · intro i blk l' hg hd hl
    rcases old hg with ⟨rfl, rfl⟩ | ⟨hi, hg⟩
    · rw [sg0] at hl; injection hl with hl; subst hl; exact hlt
    · rw [sg1 hi] at hl; exact h.lt hg hd hl
  · intro i blk l' hg hd hl k v hk
    rcases old hg with ⟨rfl, rfl⟩ | ⟨hi, hg⟩
    · rw [sg0] at hl; injection hl with hl; subst hl
      obtain ⟨v', h1, h2⟩ := hcells k v hk
      exact ⟨v', h1, h2.mono hs⟩
    · rw [sg1 hi] at hl
      obtain ⟨v', h1, h2⟩ := h.cells hg hd hl hk
      exact ⟨v', h1, h2.mono hs⟩
  · intro i blk l' hg hd hl
    rcases old hg with ⟨rfl, rfl⟩ | ⟨hi, hg⟩
    · rw [sg0] at hl; injection hl with hl; subst hl; exact hbase
    · rw [sg1 hi] at hl; exact h.ro hg hd hl
  · intro i blk l' hg hd hl
    rcases old hg with ⟨rfl, rfl⟩ | ⟨hi, hg⟩
    · cases hd
    · rw [sg1 hi] at hl; exact h.own hg hd hl
  · intro i blk l' hg hd hl
    rcases old hg with ⟨rfl, rfl⟩ | ⟨hi, hg⟩
    · cases hd
    · rw [sg1 hi] at hl; exact h.row hg hd hl
  · intro i blk l' hg hd hl
    rcases old hg with ⟨rfl, rfl⟩ | ⟨hi, hg⟩
    · cases hd
    · rw [sg1 hi] at hl; exact h.fits hg hd hl
  · intro i blk l' hg hd hl
    rcases old hg with ⟨rfl, rfl⟩ | ⟨hi, hg⟩
    · cases hd
    · rw [sg1 hi] at hl
      obtain ⟨es, clock, h1, h2⟩ := h.map hg hd hl
      exact ⟨es, clock, h1, h2.mono hs⟩
  · intro i j bi bj li lj hij hgi hgj hoi hoj hli hlj hb
    rcases old hgi with ⟨rfl, rfl⟩ | ⟨hi, hgi⟩
    · cases hoi
    · rcases old hgj with ⟨rfl, rfl⟩ | ⟨hj, hgj⟩
      · cases hoj
      · rw [sg1 hi] at hli; rw [sg1 hj] at hlj; exact h.sep hij hgi hgj hoi hoj hli hlj hb
  · intro i j bi bj hgi hgj hoi hoj ha
    rcases old hgi with ⟨rfl, rfl⟩ | ⟨hi, hgi⟩
    · cases hoi
    · rcases old hgj with ⟨rfl, rfl⟩ | ⟨hj, hgj⟩
      · cases hoj
      · exact h.anc hgi hgj hoi hoj ha
  · intro i j bi bj li lj hgi hgj hoi hoj ha hli hlj hb
    rcases old hgi with ⟨rfl, rfl⟩ | ⟨hi, hgi⟩
    · cases hoi
    · rcases old hgj with ⟨rfl, rfl⟩ | ⟨hj, hgj⟩
      · cases hoj
      · rw [sg1 hi] at hli; rw [sg1 hj] at hlj; exact h.ends hgi hgj hoi hoj ha hli hlj hb
  · intro j bj hgj i hi
    rcases old hgj with ⟨rfl, rfl⟩ | ⟨hj, hgj⟩
    · cases hi
    · exact h.ancJ hgj i hi
theorem cells_lt {a : Addr} {v : Value} (h : w.cell? a = some v) : a.block < w.heap.size ∧ a.spot = none := by
  unfold World.cell? at h
  split at h
  · rename_i c _ _ hb
    split at h
    · cases h
    · rename_i hs
      refine ⟨(Array.getElem?_eq_some_iff.1 hb).1, ?_⟩
      cases hh : a.spot with
      | none => rfl
      | some k => rw [hh] at hs; exact absurd rfl hs
  · cases h
section
variable {P : Program} {H H' : AHeap}
/-- The block under a slice has elements of sz cells. -/
def Cut (P : Program) (H : AHeap) (v : Value) (sz : Nat) : Prop := match v with
  | .slice (some ⟨i, _, none⟩) _ _ => ∃ b, H.get i = some b ∧ (P.info? b.elem).map (·.size) = some sz
  | _ => True
theorem Cut.ext (hx : Ext H H') {v : Value} {sz : Nat} (h : Cut P H v sz) : Cut P H' v sz := by
  unfold Cut at h ⊢
  split at h
  · obtain ⟨b, h1, h2⟩ := h
    exact ⟨b, hx.get h1, h2⟩
  · trivial
theorem Cut.nil {sz : Nat} : Cut P H (.slice none 0 0) sz := trivial
theorem Cut.new {i n c sz : Nat} {b : ABlk} (hg : H.get i = some b) (hs : (P.info? b.elem).map (·.size) = some sz) : Cut P H (.slice (some ⟨i, 0, none⟩) n c) sz := ⟨b, hg, hs⟩
end
/-- A type's values are brought into the heap as 's' cells, of which Q tells what they say. -/
def OpenerB (B : Nat) (P : Program) (t : TypeId) (s : Nat) (ρ : Type) (Q : AHeap → List Value → ρ → Prop) : Prop :=
  ∀ {K : Type} {enc : TypeId × Value → K} {W : World} {σ : Sig} {H : AHeap} {fuel : Nat} {cs : List Value} {x : DataW K × List MemPlace}, HR P σ W.heap.size H W → DataW.trod enc P W 0 (fun _ => true) true fuel t cs = some x → (∀ n ∈ x.1.weights P t, n ≤ B) →
    ∃ σ' H' acs r, HR P σ' W.heap.size H' W ∧ Sub σ σ' ∧ Ext H H' ∧ VRs σ' acs cs ∧ acs.length = s ∧ Q H' acs r
def Mono {ρ : Type} (Q : AHeap → List Value → ρ → Prop) : Prop := ∀ ⦃H H' : AHeap⦄ ⦃acs : List Value⦄ ⦃r : ρ⦄, Ext H H' → Q H acs r → Q H' acs r
def qInt (k : IntKind) (_ : AHeap) (acs : List Value) (n : Int) : Prop := acs = [.int k n] ∧ (Lit.int k n).wf = true
def qBool (_ : AHeap) (acs : List Value) (b : Bool) : Prop := acs = [.bool b]
theorem qInt_mono (k : IntKind) : Mono (qInt k) := fun _ _ _ _ _ h => h
theorem qBool_mono : Mono qBool := fun _ _ _ _ _ h => h
theorem Opener.int {B : Nat} {t : TypeId} {k : IntKind} (ht : P.underlying t = some (.int k)) : OpenerB B P t 1 Int (qInt k) := by
  intro K enc W σ H fuel cs x hh h _
  cases fuel with
  | zero => simp [DataW.trod] at h
  | succ n =>
    unfold DataW.trod at h
    rw [ht] at h
    split at h <;> simp_all
    refine ⟨σ, H, hh, Sub.refl _, Ext.refl _, _, .cons _ _ _ _ (.int _ _) .nil, rfl, _, rfl, ?_⟩
    simp_all
theorem Opener.bool {B : Nat} {t : TypeId} (ht : P.underlying t = some .bool) : OpenerB B P t 1 Bool qBool := by
  intro K enc W σ H fuel cs x hh h _
  cases fuel with
  | zero => simp [DataW.trod] at h
  | succ n =>
    unfold DataW.trod at h
    rw [ht] at h
    split at h <;> simp_all
    rename_i b
    exact ⟨σ, H, hh, Sub.refl _, Ext.refl _, [.bool b], .cons _ _ _ _ (.bool _) .nil, rfl, by cases b <;> simp [qBool]⟩
def qSliceB (B : Nat) (P : Program) {ρ : Type} (s b : Nat) (Q : AHeap → List Value → ρ → Prop) (H : AHeap) (acs : List Value) (L : List ρ) : Prop :=
  ∃ v cells, acs = [v] ∧ Sl H s v L.length cells ∧ L.length * b ≤ B ∧ Cut P H v s ∧ ∀ k r, L[k]? = some r → Q H ((cells.drop (k * s)).take s) r
theorem qSlice_mono {B : Nat} {ρ : Type} {s b : Nat} {Q : AHeap → List Value → ρ → Prop} (hQ : Mono Q) : Mono (qSliceB B P s b Q) := fun _ _ _ _ hx ⟨v, cells, h1, h2, h3, hc, h4⟩ => ⟨v, cells, h1, h2.ext hx, h3, hc.ext hx, fun k r hr => hQ hx (h4 k r hr)⟩
theorem spot_off {a : Addr} {n : Nat} (h : a.spot = none) : a.add n = ⟨a.block, a.off + n, none⟩ := by
  unfold Addr.add
  split
  · rename_i hn; subst hn; obtain ⟨b, o, s⟩ := a; simp at h; subst h; rfl
  · rfl
theorem mem_weightsAll {K : Type} {e : TypeId} {n : Nat} {d : DataW K} : ∀ {l : List (DataW K)}, d ∈ l → n ∈ d.weights P e → n ∈ DataW.weightsAll P e l
  | [], h, _ => by cases h
  | a :: l, h, hn => by
    unfold DataW.weightsAll
    rcases List.mem_cons.1 h with rfl | h
    · exact List.mem_append_left _ hn
    · exact List.mem_append_right _ (mem_weightsAll h hn)
theorem Opener.slice {B : Nat} {t el : TypeId} {s b : Nat} {ρ : Type} {Q : AHeap → List Value → ρ → Prop} (he : OpenerB B P el s ρ Q) (hQ : Mono Q) (ht : P.underlying t = some (.slice el)) (hc : P.cellsOf el = s) (hi : (P.info? el).map (·.size) = some s) (hs : 0 < s) (hby : P.bytesOf el = b) :
    OpenerB B P t 1 (List ρ) (qSliceB B P s b Q) := by
  intro K enc W σ H fuel cs x hh h hwt
  rcases Go.Deep.open_slice ht h with ⟨rfl, _⟩ | ⟨a, len, cap, m, n, D, Pl, rfl, hb, hl, hm, hmm, rfl, hx⟩
  · exact ⟨σ, H, [.slice none 0 0], [], hh, Sub.refl _, Ext.refl _, .cons _ _ _ _ .nilSlice .nil, rfl, _, [], rfl, Sl.nil _ _, by simp, trivial, fun k r hr => by simp at hr⟩
  simp only [if_true] at hmm
  subst hmm
  rw [hc] at hx
  by_cases h0 : m = 0
  · obtain rfl : len = 0 := by omega
    subst h0
    exact ⟨σ, H, [.slice (some ⟨0, 0, some 0⟩) 0 0], [], hh, Sub.refl _, Ext.refl _, .cons _ _ _ _ (.nilAt _) .nil, rfl, _, [], rfl, ⟨⟨_, _, rfl⟩, rfl⟩, by simp, trivial, fun k r hr => by simp at hr⟩
  have hcell : ∀ i, i < m → ∃ cs', cs'.length = s ∧ (∀ j, j < s → W.cell? (a.add (i * s)) ≠ none ∧ W.cell? ((a.add (i * s)).add j) = cs'[j]?) ∧ DataW.trod enc P W 0 (fun _ => true) true n el cs' = some (D i, Pl i) := fun i hi => by
    obtain ⟨cs', h1, h2⟩ := hx i hi
    obtain ⟨_, h3, h4⟩ := World.cells?_some h1
    refine ⟨cs', h3, fun j hj => ⟨?_, h4 j hj⟩, h2⟩
    have := h4 0 hs
    rw [show (a.add (i * s)).add 0 = a.add (i * s) from by simp [Addr.add]] at this
    rw [this, List.getElem?_eq_getElem (by omega)]
    simp
  have hsp : a.block < W.heap.size ∧ a.spot = none := by
    obtain ⟨cs', _, h1, _⟩ := hcell 0 (by omega)
    have := (h1 0 hs).1
    rw [Nat.zero_mul, show a.add 0 = a from by simp [Addr.add]] at this
    cases hv : W.cell? a with
    | none => exact absurd hv this
    | some v => exact cells_lt hv
  have hcell2 : ∀ i, i < m → ∃ cs', cs'.length = s ∧ (∀ j, j < s → W.cell? ⟨a.block, a.off + (i * s + j), none⟩ = cs'[j]?) ∧ DataW.trod enc P W 0 (fun _ => true) true n el cs' = some (D i, Pl i) := fun i hi => by
    obtain ⟨cs', h1, h2, h3⟩ := hcell i hi
    refine ⟨cs', h1, fun j hj => ?_, h3⟩
    have := (h2 j hj).2
    rw [spot_off hsp.2, spot_off rfl] at this
    rw [← this]
    simp only [Nat.add_assoc]
  have hw0 : (len + (m - len)) * b ≤ B ∧ ∀ k, k < len → ∀ n ∈ (D k).weights P el, n ≤ B := by
    unfold DataW.weights at hwt
    simp only [ht, hby] at hwt
    refine ⟨?_, fun k hk n hn => hwt n (List.mem_cons_of_mem _ (List.mem_append_left _ (mem_weightsAll (List.mem_map.2 ⟨k, List.mem_range.2 hk, rfl⟩) hn)))⟩
    have := hwt _ (List.mem_cons_self ..)
    simpa using this
  have build : ∀ k, k ≤ len → ∃ σ' H' cells L, HR P σ' W.heap.size H' W ∧ Sub σ σ' ∧ Ext H H' ∧ List.length cells = k * s ∧ List.length L = k ∧ (∀ j v, cells[j]? = some v → ∃ v', W.cell? ⟨a.block, a.off + j, none⟩ = some v' ∧ VR σ' v v') ∧ ∀ j r, L[j]? = some r → Q H' ((cells.drop (j * s)).take s) r := by
    intro k
    induction k with
    | zero => intro _; exact ⟨σ, H, [], [], hh, Sub.refl _, Ext.refl _, by simp, rfl, fun j v hj => by simp at hj, fun j r hj => by simp at hj⟩
    | succ k ih =>
      intro hk
      obtain ⟨σ1, H1, cells, L, g1, g2, g3, g4, g5, g6, g7⟩ := ih (by omega)
      obtain ⟨cs', c1, c2, c3⟩ := hcell2 k (by omega)
      obtain ⟨σ2, H2, acs, r, e1, e2, e3, e4, e5, e6⟩ := he g1 c3 (hw0.2 k (by omega))
      refine ⟨σ2, H2, cells ++ acs, L ++ [r], e1, Sub.trans g2 e2, g3.trans e3, by rw [List.length_append, g4, e5, Nat.succ_mul], by simp [g5], fun j v hj => ?_, fun j r' hj => ?_⟩
      · rcases Nat.lt_or_ge j cells.length with hlt | hge
        · rw [List.getElem?_append_left hlt] at hj
          obtain ⟨v', q1, q2⟩ := g6 j v hj
          exact ⟨v', q1, q2.mono e2⟩
        · rw [List.getElem?_append_right hge] at hj
          obtain ⟨v', q1, q2⟩ := e4.get hj
          refine ⟨v', ?_, q2⟩
          have hjs : j - cells.length < s := by rw [← e5]; exact (List.getElem?_eq_some_iff.1 hj).1
          have := c2 (j - cells.length) hjs
          rw [q1] at this
          rw [← this]
          congr 3
          omega
      · rcases Nat.lt_or_ge j L.length with hlt | hge
        · rw [List.getElem?_append_left hlt] at hj
          have hle : j * s + s ≤ cells.length := by rw [g4, ← Nat.succ_mul]; exact Nat.mul_le_mul_right _ (by omega)
          have := g7 j r' hj
          rw [List.drop_append_of_le_length (by omega), List.take_append_of_le_length (by simp; omega)]
          exact hQ e3 this
        · rw [List.getElem?_append_right hge] at hj
          have hj0 : j = L.length := by
            have := (List.getElem?_eq_some_iff.1 hj).1
            simp at this
            omega
          subst hj0
          simp at hj
          subst hj
          rw [g5, ← g4, List.drop_left, ← e5, List.take_length]
          exact e6
  obtain ⟨σ1, H1, cells, L, g1, g2, g3, g4, g5, g6, g7⟩ := build len (Nat.le_refl _)
  have hp := g1.push_ro (cells := cells) (el := el) (l := ⟨a.block, a.off, a.off + m * s, s⟩) hi hsp.1 hsp.1 g6
  have hxp : Ext H1 (H1.push ⟨cells, el, .ro, 0, []⟩) := Ext.push _ _
  refine ⟨_, _, [.slice (some ⟨H1.n, 0, none⟩) len (len + 1)], L, hp, Sub.trans g2 (g1.subMore _), g3.trans hxp, .cons _ _ _ _ ?_ .nil, rfl, _, cells, rfl, ?_, by rw [g5]; exact Nat.le_trans (Nat.mul_le_mul_right _ (by omega)) hw0.1, ⟨_, get_push_self, hi⟩, fun k r hr => hQ hxp (g7 k r hr)⟩
  · have hd : a = ⟨a.block, a.off, none⟩ := by obtain ⟨b, o, sp⟩ := a; simp at hsp; rw [hsp.2]
    rw [hd]
    exact .slice H1.n 0 len (len + 1) a.off m ⟨a.block, a.off, a.off + m * s, s⟩ (by unfold Sig.more; rw [if_pos rfl]) (fun _ => rfl) hl (by omega) (fun h => by omega) (Nat.le_refl _)
  · rw [g5]
    exact Sl.new get_push_self rfl g4
/-- A row of fields. -/
def OpenersB (B : Nat) (P : Program) (fs : List Field) (o s : Nat) (ρ : Type) (Q : AHeap → List Value → ρ → Prop) : Prop :=
  ∀ {K : Type} {enc : TypeId × Value → K} {W : World} {σ : Sig} {H : AHeap} {cs : List Value}, HR P σ W.heap.size H W → (∀ f ∈ fs, ∃ fuel x, DataW.trod enc P W 0 (fun _ => true) true fuel f.type ((cs.drop f.offset).take (P.cellsOf f.type)) = some x ∧ ∀ n ∈ x.1.weights P f.type, n ≤ B) →
    ∃ σ' H' acs r, HR P σ' W.heap.size H' W ∧ Sub σ σ' ∧ Ext H H' ∧ VRs σ' acs ((cs.drop o).take s) ∧ acs.length = s ∧ Q H' acs r
def qTrue (_ : AHeap) (_ : List Value) (_ : Unit) : Prop := True
def qPair {ρ ρ' : Type} (s : Nat) (Q : AHeap → List Value → ρ → Prop) (Q' : AHeap → List Value → ρ' → Prop) (H : AHeap) (acs : List Value) (r : ρ × ρ') : Prop := Q H (acs.take s) r.1 ∧ Q' H (acs.drop s) r.2
theorem qTrue_mono : Mono qTrue := fun _ _ _ _ _ _ => trivial
theorem qPair_mono {ρ ρ' : Type} {s : Nat} {Q : AHeap → List Value → ρ → Prop} {Q' : AHeap → List Value → ρ' → Prop} (h : Mono Q) (h' : Mono Q') : Mono (qPair s Q Q') := fun _ _ _ _ hx ⟨a, b⟩ => ⟨h hx a, h' hx b⟩
theorem Openers.nil {B : Nat} {o : Nat} : OpenersB B P [] o 0 Unit qTrue := by
  intro K enc W σ H cs hh h
  exact ⟨σ, H, [], (), hh, Sub.refl _, Ext.refl _, by simpa using .nil, rfl, trivial⟩
theorem Openers.cons {B : Nat} {f : Field} {fs : List Field} {o s s' : Nat} {ρ ρ' : Type} {Q : AHeap → List Value → ρ → Prop} {Q' : AHeap → List Value → ρ' → Prop} (h1 : OpenerB B P f.type s ρ Q) (hQ : Mono Q) (ho : f.offset = o) (hc : P.cellsOf f.type = s) (h2 : OpenersB B P fs (o + s) s' ρ' Q') :
    OpenersB B P (f :: fs) o (s + s') (ρ × ρ') (qPair s Q Q') := by
  intro K enc W σ H cs hh h
  obtain ⟨fuel, x, hx, hxw⟩ := h f (List.mem_cons_self ..)
  rw [ho, hc] at hx
  obtain ⟨σ1, H1, acs1, r1, a1, a2, a3, a4, a5, a6⟩ := h1 hh hx hxw
  obtain ⟨σ2, H2, acs2, r2, b1, b2, b3, b4, b5, b6⟩ := h2 a1 (fun f hf => h f (List.mem_cons_of_mem _ hf))
  refine ⟨σ2, H2, acs1 ++ acs2, (r1, r2), b1, Sub.trans a2 b2, a3.trans b3, ?_, by simp [a5, b5], ⟨?_, ?_⟩⟩
  · rw [List.take_add, List.drop_drop]
    exact (a4.mono b2).append b4
  · rw [← a5, List.take_left]
    exact hQ b3 a6
  · rw [← a5, List.drop_left]
    exact b6
theorem Opener.struct {B : Nat} {t : TypeId} {fs : Array Field} {s : Nat} {ρ : Type} {Q : AHeap → List Value → ρ → Prop} (ht : P.underlying t = some (.struct fs)) (hc : P.cellsOf t = s) (h : OpenersB B P fs.toList 0 s ρ Q) : OpenerB B P t s ρ Q := by
  intro K enc W σ H fuel cs x hh hx hwt
  obtain ⟨xs, m, _, rfl, hl, hlen, hf⟩ := DataW.trod_struct ht hx
  obtain ⟨σ', H', acs, r, h1, h2, h3, h4, h5, h6⟩ := h (cs := cs) hh (fun f hfm => by
    obtain ⟨j, hj, rfl⟩ := List.getElem_of_mem hfm
    have hj' : j < fs.size := hj
    have := hf j fs.toList[j] (by simp [Array.getElem?_eq_getElem hj'])
    rw [List.getElem?_eq_getElem (by rw [hlen]; exact hj')] at this
    refine ⟨m, _, this, fun n hn => hwt n ?_⟩
    unfold DataW.weights
    simp only [ht]
    exact DataW.weights_mem_each (j := j) (t := fs.toList[j].type) (by simp [List.getElem?_eq_getElem hj]) (by rw [List.getElem?_map, List.getElem?_eq_getElem (by rw [hlen]; exact hj')]; rfl) n hn)
  rw [List.drop_zero, ← hc, ← hl, List.take_length] at h4
  exact ⟨σ', H', acs, r, h1, h2, h3, h4, h5, h6⟩
end
abbrev Opener := OpenerB reachBytes
abbrev Openers := OpenersB reachBytes
abbrev qSlice (P : Program) {ρ : Type} := @qSliceB reachBytes P ρ
/-- A slice of whole numbers of a kind. -/
def Nums (H : AHeap) (k : IntKind) (v : Value) (l : List Int) : Prop := Sl H 1 v l.length (l.map fun x => .int k x)
theorem Nums.ext {H H' : AHeap} (hk : Ext H H') {k : IntKind} {v : Value} {l : List Int} (h : Nums H k v l) : Nums H' k v l := Sl.ext hk h
theorem Nums.at {H : AHeap} {kd : IntKind} {v : Value} {l : List Int} (h : Nums H kd v l) {k : Nat} {x : Int} (hk : l[k]? = some x) :
    ∃ i o, (∀ (kd : IntKind) (H2 : AHeap), vIaddr v (.int kd k) 1 H2 = some (.pointer (some ⟨i, o, none⟩), H2)) ∧ gotLoad (H.get i) o none H = some (.int kd x, H) := by
  obtain ⟨i, o, h1, h2, _⟩ := Sl.at h (List.getElem?_eq_some_iff.1 hk).1
  refine ⟨i, o, h1, ?_⟩
  exact h2 0 _ (by omega) (by simp [hk])
theorem qSlice_nums {B : Nat} {P : Program} {H : AHeap} {kd : IntKind} {b : Nat} {acs : List Value} {L : List Int} (h : qSliceB B P 1 b (qInt kd) H acs L) : ∃ v, acs = [v] ∧ Nums H kd v L ∧ Cut P H v 1 ∧ L.length * b ≤ B ∧ ∀ n ∈ L, (Lit.int kd n).wf = true := by
  obtain ⟨v, cells, rfl, h1, h2, h3, h4⟩ := h
  have hc : cells = L.map fun x => .int kd x := by
    have hl := h1.length
    apply List.ext_getElem?
    intro j
    rcases Nat.lt_or_ge j L.length with hj | hj
    · obtain ⟨hq, _⟩ := h4 j _ (List.getElem?_eq_getElem hj)
      have : ((cells.drop (j * 1)).take 1)[0]? = [Value.int kd L[j]][0]? := by rw [hq]
      simp only [List.getElem?_take, List.getElem?_drop, Nat.mul_one, Nat.add_zero, if_pos (show 0 < 1 by decide)] at this
      rw [this]
      simp [List.getElem?_eq_getElem hj]
    · rw [List.getElem?_eq_none (by omega), List.getElem?_eq_none (by simpa using hj)]
  subst hc
  refine ⟨v, rfl, h1, h3, h2, fun n hn => ?_⟩
  obtain ⟨j, hj, rfl⟩ := List.getElem_of_mem hn
  exact (h4 j _ (List.getElem?_eq_getElem hj)).2
/-- A call, from a heap that holds what lies ahead of it, to be read alone. -/
theorem calls_of_ro {P : Program} {σ : Sig} {H : AHeap} {g : FuncId} {args args' : List Value} {v : Value} {H' : AHeap} {w : World} (h : Sim P w.heap.size g args H v H') (ha : VRs σ args args') (hh : HR P σ w.heap.size H w) (hv : ground v = true) :
    Calls P g ⟨args'⟩ w fun e w' => e = .returned v ∧ Below w.heap.size w w' := by
  refine (h.2.2 σ w args' ha hh (Nat.le_refl _)).mono fun e w' hq => ?_
  obtain ⟨σ', v', rfl, q1, q2, q3⟩ := hq
  rw [VR.eq_ground hv q1]
  refine ⟨rfl, q3.os, q3.tape, q3.output, q3.size, fun k hk => q3.keep k hk (fun i blk l hi hac hl => ?_)⟩
  have hown : blk.st.own = true := by revert hac; cases blk.st <;> simp [St.act, St.own]
  have := hh.own hi hown hl
  omega

/-! Runs of a kernel's own. -/
def isTrue : Option (Value × AHeap) → Bool
  | some (.bool true, _) => true
  | _ => false
theorem isTrue_spec {r : Option (Value × AHeap)} (h : isTrue r = true) : ∃ H, r = some (.bool true, H) := by
  unfold isTrue at h
  split at h
  · exact ⟨_, rfl⟩
  · cases h
theorem gives_true {P : Program} {l : List (FuncId × AFunc)} {Ω : CallF} {g : FuncId} {args : List Value} {H : AHeap} (n : Nat) (h : isTrue (callB P (tabB l) Ω n g args H) = true) : Gives (cw P (tabF l) Ω g args H) fun v _ => v = .bool true := by
  obtain ⟨H', h⟩ := isTrue_spec h
  exact ⟨_, _, cw_ofT n h, rfl⟩
/-- One argument, each of its values run. -/
theorem gives_all {P : Program} {l : List (FuncId × AFunc)} {Ω : CallF} {g : FuncId} {k : IntKind} {H : AHeap} (n m : Nat) (h : ((List.range m).all fun c => isTrue (callB P (tabB l) Ω n g [.int k c] H)) = true) {c : Int} (hc : 0 ≤ c ∧ c < m) : Gives (cw P (tabF l) Ω g [.int k c] H) fun v _ => v = .bool true := by
  obtain ⟨j, rfl⟩ : ∃ j : Nat, c = j := ⟨c.toNat, by omega⟩
  exact gives_true n (List.all_eq_true.mp h j (List.mem_range.mpr (by omega)))
end Lon
