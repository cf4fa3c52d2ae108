/- What is proved here: what a region that draws its order looks like. Conditions: those that each theorem names, and no others. -/
import Derived.Test.YtfhchimfdlhmaaaLonP
/-! Regions that draw their order, first part: the static look, the trace, the heap. -/
set_option linter.unusedSimpArgs false
set_option linter.unusedVariables false
namespace Lon
open Go

def AOp.fresh : AOp → Bool
  | .alloc .. | .box .. | .bslice .. => true
  | _ => false
def namesR (r : ARow) : List Nat := slotsR r ++ r.dst.toList
def dstIn (x y : ARow) : Bool := match x.dst with
  | some d => (namesR y).contains d
  | none => false
def edgesPos (ops : Array Oper) (l : List Nat) (q : Nat) : List Nat :=
  match ops[l.getD q ops.size]? with
  | some o => (o.after.toList.filter (Region.binds .any)).map fun e => l.idxOf e.on
  | none => []
def rowAt (rows : List ARow) (q : Nat) : ARow := rows.getD q ⟨none, .alloc [] 0, none⟩
def firmR (rows : List ARow) (q : Nat) : Bool := (rowAt rows q).op.loud || (List.range q).any fun x => dstIn (rowAt rows q) (rowAt rows x)
def depB (cls : List (List Nat)) (x q : Nat) : Bool := (cls.getD q []).contains x
def pairOk (rows : List ARow) (cls : List (List Nat)) (q r : Nat) : Bool :=
  depB cls q r || (!firmR rows q && !dstIn (rowAt rows r) (rowAt rows q) && !dstIn (rowAt rows q) (rowAt rows r) && !((rowAt rows q).op.fresh && (rowAt rows r).op.loud && !isCall (rowAt rows r).op))
def selfOk (r : ARow) : Bool := match r.dst with
  | some d => !(slotsR r).contains d
  | none => true
def drawOk (ops : Array Oper) (l : List Nat) (rows : List ARow) (cls : List (List Nat)) : Bool :=
  l.length == ops.size && rows.length == ops.size &&
  (List.range ops.size).all (fun q => decide (l.getD q ops.size < ops.size) && l.idxOf (l.getD q ops.size) == q && selfOk (rowAt rows q)) &&
  (List.range ops.size).all (fun i => l.contains i) &&
  (List.range ops.size).all (fun q => (edgesPos ops l q).all (fun x => decide (x < q)) && (cls.getD q []).all (fun x => decide (x < ops.size) && ((edgesPos ops l q).contains x || (edgesPos ops l q).any fun y => depB cls x y))) &&
  (List.range ops.size).all (fun r => (List.range r).all fun q => pairOk rows cls q r) &&
  (!isStore (rowAt rows (ops.size - 1)).op || (List.range (ops.size - 1)).all fun q => depB cls q (ops.size - 1))
def prepDraw (P : Program) (nt : Nat) (ops : Array Oper) : List Nat → Option (List ARow)
  | [] => some []
  | i :: l => match (ops[i]?).bind (prepRow P nt ops), prepDraw P nt ops l with
    | some r, some rs => some (r :: rs)
    | _, _ => none

theorem prepDraw_get {P : Program} {nt : Nat} {ops : Array Oper} : ∀ {l : List Nat} {rows : List ARow}, prepDraw P nt ops l = some rows → rows.length = l.length ∧ ∀ (q i : Nat), l[q]? = some i → ∃ o r, ops[i]? = some o ∧ rows[q]? = some r ∧ prepRow P nt ops o = some r
  | [], rows, h => by simp [prepDraw] at h; subst h; exact ⟨rfl, fun q i hq => by simp at hq⟩
  | j :: l, rows, h => by
    simp only [prepDraw] at h
    split at h
    · rename_i r rs hr hrs
      injection h with h
      subst h
      obtain ⟨h1, h2⟩ := prepDraw_get hrs
      refine ⟨by simp [h1], fun q i hq => ?_⟩
      cases q with
      | zero =>
        simp at hq
        subst hq
        obtain ⟨o, ho, hp⟩ := Option.bind_eq_some_iff.1 hr
        exact ⟨o, r, ho, by simp, hp⟩
      | succ q =>
        simp at hq
        obtain ⟨o, r', ho, hr', hp⟩ := h2 q i hq
        exact ⟨o, r', ho, by simpa using hr', hp⟩
    · cases h

structure DOK (ops : Array Oper) (l : List Nat) (rows : List ARow) (cls : List (List Nat)) : Prop where
  len : l.length = ops.size
  rlen : rows.length = ops.size
  lt : ∀ {q}, q < ops.size → l.getD q ops.size < ops.size
  inj : ∀ {q}, q < ops.size → l.idxOf (l.getD q ops.size) = q
  self : ∀ {q}, q < ops.size → selfOk (rowAt rows q) = true
  surj : ∀ {i}, i < ops.size → ∃ q, q < ops.size ∧ l.getD q ops.size = i
  edge : ∀ {q o}, q < ops.size → ops[l.getD q ops.size]? = some o → ∀ e ∈ o.after, Region.binds .any e = true → l.idxOf e.on < q ∧ l.getD (l.idxOf e.on) ops.size = e.on
  dep : ∀ {q x}, q < ops.size → depB cls x q = true → x < ops.size ∧ ∃ o, ops[l.getD q ops.size]? = some o ∧ ∃ e ∈ o.after, Region.binds .any e = true ∧ (l.idxOf e.on = x ∨ depB cls x (l.idxOf e.on) = true)
  pair : ∀ {q r}, q < r → r < ops.size → pairOk rows cls q r = true
  last : isStore (rowAt rows (ops.size - 1)).op = true → ∀ {q}, q < ops.size - 1 → depB cls q (ops.size - 1) = true

theorem drawOk_spec {ops : Array Oper} {l : List Nat} {rows : List ARow} {cls : List (List Nat)} (h : drawOk ops l rows cls = true) : DOK ops l rows cls := by
  unfold drawOk at h
  simp only [Bool.and_eq_true, beq_iff_eq, List.all_eq_true, List.mem_range, decide_eq_true_eq] at h
  obtain ⟨⟨⟨⟨⟨⟨h1, h2⟩, h3⟩, h4⟩, h5⟩, h6⟩, h7⟩ := h
  have hidx : ∀ {x}, x ∈ l → l.getD (l.idxOf x) ops.size = x := by
    intro x hx
    have hlt : l.idxOf x < l.length := List.idxOf_lt_length_of_mem hx
    rw [List.getD_eq_getElem?_getD, List.getElem?_eq_getElem hlt]
    simp
  refine ⟨h1, h2, fun hq => (h3 _ hq).1.1, fun hq => (h3 _ hq).1.2, fun hq => (h3 _ hq).2, ?_, ?_, ?_, fun hqr hr => h6 _ hr _ hqr, fun hs q hq => ?_⟩
  · intro i hi
    have hm : i ∈ l := by simpa using h4 i hi
    exact ⟨l.idxOf i, by rw [← h1]; exact List.idxOf_lt_length_of_mem hm, hidx hm⟩
  · intro q o hq ho e he hb
    have := (h5 q hq).1 (l.idxOf e.on) (by
      unfold edgesPos
      rw [ho]
      simp only [List.mem_map, List.mem_filter]
      exact ⟨e, ⟨by simpa using he, hb⟩, rfl⟩)
    refine ⟨this, ?_⟩
    have hlt : l.idxOf e.on < l.length := by omega
    exact hidx (List.idxOf_lt_length_iff.1 hlt)
  · intro q x hq hd
    have hx : x ∈ cls.getD q [] := by simpa [depB] using hd
    obtain ⟨hxn, hor⟩ := (h5 q hq).2 x hx
    refine ⟨hxn, ?_⟩
    have hop : ∃ o, ops[l.getD q ops.size]? = some o := ⟨_, Array.getElem?_eq_getElem (h3 q hq).1.1⟩
    obtain ⟨o, ho⟩ := hop
    refine ⟨o, ho, ?_⟩
    unfold edgesPos at hor
    rw [ho] at hor
    simp only [Bool.or_eq_true, List.contains_iff_mem, List.mem_map, List.mem_filter, List.any_eq_true] at hor
    rcases hor with ⟨e, ⟨he, hb⟩, hx⟩ | ⟨y, ⟨e, ⟨he, hb⟩, hy⟩, hd2⟩
    · exact ⟨e, by simpa using he, hb, .inl hx⟩
    · exact ⟨e, by simpa using he, hb, .inr (by rw [hy]; exact hd2)⟩
  · rw [hs] at h7
    simp only [Bool.not_true, Bool.false_or, List.all_eq_true, List.mem_range] at h7
    exact h7 q hq

/-- Where what was loaded is to be as it was: the end, or ahead of a last store. -/
def endAt : List ARow → Nat
  | [] => 0
  | r :: rs => if lastSt r rs = true then 0 else endAt rs + 1
theorem endAt_cases : ∀ (rows : List ARow), endAt rows = rows.length ∨ (endAt rows + 1 = rows.length ∧ isStore (rowAt rows (endAt rows)).op = true)
  | [] => .inl rfl
  | r :: rs => by
    unfold endAt
    split
    · rename_i h
      unfold lastSt at h
      simp only [Bool.and_eq_true, List.isEmpty_iff] at h
      obtain ⟨rfl, h2⟩ := h
      exact .inr ⟨rfl, h2⟩
    · rcases endAt_cases rs with h | ⟨h1, h2⟩
      · exact .inl (by simp [h])
      · exact .inr ⟨by simp [h1], h2⟩
/-- What the interpreter went through. -/
structure Trace (P : Program) (cf : CallF) (rows : List ARow) (S : Nat → Env × AHeap) : Prop where
  step : ∀ q, q < rows.length → ∃ v, rowV P cf (rowAt rows q) (forget (slotsR (rowAt rows q)) (S q).1) (S q).2 = some (v, (S (q + 1)).2) ∧ (S (q + 1)).1 = eput (S q).1 (rowAt rows q).dst v
  watch : ∀ q r, q < r → r < rows.length → (rowAt rows q).op.fresh = true → isCall (rowAt rows r).op = true → calmB ((S (r + 1)).2.get (S q).2.n) = true
  stamp : ∀ q, q < rows.length → ∀ p ∈ stamps (S q).2 (forget (slotsR (rowAt rows q)) (S q).1) (rowAt rows q), ∃ b, (S (endAt rows)).2.get p.1 = some b ∧ b.ver = p.2
theorem still_spec {H : AHeap} {l : List (Nat × Nat)} (h : still H l = true) : ∀ p ∈ l, ∃ b, H.get p.1 = some b ∧ b.ver = p.2 := by
  intro p hp
  have := List.all_eq_true.1 h p hp
  split at this
  · rename_i b hb
    exact ⟨b, hb, by simpa using this⟩
  · cases this
theorem freshI_of {o : AOp} (h : o.fresh = true) (i : Nat) : freshI o i = [i] := by cases o <;> first | rfl | cases h
theorem draw_trace {P : Program} {cf : CallF} : ∀ {rows : List ARow} {st : List (Nat × Nat)} {F : List Nat} {e e' : Env} {H H' : AHeap}, drawA P cf rows st F e H = some (e', H') →
    ∃ S : Nat → Env × AHeap, S 0 = (e, H) ∧ S rows.length = (e', H') ∧ Trace P cf rows S ∧ (∀ p ∈ st, ∃ b, (S (endAt rows)).2.get p.1 = some b ∧ b.ver = p.2) ∧ ∀ r, r < rows.length → isCall (rowAt rows r).op = true → ∀ i ∈ F, calmB ((S (r + 1)).2.get i) = true
  | [], st, F, e, e', H, H', h => by
    simp only [drawA] at h
    split at h
    · rename_i hs
      injection h with h
      injection h with h1 h2
      subst h1 h2
      exact ⟨fun _ => (e, H), rfl, rfl, ⟨fun q hq => by simp at hq, fun q r _ hr => by simp at hr, fun q hq => by simp at hq⟩, still_spec hs, fun r hr => by simp at hr⟩
    · cases h
  | r :: rs, st, F, e, e', H, H', h => by
    simp only [drawA] at h
    split at h
    · rename_i v H1 h1
      split at h
      case isFalse => cases h
      rename_i hcond
      rw [Bool.and_eq_true] at hcond
      obtain ⟨hcalm, hstill⟩ := hcond
      obtain ⟨S, s0, s1, s2, s3, s4⟩ := draw_trace h
      have c0 : isCall r.op = true → ∀ i ∈ F, calmB (H1.get i) = true := fun hc i hi => by
        rw [hc] at hcalm
        simp only [Bool.not_true, Bool.false_or] at hcalm
        exact List.all_eq_true.1 hcalm i hi
      have hstamp : ∀ p ∈ stamps H (forget (slotsR r) e) r ++ st, ∃ b, ((fun q => match q with | 0 => (e, H) | q + 1 => S q : Nat → Env × AHeap) (endAt (r :: rs))).2.get p.1 = some b ∧ b.ver = p.2 := by
        intro p hp
        unfold endAt
        cases hl : lastSt r rs with
        | true =>
          rw [if_pos rfl]
          show ∃ b, H.get p.1 = some b ∧ b.ver = p.2
          rcases List.mem_append.1 hp with hp | hp
          · exfalso
            unfold lastSt at hl
            simp only [Bool.and_eq_true] at hl
            have hst := hl.2
            unfold stamps at hp
            revert hst hp
            cases r.op <;> simp [isStore]
          · rw [hl] at hstill
            exact still_spec (by simpa using hstill) p hp
        | false =>
          rw [if_neg (by simp)]
          rw [hl] at s3
          exact s3 p hp
      refine ⟨fun q => match q with | 0 => (e, H) | q + 1 => S q, rfl, s1, ⟨fun q hq => ?_, fun q k hqk hk hf hc => ?_, fun q hq p hp => ?_⟩, fun p hp => hstamp p (List.mem_append_right _ hp), fun k hk hc i hi => ?_⟩
      · cases q with
        | zero =>
          refine ⟨v, ?_, ?_⟩
          · show rowV P cf r (forget (slotsR r) e) H = some (v, (S 0).2)
            rw [s0]; exact h1
          · show (S 0).1 = _
            rw [s0]; rfl
        | succ q => exact s2.step q (by simpa using hq)
      · cases k with
        | zero => omega
        | succ k =>
          cases q with
          | zero =>
            have hf' : r.op.fresh = true := hf
            exact s4 k (by simpa using hk) hc H.n (List.mem_append_left _ (by rw [freshI_of hf']; simp))
          | succ q => exact s2.watch q k (by omega) (by simpa using hk) hf hc
      · cases q with
        | zero => exact hstamp p (List.mem_append_left _ hp)
        | succ q =>
          have hq' : q < rs.length := by simpa using hq
          have hne : lastSt r rs = false := by
            unfold lastSt
            cases rs with
            | nil => simp at hq'
            | cons _ _ => rfl
          have := s2.stamp q hq' p hp
          unfold endAt
          rw [hne, if_neg (by simp)]
          exact this
      · cases k with
        | zero => show calmB ((S 0).2.get i) = true; rw [s0]; exact c0 hc i hi
        | succ k => exact s4 k (by simpa using hk) hc i (List.mem_append_right _ hi)
    · cases h

section
variable {P : Program} {σ σ0 : Sig} {nt base : Nat} {e : Env} {a : Act} {o : Oper} {H H' H0 : AHeap} {w w0 : World}
theorem new_sound {ao : AOp} (hp : prepOp P o = some ao) (hf : ao.fresh = true) (her : ER σ nt e a) {i : Nat} {blk : ABlk} {v : Value} (h : newA e i ao = some (blk, v)) : NewOK P σ o a i blk v := by
  unfold prepOp prepBin at hp
  repeat' split at hp
  all_goals first
    | (cases hp; done)
    | (injection hp with hp; subst hp; cases hf; done)
    | (simp only [Option.map_eq_some_iff] at hp; obtain ⟨_, _, rfl⟩ := hp; cases hf; done)
    | (simp only [Option.bind_eq_some_iff, Option.map_eq_some_iff] at hp; obtain ⟨_, _, _, _, rfl⟩ := hp; cases hf; done)
    | skip
  · rename_i el ho
    simp only [Option.bind_eq_some_iff] at hp
    obtain ⟨z, hz, hp⟩ := hp
    split at hp
    · rename_i hza
      injection hp with hp
      subst hp
      simp only [newA] at h
      injection h with h
      injection h with h1 h2
      subst h1 h2
      exact sound_alloc her ho hz hza i
    · cases hp
  · rename_i el x ho hs
    injection hp with hp
    subst hp
    obtain ⟨s, hs⟩ := Option.isSome_iff_exists.1 hs
    simp only [newA] at h
    split at h
    · rename_i hx
      injection h with h
      injection h with h1 h2
      subst h1 h2
      exact sound_box her ho hs hx i
    · cases h
  · rename_i t n parts ho _ el hu _ _ s z hs hz hc
    simp only [Bool.and_eq_true, beq_iff_eq, decide_eq_true_eq] at hc
    injection hp with hp
    subst hp
    simp only [newA] at h
    split at h
    · rename_i hk
      injection h with h
      injection h with h1 h2
      subst h1 h2
      exact sound_bslice her ho hu hs hz hc.1.1 hc.1.2 hc.2 hk i
    · cases h

/-- A block that the interpreter has, and the world not yet. -/
theorem HR.reserve (h : HR P σ base H w) {b : ABlk} (ha : b.anc = []) : HR P σ base (H.push b) w := by
  have hn : σ H.n = none := h.out _ (Nat.le_refl _)
  have hget : ∀ i, (H.push b).get i = if i = H.n then some b else H.get i := AHeap.get_push H _
  have old : ∀ {i blk l}, (H.push b).get i = some blk → σ i = some l → H.get i = some blk := by
    intro i blk l hg hl
    rw [hget] at hg
    split at hg
    · rename_i e1
      subst e1
      rw [hn] at hl
      cases hl
    · exact hg
  refine ⟨fun hg hl => h.elem (old hg hl) hl, fun i hi => h.out i (by simp at hi; omega), fun hg hs hl => h.lt (old hg hl) hs hl, fun hg hs hl k v hk => h.cells (old hg hl) hs hl hk, fun hg hs hl => h.ro (old hg hl) hs hl, fun hg hs hl => h.own (old hg hl) hs hl,
    fun hg hs hl => h.row (old hg hl) hs hl, fun hg hs hl => h.fits (old hg hl) hs hl, fun hg hs hl => h.map (old hg hl) hs hl, fun hij hi hj si sj hli hlj hb => h.sep hij (old hi hli) (old hj hlj) si sj hli hlj hb, ?_,
    fun hi hj si sj hm hli hlj hb => h.ends (old hi hli) (old hj hlj) si sj hm hli hlj hb, ?_⟩
  · intro i j bi bj hi hj si sj hm
    rw [hget] at hi hj
    split at hj
    · injection hj with hj
      subst hj
      rw [ha] at hm
      simp at hm
    · have := h.ancLt hj i hm
      rw [if_neg (by omega)] at hi
      exact h.anc hi hj si sj hm
  · intro j bj hj i hm
    rw [hget] at hj
    split at hj
    · injection hj with hj
      subst hj
      rw [ha] at hm
      simp at hm
    · exact h.ancJ hj i hm
theorem Fr.reserve (h : Fr σ0 σ H0 H w0 w) (hh : HR P σ base H w) (b : ABlk) : Fr σ0 σ H0 (H.push b) w0 w where
  sub := h.sub
  old := h.old
  mono := by have := h.mono; simp; omega
  os := h.os
  tape := h.tape
  output := h.output
  size := h.size
  keep := h.keep
  tips j blk l hj ha hl := by
    rw [AHeap.get_push] at hj
    split at hj
    · rename_i e1
      subst e1
      rw [hh.out _ (Nat.le_refl _)] at hl
      cases hl
    · exact h.tips j blk l hj ha hl
  ver i x hx := by
    obtain ⟨y, hy, q⟩ := h.ver i x hx
    exact ⟨y, by rw [AHeap.get_push, if_neg (by have := AHeap.lt_of_get hy; omega)]; exact hy, q⟩
/-- The world lays it. -/
theorem HR.fill (h : HR P σ base H w) (hb : base ≤ w.heap.size) {i : Nat} {blk : ABlk} (hg : H.get i = some blk) (hst : blk.st = .tip) (han : blk.anc = []) (hn : σ i = none) (hni : ∀ j bj, H.get j = some bj → bj.st.own = true → i ∉ bj.anc)
    {cs : Array Value} {sz : Nat} (hc : VRs σ blk.cells cs.toList) (hs : szOf P blk.elem = some sz) : HR P (ext σ i ⟨w.heap.size, 0, cs.size, sz⟩) base H (w.alloc (.cells cs blk.elem)) := by
  have hsub := Sub.ext hn ⟨w.heap.size, 0, cs.size, sz⟩
  have hold : ∀ j, j ≠ i → ext σ i ⟨w.heap.size, 0, cs.size, sz⟩ j = σ j := fun j hj => by simp [ext, hj]
  have hnew : ext σ i ⟨w.heap.size, 0, cs.size, sz⟩ i = some ⟨w.heap.size, 0, cs.size, sz⟩ := by simp [ext]
  have hil := AHeap.lt_of_get hg
  have hlen := hc.length
  constructor
  · intro j b l hj hl
    by_cases e1 : j = i
    · subst e1
      rw [hg] at hj
      injection hj with hj
      subst hj
      rw [hnew] at hl
      injection hl with hl
      subst hl
      exact hs
    · rw [hold j e1] at hl
      exact h.elem hj hl
  · intro j hj
    rw [hold j (by omega)]
    exact h.out j hj
  · intro j b l hj hs' hl
    by_cases e1 : j = i
    · subst e1
      rw [hnew] at hl
      injection hl with hl
      subst hl
      simp
    · rw [hold j e1] at hl
      have := h.lt hj hs' hl
      simp; omega
  · intro j b l hj hs' hl k v hk
    by_cases e1 : j = i
    · subst e1
      rw [hg] at hj
      injection hj with hj
      subst hj
      rw [hnew] at hl
      injection hl with hl
      subst hl
      obtain ⟨v', h1, h2⟩ := hc.get hk
      exact ⟨v', by simpa using h1, h2.mono hsub⟩
    · rw [hold j e1] at hl
      obtain ⟨v', h1, h2⟩ := h.cells hj hs' hl hk
      exact ⟨v', by rw [World.cell?_alloc_lt _ _ _ (h.lt hj (mem_ne_dead hs') hl)]; exact h1, h2.mono hsub⟩
  · intro j b l hj hs' hl
    by_cases e1 : j = i
    · subst e1
      rw [hg] at hj
      injection hj with hj
      subst hj
      rw [hst] at hs'
      cases hs'
    · rw [hold j e1] at hl
      exact h.ro hj hs' hl
  · intro j b l hj hs' hl
    by_cases e1 : j = i
    · subst e1
      rw [hnew] at hl
      injection hl with hl
      subst hl
      exact hb
    · rw [hold j e1] at hl
      exact h.own hj hs' hl
  · intro j b l hj hs' hl
    by_cases e1 : j = i
    · subst e1
      rw [hnew] at hl
      injection hl with hl
      subst hl
      exact ⟨cs, blk.elem, heap_alloc_new w _, rfl⟩
    · rw [hold j e1] at hl
      obtain ⟨cur, e, h1, h2⟩ := h.row hj hs' hl
      exact ⟨cur, e, by rw [heap_alloc_old w _ _ (h.lt hj (mem_ne_dead (row_mem hs')) hl)]; exact h1, h2⟩
  · intro j b l hj hs' hl
    by_cases e1 : j = i
    · subst e1
      rw [hg] at hj
      injection hj with hj
      subst hj
      rw [hnew] at hl
      injection hl with hl
      subst hl
      simp at hlen ⊢
      omega
    · rw [hold j e1] at hl
      exact h.fits hj hs' hl
  · intro j b l hj hs' hl
    by_cases e1 : j = i
    · subst e1
      rw [hg] at hj
      injection hj with hj
      subst hj
      rw [hst] at hs'
      cases hs'
    · rw [hold j e1] at hl
      obtain ⟨es, clock, h1, h2⟩ := h.map hj hs' hl
      exact ⟨es, clock, by rw [heap_alloc_old w _ _ (h.lt hj (by rw [hs']; intro e; cases e) hl)]; exact h1, h2.mono hsub⟩
  · intro j1 j2 b1 b2 l1 l2 h12 h1 h2 s1 s2 e1 e2 eb
    by_cases q1 : j1 = i
    · subst q1
      rw [hnew] at e1
      injection e1 with e1
      subst e1
      rw [hold j2 (fun q => h12 q.symm)] at e2
      have := h.lt h2 (own_ne_dead s2) e2
      simp at eb
      omega
    · rw [hold j1 q1] at e1
      by_cases q2 : j2 = i
      · subst q2
        rw [hnew] at e2
        injection e2 with e2
        subst e2
        have := h.lt h1 (own_ne_dead s1) e1
        simp at eb
        omega
      · rw [hold j2 q2] at e2
        exact h.sep h12 h1 h2 s1 s2 e1 e2 eb
  · intro j1 j2 b1 b2 h1 h2 s1 s2 hm
    exact h.anc h1 h2 s1 s2 hm
  · intro j1 j2 b1 b2 l1 l2 h1 h2 s1 s2 hm e1 e2 eb
    by_cases q1 : j1 = i
    · subst q1
      exact absurd hm (hni j2 b2 h2 s2)
    · by_cases q2 : j2 = i
      · subst q2
        rw [hg] at h2
        injection h2 with h2
        subst h2
        rw [han] at hm
        simp at hm
      · rw [hold j1 q1] at e1
        rw [hold j2 q2] at e2
        exact h.ends h1 h2 s1 s2 hm e1 e2 eb
  · intro j bj hj x hx
    exact h.ancJ hj x hx
theorem Fr.fill (h : Fr σ0 σ H0 H w0 w) {i : Nat} (hi : H0.n ≤ i) (hn : σ i = none) (o : Obj) (l : Loc) (hl : l.b = w.heap.size) : Fr σ0 (ext σ i l) H0 H w0 (w.alloc o) where
  sub := h.sub.trans (Sub.ext hn l)
  old j hj := by
    have : ext σ i l j = σ j := by simp [ext]; intro e; omega
    rw [this]; exact h.old j hj
  mono := h.mono
  os := h.os
  tape := h.tape
  output := h.output
  size := by have := h.size; simp; omega
  keep k hk hno := by
    rw [heap_alloc_old w o k (Nat.lt_of_lt_of_le hk h.size)]
    exact h.keep k hk hno
  tips j blk lj hj ha hlj := by
    by_cases e1 : j = i
    · subst e1
      simp only [ext, if_true] at hlj
      injection hlj with hlj
      subst hlj
      exact .inl (by rw [hl]; exact h.size)
    · simp only [ext, if_neg e1] at hlj
      exact h.tips j blk lj hj ha hlj
  ver := h.ver
end
end Lon
