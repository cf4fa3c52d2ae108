/- What is proved here: what the program's functions come to, as far as the claimed statement asks. Conditions: those that each theorem names, and no others. -/
import Derived.Test.YtleiinhaljdcoaaGreatDoorP1
import Derived.LoopN
import Derived.Carry
import Derived.ProofKit
import Derived.OpenShut
import Derived.Test.YtleiinhaljdcoaaGreatDoorRows
set_option linter.unusedSimpArgs false
set_option linter.unusedVariables false
namespace Lon
open Go
def AOp.fresh : AOp → Bool
 | .alloc .. | .box .. | .bslice .. => true
 | _ => false
def namesR (r : ARow) : List Nat := slotsR r ++ r.dst.toList
def dstIn (x y : ARow) : Bool := match x.dst with
 | some d => (namesR y).contains d
 | none => false
def edgesPos (ops : Array Oper) (l : List Nat) (q : Nat) : List Nat :=
 match ops[l.getD q ops.size]? with
 | some o => (o.after.toList.filter (Region.binds .any)).map fun e => l.idxOf e.on
 | none => []
def rowAt (rows : List ARow) (q : Nat) : ARow := rows.getD q ⟨none, .alloc [] 0, none⟩
def firmR (rows : List ARow) (q : Nat) : Bool := (rowAt rows q).op.loud || (List.range q).any fun x => dstIn (rowAt rows q) (rowAt rows x)
def depB (cls : List (List Nat)) (x q : Nat) : Bool := (cls.getD q []).contains x
def pairOk (rows : List ARow) (cls : List (List Nat)) (q r : Nat) : Bool :=
 depB cls q r || (!firmR rows q && !dstIn (rowAt rows r) (rowAt rows q) && !dstIn (rowAt rows q) (rowAt rows r) && !((rowAt rows q).op.fresh && (rowAt rows r).op.loud && !isCall (rowAt rows r).op))
def selfOk (r : ARow) : Bool := match r.dst with
 | some d => !(slotsR r).contains d
 | none => true
def drawOk (ops : Array Oper) (l : List Nat) (rows : List ARow) (cls : List (List Nat)) : Bool :=
 l.length == ops.size && rows.length == ops.size &&
 (List.range ops.size).all (fun q => decide (l.getD q ops.size < ops.size) && l.idxOf (l.getD q ops.size) == q && selfOk (rowAt rows q)) &&
 (List.range ops.size).all (fun i => l.contains i) &&
 (List.range ops.size).all (fun q => (edgesPos ops l q).all (fun x => decide (x < q)) && (cls.getD q []).all (fun x => decide (x < ops.size) && ((edgesPos ops l q).contains x || (edgesPos ops l q).any fun y => depB cls x y))) &&
 (List.range ops.size).all (fun r => (List.range r).all fun q => pairOk rows cls q r) &&
 (!isStore (rowAt rows (ops.size - 1)).op || (List.range (ops.size - 1)).all fun q => depB cls q (ops.size - 1))
def prepDraw (P : Program) (nt : Nat) (ops : Array Oper) : List Nat → Option (List ARow)
 | [] => some []
 | i :: l => match (ops[i]?).bind (prepRow P nt ops), prepDraw P nt ops l with
  | some r, some rs => some (r :: rs)
  | _, _ => none
theorem prepDraw_get {P : Program} {nt : Nat} {ops : Array Oper} : ∀ {l : List Nat} {rows : List ARow}, prepDraw P nt ops l = some rows → rows.length = l.length ∧ ∀ (q i : Nat), l[q]? = some i → ∃ o r, ops[i]? = some o ∧ rows[q]? = some r ∧ prepRow P nt ops o = some r
 | [], rows, h => by simp [prepDraw] at h; subst h; exact ⟨rfl, fun q i hq => by simp at hq⟩
 | j :: l, rows, h => by
  simp only [prepDraw] at h
  split at h
  ·rename_i r rs hr hrs
   injection h with h
   subst h
   obtain ⟨h1, h2⟩ := prepDraw_get hrs
   refine ⟨by simp [h1], fun q i hq => ?_⟩
   cases q with
   | zero =>
    simp at hq
    subst hq
    obtain ⟨o, ho, hp⟩ := Option.bind_eq_some_iff.1 hr
    exact ⟨o, r, ho, by simp, hp⟩
   | succ q =>
    simp at hq
    obtain ⟨o, r', ho, hr', hp⟩ := h2 q i hq
    exact ⟨o, r', ho, by simpa using hr', hp⟩
  ·cases h
structure DOK (ops : Array Oper) (l : List Nat) (rows : List ARow) (cls : List (List Nat)) : Prop where
 len : l.length = ops.size
 rlen : rows.length = ops.size
 lt : ∀ {q}, q < ops.size → l.getD q ops.size < ops.size
 inj : ∀ {q}, q < ops.size → l.idxOf (l.getD q ops.size) = q
 self : ∀ {q}, q < ops.size → selfOk (rowAt rows q) = true
 surj : ∀ {i}, i < ops.size → ∃ q, q < ops.size ∧ l.getD q ops.size = i
 edge : ∀ {q o}, q < ops.size → ops[l.getD q ops.size]? = some o → ∀ e ∈ o.after, Region.binds .any e = true → l.idxOf e.on < q ∧ l.getD (l.idxOf e.on) ops.size = e.on
 dep : ∀ {q x}, q < ops.size → depB cls x q = true → x < ops.size ∧ ∃ o, ops[l.getD q ops.size]? = some o ∧ ∃ e ∈ o.after, Region.binds .any e = true ∧ (l.idxOf e.on = x ∨ depB cls x (l.idxOf e.on) = true)
 pair : ∀ {q r}, q < r → r < ops.size → pairOk rows cls q r = true
 last : isStore (rowAt rows (ops.size - 1)).op = true → ∀ {q}, q < ops.size - 1 → depB cls q (ops.size - 1) = true
theorem drawOk_spec {ops : Array Oper} {l : List Nat} {rows : List ARow} {cls : List (List Nat)} (h : drawOk ops l rows cls = true) : DOK ops l rows cls := by
 unfold drawOk at h
 simp only [Bool.and_eq_true, beq_iff_eq, List.all_eq_true, List.mem_range, decide_eq_true_eq] at h
 obtain ⟨⟨⟨⟨⟨⟨h1, h2⟩, h3⟩, h4⟩, h5⟩, h6⟩, h7⟩ := h
 have hidx : ∀ {x}, x ∈ l → l.getD (l.idxOf x) ops.size = x := by
  intro x hx
  have hlt : l.idxOf x < l.length := List.idxOf_lt_length_of_mem hx
  rw [List.getD_eq_getElem?_getD, List.getElem?_eq_getElem hlt]
  simp
 refine ⟨h1, h2, fun hq => (h3 _ hq).1.1, fun hq => (h3 _ hq).1.2, fun hq => (h3 _ hq).2, ?_, ?_, ?_, fun hqr hr => h6 _ hr _ hqr, fun hs q hq => ?_⟩
 ·intro i hi
  have hm : i ∈ l := by simpa using h4 i hi
  exact ⟨l.idxOf i, by rw [← h1]; exact List.idxOf_lt_length_of_mem hm, hidx hm⟩
 ·intro q o hq ho e he hb
  have := (h5 q hq).1 (l.idxOf e.on) (by
   unfold edgesPos
   rw [ho]
   simp only [List.mem_map, List.mem_filter]
   exact ⟨e, ⟨by simpa using he, hb⟩, rfl⟩)
  refine ⟨this, ?_⟩
  have hlt : l.idxOf e.on < l.length := by omega
  exact hidx (List.idxOf_lt_length_iff.1 hlt)
 ·intro q x hq hd
  have hx : x ∈ cls.getD q [] := by simpa [depB] using hd
  obtain ⟨hxn, hor⟩ := (h5 q hq).2 x hx
  refine ⟨hxn, ?_⟩
  have hop : ∃ o, ops[l.getD q ops.size]? = some o := ⟨_, Array.getElem?_eq_getElem (h3 q hq).1.1⟩
  obtain ⟨o, ho⟩ := hop
  refine ⟨o, ho, ?_⟩
  unfold edgesPos at hor
  rw [ho] at hor
  simp only [Bool.or_eq_true, List.contains_iff_mem, List.mem_map, List.mem_filter, List.any_eq_true] at hor
  rcases hor with ⟨e, ⟨he, hb⟩, hx⟩ | ⟨y, ⟨e, ⟨he, hb⟩, hy⟩, hd2⟩
  ·exact ⟨e, by simpa using he, hb, .inl hx⟩
  ·exact ⟨e, by simpa using he, hb, .inr (by rw [hy]; exact hd2)⟩
 ·rw [hs] at h7
  simp only [Bool.not_true, Bool.false_or, List.all_eq_true, List.mem_range] at h7
  exact h7 q hq
def endAt : List ARow → Nat
 | [] => 0
 | r :: rs => if lastSt r rs = true then 0 else endAt rs + 1
theorem endAt_cases : ∀ (rows : List ARow), endAt rows = rows.length ∨ (endAt rows + 1 = rows.length ∧ isStore (rowAt rows (endAt rows)).op = true)
 | [] => .inl rfl
 | r :: rs => by
  unfold endAt
  split
  ·rename_i h
   unfold lastSt at h
   simp only [Bool.and_eq_true, List.isEmpty_iff] at h
   obtain ⟨rfl, h2⟩ := h
   exact .inr ⟨rfl, h2⟩
  ·rcases endAt_cases rs with h | ⟨h1, h2⟩
   ·exact .inl (by simp [h])
   ·exact .inr ⟨by simp [h1], h2⟩
structure Trace (P : Program) (cf : CallF) (rows : List ARow) (S : Nat → Env × AHeap) : Prop where
 step : ∀ q, q < rows.length → ∃ v, rowV P cf (rowAt rows q) (forget (slotsR (rowAt rows q)) (S q).1) (S q).2 = some (v, (S (q + 1)).2) ∧ (S (q + 1)).1 = eput (S q).1 (rowAt rows q).dst v
 watch : ∀ q r, q < r → r < rows.length → (rowAt rows q).op.fresh = true → isCall (rowAt rows r).op = true → calmB ((S (r + 1)).2.get (S q).2.n) = true
 stamp : ∀ q, q < rows.length → ∀ p ∈ stamps (S q).2 (forget (slotsR (rowAt rows q)) (S q).1) (rowAt rows q), ∃ b, (S (endAt rows)).2.get p.1 = some b ∧ b.ver = p.2
theorem still_spec {H : AHeap} {l : List (Nat × Nat)} (h : still H l = true) : ∀ p ∈ l, ∃ b, H.get p.1 = some b ∧ b.ver = p.2 := by
 intro p hp
 have := List.all_eq_true.1 h p hp
 split at this
 ·rename_i b hb
  exact ⟨b, hb, by simpa using this⟩
 ·cases this
theorem freshI_of {o : AOp} (h : o.fresh = true) (i : Nat) : freshI o i = [i] := by cases o <;> first | rfl | cases h
theorem draw_trace {P : Program} {cf : CallF} : ∀ {rows : List ARow} {st : List (Nat × Nat)} {F : List Nat} {e e' : Env} {H H' : AHeap}, drawA P cf rows st F e H = some (e', H') →
  ∃ S : Nat → Env × AHeap, S 0 = (e, H) ∧ S rows.length = (e', H') ∧ Trace P cf rows S ∧ (∀ p ∈ st, ∃ b, (S (endAt rows)).2.get p.1 = some b ∧ b.ver = p.2) ∧ ∀ r, r < rows.length → isCall (rowAt rows r).op = true → ∀ i ∈ F, calmB ((S (r + 1)).2.get i) = true
 | [], st, F, e, e', H, H', h => by
  simp only [drawA] at h
  split at h
  ·rename_i hs
   injection h with h
   injection h with h1 h2
   subst h1 h2
   exact ⟨fun _ => (e, H), rfl, rfl, ⟨fun q hq => by simp at hq, fun q r _ hr => by simp at hr, fun q hq => by simp at hq⟩, still_spec hs, fun r hr => by simp at hr⟩
  ·cases h
 | r :: rs, st, F, e, e', H, H', h => by
  simp only [drawA] at h
  split at h
  ·rename_i v H1 h1
   split at h
   case isFalse => cases h
   rename_i hcond
   rw [Bool.and_eq_true] at hcond
   obtain ⟨hcalm, hstill⟩ := hcond
   obtain ⟨S, s0, s1, s2, s3, s4⟩ := draw_trace h
   have c0 : isCall r.op = true → ∀ i ∈ F, calmB (H1.get i) = true := fun hc i hi => by
    rw [hc] at hcalm
    simp only [Bool.not_true, Bool.false_or] at hcalm
    exact List.all_eq_true.1 hcalm i hi
   have hstamp : ∀ p ∈ stamps H (forget (slotsR r) e) r ++ st, ∃ b, ((fun q => match q with | 0 => (e, H) | q + 1 => S q : Nat → Env × AHeap) (endAt (r :: rs))).2.get p.1 = some b ∧ b.ver = p.2 := by
    intro p hp
    unfold endAt
    cases hl : lastSt r rs with
    | true =>
     rw [if_pos rfl]
     show ∃ b, H.get p.1 = some b ∧ b.ver = p.2
     rcases List.mem_append.1 hp with hp | hp
     ·exfalso
      unfold lastSt at hl
      simp only [Bool.and_eq_true] at hl
      have hst := hl.2
      unfold stamps at hp
      revert hst hp
      cases r.op <;> simp [isStore]
     ·rw [hl] at hstill
      exact still_spec (by simpa using hstill) p hp
    | false =>
     rw [if_neg (by simp)]
     rw [hl] at s3
     exact s3 p hp
   refine ⟨fun q => match q with | 0 => (e, H) | q + 1 => S q, rfl, s1, ⟨fun q hq => ?_, fun q k hqk hk hf hc => ?_, fun q hq p hp => ?_⟩, fun p hp => hstamp p (List.mem_append_right _ hp), fun k hk hc i hi => ?_⟩
   ·cases q with
    | zero =>
     refine ⟨v, ?_, ?_⟩
     ·show rowV P cf r (forget (slotsR r) e) H = some (v, (S 0).2)
      rw [s0]; exact h1
     ·show (S 0).1 = _
      rw [s0]; rfl
    | succ q => exact s2.step q (by simpa using hq)
   ·cases k with
    | zero => omega
    | succ k =>
     cases q with
     | zero =>
      have hf' : r.op.fresh = true := hf
      exact s4 k (by simpa using hk) hc H.n (List.mem_append_left _ (by rw [freshI_of hf']; simp))
     | succ q => exact s2.watch q k (by omega) (by simpa using hk) hf hc
   ·cases q with
    | zero => exact hstamp p (List.mem_append_left _ hp)
    | succ q =>
     have hq' : q < rs.length := by simpa using hq
     have hne : lastSt r rs = false := by
      unfold lastSt
      cases rs with
      | nil => simp at hq'
      | cons _ _ => rfl
     have := s2.stamp q hq' p hp
     unfold endAt
     rw [hne, if_neg (by simp)]
     exact this
   ·cases k with
    | zero => show calmB ((S 0).2.get i) = true; rw [s0]; exact c0 hc i hi
    | succ k => exact s4 k (by simpa using hk) hc i (List.mem_append_right _ hi)
  ·cases h
section
variable {P : Program} {σ σ0 : Sig} {nt base : Nat} {e : Env} {a : Act} {o : Oper} {H H' H0 : AHeap} {w w0 : World}
theorem new_sound {ao : AOp} (hp : prepOp P o = some ao) (hf : ao.fresh = true) (her : ER σ nt e a) {i : Nat} {blk : ABlk} {v : Value} (h : newA e i ao = some (blk, v)) : NewOK P σ o a i blk v := by
 unfold prepOp prepBin at hp
 repeat' split at hp
 all_goals first
  | (cases hp; done)
  | (injection hp with hp; subst hp; cases hf; done)
  | (simp only [Option.map_eq_some_iff] at hp; obtain ⟨_, _, rfl⟩ := hp; cases hf; done)
  | (simp only [Option.bind_eq_some_iff, Option.map_eq_some_iff] at hp; obtain ⟨_, _, _, _, rfl⟩ := hp; cases hf; done)
  | skip
 ·rename_i el ho
  simp only [Option.bind_eq_some_iff] at hp
  obtain ⟨z, hz, hp⟩ := hp
  split at hp
  ·rename_i hza
   injection hp with hp
   subst hp
   simp only [newA] at h
   injection h with h
   injection h with h1 h2
   subst h1 h2
   exact sound_alloc her ho hz hza i
  ·cases hp
 ·rename_i el x ho hs
  injection hp with hp
  subst hp
  obtain ⟨s, hs⟩ := Option.isSome_iff_exists.1 hs
  simp only [newA] at h
  split at h
  ·rename_i hx
   injection h with h
   injection h with h1 h2
   subst h1 h2
   exact sound_box her ho hs hx i
  ·cases h
 ·rename_i t n parts ho _ el hu _ _ s z hs hz hc
  simp only [Bool.and_eq_true, beq_iff_eq, decide_eq_true_eq] at hc
  injection hp with hp
  subst hp
  simp only [newA] at h
  split at h
  ·rename_i hk
   injection h with h
   injection h with h1 h2
   subst h1 h2
   exact sound_bslice her ho hu hs hz hc.1.1 hc.1.2 hc.2 hk i
  ·cases h
theorem HR.reserve (h : HR P σ base H w) {b : ABlk} (ha : b.anc = []) : HR P σ base (H.push b) w := by
 have hn : σ H.n = none := h.out _ (Nat.le_refl _)
 have hget : ∀ i, (H.push b).get i = if i = H.n then some b else H.get i := AHeap.get_push H _
 have old : ∀ {i blk l}, (H.push b).get i = some blk → σ i = some l → H.get i = some blk := by
  intro i blk l hg hl
  rw [hget] at hg
  split at hg
  ·rename_i e1
   subst e1
   rw [hn] at hl
   cases hl
  ·exact hg
 refine ⟨fun hg hl => h.elem (old hg hl) hl, fun i hi => h.out i (by simp at hi; omega), fun hg hs hl => h.lt (old hg hl) hs hl, fun hg hs hl k v hk => h.cells (old hg hl) hs hl hk, fun hg hs hl => h.ro (old hg hl) hs hl, fun hg hs hl => h.own (old hg hl) hs hl,
  fun hg hs hl => h.row (old hg hl) hs hl, fun hg hs hl => h.fits (old hg hl) hs hl, fun hg hs hl => h.map (old hg hl) hs hl, fun hij hi hj si sj hli hlj hb => h.sep hij (old hi hli) (old hj hlj) si sj hli hlj hb, ?_,
  fun hi hj si sj hm hli hlj hb => h.ends (old hi hli) (old hj hlj) si sj hm hli hlj hb, ?_⟩
 ·intro i j bi bj hi hj si sj hm
  rw [hget] at hi hj
  split at hj
  ·injection hj with hj
   subst hj
   rw [ha] at hm
   simp at hm
  ·have := h.ancLt hj i hm
   rw [if_neg (by omega)] at hi
   exact h.anc hi hj si sj hm
 ·intro j bj hj i hm
  rw [hget] at hj
  split at hj
  ·injection hj with hj
   subst hj
   rw [ha] at hm
   simp at hm
  ·exact h.ancJ hj i hm
theorem Fr.reserve (h : Fr σ0 σ H0 H w0 w) (hh : HR P σ base H w) (b : ABlk) : Fr σ0 σ H0 (H.push b) w0 w where
 sub := h.sub
 old := h.old
 mono := by have := h.mono; simp; omega
 os := h.os
 tape := h.tape
 output := h.output
 size := h.size
 keep := h.keep
 tips j blk l hj ha hl := by
  rw [AHeap.get_push] at hj
  split at hj
  ·rename_i e1
   subst e1
   rw [hh.out _ (Nat.le_refl _)] at hl
   cases hl
  ·exact h.tips j blk l hj ha hl
 ver i x hx := by
  obtain ⟨y, hy, q⟩ := h.ver i x hx
  exact ⟨y, by rw [AHeap.get_push, if_neg (by have := AHeap.lt_of_get hy; omega)]; exact hy, q⟩
theorem HR.fill (h : HR P σ base H w) (hb : base ≤ w.heap.size) {i : Nat} {blk : ABlk} (hg : H.get i = some blk) (hst : blk.st = .tip) (han : blk.anc = []) (hn : σ i = none) (hni : ∀ j bj, H.get j = some bj → bj.st.own = true → i ∉ bj.anc)
  {cs : Array Value} {sz : Nat} (hc : VRs σ blk.cells cs.toList) (hs : szOf P blk.elem = some sz) : HR P (ext σ i ⟨w.heap.size, 0, cs.size, sz⟩) base H (w.alloc (.cells cs blk.elem)) := by
 have hsub := Sub.ext hn ⟨w.heap.size, 0, cs.size, sz⟩
 have hold : ∀ j, j ≠ i → ext σ i ⟨w.heap.size, 0, cs.size, sz⟩ j = σ j := fun j hj => by simp [ext, hj]
 have hnew : ext σ i ⟨w.heap.size, 0, cs.size, sz⟩ i = some ⟨w.heap.size, 0, cs.size, sz⟩ := by simp [ext]
 have hil := AHeap.lt_of_get hg
 have hlen := hc.length
 constructor
 ·intro j b l hj hl
  by_cases e1 : j = i
  ·subst e1
   rw [hg] at hj
   injection hj with hj
   subst hj
   rw [hnew] at hl
   injection hl with hl
   subst hl
   exact hs
  ·rw [hold j e1] at hl
   exact h.elem hj hl
 ·intro j hj
  rw [hold j (by omega)]
  exact h.out j hj
 ·intro j b l hj hs' hl
  by_cases e1 : j = i
  ·subst e1
   rw [hnew] at hl
   injection hl with hl
   subst hl
   simp
  ·rw [hold j e1] at hl
   have := h.lt hj hs' hl
   simp; omega
 ·intro j b l hj hs' hl k v hk
  by_cases e1 : j = i
  ·subst e1
   rw [hg] at hj
   injection hj with hj
   subst hj
   rw [hnew] at hl
   injection hl with hl
   subst hl
   obtain ⟨v', h1, h2⟩ := hc.get hk
   exact ⟨v', by simpa using h1, h2.mono hsub⟩
  ·rw [hold j e1] at hl
   obtain ⟨v', h1, h2⟩ := h.cells hj hs' hl hk
   exact ⟨v', by rw [World.cell?_alloc_lt _ _ _ (h.lt hj (mem_ne_dead hs') hl)]; exact h1, h2.mono hsub⟩
 ·intro j b l hj hs' hl
  by_cases e1 : j = i
  ·subst e1
   rw [hg] at hj
   injection hj with hj
   subst hj
   rw [hst] at hs'
   cases hs'
  ·rw [hold j e1] at hl
   exact h.ro hj hs' hl
 ·intro j b l hj hs' hl
  by_cases e1 : j = i
  ·subst e1
   rw [hnew] at hl
   injection hl with hl
   subst hl
   exact hb
  ·rw [hold j e1] at hl
   exact h.own hj hs' hl
 ·intro j b l hj hs' hl
  by_cases e1 : j = i
  ·subst e1
   rw [hnew] at hl
   injection hl with hl
   subst hl
   exact ⟨cs, blk.elem, _, heap_alloc_new w _, rfl, fun _ => rfl⟩
  ·rw [hold j e1] at hl
   obtain ⟨cur, e, z, h1, h2⟩ := h.row hj hs' hl
   exact ⟨cur, e, z, by rw [heap_alloc_old w _ _ (h.lt hj (mem_ne_dead (row_mem hs')) hl)]; exact h1, h2⟩
 ·intro j b l hj hs' hl
  by_cases e1 : j = i
  ·subst e1
   rw [hg] at hj
   injection hj with hj
   subst hj
   rw [hnew] at hl
   injection hl with hl
   subst hl
   simp at hlen ⊢
   omega
  ·rw [hold j e1] at hl
   exact h.fits hj hs' hl
 ·intro j b l hj hs' hl
  by_cases e1 : j = i
  ·subst e1
   rw [hg] at hj
   injection hj with hj
   subst hj
   rw [hst] at hs'
   cases hs'
  ·rw [hold j e1] at hl
   obtain ⟨es, clock, h1, h2⟩ := h.map hj hs' hl
   exact ⟨es, clock, by rw [heap_alloc_old w _ _ (h.lt hj (by rw [hs']; intro e; cases e) hl)]; exact h1, h2.mono hsub⟩
 ·intro j1 j2 b1 b2 l1 l2 h12 h1 h2 s1 s2 e1 e2 eb
  by_cases q1 : j1 = i
  ·subst q1
   rw [hnew] at e1
   injection e1 with e1
   subst e1
   rw [hold j2 (fun q => h12 q.symm)] at e2
   have := h.lt h2 (own_ne_dead s2) e2
   simp at eb
   omega
  ·rw [hold j1 q1] at e1
   by_cases q2 : j2 = i
   ·subst q2
    rw [hnew] at e2
    injection e2 with e2
    subst e2
    have := h.lt h1 (own_ne_dead s1) e1
    simp at eb
    omega
   ·rw [hold j2 q2] at e2
    exact h.sep h12 h1 h2 s1 s2 e1 e2 eb
 ·intro j1 j2 b1 b2 h1 h2 s1 s2 hm
  exact h.anc h1 h2 s1 s2 hm
 ·intro j1 j2 b1 b2 l1 l2 h1 h2 s1 s2 hm e1 e2 eb
  by_cases q1 : j1 = i
  ·subst q1
   exact absurd hm (hni j2 b2 h2 s2)
  ·by_cases q2 : j2 = i
   ·subst q2
    rw [hg] at h2
    injection h2 with h2
    subst h2
    rw [han] at hm
    simp at hm
   ·rw [hold j1 q1] at e1
    rw [hold j2 q2] at e2
    exact h.ends h1 h2 s1 s2 hm e1 e2 eb
 ·intro j bj hj x hx
  exact h.ancJ hj x hx
theorem Fr.fill (h : Fr σ0 σ H0 H w0 w) {i : Nat} (hi : H0.n ≤ i) (hn : σ i = none) (o : Obj) (l : Loc) (hl : l.b = w.heap.size) : Fr σ0 (ext σ i l) H0 H w0 (w.alloc o) where
 sub := h.sub.trans (Sub.ext hn l)
 old j hj := by
  have : ext σ i l j = σ j := by simp [ext]; intro e; omega
  rw [this]; exact h.old j hj
 mono := h.mono
 os := h.os
 tape := h.tape
 output := h.output
 size := by have := h.size; simp; omega
 keep k hk hno := by
  rw [heap_alloc_old w o k (Nat.lt_of_lt_of_le hk h.size)]
  exact h.keep k hk hno
 tips j blk lj hj ha hlj := by
  by_cases e1 : j = i
  ·subst e1
   simp only [ext, if_true] at hlj
   injection hlj with hlj
   subst hlj
   exact .inl (by rw [hl]; exact h.size)
  ·simp only [ext, if_neg e1] at hlj
   exact h.tips j blk lj hj ha hlj
 ver := h.ver
end
theorem eget_forget : ∀ (ks : List Nat) (e : Env) (t : Nat), eget (forget ks e) t = if t ∈ ks then eget e t else poison
 | [], e, t => by simp [forget, eget_nil]
 | k :: ks, e, t => by
  have ih := eget_forget ks e t
  simp only [forget, List.map_cons, eget_cons] at ih ⊢
  by_cases h : k = t
  ·subst h
   simp
  ·rw [if_neg h]
   have : t ≠ k := fun e => h e.symm
   rw [ih]
   simp [this]
section
variable {P : Program} {σ σ0 : Sig} {nt base : Nat} {e : Env} {a : Act} {o : Oper} {H H' H0 : AHeap} {w w0 : World} {ops : Array Oper} {cf : CallF}
theorem rowV_sound (hcf : ∀ g args H v H', cf g args H = some (v, H') → Sim P base g args H v H') (her : ER σ nt e a) (hh : HR P σ base H w) (hb : base ≤ w.heap.size) {r : ARow} (hp : prepRow P nt ops o = some r) {v : Value}
  (h : rowV P cf r e H = some (v, H')) {next : Act → World → Prop} {Q : Exit → Act → World → Prop}
  (hnext : ∀ σ' v' w', VR σ' v v' → HR P σ' base H' w' → Fr σ σ' H H' w w' → next (a.put o.dst v') w') :
  if Region.wanted o (yielded ops a.tmps) then o.wp P a w next Q else next (a.put o.dst undef) w := by
 obtain ⟨h1, h2, h3, h4⟩ := prepRow_inv hp
 unfold rowV at h
 split at h
 ·rename_i hg
  rw [guard_rel her h4 hg, if_pos rfl]
  exact step_sound hcf her hh hb h1 h next Q fun σ' w' v' q1 q2 q3 => hnext σ' v' w' q1 q2 q3
 ·rename_i hg
  rw [guard_rel her h4 hg]
  simp only [Bool.false_eq_true, if_false]
  injection h with h
  injection h with he1 he2
  subst he1 he2
  exact hnext σ undef w (.tuple _ _ .nil) hh (Fr.refl _ _ _)
 ·cases h
theorem readA_later {e : Env} {H H2 : AHeap} {r : ARow} {v : Value} (hv : VerLe H H2) (hs : ∀ p ∈ stamps H e r, ∃ b, H2.get p.1 = some b ∧ b.ver = p.2) (h : readA P e H r.op = some v) : readA P e H2 r.op = some v := by
 revert h hs
 unfold stamps
 cases r.op <;> intro hs h <;> first | (simp [readA] at h; done) | skip
 case load x k =>
  simp only [readA] at h ⊢
  split at h
  ·rename_i i off hx
   split at h
   ·rename_i blk hg
    simp only [hx, hg] at hs
    obtain ⟨b, hb, hver⟩ := hs (i, blk.ver) (by simp)
    obtain ⟨b', hb', h1, h2, h3⟩ := hv.2 i blk hg
    simp only at hb hver
    rw [hb] at hb'
    injection hb' with hb'
    subst hb'
    obtain ⟨hc, hm, _⟩ := h3 hver
    simp only [hb]
    split at h
    ·rename_i hmem
     rw [if_pos (hm hmem), hc]
     exact h
    ·cases h
   ·cases h
  ·cases h
 case slice x lo hi s =>
  simp only [readA] at h ⊢
  split at h
  ·rename_i i off n c hx
   split at h
   ·rename_i hv1 lv s' e1 e2 e3
    cases hg : H.get i with
    | none => rw [hg] at e3; cases e3
    | some blk =>
     obtain ⟨b', hb', _, hel, _⟩ := hv.2 i blk hg
     rw [hg] at e3
     simp only [Option.map_some] at e3
     simp only [hx, e1, e2, hb', Option.map_some, hel, e3]
     exact h
   ·cases h
  ·rename_i hx
   first
    | exact h
    | (rw [hx]; exact h)
    | (simp only [hx]; exact h)
  ·rename_i hx
   first
    | exact h
    | (rw [hx]; exact h)
    | (simp only [hx]; exact h)
  ·cases h
 case slice0 x => exact h
theorem rowV_quiet {e : Env} {H H' : AHeap} {r : ARow} {v : Value} (hl : r.op.loud = false) (h : rowV P cf r e H = some (v, H')) :
  (H' = H ∧ ∀ H2, VerLe H H2 → (∀ p ∈ stamps H e r, ∃ b, H2.get p.1 = some b ∧ b.ver = p.2) → rowV P cf r e H2 = some (v, H2)) ∨
  (guardA e r.guard = some true ∧ r.op.fresh = true ∧ ∃ b, newA e H.n r.op = some (b, v) ∧ H' = H.push b) := by
 unfold rowV at h
 split at h
 ·rename_i hg
  by_cases hf : r.op.fresh = true
  ·right
   refine ⟨hg, hf, ?_⟩
   revert h hf
   unfold stepA
   cases r.op <;> intro h hf <;> first | (cases hf; done) | skip
   all_goals
    simp only [Option.map_eq_some_iff] at h
    obtain ⟨⟨b, v1⟩, hn, he⟩ := h
    injection he with he1 he2
    simp only at he1 he2
    subst he1
    exact ⟨b, hn, he2.symm⟩
  ·left
   have key : H' = H ∧ ∀ H2, VerLe H H2 → (∀ p ∈ stamps H e r, ∃ b, H2.get p.1 = some b ∧ b.ver = p.2) → stepA P cf e H2 r.op = some (v, H2) := by
    have hread : (∃ x k, r.op = .load x k) ∨ (∃ x lo hi s, r.op = .slice x lo hi s) ∨ (∃ x, r.op = .slice0 x) → H' = H ∧ ∀ H2, VerLe H H2 → (∀ p ∈ stamps H e r, ∃ b, H2.get p.1 = some b ∧ b.ver = p.2) → stepA P cf e H2 r.op = some (v, H2) := by
     intro hr
     have hh : (readA P e H r.op).map (fun v => (v, H)) = some (v, H') := by
      rcases hr with ⟨x, k, e1⟩ | ⟨x, lo, hi, s, e1⟩ | ⟨x, e1⟩ <;> (rw [e1] at h ⊢; exact h)
     simp only [Option.map_eq_some_iff] at hh
     obtain ⟨v1, h1, h2⟩ := hh
     injection h2 with h2 h3
     subst h2 h3
     refine ⟨rfl, fun H2 hv hs => ?_⟩
     have := readA_later hv hs h1
     rcases hr with ⟨x, k, e1⟩ | ⟨x, lo, hi, s, e1⟩ | ⟨x, e1⟩ <;> (rw [e1] at this ⊢; simp only [stepA, this, Option.map_some])
    have hpure : (∀ x k, r.op ≠ .load x k) → (∀ x lo hi s, r.op ≠ .slice x lo hi s) → (∀ x, r.op ≠ .slice0 x) → H' = H ∧ ∀ H2, VerLe H H2 → (∀ p ∈ stamps H e r, ∃ b, H2.get p.1 = some b ∧ b.ver = p.2) → stepA P cf e H2 r.op = some (v, H2) := by
     intro n1 n2 n3
     have n4 : ∀ c el, r.op ≠ .alloc c el := fun c el e1 => hf (by rw [e1]; rfl)
     have n5 : ∀ x el, r.op ≠ .box x el := fun x el e1 => hf (by rw [e1]; rfl)
     have n6 : ∀ el n s z p, r.op ≠ .bslice el n s z p := fun el n s z p e1 => hf (by rw [e1]; rfl)
     have n7 : ∀ x v n, r.op ≠ .store x v n := fun x v n e1 => by rw [e1] at hl; cases hl
     have n8 : ∀ s x el sz b, r.op ≠ .append s x el sz b := fun s x el sz b e1 => by rw [e1] at hl; cases hl
     have n9 : ∀ f args, r.op ≠ .call f args := fun f args e1 => by rw [e1] at hl; cases hl
     have n10 : ∀ m, r.op ≠ .mop m := fun m e1 => by rw [e1] at hl; cases hl
     obtain ⟨h1, h2⟩ := pure_step n1 n2 n3 n4 n5 n6 n7 n8 n9 n10 h
     refine ⟨h2, fun H2 _ _ => ?_⟩
     have : stepA P cf e H2 r.op = (pureA P e r.op).map fun v => (v, H2) := by
      revert n1 n2 n3 n4 n5 n6 n7 n8 n9 n10
      cases r.op <;> intro n1 n2 n3 n4 n5 n6 n7 n8 n9 n10 <;> first | exact absurd rfl (n10 _) | exact absurd rfl (n1 _ _) | exact absurd rfl (n2 _ _ _ _) | exact absurd rfl (n3 _) | exact absurd rfl (n4 _ _) | exact absurd rfl (n5 _ _) | exact absurd rfl (n6 _ _ _ _ _) | exact absurd rfl (n7 _ _ _) | exact absurd rfl (n8 _ _ _ _ _) | exact absurd rfl (n9 _ _) | rfl
     rw [this, h1]
     rfl
    by_cases c1 : ∃ x k, r.op = .load x k
    ·exact hread (.inl c1)
    by_cases c2 : ∃ x lo hi s, r.op = .slice x lo hi s
    ·exact hread (.inr (.inl c2))
    by_cases c3 : ∃ x, r.op = .slice0 x
    ·exact hread (.inr (.inr c3))
    exact hpure (fun x k e1 => c1 ⟨x, k, e1⟩) (fun x lo hi s e1 => c2 ⟨x, lo, hi, s, e1⟩) (fun x e1 => c3 ⟨x, e1⟩)
   refine ⟨key.1, fun H2 hv hs => ?_⟩
   unfold rowV
   rw [hg]
   exact key.2 H2 hv hs
 ·rename_i hg
  injection h with h
  injection h with h1 h2
  subst h1 h2
  left
  refine ⟨rfl, fun H2 _ _ => ?_⟩
  unfold rowV
  rw [hg]
 ·cases h
end
theorem newA_blk {e : Env} {i : Nat} {ao : AOp} {b : ABlk} {v : Value} (h : newA e i ao = some (b, v)) : b.st = .tip ∧ b.anc = [] ∧ b.ver = 0 := by
  unfold newA at h
  split at h
  · injection h with h; injection h with h1 h2; subst h1; exact ⟨rfl, rfl, rfl⟩
  · split at h
    · injection h with h; injection h with h1 h2; subst h1; exact ⟨rfl, rfl, rfl⟩
    · cases h
  · split at h
    · injection h with h; injection h with h1 h2; subst h1; exact ⟨rfl, rfl, rfl⟩
    · cases h
  · cases h
section
variable {P : Program} {nt base : Nat} {ops : Array Oper} {l : List Nat} {rows : List ARow} {cls : List (List Nat)} {S : Nat → Env × AHeap} {cf : CallF} {σ0 : Sig} {H0 : AHeap} {w0 : World}
def Lst (ops : Array Oper) (l : List Nat) (listed : Array Bool) (q : Nat) : Prop := listed.getD (l.getD q ops.size) false = true
def DInv (P : Program) (nt base : Nat) (ops : Array Oper) (l : List Nat) (rows : List ARow) (S : Nat → Env × AHeap) (σ0 : Sig) (H0 : AHeap) (w0 : World) (fuel : Nat) (listed : Array Bool) (a : Act) (w : World) : Prop :=
  ∃ (p : Nat) (σ : Sig) (U : List Nat),
    p ≤ ops.size ∧ listed.size = ops.size ∧ U.length = fuel ∧ (∀ q, q < ops.size → ¬ Lst ops l listed q → q ∈ U) ∧
    (∀ q, p ≤ q → q < ops.size → ¬ Lst ops l listed q) ∧
    (∀ q, q < ops.size → Lst ops l listed q → ∀ o, ops[l.getD q ops.size]? = some o → ∀ e ∈ o.after, Region.binds .any e = true → listed.getD e.on false = true) ∧
    (∀ q, q < p → ¬ Lst ops l listed q → firmR rows q = false) ∧
    HR P σ base (S p).2 w ∧ Fr σ0 σ H0 (S p).2 w0 w ∧ base ≤ w.heap.size ∧ a.tmps.size = nt ∧ a.defers = [] ∧
    (∀ t, (∃ q, q < p ∧ ¬ Lst ops l listed q ∧ (rowAt rows q).dst = some t) ∨ VR σ (eget (S p).1 t) (a.tmps.getD t undef)) ∧
    (∀ q, q < p → ¬ Lst ops l listed q → (S (q + 1)).2.n = (S q).2.n + 1 → σ (S q).2.n = none)
theorem lst_closed (D : DOK ops l rows cls) {listed : Array Bool}
    (hcl : ∀ q, q < ops.size → Lst ops l listed q → ∀ o, ops[l.getD q ops.size]? = some o → ∀ e ∈ o.after, Region.binds .any e = true → listed.getD e.on false = true) :
    ∀ q, q < ops.size → Lst ops l listed q → ∀ x, depB cls x q = true → Lst ops l listed x := by
  intro q
  induction q using Nat.strongRecOn with
  | _ q ih =>
    intro hq hL x hd
    obtain ⟨hx, o, ho, e, he, hb, hor⟩ := D.dep hq hd
    obtain ⟨h1, h2⟩ := D.edge hq ho e he hb
    have hLe : Lst ops l listed (l.idxOf e.on) := by
      unfold Lst
      rw [h2]
      exact hcl q hq hL o ho e he hb
    rcases hor with h3 | h3
    · rw [← h3]; exact hLe
    · exact ih _ h1 (by omega) hLe x h3
theorem dep_edges (D : DOK ops l rows cls) {listed : Array Bool}
    (hcl : ∀ q, q < ops.size → Lst ops l listed q → ∀ o, ops[l.getD q ops.size]? = some o → ∀ e ∈ o.after, Region.binds .any e = true → listed.getD e.on false = true)
    {q : Nat} (hq : q < ops.size) {o : Oper} (ho : ops[l.getD q ops.size]? = some o) (hall : ∀ e ∈ o.after, Region.binds .any e = true → listed.getD e.on false = true) {x : Nat} (hd : depB cls x q = true) : Lst ops l listed x := by
  obtain ⟨hx, o', ho', e, he, hb, hor⟩ := D.dep hq hd
  rw [ho] at ho'
  injection ho' with ho'
  subst ho'
  obtain ⟨h1, h2⟩ := D.edge hq ho e he hb
  have hLe : Lst ops l listed (l.idxOf e.on) := by
    unfold Lst
    rw [h2]
    exact hall e he hb
  rcases hor with h3 | h3
  · rw [← h3]; exact hLe
  · exact lst_closed D hcl _ (by omega) hLe x h3
theorem pair_of {rows : List ARow} {q r : Nat} (h : pairOk rows cls q r = true) (hd : ¬ depB cls q r = true) :
    firmR rows q = false ∧ dstIn (rowAt rows r) (rowAt rows q) = false ∧ dstIn (rowAt rows q) (rowAt rows r) = false ∧ ((rowAt rows q).op.fresh = true → (rowAt rows r).op.loud = false ∨ isCall (rowAt rows r).op = true) := by
  unfold pairOk at h
  have hd' : depB cls q r = false := by simpa using hd
  rw [hd'] at h
  simp only [Bool.false_or, Bool.and_eq_true, Bool.not_eq_true', Bool.and_eq_false_iff] at h
  obtain ⟨⟨⟨h1, h2⟩, h3⟩, h4⟩ := h
  exact ⟨h1, h2, h3, fun hf => by rcases h4 with (h4 | h4) | h4; · rw [hf] at h4; cases h4
                                  · exact .inl h4
                                  · exact .inr (by simpa using h4)⟩
theorem firm_loud {rows : List ARow} {q : Nat} (h : firmR rows q = false) : (rowAt rows q).op.loud = false := by
  unfold firmR at h
  simp only [Bool.or_eq_false_iff] at h
  exact h.1
theorem firm_war {rows : List ARow} {q x : Nat} (h : firmR rows q = false) (hx : x < q) : dstIn (rowAt rows q) (rowAt rows x) = false := by
  unfold firmR at h
  simp only [Bool.or_eq_false_iff, List.any_eq_false, List.mem_range] at h
  simpa using h.2 x hx
theorem dstIn_true {x y : ARow} {d : Nat} (hd : x.dst = some d) (hm : d ∈ namesR y) : dstIn x y = true := by
  unfold dstIn
  rw [hd]
  simpa using hm
variable (T : Trace P cf rows S) (hver : ∀ g args H v H', cf g args H = some (v, H') → VerLe H H')
include T in
theorem env_same {t : Nat} : ∀ {r q : Nat}, q ≤ r → r ≤ rows.length → (∀ x, q ≤ x → x < r → (rowAt rows x).dst ≠ some t) → eget (S r).1 t = eget (S q).1 t := by
  intro r
  induction r with
  | zero =>
    intro q h _ _
    obtain rfl : q = 0 := by omega
    rfl
  | succ r ih =>
    intro q h hr hx
    by_cases e : q = r + 1
    · subst e; rfl
    · obtain ⟨v, _, he⟩ := T.step r (by omega)
      rw [he]
      have hne := hx r (by omega) (by omega)
      have : eget (eput (S r).1 (rowAt rows r).dst v) t = eget (S r).1 t := by
        cases hd : (rowAt rows r).dst with
        | none => rfl
        | some d =>
          simp only [eput, eget_cons]
          rw [if_neg (fun e => hne (by rw [hd, e]))]
      rw [this]
      exact ih (by omega) (by omega) (fun x h1 h2 => hx x h1 (by omega))
include T hver in
theorem ver_range : ∀ {r q : Nat}, q ≤ r → r ≤ rows.length → VerLe (S q).2 (S r).2 := by
  intro r
  induction r with
  | zero =>
    intro q h _
    obtain rfl : q = 0 := by omega
    exact VerLe.refl _
  | succ r ih =>
    intro q h hr
    by_cases e : q = r + 1
    · subst e; exact VerLe.refl _
    · obtain ⟨v, hv, _⟩ := T.step r (by omega)
      exact (ih (by omega) (by omega)).trans (rowV_ver hver hv)
include T in
theorem quiet_range {σ : Sig} {w : World} {p : Nat} (hh : HR P σ base (S p).2 w) (hf : Fr σ0 σ H0 (S p).2 w0 w) : ∀ {q : Nat}, p ≤ q → q ≤ rows.length → (∀ x, p ≤ x → x < q → (rowAt rows x).op.loud = false) → HR P σ base (S q).2 w ∧ Fr σ0 σ H0 (S q).2 w0 w := by
  intro q
  induction q with
  | zero =>
    intro h _ _
    obtain rfl : p = 0 := by omega
    exact ⟨hh, hf⟩
  | succ q ih =>
    intro h hq hx
    by_cases e : p = q + 1
    · subst e; exact ⟨hh, hf⟩
    · obtain ⟨h1, h2⟩ := ih (by omega) (by omega) (fun x a b => hx x a (by omega))
      obtain ⟨v, hv, _⟩ := T.step q (by omega)
      rcases rowV_quiet (hx q (by omega) (by omega)) hv with ⟨e1, _⟩ | ⟨_, _, b, hb, e1⟩
      · rw [e1]; exact ⟨h1, h2⟩
      · rw [e1]
        exact ⟨h1.reserve (newA_blk hb).2.1, h2.reserve h1 b⟩
include T hver in
theorem quiet_block {q : Nat} {b : ABlk} (hb : (S (q + 1)).2 = (S q).2.push b) (hfr : (rowAt rows q).op.fresh = true) (hb0 : b.st = .tip ∧ b.anc = [] ∧ b.ver = 0) : ∀ {p : Nat}, q + 1 ≤ p → p ≤ rows.length → (∀ x, q + 1 ≤ x → x < p → (rowAt rows x).op.loud = false ∨ isCall (rowAt rows x).op = true) →
    (S p).2.get (S q).2.n = some b ∧ (S q).2.n + 1 ≤ (S p).2.n := by
  intro p
  induction p with
  | zero => intro h; omega
  | succ p ih =>
    intro h hp hx
    by_cases e : q = p
    · subst e
      rw [hb]
      exact ⟨by rw [AHeap.get_push, if_pos rfl], by simp⟩
    · obtain ⟨h1, h2⟩ := ih (by omega) (by omega) (fun x a b => hx x a (by omega))
      obtain ⟨v, hv, _⟩ := T.step p (by omega)
      rcases hx p (by omega) (by omega) with hl | hc
      · rcases rowV_quiet hl hv with ⟨e1, _⟩ | ⟨_, _, b2, hb2, e1⟩
        · rw [e1]; exact ⟨h1, h2⟩
        · rw [e1]
          refine ⟨?_, by simp; omega⟩
          rw [AHeap.get_push, if_neg (by omega)]
          exact h1
      · have hw := T.watch q p (by omega) (by omega) hfr hc
        obtain ⟨hn, hall⟩ := rowV_ver hver hv
        obtain ⟨b', g1, g2, g3, g4⟩ := hall _ _ h1
        rw [g1] at hw
        simp only [calmB, Bool.and_eq_true] at hw
        obtain ⟨⟨w1, w2⟩, w3⟩ := hw
        have hv0 : b'.ver = 0 := Nat.eq_of_beq_eq_true w1
        have hst : b'.st = .tip := by revert w2; cases b'.st <;> simp
        have han : b'.anc = [] := by revert w3; cases b'.anc <;> simp
        obtain ⟨g5, _, _⟩ := g4 (by rw [hv0, hb0.2.2])
        refine ⟨?_, by omega⟩
        rw [g1]
        obtain ⟨c1, c2, c3, c4, c5⟩ := b'
        obtain ⟨d1, d2, d3, d4, d5⟩ := b
        simp only at g3 g5 hv0 hst han hb0
        obtain ⟨rfl, rfl, rfl⟩ := hb0
        subst g3 g5 hv0 hst han
        rfl
end
section
variable {P : Program} {nt base : Nat} {ops : Array Oper} {l : List Nat} {rows : List ARow} {cls : List (List Nat)} {S : Nat → Env × AHeap} {cf : CallF} {σ0 : Sig} {H0 : AHeap} {w0 : World}
theorem draw_any (hcf : ∀ g args H v H', cf g args H = some (v, H') → Sim P base g args H v H') (D : DOK ops l rows cls) (hprep : prepDraw P nt ops l = some rows) (T : Trace P cf rows S) (hs0 : (S 0).2 = H0)
    {Q : Exit → Act → World → Prop} (hQ : ∀ σ a w, ER σ nt (S rows.length).1 a → HR P σ base (S rows.length).2 w → Fr σ0 σ H0 (S rows.length).2 w0 w → Q .normal a w) :
    ∀ (fuel : Nat) (listed : Array Bool) (a : Act) (w : World), DInv P nt base ops l rows S σ0 H0 w0 fuel listed a w → wpAny P .any ops Q fuel listed a w := by
  have hver : ∀ g args H v H', cf g args H = some (v, H') → VerLe H H' := fun g args H v H' h => (hcf g args H v H' h).2.1
  have hrl : rows.length = ops.size := D.rlen
  obtain ⟨hpl, hpget⟩ := prepDraw_get hprep
  have hll : l.length = ops.size := D.len
  have hrow : ∀ {q}, q < ops.size → ∃ o, ops[l.getD q ops.size]? = some o ∧ prepRow P nt ops o = some (rowAt rows q) := by
    intro q hq
    have hlq : l[q]? = some (l.getD q ops.size) := by
      rw [List.getD_eq_getElem?_getD, List.getElem?_eq_getElem (by omega)]
      simp
    obtain ⟨o, r, ho, hr, hp⟩ := hpget q _ hlq
    refine ⟨o, ho, ?_⟩
    have : rowAt rows q = r := by unfold rowAt; rw [List.getD_eq_getElem?_getD, hr]; rfl
    rw [this]; exact hp
  have hend : ∀ {fuel listed a w}, DInv P nt base ops l rows S σ0 H0 w0 fuel listed a w → (∀ q, q < ops.size → Lst ops l listed q) → Q .normal a w := by
    intro fuel listed a w hinv hall
    obtain ⟨p, σ, U, hp, hls, hU, hun, hpn, hcl, hfirm, hh, hf, hb, hsz, hdf, henv, habs⟩ := hinv
    have hpe : p = ops.size := by
      rcases Nat.lt_or_ge p ops.size with h | h
      · exact absurd (hall p h) (hpn p (Nat.le_refl _) h)
      · omega
    subst hpe
    rw [← hrl] at hh hf henv
    refine hQ σ a w ⟨hsz, hdf, fun t => ?_⟩ hh hf
    rcases henv t with ⟨q, hq, hnl, _⟩ | h
    · exact absurd (hall q (by omega)) hnl
    · exact h
  intro fuel
  induction fuel with
  | zero =>
    intro listed a w hinv
    have hall : ∀ q, q < ops.size → Lst ops l listed q := by
      obtain ⟨p, σ, U, hp, hls, hU, hun, _⟩ := hinv
      intro q hq
      by_cases hL : Lst ops l listed q
      · exact hL
      · have := hun q hq hL
        rw [List.eq_nil_of_length_eq_zero hU] at this
        simp at this
    refine ⟨?_, hend hinv hall⟩
    refine List.eq_nil_iff_forall_not_mem.2 fun i hi => ?_
    obtain ⟨h1, o, ho, _⟩ := mem_ready.1 hi
    have hil : i < ops.size := (Array.getElem?_eq_some_iff.1 ho).1
    obtain ⟨q, hq, hqi⟩ := D.surj hil
    have := hall q hq
    unfold Lst at this
    rw [hqi] at this
    obtain ⟨_, _, _, _, hls, _⟩ := hinv
    have hlt : i < listed.size := by omega
    simp [Array.getD, hlt] at h1 this
    rw [h1] at this
    cases this
  | succ fuel ih =>
    intro listed a w hinv
    refine ⟨fun hr => hend hinv ?_, fun i hi => ?_⟩
    ·
      intro q
      induction q using Nat.strongRecOn with
      | _ q ihq =>
        intro hq
        by_cases hL : Lst ops l listed q
        · exact hL
        · exfalso
          obtain ⟨o, ho, _⟩ := hrow hq
          have : l.getD q ops.size ∈ Region.ready .any ops listed := by
            refine mem_ready.2 ⟨?_, o, ho, fun e he hb => ?_⟩
            · obtain ⟨_, _, _, _, hls, _⟩ := hinv
              have hlt : l.getD q ops.size < listed.size := by rw [hls]; exact D.lt hq
              unfold Lst at hL
              simp only [Array.getD, hlt, dif_pos] at hL ⊢
              simpa using hL
            · obtain ⟨h1, h2⟩ := D.edge hq ho e he hb
              have := ihq _ h1 (by omega)
              unfold Lst at this
              rw [h2] at this
              exact this
          rw [hr] at this
          simp at this
    ·
      obtain ⟨hi1, o, ho, hall⟩ := mem_ready.1 hi
      have hil : i < ops.size := (Array.getElem?_eq_some_iff.1 ho).1
      obtain ⟨q, hq, hqi⟩ := D.surj hil
      subst hqi
      obtain ⟨o', ho', hprow⟩ := hrow hq
      rw [ho] at ho'
      injection ho' with ho'
      subst ho'
      obtain ⟨p, σ, U, hp, hls, hU, hun, hpn, hcl, hfirm, hh, hf, hb, hsz, hdf, henv, habs⟩ := hinv
      have hilt : l.getD q ops.size < listed.size := by omega
      have hqn : ¬ Lst ops l listed q := by
        intro h
        unfold Lst at h
        simp only [Array.getD, hilt, dif_pos] at h hi1
        rw [hi1] at h
        cases h
      have hdeps : ∀ {x}, depB cls x q = true → Lst ops l listed x := fun hd => dep_edges D hcl hq ho hall hd
      have hclos : ∀ {r}, r < ops.size → Lst ops l listed r → ∀ x, depB cls x r = true → Lst ops l listed x := fun hr hL x hd => lst_closed D hcl _ hr hL x hd
      have hL' : ∀ x, x < ops.size → (Lst ops l (listed.setIfInBounds (l.getD q ops.size) true) x ↔ (Lst ops l listed x ∨ x = q)) := by
        intro x hx
        unfold Lst
        by_cases e : x = q
        · subst e
          have hset : ∀ k, k < listed.size → (listed.setIfInBounds k true).getD k false = true := by
            intro k hk; simp [Array.getD, hk]
          exact ⟨fun _ => Or.inr rfl, fun _ => hset _ hilt⟩
        · have hne : l.getD q ops.size ≠ l.getD x ops.size := fun h => e (by rw [← D.inj hx, ← D.inj hq, h])
          rw [getD_set_ne false hne]
          simp [e]
      obtain ⟨v, hv, hv2⟩ := T.step q (by omega)
      have hself := D.self hq
      have hslots : ∀ t, t ∈ slotsR (rowAt rows q) → (∀ x, x < p → ¬ Lst ops l listed x → (rowAt rows x).dst ≠ some t) ∧ (p ≤ q → eget (S q).1 t = eget (S p).1 t) ∧ (q < p → eget (S q).1 t = eget (S p).1 t) := by
        intro t ht
        have hnm : t ∈ namesR (rowAt rows q) := List.mem_append_left _ ht
        have hnotq : (rowAt rows q).dst ≠ some t := by
          intro hd
          unfold selfOk at hself
          rw [hd] at hself
          simp only [Bool.not_eq_true'] at hself
          have : (slotsR (rowAt rows q)).contains t = true := by simpa using ht
          rw [this] at hself
          cases hself
        have hpro : ∀ x, x < ops.size → ¬ Lst ops l listed x → (x < p ∨ x < q) → (rowAt rows x).dst ≠ some t := by
          intro x hx hnl hxp hd
          have hdi := dstIn_true hd hnm
          rcases Nat.lt_trichotomy x q with h | h | h
          · by_cases hdp : depB cls x q = true
            · exact hnl (hdeps hdp)
            · have := (pair_of (D.pair h hq) hdp).2.2.1
              rw [hdi] at this; cases this
          · subst h; exact hnotq hd
          · have hxp' : x < p := by omega
            have := firm_war (hfirm x hxp' hnl) h
            rw [hdi] at this; cases this
        refine ⟨fun x hx hnl => hpro x (by omega) hnl (.inl hx), fun hpq => ?_, fun hqp => ?_⟩
        · refine env_same T hpq (by omega) (fun x h1 h2 => hpro x (by omega) (hpn x h1 (by omega)) (.inr h2))
        · refine (env_same T (Nat.le_of_lt hqp) (by omega) (fun x h1 h2 hd => ?_)).symm
          by_cases hxq : x = q
          · subst hxq; exact hnotq hd
          · have hdi := dstIn_true hd hnm
            by_cases hnl : Lst ops l listed x
            · have hqx : q < x := by omega
              by_cases hdp : depB cls q x = true
              · exact hqn (hclos (by omega) hnl q hdp)
              · have := (pair_of (D.pair hqx (by omega)) hdp).2.1
                rw [hdi] at this; cases this
            · exact hpro x (by omega) hnl (.inl h2) hd
      have her : ER σ nt (forget (slotsR (rowAt rows q)) (S q).1) a := by
        refine ⟨hsz, hdf, fun t => ?_⟩
        rw [eget_forget]
        split
        · rename_i ht
          obtain ⟨h1, h2, h3⟩ := hslots t ht
          have heq : eget (S q).1 t = eget (S p).1 t := by
            rcases Nat.lt_or_ge q p with h | h
            · exact h3 h
            · exact h2 h
          rw [heq]
          rcases henv t with ⟨x, hx, hnl, hd⟩ | h
          · exact absurd hd (h1 x hx hnl)
          · exact h
        · exact .poison _
      have hdst : (rowAt rows q).dst = o.dst := (prepRow_inv hprow).2.1
      have hdlt : ∀ d, o.dst = some d → d < nt := (prepRow_inv hprow).2.2.1
      have hun' : ∀ x, x < ops.size → ¬ Lst ops l (listed.setIfInBounds (l.getD q ops.size) true) x → x ∈ U.erase q := by
        intro x hx hnl
        rw [hL' x hx, not_or] at hnl
        exact (List.mem_erase_of_ne hnl.2).2 (hun x hx hnl.1)
      have hUe : (U.erase q).length = fuel := by
        rw [List.length_erase_of_mem (hun q hq hqn), hU]
        rfl
      have hcl' : ∀ x, x < ops.size → Lst ops l (listed.setIfInBounds (l.getD q ops.size) true) x → ∀ o', ops[l.getD x ops.size]? = some o' → ∀ e ∈ o'.after, Region.binds .any e = true → (listed.setIfInBounds (l.getD q ops.size) true).getD e.on false = true := by
        intro x hx hLx o' ho' e he hbd
        refine getD_set_true ?_
        rw [hL' x hx] at hLx
        rcases hLx with h | h
        · exact hcl x hx h o' ho' e he hbd
        · subst h
          rw [ho] at ho'
          injection ho' with ho'
          subst ho'
          exact hall e he hbd
      have hls' : (listed.setIfInBounds (l.getD q ops.size) true).size = ops.size := by simpa using hls
      suffices hgo : ∀ (next : Act → World → Prop), next = wpAny P .any ops Q fuel (listed.setIfInBounds (l.getD q ops.size) true) → (if Region.wanted o (yielded ops a.tmps) then o.wp P a w next Q else next (a.put o.dst undef) w) by
        unfold wpOp
        rw [ho]
        have := hgo _ rfl
        simp only
        split
        · rename_i hw
          rw [if_pos hw] at this
          exact .inl this
        · rename_i hw
          rw [if_neg hw] at this
          exact this
      intro next hnext
      have hputsz : ∀ v', (a.put o.dst v').tmps.size = nt ∧ (a.put o.dst v').defers = [] := by
        intro v'
        cases o.dst <;> simp [Act.put, hsz, hdf]
      have hput : ∀ v' t, ((a.put o.dst v').tmps.getD t undef = if o.dst = some t then v' else a.tmps.getD t undef) := by
        intro v' t
        cases hd : o.dst with
        | none => simp [Act.put]
        | some d =>
          have hdl : d < a.tmps.size := by rw [hsz]; exact hdlt d hd
          simp only [Act.put, Option.some.injEq]
          by_cases e1 : d = t
          · subst e1
            simp [Array.getD, hdl]
          · rw [if_neg e1]
            simp only [Array.getD_eq_getD_getElem?]
            rw [Array.getElem?_setIfInBounds_ne e1]
      rcases Nat.lt_or_ge q p with hqp | hpq
      ·
        have hnf : firmR rows q = false := hfirm q hqp hqn
        have hquiet := firm_loud hnf
        have hvle : VerLe (S q).2 (S p).2 := ver_range T hver (Nat.le_of_lt hqp) (by omega)
        have hpE : p ≤ endAt rows := by
          rcases endAt_cases rows with hE | ⟨hE, hst⟩
          · omega
          · refine Decidable.byContradiction fun hcon => ?_
            have hlast : endAt rows = ops.size - 1 := by omega
            rw [hlast] at hst
            have hlt : ops.size - 1 < p := by omega
            by_cases hL : Lst ops l listed (ops.size - 1)
            · have hql : q < ops.size - 1 := by
                rcases Nat.lt_or_ge q (ops.size - 1) with h | h
                · exact h
                · have : q = ops.size - 1 := by omega
                  subst this
                  exact absurd hL hqn
              exact hqn (hclos (by omega) hL q (D.last hst hql))
            · have hf1 := hfirm _ hlt hL
              have hloud := firm_loud hf1
              revert hst hloud
              cases (rowAt rows (ops.size - 1)).op <;> simp [isStore, AOp.loud]
        have hEl : endAt rows ≤ rows.length := by rcases endAt_cases rows with h | ⟨h, _⟩ <;> omega
        have hvle2 : VerLe (S p).2 (S (endAt rows)).2 := ver_range T hver hpE hEl
        have hkept : ∀ t, (rowAt rows q).dst = some t → eget (S p).1 t = v := by
          intro t hd
          have h1 : eget (S (q + 1)).1 t = v := by rw [hv2, hd]; simp [eput, eget_cons]
          rw [← h1]
          refine env_same T (by omega) (by omega) (fun x hx1 hx2 hdx => ?_)
          have hnm : t ∈ namesR (rowAt rows q) := List.mem_append_right _ (by rw [hd]; simp)
          have hdi := dstIn_true hdx hnm
          have hqx : q < x := by omega
          by_cases hnl : Lst ops l listed x
          · by_cases hdp : depB cls q x = true
            · exact hqn (hclos (by omega) hnl q hdp)
            · have := (pair_of (D.pair hqx (by omega)) hdp).2.1
              rw [hdi] at this; cases this
          · have := firm_war (hfirm x hx2 hnl) hqx
            rw [hdi] at this; cases this
        have hinv' : ∀ σ' v' w', VR σ' v v' → Sub σ σ' → HR P σ' base (S p).2 w' → Fr σ0 σ' H0 (S p).2 w0 w' → w.heap.size ≤ w'.heap.size → (∀ x, x < p → ¬ Lst ops l listed x → x ≠ q → (S (x + 1)).2.n = (S x).2.n + 1 → σ' (S x).2.n = none) → next (a.put o.dst v') w' := by
          intro σ' v' w' g1 g2 g3 g4 g5 g6
          subst hnext
          refine ih _ _ _ ⟨p, σ', U.erase q, hp, hls', hUe, hun', fun x hx1 hx2 hLx => ?_, hcl', fun x hx hnl => ?_, g3, g4, Nat.le_trans hb g5, (hputsz v').1, (hputsz v').2, fun t => ?_, fun x hx hnl hn => ?_⟩
          · rw [hL' x hx2] at hLx
            rcases hLx with h | h
            · exact hpn x hx1 hx2 h
            · omega
          · rw [hL' x (by omega), not_or] at hnl
            exact hfirm x hx hnl.1
          · rw [hput]
            split
            · rename_i hd
              right
              rw [hkept t (by rw [hdst]; exact hd)]
              exact g1
            · rename_i hd
              rcases henv t with ⟨x, hx, hnl, hdx⟩ | h
              · by_cases hxq : x = q
                · subst hxq
                  rw [hdst] at hdx
                  exact absurd hdx hd
                · exact .inl ⟨x, hx, by rw [hL' x (by omega), not_or]; exact ⟨hnl, hxq⟩, hdx⟩
              · exact .inr (h.mono g2)
          · rw [hL' x (by omega), not_or] at hnl
            exact g6 x hx hnl.1 hnl.2 hn
        rcases rowV_quiet hquiet hv with ⟨he, hlater⟩ | ⟨hg, hfr, b, hnb, he⟩
        ·
          have hst : ∀ pp ∈ stamps (S q).2 (forget (slotsR (rowAt rows q)) (S q).1) (rowAt rows q), ∃ b, (S p).2.get pp.1 = some b ∧ b.ver = pp.2 := by
            intro pp hpp
            obtain ⟨bn, hbn, hvn⟩ := T.stamp q (by omega) pp hpp
            obtain ⟨b0, hb0, hv0⟩ : ∃ b0, (S q).2.get pp.1 = some b0 ∧ b0.ver = pp.2 := by
              unfold stamps at hpp
              split at hpp
              · split at hpp
                · split at hpp
                  · rename_i b hb0
                    simp only [List.mem_singleton] at hpp
                    subst hpp
                    exact ⟨b, hb0, rfl⟩
                  · simp at hpp
                · simp at hpp
              · simp at hpp
            obtain ⟨b1, hb1, hle1, _⟩ := hvle.2 _ _ hb0
            obtain ⟨b2, hb2, hle2, _⟩ := hvle2.2 _ _ hb1
            rw [hbn] at hb2
            injection hb2 with hb2
            subst hb2
            exact ⟨b1, hb1, by omega⟩
          have hrv := hlater (S p).2 hvle hst
          refine rowV_sound hcf her hh hb hprow hrv fun σ' v' w' g1 g2 g3 => ?_
          refine hinv' σ' v' w' g1 g3.sub g2 (hf.trans g3) g3.size fun x hx hnl hxq hn => ?_
          have hxn : (S x).2.n < (S p).2.n := by
            have := (ver_range T hver (show x + 1 ≤ p by omega) (by omega)).1
            omega
          rw [g3.old _ hxn]
          exact habs x hx hnl hn
        ·
          have hblk := newA_blk hnb
          have hblk' : b.st = .tip ∧ b.anc = [] ∧ b.ver = 0 := hblk
          have hnoloud : ∀ x, q + 1 ≤ x → x < p → (rowAt rows x).op.loud = false ∨ isCall (rowAt rows x).op = true := by
            intro x hx1 hx2
            by_cases hnl : Lst ops l listed x
            · by_cases hdp : depB cls q x = true
              · exact absurd (hclos (by omega) hnl q hdp) hqn
              · exact (pair_of (D.pair (show q < x by omega) (by omega)) hdp).2.2.2 hfr
            · exact .inl (firm_loud (hfirm x hx2 hnl))
          obtain ⟨hgb, hnb2⟩ := quiet_block T hver he hfr hblk' (show q + 1 ≤ p by omega) (by omega) hnoloud
          have hnone : σ (S q).2.n = none := habs q hqp hqn (by rw [he]; simp)
          have hnew := new_sound (prepRow_inv hprow).1 hfr her hnb
          obtain ⟨n1, n2, n3, cs, sz, hc, hs, hrun⟩ := hnew
          obtain ⟨v', hr1, hr2⟩ := hrun w
          have hw : Region.wanted o (yielded ops a.tmps) = true := guard_rel her (prepRow_inv hprow).2.2.2 hg
          rw [hw, if_pos rfl]
          unfold Oper.wp
          rw [hr1]
          simp only [Oper.upon]
          have hH0 : H0.n ≤ (S q).2.n := by rw [← hs0]; exact (ver_range T hver (Nat.zero_le q) (by omega)).1
          refine hinv' (ext σ (S q).2.n ⟨w.heap.size, 0, cs.size, sz⟩) v' _ (hr2 _ (ext_new _ _ _)) (Sub.ext hnone _) (hh.fill hb hgb n1 n3 hnone (fun j bj hj hjo hm => ?_) hc hs) (hf.fill hH0 hnone _ _ rfl) (by simp) (fun x hx hnl hxq hn => ?_)
          · have := hh.anc hgb hj (by rw [hblk'.1]; rfl) hjo hm
            rw [hblk'.1] at this
            cases this
          · have hne : (S x).2.n ≠ (S q).2.n := by
              rcases Nat.lt_or_ge x q with h | h
              · have := (ver_range T hver (show x + 1 ≤ q by omega) (by omega)).1
                omega
              · have hqx : q + 1 ≤ x := by omega
                have h1 := (ver_range T hver hqx (by omega)).1
                have h2 : (S (q + 1)).2.n = (S q).2.n + 1 := by rw [he]; simp
                omega
            simp only [ext, if_neg hne]
            exact habs x hx hnl hn
      ·
        have hquiet : ∀ x, p ≤ x → x < q → firmR rows x = false := by
          intro x hx1 hx2
          by_cases hdp : depB cls x q = true
          · exact absurd (hdeps hdp) (hpn x hx1 (by omega))
          · exact (pair_of (D.pair hx2 hq) hdp).1
        obtain ⟨hh2, hf2⟩ := quiet_range T hh hf hpq (by omega) (fun x h1 h2 => firm_loud (hquiet x h1 h2))
        refine rowV_sound hcf her hh2 hb hprow hv fun σ' v' w' g1 g2 g3 => ?_
        subst hnext
        refine ih _ _ _ ⟨q + 1, σ', U.erase q, by omega, hls', hUe, hun', fun x hx1 hx2 hLx => ?_, hcl', fun x hx hnl => ?_, g2, hf2.trans g3, Nat.le_trans hb g3.size, (hputsz v').1, (hputsz v').2, fun t => ?_, fun x hx hnl hn => ?_⟩
        · rw [hL' x hx2] at hLx
          rcases hLx with h | h
          · exact hpn x (by omega) hx2 h
          · omega
        · rw [hL' x (by omega), not_or] at hnl
          rcases Nat.lt_or_ge x p with h | h
          · exact hfirm x h hnl.1
          · exact hquiet x h (by omega)
        · rw [hput]
          split
          · rename_i hd
            right
            rw [hv2, hdst, hd]
            simp only [eput, eget_cons, if_true]
            exact g1
          · rename_i hd
            have hS : eget (S (q + 1)).1 t = eget (S q).1 t := by
              rw [hv2, hdst]
              cases hd2 : o.dst with
              | none => rfl
              | some d =>
                simp only [eput, eget_cons]
                rw [if_neg (fun e => hd (by rw [hd2, e]))]
            rw [hS]
            by_cases hex : ∃ x, p ≤ x ∧ x < q ∧ (rowAt rows x).dst = some t
            · obtain ⟨x, hx1, hx2, hdx⟩ := hex
              exact .inl ⟨x, by omega, by rw [hL' x (by omega), not_or]; exact ⟨hpn x hx1 (by omega), by omega⟩, hdx⟩
            · have heq : eget (S q).1 t = eget (S p).1 t := env_same T hpq (by omega) (fun x h1 h2 hdx => hex ⟨x, h1, h2, hdx⟩)
              rw [heq]
              rcases henv t with ⟨x, hx, hnl, hdx⟩ | h
              · exact .inl ⟨x, by omega, by rw [hL' x (by omega), not_or]; exact ⟨hnl, by omega⟩, hdx⟩
              · exact .inr (h.mono g3.sub)
        · have hxq : x < q ∨ x = q := by omega
          rw [hL' x (by omega), not_or] at hnl
          have hxlt : x < q := by rcases hxq with h | h; · exact h
                                  · exact absurd h hnl.2
          have hxn : (S x).2.n < (S q).2.n := by
            have := (ver_range T hver (show x + 1 ≤ q by omega) (by omega)).1
            omega
          rw [g3.old _ hxn]
          rcases Nat.lt_or_ge x p with h | h
          · exact habs x h hnl.1 hn
          · refine hh.out _ ?_
            exact (ver_range T hver h (by omega)).1
theorem draw_sound (hmix : P.follows .mixedOrders = true) (hcf : ∀ g args H v H', cf g args H = some (v, H') → Sim P base g args H v H') (hok : drawOk ops l rows cls = true) (hprep : prepDraw P nt ops l = some rows)
    {σ : Sig} {e e' : Env} {a : Act} {H H' : AHeap} {w : World} (her : ER σ nt e a) (hh : HR P σ base H w) (hb : base ≤ w.heap.size) (h : drawA P cf rows [] [] e H = some (e', H')) {id : Nat} {Q : Exit → Act → World → Prop}
    (hQ : ∀ σ' a' w', ER σ' nt e' a' → HR P σ' base H' w' → Fr σ σ' H H' w w' → Q .normal a' w') : (Code.region id ops true).wp P Q a w := by
  have D := drawOk_spec hok
  obtain ⟨S, s0, s1, T, _, _⟩ := draw_trace h
  refine wp_region_any hmix (draw_any (σ0 := σ) (H0 := H) (w0 := w) hcf D hprep T (by rw [s0]) (fun σ' a' w' h1 h2 h3 => ?_) _ _ _ _ ?_)
  · rw [s1] at h1 h2 h3
    exact hQ σ' a' w' h1 h2 h3
  · refine ⟨0, σ, List.range ops.size, Nat.zero_le _, by simp, by simp, fun q hq _ => by simpa using hq, fun q _ hq hL => ?_, fun q hq hL => ?_, fun q hq => by omega, ?_, ?_, hb, her.size, her.defers, fun t => .inr ?_, fun q hq => by omega⟩
    · unfold Lst at hL
      simp [Array.getD] at hL
    · exfalso
      unfold Lst at hL
      simp [Array.getD] at hL
    · rw [s0]; exact hh.drewN _
    · rw [s0]; exact Fr.drewN _ _ _ _
    · rw [s0]; exact her.get t
end
def closures (ops : Array Oper) (l : List Nat) : List (List Nat) :=
 (List.range ops.size).foldl (fun acc q => acc ++ [(edgesPos ops l q ++ (edgesPos ops l q).flatMap fun x => acc.getD x []).eraseDups]) []
def prepC (P : Program) (nt : Nat) : Code → List (List Nat) → Option (ACode × List (List Nat))
 | .skip, hs => some (.skip, hs)
 | .region _ ops false, hs => (prepRows P nt ops ops.toList).map fun rows => (.ops rows, hs)
 | .region _ ops true, hs => match hs with
  | l :: hs => match prepDraw P nt ops l with
   | some rows => if drawOk ops l rows (closures ops l) = true then some (.draw rows, hs) else none
   | none => none
  | [] => none
 | .seq a b, hs => match prepC P nt a hs with
  | some (a', hs) => match prepC P nt b hs with
   | some (b', hs) => some (.seq a' b', hs)
   | none => none
  | none => none
 | .cond c a b, hs => match prepC P nt a hs with
  | some (a', hs) => match prepC P nt b hs with
   | some (b', hs) => some (.cond c a' b', hs)
   | none => none
  | none => none
 | .block id c, hs => match Nat.blt id 1000000, prepC P nt c hs with
  | true, some (c', hs) => some (.block id c', hs)
  | _, _ => none
 | .loop c, hs => match hs with
  | keep :: hs => match prepC P nt c hs with
   | some (c', hs) => some (.loop keep c', hs)
   | none => none
  | [] => none
 | .exit id, hs => match Nat.blt id 1000000 with
  | true => some (.exit id, hs)
  | false => none
 | .ret, hs => some (.ret, hs)
 | .label _, hs => some (.skip, hs)
 | .goto l, hs => some (.exit (l + 1000000), hs)
 | _, _ => none
def exitN (id : Nat) : Exit := match Nat.blt id 1000000 with
 | true => .exit id
 | false => .goto (id - 1000000)
theorem exitN_lo {id : Nat} (h : Nat.blt id 1000000 = true) : exitN id = .exit id := by unfold exitN; rw [h]
theorem exitN_hi {id : Nat} (h : Nat.blt id 1000000 = false) : exitN id = .goto (id - 1000000) := by unfold exitN; rw [h]
theorem exitN_goto (l : Nat) : exitN (l + 1000000) = .goto l := by
 have : Nat.blt (l + 1000000) 1000000 = false := by
  cases h : Nat.blt (l + 1000000) 1000000 with
  | false => rfl
  | true => rw [Nat.blt_eq] at h; omega
 rw [exitN_hi this]
 simp
def AEx.toExit : AEx → Exit
 | .normal => .normal
 | .exit id => exitN id
 | .ret => .ret
section
variable {P : Program} {nt base : Nat} {cf : CallF}
theorem ER.forget {σ : Sig} {e : Env} {a : Act} (h : ER σ nt e a) (ks : List Nat) : ER σ nt (forget ks e) a := by
 refine ⟨h.size, h.defers, fun t => ?_⟩
 rw [eget_forget]
 split
 ·exact h.get t
 ·exact .poison _
def Leaves (P : Program) (base : Nat) (nt : Nat) (c : Code) (σ : Sig) (a : Act) (w : World) (H : AHeap) (x : AEx) (e' : Env) (H' : AHeap) : Prop :=
 ∀ Q : Exit → Act → World → Prop, (∀ σ' a' w', ER σ' nt e' a' → HR P σ' base H' w' → Fr σ σ' H H' w w' → Q x.toExit a' w') → c.wp P Q a w
theorem iter_sound {c : Code} {keep : List Nat} {body : Env → AHeap → Option (AEx × Env × AHeap)}
  (hb : ∀ {σ e a H w x e' H'}, ER σ nt e a → HR P σ base H w → base ≤ w.heap.size → body e H = some (x, e', H') → Leaves P base nt c σ a w H x e' H') :
  ∀ (n : Nat) {σ e a H w x e' H'}, ER σ nt e a → HR P σ base H w → base ≤ w.heap.size → iterA keep body n e H = some (x, e', H') → Leaves P base nt (.loop c) σ a w H x e' H' := by
 intro n σ e a H w x e' H' her hh hbs h Q hQ
 refine wp_loop_rounds n ?_
 revert hQ
 suffices hgo : ∀ (n : Nat) {σ1 : Sig} {e1 : Env} {a1 : Act} {H1 : AHeap} {w1 : World}, ER σ1 nt e1 a1 → HR P σ1 base H1 w1 → base ≤ w1.heap.size → iterA keep body n e1 H1 = some (x, e', H') →
   (∀ σ' a' w', ER σ' nt e' a' → HR P σ' base H' w' → Fr σ1 σ' H1 H' w1 w' → Q x.toExit a' w') → Code.rounds P c Q n a1 w1 from fun hQ => hgo n her hh hbs h hQ
 intro n
 induction n with
 | zero => intro σ1 e1 a1 H1 w1 _ _ _ h; simp [iterA] at h
 | succ n ih =>
  intro σ1 e1 a1 H1 w1 her hh hbs h hQ
  rw [rounds_succ]
  simp only [iterA] at h
  split at h
  ·cases h
  ·rename_i e2 H2 h2
   refine hb (her.forget keep) hh hbs h2 _ fun σ' a' w' q1 q2 q3 => ?_
   simp only [AEx.toExit, Exit.then]
   exact ih q1 q2 (Nat.le_trans hbs q3.size) h fun σ2 a2 w2 p1 p2 p3 => hQ σ2 a2 w2 p1 p2 (q3.trans p3)
  ·rename_i r hr h2
   injection h with h
   subst h
   refine hb (her.forget keep) hh hbs h2 _ fun σ' a' w' q1 q2 q3 => ?_
   have := hQ σ' a' w' q1 q2 q3
   cases x with
   | normal => exact absurd rfl (hr e' H')
   | exit id =>
    simp only [AEx.toExit] at this ⊢
    cases hb : Nat.blt id 1000000 with
    | true => rw [exitN_lo hb] at this ⊢; exact this
    | false => rw [exitN_hi hb] at this ⊢; exact this
   | ret => exact this
theorem exec_sound (hmix : P.follows .mixedOrders = true) (hcf : ∀ g args H v H', cf g args H = some (v, H') → Sim P base g args H v H') {lf : Nat} :
  ∀ (c : Code) {hs hs' : List (List Nat)} {ac : ACode}, prepC P nt c hs = some (ac, hs') → ∀ {σ : Sig} {e : Env} {a : Act} {H : AHeap} {w : World} {x : AEx} {e' : Env} {H' : AHeap},
   ER σ nt e a → HR P σ base H w → base ≤ w.heap.size → execA P cf lf ac e H = some (x, e', H') → Leaves P base nt c σ a w H x e' H' := by
 intro c
 induction c with
 | skip =>
  intro hs hs' ac hp σ e a H w x e' H' her hh hb h Q hQ
  simp only [prepC, Option.some.injEq, Prod.mk.injEq] at hp
  obtain ⟨rfl, rfl⟩ := hp
  simp only [execA, Option.some.injEq, Prod.mk.injEq] at h
  obtain ⟨rfl, rfl, rfl⟩ := h
  exact wp_skip (hQ σ a w her hh (Fr.refl _ _ _))
 | region id ops draw =>
  intro hs hs' ac hp σ e a H w x e' H' her hh hb h Q hQ
  cases draw with
  | false =>
   simp only [prepC, Option.map_eq_some_iff, Prod.mk.injEq] at hp
   obtain ⟨rows, hr, rfl, rfl⟩ := hp
   simp only [execA, Option.map_eq_some_iff, Prod.mk.injEq] at h
   obtain ⟨⟨e1, H1⟩, h1, rfl, rfl, rfl⟩ := h
   exact wp_region_list (rows_sound hcf _ hr her hh hb h1 hQ)
  | true =>
   cases hs with
   | nil => simp [prepC] at hp
   | cons l hs =>
    simp only [prepC] at hp
    split at hp
    ·rename_i rows hr
     split at hp
     ·rename_i hd
      simp only [Option.some.injEq, Prod.mk.injEq] at hp
      obtain ⟨rfl, rfl⟩ := hp
      simp only [execA, Option.map_eq_some_iff, Prod.mk.injEq] at h
      obtain ⟨⟨e1, H1⟩, h1, rfl, rfl, rfl⟩ := h
      exact draw_sound hmix hcf hd hr her hh hb h1 hQ
     ·cases hp
    ·cases hp
 | seq c1 c2 ih1 ih2 =>
  intro hs hs' ac hp σ e a H w x e' H' her hh hb h Q hQ
  simp only [prepC] at hp
  split at hp
  ·rename_i a1 hs1 hp1
   split at hp
   ·rename_i b1 hs2 hp2
    simp only [Option.some.injEq, Prod.mk.injEq] at hp
    obtain ⟨rfl, rfl⟩ := hp
    simp only [execA] at h
    split at h
    ·rename_i e1 H1 h1
     refine wp_seq (ih1 hp1 her hh hb h1 _ fun σ' a' w' q1 q2 q3 => ?_)
     simp only [AEx.toExit, Exit.then]
     exact ih2 hp2 q1 q2 (Nat.le_trans hb q3.size) h _ fun σ2 a2 w2 p1 p2 p3 => hQ σ2 a2 w2 p1 p2 (q3.trans p3)
    ·rename_i hn
     refine wp_seq (ih1 hp1 her hh hb h _ fun σ' a' w' q1 q2 q3 => ?_)
     have := hQ σ' a' w' q1 q2 q3
     cases x with
     | normal => exact absurd h (hn e' H')
     | exit id =>
      simp only [AEx.toExit] at this ⊢
      cases hb : Nat.blt id 1000000 with
      | true => rw [exitN_lo hb] at this ⊢; exact this
      | false => rw [exitN_hi hb] at this ⊢; exact this
     | ret => exact this
   ·cases hp
  ·cases hp
 | cond c c1 c2 ih1 ih2 =>
  intro hs hs' ac hp σ e a H w x e' H' her hh hb h Q hQ
  simp only [prepC] at hp
  split at hp
  ·rename_i a1 hs1 hp1
   split at hp
   ·rename_i b1 hs2 hp2
    simp only [Option.some.injEq, Prod.mk.injEq] at hp
    obtain ⟨rfl, rfl⟩ := hp
    simp only [execA] at h
    have hv := ev_rel her c
    split at h
    ·rename_i hc
     rw [hc] at hv
     exact wp_cond_true (VR.bool_inv hv) (ih1 hp1 her hh hb h Q hQ)
    ·rename_i hc
     rw [hc] at hv
     exact wp_cond_false (VR.bool_inv hv) (ih2 hp2 her hh hb h Q hQ)
    ·cases h
   ·cases hp
  ·cases hp
 | block id c ih =>
  intro hs hs' ac hp σ e a H w x e' H' her hh hb h Q hQ
  simp only [prepC] at hp
  split at hp
  ·rename_i a1 hs1 hid0 hp1
   simp only [Option.some.injEq, Prod.mk.injEq] at hp
   obtain ⟨rfl, rfl⟩ := hp
   simp only [execA] at h
   refine wp_block ?_
   split at h
   ·rename_i id' e1 H1 h1
    refine ih hp1 her hh hb h1 _ fun σ' a' w' q1 q2 q3 => ?_
    simp only [AEx.toExit]
    split at h
    ·rename_i hid
     subst hid
     rw [exitN_lo hid0]
     show (if id' = id' then Q .normal a' w' else Q (.exit id') a' w')
     rw [if_pos rfl]
     simp only [Option.some.injEq, Prod.mk.injEq] at h
     obtain ⟨rfl, rfl, rfl⟩ := h
     exact hQ σ' a' w' q1 q2 q3
    ·rename_i hid
     simp only [Option.some.injEq, Prod.mk.injEq] at h
     obtain ⟨rfl, rfl, rfl⟩ := h
     have := hQ σ' a' w' q1 q2 q3
     simp only [AEx.toExit] at this
     cases hb : Nat.blt id' 1000000 with
     | true =>
      rw [exitN_lo hb] at this ⊢
      show (if id' = id then Q .normal a' w' else Q (.exit id') a' w')
      rw [if_neg hid]
      exact this
     | false =>
      rw [exitN_hi hb] at this ⊢
      exact this
   ·rename_i hn
    refine ih hp1 her hh hb h _ fun σ' a' w' q1 q2 q3 => ?_
    have := hQ σ' a' w' q1 q2 q3
    cases x with
    | normal => exact this
    | exit id' => exact absurd h (hn id' e' H')
    | ret => exact this
  ·cases hp
 | loop c ih =>
  intro hs hs' ac hp σ e a H w x e' H' her hh hb h Q hQ
  cases hs with
  | nil => simp [prepC] at hp
  | cons keep hs =>
   simp only [prepC] at hp
   split at hp
   ·rename_i a1 hs1 hp1
    simp only [Option.some.injEq, Prod.mk.injEq] at hp
    obtain ⟨rfl, rfl⟩ := hp
    simp only [execA] at h
    exact iter_sound (fun g1 g2 g3 g4 => ih hp1 g1 g2 g3 g4) lf her hh hb h Q hQ
   ·cases hp
 | exit id =>
  intro hs hs' ac hp σ e a H w x e' H' her hh hb h Q hQ
  simp only [prepC] at hp
  split at hp
  case h_2 => cases hp
  rename_i hid
  simp only [Option.some.injEq, Prod.mk.injEq] at hp
  obtain ⟨rfl, rfl⟩ := hp
  simp only [execA, Option.some.injEq, Prod.mk.injEq] at h
  obtain ⟨rfl, rfl, rfl⟩ := h
  have := hQ σ a w her hh (Fr.refl _ _ _)
  simp only [AEx.toExit] at this
  rw [exitN_lo hid] at this
  exact wp_exit this
 | label l =>
  intro hs hs' ac hp σ e a H w x e' H' her hh hb h Q hQ
  simp only [prepC, Option.some.injEq, Prod.mk.injEq] at hp
  obtain ⟨rfl, rfl⟩ := hp
  simp only [execA, Option.some.injEq, Prod.mk.injEq] at h
  obtain ⟨rfl, rfl, rfl⟩ := h
  exact wp_label (hQ σ a w her hh (Fr.refl _ _ _))
 | goto l =>
  intro hs hs' ac hp σ e a H w x e' H' her hh hb h Q hQ
  simp only [prepC, Option.some.injEq, Prod.mk.injEq] at hp
  obtain ⟨rfl, rfl⟩ := hp
  simp only [execA, Option.some.injEq, Prod.mk.injEq] at h
  obtain ⟨rfl, rfl, rfl⟩ := h
  have := hQ σ a w her hh (Fr.refl _ _ _)
  simp only [AEx.toExit] at this
  rw [exitN_goto] at this
  exact wp_goto this
 | ret =>
  intro hs hs' ac hp σ e a H w x e' H' her hh hb h Q hQ
  simp only [prepC, Option.some.injEq, Prod.mk.injEq] at hp
  obtain ⟨rfl, rfl⟩ := hp
  simp only [execA, Option.some.injEq, Prod.mk.injEq] at h
  obtain ⟨rfl, rfl, rfl⟩ := h
  exact wp_ret (hQ σ a w her hh (Fr.refl _ _ _))
 | _ => intro hs hs' ac hp; simp [prepC] at hp
end
def prepRes (P : Program) : List ResultVar → Option (List ARes)
 | [] => some []
 | .tmp t :: r => (prepRes P r).map fun l => .tmp t :: l
 | .cell a t :: r => match shapeOf P t, prepRes P r with
  | some p, some l => some (.cell a (if p.1 then some p.2 else none) :: l)
  | _, _ => none
section
variable {P : Program} {base nt : Nat}
theorem run_load (w : World) {σ : Sig} {e : Env} {a : Act} {H : AHeap} (her : ER σ nt e a) (hh : HR P σ base H w) {t : TypeId} {x : Nat} {p : Bool × Nat} (hs : shapeOf P t = some p) {v : Value}
  (h : readA P e H (.load (.tmp x) (if p.1 then some p.2 else none)) = some v) : ∃ i o l, eget e x = .pointer (some ⟨i, o, none⟩) ∧ σ i = some l ∧ a.tmps.getD x undef = .pointer (some ⟨l.b, l.f + o, none⟩) ∧ ∃ v', (loadVar t ⟨l.b, l.f + o, none⟩).run P w = .ok v' w ∧ VR σ v v' := by
 obtain ⟨d, hd, hp1, hsz⟩ := shapeOf_inv hs
 simp only [readA] at h
 split at h
 ·rename_i i off hx
  have hx0 := ev_rel her (.tmp x)
  rw [hx] at hx0
  obtain ⟨l, hl, hx'⟩ := VR.ptr_inv hx0
  refine ⟨i, off, l, hx, hl, hx', ?_⟩
  split at h
  ·rename_i blk hg
   split at h
   ·rename_i hm
    split at h
    ·rename_i n hn
     split at h
     ·rename_i hle
      injection h with h
      subst h
      cases hp : p.1 with
      | false => rw [hp] at hn; cases hn
      | true =>
       rw [hp] at hn
       simp at hn
       subst hn
       obtain ⟨ds, h1, h2⟩ := hh.rowOf hg hm hl off p.2 hle
       have hdl : ds.length = p.2 := by have := h1.length; simp at this; omega
       refine ⟨.agg ⟨ds⟩, ?_, .agg _ _ h1⟩
       have hrun := run_loadCells_list (P := P) w ⟨l.b, l.f + off, none⟩ ds (fun j v hj => by rw [add_addr]; have := h2 j v hj; rwa [← Nat.add_assoc] at this)
       rw [hdl] at hrun
       simp only [loadVar, Sem.run_bind, Sem.run_pure, Result.andThen_ok, run_isAgg hd, ← hp1, hp, if_true, run_szOf hsz, hrun]
     ·cases h
    ·rename_i hn
     cases hp : p.1 with
     | true => rw [hp] at hn; cases hn
     | false =>
      obtain ⟨v', h1, h2⟩ := hh.cells hg hm hl h
      refine ⟨v', ?_, h2⟩
      have h1' : w.cell? ⟨l.b, l.f + off, none⟩ = some v' := h1
      simp [loadVar, run_isAgg hd, ← hp1, hp, h1']
   ·cases h
  ·cases h
 ·cases h
def res1 (a : Act) : ResultVar → Sem Value
 | .tmp t => pure (a.tmps.getD t undef)
 | .cell x t => do loadVar t (← asAddr (a.tmps.getD x undef))
theorem res_sound (w : World) {σ : Sig} {e : Env} {a : Act} {H : AHeap} (her : ER σ nt e a) (hh : HR P σ base H w) : ∀ (rs : List ResultVar) {rs' : List ARes} {vs : List Value}, prepRes P rs = some rs' → ressA P e H rs' = some vs →
  ∃ vs', (rs.mapM (res1 a)).run P w = .ok vs' w ∧ VRs σ vs vs'
 | [], rs', vs, hp, h => by
  simp [prepRes] at hp
  subst hp
  simp [ressA] at h
  subst h
  exact ⟨[], by simp, .nil⟩
 | .tmp t :: rs, rs', vs, hp, h => by
  simp only [prepRes, Option.map_eq_some_iff] at hp
  obtain ⟨l, hl, rfl⟩ := hp
  simp only [ressA, resA] at h
  split at h
  ·rename_i v vs0 h1 h2
   injection h with h
   subst h
   injection h1 with h1
   subst h1
   obtain ⟨vs', h3, h4⟩ := res_sound w her hh rs hl h2
   refine ⟨_ :: vs', ?_, .cons _ _ _ _ (her.get t) h4⟩
   rw [List.mapM_cons, Sem.run_bind]
   simp only [res1, Sem.run_pure, Result.andThen_ok, Sem.run_bind, h3]
  ·cases h
 | .cell x t :: rs, rs', vs, hp, h => by
  simp only [prepRes] at hp
  split at hp
  ·rename_i p l hs hl
   injection hp with hp
   subst hp
   simp only [ressA, resA] at h
   split at h
   ·rename_i v vs0 h1 h2
    injection h with h
    subst h
    obtain ⟨vs', h3, h4⟩ := res_sound w her hh rs hl h2
    obtain ⟨i, o, lo, hx, hlo, hav, v', hv1, hv2⟩ := run_load w her hh hs h1
    refine ⟨v' :: vs', ?_, .cons _ _ _ _ hv2 h4⟩
    rw [List.mapM_cons, Sem.run_bind]
    simp only [res1, hav, asAddr, Sem.run_pure, Result.andThen_ok, Sem.run_bind, hv1, h3]
   ·cases h
  ·cases hp
theorem VRs.get? {σ : Sig} {xs ys : List Value} (h : VRs σ xs ys) (k : Nat) : (xs[k]? = none ∧ ys[k]? = none) ∨ ∃ v v', xs[k]? = some v ∧ ys[k]? = some v' ∧ VR σ v v' := by
 cases hx : xs[k]? with
 | none => left; refine ⟨rfl, ?_⟩; rw [List.getElem?_eq_none_iff] at hx ⊢; rw [h.length]; exact hx
 | some v => right; obtain ⟨v', h1, h2⟩ := h.get hx; exact ⟨v, v', rfl, h1, h2⟩
theorem eget_zip : ∀ (args : List Value) (k t : Nat), eget ((args.zipIdx k).map fun p => (p.2, p.1)) t = if k ≤ t then (args[t - k]?).getD poison else poison
 | [], k, t => by simp [eget_nil]
 | v :: vs, k, t => by
  have ih := eget_zip vs (k + 1) t
  simp only [List.zipIdx_cons, List.map_cons, eget_cons]
  by_cases h : k = t
  ·subst h; simp
  ·rw [if_neg h, ih]
   by_cases h2 : k ≤ t
   ·rw [if_pos h2, if_pos (by omega)]
    have : t - k = (t - (k + 1)) + 1 := by omega
    rw [this, List.getElem?_cons_succ]
   ·rw [if_neg h2, if_neg (by omega)]
theorem entry_rel {σ : Sig} {args args' : List Value} (h : VRs σ args args') (hn : args.length ≤ nt) : ER σ nt (entry args) { tmps := ⟨args'⟩ ++ Array.replicate (nt - (⟨args'⟩ : Array Value).size) undef, defers := [] } := by
 have hl := h.length
 refine ⟨by simp [hl]; omega, rfl, fun t => ?_⟩
 unfold entry
 rw [eget_zip]
 simp only [Nat.zero_le, if_true, Nat.sub_zero]
 rcases h.get? t with ⟨h1, h2⟩ | ⟨v, v', h1, h2, h3⟩
 ·rw [h1]; exact .poison _
 ·rw [h1]
  have hlt : t < args'.length := (List.getElem?_eq_some_iff.1 h2).1
  have : (⟨args'⟩ ++ Array.replicate (nt - (⟨args'⟩ : Array Value).size) undef : Array Value).getD t undef = v' := by
   rw [Array.getD_eq_getD_getElem?, Array.getElem?_append_left (by simpa using hlt)]
   simp [h2]
  rw [this]
  exact h3
def FOK (P : Program) (g : FuncId) (F : AFunc) : Prop :=
 ∃ fn c hs hs', P.funcs[g]? = some fn ∧ fn.body = some c ∧ (fn.name == "runtime.NumGoroutine") = false ∧ fn.ntmps = F.ntmps ∧ F.nargs ≤ F.ntmps ∧ prepC P F.ntmps c hs = some (F.code, hs') ∧ prepRes P fn.results.toList = some F.results
theorem call_sound (hmix : P.follows .mixedOrders = true) {Γ : FuncId → Option AFunc} (hΓ : ∀ g F, Γ g = some F → FOK P g F) {Ω : CallF} (hΩ : ∀ g args H v H', Ω g args H = some (v, H') → Sim P base g args H v H') :
  ∀ (n : Nat) (g : FuncId) (args : List Value) (H : AHeap) (v : Value) (H' : AHeap), callA P Γ Ω n g args H = some (v, H') → Sim P base g args H v H' := by
 intro n
 induction n with
 | zero => intro g args H v H' h; simp [callA] at h
 | succ n ih =>
  intro g args H v H' h
  simp only [callA] at h
  split at h
  ·rename_i r hr
   injection h with h
   subst h
   exact hΩ _ _ _ _ _ hr
  ·split at h
   ·cases h
   ·rename_i F hF
    obtain ⟨fn, c, hs, hs', hfn, hc, hname, hnt, hna, hprep, hres⟩ := hΓ g F hF
    split at h
    ·rename_i hlen
     have hfin : ∃ x e H1 vs, execA P (callA P Γ Ω n) n F.code (entry args) H = some (x, e, H1) ∧ (x = .normal ∨ x = .ret) ∧ ressA P e H1 F.results = some vs ∧ v = packA vs ∧ H' = H1 := by
      split at h
      ·cases h
      ·rename_i x e H1 hnx hx
       simp only [Option.map_eq_some_iff, Prod.mk.injEq] at h
       obtain ⟨vs, h1, rfl, rfl⟩ := h
       refine ⟨x, e, H1, vs, hx, ?_, h1, rfl, rfl⟩
       cases x with
       | normal => exact .inl rfl
       | ret => exact .inr rfl
       | exit id => exact absurd rfl (hnx id)
      ·cases h
     obtain ⟨x, e, H1, vs, hx, hxx, hvs, hv0, hH0⟩ := hfin
     subst hv0 hH0
     refine ⟨⟨fn, hfn, by rw [hc]; rfl, hname⟩, execA_ver (fun g args H v H' h => (ih g args H v H' h).2.1) hx, fun σ w args' hargs hh hb => ?_⟩
     refine calls_of_wp hfn hc ?_
     rw [hnt]
     have her := entry_rel (nt := F.ntmps) hargs (by rw [hlen]; exact hna)
     refine exec_sound hmix ih c hprep her hh hb hx _ fun σ' a' w' q1 q2 q3 => ?_
     obtain ⟨vs', r1, r2⟩ := res_sound w' q1 q2 fn.results.toList hres hvs
     have hfin : a'.defers = [] ∧ ∃ v, (results fn a'.tmps).run P w' = .ok v w' ∧ ∃ σ'' v'', Ending.returned v = Ending.returned v'' ∧ VR σ'' (packA vs) v'' ∧ HR P σ'' base H' w' ∧ Fr σ σ'' H H' w w' := by
      refine ⟨q1.defers, (if h : (⟨vs'⟩ : Array Value).size = 1 then (⟨vs'⟩ : Array Value)[0] else .tuple ⟨vs'⟩), ?_, σ', _, rfl, ?_, q2, q3⟩
      ·have hres : results fn a'.tmps = (do let vs ← fn.results.mapM (res1 a'); pure (if h : vs.size = 1 then vs[0] else .tuple vs)) := rfl
       rw [hres, Sem.run_bind, Array.mapM_eq_mapM_toList]
       have r1' : (List.mapM (res1 a') fn.results.toList).run P w' = .ok vs' w' := r1
       simp only [Sem.run_map, r1', Result.andThen_ok, Sem.run_pure]
      ·cases r2 with
       | nil => exact .tuple _ _ .nil
       | cons u u' us us' k1 k2 =>
        cases k2 with
        | nil => exact k1
        | cons _ _ _ _ k3 k4 => exact .tuple _ _ (.cons _ _ _ _ k1 (.cons _ _ _ _ k3 k4))
     rcases hxx with rfl | rfl
     ·exact hfin
     ·exact hfin
    ·cases h
end
def CLe (c d : CallF) : Prop := ∀ g args H r, c g args H = some r → d g args H = some r
theorem CLe.refl (c : CallF) : CLe c c := fun _ _ _ _ h => h
section
variable {P : Program} {c d : CallF}
theorem stepA_le (h : CLe c d) {e : Env} {H : AHeap} {o : AOp} {r : Value × AHeap} (hr : stepA P c e H o = some r) : stepA P d e H o = some r := by
 cases o <;> first | exact hr | skip
 case call f args =>
  simp only [stepA] at hr ⊢
  split at hr
  ·exact h _ _ _ _ hr
  ·cases hr
 case mop m =>
  cases m <;> first | exact hr | skip
  case inv x name args =>
   have hr : invA P c (ev e x) name (args.map (ev e)) H = some r := hr
   show invA P d (ev e x) name (args.map (ev e)) H = some r
   unfold invA at hr ⊢
   split at hr
   ·rename_i hrec
    exact h _ _ _ _ hr
   ·cases hr
theorem rowV_le (h : CLe c d) {e : Env} {H : AHeap} {o : ARow} {r : Value × AHeap} (hr : rowV P c o e H = some r) : rowV P d o e H = some r := by
 unfold rowV at hr ⊢
 split at hr
 ·exact stepA_le h hr
 ·exact hr
 ·cases hr
theorem rowsA_le (h : CLe c d) : ∀ {rows : List ARow} {e : Env} {H : AHeap} {r : Env × AHeap}, rowsA P c rows e H = some r → rowsA P d rows e H = some r
 | [], _, _, _, hr => hr
 | o :: os, e, H, r, hr => by
  simp only [rowsA, rowA] at hr ⊢
  cases hv : rowV P c o e H with
  | none => rw [hv] at hr; cases hr
  | some x =>
   rw [hv] at hr
   rw [rowV_le h hv]
   exact rowsA_le h hr
theorem drawA_le (h : CLe c d) : ∀ {rows : List ARow} {l : List (Nat × Nat)} {F : List Nat} {e : Env} {H : AHeap} {r : Env × AHeap}, drawA P c rows l F e H = some r → drawA P d rows l F e H = some r
 | [], _, _, _, _, _, hr => hr
 | o :: os, l, F, e, H, r, hr => by
  simp only [drawA] at hr ⊢
  split at hr
  ·rename_i v H1 hv
   rw [rowV_le h hv]
   simp only
   split at hr
   ·rename_i hc
    rw [if_pos hc]
    exact drawA_le h hr
   ·cases hr
  ·cases hr
theorem iterA_le {keep : List Nat} {b b' : Env → AHeap → Option (AEx × Env × AHeap)} (hb : ∀ e H r, b e H = some r → b' e H = some r) : ∀ {n m : Nat} {e : Env} {H : AHeap} {r : AEx × Env × AHeap}, n ≤ m → iterA keep b n e H = some r → iterA keep b' m e H = some r
 | 0, _, _, _, _, _, hr => by simp [iterA] at hr
 | n + 1, 0, _, _, _, hm, _ => absurd hm (by omega)
 | n + 1, m + 1, e, H, r, hm, hr => by
  simp only [iterA] at hr ⊢
  cases hv : b (forget keep e) H with
  | none => rw [hv] at hr; cases hr
  | some x =>
   rw [hv] at hr
   rw [hb _ _ _ hv]
   obtain ⟨x, e', H'⟩ := x
   cases x with
   | normal => exact iterA_le hb (by omega) hr
   | exit id => exact hr
   | ret => exact hr
theorem execA_le (h : CLe c d) {n m : Nat} (hm : n ≤ m) : ∀ {x : ACode} {e : Env} {H : AHeap} {r : AEx × Env × AHeap}, execA P c n x e H = some r → execA P d m x e H = some r
 | .skip, _, _, _, hr => hr
 | .ops rows, e, H, r, hr => by
  simp only [execA, Option.map_eq_some_iff] at hr ⊢
  obtain ⟨y, h1, h2⟩ := hr
  exact ⟨y, rowsA_le h h1, h2⟩
 | .draw rows, e, H, r, hr => by
  simp only [execA, Option.map_eq_some_iff] at hr ⊢
  obtain ⟨y, h1, h2⟩ := hr
  exact ⟨y, drawA_le h h1, h2⟩
 | .seq a b, e, H, r, hr => by
  simp only [execA] at hr ⊢
  cases hv : execA P c n a e H with
  | none => rw [hv] at hr; cases hr
  | some y =>
   rw [hv] at hr
   rw [execA_le h hm hv]
   obtain ⟨x, e', H'⟩ := y
   cases x with
   | normal => exact execA_le h hm hr
   | exit id => exact hr
   | ret => exact hr
 | .cond q a b, e, H, r, hr => by
  simp only [execA] at hr ⊢
  split at hr
  ·exact execA_le h hm hr
  ·exact execA_le h hm hr
  ·cases hr
 | .block id a, e, H, r, hr => by
  simp only [execA] at hr ⊢
  cases hv : execA P c n a e H with
  | none => rw [hv] at hr; cases hr
  | some y =>
   rw [hv] at hr
   rw [execA_le h hm hv]
   exact hr
 | .loop keep a, e, H, r, hr => by
  simp only [execA] at hr ⊢
  exact iterA_le (fun e H r hb => execA_le h hm hb) hm hr
 | .exit id, _, _, _, hr => hr
 | .ret, _, _, _, hr => hr
end
section
variable {P : Program} {Γ : FuncId → Option AFunc} {Ω : CallF}
theorem callA_le : ∀ {n m : Nat}, n ≤ m → CLe (callA P Γ Ω n) (callA P Γ Ω m)
 | 0, _, _, _, _, _, _, h => by simp [callA] at h
 | n + 1, 0, hm, _, _, _, _, _ => absurd hm (by omega)
 | n + 1, m + 1, hm, g, args, H, r, h => by
  have hnm : n ≤ m := by omega
  simp only [callA] at h ⊢
  cases hΩ : Ω g args H with
  | some y => rw [hΩ] at h; exact h
  | none =>
   rw [hΩ] at h
   simp only at h ⊢
   cases hF : Γ g with
   | none => rw [hF] at h; cases h
   | some F =>
    rw [hF] at h
    simp only at h ⊢
    split at h
    ·rename_i hl
     rw [if_pos hl]
     cases hv : execA P (callA P Γ Ω n) n F.code (entry args) H with
     | none => rw [hv] at h; cases h
     | some y =>
      rw [hv] at h
      rw [execA_le (callA_le hnm) hnm hv]
      exact h
    ·cases h
variable (P Γ Ω)
open Classical in
noncomputable def cw : CallF := fun g args H => if h : ∃ r n, callA P Γ Ω n g args H = some r then some (choose h) else none
open Classical in
noncomputable def run (c : ACode) (e : Env) (H : AHeap) : Option (AEx × Env × AHeap) := if h : ∃ r n, execA P (cw P Γ Ω) n c e H = some r then some (choose h) else none
variable {P Γ Ω}
theorem cw_iff {g : FuncId} {args : List Value} {H : AHeap} {r : Value × AHeap} : cw P Γ Ω g args H = some r ↔ ∃ n, callA P Γ Ω n g args H = some r := by
 unfold cw
 constructor
 ·intro h
  split at h
  ·rename_i hx
   injection h with h
   subst h
   exact Classical.choose_spec hx
  ·cases h
 ·intro ⟨n, hn⟩
  have hx : ∃ r n, callA P Γ Ω n g args H = some r := ⟨r, n, hn⟩
  rw [dif_pos hx]
  obtain ⟨m, hm⟩ := Classical.choose_spec hx
  have h1 := callA_le (Nat.le_max_left n m) _ _ _ _ hn
  have h2 := callA_le (Nat.le_max_right n m) _ _ _ _ hm
  rw [h1] at h2
  exact h2.symm
theorem run_iff {c : ACode} {e : Env} {H : AHeap} {r : AEx × Env × AHeap} : run P Γ Ω c e H = some r ↔ ∃ n, execA P (cw P Γ Ω) n c e H = some r := by
 unfold run
 constructor
 ·intro h
  split at h
  ·rename_i hx
   injection h with h
   subst h
   exact Classical.choose_spec hx
  ·cases h
 ·intro ⟨n, hn⟩
  have hx : ∃ r n, execA P (cw P Γ Ω) n c e H = some r := ⟨r, n, hn⟩
  rw [dif_pos hx]
  obtain ⟨m, hm⟩ := Classical.choose_spec hx
  have h1 := execA_le (CLe.refl _) (Nat.le_max_left n m) hn
  have h2 := execA_le (CLe.refl _) (Nat.le_max_right n m) hm
  rw [h1] at h2
  exact h2.symm
theorem cw_le (n : Nat) : CLe (callA P Γ Ω n) (cw P Γ Ω) := fun _ _ _ _ h => cw_iff.2 ⟨n, h⟩
theorem stepA_fin {e : Env} {H : AHeap} {o : AOp} {r : Value × AHeap} (h : stepA P (cw P Γ Ω) e H o = some r) : ∃ n, stepA P (callA P Γ Ω n) e H o = some r := by
 cases o <;> first | exact ⟨0, h⟩ | skip
 case call f args =>
  simp only [stepA] at h ⊢
  split at h
  ·exact cw_iff.1 h
  ·cases h
 case mop m =>
  cases m <;> first | exact ⟨0, h⟩ | skip
  case inv x name args =>
   have h : invA P (cw P Γ Ω) (ev e x) name (args.map (ev e)) H = some r := h
   show ∃ n, invA P (callA P Γ Ω n) (ev e x) name (args.map (ev e)) H = some r
   unfold invA at h ⊢
   split at h
   ·rename_i hrec
    exact cw_iff.1 h
   ·cases h
theorem rowV_fin {e : Env} {H : AHeap} {o : ARow} {r : Value × AHeap} (h : rowV P (cw P Γ Ω) o e H = some r) : ∃ n, rowV P (callA P Γ Ω n) o e H = some r := by
 unfold rowV at h ⊢
 split at h
 ·exact stepA_fin h
 ·exact ⟨0, h⟩
 ·cases h
theorem rowsA_fin : ∀ {rows : List ARow} {e : Env} {H : AHeap} {r : Env × AHeap}, rowsA P (cw P Γ Ω) rows e H = some r → ∃ n, rowsA P (callA P Γ Ω n) rows e H = some r
 | [], _, _, _, h => ⟨0, h⟩
 | o :: os, e, H, r, h => by
  simp only [rowsA, rowA] at h
  cases hv : rowV P (cw P Γ Ω) o e H with
  | none => rw [hv] at h; cases h
  | some x =>
   rw [hv] at h
   obtain ⟨n, hn⟩ := rowV_fin hv
   obtain ⟨m, hm⟩ := rowsA_fin h
   refine ⟨max n m, ?_⟩
   simp only [rowsA, rowA]
   rw [rowV_le (callA_le (Nat.le_max_left n m)) hn]
   exact rowsA_le (callA_le (Nat.le_max_right n m)) hm
theorem drawA_fin : ∀ {rows : List ARow} {l : List (Nat × Nat)} {F : List Nat} {e : Env} {H : AHeap} {r : Env × AHeap}, drawA P (cw P Γ Ω) rows l F e H = some r → ∃ n, drawA P (callA P Γ Ω n) rows l F e H = some r
 | [], _, _, _, _, _, h => ⟨0, h⟩
 | o :: os, l, F, e, H, r, h => by
  simp only [drawA] at h
  split at h
  ·rename_i v H1 hv
   obtain ⟨n, hn⟩ := rowV_fin hv
   split at h
   ·rename_i hc
    obtain ⟨m, hm⟩ := drawA_fin h
    refine ⟨max n m, ?_⟩
    simp only [drawA]
    rw [rowV_le (callA_le (Nat.le_max_left n m)) hn]
    simp only
    rw [if_pos hc]
    exact drawA_le (callA_le (Nat.le_max_right n m)) hm
   ·cases h
  ·cases h
theorem iterA_fin {keep : List Nat} {b : Env → AHeap → Option (AEx × Env × AHeap)} {b' : Nat → Env → AHeap → Option (AEx × Env × AHeap)} (hle : ∀ n m e H r, n ≤ m → b' n e H = some r → b' m e H = some r) (hb : ∀ e H r, b e H = some r → ∃ n, b' n e H = some r) :
  ∀ {k : Nat} {e : Env} {H : AHeap} {r : AEx × Env × AHeap}, iterA keep b k e H = some r → ∃ n, iterA keep (b' n) k e H = some r
 | 0, _, _, _, h => by simp [iterA] at h
 | k + 1, e, H, r, h => by
  simp only [iterA] at h
  cases hv : b (forget keep e) H with
  | none => rw [hv] at h; cases h
  | some x =>
   rw [hv] at h
   obtain ⟨n, hn⟩ := hb _ _ _ hv
   obtain ⟨x, e', H'⟩ := x
   cases x with
   | normal =>
    obtain ⟨m, hm⟩ := iterA_fin hle hb h
    refine ⟨max n m, ?_⟩
    simp only [iterA]
    rw [hle _ _ _ _ _ (Nat.le_max_left n m) hn]
    exact iterA_le (fun e H r h => hle _ _ _ _ _ (Nat.le_max_right n m) h) (Nat.le_refl _) hm
   | exit id => exact ⟨n, by simp only [iterA]; rw [hn]; exact h⟩
   | ret => exact ⟨n, by simp only [iterA]; rw [hn]; exact h⟩
theorem execA_fin {lf : Nat} : ∀ {c : ACode} {e : Env} {H : AHeap} {r : AEx × Env × AHeap}, execA P (cw P Γ Ω) lf c e H = some r → ∃ n, execA P (callA P Γ Ω n) lf c e H = some r
 | .skip, _, _, _, h => ⟨0, h⟩
 | .ops rows, e, H, r, h => by
  simp only [execA, Option.map_eq_some_iff] at h ⊢
  obtain ⟨y, h1, h2⟩ := h
  obtain ⟨n, hn⟩ := rowsA_fin h1
  exact ⟨n, y, hn, h2⟩
 | .draw rows, e, H, r, h => by
  simp only [execA, Option.map_eq_some_iff] at h ⊢
  obtain ⟨y, h1, h2⟩ := h
  obtain ⟨n, hn⟩ := drawA_fin h1
  exact ⟨n, y, hn, h2⟩
 | .seq a b, e, H, r, h => by
  simp only [execA] at h
  cases hv : execA P (cw P Γ Ω) lf a e H with
  | none => rw [hv] at h; cases h
  | some y =>
   rw [hv] at h
   obtain ⟨n, hn⟩ := execA_fin hv
   obtain ⟨x, e', H'⟩ := y
   cases x with
   | normal =>
    obtain ⟨m, hm⟩ := execA_fin h
    refine ⟨max n m, ?_⟩
    simp only [execA]
    rw [execA_le (callA_le (Nat.le_max_left n m)) (Nat.le_refl _) hn]
    exact execA_le (callA_le (Nat.le_max_right n m)) (Nat.le_refl _) hm
   | exit id => exact ⟨n, by simp only [execA]; rw [hn]; exact h⟩
   | ret => exact ⟨n, by simp only [execA]; rw [hn]; exact h⟩
 | .cond q a b, e, H, r, h => by
  simp only [execA] at h ⊢
  split at h
  ·exact execA_fin h
  ·exact execA_fin h
  ·cases h
 | .block id a, e, H, r, h => by
  simp only [execA] at h ⊢
  cases hv : execA P (cw P Γ Ω) lf a e H with
  | none => rw [hv] at h; cases h
  | some y =>
   rw [hv] at h
   obtain ⟨n, hn⟩ := execA_fin hv
   exact ⟨n, by rw [hn]; exact h⟩
 | .loop keep a, e, H, r, h => by
  simp only [execA] at h ⊢
  exact iterA_fin (b := execA P (cw P Γ Ω) lf a) (b' := fun n => execA P (callA P Γ Ω n) lf a) (fun n m e H r hnm h => execA_le (callA_le hnm) (Nat.le_refl _) h) (fun e H r h => execA_fin h) h
 | .exit id, _, _, _, h => ⟨0, h⟩
 | .ret, _, _, _, h => ⟨0, h⟩
theorem cw_omega {g : FuncId} {args : List Value} {H : AHeap} {r : Value × AHeap} (h : Ω g args H = some r) : cw P Γ Ω g args H = some r :=
 cw_iff.2 ⟨1, by simp only [callA, h]⟩
theorem cw_body {g : FuncId} {args : List Value} {H : AHeap} {F : AFunc} {x : AEx} {e : Env} {H' : AHeap} {vs : List Value} (hΩ : Ω g args H = none) (hF : Γ g = some F) (hl : args.length = F.nargs)
  (hx : run P Γ Ω F.code (entry args) H = some (x, e, H')) (hn : ∀ id, x ≠ .exit id) (hr : ressA P e H' F.results = some vs) : cw P Γ Ω g args H = some (packA vs, H') := by
 obtain ⟨n, hn1⟩ := run_iff.1 hx
 obtain ⟨m, hm⟩ := execA_fin hn1
 refine cw_iff.2 ⟨max n m + 1, ?_⟩
 simp only [callA, hΩ, hF, if_pos hl]
 rw [execA_le (callA_le (Nat.le_max_right n m)) (Nat.le_max_left n m) hm]
 cases x with
 | normal => simp only [hr]; rfl
 | ret => simp only [hr]; rfl
 | exit id => exact absurd rfl (hn id)
theorem run_of {c : ACode} {e : Env} {H : AHeap} {r : AEx × Env × AHeap} (n : Nat) (h : execA P (cw P Γ Ω) n c e H = some r) : run P Γ Ω c e H = some r := run_iff.2 ⟨n, h⟩
theorem run_skip {e : Env} {H : AHeap} : run P Γ Ω .skip e H = some (.normal, e, H) := run_of 0 rfl
theorem run_exit {id : Nat} {e : Env} {H : AHeap} : run P Γ Ω (.exit id) e H = some (.exit id, e, H) := run_of 0 rfl
theorem run_ret {e : Env} {H : AHeap} : run P Γ Ω .ret e H = some (.ret, e, H) := run_of 0 rfl
theorem run_ops {rows : List ARow} {e e' : Env} {H H' : AHeap} (h : rowsA P (cw P Γ Ω) rows e H = some (e', H')) : run P Γ Ω (.ops rows) e H = some (.normal, e', H') := run_of 0 (by simp only [execA, h]; rfl)
theorem run_draw {rows : List ARow} {e e' : Env} {H H' : AHeap} (h : drawA P (cw P Γ Ω) rows [] [] e H = some (e', H')) : run P Γ Ω (.draw rows) e H = some (.normal, e', H') := run_of 0 (by simp only [execA, h]; rfl)
theorem run_seq {a b : ACode} {e e' : Env} {H H' : AHeap} {r : AEx × Env × AHeap} (h : run P Γ Ω a e H = some (.normal, e', H')) (k : run P Γ Ω b e' H' = some r) : run P Γ Ω (.seq a b) e H = some r := by
 obtain ⟨n, hn⟩ := run_iff.1 h
 obtain ⟨m, hm⟩ := run_iff.1 k
 refine run_of (max n m) ?_
 simp only [execA]
 rw [execA_le (CLe.refl _) (Nat.le_max_left n m) hn]
 exact execA_le (CLe.refl _) (Nat.le_max_right n m) hm
theorem run_seq_ret {a b : ACode} {e e' : Env} {H H' : AHeap} (h : run P Γ Ω a e H = some (.ret, e', H')) : run P Γ Ω (.seq a b) e H = some (.ret, e', H') := by
 obtain ⟨n, hn⟩ := run_iff.1 h
 exact run_of n (by simp only [execA]; rw [hn])
theorem run_seq_exit {a b : ACode} {e e' : Env} {H H' : AHeap} {id : Nat} (h : run P Γ Ω a e H = some (.exit id, e', H')) : run P Γ Ω (.seq a b) e H = some (.exit id, e', H') := by
 obtain ⟨n, hn⟩ := run_iff.1 h
 exact run_of n (by simp only [execA]; rw [hn])
theorem run_true {q : Operand} {a b : ACode} {e : Env} {H : AHeap} {r : AEx × Env × AHeap} (hq : ev e q = .bool true) (h : run P Γ Ω a e H = some r) : run P Γ Ω (.cond q a b) e H = some r := by
 obtain ⟨n, hn⟩ := run_iff.1 h
 exact run_of n (by simp only [execA]; rw [hq]; exact hn)
theorem run_false {q : Operand} {a b : ACode} {e : Env} {H : AHeap} {r : AEx × Env × AHeap} (hq : ev e q = .bool false) (h : run P Γ Ω b e H = some r) : run P Γ Ω (.cond q a b) e H = some r := by
 obtain ⟨n, hn⟩ := run_iff.1 h
 exact run_of n (by simp only [execA]; rw [hq]; exact hn)
theorem run_loop {keep : List Nat} {a : ACode} {e e' : Env} {H H' : AHeap} {r : AEx × Env × AHeap} (h : run P Γ Ω a (forget keep e) H = some (.normal, e', H')) (k : run P Γ Ω (.loop keep a) e' H' = some r) : run P Γ Ω (.loop keep a) e H = some r := by
 obtain ⟨n, hn⟩ := run_iff.1 h
 obtain ⟨m, hm⟩ := run_iff.1 k
 refine run_of (max n m + 1) ?_
 simp only [execA, iterA]
 rw [execA_le (CLe.refl _) (show n ≤ max n m + 1 by omega) hn]
 simp only [execA] at hm
 exact iterA_le (fun e H r h => execA_le (CLe.refl _) (show m ≤ max n m + 1 by omega) h) (Nat.le_max_right n m) hm
theorem run_loop_ret {keep : List Nat} {a : ACode} {e e' : Env} {H H' : AHeap} (h : run P Γ Ω a (forget keep e) H = some (.ret, e', H')) : run P Γ Ω (.loop keep a) e H = some (.ret, e', H') := by
 obtain ⟨n, hn⟩ := run_iff.1 h
 refine run_of (n + 1) ?_
 simp only [execA, iterA]
 rw [execA_le (CLe.refl _) (Nat.le_succ n) hn]
theorem run_loop_exit {keep : List Nat} {a : ACode} {e e' : Env} {H H' : AHeap} {id : Nat} (h : run P Γ Ω a (forget keep e) H = some (.exit id, e', H')) : run P Γ Ω (.loop keep a) e H = some (.exit id, e', H') := by
 obtain ⟨n, hn⟩ := run_iff.1 h
 refine run_of (n + 1) ?_
 simp only [execA, iterA]
 rw [execA_le (CLe.refl _) (Nat.le_succ n) hn]
theorem cw_sound {base : Nat} (hmix : P.follows .mixedOrders = true) (hΓ : ∀ g F, Γ g = some F → FOK P g F) (hΩ : ∀ g args H v H', Ω g args H = some (v, H') → Sim P base g args H v H')
  {g : FuncId} {args : List Value} {H : AHeap} {v : Value} {H' : AHeap} (h : cw P Γ Ω g args H = some (v, H')) : Sim P base g args H v H' := by
 obtain ⟨n, hn⟩ := cw_iff.1 h
 exact call_sound hmix hΓ hΩ n g args H v H' hn
end
end Lon
namespace Lon
open Go Go.ChangeShapes Go.WideShapes Go.ChangeAt Go.RowKit
def prepF (P : Program) (hs : List (List Nat)) (fn : Func) : Option AFunc :=
 match fn.body with
 | some c => match prepC P fn.ntmps c hs, prepRes P fn.results.toList with
  | some (ac, _), some rs => if fn.params.size + fn.nfree ≤ fn.ntmps then some ⟨fn.params.size + fn.nfree, fn.ntmps, rs, ac⟩ else none
  | _, _ => none
 | none => none
theorem FOK.of {P : Program} {g : FuncId} {fn : Func} {F : AFunc} (hs : List (List Nat)) (h1 : P.funcs[g]? = some fn) (h2 : (fn.name == "runtime.NumGoroutine") = false) (h3 : prepF P hs fn = some F) : FOK P g F := by
 unfold prepF at h3
 split at h3
 ·rename_i c hc
  split at h3
  ·rename_i ac hs' rs hp hr
   split at h3
   ·rename_i hn
    injection h3 with h3
    subst h3
    exact ⟨fn, c, hs, _, h1, hc, h2, rfl, hn, hp, hr⟩
   ·cases h3
  ·cases h3
 ·cases h3
def tabF (l : List (FuncId × AFunc)) (g : FuncId) : Option AFunc :=
 match l with
 | [] => none
 | (k, F) :: r => if g = k then some F else tabF r g
theorem tabF_ok {P : Program} : ∀ {l : List (FuncId × AFunc)}, (∀ x ∈ l, FOK P x.1 x.2) → ∀ g F, tabF l g = some F → FOK P g F
 | [], _, g, F, h => by simp [tabF] at h
 | (k, F0) :: r, hl, g, F, h => by
  simp only [tabF] at h
  split at h
  ·rename_i hg
   injection h with h
   subst h hg
   exact hl _ (List.mem_cons_self ..)
  ·exact tabF_ok (fun x hx => hl x (List.mem_cons_of_mem _ hx)) g F h
theorem tab_nil {P : Program} : ∀ x ∈ ([] : List (FuncId × AFunc)), FOK P x.1 x.2 := fun x hx => by simp at hx
theorem tab_cons {P : Program} {k : FuncId} {F : AFunc} {r : List (FuncId × AFunc)} (h : FOK P k F) (hr : ∀ x ∈ r, FOK P x.1 x.2) : ∀ x ∈ ((k, F) :: r), FOK P x.1 x.2 := fun x hx => by
 rcases List.mem_cons.1 hx with rfl | hx
 ·exact h
 ·exact hr x hx
section
variable {P : Program}
def sig0 : Sig := fun _ => none
theorem empty_get (i : Nat) : AHeap.empty.get i = none := by rw [AHeap.get_eq]; simp [AHeap.empty]
theorem HR.empty (base : Nat) (w : World) : HR P sig0 base AHeap.empty w := by
 constructor
 case out => intro i _; rfl
 all_goals intros; simp_all [empty_get]
theorem trodAll_below {H : Type} {enc : TypeId × Value → H} (hl : laidOutB P = true) {W W' : World} (hb : Below W.heap.size W W') {sp : Nat → Bool} : ∀ {ts : List TypeId} {vs : List Value} {ds : List (DataW H)} {ps : List MemPlace},
  (∀ t ∈ ts, P.readableRec t = true ∧ t < P.types.size) → DataW.TrodAll enc P W 0 (fun _ => true) true ts vs ds ps → (∀ p ∈ ps, p.block < W.heap.size) → (∀ p ∈ ps, sp p.block = true) → DataW.TrodAll enc P W' 0 sp true ts vs ds ps
 | [], vs, ds, ps, _, h, _, _ => by
  obtain ⟨rfl, rfl, rfl⟩ := trodAll_nil h
  exact h
 | t :: ts, vs, ds, ps, ht, h, hlt, hs => by
  obtain ⟨v, vs', d, ds', p, q, rfl, rfl, rfl, h1, h2⟩ := trodAll_cons h
  have hp : ∀ x ∈ p, x.block < W.heap.size := fun x hx => hlt x (List.mem_append_left _ hx)
  refine ⟨p, q, ?_, trodAll_below hl hb (fun t hm => ht t (List.mem_cons_of_mem _ hm)) h2 (fun x hx => hlt x (List.mem_append_right _ hx)) (fun x hx => hs x (List.mem_append_right _ hx)), rfl⟩
  exact Go.WideElems.Trod_stays hl (ht t (List.mem_cons_self ..)).1 (ht t (List.mem_cons_self ..)).2 h1 (fun x hx => hb.same (hp x hx)) (fun x hx => hs x (List.mem_append_left _ hx))
theorem law_post {H : Type} {enc : TypeId × Value → H} {f : Func} {s : ChangeSpec} {W W' : World} {args : Array Value} {ds : List (DataW H)} {before : List MemPlace} {tb : TypeId}
  (hl : laidOutB P = true) (hp0 : (f.params.toList.all fun t => P.readableRec t && decide (t < P.types.size)) = true) (hrt : f.resultTypes = #[tb]) (hu : P.underlying tb = some .bool) (hvs : s.vars = [])
  (hW : DataW.Whole enc P f.params.toList s.vars false W args.toList ds [] before) (hs : s.fn H ds = { results := [.lit (.bool true)], args := ds }) (hb : Below W.heap.size W W') :
  s.post enc P f false true false false W args (.bool true) W' := by
 have hp : ∀ t ∈ f.params.toList, P.readableRec t = true ∧ t < P.types.size := fun t ht => by
  have := List.all_eq_true.1 hp0 t ht
  simpa using this
 have hW' := hW
 have hlt : ∀ p ∈ before, p.block < W.heap.size := fun p hp => hW'.lt p hp
 obtain ⟨p, q, hA, hV, rfl, hfz, hnd⟩ := hW
 rw [hvs] at hV
 obtain ⟨_, rfl⟩ := trodVars_none hV
 simp only [List.append_nil] at hW' hlt
 refine ⟨ds, [], p, [], p, [], hW', ?_, ?_, ?_, hb.frame _, fun h => by cases h⟩
 ·simp only [List.append_nil, hs, hrt]
  exact trodAll_mk1 (shut_bool hu _)
 ·simp only [List.append_nil, hs]
  exact trodAll_below hl hb hp hA hlt (fun x hx => by simpa using hlt x hx)
 ·rw [hvs]
  simp only [List.append_nil, hs]
  exact rfl
end
end Lon
namespace Go.Proofs.YtleiinhaljdcoaaGreatDoor
open Go Lon
def b_lontartop_TopRewrite_0 : ACode := (.seq (.ops [⟨some 80, .int .lss (.tmp 79) (.tmp 78), none⟩]) (.seq (.cond (.tmp 80) .skip (.exit 0)) (.seq (.block 1 (.seq (.ops [⟨some 81, .mv (.tmp 79), none⟩, ⟨some 13, .mv (.tmp 81), none⟩]) (.seq (.draw [⟨some 82, .mv (.tmp 9), none⟩, ⟨some 83, .mv (.tmp 13), none⟩, ⟨some 84, .iaddr (.tmp 82) (.tmp 83) 1, none⟩, ⟨some 85, .load (.tmp 84) none, none⟩, ⟨some 86, .mv (.tmp 11), none⟩, ⟨some 87, .mv (.tmp 13), none⟩, ⟨some 88, .iaddr (.tmp 86) (.tmp 87) 1, none⟩, ⟨some 89, .load (.tmp 88) none, none⟩, ⟨some 90, .int .neq (.tmp 85) (.tmp 89), none⟩]) (.cond (.tmp 90) (.seq (.ops [⟨some 4, .mv (.const (.bool false)), none⟩]) .ret) .skip)))) (.ops [⟨some 91, .int .add (.tmp 79) (.const (.int .i64 1)), none⟩, ⟨some 79, .mv (.tmp 91), none⟩]))))
def k_lontartop_TopRewrite : ACode := (.seq (.ops [⟨some 4, .mv (.const (.bool false)), none⟩]) (.seq (.seq (.ops [⟨some 14, .call (.func 7) [], none⟩, ⟨some 15, .not (.tmp 14), none⟩]) (.cond (.tmp 15) (.seq (.ops [⟨some 4, .mv (.const (.bool false)), none⟩]) .ret) .skip)) (.seq (.ops [⟨some 16, .mv (.tmp 0), none⟩, ⟨some 17, .call (.func 9) [(.tmp 16)], none⟩, ⟨some 18, .call (.func 17) [(.tmp 17)], none⟩, ⟨some 5, .mv (.tmp 18), none⟩]) (.seq (.ops [⟨some 20, .mv (.tmp 0), none⟩, ⟨some 21, .call (.func 9) [(.tmp 20)], none⟩, ⟨some 22, .call (.func 18) [(.tmp 21)], none⟩, ⟨some 19, .mv (.tmp 22), none⟩, ⟨some 23, .ext (.tmp 19) 0, none⟩, ⟨some 24, .ext (.tmp 19) 1, none⟩, ⟨some 6, .mv (.tmp 23), none⟩, ⟨some 7, .mv (.tmp 24), none⟩]) (.seq (.seq (.ops [⟨some 25, .mv (.tmp 6), none⟩, ⟨some 26, .isNil 3 false (.tmp 25), none⟩, ⟨some 27, .mv (.tmp 26), none⟩, ⟨some 28, .mv (.tmp 7), some (27, false)⟩, ⟨some 29, .int .neq (.tmp 28) (.const (.int .i64 0)), some (27, false)⟩, ⟨some 30, .pick (.tmp 27) (.const (.bool true)) (.tmp 29), none⟩]) (.cond (.tmp 30) (.seq (.ops [⟨some 4, .mv (.const (.bool false)), none⟩]) .ret) .skip)) (.seq (.seq (.ops [⟨some 31, .mv (.tmp 5), none⟩, ⟨some 32, .isNil 0 false (.tmp 31), none⟩]) (.cond (.tmp 32) (.seq (.ops [⟨some 33, .mv (.tmp 0), none⟩, ⟨some 34, .int .rem (.tmp 33) (.const (.int .u8 8)), none⟩, ⟨some 35, .int .eql (.tmp 34) (.const (.int .u8 0)), none⟩, ⟨some 36, .mv (.tmp 35), none⟩, ⟨some 37, .mv (.tmp 0), some (36, false)⟩, ⟨some 38, .int .rem (.tmp 37) (.const (.int .u8 8)), some (36, false)⟩, ⟨some 39, .int .eql (.tmp 38) (.const (.int .u8 7)), some (36, false)⟩, ⟨some 40, .pick (.tmp 36) (.const (.bool true)) (.tmp 39), none⟩, ⟨some 4, .mv (.tmp 40), none⟩]) .ret) .skip)) (.seq (.ops [⟨some 41, .mv (.tmp 1), none⟩, ⟨some 42, .call (.func 19) [(.tmp 41)], none⟩, ⟨some 8, .mv (.tmp 42), none⟩]) (.seq (.ops [⟨some 44, .mv (.tmp 6), none⟩, ⟨some 45, .mv (.tmp 8), none⟩, ⟨some 46, .call (.func 21) [(.tmp 44), (.tmp 45)], none⟩, ⟨some 47, .call (.func 20) [(.tmp 46)], none⟩, ⟨some 43, .mv (.tmp 47), none⟩, ⟨some 48, .ext (.tmp 43) 0, none⟩, ⟨some 49, .ext (.tmp 43) 1, none⟩, ⟨some 10, .alloc [(.int .i64 0), (.int .i64 0), (.slice none 0 0), (.int .i64 0)] 36, none⟩, ⟨some 9, .mv (.tmp 48), none⟩, ⟨none, .store (.tmp 10) (.tmp 49) 4, none⟩]) (.seq (.ops [⟨some 51, .mv (.tmp 5), none⟩, ⟨some 52, .call (.func 23) [(.tmp 51)], none⟩, ⟨some 53, .mv (.tmp 8), none⟩, ⟨some 54, .call (.func 22) [(.tmp 52), (.tmp 53)], none⟩, ⟨some 55, .call (.func 20) [(.tmp 54)], none⟩, ⟨some 50, .mv (.tmp 55), none⟩, ⟨some 56, .ext (.tmp 50) 0, none⟩, ⟨some 57, .ext (.tmp 50) 1, none⟩, ⟨some 12, .alloc [(.int .i64 0), (.int .i64 0), (.slice none 0 0), (.int .i64 0)] 36, none⟩, ⟨some 11, .mv (.tmp 56), none⟩, ⟨none, .store (.tmp 12) (.tmp 57) 4, none⟩]) (.seq (.seq (.ops [⟨some 58, .mv (.tmp 9), none⟩, ⟨some 59, .len false (.tmp 58), none⟩, ⟨some 60, .mv (.tmp 11), none⟩, ⟨some 61, .len false (.tmp 60), none⟩, ⟨some 62, .int .neq (.tmp 59) (.tmp 61), none⟩, ⟨some 63, .mv (.tmp 62), none⟩, ⟨some 64, .faddr (.tmp 10) 0, some (63, false)⟩, ⟨some 65, .load (.tmp 64) none, some (63, false)⟩, ⟨some 66, .faddr (.tmp 12) 0, some (63, false)⟩, ⟨some 67, .load (.tmp 66) none, some (63, false)⟩, ⟨some 68, .int .neq (.tmp 65) (.tmp 67), some (63, false)⟩, ⟨some 69, .pick (.tmp 63) (.const (.bool true)) (.tmp 68), none⟩, ⟨some 70, .mv (.tmp 69), none⟩, ⟨some 71, .faddr (.tmp 10) 3, some (70, false)⟩, ⟨some 72, .load (.tmp 71) none, some (70, false)⟩, ⟨some 73, .faddr (.tmp 12) 3, some (70, false)⟩, ⟨some 74, .load (.tmp 73) none, some (70, false)⟩, ⟨some 75, .int .neq (.tmp 72) (.tmp 74), some (70, false)⟩, ⟨some 76, .pick (.tmp 70) (.const (.bool true)) (.tmp 75), none⟩]) (.cond (.tmp 76) (.seq (.ops [⟨some 4, .mv (.const (.bool false)), none⟩]) .ret) .skip)) (.seq (.seq (.ops [⟨some 77, .mv (.tmp 9), none⟩, ⟨some 78, .len false (.tmp 77), none⟩, ⟨some 79, .mv (.const (.int .i64 0)), none⟩]) (.block 0 (.loop [9, 11, 78, 79] b_lontartop_TopRewrite_0))) (.seq (.ops [⟨some 4, .mv (.const (.bool true)), none⟩]) .ret))))))))))))
def F_lontartop_TopRewrite : AFunc := ⟨2, 92, [.tmp 4], k_lontartop_TopRewrite⟩
theorem ok_lontartop_TopRewrite : FOK Tryz.prog 6 F_lontartop_TopRewrite := FOK.of [[9, 11, 78, 79], [0, 1, 2, 3, 4, 5, 6, 7, 8]] Tryz.func6 (by kernel_rfl) (by kernel_rfl)
def k_lontartop_awake : ACode := (.seq (.ops [⟨some 0, .mv (.const (.bool false)), none⟩]) (.seq (.ops [⟨some 8, .bslice 5 5 1 [(.int .u8 0)] [(0, 1, (.const (.int .u8 84))), (1, 1, (.const (.int .u8 105))), (2, 1, (.const (.int .u8 170))), (3, 1, (.const (.int .u8 110))), (4, 1, (.const (.int .u8 103)))], none⟩, ⟨some 9, .call (.func 8) [(.const (.string ⟨#[118, 105, 115, 99, 105, 105]⟩)), (.const (.string ⟨#[117, 116, 102, 45, 56]⟩)), (.const (.int .i64 0)), (.tmp 8)], none⟩, ⟨some 7, .mv (.tmp 9), none⟩, ⟨some 10, .ext (.tmp 7) 0, none⟩, ⟨some 11, .ext (.tmp 7) 1, none⟩, ⟨some 12, .ext (.tmp 7) 2, none⟩, ⟨some 2, .alloc [(.int .i64 0), (.int .i64 0), (.int .i64 0)] 27, none⟩, ⟨some 1, .mv (.tmp 10), none⟩, ⟨none, .store (.tmp 2) (.tmp 11) 3, none⟩, ⟨some 3, .mv (.tmp 12), none⟩]) (.seq (.ops [⟨some 14, .bslice 5 7 1 [(.int .u8 0)] [(0, 1, (.const (.int .u8 224))), (1, 1, (.const (.int .u8 164))), (2, 1, (.const (.int .u8 149))), (3, 1, (.const (.int .u8 97))), (4, 1, (.const (.int .u8 224))), (5, 1, (.const (.int .u8 166))), (6, 1, (.const (.int .u8 149)))], none⟩, ⟨some 15, .mop (.fix (.tmp 14)), none⟩, ⟨some 16, .call (.func 8) [(.const (.string ⟨#[117, 116, 102, 45, 56]⟩)), (.const (.string ⟨#[105, 115, 99, 105, 105]⟩)), (.const (.int .i64 0)), (.tmp 15)], none⟩, ⟨some 13, .mv (.tmp 16), none⟩, ⟨some 17, .ext (.tmp 13) 0, none⟩, ⟨some 18, .ext (.tmp 13) 1, none⟩, ⟨some 19, .ext (.tmp 13) 2, none⟩, ⟨some 5, .alloc [(.int .i64 0), (.int .i64 0), (.int .i64 0)] 27, none⟩, ⟨some 4, .mv (.tmp 17), none⟩, ⟨none, .store (.tmp 5) (.tmp 18) 3, none⟩, ⟨some 6, .mv (.tmp 19), none⟩]) (.seq (.ops [⟨some 20, .mv (.tmp 3), none⟩, ⟨some 21, .int .eql (.tmp 20) (.const (.int .i64 0)), none⟩, ⟨some 22, .mv (.tmp 21), none⟩, ⟨some 23, .faddr (.tmp 2) 2, some (22, true)⟩, ⟨some 24, .load (.tmp 23) none, some (22, true)⟩, ⟨some 25, .int .eql (.tmp 24) (.const (.int .i64 0)), some (22, true)⟩, ⟨some 26, .pick (.tmp 22) (.tmp 25) (.const (.bool false)), none⟩, ⟨some 27, .mv (.tmp 26), none⟩, ⟨some 28, .mv (.tmp 1), some (27, true)⟩, ⟨some 29, .mop (.b2s (.tmp 28)), some (27, true)⟩, ⟨some 30, .gen ⟨none, (.binOp .eql 9 (.tmp 29) (.const (.string ⟨#[84, 105, 225, 186, 191, 110, 103]⟩)) 9), 4, "", #[], none⟩, some (27, true)⟩, ⟨some 31, .pick (.tmp 27) (.tmp 30) (.const (.bool false)), none⟩, ⟨some 32, .mv (.tmp 31), none⟩, ⟨some 33, .mv (.tmp 6), some (32, true)⟩, ⟨some 34, .int .eql (.tmp 33) (.const (.int .i64 0)), some (32, true)⟩, ⟨some 35, .pick (.tmp 32) (.tmp 34) (.const (.bool false)), none⟩, ⟨some 36, .mv (.tmp 35), none⟩, ⟨some 37, .faddr (.tmp 5) 2, some (36, true)⟩, ⟨some 38, .load (.tmp 37) none, some (36, true)⟩, ⟨some 39, .int .eql (.tmp 38) (.const (.int .i64 0)), some (36, true)⟩, ⟨some 40, .pick (.tmp 36) (.tmp 39) (.const (.bool false)), none⟩, ⟨some 41, .mv (.tmp 40), none⟩, ⟨some 42, .mv (.tmp 4), some (41, true)⟩, ⟨some 43, .mop (.b2s (.tmp 42)), some (41, true)⟩, ⟨some 44, .gen ⟨none, (.binOp .eql 9 (.tmp 43) (.const (.string ⟨#[179, 97, 239, 67, 179]⟩)) 9), 4, "", #[], none⟩, some (41, true)⟩, ⟨some 45, .pick (.tmp 41) (.tmp 44) (.const (.bool false)), none⟩, ⟨some 0, .mv (.tmp 45), none⟩]) .ret))))
def F_lontartop_awake : AFunc := ⟨0, 46, [.tmp 0], k_lontartop_awake⟩
theorem ok_lontartop_awake : FOK Tryz.prog 7 F_lontartop_awake := FOK.of [] Tryz.func7 (by kernel_rfl) (by kernel_rfl)
def b_stream_All_0 : ACode := (.seq (.ops [⟨some 29, .int .lss (.tmp 28) (.tmp 27), none⟩]) (.seq (.cond (.tmp 29) .skip (.exit 0)) (.seq (.block 1 (.seq (.ops [⟨some 30, .iaddr (.tmp 26) (.tmp 28) 1, none⟩, ⟨some 31, .load (.tmp 30) none, none⟩, ⟨some 14, .mv (.tmp 31), none⟩]) (.seq (.ops [⟨some 32, .mv (.tmp 11), none⟩, ⟨some 33, .mv (.tmp 11), none⟩, ⟨some 34, .nilChk (.tmp 33), none⟩, ⟨some 35, .faddr (.tmp 34) 3, none⟩, ⟨some 36, .load (.tmp 35) none, none⟩, ⟨some 37, .mv (.tmp 14), none⟩, ⟨some 38, .conv .i64 (.tmp 37), none⟩, ⟨some 39, .mop (.inv (.tmp 36) "Put" [(.tmp 38)]), none⟩, ⟨some 40, .call (.func 25) [(.tmp 32), (.tmp 39)], none⟩]) (.seq (.ops [⟨some 41, .mv (.tmp 11), none⟩, ⟨some 42, .nilChk (.tmp 41), none⟩, ⟨some 43, .faddr (.tmp 42) 6, none⟩, ⟨some 44, .faddr (.tmp 43) 2, none⟩, ⟨some 45, .load (.tmp 44) none, none⟩, ⟨some 46, .int .neq (.tmp 45) (.const (.int .i64 0)), none⟩]) (.cond (.tmp 46) (.seq (.draw [⟨some 47, .mv (.tmp 11), none⟩, ⟨some 48, .nilChk (.tmp 47), none⟩, ⟨some 49, .faddr (.tmp 48) 5, none⟩, ⟨some 50, .load (.tmp 49) none, none⟩, ⟨some 51, .mv (.tmp 11), none⟩, ⟨some 52, .nilChk (.tmp 51), none⟩, ⟨some 53, .faddr (.tmp 52) 6, none⟩, ⟨some 54, .load (.tmp 53) (some 3), none⟩, ⟨some 8, .mv (.tmp 50), none⟩, ⟨none, .store (.tmp 9) (.tmp 54) 3, none⟩, ⟨some 10, .mv (.const (.int .i64 0)), none⟩]) .ret) .skip))))) (.ops [⟨some 55, .int .add (.tmp 28) (.const (.int .i64 1)), none⟩, ⟨some 28, .mv (.tmp 55), none⟩]))))
def k_stream_All : ACode := (.seq (.ops [⟨some 8, .mv (.const (.slice none 0 0)), none⟩, ⟨some 9, .alloc [(.int .i64 0), (.int .i64 0), (.int .i64 0)] 27, none⟩, ⟨some 10, .mv (.const (.int .i64 0)), none⟩]) (.seq (.ops [⟨some 16, .mv (.tmp 0), none⟩, ⟨some 17, .mv (.tmp 1), none⟩, ⟨some 18, .mv (.tmp 2), none⟩, ⟨some 19, .call (.func 24) [(.tmp 16), (.tmp 17), (.tmp 18)], none⟩, ⟨some 15, .mv (.tmp 19), none⟩, ⟨some 20, .ext (.tmp 15) 0, none⟩, ⟨some 21, .ext (.tmp 15) 1, none⟩, ⟨some 11, .mv (.tmp 20), none⟩, ⟨some 12, .mv (.tmp 21), none⟩]) (.seq (.seq (.ops [⟨some 22, .mv (.tmp 12), none⟩, ⟨some 23, .int .neq (.tmp 22) (.const (.int .i64 0)), none⟩]) (.cond (.tmp 23) (.seq (.ops [⟨some 24, .build [(.int .i64 0), (.int .i64 0), (.int .i64 0)] [], none⟩, ⟨some 25, .mv (.tmp 12), none⟩, ⟨some 8, .mv (.const (.slice none 0 0)), none⟩, ⟨none, .store (.tmp 9) (.tmp 24) 3, none⟩, ⟨some 10, .mv (.tmp 25), none⟩]) .ret) .skip)) (.seq (.seq (.ops [⟨some 26, .mv (.tmp 3), none⟩, ⟨some 27, .len false (.tmp 26), none⟩, ⟨some 28, .mv (.const (.int .i64 0)), none⟩]) (.block 0 (.loop [9, 11, 26, 27, 28] b_stream_All_0))) (.seq (.ops [⟨some 56, .mv (.tmp 11), none⟩, ⟨some 57, .mv (.tmp 11), none⟩, ⟨some 58, .nilChk (.tmp 57), none⟩, ⟨some 59, .faddr (.tmp 58) 3, none⟩, ⟨some 60, .load (.tmp 59) none, none⟩, ⟨some 61, .mop (.inv (.tmp 60) "End" []), none⟩, ⟨some 62, .call (.func 25) [(.tmp 56), (.tmp 61)], none⟩]) (.seq (.seq (.ops [⟨some 63, .mv (.tmp 11), none⟩, ⟨some 64, .nilChk (.tmp 63), none⟩, ⟨some 65, .faddr (.tmp 64) 6, none⟩, ⟨some 66, .faddr (.tmp 65) 2, none⟩, ⟨some 67, .load (.tmp 66) none, none⟩, ⟨some 68, .int .eql (.tmp 67) (.const (.int .i64 0)), none⟩]) (.cond (.tmp 68) (.ops [⟨some 69, .mv (.tmp 11), none⟩, ⟨some 70, .mv (.tmp 11), none⟩, ⟨some 71, .nilChk (.tmp 70), none⟩, ⟨some 72, .faddr (.tmp 71) 4, none⟩, ⟨some 73, .load (.tmp 72) none, none⟩, ⟨some 74, .mop (.inv (.tmp 73) "End" []), none⟩, ⟨some 75, .call (.func 26) [(.tmp 69), (.tmp 74)], none⟩]) .skip)) (.seq (.draw [⟨some 76, .mv (.tmp 11), none⟩, ⟨some 77, .nilChk (.tmp 76), none⟩, ⟨some 78, .faddr (.tmp 77) 5, none⟩, ⟨some 79, .load (.tmp 78) none, none⟩, ⟨some 80, .mv (.tmp 11), none⟩, ⟨some 81, .nilChk (.tmp 80), none⟩, ⟨some 82, .faddr (.tmp 81) 6, none⟩, ⟨some 83, .load (.tmp 82) (some 3), none⟩, ⟨some 8, .mv (.tmp 79), none⟩, ⟨none, .store (.tmp 9) (.tmp 83) 3, none⟩, ⟨some 10, .mv (.const (.int .i64 0)), none⟩]) .ret)))))))
def F_stream_All : AFunc := ⟨4, 84, [.tmp 8, .cell 9 (some 3), .tmp 10], k_stream_All⟩
theorem ok_stream_All : FOK Tryz.prog 8 F_stream_All := FOK.of [[9, 11, 26, 27, 28], [0, 1, 2, 3, 4, 5, 6, 7, 8, 9, 10], [0, 1, 2, 3, 4, 5, 6, 7, 8, 9, 10]] Tryz.func8 (by kernel_rfl) (by kernel_rfl)
def k_lontartop_name : ACode := (.seq (.ops [⟨some 2, .mv (.const (.string ⟨#[]⟩)), none⟩]) (.seq (.ops [⟨some 4, .call (.func 27) [], none⟩, ⟨some 3, .mv (.tmp 4), none⟩]) (.seq (.seq (.ops [⟨some 5, .mv (.tmp 3), none⟩, ⟨some 6, .len false (.tmp 5), none⟩, ⟨some 7, .int .eql (.tmp 6) (.const (.int .i64 0)), none⟩]) (.cond (.tmp 7) (.seq (.ops [⟨some 2, .mv (.const (.string ⟨#[]⟩)), none⟩]) .ret) .skip)) (.seq (.ops [⟨some 8, .mv (.tmp 3), none⟩, ⟨some 9, .mv (.tmp 0), none⟩, ⟨some 10, .conv .i64 (.tmp 9), none⟩, ⟨some 11, .mv (.tmp 3), none⟩, ⟨some 12, .len false (.tmp 11), none⟩, ⟨some 13, .int .rem (.tmp 10) (.tmp 12), none⟩, ⟨some 14, .iaddr (.tmp 8) (.tmp 13) 1, none⟩, ⟨some 15, .load (.tmp 14) none, none⟩, ⟨some 2, .mv (.tmp 15), none⟩]) .ret))))
def F_lontartop_name : AFunc := ⟨1, 16, [.tmp 2], k_lontartop_name⟩
theorem ok_lontartop_name : FOK Tryz.prog 9 F_lontartop_name := FOK.of [] Tryz.func9 (by kernel_rfl) (by kernel_rfl)
def k_utf_Put : ACode := (.seq (.ops [⟨some 4, .mv (.const (.slice none 0 0)), none⟩]) (.seq (.seq (.ops [⟨some 5, .mv (.tmp 1), none⟩, ⟨some 6, .call (.func 29) [(.tmp 5)], none⟩]) (.block 0 (.seq (.ops [⟨some 8, .int .eql (.tmp 6) (.const (.int .i64 1)), none⟩, ⟨some 7, .mv (.tmp 8), none⟩]) (.cond (.tmp 7) (.seq (.ops [⟨some 9, .mv (.tmp 0), none⟩, ⟨some 10, .mv (.tmp 1), none⟩, ⟨some 11, .conv .u8 (.tmp 10), none⟩, ⟨some 12, .bslice 5 1 1 [(.int .u8 0)] [(0, 1, (.tmp 11))], none⟩, ⟨some 13, .append (.tmp 9) (.tmp 12) 5 1 1, none⟩, ⟨some 4, .mv (.tmp 13), none⟩]) .ret) (.seq (.ops [⟨some 15, .int .eql (.tmp 6) (.const (.int .i64 2)), none⟩, ⟨some 14, .mv (.tmp 15), none⟩]) (.cond (.tmp 14) (.seq (.ops [⟨some 16, .mv (.tmp 0), none⟩, ⟨some 17, .mv (.tmp 1), none⟩, ⟨some 18, .gen ⟨none, (.binOp .shr 3 (.tmp 17) (.const (.int .u64 6)) 78), 3, "", #[], none⟩, none⟩, ⟨some 19, .gen ⟨none, (.binOp .or 3 (.const (.int .i64 192)) (.tmp 18) 3), 3, "", #[], none⟩, none⟩, ⟨some 20, .conv .u8 (.tmp 19), none⟩, ⟨some 21, .mv (.tmp 1), none⟩, ⟨some 22, .gen ⟨none, (.binOp .and 3 (.tmp 21) (.const (.int .i64 63)) 3), 3, "", #[], none⟩, none⟩, ⟨some 23, .gen ⟨none, (.binOp .or 3 (.const (.int .i64 128)) (.tmp 22) 3), 3, "", #[], none⟩, none⟩, ⟨some 24, .conv .u8 (.tmp 23), none⟩, ⟨some 25, .bslice 5 2 1 [(.int .u8 0)] [(0, 1, (.tmp 20)), (1, 1, (.tmp 24))], none⟩, ⟨some 26, .append (.tmp 16) (.tmp 25) 5 1 1, none⟩, ⟨some 4, .mv (.tmp 26), none⟩]) .ret) (.seq (.ops [⟨some 28, .int .eql (.tmp 6) (.const (.int .i64 3)), none⟩, ⟨some 27, .mv (.tmp 28), none⟩]) (.cond (.tmp 27) (.seq (.ops [⟨some 29, .mv (.tmp 0), none⟩, ⟨some 30, .mv (.tmp 1), none⟩, ⟨some 31, .gen ⟨none, (.binOp .shr 3 (.tmp 30) (.const (.int .u64 12)) 78), 3, "", #[], none⟩, none⟩, ⟨some 32, .gen ⟨none, (.binOp .or 3 (.const (.int .i64 224)) (.tmp 31) 3), 3, "", #[], none⟩, none⟩, ⟨some 33, .conv .u8 (.tmp 32), none⟩, ⟨some 34, .mv (.tmp 1), none⟩, ⟨some 35, .gen ⟨none, (.binOp .shr 3 (.tmp 34) (.const (.int .u64 6)) 78), 3, "", #[], none⟩, none⟩, ⟨some 36, .gen ⟨none, (.binOp .and 3 (.tmp 35) (.const (.int .i64 63)) 3), 3, "", #[], none⟩, none⟩, ⟨some 37, .gen ⟨none, (.binOp .or 3 (.const (.int .i64 128)) (.tmp 36) 3), 3, "", #[], none⟩, none⟩, ⟨some 38, .conv .u8 (.tmp 37), none⟩, ⟨some 39, .mv (.tmp 1), none⟩, ⟨some 40, .gen ⟨none, (.binOp .and 3 (.tmp 39) (.const (.int .i64 63)) 3), 3, "", #[], none⟩, none⟩, ⟨some 41, .gen ⟨none, (.binOp .or 3 (.const (.int .i64 128)) (.tmp 40) 3), 3, "", #[], none⟩, none⟩, ⟨some 42, .conv .u8 (.tmp 41), none⟩, ⟨some 43, .bslice 5 3 1 [(.int .u8 0)] [(0, 1, (.tmp 33)), (1, 1, (.tmp 38)), (2, 1, (.tmp 42))], none⟩, ⟨some 44, .append (.tmp 29) (.tmp 43) 5 1 1, none⟩, ⟨some 4, .mv (.tmp 44), none⟩]) .ret) (.seq (.ops [⟨some 46, .int .eql (.tmp 6) (.const (.int .i64 4)), none⟩, ⟨some 45, .mv (.tmp 46), none⟩]) (.cond (.tmp 45) (.seq (.ops [⟨some 47, .mv (.tmp 0), none⟩, ⟨some 48, .mv (.tmp 1), none⟩, ⟨some 49, .gen ⟨none, (.binOp .shr 3 (.tmp 48) (.const (.int .u64 18)) 78), 3, "", #[], none⟩, none⟩, ⟨some 50, .gen ⟨none, (.binOp .or 3 (.const (.int .i64 240)) (.tmp 49) 3), 3, "", #[], none⟩, none⟩, ⟨some 51, .conv .u8 (.tmp 50), none⟩, ⟨some 52, .mv (.tmp 1), none⟩, ⟨some 53, .gen ⟨none, (.binOp .shr 3 (.tmp 52) (.const (.int .u64 12)) 78), 3, "", #[], none⟩, none⟩, ⟨some 54, .gen ⟨none, (.binOp .and 3 (.tmp 53) (.const (.int .i64 63)) 3), 3, "", #[], none⟩, none⟩, ⟨some 55, .gen ⟨none, (.binOp .or 3 (.const (.int .i64 128)) (.tmp 54) 3), 3, "", #[], none⟩, none⟩, ⟨some 56, .conv .u8 (.tmp 55), none⟩, ⟨some 57, .mv (.tmp 1), none⟩, ⟨some 58, .gen ⟨none, (.binOp .shr 3 (.tmp 57) (.const (.int .u64 6)) 78), 3, "", #[], none⟩, none⟩, ⟨some 59, .gen ⟨none, (.binOp .and 3 (.tmp 58) (.const (.int .i64 63)) 3), 3, "", #[], none⟩, none⟩, ⟨some 60, .gen ⟨none, (.binOp .or 3 (.const (.int .i64 128)) (.tmp 59) 3), 3, "", #[], none⟩, none⟩, ⟨some 61, .conv .u8 (.tmp 60), none⟩, ⟨some 62, .mv (.tmp 1), none⟩, ⟨some 63, .gen ⟨none, (.binOp .and 3 (.tmp 62) (.const (.int .i64 63)) 3), 3, "", #[], none⟩, none⟩, ⟨some 64, .gen ⟨none, (.binOp .or 3 (.const (.int .i64 128)) (.tmp 63) 3), 3, "", #[], none⟩, none⟩, ⟨some 65, .conv .u8 (.tmp 64), none⟩, ⟨some 66, .bslice 5 4 1 [(.int .u8 0)] [(0, 1, (.tmp 51)), (1, 1, (.tmp 56)), (2, 1, (.tmp 61)), (3, 1, (.tmp 65))], none⟩, ⟨some 67, .append (.tmp 47) (.tmp 66) 5 1 1, none⟩, ⟨some 4, .mv (.tmp 67), none⟩]) .ret) .skip)))))))))) (.seq (.ops [⟨some 68, .mv (.tmp 0), none⟩, ⟨some 69, .call (.func 11) [(.tmp 68), (.const (.int .i64 65533))], none⟩, ⟨some 4, .mv (.tmp 69), none⟩]) .ret)))
def F_utf_Put : AFunc := ⟨2, 70, [.tmp 4], k_utf_Put⟩
theorem ok_utf_Put : FOK Tryz.prog 11 F_utf_Put := FOK.of [] Tryz.func11 (by kernel_rfl) (by kernel_rfl)
def k_codec_Table : ACode := (.seq (.ops [⟨some 2, .mv (.const (.pointer none)), none⟩]) (.seq (.seq (.ops [⟨some 5, .mv (.tmp 0), none⟩, ⟨some 6, .call (.func 39) [(.tmp 5)], none⟩, ⟨some 7, .isNil 1 false (.tmp 6), none⟩]) (.cond (.tmp 7) (.seq (.ops [⟨some 2, .mv (.const (.pointer none)), none⟩]) .ret) .skip)) (.seq (.ops [⟨some 9, .mv (.tmp 0), none⟩, ⟨some 10, .call (.func 39) [(.tmp 9)], none⟩, ⟨some 11, .call (.func 40) [(.tmp 10)], none⟩, ⟨some 8, .mv (.tmp 11), none⟩, ⟨some 12, .ext (.tmp 8) 0, none⟩, ⟨some 13, .ext (.tmp 8) 1, none⟩, ⟨some 3, .mv (.tmp 12), none⟩, ⟨some 4, .mv (.tmp 13), none⟩]) (.seq (.ops [⟨some 14, .mv (.tmp 3), none⟩, ⟨some 2, .mv (.tmp 14), none⟩]) .ret))))
def F_codec_Table : AFunc := ⟨1, 15, [.tmp 2], k_codec_Table⟩
theorem ok_codec_Table : FOK Tryz.prog 17 F_codec_Table := FOK.of [] Tryz.func17 (by kernel_rfl) (by kernel_rfl)
def k_codec_Decode : ACode := (.seq (.ops [⟨some 2, .mv (.const .nilIface), none⟩, ⟨some 3, .mv (.const (.int .i64 0)), none⟩]) (.seq (.ops [⟨some 7, .mv (.tmp 0), none⟩, ⟨some 8, .call (.func 41) [(.tmp 7)], none⟩, ⟨some 6, .mv (.tmp 8), none⟩, ⟨some 9, .ext (.tmp 6) 0, none⟩, ⟨some 10, .ext (.tmp 6) 1, none⟩, ⟨some 4, .mv (.tmp 9), none⟩, ⟨some 5, .mv (.tmp 10), none⟩]) (.seq (.block 0 (.seq (.ops [⟨some 12, .mv (.tmp 5), none⟩, ⟨some 13, .int .neq (.tmp 12) (.const (.int .i64 0)), none⟩, ⟨some 11, .mv (.tmp 13), none⟩]) (.cond (.tmp 11) (.seq (.ops [⟨some 14, .mv (.tmp 5), none⟩, ⟨some 2, .mv (.const .nilIface), none⟩, ⟨some 3, .mv (.tmp 14), none⟩]) .ret) (.seq (.ops [⟨some 16, .mv (.tmp 4), none⟩, ⟨some 17, .gen ⟨none, (.binOp .eql 9 (.tmp 16) (.const (.string ⟨#[117, 116, 102, 45, 56]⟩)) 9), 4, "", #[], none⟩, none⟩, ⟨some 15, .mv (.tmp 17), none⟩]) (.cond (.tmp 15) (.seq (.ops [⟨some 18, .build [(.slice none 0 0), (.int .i64 0)] [], none⟩, ⟨some 19, .box (.tmp 18) 101, none⟩, ⟨some 20, .mkface 97 (.tmp 19), none⟩, ⟨some 2, .mv (.tmp 20), none⟩, ⟨some 3, .mv (.const (.int .i64 0)), none⟩]) .ret) (.seq (.ops [⟨some 22, .mv (.tmp 4), none⟩, ⟨some 23, .gen ⟨none, (.binOp .eql 9 (.tmp 22) (.const (.string ⟨#[105, 115, 99, 105, 105]⟩)) 9), 4, "", #[], none⟩, none⟩, ⟨some 21, .mv (.tmp 23), none⟩]) (.cond (.tmp 21) (.seq (.ops [⟨some 24, .call (.func 42) [], none⟩, ⟨some 25, .mkface 102 (.tmp 24), none⟩, ⟨some 2, .mv (.tmp 25), none⟩, ⟨some 3, .mv (.const (.int .i64 0)), none⟩]) .ret) .skip))))))) (.seq (.ops [⟨some 26, .mv (.tmp 4), none⟩, ⟨some 27, .call (.func 17) [(.tmp 26)], none⟩, ⟨some 28, .call (.func 43) [(.tmp 27)], none⟩, ⟨some 2, .mv (.tmp 28), none⟩, ⟨some 3, .mv (.const (.int .i64 0)), none⟩]) .ret))))
def F_codec_Decode : AFunc := ⟨1, 29, [.tmp 2, .tmp 3], k_codec_Decode⟩
theorem ok_codec_Decode : FOK Tryz.prog 18 F_codec_Decode := FOK.of [] Tryz.func18 (by kernel_rfl) (by kernel_rfl)
def b_lontarlaw19_Bytes_0 : ACode := (.seq (.ops [⟨some 13, .int .lss (.tmp 12) (.tmp 11), none⟩]) (.seq (.cond (.tmp 13) .skip (.exit 0)) (.seq (.block 1 (.seq (.ops [⟨some 14, .iaddr (.tmp 10) (.tmp 12) 1, none⟩, ⟨some 15, .load (.tmp 14) none, none⟩, ⟨some 5, .mv (.tmp 15), none⟩]) (.ops [⟨some 16, .mv (.tmp 3), none⟩, ⟨some 17, .mv (.tmp 5), none⟩, ⟨some 18, .conv .i64 (.tmp 17), none⟩, ⟨some 19, .bslice 3 1 1 [(.int .i64 0)] [(0, 1, (.tmp 18))], none⟩, ⟨some 20, .append (.tmp 16) (.tmp 19) 3 1 8, none⟩, ⟨some 3, .mv (.tmp 20), none⟩]))) (.ops [⟨some 21, .int .add (.tmp 12) (.const (.int .i64 1)), none⟩, ⟨some 12, .mv (.tmp 21), none⟩]))))
def k_lontarlaw19_Bytes : ACode := (.seq (.ops [⟨some 2, .mv (.const (.slice none 0 0)), none⟩]) (.seq (.ops [⟨some 3, .mv (.const (.slice none 0 0)), none⟩]) (.seq (.seq (.ops [⟨some 6, .mv (.tmp 0), none⟩, ⟨some 7, .mv (.tmp 0), none⟩, ⟨some 8, .len false (.tmp 7), none⟩, ⟨some 9, .min2 (.tmp 8) (.const (.int .i64 60)), none⟩, ⟨some 10, .slice (.tmp 6) none (some (.tmp 9)) 1, none⟩, ⟨some 11, .len false (.tmp 10), none⟩, ⟨some 12, .mv (.const (.int .i64 0)), none⟩]) (.block 0 (.loop [3, 10, 11, 12] b_lontarlaw19_Bytes_0))) (.seq (.ops [⟨some 22, .mv (.tmp 3), none⟩, ⟨some 2, .mv (.tmp 22), none⟩]) .ret))))
def F_lontarlaw19_Bytes : AFunc := ⟨1, 23, [.tmp 2], k_lontarlaw19_Bytes⟩
theorem ok_lontarlaw19_Bytes : FOK Tryz.prog 19 F_lontarlaw19_Bytes := FOK.of [[3, 10, 11, 12]] Tryz.func19 (by kernel_rfl) (by kernel_rfl)
def b_rewrite_Units_0 : ACode := (.seq (.ops [⟨some 11, .int .lss (.tmp 10) (.tmp 9), none⟩]) (.seq (.cond (.tmp 11) .skip (.exit 0)) (.seq (.block 1 (.seq (.ops [⟨some 12, .iaddr (.tmp 8) (.tmp 10) 4, none⟩, ⟨some 13, .load (.tmp 12) (some 4), none⟩, ⟨some 7, .alloc [(.int .i64 0), (.int .i64 0), (.slice none 0 0), (.int .i64 0)] 36, none⟩, ⟨none, .store (.tmp 7) (.tmp 13) 4, none⟩]) (.seq (.ops [⟨some 14, .mv (.tmp 4), none⟩, ⟨some 15, .faddr (.tmp 7) 2, none⟩, ⟨some 16, .load (.tmp 15) none, none⟩, ⟨some 17, .append (.tmp 14) (.tmp 16) 3 1 8, none⟩, ⟨some 4, .mv (.tmp 17), none⟩]) (.seq (.ops [⟨some 18, .faddr (.tmp 7) 3, none⟩, ⟨some 19, .load (.tmp 18) none, none⟩, ⟨some 20, .int .neq (.tmp 19) (.const (.int .i64 0)), none⟩, ⟨some 21, .mv (.tmp 20), none⟩, ⟨some 22, .faddr (.tmp 5) 3, some (21, true)⟩, ⟨some 23, .load (.tmp 22) none, some (21, true)⟩, ⟨some 24, .int .eql (.tmp 23) (.const (.int .i64 0)), some (21, true)⟩, ⟨some 25, .pick (.tmp 21) (.tmp 24) (.const (.bool false)), none⟩]) (.cond (.tmp 25) (.ops [⟨some 26, .load (.tmp 7) (some 4), none⟩, ⟨none, .store (.tmp 5) (.tmp 26) 4, none⟩]) .skip))))) (.ops [⟨some 27, .int .add (.tmp 10) (.const (.int .i64 1)), none⟩, ⟨some 10, .mv (.tmp 27), none⟩]))))
def k_rewrite_Units : ACode := (.seq (.ops [⟨some 2, .mv (.const (.slice none 0 0)), none⟩, ⟨some 3, .alloc [(.int .i64 0), (.int .i64 0), (.slice none 0 0), (.int .i64 0)] 36, none⟩]) (.seq (.ops [⟨some 4, .mv (.const (.slice none 0 0)), none⟩]) (.seq (.ops [⟨some 5, .alloc [(.int .i64 0), (.int .i64 0), (.slice none 0 0), (.int .i64 0)] 36, none⟩]) (.seq (.seq (.ops [⟨some 8, .mv (.tmp 0), none⟩, ⟨some 9, .len false (.tmp 8), none⟩, ⟨some 10, .mv (.const (.int .i64 0)), none⟩]) (.block 0 (.loop [3, 4, 5, 8, 9, 10] b_rewrite_Units_0))) (.seq (.draw [⟨some 28, .mv (.tmp 4), none⟩, ⟨some 29, .load (.tmp 5) (some 4), none⟩, ⟨some 2, .mv (.tmp 28), none⟩, ⟨none, .store (.tmp 3) (.tmp 29) 4, none⟩]) .ret)))))
def F_rewrite_Units : AFunc := ⟨1, 30, [.tmp 2, .cell 3 (some 4)], k_rewrite_Units⟩
theorem ok_rewrite_Units : FOK Tryz.prog 20 F_rewrite_Units := FOK.of [[3, 4, 5, 8, 9, 10], [0, 1, 2, 3]] Tryz.func20 (by kernel_rfl) (by kernel_rfl)
def b_machine_All_0 : ACode := (.seq (.ops [⟨some 11, .int .lss (.tmp 10) (.tmp 9), none⟩]) (.seq (.cond (.tmp 11) .skip (.exit 0)) (.seq (.block 1 (.seq (.ops [⟨some 12, .iaddr (.tmp 8) (.tmp 10) 1, none⟩, ⟨some 13, .load (.tmp 12) none, none⟩, ⟨some 7, .mv (.tmp 13), none⟩]) (.ops [⟨some 14, .mv (.tmp 5), none⟩, ⟨some 15, .mv (.tmp 0), none⟩, ⟨some 16, .mv (.tmp 7), none⟩, ⟨some 17, .mop (.inv (.tmp 15) "Put" [(.tmp 16)]), none⟩, ⟨some 18, .append (.tmp 14) (.tmp 17) 36 4 48, none⟩, ⟨some 5, .mv (.tmp 18), none⟩]))) (.ops [⟨some 19, .int .add (.tmp 10) (.const (.int .i64 1)), none⟩, ⟨some 10, .mv (.tmp 19), none⟩]))))
def k_machine_All : ACode := (.seq (.ops [⟨some 4, .mv (.const (.slice none 0 0)), none⟩]) (.seq (.ops [⟨some 5, .mv (.const (.slice none 0 0)), none⟩]) (.seq (.seq (.ops [⟨some 8, .mv (.tmp 1), none⟩, ⟨some 9, .len false (.tmp 8), none⟩, ⟨some 10, .mv (.const (.int .i64 0)), none⟩]) (.block 0 (.loop [0, 5, 8, 9, 10] b_machine_All_0))) (.seq (.ops [⟨some 20, .mv (.tmp 5), none⟩, ⟨some 21, .mv (.tmp 0), none⟩, ⟨some 22, .mop (.inv (.tmp 21) "End" []), none⟩, ⟨some 23, .append (.tmp 20) (.tmp 22) 36 4 48, none⟩, ⟨some 4, .mv (.tmp 23), none⟩]) .ret))))
def F_machine_All : AFunc := ⟨2, 24, [.tmp 4], k_machine_All⟩
theorem ok_machine_All : FOK Tryz.prog 21 F_machine_All := FOK.of [[0, 5, 8, 9, 10]] Tryz.func21 (by kernel_rfl) (by kernel_rfl)
def b_rewrite_All_0 : ACode := (.seq (.seq (.ops [⟨some 8, .mv (.tmp 6), none⟩, ⟨some 9, .mv (.tmp 1), none⟩, ⟨some 10, .len false (.tmp 9), none⟩, ⟨some 11, .int .lss (.tmp 8) (.tmp 10), none⟩]) (.cond (.tmp 11) .skip (.exit 0))) (.block 1 (.seq (.ops [⟨some 12, .mv (.tmp 0), none⟩, ⟨some 13, .mv (.tmp 1), none⟩, ⟨some 14, .mv (.tmp 6), none⟩, ⟨some 15, .slice (.tmp 13) (some (.tmp 14)) none 1, none⟩, ⟨some 16, .mv (.tmp 6), none⟩, ⟨some 17, .call (.func 44) [(.tmp 12), (.tmp 15), (.tmp 16)], none⟩, ⟨some 7, .alloc [(.int .i64 0), (.int .i64 0), (.slice none 0 0), (.int .i64 0)] 36, none⟩, ⟨none, .store (.tmp 7) (.tmp 17) 4, none⟩]) (.seq (.ops [⟨some 18, .mv (.tmp 5), none⟩, ⟨some 19, .load (.tmp 7) (some 4), none⟩, ⟨some 20, .bslice 36 1 4 [(.int .i64 0), (.int .i64 0), (.slice none 0 0), (.int .i64 0)] [(0, 4, (.tmp 19))], none⟩, ⟨some 21, .append (.tmp 18) (.tmp 20) 36 4 48, none⟩, ⟨some 5, .mv (.tmp 21), none⟩]) (.ops [⟨some 22, .mv (.tmp 6), none⟩, ⟨some 23, .faddr (.tmp 7) 1, none⟩, ⟨some 24, .load (.tmp 23) none, none⟩, ⟨some 25, .int .add (.tmp 22) (.tmp 24), none⟩, ⟨some 6, .mv (.tmp 25), none⟩])))))
def k_rewrite_All : ACode := (.seq (.ops [⟨some 4, .mv (.const (.slice none 0 0)), none⟩]) (.seq (.ops [⟨some 5, .mv (.const (.slice none 0 0)), none⟩]) (.seq (.seq (.ops [⟨some 6, .mv (.const (.int .i64 0)), none⟩]) (.block 0 (.loop [0, 1, 5, 6] b_rewrite_All_0))) (.seq (.ops [⟨some 26, .mv (.tmp 5), none⟩, ⟨some 4, .mv (.tmp 26), none⟩]) .ret))))
def F_rewrite_All : AFunc := ⟨2, 27, [.tmp 4], k_rewrite_All⟩
theorem ok_rewrite_All : FOK Tryz.prog 22 F_rewrite_All := FOK.of [[0, 1, 5, 6]] Tryz.func22 (by kernel_rfl) (by kernel_rfl)
def k_table_Table__Read : ACode := (.seq (.ops [⟨some 2, .mv (.const (.pointer none)), none⟩]) (.seq (.ops [⟨some 3, .mv (.tmp 0), none⟩, ⟨some 4, .nilChk (.tmp 3), none⟩, ⟨some 5, .faddr (.tmp 4) 2, none⟩, ⟨some 6, .load (.tmp 5) none, none⟩, ⟨some 2, .mv (.tmp 6), none⟩]) .ret))
def F_table_Table__Read : AFunc := ⟨1, 7, [.tmp 2], k_table_Table__Read⟩
theorem ok_table_Table__Read : FOK Tryz.prog 23 F_table_Table__Read := FOK.of [] Tryz.func23 (by kernel_rfl) (by kernel_rfl)
def k_stream_Open : ACode := (.seq (.ops [⟨some 6, .mv (.const (.pointer none)), none⟩, ⟨some 7, .mv (.const (.int .i64 0)), none⟩]) (.seq (.ops [⟨some 13, .mv (.tmp 0), none⟩, ⟨some 14, .call (.func 41) [(.tmp 13)], none⟩, ⟨some 12, .mv (.tmp 14), none⟩, ⟨some 15, .ext (.tmp 12) 0, none⟩, ⟨some 16, .ext (.tmp 12) 1, none⟩, ⟨some 8, .mv (.tmp 15), none⟩, ⟨some 9, .mv (.tmp 16), none⟩]) (.seq (.seq (.ops [⟨some 17, .mv (.tmp 9), none⟩, ⟨some 18, .int .neq (.tmp 17) (.const (.int .i64 0)), none⟩]) (.cond (.tmp 18) (.seq (.ops [⟨some 19, .mv (.tmp 9), none⟩, ⟨some 6, .mv (.const (.pointer none)), none⟩, ⟨some 7, .mv (.tmp 19), none⟩]) .ret) .skip)) (.seq (.ops [⟨some 21, .mv (.tmp 1), none⟩, ⟨some 22, .call (.func 41) [(.tmp 21)], none⟩, ⟨some 20, .mv (.tmp 22), none⟩, ⟨some 23, .ext (.tmp 20) 0, none⟩, ⟨some 24, .ext (.tmp 20) 1, none⟩, ⟨some 10, .mv (.tmp 23), none⟩, ⟨some 9, .mv (.tmp 24), none⟩]) (.seq (.block 0 (.seq (.ops [⟨some 26, .mv (.tmp 9), none⟩, ⟨some 27, .int .neq (.tmp 26) (.const (.int .i64 0)), none⟩, ⟨some 25, .mv (.tmp 27), none⟩]) (.cond (.tmp 25) (.seq (.ops [⟨some 28, .mv (.tmp 9), none⟩, ⟨some 6, .mv (.const (.pointer none)), none⟩, ⟨some 7, .mv (.tmp 28), none⟩]) .ret) (.seq (.ops [⟨some 30, .mv (.tmp 2), none⟩, ⟨some 31, .int .lss (.tmp 30) (.const (.int .i64 0)), none⟩, ⟨some 32, .mv (.tmp 31), none⟩, ⟨some 33, .mv (.tmp 2), some (32, false)⟩, ⟨some 34, .int .geq (.tmp 33) (.const (.int .i64 3)), some (32, false)⟩, ⟨some 35, .pick (.tmp 32) (.const (.bool true)) (.tmp 34), none⟩, ⟨some 29, .mv (.tmp 35), none⟩]) (.cond (.tmp 29) (.seq (.ops [⟨some 6, .mv (.const (.pointer none)), none⟩, ⟨some 7, .mv (.const (.int .i64 9)), none⟩]) .ret) .skip))))) (.seq (.ops [⟨some 36, .mv (.tmp 8), none⟩, ⟨some 37, .mv (.tmp 10), none⟩, ⟨some 38, .mv (.tmp 2), none⟩, ⟨some 39, .build [(.string ⟨#[]⟩), (.string ⟨#[]⟩), (.int .i64 0), .nilIface, .nilIface, (.slice none 0 0), (.int .i64 0), (.int .i64 0), (.int .i64 0), (.bool false), (.bool false)] [(0, 1, (.tmp 36)), (1, 1, (.tmp 37)), (2, 1, (.tmp 38))], none⟩, ⟨some 40, .box (.tmp 39) 70, none⟩, ⟨some 11, .mv (.tmp 40), none⟩]) (.seq (.ops [⟨some 41, .mv (.tmp 11), none⟩, ⟨some 42, .call (.func 45) [(.tmp 41)], none⟩]) (.seq (.ops [⟨some 43, .mv (.tmp 11), none⟩, ⟨some 6, .mv (.tmp 43), none⟩, ⟨some 7, .mv (.const (.int .i64 0)), none⟩]) .ret))))))))
def F_stream_Open : AFunc := ⟨3, 44, [.tmp 6, .tmp 7], k_stream_Open⟩
theorem ok_stream_Open : FOK Tryz.prog 24 F_stream_Open := FOK.of [] Tryz.func24 (by kernel_rfl) (by kernel_rfl)
def b_stream_Stream__taken_0 : ACode := (.seq (.ops [⟨some 29, .int .lss (.tmp 28) (.tmp 27), none⟩]) (.seq (.cond (.tmp 29) .skip (.exit 2)) (.seq (.block 3 (.seq (.ops [⟨some 30, .iaddr (.tmp 26) (.tmp 28) 1, none⟩, ⟨some 31, .load (.tmp 30) none, none⟩, ⟨some 8, .mv (.tmp 31), none⟩]) (.seq (.ops [⟨some 32, .mv (.tmp 0), none⟩, ⟨some 33, .nilChk (.tmp 32), none⟩, ⟨some 34, .faddr (.tmp 33) 6, none⟩, ⟨some 35, .faddr (.tmp 34) 2, none⟩, ⟨some 36, .load (.tmp 35) none, none⟩, ⟨some 37, .int .eql (.tmp 36) (.const (.int .i64 0)), none⟩]) (.cond (.tmp 37) (.ops [⟨some 38, .mv (.tmp 0), none⟩, ⟨some 39, .mv (.tmp 0), none⟩, ⟨some 40, .nilChk (.tmp 39), none⟩, ⟨some 41, .faddr (.tmp 40) 4, none⟩, ⟨some 42, .load (.tmp 41) none, none⟩, ⟨some 43, .mv (.tmp 8), none⟩, ⟨some 44, .mop (.inv (.tmp 42) "Put" [(.tmp 43)]), none⟩, ⟨some 45, .call (.func 26) [(.tmp 38), (.tmp 44)], none⟩]) .skip)))) (.ops [⟨some 46, .int .add (.tmp 28) (.const (.int .i64 1)), none⟩, ⟨some 28, .mv (.tmp 46), none⟩]))))
def b_stream_Stream__taken_1 : ACode := (.seq (.ops [⟨some 12, .int .lss (.tmp 11) (.tmp 10), none⟩]) (.seq (.cond (.tmp 12) .skip (.exit 0)) (.seq (.block 1 (.seq (.ops [⟨some 13, .iaddr (.tmp 9) (.tmp 11) 4, none⟩, ⟨some 14, .load (.tmp 13) (some 4), none⟩, ⟨some 5, .alloc [(.int .i64 0), (.int .i64 0), (.slice none 0 0), (.int .i64 0)] 36, none⟩, ⟨none, .store (.tmp 5) (.tmp 14) 4, none⟩]) (.seq (.ops [⟨some 15, .faddr (.tmp 5) 2, none⟩, ⟨some 16, .load (.tmp 15) none, none⟩, ⟨some 6, .mv (.tmp 16), none⟩]) (.seq (.seq (.ops [⟨some 17, .faddr (.tmp 5) 3, none⟩, ⟨some 18, .load (.tmp 17) none, none⟩, ⟨some 19, .int .neq (.tmp 18) (.const (.int .i64 0)), none⟩]) (.cond (.tmp 19) (.seq (.ops [⟨some 6, .mv (.const (.slice none 0 0)), none⟩]) (.seq (.ops [⟨some 20, .mv (.tmp 0), none⟩, ⟨some 21, .nilChk (.tmp 20), none⟩, ⟨some 22, .faddr (.tmp 21) 2, none⟩, ⟨some 23, .load (.tmp 22) none, none⟩, ⟨some 24, .int .eql (.tmp 23) (.const (.int .i64 1)), none⟩]) (.cond (.tmp 24) (.ops [⟨some 25, .bslice 3 1 1 [(.int .i64 0)] [(0, 1, (.const (.int .i64 65533)))], none⟩, ⟨some 6, .mv (.tmp 25), none⟩]) .skip))) .skip)) (.seq (.seq (.ops [⟨some 26, .mv (.tmp 6), none⟩, ⟨some 27, .len false (.tmp 26), none⟩, ⟨some 28, .mv (.const (.int .i64 0)), none⟩]) (.block 2 (.loop [0, 5, 9, 10, 11, 26, 27, 28] b_stream_Stream__taken_0))) (.seq (.ops [⟨some 47, .faddr (.tmp 5) 3, none⟩, ⟨some 48, .load (.tmp 47) none, none⟩, ⟨some 49, .int .neq (.tmp 48) (.const (.int .i64 0)), none⟩, ⟨some 50, .mv (.tmp 49), none⟩, ⟨some 51, .mv (.tmp 0), some (50, true)⟩, ⟨some 52, .nilChk (.tmp 51), some (50, true)⟩, ⟨some 53, .faddr (.tmp 52) 6, some (50, true)⟩, ⟨some 54, .faddr (.tmp 53) 2, some (50, true)⟩, ⟨some 55, .load (.tmp 54) none, some (50, true)⟩, ⟨some 56, .int .eql (.tmp 55) (.const (.int .i64 0)), some (50, true)⟩, ⟨some 57, .pick (.tmp 50) (.tmp 56) (.const (.bool false)), none⟩, ⟨some 58, .mv (.tmp 57), none⟩, ⟨some 59, .mv (.tmp 0), some (58, true)⟩, ⟨some 60, .load (.tmp 5) (some 4), some (58, true)⟩, ⟨some 61, .call (.func 46) [(.tmp 59), (.const (.int .i64 1)), (.tmp 60)], some (58, true)⟩, ⟨some 62, .pick (.tmp 58) (.tmp 61) (.const (.bool false)), none⟩]) (.cond (.tmp 62) (.seq (.ops [⟨some 63, .mv (.tmp 0), none⟩, ⟨some 64, .mv (.tmp 0), none⟩, ⟨some 65, .call (.func 47) [(.tmp 64)], none⟩, ⟨some 66, .nilChk (.tmp 63), none⟩, ⟨some 67, .faddr (.tmp 66) 6, none⟩, ⟨none, .store (.tmp 67) (.tmp 65) 3, none⟩]) .ret) .skip))))))) (.ops [⟨some 68, .int .add (.tmp 11) (.const (.int .i64 1)), none⟩, ⟨some 11, .mv (.tmp 68), none⟩]))))
def k_stream_Stream__taken : ACode := (.seq (.ops [⟨some 9, .mv (.tmp 1), none⟩, ⟨some 10, .len false (.tmp 9), none⟩, ⟨some 11, .mv (.const (.int .i64 0)), none⟩]) (.block 0 (.loop [0, 9, 10, 11] b_stream_Stream__taken_1)))
def F_stream_Stream__taken : AFunc := ⟨2, 69, [], k_stream_Stream__taken⟩
theorem ok_stream_Stream__taken : FOK Tryz.prog 25 F_stream_Stream__taken := FOK.of [[0, 9, 10, 11], [0, 5, 9, 10, 11, 26, 27, 28]] Tryz.func25 (by kernel_rfl) (by kernel_rfl)
def b_stream_Stream__written_0 : ACode := (.seq (.ops [⟨some 29, .int .lss (.tmp 28) (.tmp 27), none⟩]) (.seq (.cond (.tmp 29) .skip (.exit 3)) (.seq (.block 4 (.seq (.ops [⟨some 30, .iaddr (.tmp 26) (.tmp 28) 1, none⟩, ⟨some 31, .load (.tmp 30) none, none⟩, ⟨some 7, .mv (.tmp 31), none⟩]) (.ops [⟨some 32, .mv (.tmp 0), none⟩, ⟨some 33, .mv (.tmp 0), none⟩, ⟨some 34, .nilChk (.tmp 33), none⟩, ⟨some 35, .faddr (.tmp 34) 5, none⟩, ⟨some 36, .load (.tmp 35) none, none⟩, ⟨some 37, .mv (.tmp 7), none⟩, ⟨some 38, .conv .u8 (.tmp 37), none⟩, ⟨some 39, .bslice 5 1 1 [(.int .u8 0)] [(0, 1, (.tmp 38))], none⟩, ⟨some 40, .append (.tmp 36) (.tmp 39) 5 1 1, none⟩, ⟨some 41, .nilChk (.tmp 32), none⟩, ⟨some 42, .faddr (.tmp 41) 5, none⟩, ⟨none, .store (.tmp 42) (.tmp 40) 1, none⟩]))) (.ops [⟨some 43, .int .add (.tmp 28) (.const (.int .i64 1)), none⟩, ⟨some 28, .mv (.tmp 43), none⟩]))))
def b_stream_Stream__written_1 : ACode := (.seq (.ops [⟨some 11, .int .lss (.tmp 10) (.tmp 9), none⟩]) (.seq (.cond (.tmp 11) .skip (.exit 0)) (.seq (.block 1 (.seq (.ops [⟨some 12, .iaddr (.tmp 8) (.tmp 10) 4, none⟩, ⟨some 13, .load (.tmp 12) (some 4), none⟩, ⟨some 5, .alloc [(.int .i64 0), (.int .i64 0), (.slice none 0 0), (.int .i64 0)] 36, none⟩, ⟨none, .store (.tmp 5) (.tmp 13) 4, none⟩]) (.block 2 (.seq (.ops [⟨some 15, .mv (.tmp 0), none⟩, ⟨some 16, .nilChk (.tmp 15), none⟩, ⟨some 17, .faddr (.tmp 16) 6, none⟩, ⟨some 18, .faddr (.tmp 17) 2, none⟩, ⟨some 19, .load (.tmp 18) none, none⟩, ⟨some 20, .int .neq (.tmp 19) (.const (.int .i64 0)), none⟩, ⟨some 14, .mv (.tmp 20), none⟩]) (.cond (.tmp 14) .ret (.seq (.ops [⟨some 22, .faddr (.tmp 5) 3, none⟩, ⟨some 23, .load (.tmp 22) none, none⟩, ⟨some 24, .int .eql (.tmp 23) (.const (.int .i64 0)), none⟩, ⟨some 21, .mv (.tmp 24), none⟩]) (.cond (.tmp 21) (.seq (.ops [⟨some 25, .faddr (.tmp 5) 2, none⟩, ⟨some 26, .load (.tmp 25) none, none⟩, ⟨some 27, .len false (.tmp 26), none⟩, ⟨some 28, .mv (.const (.int .i64 0)), none⟩]) (.block 3 (.loop [0, 8, 9, 10, 26, 27, 28] b_stream_Stream__written_0))) (.seq (.ops [⟨some 45, .mv (.tmp 0), none⟩, ⟨some 46, .load (.tmp 5) (some 4), none⟩, ⟨some 47, .call (.func 46) [(.tmp 45), (.const (.int .i64 2)), (.tmp 46)], none⟩, ⟨some 48, .not (.tmp 47), none⟩, ⟨some 49, .mv (.tmp 48), none⟩, ⟨some 50, .mv (.tmp 0), some (49, true)⟩, ⟨some 51, .nilChk (.tmp 50), some (49, true)⟩, ⟨some 52, .faddr (.tmp 51) 2, some (49, true)⟩, ⟨some 53, .load (.tmp 52) none, some (49, true)⟩, ⟨some 54, .int .eql (.tmp 53) (.const (.int .i64 1)), some (49, true)⟩, ⟨some 55, .pick (.tmp 49) (.tmp 54) (.const (.bool false)), none⟩, ⟨some 44, .mv (.tmp 55), none⟩]) (.cond (.tmp 44) (.ops [⟨some 56, .mv (.tmp 0), none⟩, ⟨some 57, .mv (.tmp 0), none⟩, ⟨some 58, .nilChk (.tmp 57), none⟩, ⟨some 59, .faddr (.tmp 58) 5, none⟩, ⟨some 60, .load (.tmp 59) none, none⟩, ⟨some 61, .bslice 5 1 1 [(.int .u8 0)] [(0, 1, (.const (.int .u8 63)))], none⟩, ⟨some 62, .append (.tmp 60) (.tmp 61) 5 1 1, none⟩, ⟨some 63, .nilChk (.tmp 56), none⟩, ⟨some 64, .faddr (.tmp 63) 5, none⟩, ⟨none, .store (.tmp 64) (.tmp 62) 1, none⟩]) .skip))))))))) (.ops [⟨some 65, .int .add (.tmp 10) (.const (.int .i64 1)), none⟩, ⟨some 10, .mv (.tmp 65), none⟩]))))
def k_stream_Stream__written : ACode := (.seq (.ops [⟨some 8, .mv (.tmp 1), none⟩, ⟨some 9, .len false (.tmp 8), none⟩, ⟨some 10, .mv (.const (.int .i64 0)), none⟩]) (.block 0 (.loop [0, 8, 9, 10] b_stream_Stream__written_1)))
def F_stream_Stream__written : AFunc := ⟨2, 66, [], k_stream_Stream__written⟩
theorem ok_stream_Stream__written : FOK Tryz.prog 26 F_stream_Stream__written := FOK.of [[0, 8, 9, 10], [0, 8, 9, 10, 26, 27, 28]] Tryz.func26 (by kernel_rfl) (by kernel_rfl)
def k_codec_Names : ACode := (.seq (.ops [⟨some 0, .mv (.const (.slice none 0 0)), none⟩]) (.seq (.ops [⟨some 1, .bslice 9 8 1 [(.string ⟨#[]⟩)] [(0, 1, (.const (.string ⟨#[117, 116, 102, 45, 56]⟩))), (1, 1, (.const (.string ⟨#[97, 115, 99, 105, 105]⟩))), (2, 1, (.const (.string ⟨#[118, 105, 115, 99, 105, 105]⟩))), (3, 1, (.const (.string ⟨#[116, 99, 118, 110, 51]⟩))), (4, 1, (.const (.string ⟨#[118, 110, 105]⟩))), (5, 1, (.const (.string ⟨#[116, 105, 115, 45, 54, 50, 48]⟩))), (6, 1, (.const (.string ⟨#[116, 115, 99, 105, 105]⟩))), (7, 1, (.const (.string ⟨#[105, 115, 99, 105, 105]⟩)))], none⟩, ⟨some 0, .mv (.tmp 1), none⟩]) .ret))
def F_codec_Names : AFunc := ⟨0, 2, [.tmp 0], k_codec_Names⟩
theorem ok_codec_Names : FOK Tryz.prog 27 F_codec_Names := FOK.of [] Tryz.func27 (by kernel_rfl) (by kernel_rfl)
def k_utf_Size : ACode := (.seq (.ops [⟨some 2, .mv (.const (.int .i64 0)), none⟩]) (.seq (.block 0 (.seq (.ops [⟨some 4, .mv (.tmp 0), none⟩, ⟨some 5, .call (.func 49) [(.tmp 4)], none⟩, ⟨some 6, .not (.tmp 5), none⟩, ⟨some 3, .mv (.tmp 6), none⟩]) (.cond (.tmp 3) (.seq (.ops [⟨some 2, .mv (.const (.int .i64 0)), none⟩]) .ret) (.seq (.ops [⟨some 8, .mv (.tmp 0), none⟩, ⟨some 9, .int .lss (.tmp 8) (.const (.int .i64 128)), none⟩, ⟨some 7, .mv (.tmp 9), none⟩]) (.cond (.tmp 7) (.seq (.ops [⟨some 2, .mv (.const (.int .i64 1)), none⟩]) .ret) (.seq (.ops [⟨some 11, .mv (.tmp 0), none⟩, ⟨some 12, .int .lss (.tmp 11) (.const (.int .i64 2048)), none⟩, ⟨some 10, .mv (.tmp 12), none⟩]) (.cond (.tmp 10) (.seq (.ops [⟨some 2, .mv (.const (.int .i64 2)), none⟩]) .ret) (.seq (.ops [⟨some 14, .mv (.tmp 0), none⟩, ⟨some 15, .int .lss (.tmp 14) (.const (.int .i64 65536)), none⟩, ⟨some 13, .mv (.tmp 15), none⟩]) (.cond (.tmp 13) (.seq (.ops [⟨some 2, .mv (.const (.int .i64 3)), none⟩]) .ret) .skip))))))))) (.seq (.ops [⟨some 2, .mv (.const (.int .i64 4)), none⟩]) .ret)))
def F_utf_Size : AFunc := ⟨1, 16, [.tmp 2], k_utf_Size⟩
theorem ok_utf_Size : FOK Tryz.prog 29 F_utf_Size := FOK.of [] Tryz.func29 (by kernel_rfl) (by kernel_rfl)
def k_codec_Encode : ACode := (.seq (.ops [⟨some 2, .mv (.const .nilIface), none⟩, ⟨some 3, .mv (.const (.int .i64 0)), none⟩]) (.seq (.ops [⟨some 7, .mv (.tmp 0), none⟩, ⟨some 8, .call (.func 41) [(.tmp 7)], none⟩, ⟨some 6, .mv (.tmp 8), none⟩, ⟨some 9, .ext (.tmp 6) 0, none⟩, ⟨some 10, .ext (.tmp 6) 1, none⟩, ⟨some 4, .mv (.tmp 9), none⟩, ⟨some 5, .mv (.tmp 10), none⟩]) (.seq (.block 0 (.seq (.ops [⟨some 12, .mv (.tmp 5), none⟩, ⟨some 13, .int .neq (.tmp 12) (.const (.int .i64 0)), none⟩, ⟨some 11, .mv (.tmp 13), none⟩]) (.cond (.tmp 11) (.seq (.ops [⟨some 14, .mv (.tmp 5), none⟩, ⟨some 2, .mv (.const .nilIface), none⟩, ⟨some 3, .mv (.tmp 14), none⟩]) .ret) (.seq (.ops [⟨some 16, .mv (.tmp 4), none⟩, ⟨some 17, .gen ⟨none, (.binOp .eql 9 (.tmp 16) (.const (.string ⟨#[117, 116, 102, 45, 56]⟩)) 9), 4, "", #[], none⟩, none⟩, ⟨some 15, .mv (.tmp 17), none⟩]) (.cond (.tmp 15) (.seq (.ops [⟨some 18, .build [(.int .i64 0)] [], none⟩, ⟨some 19, .box (.tmp 18) 115, none⟩, ⟨some 20, .mkface 113 (.tmp 19), none⟩, ⟨some 2, .mv (.tmp 20), none⟩, ⟨some 3, .mv (.const (.int .i64 0)), none⟩]) .ret) (.seq (.ops [⟨some 22, .mv (.tmp 4), none⟩, ⟨some 23, .gen ⟨none, (.binOp .eql 9 (.tmp 22) (.const (.string ⟨#[105, 115, 99, 105, 105]⟩)) 9), 4, "", #[], none⟩, none⟩, ⟨some 21, .mv (.tmp 23), none⟩]) (.cond (.tmp 21) (.seq (.ops [⟨some 24, .call (.func 50) [], none⟩, ⟨some 25, .mkface 116 (.tmp 24), none⟩, ⟨some 2, .mv (.tmp 25), none⟩, ⟨some 3, .mv (.const (.int .i64 0)), none⟩]) .ret) .skip))))))) (.seq (.ops [⟨some 26, .mv (.tmp 4), none⟩, ⟨some 27, .call (.func 17) [(.tmp 26)], none⟩, ⟨some 28, .call (.func 51) [(.tmp 27)], none⟩, ⟨some 29, .mkface 118 (.tmp 28), none⟩, ⟨some 2, .mv (.tmp 29), none⟩, ⟨some 3, .mv (.const (.int .i64 0)), none⟩]) .ret))))
def F_codec_Encode : AFunc := ⟨1, 30, [.tmp 2, .tmp 3], k_codec_Encode⟩
theorem ok_codec_Encode : FOK Tryz.prog 30 F_codec_Encode := FOK.of [] Tryz.func30 (by kernel_rfl) (by kernel_rfl)
def b_codec_rules_0 : ACode := (.seq (.ops [⟨some 24, .int .lss (.tmp 23) (.const (.int .i64 256)), none⟩]) (.seq (.cond (.tmp 24) .skip (.exit 1)) (.seq (.block 2 (.seq (.ops [⟨some 25, .mv (.tmp 23), none⟩, ⟨some 4, .mv (.tmp 25), none⟩]) (.seq (.ops [⟨some 27, .mv (.tmp 4), none⟩, ⟨some 28, .conv .u8 (.tmp 27), none⟩, ⟨some 29, .call (.func 63) [(.tmp 28)], none⟩, ⟨some 26, .mv (.tmp 29), none⟩, ⟨some 30, .ext (.tmp 26) 0, none⟩, ⟨some 31, .ext (.tmp 26) 1, none⟩, ⟨some 5, .mv (.tmp 30), none⟩, ⟨some 6, .mv (.tmp 31), none⟩]) (.seq (.ops [⟨some 32, .mv (.tmp 6), none⟩]) (.cond (.tmp 32) (.ops [⟨some 33, .mv (.tmp 3), none⟩, ⟨some 34, .mv (.tmp 4), none⟩, ⟨some 35, .bslice 3 1 1 [(.int .i64 0)] [(0, 1, (.tmp 34))], none⟩, ⟨some 36, .mv (.tmp 5), none⟩, ⟨some 37, .bslice 3 1 1 [(.int .i64 0)] [(0, 1, (.tmp 36))], none⟩, ⟨some 38, .build [(.slice none 0 0), (.slice none 0 0)] [(0, 1, (.tmp 35)), (1, 1, (.tmp 37))], none⟩, ⟨some 39, .bslice 127 1 2 [(.slice none 0 0), (.slice none 0 0)] [(0, 2, (.tmp 38))], none⟩, ⟨some 40, .append (.tmp 33) (.tmp 39) 127 2 48, none⟩, ⟨some 3, .mv (.tmp 40), none⟩]) .skip))))) (.ops [⟨some 41, .int .add (.tmp 23) (.const (.int .i64 1)), none⟩, ⟨some 23, .mv (.tmp 41), none⟩]))))
def b_codec_rules_1 : ACode := (.seq (.ops [⟨some 45, .int .lss (.tmp 44) (.const (.int .i64 128)), none⟩]) (.seq (.cond (.tmp 45) .skip (.exit 3)) (.seq (.block 4 (.seq (.ops [⟨some 46, .mv (.tmp 44), none⟩, ⟨some 7, .mv (.tmp 46), none⟩]) (.ops [⟨some 47, .mv (.tmp 3), none⟩, ⟨some 48, .mv (.tmp 7), none⟩, ⟨some 49, .bslice 3 1 1 [(.int .i64 0)] [(0, 1, (.tmp 48))], none⟩, ⟨some 50, .mv (.tmp 7), none⟩, ⟨some 51, .bslice 3 1 1 [(.int .i64 0)] [(0, 1, (.tmp 50))], none⟩, ⟨some 52, .build [(.slice none 0 0), (.slice none 0 0)] [(0, 1, (.tmp 49)), (1, 1, (.tmp 51))], none⟩, ⟨some 53, .bslice 127 1 2 [(.slice none 0 0), (.slice none 0 0)] [(0, 2, (.tmp 52))], none⟩, ⟨some 54, .append (.tmp 47) (.tmp 53) 127 2 48, none⟩, ⟨some 3, .mv (.tmp 54), none⟩]))) (.ops [⟨some 55, .int .add (.tmp 44) (.const (.int .i64 1)), none⟩, ⟨some 44, .mv (.tmp 55), none⟩]))))
def k_codec_rules : ACode := (.seq (.ops [⟨some 2, .mv (.const (.slice none 0 0)), none⟩]) (.seq (.ops [⟨some 3, .mv (.const (.slice none 0 0)), none⟩]) (.seq (.seq (.ops [⟨some 8, .mv (.tmp 0), none⟩]) (.block 0 (.seq (.ops [⟨some 10, .gen ⟨none, (.binOp .eql 9 (.tmp 8) (.const (.string ⟨#[118, 105, 115, 99, 105, 105]⟩)) 9), 4, "", #[], none⟩, none⟩, ⟨some 9, .mv (.tmp 10), none⟩]) (.cond (.tmp 9) (.seq (.ops [⟨some 11, .call (.func 59) [], none⟩, ⟨some 2, .mv (.tmp 11), none⟩]) .ret) (.seq (.ops [⟨some 13, .gen ⟨none, (.binOp .eql 9 (.tmp 8) (.const (.string ⟨#[116, 99, 118, 110, 51]⟩)) 9), 4, "", #[], none⟩, none⟩, ⟨some 12, .mv (.tmp 13), none⟩]) (.cond (.tmp 12) (.seq (.ops [⟨some 14, .call (.func 60) [], none⟩, ⟨some 2, .mv (.tmp 14), none⟩]) .ret) (.seq (.ops [⟨some 16, .gen ⟨none, (.binOp .eql 9 (.tmp 8) (.const (.string ⟨#[118, 110, 105]⟩)) 9), 4, "", #[], none⟩, none⟩, ⟨some 15, .mv (.tmp 16), none⟩]) (.cond (.tmp 15) (.seq (.ops [⟨some 17, .call (.func 61) [], none⟩, ⟨some 2, .mv (.tmp 17), none⟩]) .ret) (.seq (.ops [⟨some 19, .gen ⟨none, (.binOp .eql 9 (.tmp 8) (.const (.string ⟨#[116, 115, 99, 105, 105]⟩)) 9), 4, "", #[], none⟩, none⟩, ⟨some 18, .mv (.tmp 19), none⟩]) (.cond (.tmp 18) (.seq (.ops [⟨some 20, .call (.func 62) [], none⟩, ⟨some 2, .mv (.tmp 20), none⟩]) .ret) (.seq (.ops [⟨some 22, .gen ⟨none, (.binOp .eql 9 (.tmp 8) (.const (.string ⟨#[116, 105, 115, 45, 54, 50, 48]⟩)) 9), 4, "", #[], none⟩, none⟩, ⟨some 21, .mv (.tmp 22), none⟩]) (.cond (.tmp 21) (.seq (.ops [⟨some 23, .mv (.const (.int .i64 0)), none⟩]) (.block 1 (.loop [3, 23] b_codec_rules_0))) (.seq (.ops [⟨some 43, .gen ⟨none, (.binOp .eql 9 (.tmp 8) (.const (.string ⟨#[97, 115, 99, 105, 105]⟩)) 9), 4, "", #[], none⟩, none⟩, ⟨some 42, .mv (.tmp 43), none⟩]) (.cond (.tmp 42) (.seq (.ops [⟨some 44, .mv (.const (.int .i64 0)), none⟩]) (.block 3 (.loop [3, 44] b_codec_rules_1))) .skip)))))))))))))) (.seq (.ops [⟨some 56, .mv (.tmp 3), none⟩, ⟨some 2, .mv (.tmp 56), none⟩]) .ret))))
def F_codec_rules : AFunc := ⟨1, 57, [.tmp 2], k_codec_rules⟩
theorem ok_codec_rules : FOK Tryz.prog 39 F_codec_rules := FOK.of [[3, 23], [3, 44]] Tryz.func39 (by kernel_rfl) (by kernel_rfl)
def k_table_Of : ACode := (.seq (.ops [⟨some 2, .mv (.const (.pointer none)), none⟩, ⟨some 3, .mv (.const (.int .i64 0)), none⟩]) (.seq (.ops [⟨some 9, .mv (.tmp 0), none⟩, ⟨some 10, .call (.func 64) [(.tmp 9)], none⟩, ⟨some 8, .mv (.tmp 10), none⟩, ⟨some 11, .ext (.tmp 8) 0, none⟩, ⟨some 12, .ext (.tmp 8) 1, none⟩, ⟨some 4, .mv (.tmp 11), none⟩, ⟨some 5, .mv (.tmp 12), none⟩]) (.seq (.seq (.ops [⟨some 13, .mv (.tmp 5), none⟩, ⟨some 14, .int .neq (.tmp 13) (.const (.int .i64 0)), none⟩]) (.cond (.tmp 14) (.seq (.ops [⟨some 15, .mv (.tmp 5), none⟩, ⟨some 2, .mv (.const (.pointer none)), none⟩, ⟨some 3, .mv (.tmp 15), none⟩]) .ret) .skip)) (.seq (.seq (.ops [⟨some 16, .mv (.tmp 0), none⟩, ⟨some 17, .call (.func 65) [(.tmp 16)], none⟩, ⟨some 18, .not (.tmp 17), none⟩]) (.cond (.tmp 18) (.seq (.ops [⟨some 2, .mv (.const (.pointer none)), none⟩, ⟨some 3, .mv (.const (.int .i64 10)), none⟩]) .ret) .skip)) (.seq (.ops [⟨some 19, .mv (.tmp 0), none⟩, ⟨some 20, .call (.func 66) [(.tmp 19)], none⟩, ⟨some 6, .mv (.tmp 20), none⟩]) (.seq (.ops [⟨some 21, .mv (.tmp 0), none⟩, ⟨some 22, .call (.func 67) [(.tmp 21)], none⟩, ⟨some 23, .mv (.tmp 6), none⟩, ⟨some 24, .call (.func 67) [(.tmp 23)], none⟩, ⟨some 25, .mv (.tmp 4), none⟩, ⟨some 26, .build [(.int .i64 0), (.int .i64 0), (.pointer none), (.pointer none)] [(0, 1, (.tmp 22)), (1, 1, (.tmp 24)), (2, 1, (.tmp 25))], none⟩, ⟨some 27, .box (.tmp 26) 107, none⟩, ⟨some 7, .mv (.tmp 27), none⟩]) (.seq (.ops [⟨some 29, .mv (.tmp 7), none⟩, ⟨some 30, .mv (.tmp 6), none⟩, ⟨some 31, .call (.func 64) [(.tmp 30)], none⟩, ⟨some 28, .mv (.tmp 31), none⟩, ⟨some 32, .ext (.tmp 28) 0, none⟩, ⟨some 33, .ext (.tmp 28) 1, none⟩, ⟨some 34, .nilChk (.tmp 29), none⟩, ⟨some 35, .faddr (.tmp 34) 3, none⟩, ⟨none, .store (.tmp 35) (.tmp 32) 1, none⟩, ⟨some 5, .mv (.tmp 33), none⟩]) (.seq (.ops [⟨some 36, .mv (.tmp 7), none⟩, ⟨some 37, .mv (.tmp 5), none⟩, ⟨some 2, .mv (.tmp 36), none⟩, ⟨some 3, .mv (.tmp 37), none⟩]) .ret))))))))
def F_table_Of : AFunc := ⟨1, 38, [.tmp 2, .tmp 3], k_table_Of⟩
theorem ok_table_Of : FOK Tryz.prog 40 F_table_Of := FOK.of [] Tryz.func40 (by kernel_rfl) (by kernel_rfl)
def k_codec_Name : ACode := (.seq (.ops [⟨some 2, .mv (.const (.string ⟨#[]⟩)), none⟩, ⟨some 3, .mv (.const (.int .i64 0)), none⟩]) (.seq (.ops [⟨some 6, .mv (.tmp 0), none⟩, ⟨some 7, .call (.func 68) [(.tmp 6)], none⟩, ⟨some 4, .mv (.tmp 7), none⟩]) (.seq (.seq (.ops [⟨some 8, .call (.func 27) [], none⟩, ⟨some 9, .mv (.tmp 4), none⟩, ⟨some 10, .call (.func 69) [(.tmp 8), (.tmp 9)], none⟩]) (.cond (.tmp 10) (.seq (.ops [⟨some 11, .mv (.tmp 4), none⟩, ⟨some 2, .mv (.tmp 11), none⟩, ⟨some 3, .mv (.const (.int .i64 0)), none⟩]) .ret) .skip)) (.seq (.seq (.ops [⟨some 12, .mv (.tmp 4), none⟩, ⟨some 13, .call (.func 70) [(.tmp 12)], none⟩, ⟨some 5, .mv (.tmp 13), none⟩]) (.seq (.ops [⟨some 14, .mv (.tmp 5), none⟩, ⟨some 15, .gen ⟨none, (.binOp .neq 9 (.tmp 14) (.const (.string ⟨#[]⟩)) 9), 4, "", #[], none⟩, none⟩]) (.cond (.tmp 15) (.seq (.ops [⟨some 16, .mv (.tmp 5), none⟩, ⟨some 2, .mv (.tmp 16), none⟩, ⟨some 3, .mv (.const (.int .i64 0)), none⟩]) .ret) .skip))) (.seq (.ops [⟨some 2, .mv (.const (.string ⟨#[]⟩)), none⟩, ⟨some 3, .mv (.const (.int .i64 6)), none⟩]) .ret)))))
def F_codec_Name : AFunc := ⟨1, 17, [.tmp 2, .tmp 3], k_codec_Name⟩
theorem ok_codec_Name : FOK Tryz.prog 41 F_codec_Name := FOK.of [] Tryz.func41 (by kernel_rfl) (by kernel_rfl)
def k_iscii_Decode : ACode := (.seq (.ops [⟨some 0, .mv (.const (.pointer none)), none⟩]) (.seq (.ops [⟨some 1, .call (.func 71) [], none⟩, ⟨some 2, .call (.func 43) [(.tmp 1)], none⟩, ⟨some 3, .build [.nilIface, (.int .i64 0)] [(0, 1, (.tmp 2))], none⟩, ⟨some 4, .box (.tmp 3) 138, none⟩, ⟨some 0, .mv (.tmp 4), none⟩]) .ret))
def F_iscii_Decode : AFunc := ⟨0, 5, [.tmp 0], k_iscii_Decode⟩
theorem ok_iscii_Decode : FOK Tryz.prog 42 F_iscii_Decode := FOK.of [] Tryz.func42 (by kernel_rfl) (by kernel_rfl)
def k_machine_Decode : ACode := (.seq (.ops [⟨some 2, .mv (.const .nilIface), none⟩]) (.seq (.ops [⟨some 3, .mv (.tmp 0), none⟩, ⟨some 4, .call (.func 23) [(.tmp 3)], none⟩, ⟨some 5, .call (.func 72) [(.tmp 4)], none⟩, ⟨some 6, .build [(.pointer none)] [(0, 1, (.tmp 5))], none⟩, ⟨some 7, .box (.tmp 6) 143, none⟩, ⟨some 8, .mkface 139 (.tmp 7), none⟩, ⟨some 2, .mv (.tmp 8), none⟩]) .ret))
def F_machine_Decode : AFunc := ⟨1, 9, [.tmp 2], k_machine_Decode⟩
theorem ok_machine_Decode : FOK Tryz.prog 43 F_machine_Decode := FOK.of [] Tryz.func43 (by kernel_rfl) (by kernel_rfl)
def k_rewrite_one : ACode := (.seq (.ops [⟨some 6, .alloc [(.int .i64 0), (.int .i64 0), (.slice none 0 0), (.int .i64 0)] 36, none⟩]) (.seq (.ops [⟨some 11, .mv (.tmp 0), none⟩, ⟨some 12, .mv (.tmp 1), none⟩, ⟨some 13, .call (.func 73) [(.tmp 11), (.tmp 12)], none⟩, ⟨some 10, .mv (.tmp 13), none⟩, ⟨some 14, .ext (.tmp 10) 0, none⟩, ⟨some 15, .ext (.tmp 10) 1, none⟩, ⟨some 16, .ext (.tmp 10) 2, none⟩, ⟨some 7, .mv (.tmp 14), none⟩, ⟨some 8, .mv (.tmp 15), none⟩, ⟨some 9, .mv (.tmp 16), none⟩]) (.seq (.seq (.ops [⟨some 17, .mv (.tmp 7), none⟩, ⟨some 18, .int .lss (.tmp 17) (.const (.int .i64 0)), none⟩]) (.cond (.tmp 18) (.seq (.ops [⟨some 19, .mv (.tmp 2), none⟩, ⟨some 20, .build [(.int .i64 0), (.int .i64 0), (.slice none 0 0), (.int .i64 0)] [(0, 1, (.tmp 19)), (1, 1, (.const (.int .i64 1))), (3, 1, (.const (.int .i64 3)))], none⟩, ⟨none, .store (.tmp 6) (.tmp 20) 4, none⟩]) .ret) .skip)) (.seq (.ops [⟨some 21, .mv (.tmp 2), none⟩, ⟨some 22, .mv (.tmp 8), none⟩, ⟨some 23, .mv (.tmp 0), none⟩, ⟨some 24, .mv (.tmp 7), none⟩, ⟨some 25, .call (.func 74) [(.tmp 23), (.tmp 24)], none⟩, ⟨some 26, .build [(.int .i64 0), (.int .i64 0), (.slice none 0 0), (.int .i64 0)] [(0, 1, (.tmp 21)), (1, 1, (.tmp 22)), (2, 1, (.tmp 25))], none⟩, ⟨none, .store (.tmp 6) (.tmp 26) 4, none⟩]) .ret))))
def F_rewrite_one : AFunc := ⟨3, 27, [.cell 6 (some 4)], k_rewrite_one⟩
theorem ok_rewrite_one : FOK Tryz.prog 44 F_rewrite_one := FOK.of [] Tryz.func44 (by kernel_rfl) (by kernel_rfl)
def k_stream_Stream__Reset : ACode := (.seq (.ops [⟨some 3, .mv (.tmp 0), none⟩, ⟨some 4, .mv (.tmp 0), none⟩, ⟨some 5, .nilChk (.tmp 4), none⟩, ⟨some 6, .faddr (.tmp 5) 0, none⟩, ⟨some 7, .load (.tmp 6) none, none⟩, ⟨some 8, .call (.func 18) [(.tmp 7)], none⟩, ⟨some 2, .mv (.tmp 8), none⟩, ⟨some 9, .ext (.tmp 2) 0, none⟩, ⟨some 10, .ext (.tmp 2) 1, none⟩, ⟨some 11, .nilChk (.tmp 3), none⟩, ⟨some 12, .faddr (.tmp 11) 3, none⟩, ⟨none, .store (.tmp 12) (.tmp 9) 1, none⟩]) (.seq (.ops [⟨some 14, .mv (.tmp 0), none⟩, ⟨some 15, .mv (.tmp 0), none⟩, ⟨some 16, .nilChk (.tmp 15), none⟩, ⟨some 17, .faddr (.tmp 16) 1, none⟩, ⟨some 18, .load (.tmp 17) none, none⟩, ⟨some 19, .call (.func 30) [(.tmp 18)], none⟩, ⟨some 13, .mv (.tmp 19), none⟩, ⟨some 20, .ext (.tmp 13) 0, none⟩, ⟨some 21, .ext (.tmp 13) 1, none⟩, ⟨some 22, .nilChk (.tmp 14), none⟩, ⟨some 23, .faddr (.tmp 22) 4, none⟩, ⟨none, .store (.tmp 23) (.tmp 20) 1, none⟩]) (.ops [⟨some 24, .mv (.tmp 0), none⟩, ⟨some 25, .mv (.tmp 0), none⟩, ⟨some 26, .mv (.tmp 0), none⟩, ⟨some 27, .mv (.tmp 0), none⟩, ⟨some 28, .build [(.int .i64 0), (.int .i64 0), (.int .i64 0)] [], none⟩, ⟨some 29, .nilChk (.tmp 24), none⟩, ⟨some 30, .faddr (.tmp 29) 5, none⟩, ⟨none, .store (.tmp 30) (.const (.slice none 0 0)) 1, none⟩, ⟨some 31, .nilChk (.tmp 25), none⟩, ⟨some 32, .faddr (.tmp 31) 6, none⟩, ⟨none, .store (.tmp 32) (.tmp 28) 3, none⟩, ⟨some 33, .nilChk (.tmp 26), none⟩, ⟨some 34, .faddr (.tmp 33) 9, none⟩, ⟨none, .store (.tmp 34) (.const (.bool false)) 1, none⟩, ⟨some 35, .nilChk (.tmp 27), none⟩, ⟨some 36, .faddr (.tmp 35) 10, none⟩, ⟨none, .store (.tmp 36) (.const (.bool false)) 1, none⟩])))
def F_stream_Stream__Reset : AFunc := ⟨1, 37, [], k_stream_Stream__Reset⟩
theorem ok_stream_Stream__Reset : FOK Tryz.prog 45 F_stream_Stream__Reset := FOK.of [] Tryz.func45 (by kernel_rfl) (by kernel_rfl)
def k_utf_lead : ACode := (.seq (.ops [⟨some 2, .mv (.const (.int .i64 0)), none⟩, ⟨some 3, .mv (.const (.int .i64 0)), none⟩, ⟨some 4, .mv (.const (.int .u8 0)), none⟩, ⟨some 5, .mv (.const (.int .u8 0)), none⟩]) (.seq (.ops [⟨some 4, .mv (.const (.int .u8 128)), none⟩, ⟨some 5, .mv (.const (.int .u8 191)), none⟩]) (.seq (.block 0 (.seq (.ops [⟨some 7, .mv (.tmp 0), none⟩, ⟨some 8, .int .lss (.tmp 7) (.const (.int .u8 128)), none⟩, ⟨some 6, .mv (.tmp 8), none⟩]) (.cond (.tmp 6) (.seq (.ops [⟨some 9, .mv (.tmp 0), none⟩, ⟨some 10, .conv .i64 (.tmp 9), none⟩, ⟨some 11, .mv (.tmp 4), none⟩, ⟨some 12, .mv (.tmp 5), none⟩, ⟨some 2, .mv (.const (.int .i64 1)), none⟩, ⟨some 3, .mv (.tmp 10), none⟩, ⟨some 4, .mv (.tmp 11), none⟩, ⟨some 5, .mv (.tmp 12), none⟩]) .ret) (.seq (.ops [⟨some 14, .mv (.tmp 0), none⟩, ⟨some 15, .int .lss (.tmp 14) (.const (.int .u8 194)), none⟩, ⟨some 16, .mv (.tmp 15), none⟩, ⟨some 17, .mv (.tmp 0), some (16, false)⟩, ⟨some 18, .int .gtr (.tmp 17) (.const (.int .u8 244)), some (16, false)⟩, ⟨some 19, .pick (.tmp 16) (.const (.bool true)) (.tmp 18), none⟩, ⟨some 13, .mv (.tmp 19), none⟩]) (.cond (.tmp 13) (.seq (.ops [⟨some 20, .mv (.tmp 4), none⟩, ⟨some 21, .mv (.tmp 5), none⟩, ⟨some 2, .mv (.const (.int .i64 0)), none⟩, ⟨some 3, .mv (.const (.int .i64 0)), none⟩, ⟨some 4, .mv (.tmp 20), none⟩, ⟨some 5, .mv (.tmp 21), none⟩]) .ret) (.seq (.ops [⟨some 23, .mv (.tmp 0), none⟩, ⟨some 24, .int .lss (.tmp 23) (.const (.int .u8 224)), none⟩, ⟨some 22, .mv (.tmp 24), none⟩]) (.cond (.tmp 22) (.seq (.ops [⟨some 25, .mv (.tmp 0), none⟩, ⟨some 26, .gen ⟨none, (.binOp .and 5 (.tmp 25) (.const (.int .u8 31)) 5), 5, "", #[], none⟩, none⟩, ⟨some 27, .conv .i64 (.tmp 26), none⟩, ⟨some 28, .mv (.tmp 4), none⟩, ⟨some 29, .mv (.tmp 5), none⟩, ⟨some 2, .mv (.const (.int .i64 2)), none⟩, ⟨some 3, .mv (.tmp 27), none⟩, ⟨some 4, .mv (.tmp 28), none⟩, ⟨some 5, .mv (.tmp 29), none⟩]) .ret) (.seq (.ops [⟨some 31, .mv (.tmp 0), none⟩, ⟨some 32, .int .eql (.tmp 31) (.const (.int .u8 224)), none⟩, ⟨some 30, .mv (.tmp 32), none⟩]) (.cond (.tmp 30) (.seq (.ops [⟨some 33, .mv (.tmp 5), none⟩, ⟨some 2, .mv (.const (.int .i64 3)), none⟩, ⟨some 3, .mv (.const (.int .i64 0)), none⟩, ⟨some 4, .mv (.const (.int .u8 160)), none⟩, ⟨some 5, .mv (.tmp 33), none⟩]) .ret) (.seq (.ops [⟨some 35, .mv (.tmp 0), none⟩, ⟨some 36, .int .eql (.tmp 35) (.const (.int .u8 237)), none⟩, ⟨some 34, .mv (.tmp 36), none⟩]) (.cond (.tmp 34) (.seq (.ops [⟨some 37, .mv (.tmp 4), none⟩, ⟨some 2, .mv (.const (.int .i64 3)), none⟩, ⟨some 3, .mv (.const (.int .i64 13)), none⟩, ⟨some 4, .mv (.tmp 37), none⟩, ⟨some 5, .mv (.const (.int .u8 159)), none⟩]) .ret) (.seq (.ops [⟨some 39, .mv (.tmp 0), none⟩, ⟨some 40, .int .lss (.tmp 39) (.const (.int .u8 240)), none⟩, ⟨some 38, .mv (.tmp 40), none⟩]) (.cond (.tmp 38) (.seq (.ops [⟨some 41, .mv (.tmp 0), none⟩, ⟨some 42, .gen ⟨none, (.binOp .and 5 (.tmp 41) (.const (.int .u8 15)) 5), 5, "", #[], none⟩, none⟩, ⟨some 43, .conv .i64 (.tmp 42), none⟩, ⟨some 44, .mv (.tmp 4), none⟩, ⟨some 45, .mv (.tmp 5), none⟩, ⟨some 2, .mv (.const (.int .i64 3)), none⟩, ⟨some 3, .mv (.tmp 43), none⟩, ⟨some 4, .mv (.tmp 44), none⟩, ⟨some 5, .mv (.tmp 45), none⟩]) .ret) (.seq (.ops [⟨some 47, .mv (.tmp 0), none⟩, ⟨some 48, .int .eql (.tmp 47) (.const (.int .u8 240)), none⟩, ⟨some 46, .mv (.tmp 48), none⟩]) (.cond (.tmp 46) (.seq (.ops [⟨some 49, .mv (.tmp 5), none⟩, ⟨some 2, .mv (.const (.int .i64 4)), none⟩, ⟨some 3, .mv (.const (.int .i64 0)), none⟩, ⟨some 4, .mv (.const (.int .u8 144)), none⟩, ⟨some 5, .mv (.tmp 49), none⟩]) .ret) (.seq (.ops [⟨some 51, .mv (.tmp 0), none⟩, ⟨some 52, .int .eql (.tmp 51) (.const (.int .u8 244)), none⟩, ⟨some 50, .mv (.tmp 52), none⟩]) (.cond (.tmp 50) (.seq (.ops [⟨some 53, .mv (.tmp 4), none⟩, ⟨some 2, .mv (.const (.int .i64 4)), none⟩, ⟨some 3, .mv (.const (.int .i64 4)), none⟩, ⟨some 4, .mv (.tmp 53), none⟩, ⟨some 5, .mv (.const (.int .u8 143)), none⟩]) .ret) .skip))))))))))))))))) (.seq (.ops [⟨some 54, .mv (.tmp 0), none⟩, ⟨some 55, .gen ⟨none, (.binOp .and 5 (.tmp 54) (.const (.int .u8 7)) 5), 5, "", #[], none⟩, none⟩, ⟨some 56, .conv .i64 (.tmp 55), none⟩, ⟨some 57, .mv (.tmp 4), none⟩, ⟨some 58, .mv (.tmp 5), none⟩, ⟨some 2, .mv (.const (.int .i64 4)), none⟩, ⟨some 3, .mv (.tmp 56), none⟩, ⟨some 4, .mv (.tmp 57), none⟩, ⟨some 5, .mv (.tmp 58), none⟩]) .ret))))
def F_utf_lead : AFunc := ⟨1, 59, [.tmp 2, .tmp 3, .tmp 4, .tmp 5], k_utf_lead⟩
theorem ok_utf_lead : FOK Tryz.prog 48 F_utf_lead := FOK.of [] Tryz.func48 (by kernel_rfl) (by kernel_rfl)
def k_utf_Scalar : ACode := (.seq (.ops [⟨some 2, .mv (.const (.bool false)), none⟩]) (.seq (.ops [⟨some 3, .mv (.tmp 0), none⟩, ⟨some 4, .int .geq (.tmp 3) (.const (.int .i64 0)), none⟩, ⟨some 5, .mv (.tmp 4), none⟩, ⟨some 6, .mv (.tmp 0), some (5, true)⟩, ⟨some 7, .int .leq (.tmp 6) (.const (.int .i64 1114111)), some (5, true)⟩, ⟨some 8, .pick (.tmp 5) (.tmp 7) (.const (.bool false)), none⟩, ⟨some 9, .mv (.tmp 8), none⟩, ⟨some 10, .mv (.tmp 0), some (9, true)⟩, ⟨some 11, .int .lss (.tmp 10) (.const (.int .i64 55296)), some (9, true)⟩, ⟨some 12, .mv (.tmp 11), some (9, true)⟩, ⟨some 13, .mv (.tmp 0), some (12, false)⟩, ⟨some 14, .int .gtr (.tmp 13) (.const (.int .i64 57343)), some (12, false)⟩, ⟨some 15, .pick (.tmp 12) (.const (.bool true)) (.tmp 14), some (9, true)⟩, ⟨some 16, .pick (.tmp 9) (.tmp 15) (.const (.bool false)), none⟩, ⟨some 2, .mv (.tmp 16), none⟩]) .ret))
def F_utf_Scalar : AFunc := ⟨1, 17, [.tmp 2], k_utf_Scalar⟩
theorem ok_utf_Scalar : FOK Tryz.prog 49 F_utf_Scalar := FOK.of [] Tryz.func49 (by kernel_rfl) (by kernel_rfl)
def k_iscii_Encode : ACode := (.seq (.ops [⟨some 0, .mv (.const (.pointer none)), none⟩]) (.seq (.ops [⟨some 1, .call (.func 71) [], none⟩, ⟨some 2, .call (.func 51) [(.tmp 1)], none⟩, ⟨some 3, .build [(.pointer none), (.int .i64 0), (.int .i64 0), (.int .i64 0)] [(0, 1, (.tmp 2))], none⟩, ⟨some 4, .box (.tmp 3) 148, none⟩, ⟨some 0, .mv (.tmp 4), none⟩]) .ret))
def F_iscii_Encode : AFunc := ⟨0, 5, [.tmp 0], k_iscii_Encode⟩
theorem ok_iscii_Encode : FOK Tryz.prog 50 F_iscii_Encode := FOK.of [] Tryz.func50 (by kernel_rfl) (by kernel_rfl)
def k_machine_Encode : ACode := (.seq (.ops [⟨some 2, .mv (.const (.pointer none)), none⟩]) (.seq (.ops [⟨some 3, .mv (.tmp 0), none⟩, ⟨some 4, .call (.func 75) [(.tmp 3)], none⟩, ⟨some 5, .call (.func 72) [(.tmp 4)], none⟩, ⟨some 6, .mv (.tmp 0), none⟩, ⟨some 7, .build [(.pointer none), (.pointer none), (.slice none 0 0)] [(0, 1, (.tmp 5)), (1, 1, (.tmp 6))], none⟩, ⟨some 8, .box (.tmp 7) 150, none⟩, ⟨some 2, .mv (.tmp 8), none⟩]) .ret))
def F_machine_Encode : AFunc := ⟨1, 9, [.tmp 2], k_machine_Encode⟩
theorem ok_machine_Encode : FOK Tryz.prog 51 F_machine_Encode := FOK.of [] Tryz.func51 (by kernel_rfl) (by kernel_rfl)
def b_viscii_Rules_0 : ACode := (.seq (.ops [⟨some 4, .int .lss (.tmp 3) (.const (.int .i64 256)), none⟩]) (.seq (.cond (.tmp 4) .skip (.exit 0)) (.seq (.block 1 (.seq (.ops [⟨some 5, .mv (.tmp 3), none⟩, ⟨some 2, .mv (.tmp 5), none⟩]) (.ops [⟨some 6, .mv (.tmp 1), none⟩, ⟨some 7, .mv (.tmp 2), none⟩, ⟨some 8, .bslice 3 1 1 [(.int .i64 0)] [(0, 1, (.tmp 7))], none⟩, ⟨some 9, .mv (.tmp 2), none⟩, ⟨some 10, .conv .u8 (.tmp 9), none⟩, ⟨some 11, .call (.func 81) [(.tmp 10)], none⟩, ⟨some 12, .bslice 3 1 1 [(.int .i64 0)] [(0, 1, (.tmp 11))], none⟩, ⟨some 13, .build [(.slice none 0 0), (.slice none 0 0)] [(0, 1, (.tmp 8)), (1, 1, (.tmp 12))], none⟩, ⟨some 14, .bslice 127 1 2 [(.slice none 0 0), (.slice none 0 0)] [(0, 2, (.tmp 13))], none⟩, ⟨some 15, .append (.tmp 6) (.tmp 14) 127 2 48, none⟩, ⟨some 1, .mv (.tmp 15), none⟩]))) (.ops [⟨some 16, .int .add (.tmp 3) (.const (.int .i64 1)), none⟩, ⟨some 3, .mv (.tmp 16), none⟩]))))
def k_viscii_Rules : ACode := (.seq (.ops [⟨some 0, .mv (.const (.slice none 0 0)), none⟩]) (.seq (.ops [⟨some 1, .mv (.const (.slice none 0 0)), none⟩]) (.seq (.seq (.ops [⟨some 3, .mv (.const (.int .i64 0)), none⟩]) (.block 0 (.loop [1, 3] b_viscii_Rules_0))) (.seq (.ops [⟨some 17, .mv (.tmp 1), none⟩, ⟨some 0, .mv (.tmp 17), none⟩]) .ret))))
def F_viscii_Rules : AFunc := ⟨0, 18, [.tmp 0], k_viscii_Rules⟩
theorem ok_viscii_Rules : FOK Tryz.prog 59 F_viscii_Rules := FOK.of [[1, 3]] Tryz.func59 (by kernel_rfl) (by kernel_rfl)
def b_tcvn_Rules_0 : ACode := (.seq (.ops [⟨some 4, .int .lss (.tmp 3) (.const (.int .i64 128)), none⟩]) (.seq (.cond (.tmp 4) .skip (.exit 0)) (.seq (.block 1 (.seq (.ops [⟨some 5, .mv (.tmp 3), none⟩, ⟨some 2, .mv (.tmp 5), none⟩]) (.ops [⟨some 6, .mv (.tmp 1), none⟩, ⟨some 7, .mv (.tmp 2), none⟩, ⟨some 8, .mv (.tmp 2), none⟩, ⟨some 9, .build [(.int .i64 0), (.int .i64 0)] [(0, 1, (.tmp 7)), (1, 1, (.tmp 8))], none⟩, ⟨some 10, .bslice 162 1 2 [(.int .i64 0), (.int .i64 0)] [(0, 2, (.tmp 9))], none⟩, ⟨some 11, .append (.tmp 6) (.tmp 10) 162 2 16, none⟩, ⟨some 1, .mv (.tmp 11), none⟩]))) (.ops [⟨some 12, .int .add (.tmp 3) (.const (.int .i64 1)), none⟩, ⟨some 3, .mv (.tmp 12), none⟩]))))
def k_tcvn_Rules : ACode := (.seq (.ops [⟨some 0, .mv (.const (.slice none 0 0)), none⟩]) (.seq (.ops [⟨some 1, .mv (.const (.slice none 0 0)), none⟩]) (.seq (.seq (.ops [⟨some 3, .mv (.const (.int .i64 0)), none⟩]) (.block 0 (.loop [1, 3] b_tcvn_Rules_0))) (.seq (.ops [⟨some 13, .mv (.tmp 1), none⟩, ⟨some 14, .call (.func 83) [], none⟩, ⟨some 15, .append (.tmp 13) (.tmp 14) 162 2 16, none⟩, ⟨some 16, .call (.func 82) [(.tmp 15)], none⟩, ⟨some 0, .mv (.tmp 16), none⟩]) .ret))))
def F_tcvn_Rules : AFunc := ⟨0, 17, [.tmp 0], k_tcvn_Rules⟩
theorem ok_tcvn_Rules : FOK Tryz.prog 60 F_tcvn_Rules := FOK.of [[1, 3]] Tryz.func60 (by kernel_rfl) (by kernel_rfl)
def b_vni_Rules_0 : ACode := (.seq (.ops [⟨some 42, .int .lss (.tmp 41) (.tmp 40), none⟩]) (.seq (.cond (.tmp 42) .skip (.exit 2)) (.seq (.block 3 (.seq (.ops [⟨some 43, .iaddr (.tmp 39) (.tmp 41) 1, none⟩, ⟨some 44, .load (.tmp 43) none, none⟩, ⟨some 11, .mv (.tmp 44), none⟩]) (.seq (.seq (.ops [⟨some 45, .mv (.tmp 8), none⟩]) (.cond (.tmp 45) (.ops [⟨some 46, .mv (.tmp 11), none⟩, ⟨some 47, .int .sub (.tmp 46) (.const (.int .i64 32)), none⟩, ⟨some 11, .mv (.tmp 47), none⟩]) .skip)) (.ops [⟨some 48, .mv (.tmp 9), none⟩, ⟨some 49, .mv (.tmp 11), none⟩, ⟨some 50, .bslice 3 1 1 [(.int .i64 0)] [(0, 1, (.tmp 49))], none⟩, ⟨some 51, .append (.tmp 48) (.tmp 50) 3 1 8, none⟩, ⟨some 9, .mv (.tmp 51), none⟩])))) (.ops [⟨some 52, .int .add (.tmp 41) (.const (.int .i64 1)), none⟩, ⟨some 41, .mv (.tmp 52), none⟩]))))
def b_vni_Rules_1 : ACode := (.seq (.ops [⟨some 24, .int .lss (.tmp 23) (.tmp 22), none⟩]) (.seq (.cond (.tmp 24) .skip (.exit 0)) (.seq (.block 1 (.seq (.ops [⟨some 25, .mv (.tmp 23), none⟩, ⟨some 26, .iaddr (.tmp 21) (.tmp 23) 2, none⟩, ⟨some 27, .load (.tmp 26) (some 2), none⟩, ⟨some 7, .alloc [(.int .i64 0), (.complex .f64 0 0)] 154, none⟩, ⟨some 6, .mv (.tmp 25), none⟩, ⟨none, .store (.tmp 7) (.tmp 27) 2, none⟩]) (.seq (.ops [⟨some 28, .mv (.tmp 6), none⟩, ⟨some 29, .mv (.tmp 4), none⟩, ⟨some 30, .int .geq (.tmp 28) (.tmp 29), none⟩, ⟨some 8, .mv (.tmp 30), none⟩]) (.seq (.seq (.ops [⟨some 31, .mv (.tmp 8), none⟩]) (.cond (.tmp 31) (.ops [⟨some 32, .mv (.tmp 2), none⟩, ⟨some 33, .mv (.tmp 6), none⟩, ⟨some 34, .mv (.tmp 4), none⟩, ⟨some 35, .int .sub (.tmp 33) (.tmp 34), none⟩, ⟨some 36, .iaddr (.tmp 32) (.tmp 35) 2, none⟩, ⟨some 37, .load (.tmp 36) (some 2), none⟩, ⟨none, .store (.tmp 7) (.tmp 37) 2, none⟩]) .skip)) (.seq (.ops [⟨some 9, .mv (.const (.slice none 0 0)), none⟩]) (.seq (.seq (.ops [⟨some 38, .load (.tmp 7) (some 2), none⟩, ⟨some 39, .call (.func 85) [(.tmp 38)], none⟩, ⟨some 40, .len false (.tmp 39), none⟩, ⟨some 41, .mv (.const (.int .i64 0)), none⟩]) (.block 2 (.loop [1, 2, 3, 4, 5, 6, 8, 9, 21, 22, 23, 39, 40, 41] b_vni_Rules_0))) (.seq (.ops [⟨some 53, .mv (.tmp 5), none⟩, ⟨some 54, .mv (.tmp 3), none⟩, ⟨some 55, .mv (.tmp 6), none⟩, ⟨some 56, .iaddr (.tmp 54) (.tmp 55) 1, none⟩, ⟨some 57, .load (.tmp 56) none, none⟩, ⟨none, .mop (.set (.tmp 53) (.tmp 57) (.const (.bool true))), none⟩]) (.ops [⟨some 58, .mv (.tmp 1), none⟩, ⟨some 59, .mv (.tmp 9), none⟩, ⟨some 60, .mv (.tmp 3), none⟩, ⟨some 61, .mv (.tmp 6), none⟩, ⟨some 62, .iaddr (.tmp 60) (.tmp 61) 1, none⟩, ⟨some 63, .load (.tmp 62) none, none⟩, ⟨some 64, .bslice 3 1 1 [(.int .i64 0)] [(0, 1, (.tmp 63))], none⟩, ⟨some 65, .build [(.slice none 0 0), (.slice none 0 0)] [(0, 1, (.tmp 59)), (1, 1, (.tmp 64))], none⟩, ⟨some 66, .bslice 127 1 2 [(.slice none 0 0), (.slice none 0 0)] [(0, 2, (.tmp 65))], none⟩, ⟨some 67, .append (.tmp 58) (.tmp 66) 127 2 48, none⟩, ⟨some 1, .mv (.tmp 67), none⟩])))))))) (.ops [⟨some 68, .int .add (.tmp 23) (.const (.int .i64 1)), none⟩, ⟨some 23, .mv (.tmp 68), none⟩]))))
def b_vni_Rules_2 : ACode := (.seq (.ops [⟨some 70, .int .lss (.tmp 69) (.const (.int .i64 128)), none⟩]) (.seq (.cond (.tmp 70) .skip (.exit 4)) (.seq (.block 5 (.seq (.ops [⟨some 71, .mv (.tmp 69), none⟩, ⟨some 12, .mv (.tmp 71), none⟩]) (.seq (.ops [⟨some 72, .mv (.tmp 5), none⟩, ⟨some 73, .mv (.tmp 12), none⟩, ⟨some 74, .mop (.get (.tmp 72) (.tmp 73) (.bool false) false), none⟩, ⟨some 75, .not (.tmp 74), none⟩]) (.cond (.tmp 75) (.ops [⟨some 76, .mv (.tmp 1), none⟩, ⟨some 77, .mv (.tmp 12), none⟩, ⟨some 78, .bslice 3 1 1 [(.int .i64 0)] [(0, 1, (.tmp 77))], none⟩, ⟨some 79, .mv (.tmp 12), none⟩, ⟨some 80, .bslice 3 1 1 [(.int .i64 0)] [(0, 1, (.tmp 79))], none⟩, ⟨some 81, .build [(.slice none 0 0), (.slice none 0 0)] [(0, 1, (.tmp 78)), (1, 1, (.tmp 80))], none⟩, ⟨some 82, .bslice 127 1 2 [(.slice none 0 0), (.slice none 0 0)] [(0, 2, (.tmp 81))], none⟩, ⟨some 83, .append (.tmp 76) (.tmp 82) 127 2 48, none⟩, ⟨some 1, .mv (.tmp 83), none⟩]) .skip)))) (.ops [⟨some 84, .int .add (.tmp 69) (.const (.int .i64 1)), none⟩, ⟨some 69, .mv (.tmp 84), none⟩]))))
def k_vni_Rules : ACode := (.seq (.ops [⟨some 0, .mv (.const (.slice none 0 0)), none⟩]) (.seq (.ops [⟨some 1, .mv (.const (.slice none 0 0)), none⟩]) (.seq (.ops [⟨some 14, .call (.func 84) [], none⟩, ⟨some 13, .mv (.tmp 14), none⟩, ⟨some 15, .ext (.tmp 13) 0, none⟩, ⟨some 16, .ext (.tmp 13) 1, none⟩, ⟨some 2, .mv (.tmp 15), none⟩, ⟨some 3, .mv (.tmp 16), none⟩]) (.seq (.ops [⟨some 17, .mv (.tmp 2), none⟩, ⟨some 18, .len false (.tmp 17), none⟩, ⟨some 19, .int .quo (.tmp 18) (.const (.int .i64 2)), none⟩, ⟨some 4, .mv (.tmp 19), none⟩]) (.seq (.ops [⟨some 20, .mop (.make 168), none⟩, ⟨some 5, .mv (.tmp 20), none⟩]) (.seq (.seq (.ops [⟨some 21, .mv (.tmp 2), none⟩, ⟨some 22, .len false (.tmp 21), none⟩, ⟨some 23, .mv (.const (.int .i64 0)), none⟩]) (.block 0 (.loop [1, 2, 3, 4, 5, 21, 22, 23] b_vni_Rules_1))) (.seq (.seq (.ops [⟨some 69, .mv (.const (.int .i64 0)), none⟩]) (.block 4 (.loop [1, 5, 69] b_vni_Rules_2))) (.seq (.ops [⟨some 85, .mv (.tmp 1), none⟩, ⟨some 0, .mv (.tmp 85), none⟩]) .ret))))))))
def F_vni_Rules : AFunc := ⟨0, 86, [.tmp 0], k_vni_Rules⟩
theorem ok_vni_Rules : FOK Tryz.prog 61 F_vni_Rules := FOK.of [[1, 2, 3, 4, 5, 21, 22, 23], [1, 2, 3, 4, 5, 6, 8, 9, 21, 22, 23, 39, 40, 41], [1, 5, 69]] Tryz.func61 (by kernel_rfl) (by kernel_rfl)
def b_tamil_Rules_0 : ACode := (.seq (.ops [⟨some 11, .int .lss (.tmp 10) (.const (.int .i64 128)), none⟩]) (.seq (.cond (.tmp 11) .skip (.exit 0)) (.seq (.block 1 (.seq (.ops [⟨some 12, .mv (.tmp 10), none⟩, ⟨some 2, .mv (.tmp 12), none⟩]) (.ops [⟨some 13, .mv (.tmp 1), none⟩, ⟨some 14, .mv (.tmp 2), none⟩, ⟨some 15, .bslice 3 1 1 [(.int .i64 0)] [(0, 1, (.tmp 14))], none⟩, ⟨some 16, .mv (.tmp 2), none⟩, ⟨some 17, .bslice 3 1 1 [(.int .i64 0)] [(0, 1, (.tmp 16))], none⟩, ⟨some 18, .call (.func 86) [(.tmp 15), (.tmp 17)], none⟩, ⟨some 19, .bslice 127 1 2 [(.slice none 0 0), (.slice none 0 0)] [(0, 2, (.tmp 18))], none⟩, ⟨some 20, .append (.tmp 13) (.tmp 19) 127 2 48, none⟩, ⟨some 1, .mv (.tmp 20), none⟩]))) (.ops [⟨some 21, .int .add (.tmp 10) (.const (.int .i64 1)), none⟩, ⟨some 10, .mv (.tmp 21), none⟩]))))
def b_tamil_Rules_1 : ACode := (.seq (.ops [⟨some 25, .int .lss (.tmp 24) (.tmp 23), none⟩]) (.seq (.cond (.tmp 25) .skip (.exit 2)) (.seq (.block 3 (.seq (.ops [⟨some 26, .mv (.tmp 24), none⟩, ⟨some 27, .iaddr (.tmp 22) (.tmp 24) 1, none⟩, ⟨some 28, .load (.tmp 27) none, none⟩, ⟨some 3, .mv (.tmp 26), none⟩, ⟨some 4, .mv (.tmp 28), none⟩]) (.ops [⟨some 29, .mv (.tmp 1), none⟩, ⟨some 30, .mv (.tmp 3), none⟩, ⟨some 31, .int .add (.const (.int .i64 145)) (.tmp 30), none⟩, ⟨some 32, .bslice 3 1 1 [(.int .i64 0)] [(0, 1, (.tmp 31))], none⟩, ⟨some 33, .mv (.tmp 4), none⟩, ⟨some 34, .bslice 3 1 1 [(.int .i64 0)] [(0, 1, (.tmp 33))], none⟩, ⟨some 35, .call (.func 86) [(.tmp 32), (.tmp 34)], none⟩, ⟨some 36, .bslice 127 1 2 [(.slice none 0 0), (.slice none 0 0)] [(0, 2, (.tmp 35))], none⟩, ⟨some 37, .append (.tmp 29) (.tmp 36) 127 2 48, none⟩, ⟨some 1, .mv (.tmp 37), none⟩]))) (.ops [⟨some 38, .int .add (.tmp 24) (.const (.int .i64 1)), none⟩, ⟨some 24, .mv (.tmp 38), none⟩]))))
def b_tamil_Rules_2 : ACode := (.seq (.ops [⟨some 52, .int .lss (.tmp 51) (.tmp 50), none⟩]) (.seq (.cond (.tmp 52) .skip (.exit 4)) (.seq (.block 5 (.seq (.ops [⟨some 53, .iaddr (.tmp 49) (.tmp 51) 2, none⟩, ⟨some 54, .load (.tmp 53) (some 2), none⟩, ⟨some 6, .alloc [(.int .i64 0), (.int .i64 0)] 162, none⟩, ⟨none, .store (.tmp 6) (.tmp 54) 2, none⟩]) (.ops [⟨some 55, .mv (.tmp 1), none⟩, ⟨some 56, .aaddr (.tmp 6) (.const (.int .i64 0)) 2 1, none⟩, ⟨some 57, .load (.tmp 56) none, none⟩, ⟨some 58, .bslice 3 1 1 [(.int .i64 0)] [(0, 1, (.tmp 57))], none⟩, ⟨some 59, .aaddr (.tmp 6) (.const (.int .i64 1)) 2 1, none⟩, ⟨some 60, .load (.tmp 59) none, none⟩, ⟨some 61, .bslice 3 1 1 [(.int .i64 0)] [(0, 1, (.tmp 60))], none⟩, ⟨some 62, .call (.func 86) [(.tmp 58), (.tmp 61)], none⟩, ⟨some 63, .bslice 127 1 2 [(.slice none 0 0), (.slice none 0 0)] [(0, 2, (.tmp 62))], none⟩, ⟨some 64, .append (.tmp 55) (.tmp 63) 127 2 48, none⟩, ⟨some 1, .mv (.tmp 64), none⟩]))) (.ops [⟨some 65, .int .add (.tmp 51) (.const (.int .i64 1)), none⟩, ⟨some 51, .mv (.tmp 65), none⟩]))))
def b_tamil_Rules_3 : ACode := (.seq (.ops [⟨some 69, .int .lss (.tmp 68) (.tmp 67), none⟩]) (.seq (.cond (.tmp 69) .skip (.exit 6)) (.seq (.block 7 (.seq (.ops [⟨some 70, .mv (.tmp 68), none⟩, ⟨some 71, .iaddr (.tmp 66) (.tmp 68) 1, none⟩, ⟨some 72, .load (.tmp 71) none, none⟩, ⟨some 7, .mv (.tmp 70), none⟩, ⟨some 8, .mv (.tmp 72), none⟩]) (.seq (.ops [⟨some 73, .mv (.tmp 7), none⟩, ⟨some 74, .int .add (.const (.int .i64 176)) (.tmp 73), none⟩, ⟨some 9, .mv (.tmp 74), none⟩]) (.ops [⟨some 75, .mv (.tmp 1), none⟩, ⟨some 76, .mv (.tmp 9), none⟩, ⟨some 77, .bslice 3 1 1 [(.int .i64 0)] [(0, 1, (.tmp 76))], none⟩, ⟨some 78, .mv (.tmp 8), none⟩, ⟨some 79, .bslice 3 1 1 [(.int .i64 0)] [(0, 1, (.tmp 78))], none⟩, ⟨some 80, .call (.func 86) [(.tmp 77), (.tmp 79)], none⟩, ⟨some 81, .mv (.tmp 7), none⟩, ⟨some 82, .int .add (.const (.int .i64 208)) (.tmp 81), none⟩, ⟨some 83, .bslice 3 1 1 [(.int .i64 0)] [(0, 1, (.tmp 82))], none⟩, ⟨some 84, .mv (.tmp 8), none⟩, ⟨some 85, .bslice 3 2 1 [(.int .i64 0)] [(0, 1, (.tmp 84)), (1, 1, (.const (.int .i64 3021)))], none⟩, ⟨some 86, .call (.func 86) [(.tmp 83), (.tmp 85)], none⟩, ⟨some 87, .mv (.tmp 9), none⟩, ⟨some 88, .bslice 3 2 1 [(.int .i64 0)] [(0, 1, (.const (.int .i64 166))), (1, 1, (.tmp 87))], none⟩, ⟨some 89, .mv (.tmp 8), none⟩, ⟨some 90, .bslice 3 2 1 [(.int .i64 0)] [(0, 1, (.tmp 89)), (1, 1, (.const (.int .i64 3014)))], none⟩, ⟨some 91, .call (.func 86) [(.tmp 88), (.tmp 90)], none⟩, ⟨some 92, .mv (.tmp 9), none⟩, ⟨some 93, .bslice 3 2 1 [(.int .i64 0)] [(0, 1, (.const (.int .i64 167))), (1, 1, (.tmp 92))], none⟩, ⟨some 94, .mv (.tmp 8), none⟩, ⟨some 95, .bslice 3 2 1 [(.int .i64 0)] [(0, 1, (.tmp 94)), (1, 1, (.const (.int .i64 3015)))], none⟩, ⟨some 96, .call (.func 86) [(.tmp 93), (.tmp 95)], none⟩, ⟨some 97, .mv (.tmp 9), none⟩, ⟨some 98, .bslice 3 2 1 [(.int .i64 0)] [(0, 1, (.const (.int .i64 168))), (1, 1, (.tmp 97))], none⟩, ⟨some 99, .mv (.tmp 8), none⟩, ⟨some 100, .bslice 3 2 1 [(.int .i64 0)] [(0, 1, (.tmp 99)), (1, 1, (.const (.int .i64 3016)))], none⟩, ⟨some 101, .call (.func 86) [(.tmp 98), (.tmp 100)], none⟩, ⟨some 102, .mv (.tmp 9), none⟩, ⟨some 103, .bslice 3 3 1 [(.int .i64 0)] [(0, 1, (.const (.int .i64 166))), (1, 1, (.tmp 102)), (2, 1, (.const (.int .i64 170)))], none⟩, ⟨some 104, .mv (.tmp 8), none⟩, ⟨some 105, .bslice 3 2 1 [(.int .i64 0)] [(0, 1, (.tmp 104)), (1, 1, (.const (.int .i64 3018)))], none⟩, ⟨some 106, .call (.func 86) [(.tmp 103), (.tmp 105)], none⟩, ⟨some 107, .mv (.tmp 9), none⟩, ⟨some 108, .bslice 3 3 1 [(.int .i64 0)] [(0, 1, (.const (.int .i64 167))), (1, 1, (.tmp 107)), (2, 1, (.const (.int .i64 170)))], none⟩, ⟨some 109, .mv (.tmp 8), none⟩, ⟨some 110, .bslice 3 2 1 [(.int .i64 0)] [(0, 1, (.tmp 109)), (1, 1, (.const (.int .i64 3019)))], none⟩, ⟨some 111, .call (.func 86) [(.tmp 108), (.tmp 110)], none⟩, ⟨some 112, .mv (.tmp 9), none⟩, ⟨some 113, .bslice 3 3 1 [(.int .i64 0)] [(0, 1, (.const (.int .i64 166))), (1, 1, (.tmp 112)), (2, 1, (.const (.int .i64 175)))], none⟩, ⟨some 114, .mv (.tmp 8), none⟩, ⟨some 115, .bslice 3 2 1 [(.int .i64 0)] [(0, 1, (.tmp 114)), (1, 1, (.const (.int .i64 3020)))], none⟩, ⟨some 116, .call (.func 86) [(.tmp 113), (.tmp 115)], none⟩, ⟨some 117, .bslice 127 8 2 [(.slice none 0 0), (.slice none 0 0)] [(0, 2, (.tmp 80)), (2, 2, (.tmp 86)), (4, 2, (.tmp 91)), (6, 2, (.tmp 96)), (8, 2, (.tmp 101)), (10, 2, (.tmp 106)), (12, 2, (.tmp 111)), (14, 2, (.tmp 116))], none⟩, ⟨some 118, .append (.tmp 75) (.tmp 117) 127 2 48, none⟩, ⟨some 1, .mv (.tmp 118), none⟩])))) (.ops [⟨some 119, .int .add (.tmp 68) (.const (.int .i64 1)), none⟩, ⟨some 68, .mv (.tmp 119), none⟩]))))
def k_tamil_Rules : ACode := (.seq (.ops [⟨some 0, .mv (.const (.slice none 0 0)), none⟩]) (.seq (.ops [⟨some 1, .mv (.const (.slice none 0 0)), none⟩]) (.seq (.seq (.ops [⟨some 10, .mv (.const (.int .i64 0)), none⟩]) (.block 0 (.loop [1, 10] b_tamil_Rules_0))) (.seq (.seq (.ops [⟨some 22, .call (.func 87) [], none⟩, ⟨some 23, .len false (.tmp 22), none⟩, ⟨some 24, .mv (.const (.int .i64 0)), none⟩]) (.block 2 (.loop [1, 22, 23, 24] b_tamil_Rules_1))) (.seq (.seq (.ops [⟨some 39, .build [(.int .i64 0), (.int .i64 0)] [(0, 1, (.const (.int .i64 166))), (1, 1, (.const (.int .i64 3014)))], none⟩, ⟨some 40, .build [(.int .i64 0), (.int .i64 0)] [(0, 1, (.const (.int .i64 167))), (1, 1, (.const (.int .i64 3015)))], none⟩, ⟨some 41, .build [(.int .i64 0), (.int .i64 0)] [(0, 1, (.const (.int .i64 168))), (1, 1, (.const (.int .i64 3016)))], none⟩, ⟨some 42, .build [(.int .i64 0), (.int .i64 0)] [(0, 1, (.const (.int .i64 169))), (1, 1, (.const (.int .i64 3021)))], none⟩, ⟨some 43, .build [(.int .i64 0), (.int .i64 0)] [(0, 1, (.const (.int .i64 170))), (1, 1, (.const (.int .i64 3006)))], none⟩, ⟨some 44, .build [(.int .i64 0), (.int .i64 0)] [(0, 1, (.const (.int .i64 171))), (1, 1, (.const (.int .i64 3007)))], none⟩, ⟨some 45, .build [(.int .i64 0), (.int .i64 0)] [(0, 1, (.const (.int .i64 172))), (1, 1, (.const (.int .i64 3008)))], none⟩, ⟨some 46, .build [(.int .i64 0), (.int .i64 0)] [(0, 1, (.const (.int .i64 173))), (1, 1, (.const (.int .i64 3009)))], none⟩, ⟨some 47, .build [(.int .i64 0), (.int .i64 0)] [(0, 1, (.const (.int .i64 174))), (1, 1, (.const (.int .i64 3010)))], none⟩, ⟨some 48, .build [(.int .i64 0), (.int .i64 0)] [(0, 1, (.const (.int .i64 175))), (1, 1, (.const (.int .i64 3031)))], none⟩, ⟨some 49, .bslice 162 10 2 [(.int .i64 0), (.int .i64 0)] [(0, 2, (.tmp 39)), (2, 2, (.tmp 40)), (4, 2, (.tmp 41)), (6, 2, (.tmp 42)), (8, 2, (.tmp 43)), (10, 2, (.tmp 44)), (12, 2, (.tmp 45)), (14, 2, (.tmp 46)), (16, 2, (.tmp 47)), (18, 2, (.tmp 48))], none⟩, ⟨some 50, .len false (.tmp 49), none⟩, ⟨some 51, .mv (.const (.int .i64 0)), none⟩]) (.block 4 (.loop [1, 49, 50, 51] b_tamil_Rules_2))) (.seq (.seq (.ops [⟨some 66, .call (.func 88) [], none⟩, ⟨some 67, .len false (.tmp 66), none⟩, ⟨some 68, .mv (.const (.int .i64 0)), none⟩]) (.block 6 (.loop [1, 66, 67, 68] b_tamil_Rules_3))) (.seq (.ops [⟨some 120, .mv (.tmp 1), none⟩, ⟨some 0, .mv (.tmp 120), none⟩]) .ret)))))))
def F_tamil_Rules : AFunc := ⟨0, 121, [.tmp 0], k_tamil_Rules⟩
theorem ok_tamil_Rules : FOK Tryz.prog 62 F_tamil_Rules := FOK.of [[1, 10], [1, 22, 23, 24], [1, 49, 50, 51], [1, 66, 67, 68]] Tryz.func62 (by kernel_rfl) (by kernel_rfl)
def k_thai_Decode : ACode := (.seq (.ops [⟨some 2, .mv (.const (.int .i64 0)), none⟩, ⟨some 3, .mv (.const (.bool false)), none⟩]) (.seq (.block 0 (.seq (.ops [⟨some 5, .mv (.tmp 0), none⟩, ⟨some 6, .int .lss (.tmp 5) (.const (.int .u8 128)), none⟩, ⟨some 4, .mv (.tmp 6), none⟩]) (.cond (.tmp 4) (.seq (.ops [⟨some 7, .mv (.tmp 0), none⟩, ⟨some 8, .conv .i64 (.tmp 7), none⟩, ⟨some 2, .mv (.tmp 8), none⟩, ⟨some 3, .mv (.const (.bool true)), none⟩]) .ret) (.seq (.seq (.ops [⟨some 10, .mv (.tmp 0), none⟩, ⟨some 11, .int .geq (.tmp 10) (.const (.int .u8 161)), none⟩, ⟨some 12, .mv (.tmp 11), none⟩, ⟨some 13, .mv (.tmp 0), some (12, true)⟩, ⟨some 14, .int .leq (.tmp 13) (.const (.int .u8 218)), some (12, true)⟩, ⟨some 15, .pick (.tmp 12) (.tmp 14) (.const (.bool false)), none⟩, ⟨some 9, .mv (.tmp 15), none⟩]) (.cond (.tmp 9) .skip (.ops [⟨some 16, .mv (.tmp 0), none⟩, ⟨some 17, .int .geq (.tmp 16) (.const (.int .u8 223)), none⟩, ⟨some 18, .mv (.tmp 17), none⟩, ⟨some 19, .mv (.tmp 0), some (18, true)⟩, ⟨some 20, .int .leq (.tmp 19) (.const (.int .u8 251)), some (18, true)⟩, ⟨some 21, .pick (.tmp 18) (.tmp 20) (.const (.bool false)), none⟩, ⟨some 9, .mv (.tmp 21), none⟩]))) (.cond (.tmp 9) (.seq (.ops [⟨some 22, .mv (.tmp 0), none⟩, ⟨some 23, .conv .i64 (.tmp 22), none⟩, ⟨some 24, .int .add (.const (.int .i64 3584)) (.tmp 23), none⟩, ⟨some 25, .int .sub (.tmp 24) (.const (.int .i64 160)), none⟩, ⟨some 2, .mv (.tmp 25), none⟩, ⟨some 3, .mv (.const (.bool true)), none⟩]) .ret) .skip))))) (.seq (.ops [⟨some 2, .mv (.const (.int .i64 0)), none⟩, ⟨some 3, .mv (.const (.bool false)), none⟩]) .ret)))
def F_thai_Decode : AFunc := ⟨1, 26, [.tmp 2, .tmp 3], k_thai_Decode⟩
theorem ok_thai_Decode : FOK Tryz.prog 63 F_thai_Decode := FOK.of [] Tryz.func63 (by kernel_rfl) (by kernel_rfl)
def b_trie_Of_0 : ACode := (.seq (.ops [⟨some 50, .int .lss (.tmp 49) (.tmp 48), none⟩]) (.seq (.cond (.tmp 50) .skip (.exit 2)) (.seq (.block 3 (.seq (.ops [⟨some 51, .iaddr (.tmp 47) (.tmp 49) 1, none⟩, ⟨some 52, .load (.tmp 51) none, none⟩, ⟨some 11, .mv (.tmp 52), none⟩]) (.seq (.ops [⟨some 54, .mv (.tmp 6), none⟩, ⟨some 55, .mv (.tmp 9), none⟩, ⟨some 56, .mv (.tmp 11), none⟩, ⟨some 57, .call (.func 90) [(.tmp 54), (.tmp 55), (.tmp 56)], none⟩, ⟨some 53, .mv (.tmp 57), none⟩, ⟨some 58, .ext (.tmp 53) 0, none⟩, ⟨some 59, .ext (.tmp 53) 1, none⟩, ⟨some 12, .mv (.tmp 58), none⟩, ⟨some 13, .mv (.tmp 59), none⟩]) (.seq (.seq (.ops [⟨some 60, .mv (.tmp 13), none⟩, ⟨some 61, .not (.tmp 60), none⟩]) (.cond (.tmp 61) (.seq (.ops [⟨some 62, .mv (.tmp 6), none⟩, ⟨some 63, .nilChk (.tmp 62), none⟩, ⟨some 64, .faddr (.tmp 63) 0, none⟩, ⟨some 65, .load (.tmp 64) none, none⟩, ⟨some 66, .len false (.tmp 65), none⟩, ⟨some 12, .mv (.tmp 66), none⟩]) (.seq (.draw [⟨some 67, .mv (.tmp 6), none⟩, ⟨some 68, .mv (.tmp 6), none⟩, ⟨some 69, .nilChk (.tmp 68), none⟩, ⟨some 70, .faddr (.tmp 69) 0, none⟩, ⟨some 71, .load (.tmp 70) none, none⟩, ⟨some 72, .mv (.tmp 11), none⟩, ⟨some 73, .mv (.tmp 6), none⟩, ⟨some 74, .nilChk (.tmp 73), none⟩, ⟨some 75, .faddr (.tmp 74) 0, none⟩, ⟨some 76, .load (.tmp 75) none, none⟩, ⟨some 77, .mv (.tmp 9), none⟩, ⟨some 78, .iaddr (.tmp 76) (.tmp 77) 4, none⟩, ⟨some 79, .faddr (.tmp 78) 1, none⟩, ⟨some 80, .load (.tmp 79) none, none⟩, ⟨some 81, .build [(.int .i64 0), (.int .i64 0), (.int .i64 0), (.int .i64 0)] [(0, 1, (.tmp 72)), (2, 1, (.tmp 80)), (3, 1, (.const (.int .i64 (-1))))], none⟩, ⟨some 82, .bslice 174 1 4 [(.int .i64 0), (.int .i64 0), (.int .i64 0), (.int .i64 0)] [(0, 4, (.tmp 81))], none⟩, ⟨some 83, .append (.tmp 71) (.tmp 82) 174 4 32, none⟩, ⟨some 84, .nilChk (.tmp 67), none⟩, ⟨some 85, .faddr (.tmp 84) 0, none⟩, ⟨none, .store (.tmp 85) (.tmp 83) 1, none⟩]) (.ops [⟨some 86, .mv (.tmp 6), none⟩, ⟨some 87, .nilChk (.tmp 86), none⟩, ⟨some 88, .faddr (.tmp 87) 0, none⟩, ⟨some 89, .load (.tmp 88) none, none⟩, ⟨some 90, .mv (.tmp 9), none⟩, ⟨some 91, .mv (.tmp 12), none⟩, ⟨some 92, .iaddr (.tmp 89) (.tmp 90) 4, none⟩, ⟨some 93, .faddr (.tmp 92) 1, none⟩, ⟨none, .store (.tmp 93) (.tmp 91) 1, none⟩]))) .skip)) (.ops [⟨some 94, .mv (.tmp 12), none⟩, ⟨some 9, .mv (.tmp 94), none⟩]))))) (.ops [⟨some 95, .int .add (.tmp 49) (.const (.int .i64 1)), none⟩, ⟨some 49, .mv (.tmp 95), none⟩]))))
def b_trie_Of_1 : ACode := (.seq (.ops [⟨some 29, .int .lss (.tmp 28) (.tmp 27), none⟩]) (.seq (.cond (.tmp 29) .skip (.exit 0)) (.seq (.block 1 (.seq (.ops [⟨some 30, .mv (.tmp 28), none⟩, ⟨some 31, .iaddr (.tmp 26) (.tmp 28) 2, none⟩, ⟨some 32, .load (.tmp 31) (some 2), none⟩, ⟨some 8, .alloc [(.slice none 0 0), (.slice none 0 0)] 127, none⟩, ⟨some 7, .mv (.tmp 30), none⟩, ⟨none, .store (.tmp 8) (.tmp 32) 2, none⟩]) (.seq (.ops [⟨some 9, .mv (.const (.int .i64 0)), none⟩]) (.seq (.draw [⟨some 33, .mv (.tmp 6), none⟩, ⟨some 34, .mv (.tmp 6), none⟩, ⟨some 35, .nilChk (.tmp 34), none⟩, ⟨some 36, .faddr (.tmp 35) 1, none⟩, ⟨some 37, .load (.tmp 36) none, none⟩, ⟨some 38, .faddr (.tmp 8) 1, none⟩, ⟨some 39, .load (.tmp 38) none, none⟩, ⟨some 40, .append (.const (.slice none 0 0)) (.tmp 39) 3 1 8, none⟩, ⟨some 41, .build [(.slice none 0 0), (.slice none 0 0)] [(1, 1, (.tmp 40))], none⟩, ⟨some 42, .bslice 127 1 2 [(.slice none 0 0), (.slice none 0 0)] [(0, 2, (.tmp 41))], none⟩, ⟨some 43, .append (.tmp 37) (.tmp 42) 127 2 48, none⟩, ⟨some 44, .nilChk (.tmp 33), none⟩, ⟨some 45, .faddr (.tmp 44) 1, none⟩, ⟨none, .store (.tmp 45) (.tmp 43) 1, none⟩]) (.seq (.seq (.ops [⟨some 46, .faddr (.tmp 8) 0, none⟩, ⟨some 47, .load (.tmp 46) none, none⟩, ⟨some 48, .len false (.tmp 47), none⟩, ⟨some 49, .mv (.const (.int .i64 0)), none⟩]) (.block 2 (.loop [6, 7, 9, 26, 27, 28, 47, 48, 49] b_trie_Of_0))) (.ops [⟨some 96, .mv (.tmp 6), none⟩, ⟨some 97, .nilChk (.tmp 96), none⟩, ⟨some 98, .faddr (.tmp 97) 0, none⟩, ⟨some 99, .load (.tmp 98) none, none⟩, ⟨some 100, .mv (.tmp 9), none⟩, ⟨some 101, .mv (.tmp 7), none⟩, ⟨some 102, .iaddr (.tmp 99) (.tmp 100) 4, none⟩, ⟨some 103, .faddr (.tmp 102) 3, none⟩, ⟨none, .store (.tmp 103) (.tmp 101) 1, none⟩])))))) (.ops [⟨some 104, .int .add (.tmp 28) (.const (.int .i64 1)), none⟩, ⟨some 28, .mv (.tmp 104), none⟩]))))
def k_trie_Of : ACode := (.seq (.ops [⟨some 2, .mv (.const (.pointer none)), none⟩, ⟨some 3, .mv (.const (.int .i64 0)), none⟩]) (.seq (.seq (.ops [⟨some 15, .mv (.tmp 0), none⟩, ⟨some 16, .call (.func 89) [(.tmp 15)], none⟩, ⟨some 14, .mv (.tmp 16), none⟩, ⟨some 17, .ext (.tmp 14) 0, none⟩, ⟨some 18, .ext (.tmp 14) 1, none⟩, ⟨some 4, .mv (.tmp 17), none⟩, ⟨some 5, .mv (.tmp 18), none⟩]) (.seq (.ops [⟨some 19, .mv (.tmp 5), none⟩, ⟨some 20, .int .neq (.tmp 19) (.const (.int .i64 0)), none⟩]) (.cond (.tmp 20) (.seq (.ops [⟨some 21, .mv (.tmp 5), none⟩, ⟨some 2, .mv (.const (.pointer none)), none⟩, ⟨some 3, .mv (.tmp 21), none⟩]) .ret) .skip))) (.seq (.ops [⟨some 22, .build [(.int .i64 0), (.int .i64 0), (.int .i64 0), (.int .i64 0)] [(3, 1, (.const (.int .i64 (-1))))], none⟩, ⟨some 23, .bslice 174 1 4 [(.int .i64 0), (.int .i64 0), (.int .i64 0), (.int .i64 0)] [(0, 4, (.tmp 22))], none⟩, ⟨some 24, .build [(.slice none 0 0), (.slice none 0 0)] [(0, 1, (.tmp 23))], none⟩, ⟨some 25, .box (.tmp 24) 177, none⟩, ⟨some 6, .mv (.tmp 25), none⟩]) (.seq (.seq (.ops [⟨some 26, .mv (.tmp 0), none⟩, ⟨some 27, .len false (.tmp 26), none⟩, ⟨some 28, .mv (.const (.int .i64 0)), none⟩]) (.block 0 (.loop [6, 26, 27, 28] b_trie_Of_1))) (.seq (.ops [⟨some 105, .mv (.tmp 6), none⟩, ⟨some 2, .mv (.tmp 105), none⟩, ⟨some 3, .mv (.const (.int .i64 0)), none⟩]) .ret)))))
def F_trie_Of : AFunc := ⟨1, 106, [.tmp 2, .tmp 3], k_trie_Of⟩
theorem ok_trie_Of : FOK Tryz.prog 64 F_trie_Of := FOK.of [[6, 26, 27, 28], [0, 1, 2, 3, 4, 5, 6, 7, 8, 9, 10, 11, 12, 13], [6, 7, 9, 26, 27, 28, 47, 48, 49], [0, 1, 2, 3, 4, 5, 6, 7, 8, 9, 10, 11, 12, 13, 14, 15, 16, 17, 18, 19]] Tryz.func64 (by kernel_rfl) (by kernel_rfl)
def b_table_closed_0 : ACode := (.seq (.seq (.ops [⟨some 16, .mv (.tmp 5), none⟩, ⟨some 17, .int .gtr (.tmp 16) (.const (.int .i64 0)), none⟩]) (.cond (.tmp 17) .skip (.exit 2))) (.seq (.block 3 (.seq (.ops [⟨some 20, .mv (.tmp 0), none⟩, ⟨some 21, .faddr (.tmp 4) 0, none⟩, ⟨some 22, .load (.tmp 21) none, none⟩, ⟨some 23, .mv (.tmp 5), none⟩, ⟨some 24, .slice (.tmp 22) none (some (.tmp 23)) 1, none⟩, ⟨some 25, .call (.func 91) [(.tmp 20), (.tmp 24)], none⟩, ⟨some 26, .int .lss (.tmp 25) (.const (.int .i64 0)), none⟩, ⟨some 27, .mv (.tmp 26), none⟩, ⟨some 28, .mv (.tmp 5), some (27, true)⟩, ⟨some 29, .int .gtr (.tmp 28) (.const (.int .i64 1)), some (27, true)⟩, ⟨some 30, .mv (.tmp 29), some (27, true)⟩, ⟨some 31, .mv (.tmp 0), some (30, false)⟩, ⟨some 32, .faddr (.tmp 4) 0, some (30, false)⟩, ⟨some 33, .load (.tmp 32) none, some (30, false)⟩, ⟨some 34, .iaddr (.tmp 33) (.const (.int .i64 0)) 1, some (30, false)⟩, ⟨some 35, .load (.tmp 34) none, some (30, false)⟩, ⟨some 36, .call (.func 92) [(.tmp 31), (.tmp 35)], some (30, false)⟩, ⟨some 37, .pick (.tmp 30) (.const (.bool true)) (.tmp 36), some (27, true)⟩, ⟨some 38, .pick (.tmp 27) (.tmp 37) (.const (.bool false)), none⟩]) (.cond (.tmp 38) (.seq (.ops [⟨some 2, .mv (.const (.bool false)), none⟩]) .ret) .skip))) (.ops [⟨some 18, .mv (.tmp 5), none⟩, ⟨some 19, .int .sub (.tmp 18) (.const (.int .i64 1)), none⟩, ⟨some 5, .mv (.tmp 19), none⟩])))
def b_table_closed_1 : ACode := (.seq (.ops [⟨some 9, .int .lss (.tmp 8) (.tmp 7), none⟩]) (.seq (.cond (.tmp 9) .skip (.exit 0)) (.seq (.block 1 (.seq (.ops [⟨some 10, .iaddr (.tmp 6) (.tmp 8) 2, none⟩, ⟨some 11, .load (.tmp 10) (some 2), none⟩, ⟨some 4, .alloc [(.slice none 0 0), (.slice none 0 0)] 127, none⟩, ⟨none, .store (.tmp 4) (.tmp 11) 2, none⟩]) (.seq (.ops [⟨some 12, .faddr (.tmp 4) 0, none⟩, ⟨some 13, .load (.tmp 12) none, none⟩, ⟨some 14, .len false (.tmp 13), none⟩, ⟨some 15, .int .sub (.tmp 14) (.const (.int .i64 1)), none⟩, ⟨some 5, .mv (.tmp 15), none⟩]) (.block 2 (.loop [0, 4, 5, 6, 7, 8] b_table_closed_0))))) (.ops [⟨some 39, .int .add (.tmp 8) (.const (.int .i64 1)), none⟩, ⟨some 8, .mv (.tmp 39), none⟩]))))
def k_table_closed : ACode := (.seq (.ops [⟨some 2, .mv (.const (.bool false)), none⟩]) (.seq (.seq (.ops [⟨some 6, .mv (.tmp 0), none⟩, ⟨some 7, .len false (.tmp 6), none⟩, ⟨some 8, .mv (.const (.int .i64 0)), none⟩]) (.block 0 (.loop [0, 6, 7, 8] b_table_closed_1))) (.seq (.ops [⟨some 2, .mv (.const (.bool true)), none⟩]) .ret)))
def F_table_closed : AFunc := ⟨1, 40, [.tmp 2], k_table_closed⟩
theorem ok_table_closed : FOK Tryz.prog 65 F_table_closed := FOK.of [[0, 6, 7, 8], [0, 4, 5, 6, 7, 8]] Tryz.func65 (by kernel_rfl) (by kernel_rfl)
def b_rule_Turn_0 : ACode := (.seq (.ops [⟨some 9, .int .lss (.tmp 8) (.tmp 7), none⟩]) (.seq (.cond (.tmp 9) .skip (.exit 0)) (.seq (.block 1 (.seq (.ops [⟨some 10, .iaddr (.tmp 6) (.tmp 8) 2, none⟩, ⟨some 11, .load (.tmp 10) (some 2), none⟩, ⟨some 5, .alloc [(.slice none 0 0), (.slice none 0 0)] 127, none⟩, ⟨none, .store (.tmp 5) (.tmp 11) 2, none⟩]) (.seq (.ops [⟨some 12, .mv (.tmp 3), none⟩, ⟨some 13, .faddr (.tmp 5) 1, none⟩, ⟨some 14, .load (.tmp 13) none, none⟩, ⟨some 15, .call (.func 91) [(.tmp 12), (.tmp 14)], none⟩, ⟨some 16, .int .lss (.tmp 15) (.const (.int .i64 0)), none⟩]) (.cond (.tmp 16) (.draw [⟨some 17, .mv (.tmp 3), none⟩, ⟨some 18, .faddr (.tmp 5) 1, none⟩, ⟨some 19, .load (.tmp 18) none, none⟩, ⟨some 21, .faddr (.tmp 5) 0, none⟩, ⟨some 22, .load (.tmp 21) none, none⟩, ⟨some 20, .call (.func 93) [(.tmp 19)], none⟩, ⟨some 23, .call (.func 93) [(.tmp 22)], none⟩, ⟨some 24, .build [(.slice none 0 0), (.slice none 0 0)] [(0, 1, (.tmp 20)), (1, 1, (.tmp 23))], none⟩, ⟨some 25, .bslice 127 1 2 [(.slice none 0 0), (.slice none 0 0)] [(0, 2, (.tmp 24))], none⟩, ⟨some 26, .append (.tmp 17) (.tmp 25) 127 2 48, none⟩, ⟨some 3, .mv (.tmp 26), none⟩]) .skip)))) (.ops [⟨some 27, .int .add (.tmp 8) (.const (.int .i64 1)), none⟩, ⟨some 8, .mv (.tmp 27), none⟩]))))
def k_rule_Turn : ACode := (.seq (.ops [⟨some 2, .mv (.const (.slice none 0 0)), none⟩]) (.seq (.ops [⟨some 3, .mv (.const (.slice none 0 0)), none⟩]) (.seq (.seq (.ops [⟨some 6, .mv (.tmp 0), none⟩, ⟨some 7, .len false (.tmp 6), none⟩, ⟨some 8, .mv (.const (.int .i64 0)), none⟩]) (.block 0 (.loop [3, 6, 7, 8] b_rule_Turn_0))) (.seq (.ops [⟨some 28, .mv (.tmp 3), none⟩, ⟨some 2, .mv (.tmp 28), none⟩]) .ret))))
def F_rule_Turn : AFunc := ⟨1, 29, [.tmp 2], k_rule_Turn⟩
theorem ok_rule_Turn : FOK Tryz.prog 66 F_rule_Turn := FOK.of [[3, 6, 7, 8], [0, 1, 2, 4, 5, 3, 6, 7, 8, 9, 10]] Tryz.func66 (by kernel_rfl) (by kernel_rfl)
def b_rule_Longest_0 : ACode := (.seq (.ops [⟨some 9, .int .lss (.tmp 8) (.tmp 7), none⟩]) (.seq (.cond (.tmp 9) .skip (.exit 0)) (.seq (.block 1 (.seq (.ops [⟨some 10, .iaddr (.tmp 6) (.tmp 8) 2, none⟩, ⟨some 11, .load (.tmp 10) (some 2), none⟩, ⟨some 5, .alloc [(.slice none 0 0), (.slice none 0 0)] 127, none⟩, ⟨none, .store (.tmp 5) (.tmp 11) 2, none⟩]) (.ops [⟨some 12, .mv (.tmp 3), none⟩, ⟨some 13, .faddr (.tmp 5) 0, none⟩, ⟨some 14, .load (.tmp 13) none, none⟩, ⟨some 15, .len false (.tmp 14), none⟩, ⟨some 16, .max2 (.tmp 12) (.tmp 15), none⟩, ⟨some 3, .mv (.tmp 16), none⟩]))) (.ops [⟨some 17, .int .add (.tmp 8) (.const (.int .i64 1)), none⟩, ⟨some 8, .mv (.tmp 17), none⟩]))))
def k_rule_Longest : ACode := (.seq (.ops [⟨some 2, .mv (.const (.int .i64 0)), none⟩]) (.seq (.ops [⟨some 3, .mv (.const (.int .i64 0)), none⟩]) (.seq (.seq (.ops [⟨some 6, .mv (.tmp 0), none⟩, ⟨some 7, .len false (.tmp 6), none⟩, ⟨some 8, .mv (.const (.int .i64 0)), none⟩]) (.block 0 (.loop [3, 6, 7, 8] b_rule_Longest_0))) (.seq (.ops [⟨some 18, .mv (.tmp 3), none⟩, ⟨some 2, .mv (.tmp 18), none⟩]) .ret))))
def F_rule_Longest : AFunc := ⟨1, 19, [.tmp 2], k_rule_Longest⟩
theorem ok_rule_Longest : FOK Tryz.prog 67 F_rule_Longest := FOK.of [[3, 6, 7, 8]] Tryz.func67 (by kernel_rfl) (by kernel_rfl)
def b_strings_ToLower_0 : ACode := (.seq (.seq (.ops [⟨some 11, .mv (.tmp 5), none⟩, ⟨some 12, .mv (.tmp 0), none⟩, ⟨some 13, .len true (.tmp 12), none⟩, ⟨some 14, .int .lss (.tmp 11) (.tmp 13), none⟩]) (.cond (.tmp 14) .skip (.exit 0))) (.seq (.block 1 (.seq (.ops [⟨some 17, .mv (.tmp 0), none⟩, ⟨some 18, .mv (.tmp 5), none⟩, ⟨some 19, .gen ⟨none, (.index 9 (.tmp 17) (.tmp 18)), 5, "", #[], none⟩, none⟩, ⟨some 6, .mv (.tmp 19), none⟩]) (.seq (.seq (.ops [⟨some 20, .mv (.tmp 6), none⟩, ⟨some 21, .int .geq (.tmp 20) (.const (.int .u8 128)), none⟩]) (.cond (.tmp 21) (.seq (.ops [⟨some 3, .mv (.const (.bool false)), none⟩]) (.exit 0)) .skip)) (.ops [⟨some 22, .mv (.tmp 4), none⟩, ⟨some 23, .mv (.tmp 22), none⟩, ⟨some 24, .mv (.tmp 6), some (23, false)⟩, ⟨some 25, .int .leq (.const (.int .u8 65)) (.tmp 24), some (23, false)⟩, ⟨some 26, .mv (.tmp 25), some (23, false)⟩, ⟨some 27, .mv (.tmp 6), some (26, true)⟩, ⟨some 28, .int .leq (.tmp 27) (.const (.int .u8 90)), some (26, true)⟩, ⟨some 29, .pick (.tmp 26) (.tmp 28) (.const (.bool false)), some (23, false)⟩, ⟨some 30, .pick (.tmp 23) (.const (.bool true)) (.tmp 29), none⟩, ⟨some 4, .mv (.tmp 30), none⟩])))) (.ops [⟨some 15, .mv (.tmp 5), none⟩, ⟨some 16, .int .add (.tmp 15) (.const (.int .i64 1)), none⟩, ⟨some 5, .mv (.tmp 16), none⟩])))
def b_strings_ToLower_1 : ACode := (.seq (.seq (.ops [⟨some 38, .mv (.tmp 9), none⟩, ⟨some 39, .mv (.tmp 0), none⟩, ⟨some 40, .len true (.tmp 39), none⟩, ⟨some 41, .int .lss (.tmp 38) (.tmp 40), none⟩]) (.cond (.tmp 41) .skip (.exit 2))) (.seq (.block 3 (.seq (.ops [⟨some 44, .mv (.tmp 0), none⟩, ⟨some 45, .mv (.tmp 9), none⟩, ⟨some 46, .gen ⟨none, (.index 9 (.tmp 44) (.tmp 45)), 5, "", #[], none⟩, none⟩, ⟨some 10, .mv (.tmp 46), none⟩]) (.seq (.ops [⟨some 47, .mv (.tmp 10), none⟩, ⟨some 48, .int .leq (.const (.int .u8 65)) (.tmp 47), none⟩, ⟨some 49, .mv (.tmp 48), none⟩, ⟨some 50, .mv (.tmp 10), some (49, true)⟩, ⟨some 51, .int .leq (.tmp 50) (.const (.int .u8 90)), some (49, true)⟩, ⟨some 52, .pick (.tmp 49) (.tmp 51) (.const (.bool false)), none⟩]) (.cond (.tmp 52) (.seq (.ops [⟨some 53, .mv (.tmp 10), none⟩, ⟨some 54, .int .add (.tmp 53) (.const (.int .u8 32)), none⟩, ⟨some 10, .mv (.tmp 54), none⟩]) (.seq (.seq (.ops [⟨some 55, .mv (.tmp 8), none⟩, ⟨some 56, .mv (.tmp 9), none⟩, ⟨some 57, .int .lss (.tmp 55) (.tmp 56), none⟩]) (.cond (.tmp 57) (.ops [⟨some 58, .mv (.tmp 0), none⟩, ⟨some 59, .mv (.tmp 8), none⟩, ⟨some 60, .mv (.tmp 9), none⟩, ⟨some 61, .gen ⟨none, (.slice 9 (.tmp 58) (some (.tmp 59)) (some (.tmp 60)) none), 9, "", #[], none⟩, none⟩, ⟨some 62, .call (.func 95) [(.tmp 7), (.tmp 61)], none⟩]) .skip)) (.seq (.ops [⟨some 63, .mv (.tmp 10), none⟩, ⟨some 64, .call (.func 96) [(.tmp 7), (.tmp 63)], none⟩]) (.ops [⟨some 65, .mv (.tmp 9), none⟩, ⟨some 66, .int .add (.tmp 65) (.const (.int .i64 1)), none⟩, ⟨some 8, .mv (.tmp 66), none⟩])))) .skip)))) (.ops [⟨some 42, .mv (.tmp 9), none⟩, ⟨some 43, .int .add (.tmp 42) (.const (.int .i64 1)), none⟩, ⟨some 9, .mv (.tmp 43), none⟩])))
def k_strings_ToLower : ACode := (.seq (.ops [⟨some 2, .mv (.const (.string ⟨#[]⟩)), none⟩]) (.seq (.ops [⟨some 3, .mv (.const (.bool true)), none⟩, ⟨some 4, .mv (.const (.bool false)), none⟩]) (.seq (.seq (.ops [⟨some 5, .mv (.const (.int .i64 0)), none⟩]) (.block 0 (.loop [0, 3, 4, 5] b_strings_ToLower_0))) (.seq (.seq (.ops [⟨some 31, .mv (.tmp 3), none⟩]) (.cond (.tmp 31) (.seq (.seq (.ops [⟨some 32, .mv (.tmp 4), none⟩, ⟨some 33, .not (.tmp 32), none⟩]) (.cond (.tmp 33) (.seq (.ops [⟨some 34, .mv (.tmp 0), none⟩, ⟨some 2, .mv (.tmp 34), none⟩]) .ret) .skip)) (.seq (.ops [⟨some 7, .alloc [(.pointer none), (.slice none 0 0)] 184, none⟩]) (.seq (.ops [⟨some 8, .mv (.const (.int .i64 0)), none⟩]) (.seq (.ops [⟨some 35, .mv (.tmp 0), none⟩, ⟨some 36, .len true (.tmp 35), none⟩, ⟨some 37, .call (.func 94) [(.tmp 7), (.tmp 36)], none⟩]) (.seq (.seq (.ops [⟨some 9, .mv (.const (.int .i64 0)), none⟩]) (.block 2 (.loop [0, 7, 8, 9] b_strings_ToLower_1))) (.seq (.seq (.ops [⟨some 67, .mv (.tmp 8), none⟩, ⟨some 68, .mv (.tmp 0), none⟩, ⟨some 69, .len true (.tmp 68), none⟩, ⟨some 70, .int .lss (.tmp 67) (.tmp 69), none⟩]) (.cond (.tmp 70) (.ops [⟨some 71, .mv (.tmp 0), none⟩, ⟨some 72, .mv (.tmp 8), none⟩, ⟨some 73, .gen ⟨none, (.slice 9 (.tmp 71) (some (.tmp 72)) none none), 9, "", #[], none⟩, none⟩, ⟨some 74, .call (.func 95) [(.tmp 7), (.tmp 73)], none⟩]) .skip)) (.seq (.ops [⟨some 75, .call (.func 97) [(.tmp 7)], none⟩, ⟨some 2, .mv (.tmp 75), none⟩]) .ret))))))) .skip)) (.seq (.ops [⟨some 76, .mv (.tmp 0), none⟩, ⟨some 77, .call (.func 98) [(.func 99), (.tmp 76)], none⟩, ⟨some 2, .mv (.tmp 77), none⟩]) .ret)))))
def F_strings_ToLower : AFunc := ⟨1, 78, [.tmp 2], k_strings_ToLower⟩
theorem ok_strings_ToLower : FOK Tryz.prog 68 F_strings_ToLower := FOK.of [[0, 3, 4, 5], [0, 7, 8, 9]] Tryz.func68 (by kernel_rfl) (by kernel_rfl)
def k_slices_Contains___string_string_ : ACode := (.seq (.ops [⟨some 4, .mv (.const (.bool false)), none⟩]) (.seq (.ops [⟨some 5, .mv (.tmp 0), none⟩, ⟨some 6, .mv (.tmp 1), none⟩, ⟨some 7, .call (.func 100) [(.tmp 5), (.tmp 6)], none⟩, ⟨some 8, .int .geq (.tmp 7) (.const (.int .i64 0)), none⟩, ⟨some 4, .mv (.tmp 8), none⟩]) .ret))
def F_slices_Contains___string_string_ : AFunc := ⟨2, 9, [.tmp 4], k_slices_Contains___string_string_⟩
theorem ok_slices_Contains___string_string_ : FOK Tryz.prog 69 F_slices_Contains___string_string_ := FOK.of [] Tryz.func69 (by kernel_rfl) (by kernel_rfl)
def k_iscii_all : ACode := (.seq (.ops [⟨some 0, .mv (.const (.pointer none)), none⟩]) (.seq (.ops [⟨some 4, .call (.func 101) [], none⟩, ⟨some 5, .call (.func 40) [(.tmp 4)], none⟩, ⟨some 3, .mv (.tmp 5), none⟩, ⟨some 6, .ext (.tmp 3) 0, none⟩, ⟨some 7, .ext (.tmp 3) 1, none⟩, ⟨some 1, .mv (.tmp 6), none⟩, ⟨some 2, .mv (.tmp 7), none⟩]) (.seq (.ops [⟨some 8, .mv (.tmp 1), none⟩, ⟨some 0, .mv (.tmp 8), none⟩]) .ret)))
def F_iscii_all : AFunc := ⟨0, 9, [.tmp 0], k_iscii_all⟩
theorem ok_iscii_all : FOK Tryz.prog 71 F_iscii_all := FOK.of [] Tryz.func71 (by kernel_rfl) (by kernel_rfl)
def k_match_Of : ACode := (.seq (.ops [⟨some 2, .mv (.const (.pointer none)), none⟩]) (.seq (.ops [⟨some 3, .mv (.tmp 0), none⟩, ⟨some 4, .build [(.pointer none), (.slice none 0 0), (.int .i64 0), (.int .i64 0)] [(0, 1, (.tmp 3))], none⟩, ⟨some 5, .box (.tmp 4) 197, none⟩, ⟨some 2, .mv (.tmp 5), none⟩]) .ret))
def F_match_Of : AFunc := ⟨1, 6, [.tmp 2], k_match_Of⟩
theorem ok_match_Of : FOK Tryz.prog 72 F_match_Of := FOK.of [] Tryz.func72 (by kernel_rfl) (by kernel_rfl)
def b_trie_Trie__Longest_0 : ACode := (.seq (.ops [⟨some 18, .int .lss (.tmp 17) (.tmp 16), none⟩]) (.seq (.cond (.tmp 18) .skip (.exit 0)) (.seq (.block 1 (.seq (.ops [⟨some 19, .mv (.tmp 17), none⟩, ⟨some 20, .iaddr (.tmp 15) (.tmp 17) 1, none⟩, ⟨some 21, .load (.tmp 20) none, none⟩, ⟨some 10, .mv (.tmp 19), none⟩, ⟨some 11, .mv (.tmp 21), none⟩]) (.seq (.ops [⟨some 23, .mv (.tmp 0), none⟩, ⟨some 24, .mv (.tmp 9), none⟩, ⟨some 25, .mv (.tmp 11), none⟩, ⟨some 26, .call (.func 90) [(.tmp 23), (.tmp 24), (.tmp 25)], none⟩, ⟨some 22, .mv (.tmp 26), none⟩, ⟨some 27, .ext (.tmp 22) 0, none⟩, ⟨some 28, .ext (.tmp 22) 1, none⟩, ⟨some 12, .mv (.tmp 27), none⟩, ⟨some 13, .mv (.tmp 28), none⟩]) (.seq (.seq (.ops [⟨some 29, .mv (.tmp 13), none⟩, ⟨some 30, .not (.tmp 29), none⟩]) (.cond (.tmp 30) (.seq (.ops [⟨some 31, .mv (.tmp 7), none⟩, ⟨some 32, .mv (.tmp 8), none⟩, ⟨some 4, .mv (.tmp 31), none⟩, ⟨some 5, .mv (.tmp 32), none⟩, ⟨some 6, .mv (.const (.bool false)), none⟩]) .ret) .skip)) (.seq (.ops [⟨some 33, .mv (.tmp 12), none⟩, ⟨some 9, .mv (.tmp 33), none⟩]) (.seq (.ops [⟨some 34, .mv (.tmp 0), none⟩, ⟨some 35, .mv (.tmp 9), none⟩, ⟨some 36, .call (.func 102) [(.tmp 34), (.tmp 35)], none⟩, ⟨some 14, .mv (.tmp 36), none⟩]) (.seq (.ops [⟨some 37, .mv (.tmp 14), none⟩, ⟨some 38, .int .geq (.tmp 37) (.const (.int .i64 0)), none⟩]) (.cond (.tmp 38) (.ops [⟨some 39, .mv (.tmp 14), none⟩, ⟨some 40, .mv (.tmp 10), none⟩, ⟨some 41, .int .add (.tmp 40) (.const (.int .i64 1)), none⟩, ⟨some 7, .mv (.tmp 39), none⟩, ⟨some 8, .mv (.tmp 41), none⟩]) .skip)))))))) (.ops [⟨some 42, .int .add (.tmp 17) (.const (.int .i64 1)), none⟩, ⟨some 17, .mv (.tmp 42), none⟩]))))
def k_trie_Trie__Longest : ACode := (.seq (.ops [⟨some 4, .mv (.const (.int .i64 0)), none⟩, ⟨some 5, .mv (.const (.int .i64 0)), none⟩, ⟨some 6, .mv (.const (.bool false)), none⟩]) (.seq (.ops [⟨some 7, .mv (.const (.int .i64 (-1))), none⟩, ⟨some 8, .mv (.const (.int .i64 0)), none⟩, ⟨some 9, .mv (.const (.int .i64 0)), none⟩]) (.seq (.seq (.ops [⟨some 15, .mv (.tmp 1), none⟩, ⟨some 16, .len false (.tmp 15), none⟩, ⟨some 17, .mv (.const (.int .i64 0)), none⟩]) (.block 0 (.loop [0, 7, 8, 9, 15, 16, 17] b_trie_Trie__Longest_0))) (.seq (.ops [⟨some 43, .mv (.tmp 7), none⟩, ⟨some 44, .mv (.tmp 8), none⟩, ⟨some 45, .mv (.tmp 0), none⟩, ⟨some 46, .mv (.tmp 9), none⟩, ⟨some 47, .call (.func 103) [(.tmp 45), (.tmp 46)], none⟩, ⟨some 48, .not (.tmp 47), none⟩, ⟨some 4, .mv (.tmp 43), none⟩, ⟨some 5, .mv (.tmp 44), none⟩, ⟨some 6, .mv (.tmp 48), none⟩]) .ret))))
def F_trie_Trie__Longest : AFunc := ⟨2, 49, [.tmp 4, .tmp 5, .tmp 6], k_trie_Trie__Longest⟩
theorem ok_trie_Trie__Longest : FOK Tryz.prog 73 F_trie_Trie__Longest := FOK.of [[0, 7, 8, 9, 15, 16, 17]] Tryz.func73 (by kernel_rfl) (by kernel_rfl)
def k_trie_Trie__Out : ACode := (.seq (.ops [⟨some 4, .mv (.const (.slice none 0 0)), none⟩]) (.seq (.seq (.ops [⟨some 5, .mv (.tmp 1), none⟩, ⟨some 6, .int .lss (.tmp 5) (.const (.int .i64 0)), none⟩, ⟨some 7, .mv (.tmp 6), none⟩, ⟨some 8, .mv (.tmp 1), some (7, false)⟩, ⟨some 9, .mv (.tmp 0), some (7, false)⟩, ⟨some 10, .nilChk (.tmp 9), some (7, false)⟩, ⟨some 11, .faddr (.tmp 10) 1, some (7, false)⟩, ⟨some 12, .load (.tmp 11) none, some (7, false)⟩, ⟨some 13, .len false (.tmp 12), some (7, false)⟩, ⟨some 14, .int .geq (.tmp 8) (.tmp 13), some (7, false)⟩, ⟨some 15, .pick (.tmp 7) (.const (.bool true)) (.tmp 14), none⟩]) (.cond (.tmp 15) (.seq (.ops [⟨some 4, .mv (.const (.slice none 0 0)), none⟩]) .ret) .skip)) (.seq (.ops [⟨some 16, .mv (.tmp 0), none⟩, ⟨some 17, .nilChk (.tmp 16), none⟩, ⟨some 18, .faddr (.tmp 17) 1, none⟩, ⟨some 19, .load (.tmp 18) none, none⟩, ⟨some 20, .mv (.tmp 1), none⟩, ⟨some 21, .iaddr (.tmp 19) (.tmp 20) 2, none⟩, ⟨some 22, .faddr (.tmp 21) 1, none⟩, ⟨some 23, .load (.tmp 22) none, none⟩, ⟨some 24, .append (.const (.slice none 0 0)) (.tmp 23) 3 1 8, none⟩, ⟨some 4, .mv (.tmp 24), none⟩]) .ret)))
def F_trie_Trie__Out : AFunc := ⟨2, 25, [.tmp 4], k_trie_Trie__Out⟩
theorem ok_trie_Trie__Out : FOK Tryz.prog 74 F_trie_Trie__Out := FOK.of [] Tryz.func74 (by kernel_rfl) (by kernel_rfl)
def k_table_Table__Write : ACode := (.seq (.ops [⟨some 2, .mv (.const (.pointer none)), none⟩]) (.seq (.ops [⟨some 3, .mv (.tmp 0), none⟩, ⟨some 4, .nilChk (.tmp 3), none⟩, ⟨some 5, .faddr (.tmp 4) 3, none⟩, ⟨some 6, .load (.tmp 5) none, none⟩, ⟨some 2, .mv (.tmp 6), none⟩]) .ret))
def F_table_Table__Write : AFunc := ⟨1, 7, [.tmp 2], k_table_Table__Write⟩
theorem ok_table_Table__Write : FOK Tryz.prog 75 F_table_Table__Write := FOK.of [] Tryz.func75 (by kernel_rfl) (by kernel_rfl)
end Go.Proofs.YtleiinhaljdcoaaGreatDoor
