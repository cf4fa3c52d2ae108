/- What is proved here: what the program's functions come to, as far as the claimed statement asks. Conditions: those that each theorem names, and no others. -/
import Derived.Test.YthnccfmmeaeibaaP1
import Derived.Test.YthnccfmmeaeibaaP2
import Derived.Test.YthnccfmmeaeibaaP3
/-! A trie is built. -/
set_option linter.unusedSimpArgs false
set_option linter.unusedVariables false
namespace Go.Proofs.Ythnccfmmeaeibaa
open Go Lon
/-- Blocks of units stay. -/
def KI (H H' : AHeap) : Prop := ∀ (j : Nat) (blk : ABlk), H.get j = some blk → blk.elem = 3 → H'.get j = some blk
theorem KI.trans {a b c : AHeap} (h : KI a b) (k : KI b c) : KI a c := fun j x h1 h2 => k j x (h j x h1 h2) h2
theorem Ext.ki {H H' : AHeap} (h : Ext H H') : KI H H' := fun j x h1 _ => h.get h1
theorem KI.of {H H' : AHeap} (h : ∀ (j : Nat) (blk : ABlk), H.get j = some blk → blk.elem = 3 → H'.get j = H.get j) : KI H H' := fun j x h1 h2 => (h j x h1 h2).trans h1
/-- The Outs of rules, laid behind one another. -/
def OutsAt (H : AHeap) (cs : List Value) (O : List (List Int)) : Prop := ∀ (k : Nat) (o : List Int), O[k]? = some o → tiny o ∧ ∃ q c ver anc, cs[k * 2]? = some (.slice none 0 0) ∧ cs[k * 2 + 1]? = some (.slice (some ⟨q, 0, none⟩) o.length c) ∧ H.get q = some ⟨ints o, 3, .tip, ver, anc⟩
theorem OutsAt.ki {H H' : AHeap} (hk : KI H H') {cs : List Value} {O : List (List Int)} (h : OutsAt H cs O) : OutsAt H' cs O := fun k o ho => by
  obtain ⟨h0, q, c, ver, anc, h1, h2, h3⟩ := h k o ho
  exact ⟨h0, q, c, ver, anc, h1, h2, hk _ _ h3 rfl⟩
theorem OutsAt.snoc {H : AHeap} {cs : List Value} {O : List (List Int)} {o : List Int} {q c ver : Nat} {anc : List Nat} (h : OutsAt H cs O) (hl : cs.length = O.length * 2) (h0 : tiny o) (hq : H.get q = some ⟨ints o, 3, .tip, ver, anc⟩) : OutsAt H (cs ++ [.slice none 0 0, .slice (some ⟨q, 0, none⟩) o.length c]) (O ++ [o]) := fun k x hx => by
  rcases Nat.lt_or_ge k O.length with hk | hk
  · rw [List.getElem?_append_left hk] at hx
    obtain ⟨h0, q, c, ver, anc, h1, h2, h3⟩ := h k x hx
    exact ⟨h0, q, c, ver, anc, by rw [List.getElem?_append_left (by omega)]; exact h1, by rw [List.getElem?_append_left (by omega)]; exact h2, h3⟩
  · have hk0 : k = O.length := by
      have := (List.getElem?_eq_some_iff.1 hx).1
      simp at this
      omega
    subst hk0
    simp at hx
    subst hx
    exact ⟨h0, q, c, ver, anc, by rw [List.getElem?_append_right (by omega), hl, Nat.sub_self]; rfl, by rw [List.getElem?_append_right (by omega), hl, Nat.add_sub_cancel_left]; rfl, hq⟩
/-- A trie that is being built: at block t, its nodes in block b, its Outs so far. -/
structure TS (B : Nat) (H : AHeap) (t b : Nat) (vr : Value) (N : List Nd) (O : List (List Int)) : Prop where
  tB : B ≤ t
  bB : B ≤ b
  ne : t ≠ b
  few : N.length < 1000000
  pos : 0 < N.length
  ht : ∃ ver, H.get t = some ⟨[.slice (some ⟨b, 0, none⟩) N.length (N.length + 1), vr], 73, .tip, ver, []⟩
  hn : ∃ ver A, H.get b = some ⟨N.flatMap nd, 70, .tip, ver, A⟩ ∧ ∀ a ∈ A, B ≤ a ∧ a ≠ t ∧ a < b ∧ NotAt vr a ∧ ∃ blk, H.get a = some blk ∧ blk.elem = 70
  hv : ∃ cs, Own H 51 2 vr O.length cs ∧ OutsAt H cs O
  vB : From B vr
  vt : NotAt vr t
  vn : NotAt vr b
theorem nds_len (N : List Nd) : (N.flatMap nd).length = N.length * 4 := by
  induction N with
  | nil => rfl
  | cons x N ih => rw [List.flatMap_cons, List.length_append, ih]; simp [nd]; omega
theorem TS.at {B t b : Nat} {O : List (List Int)} {H : AHeap} {vr : Value} {N : List Nd} (h : TS B H t b vr N O) : TrieAt H t N vr := by
  obtain ⟨ver, ht⟩ := h.ht
  obtain ⟨ver2, A, hn, _⟩ := h.hn
  exact ⟨_, _, _, _, ht, mem_tip, Sl.new hn mem_tip (nds_len N), by have := h.few; omega⟩
theorem TS.rules {B t b : Nat} {O : List (List Int)} {H : AHeap} {vr : Value} {N : List Nd} (h : TS B H t b vr N O) (hO : O.length < 1000000) : Rules H vr (O.map fun o => ([], o)) := by
  obtain ⟨cs, hv, ho⟩ := h.hv
  refine ⟨by rw [List.length_map]; omega, cs, by rw [List.length_map]; exact hv.sl, fun k r hr => ?_⟩
  rw [List.getElem?_map, Option.map_eq_some_iff] at hr
  obtain ⟨o, ho1, rfl⟩ := hr
  obtain ⟨h0, q, c, ver, anc, h1, h2, h3⟩ := ho k o ho1
  exact ⟨⟨_, _, h1, h2, Sl.nil H 1, Sl.new h3 mem_tip (by simp [ints])⟩, by unfold Lon.tiny; simp, h0⟩
theorem TS.ext {B t b : Nat} {O : List (List Int)} {H H' : AHeap} {vr : Value} {N : List Nd} (hx : Ext H H') (h : TS B H t b vr N O) : TS B H' t b vr N O := by
  obtain ⟨ver, ht⟩ := h.ht
  obtain ⟨ver2, A, hn, hA⟩ := h.hn
  obtain ⟨cs, hv, ho⟩ := h.hv
  refine ⟨h.tB, h.bB, h.ne, h.few, h.pos, ⟨ver, hx.get ht⟩, ⟨ver2, A, hx.get hn, fun a ha => ?_⟩, ⟨cs, hv.ext hx, ho.ki (Ext.ki hx)⟩, h.vB, h.vt, h.vn⟩
  obtain ⟨a1, a2, a3, a4, blk, a5, a6⟩ := hA a ha
  exact ⟨a1, a2, a3, a4, blk, hx.get a5, a6⟩
/-- A cell of a node. -/
def cellAt (x : Nd) (f : Nat) (z : Int) : Nd := match f with
  | 0 => ⟨z, x.kid, x.brother, x.rule⟩
  | 1 => ⟨x.unit, z, x.brother, x.rule⟩
  | 2 => ⟨x.unit, x.kid, z, x.rule⟩
  | _ => ⟨x.unit, x.kid, x.brother, z⟩
theorem nd_set {x : Nd} {f : Nat} {z : Int} (hf : f < 4) : nd (cellAt x f z) = (nd x).set f (.int .i64 z) := by
  match f, hf with
  | 0, _ => rfl
  | 1, _ => rfl
  | 2, _ => rfl
  | 3, _ => rfl
theorem nds_set {f : Nat} {z : Int} (hf : f < 4) : ∀ {N : List Nd} {k : Nat} {x : Nd}, N[k]? = some x → (N.set k (cellAt x f z)).flatMap nd = (N.flatMap nd).set (k * 4 + f) (.int .i64 z)
  | [], k, x, h => by simp at h
  | y :: N, 0, x, h => by
    simp at h
    subst h
    rw [List.set_cons_zero, List.flatMap_cons, List.flatMap_cons, nd_set hf, List.set_append, if_pos (by simp [nd]; omega)]
    simp
  | y :: N, k + 1, x, h => by
    rw [List.set_cons_succ, List.flatMap_cons, List.flatMap_cons, nds_set hf (by simpa using h), List.set_append, if_neg (by simp [nd]; omega)]
    congr 2
    simp [nd]
    omega
theorem set_split {α : Type} {l : List α} {i : Nat} {a : α} (h : i < l.length) : l.take i ++ [a] ++ l.drop (i + 1) = l.set i a := by
  rw [List.set_eq_take_append_cons_drop, if_pos h]
  simp
theorem kill_get {H : AHeap} {A : List Nat} {j : Nat} (h : j ∉ A) : (killAll H A).get j = H.get j := killAll_get_not A H j h
theorem notAt_kill {H : AHeap} {A : List Nat} {b : Nat} {blk : ABlk} {el : TypeId} {sz n : Nat} {v : Value} {cs : List Value} (hv : Own H el sz v n cs) (hA : ∀ a ∈ A, NotAt v a) (hb : NotAt v b) (hg : (killAll H A).get b = some blk) (c : ABlk) : Own ((killAll H A).upd b c) el sz v n cs := by
  obtain ⟨hl, h⟩ := hv
  refine ⟨hl, ?_⟩
  rcases h with h | ⟨q, ver, anc, rfl, h1, h2⟩
  · exact .inl h
  · have hq : q ∉ A := fun hm => hA q hm rfl
    have hqb : q ≠ b := hb
    exact .inr ⟨q, ver, anc, rfl, h1, by rw [AHeap.get_upd hg, if_neg hqb, kill_get hq]; exact h2⟩
/-- A node's cell is overwritten. -/
theorem TS.store {B t b k f : Nat} {O : List (List Int)} {H : AHeap} {vr : Value} {N : List Nd} {x : Nd} {z : Int} (h : TS B H t b vr N O) (hx : N[k]? = some x) (hf : f < 4) :
    ∃ H', vStore (.pointer (some ⟨b, k * 4 + f, none⟩)) (.int .i64 z) 1 H = some (.tuple ⟨[]⟩, H') ∧ TS B H' t b vr (N.set k (cellAt x f z)) O ∧ H'.n = H.n ∧ (∀ j, j < B → H'.get j = H.get j) ∧ KI H H' := by
  obtain ⟨ver, ht⟩ := h.ht
  obtain ⟨ver2, A, hn, hA⟩ := h.hn
  obtain ⟨cs, hv, ho⟩ := h.hv
  have hk := (List.getElem?_eq_some_iff.1 hx).1
  have hlen := nds_len N
  have hi : k * 4 + f < (N.flatMap nd).length := by omega
  have hbA : b ∉ A := fun hm => by have := (hA b hm).2.2.1; omega
  have htA : t ∉ A := fun hm => (hA t hm).2.1 rfl
  have hgb : (killAll H A).get b = some ⟨N.flatMap nd, 70, .tip, ver2, A⟩ := by rw [kill_get hbA]; exact hn
  have hcells : (N.flatMap nd).take (k * 4 + f) ++ (Value.int .i64 z).cells.toList ++ (N.flatMap nd).drop (k * 4 + f + 1) = (N.set k (cellAt x f z)).flatMap nd := by
    rw [nds_set hf hx]
    exact set_split hi
  have hki : KI H ((killAll H A).upd b ⟨(N.set k (cellAt x f z)).flatMap nd, 70, .tip, ver2 + 1, []⟩) := KI.of fun j blk h1 h2 => by
    have hjb : j ≠ b := fun e => by
      subst e
      rw [hn] at h1
      injection h1 with h1
      subst h1
      exact absurd (show (70 : TypeId) = 3 from h2) (by decide)
    have hjA : j ∉ A := fun hm => by
      obtain ⟨_, _, _, _, b2, a5, a6⟩ := hA j hm
      rw [a5] at h1
      injection h1 with h1
      subst h1
      rw [a6] at h2
      exact absurd (show (70 : TypeId) = 3 from h2) (by decide)
    rw [AHeap.get_upd hgb, if_neg hjb, kill_get hjA]
  refine ⟨(killAll H A).upd b ⟨(N.set k (cellAt x f z)).flatMap nd, 70, .tip, ver2 + 1, []⟩, ?_, ?_, by simp [killAll_n], ?_, hki⟩
  · have g := got_store (el := 70) (ver := ver2) (anc := A) (i := b) (o := k * 4 + f) (n := 1) (v := .int .i64 z) (H := H) (cells := N.flatMap nd) rfl rfl (by omega)
    rw [hcells] at g
    rw [v_store, hn]
    exact g
  · refine ⟨h.tB, h.bB, h.ne, by simpa using h.few, by simpa using h.pos, ⟨ver, ?_⟩, ⟨ver2 + 1, [], ?_, fun a ha => by cases ha⟩, ⟨cs, notAt_kill hv (fun a ha => (hA a ha).2.2.2.1) h.vn hgb _, ho.ki hki⟩, h.vB, h.vt, h.vn⟩
    · rw [AHeap.get_upd hgb, if_neg h.ne, kill_get htA, List.length_set]
      exact ht
    · rw [AHeap.get_upd hgb, if_pos rfl]
  · intro j hj
    rw [AHeap.get_upd hgb, if_neg (by have := h.bB; omega), kill_get (fun hm => by have := (hA j hm).1; omega)]
/-- A node is laid behind the others; the trie is told. -/
theorem TS.grow {B t b : Nat} {O : List (List Int)} {H : AHeap} {vr : Value} {N : List Nd} {y : Nd} (h : TS B H t b vr N O) (hB : B ≤ H.n) (hfew : N.length + 1 < 1000000) :
    ∃ v' H2, appendA (H.push ⟨nd y, 70, .tip, 0, []⟩) (.slice (some ⟨b, 0, none⟩) N.length (N.length + 1)) (.slice (some ⟨H.n, 0, none⟩) 1 2) 70 4 32 = some (v', H2) ∧ H2.get t = H.get t ∧ (∀ blk : ABlk, H.get b = some blk → H2.get b = some ⟨blk.cells, blk.elem, .ret, blk.ver, blk.anc⟩) ∧
      ∃ H3 b', vStore (.pointer (some ⟨t, 0, none⟩)) v' 1 H2 = some (.tuple ⟨[]⟩, H3) ∧ TS B H3 t b' vr (N ++ [y]) O ∧ H.n ≤ H3.n ∧ (∀ j, j < B → H3.get j = H.get j) ∧ KI H H3 := by
  obtain ⟨ver, ht⟩ := h.ht
  obtain ⟨ver2, A, hn, hA⟩ := h.hn
  obtain ⟨cs, hv, ho⟩ := h.hv
  have hx1 := Ext.push H ⟨nd y, 70, .tip, 0, []⟩
  have htl := AHeap.lt_of_get ht
  have hbl := AHeap.lt_of_get hn
  have hc1 : cellsOf (H.push ⟨nd y, 70, .tip, 0, []⟩) 4 (.slice (some ⟨b, 0, none⟩) N.length (N.length + 1)) = some (N.flatMap nd) := (Sl.new (hx1.get hn) mem_tip (nds_len N)).2
  have hc2 : cellsOf (H.push ⟨nd y, 70, .tip, 0, []⟩) 4 (.slice (some ⟨H.n, 0, none⟩) 1 2) = some (nd y) := (Sl.new (n := 1) (c := 2) (get_push_self (H := H) (b := ⟨nd y, 70, .tip, 0, []⟩)) mem_tip rfl).2
  have hone : (nd y).all one = true := rfl
  have hpos := h.pos
  have hg1 := hx1.get hn
  refine ⟨.slice (some ⟨H.n + 1, 0, none⟩) (N.length + 1) (N.length + 1 + 1), ((H.push ⟨nd y, 70, .tip, 0, []⟩).upd b ⟨N.flatMap nd, 70, .ret, ver2, A⟩).push ⟨N.flatMap nd ++ nd y, 70, .tip, 0, b :: A⟩, ?_, ?_, ?_, ?_⟩
  · unfold appendA
    simp only [hc1, hc2]
    rw [if_neg (by omega), if_pos ⟨by omega, hone⟩, if_neg (by omega), hg1]
    simp only
    rw [if_pos ⟨trivial, trivial⟩, if_pos ⟨hpos, by rw [nds_len]; omega⟩]
    simp
  · rw [get_push_lt (by simp; omega), AHeap.get_upd hg1, if_neg h.ne, get_push_lt htl]
  · intro blk hblk
    rw [hn] at hblk
    injection hblk with hblk
    subst hblk
    rw [get_push_lt (by simp; omega), AHeap.get_upd hg1, if_pos rfl]
  · have hg2 : (((H.push ⟨nd y, 70, .tip, 0, []⟩).upd b ⟨N.flatMap nd, 70, .ret, ver2, A⟩).push ⟨N.flatMap nd ++ nd y, 70, .tip, 0, b :: A⟩).get t = some ⟨[.slice (some ⟨b, 0, none⟩) N.length (N.length + 1), vr], 73, .tip, ver, []⟩ := by
      rw [get_push_lt (by simp; omega), AHeap.get_upd hg1, if_neg h.ne, get_push_lt htl]
      exact ht
    have hnew : (((H.push ⟨nd y, 70, .tip, 0, []⟩).upd b ⟨N.flatMap nd, 70, .ret, ver2, A⟩).push ⟨N.flatMap nd ++ nd y, 70, .tip, 0, b :: A⟩).get (H.n + 1) = some ⟨N.flatMap nd ++ nd y, 70, .tip, 0, b :: A⟩ := by
      have := get_push_self (H := (H.push ⟨nd y, 70, .tip, 0, []⟩).upd b ⟨N.flatMap nd, 70, .ret, ver2, A⟩) (b := ⟨N.flatMap nd ++ nd y, 70, .tip, 0, b :: A⟩)
      simpa using this
    have hget : ∀ j, j < H.n → j ≠ t → j ≠ b → ((((H.push ⟨nd y, 70, .tip, 0, []⟩).upd b ⟨N.flatMap nd, 70, .ret, ver2, A⟩).push ⟨N.flatMap nd ++ nd y, 70, .tip, 0, b :: A⟩).upd t ⟨[.slice (some ⟨H.n + 1, 0, none⟩) (N.length + 1) (N.length + 1 + 1), vr], 73, .tip, ver + 1, []⟩).get j = H.get j := fun j h1 h2 h3 => by
      rw [AHeap.get_upd hg2, if_neg h2, get_push_lt (by simp; omega), AHeap.get_upd hg1, if_neg h3, get_push_lt h1]
    have hgb : ((((H.push ⟨nd y, 70, .tip, 0, []⟩).upd b ⟨N.flatMap nd, 70, .ret, ver2, A⟩).push ⟨N.flatMap nd ++ nd y, 70, .tip, 0, b :: A⟩).upd t ⟨[.slice (some ⟨H.n + 1, 0, none⟩) (N.length + 1) (N.length + 1 + 1), vr], 73, .tip, ver + 1, []⟩).get b = some ⟨N.flatMap nd, 70, .ret, ver2, A⟩ := by
      rw [AHeap.get_upd hg2, if_neg (fun e => h.ne e.symm), get_push_lt (by simp; omega), AHeap.get_upd hg1, if_pos rfl]
    have hki : KI H ((((H.push ⟨nd y, 70, .tip, 0, []⟩).upd b ⟨N.flatMap nd, 70, .ret, ver2, A⟩).push ⟨N.flatMap nd ++ nd y, 70, .tip, 0, b :: A⟩).upd t ⟨[.slice (some ⟨H.n + 1, 0, none⟩) (N.length + 1) (N.length + 1 + 1), vr], 73, .tip, ver + 1, []⟩) := KI.of fun j blk h1 h2 => by
      have hjb : j ≠ b := fun e => by
        subst e
        rw [hn] at h1
        injection h1 with h1
        subst h1
        exact absurd (show (70 : TypeId) = 3 from h2) (by decide)
      have hjt : j ≠ t := fun e => by
        subst e
        rw [ht] at h1
        injection h1 with h1
        subst h1
        exact absurd (show (73 : TypeId) = 3 from h2) (by decide)
      exact hget j (AHeap.lt_of_get h1) hjt hjb
    refine ⟨(((H.push ⟨nd y, 70, .tip, 0, []⟩).upd b ⟨N.flatMap nd, 70, .ret, ver2, A⟩).push ⟨N.flatMap nd ++ nd y, 70, .tip, 0, b :: A⟩).upd t ⟨[.slice (some ⟨H.n + 1, 0, none⟩) (N.length + 1) (N.length + 1 + 1), vr], 73, .tip, ver + 1, []⟩, H.n + 1, by rw [v_store, hg2]; exact got_store (n := 1) rfl rfl (by simp), ?_, by simp; omega, ?_, hki⟩
    · have hcat : N.flatMap nd ++ nd y = (N ++ [y]).flatMap nd := by rw [List.flatMap_append]; simp
      refine ⟨h.tB, by omega, by omega, by simpa using hfew, by simp, ⟨ver + 1, ?_⟩, ⟨0, b :: A, ?_, ?_⟩, ⟨cs, ?_, ho.ki hki⟩, h.vB, h.vt, ?_⟩
      · rw [AHeap.get_upd hg2, if_pos rfl]
        simp
      · rw [AHeap.get_upd hg2, if_neg (by omega), hnew, hcat]
      · intro a ha
        rcases List.mem_cons.1 ha with rfl | ha
        · exact ⟨h.bB, fun e => h.ne e.symm, by omega, h.vn, _, hgb, rfl⟩
        · obtain ⟨a1, a2, a3, a4, blk, a5, a6⟩ := hA a ha
          exact ⟨a1, a2, by omega, a4, blk, by rw [hget a (by omega) a2 (by omega)]; exact a5, a6⟩
      · obtain ⟨hl, ho⟩ := hv
        refine ⟨hl, ?_⟩
        rcases ho with ho | ⟨q, qv, qa, rfl, q1, q2⟩
        · exact .inl ho
        · have hql := AHeap.lt_of_get q2
          have hqt : q ≠ t := h.vt
          have hqb : q ≠ b := h.vn
          refine .inr ⟨q, qv, qa, rfl, q1, ?_⟩
          rw [AHeap.get_upd hg2, if_neg hqt, get_push_lt (by simp; omega), AHeap.get_upd hg1, if_neg hqb, get_push_lt hql]
          exact q2
      · obtain ⟨hl, ho⟩ := hv
        rcases ho with ⟨rfl, _⟩ | ⟨q, qv, qa, rfl, q1, q2⟩
        · trivial
        · have hql := AHeap.lt_of_get q2
          show q ≠ H.n + 1
          omega
    · intro j hj
      have := h.tB
      have := h.bB
      rw [AHeap.get_upd hg2, if_neg (by omega), get_push_lt (by simp; omega), AHeap.get_upd hg1, if_neg (by omega), get_push_lt (by omega)]
/-- A rule is laid behind the others; the trie is told. -/
theorem TS.rule {B t b c qv q : Nat} {O : List (List Int)} {o : List Int} {qa : List Nat} {H : AHeap} {vr : Value} {N : List Nd} (h : TS B H t b vr N O) (hB : B ≤ H.n) (hfew : O.length + 1 < 1000000) (hq0 : H.get q = some ⟨ints o, 3, .tip, qv, qa⟩) (h0 : tiny o) :
    ∃ v' H2, appendA (H.push ⟨[.slice none 0 0, .slice (some ⟨q, 0, none⟩) o.length c], 51, .tip, 0, []⟩) vr (.slice (some ⟨H.n, 0, none⟩) 1 2) 51 2 48 = some (v', H2) ∧ H2.get t = H.get t ∧ (∀ j, j < H.n → NotAt vr j → H2.get j = H.get j) ∧
      ∃ H3, (∀ j, j ≠ t → H3.get j = H2.get j) ∧ vStore (.pointer (some ⟨t, 1, none⟩)) v' 1 H2 = some (.tuple ⟨[]⟩, H3) ∧ TS B H3 t b v' N (O ++ [o]) ∧ H.n ≤ H3.n ∧ (∀ j, j < B → H3.get j = H.get j) ∧ KI H H3 := by
  obtain ⟨ver, ht⟩ := h.ht
  obtain ⟨ver2, A, hn, hA⟩ := h.hn
  obtain ⟨cs, hv, hout⟩ := h.hv
  have hx1 := Ext.push H ⟨[.slice none 0 0, .slice (some ⟨q, 0, none⟩) o.length c], 51, .tip, 0, []⟩
  have htl := AHeap.lt_of_get ht
  have hbl := AHeap.lt_of_get hn
  obtain ⟨v', H2, m1, m2, m3, m4, m5, m6⟩ := Own.append2 (bytes := 48) (m := 1) (hv.ext hx1) (Sl.new (n := 1) (c := 2) (get_push_self (H := H) (b := ⟨[.slice none 0 0, .slice (some ⟨q, 0, none⟩) o.length c], 51, .tip, 0, []⟩)) mem_tip rfl) (by omega) rfl (by omega)
  have n1 : (H.push ⟨[.slice none 0 0, .slice (some ⟨q, 0, none⟩) o.length c], 51, .tip, 0, []⟩).n = H.n + 1 := by simp
  rw [n1] at m3 m5 m6
  have hg2 : H2.get t = some ⟨[.slice (some ⟨b, 0, none⟩) N.length (N.length + 1), vr], 73, .tip, ver, []⟩ := by
    rw [m6 t (by omega) h.vt, get_push_lt htl]; exact ht
  have hb2 : H2.get b = some ⟨N.flatMap nd, 70, .tip, ver2, A⟩ := by
    rw [m6 b (by omega) h.vn, get_push_lt hbl]; exact hn
  obtain ⟨⟨a', c', hsl⟩, _⟩ := m2.sl
  have hki : ∀ H3 : AHeap, (∀ j, j ≠ t → H3.get j = H2.get j) → KI H H3 := fun H3 h3 => KI.of fun j blk h1 h2 => by
    have hjl := AHeap.lt_of_get h1
    have hjt : j ≠ t := fun e => by
      subst e
      rw [ht] at h1
      injection h1 with h1
      subst h1
      exact absurd (show (73 : TypeId) = 3 from h2) (by decide)
    have hjv : NotAt vr j := by
      obtain ⟨_, ho⟩ := hv
      rcases ho with ⟨rfl, _⟩ | ⟨q', _, _, rfl, _, q2⟩
      · trivial
      · show q' ≠ j
        intro e
        subst e
        rw [q2] at h1
        injection h1 with h1
        subst h1
        exact absurd (show (51 : TypeId) = 3 from h2) (by decide)
    rw [h3 j hjt, m6 j (by omega) hjv, get_push_lt hjl]
  have hone : (v' : Value).cells.toList.all one = true := by rw [hsl]; rfl
  have hlen : (v' : Value).cells.toList.length = 1 := by rw [hsl]; rfl
  have hcl : (v' : Value).cells.toList = [v'] := by rw [hsl]; rfl
  refine ⟨v', H2, m1, by rw [hg2, ht], fun j hj hn => by rw [m6 j (by omega) hn, get_push_lt hj], H2.upd t ⟨[.slice (some ⟨b, 0, none⟩) N.length (N.length + 1), v'], 73, .tip, ver + 1, []⟩, fun j hj => by rw [AHeap.get_upd hg2, if_neg hj], ?_, ?_, by simp; omega, ?_, hki _ fun j hj => by rw [AHeap.get_upd hg2, if_neg hj]⟩
  · rw [v_store, hg2, got_store hlen hone (by simp), hcl]
    rfl
  · refine ⟨h.tB, h.bB, h.ne, h.few, h.pos, ⟨ver + 1, by rw [AHeap.get_upd hg2, if_pos rfl]⟩, ⟨ver2, A, by rw [AHeap.get_upd hg2, if_neg (fun e => h.ne e.symm)]; exact hb2, fun a ha => ?_⟩, ⟨cs ++ [.slice none 0 0, .slice (some ⟨q, 0, none⟩) o.length c], ?_, (hout.ki (hki _ fun j hj => by rw [AHeap.get_upd hg2, if_neg hj])).snoc hv.1 h0 (hki _ (fun j hj => by rw [AHeap.get_upd hg2, if_neg hj]) _ _ hq0 rfl)⟩, m3.mono (by omega), NotAt.of_from m3 (by omega), NotAt.of_from m3 (by omega)⟩
    · obtain ⟨a1, a2, a3, a4, blk, a5, a6⟩ := hA a ha
      exact ⟨a1, a2, a3, NotAt.of_from m3 (by omega), blk, by rw [AHeap.get_upd hg2, if_neg a2, m6 a (by omega) a4, get_push_lt (by omega)]; exact a5, a6⟩
    · obtain ⟨hl, ho⟩ := m2
      rw [List.length_append]
      refine ⟨hl, ?_⟩
      rcases ho with ho | ⟨q', qv', qa', rfl, q1, q2⟩
      · exact .inl ho
      · have hq : H.n + 1 ≤ q' := m3
        exact .inr ⟨q', qv', qa', rfl, q1, by rw [AHeap.get_upd hg2, if_neg (by omega)]; exact q2⟩
  · intro j hj
    have := h.tB
    rw [AHeap.get_upd hg2, if_neg (by omega), m6 j (by omega) (NotAt.of_from h.vB hj), get_push_lt (by omega)]
end Go.Proofs.Ythnccfmmeaeibaa

/-! A rule's units are laid into a trie. -/
set_option linter.unusedSimpArgs false
set_option linter.unusedVariables false
namespace Go.Proofs.Ythnccfmmeaeibaa
open Go Lon
/-- The paths, with those of some units behind a path. -/
def addIns : List (List Int) → List Int → List Int → List (List Int)
  | P, _, [] => P
  | P, p, u :: us => addIns (if p ++ [u] ∈ P then P else P ++ [p ++ [u]]) (p ++ [u]) us
/-- The rules that end at the nodes. -/
def RF (ρ : List Int → Int) (P : List (List Int)) (N : List Nd) : Prop := ∀ (j : Nat) (x : Nd) (p : List Int), N[j]? = some x → P[j]? = some p → x.rule = ρ p
theorem RF.snoc {ρ : List Int → Int} {P : List (List Int)} {N : List Nd} {k : Nat} {x : Nd} {q : List Int} {u c z : Int} (h : RF ρ P N) (hl : N.length = P.length) (hx : N[k]? = some x) (hq : ρ q = -1) : RF ρ (P ++ [q]) ((N ++ [Nd.mk u 0 c (-1)]).set k ⟨x.unit, z, x.brother, x.rule⟩) := by
  have hk := (List.getElem?_eq_some_iff.1 hx).1
  intro j y p hj hp
  rw [List.getElem?_set] at hj
  split at hj
  · rename_i e
    subst e
    split at hj
    · injection hj with hj
      subst hj
      rw [List.getElem?_append_left (by omega)] at hp
      exact h k x p hx hp
    · cases hj
  · rcases Nat.lt_or_ge j N.length with hlt | hge
    · rw [List.getElem?_append_left hlt] at hj
      rw [List.getElem?_append_left (by omega)] at hp
      exact h j y p hj hp
    · have hjn : j = N.length := by
        have := (List.getElem?_eq_some_iff.1 hj).1
        simp at this
        omega
      subst hjn
      rw [List.getElem?_append_right (Nat.le_refl _), Nat.sub_self] at hj
      rw [List.getElem?_append_right (by omega), hl, Nat.sub_self] at hp
      simp at hj hp
      subst hj hp
      exact hq.symm
theorem v_node {H : AHeap} {u c : Int} : vBuild [.int .i64 0, .int .i64 0, .int .i64 0, .int .i64 0] [(0, 1, .int .i64 u), (2, 1, .int .i64 c), (3, 1, .int .i64 (-1))] H = some (.agg ⟨nd ⟨u, 0, c, -1⟩⟩, H) := rfl
theorem v_node1 {H : AHeap} {el : TypeId} {x : Nd} : vBslice el 1 4 [.int .i64 0, .int .i64 0, .int .i64 0, .int .i64 0] [(0, 4, .agg ⟨nd x⟩)] H = some (.slice (some ⟨H.n, 0, none⟩) 1 2, H.push ⟨nd x, el, .tip, 0, []⟩) := rfl
theorem l_In {H0 : AHeap} {vi a : Value} {In : List Int} {t : Nat} {O : List (List Int)} {vr : Value} {ρ : List Int → Int} {c1 c2 c3 : Int} (hI : Ints H0 vi In) (hs : In.length ≤ 8) : ∀ (k j : Nat) (H : AHeap) (b : Nat) (N : List Nd) (P : List (List Int)) (m : Nat), j + k = In.length → Ext H0 H → TS H0.n H t b vr N O → Fits P N → P[m]? = some (In.take j) → RF ρ P N → (∀ q, q ∉ P → ρ q = -1) → N.length + k < 1000000 →
    Out (run Try.prog (tabF tab) om1 (.loop [6, 7, 9, 26, 27, 28, 47, 48, 49] b_trie_Of_0) [(6, .pointer (some ⟨t, 0, none⟩)), (7, .int .i64 c1), (9, .int .i64 m), (26, a), (27, .int .i64 c2), (28, .int .i64 c3), (47, vi), (48, .int .i64 In.length), (49, .int .i64 j)] H) fun y e' H' => y = .exit 2 ∧ eget e' 6 = .pointer (some ⟨t, 0, none⟩) ∧ eget e' 7 = .int .i64 c1 ∧ eget e' 26 = a ∧ eget e' 27 = .int .i64 c2 ∧ eget e' 28 = .int .i64 c3 ∧ Ext H0 H' ∧
      ∃ (b' m' : Nat) (N' : List Nd), eget e' 9 = .int .i64 m' ∧ TS H0.n H' t b' vr N' O ∧ KI H H' ∧ Fits (addIns P (In.take j) (In.drop j)) N' ∧ (addIns P (In.take j) (In.drop j))[m']? = some In ∧ RF ρ (addIns P (In.take j) (In.drop j)) N' ∧ (∀ q, q ∉ addIns P (In.take j) (In.drop j) → ρ q = -1) ∧ N'.length ≤ N.length + k := by
  intro k
  induction k with
  | zero =>
    intro j H b N P m hj hx hT hF hP hR hρ hN
    obtain rfl : j = In.length := by omega
    have hlt : ¬ ((In.length : Int) < In.length) := by omega
    rw [w_loop_b b_trie_Of_0.eq_1]
    rw [List.take_length] at hP
    simp only [w_draw, dr_cons, dr_some, dr_none, dr_go, still_no, still_yes, next_no, next_yes, last_cons, last_nil, isStore, calm_no, calm_nil, calm_cons, calmB_some, isCall, freshI, dr_nil, dr_end, still_nil, still_cons, stillB_some, stamp_some, stampV_ptr, stampV_tuple, stampO, still_here, still_here0, List.nil_append, w_out, w_gives, fin_ret, fin_normal, ress_nil, ress_tmp, pack_one, pack_nil, pack_two, entry_nil, entry_one, entry_two, entry_three, entry_four, eq_skip, eq_exit, eq_ret, w_rows, w_done, w_seq, w_normal, w_ret, w_exit, w_cond, w_true, w_false, eq_block, block_normal, block_ret, block_exit, rows_nil, rows_cons, on_some, on_none, row_plain, row_guard, guard_tt, guard_ff, guard_tf, guard_ft, guard_no, ev_tmp, ev_int, ev_bool, ev_string, ev_slice, ev_pointer, ev_map, ev_float, ev_complex, ev_nilIface, ev_nilFunc, ev_func, eget_cons, eget_nil, st_mv, st_pick, v_pick_t, v_pick_f, st_ext, v_ext0, v_ext1, v_ext2, v_ext3, st_int, v_int, int_add, int_sub, int_mul, int_eql, int_neq, int_lss, int_leq, int_gtr, int_geq, st_beq, v_beq, v_bne, st_not, v_not, st_conv, v_conv, st_faddr, v_faddr, st_iaddr, v_iaddr, st_aaddr, v_aaddr, st_nilChk, v_nil, st_len, v_len, v_lenS, st_load, v_load, got_one, got_row, mem_tip, mem_ro, mem_ret, st_alloc, st_box, st_store, v_store, got_store, cells_agg, cells_int, cells_bool, cells_slice, cells_pointer, cells_string, cells_complex, cells_func, one_int, one_bool, one_slice, one_pointer, one_string, one_complex, one_func, upd_push, get_push_self, AHeap.n_push, AHeap.n_upd, st_build, parts_nil, parts_cons, st_bslice, st_append, st_mkfun, st_mkface, st_isNil, st_max, v_max, st_min, v_min, st_field, st_index, st_slice0, v_slice0, v_slice0n, st_slice, kill_nil, st_call, v_call, forget_nil, forget_cons, Option.map_some, Option.map_none, Option.bind_some, List.map_cons, List.map_nil, if_true, if_false, Nat.reduceEqDiff, Int.reduceEq, Nat.reduceAdd, Nat.reduceMul, Bool.not_true, Bool.not_false, reduceCtorEq, decide_true, decide_false, Int.cast_ofNat_Int, eq_self, Int.reduceLT, Int.reduceLE, Int.reduceToNat, Int.toNat_natCast, Int.le_refl, Nat.le_refl, Nat.zero_add, Nat.add_zero, Nat.zero_mul, Nat.mul_one, Nat.mul_zero, and_self, and_true, true_and, List.length_cons, List.length_nil, List.all_cons, List.all_nil, Bool.and_self, Bool.and_true, Bool.true_and, List.take_zero, List.nil_append, List.drop_nil, List.append_nil, List.getElem?_cons_zero, List.getElem?_cons_succ, List.drop_succ_cons, List.drop_zero, List.take_succ_cons, List.cons_append, Nat.reduceLeDiff, hlt]
    rw [List.drop_of_length_le (Nat.le_refl _), List.take_length]
    exact ⟨hx, b, m, N, rfl, hT, Ext.ki (Ext.refl _), hF, hP, hR, hρ, by omega⟩
  | succ k ih =>
    intro j H b N P m hj hx hT hF hP hR hρ hN
    have hlt : (j : Int) < In.length := by omega
    obtain ⟨u, hu, hdu⟩ := drop_at (L := In) (i := j) (by omega)
    have htk : In.take (j + 1) = In.take j ++ [u] := by rw [List.take_add_one, hu]; rfl
    obtain ⟨i1, o1, h1, h2⟩ := (hI.ext hx).at hu
    have hw2 : IntKind.i64.wrap ((j : Int) + 1) = ((j + 1 : Nat) : Int) := by rw [wrap64 (by omega) (by omega)]; omega
    have hml : m < N.length := by rw [hF.len]; exact (List.getElem?_eq_some_iff.1 hP).1
    obtain ⟨x, hxm⟩ : ∃ x, N[m]? = some x := ⟨N[m], List.getElem?_eq_getElem hml⟩
    have cS := c_Step (u := u) hT.at hxm (hF.chain hxm hP)
    rw [w_loop_b b_trie_Of_0.eq_1, hdu]
    unfold addIns
    by_cases hin : In.take j ++ [u] ∈ P
    · rw [if_pos hin, ← htk]
      cases hpk : pickU N u (kidsOf P (In.take j)) with
      | none => exact absurd hin ((pick_none hF).1 hpk)
      | some m2 =>
        have hP2 := (pick_iff hF).1 hpk
        rw [← htk] at hP2
        rw [hpk] at cS
        simp only at cS
        obtain ⟨y, e', H', r1, r2, r3, r4, r5, r6, r7, r8, b', m', N', q1, q2, qk, q3, q4, q5, q6, q7⟩ := ih (j + 1) H b N P m2 (by omega) hx hT hF hP2 hR hρ (by omega)
        simp only [w_draw, dr_cons, dr_some, dr_none, dr_go, still_no, still_yes, next_no, next_yes, last_cons, last_nil, isStore, calm_no, calm_nil, calm_cons, calmB_some, isCall, freshI, dr_nil, dr_end, still_nil, still_cons, stillB_some, stamp_some, stampV_ptr, stampV_tuple, stampO, still_here, still_here0, List.nil_append, w_out, w_gives, fin_ret, fin_normal, ress_nil, ress_tmp, pack_one, pack_nil, pack_two, entry_nil, entry_one, entry_two, entry_three, entry_four, eq_skip, eq_exit, eq_ret, w_rows, w_done, w_seq, w_normal, w_ret, w_exit, w_cond, w_true, w_false, eq_block, block_normal, block_ret, block_exit, rows_nil, rows_cons, on_some, on_none, row_plain, row_guard, guard_tt, guard_ff, guard_tf, guard_ft, guard_no, ev_tmp, ev_int, ev_bool, ev_string, ev_slice, ev_pointer, ev_map, ev_float, ev_complex, ev_nilIface, ev_nilFunc, ev_func, eget_cons, eget_nil, st_mv, st_pick, v_pick_t, v_pick_f, st_ext, v_ext0, v_ext1, v_ext2, v_ext3, st_int, v_int, int_add, int_sub, int_mul, int_eql, int_neq, int_lss, int_leq, int_gtr, int_geq, st_beq, v_beq, v_bne, st_not, v_not, st_conv, v_conv, st_faddr, v_faddr, st_iaddr, v_iaddr, st_aaddr, v_aaddr, st_nilChk, v_nil, st_len, v_len, v_lenS, st_load, v_load, got_one, got_row, mem_tip, mem_ro, mem_ret, st_alloc, st_box, st_store, v_store, got_store, cells_agg, cells_int, cells_bool, cells_slice, cells_pointer, cells_string, cells_complex, cells_func, one_int, one_bool, one_slice, one_pointer, one_string, one_complex, one_func, upd_push, get_push_self, AHeap.n_push, AHeap.n_upd, st_build, parts_nil, parts_cons, st_bslice, st_append, st_mkfun, st_mkface, st_isNil, st_max, v_max, st_min, v_min, st_field, st_index, st_slice0, v_slice0, v_slice0n, st_slice, kill_nil, st_call, v_call, forget_nil, forget_cons, Option.map_some, Option.map_none, Option.bind_some, List.map_cons, List.map_nil, if_true, if_false, Nat.reduceEqDiff, Int.reduceEq, Nat.reduceAdd, Nat.reduceMul, Bool.not_true, Bool.not_false, reduceCtorEq, decide_true, decide_false, Int.cast_ofNat_Int, eq_self, Int.reduceLT, Int.reduceLE, Int.reduceToNat, Int.toNat_natCast, Int.le_refl, Nat.le_refl, Nat.zero_add, Nat.add_zero, Nat.zero_mul, Nat.mul_one, Nat.mul_zero, and_self, and_true, true_and, List.length_cons, List.length_nil, List.all_cons, List.all_nil, Bool.and_self, Bool.and_true, Bool.true_and, List.take_zero, List.nil_append, List.drop_nil, List.append_nil, List.getElem?_cons_zero, List.getElem?_cons_succ, List.drop_succ_cons, List.drop_zero, List.take_succ_cons, List.cons_append, Nat.reduceLeDiff, hlt, h1, h2, cS, hw2]
        rw [w_enter]
        simp only [w_draw, dr_cons, dr_some, dr_none, dr_go, still_no, still_yes, next_no, next_yes, last_cons, last_nil, isStore, calm_no, calm_nil, calm_cons, calmB_some, isCall, freshI, dr_nil, dr_end, still_nil, still_cons, stillB_some, stamp_some, stampV_ptr, stampV_tuple, stampO, still_here, still_here0, List.nil_append, w_out, w_gives, fin_ret, fin_normal, ress_nil, ress_tmp, pack_one, pack_nil, pack_two, entry_nil, entry_one, entry_two, entry_three, entry_four, eq_skip, eq_exit, eq_ret, w_rows, w_done, w_seq, w_normal, w_ret, w_exit, w_cond, w_true, w_false, eq_block, block_normal, block_ret, block_exit, rows_nil, rows_cons, on_some, on_none, row_plain, row_guard, guard_tt, guard_ff, guard_tf, guard_ft, guard_no, ev_tmp, ev_int, ev_bool, ev_string, ev_slice, ev_pointer, ev_map, ev_float, ev_complex, ev_nilIface, ev_nilFunc, ev_func, eget_cons, eget_nil, st_mv, st_pick, v_pick_t, v_pick_f, st_ext, v_ext0, v_ext1, v_ext2, v_ext3, st_int, v_int, int_add, int_sub, int_mul, int_eql, int_neq, int_lss, int_leq, int_gtr, int_geq, st_beq, v_beq, v_bne, st_not, v_not, st_conv, v_conv, st_faddr, v_faddr, st_iaddr, v_iaddr, st_aaddr, v_aaddr, st_nilChk, v_nil, st_len, v_len, v_lenS, st_load, v_load, got_one, got_row, mem_tip, mem_ro, mem_ret, st_alloc, st_box, st_store, v_store, got_store, cells_agg, cells_int, cells_bool, cells_slice, cells_pointer, cells_string, cells_complex, cells_func, one_int, one_bool, one_slice, one_pointer, one_string, one_complex, one_func, upd_push, get_push_self, AHeap.n_push, AHeap.n_upd, st_build, parts_nil, parts_cons, st_bslice, st_append, st_mkfun, st_mkface, st_isNil, st_max, v_max, st_min, v_min, st_field, st_index, st_slice0, v_slice0, v_slice0n, st_slice, kill_nil, st_call, v_call, forget_nil, forget_cons, Option.map_some, Option.map_none, Option.bind_some, List.map_cons, List.map_nil, if_true, if_false, Nat.reduceEqDiff, Int.reduceEq, Nat.reduceAdd, Nat.reduceMul, Bool.not_true, Bool.not_false, reduceCtorEq, decide_true, decide_false, Int.cast_ofNat_Int, eq_self, Int.reduceLT, Int.reduceLE, Int.reduceToNat, Int.toNat_natCast, Int.le_refl, Nat.le_refl, Nat.zero_add, Nat.add_zero, Nat.zero_mul, Nat.mul_one, Nat.mul_zero, and_self, and_true, true_and, List.length_cons, List.length_nil, List.all_cons, List.all_nil, Bool.and_self, Bool.and_true, Bool.true_and, List.take_zero, List.nil_append, List.drop_nil, List.append_nil, List.getElem?_cons_zero, List.getElem?_cons_succ, List.drop_succ_cons, List.drop_zero, List.take_succ_cons, List.cons_append, Nat.reduceLeDiff, r1]
        exact ⟨r2, r3, r4, r5, r6, r7, r8, b', m', N', q1, q2, qk, q3, q4, q5, q6, by omega⟩
    · rw [if_neg hin, ← htk]
      have hpk := (pick_none hF (p := In.take j) (u := u)).2 hin
      rw [hpk] at cS
      simp only at cS
      obtain ⟨ver, ht⟩ := hT.ht
      obtain ⟨ver2, A, hn, hA⟩ := hT.hn
      have hkid : (N.flatMap nd)[m * 4 + 1]? = some (.int .i64 x.kid) := nd_at hxm (by omega)
      have h0m : (0 : Int) ≤ m := by omega
      have hml' : (m : Int) < (N.length : Int) := by omega
      obtain ⟨v', H2, g1, g2, g3, H3, b', g4, g5, g6, g7, gk⟩ := hT.grow (y := ⟨u, 0, x.kid, -1⟩) hx.1 (by omega)
      have g2t := g2.trans ht
      have g2b := g3 _ hn
      rw [v_store, g2t] at g4
      obtain ⟨ver3, ht3⟩ := g5.ht
      obtain ⟨ver4, A4, hn4, _⟩ := g5.hn
      have hxm3 : (N ++ [Nd.mk u 0 x.kid (-1)])[m]? = some x := by rw [List.getElem?_append_left hml]; exact hxm
      obtain ⟨H4, s1, s2, s3, s4, sk⟩ := g5.store (z := (N.length : Int)) hxm3 (show 1 < 4 by omega)
      rw [v_store, hn4] at s1
      have hl3 : (m : Int) < (((N ++ [Nd.mk u 0 x.kid (-1)]).length : Nat) : Int) := by simp; omega
      have hF4 := hF.snoc hxm hP hin
      have hR4 := hR.snoc (u := u) (c := x.kid) (z := (N.length : Int)) hF.len hxm (hρ _ hin)
      have hx4 : Ext H0 H4 := ⟨by have := hx.1; omega, fun q hq => by rw [s4 q hq, g7 q hq, hx.2 q hq]⟩
      have hP4 : (P ++ [In.take j ++ [u]])[N.length]? = some (In.take (j + 1)) := by rw [htk, hF.len, List.getElem?_append_right (Nat.le_refl _), Nat.sub_self]; rfl
      rw [← htk] at hF4 hR4 hP4
      obtain ⟨y, e', H', r1, r2, r3, r4, r5, r6, r7, r8, b'', m', N', q1, q2, qk, q3, q4, q5, q6, q7⟩ := ih (j + 1) H4 b' _ _ N.length (by omega) hx4 s2 hF4 hP4 hR4 (fun q hq => hρ q fun hm => hq (List.mem_append_left _ hm)) (by simp; omega)
      have hl0 : ∀ H : AHeap, vLen false (.slice (some ⟨b, 0, none⟩) N.length (N.length + 1)) H = some (.int .i64 N.length, H) := fun _ => rfl
      simp only [w_draw, dr_cons, dr_some, dr_none, dr_go, still_no, still_yes, next_no, next_yes, last_cons, last_nil, isStore, calm_no, calm_nil, calm_cons, calmB_some, isCall, freshI, dr_nil, dr_end, still_nil, still_cons, stillB_some, stamp_some, stampV_ptr, stampV_tuple, stampO, still_here, still_here0, List.nil_append, w_out, w_gives, fin_ret, fin_normal, ress_nil, ress_tmp, pack_one, pack_nil, pack_two, entry_nil, entry_one, entry_two, entry_three, entry_four, eq_skip, eq_exit, eq_ret, w_rows, w_done, w_seq, w_normal, w_ret, w_exit, w_cond, w_true, w_false, eq_block, block_normal, block_ret, block_exit, rows_nil, rows_cons, on_some, on_none, row_plain, row_guard, guard_tt, guard_ff, guard_tf, guard_ft, guard_no, ev_tmp, ev_int, ev_bool, ev_string, ev_slice, ev_pointer, ev_map, ev_float, ev_complex, ev_nilIface, ev_nilFunc, ev_func, eget_cons, eget_nil, st_mv, st_pick, v_pick_t, v_pick_f, st_ext, v_ext0, v_ext1, v_ext2, v_ext3, st_int, v_int, int_add, int_sub, int_mul, int_eql, int_neq, int_lss, int_leq, int_gtr, int_geq, st_beq, v_beq, v_bne, st_not, v_not, st_conv, v_conv, st_faddr, v_faddr, st_iaddr, v_iaddr, st_aaddr, v_aaddr, st_nilChk, v_nil, st_len, v_len, v_lenS, st_load, v_load, got_one, got_row, mem_tip, mem_ro, mem_ret, st_alloc, st_box, st_store, v_store, got_store, cells_agg, cells_int, cells_bool, cells_slice, cells_pointer, cells_string, cells_complex, cells_func, one_int, one_bool, one_slice, one_pointer, one_string, one_complex, one_func, upd_push, get_push_self, AHeap.n_push, AHeap.n_upd, st_build, parts_nil, parts_cons, st_bslice, st_append, st_mkfun, st_mkface, st_isNil, st_max, v_max, st_min, v_min, st_field, st_index, st_slice0, v_slice0, v_slice0n, st_slice, kill_nil, st_call, v_call, forget_nil, forget_cons, Option.map_some, Option.map_none, Option.bind_some, List.map_cons, List.map_nil, if_true, if_false, Nat.reduceEqDiff, Int.reduceEq, Nat.reduceAdd, Nat.reduceMul, Bool.not_true, Bool.not_false, reduceCtorEq, decide_true, decide_false, Int.cast_ofNat_Int, eq_self, Int.reduceLT, Int.reduceLE, Int.reduceToNat, Int.toNat_natCast, Int.le_refl, Nat.le_refl, Nat.zero_add, Nat.add_zero, Nat.zero_mul, Nat.mul_one, Nat.mul_zero, and_self, and_true, true_and, List.length_cons, List.length_nil, List.all_cons, List.all_nil, Bool.and_self, Bool.and_true, Bool.true_and, List.take_zero, List.nil_append, List.drop_nil, List.append_nil, List.getElem?_cons_zero, List.getElem?_cons_succ, List.drop_succ_cons, List.drop_zero, List.take_succ_cons, List.cons_append, Nat.reduceLeDiff, hlt, h1, h2, cS, ht, hl0, hn, h0m, hml', hkid, v_node, v_node1, g1, g2t, g2b, g4, ht3, hn4, hl3, s1, hw2]
      rw [w_enter]
      simp only [w_draw, dr_cons, dr_some, dr_none, dr_go, still_no, still_yes, next_no, next_yes, last_cons, last_nil, isStore, calm_no, calm_nil, calm_cons, calmB_some, isCall, freshI, dr_nil, dr_end, still_nil, still_cons, stillB_some, stamp_some, stampV_ptr, stampV_tuple, stampO, still_here, still_here0, List.nil_append, w_out, w_gives, fin_ret, fin_normal, ress_nil, ress_tmp, pack_one, pack_nil, pack_two, entry_nil, entry_one, entry_two, entry_three, entry_four, eq_skip, eq_exit, eq_ret, w_rows, w_done, w_seq, w_normal, w_ret, w_exit, w_cond, w_true, w_false, eq_block, block_normal, block_ret, block_exit, rows_nil, rows_cons, on_some, on_none, row_plain, row_guard, guard_tt, guard_ff, guard_tf, guard_ft, guard_no, ev_tmp, ev_int, ev_bool, ev_string, ev_slice, ev_pointer, ev_map, ev_float, ev_complex, ev_nilIface, ev_nilFunc, ev_func, eget_cons, eget_nil, st_mv, st_pick, v_pick_t, v_pick_f, st_ext, v_ext0, v_ext1, v_ext2, v_ext3, st_int, v_int, int_add, int_sub, int_mul, int_eql, int_neq, int_lss, int_leq, int_gtr, int_geq, st_beq, v_beq, v_bne, st_not, v_not, st_conv, v_conv, st_faddr, v_faddr, st_iaddr, v_iaddr, st_aaddr, v_aaddr, st_nilChk, v_nil, st_len, v_len, v_lenS, st_load, v_load, got_one, got_row, mem_tip, mem_ro, mem_ret, st_alloc, st_box, st_store, v_store, got_store, cells_agg, cells_int, cells_bool, cells_slice, cells_pointer, cells_string, cells_complex, cells_func, one_int, one_bool, one_slice, one_pointer, one_string, one_complex, one_func, upd_push, get_push_self, AHeap.n_push, AHeap.n_upd, st_build, parts_nil, parts_cons, st_bslice, st_append, st_mkfun, st_mkface, st_isNil, st_max, v_max, st_min, v_min, st_field, st_index, st_slice0, v_slice0, v_slice0n, st_slice, kill_nil, st_call, v_call, forget_nil, forget_cons, Option.map_some, Option.map_none, Option.bind_some, List.map_cons, List.map_nil, if_true, if_false, Nat.reduceEqDiff, Int.reduceEq, Nat.reduceAdd, Nat.reduceMul, Bool.not_true, Bool.not_false, reduceCtorEq, decide_true, decide_false, Int.cast_ofNat_Int, eq_self, Int.reduceLT, Int.reduceLE, Int.reduceToNat, Int.toNat_natCast, Int.le_refl, Nat.le_refl, Nat.zero_add, Nat.add_zero, Nat.zero_mul, Nat.mul_one, Nat.mul_zero, and_self, and_true, true_and, List.length_cons, List.length_nil, List.all_cons, List.all_nil, Bool.and_self, Bool.and_true, Bool.true_and, List.take_zero, List.nil_append, List.drop_nil, List.append_nil, List.getElem?_cons_zero, List.getElem?_cons_succ, List.drop_succ_cons, List.drop_zero, List.take_succ_cons, List.cons_append, Nat.reduceLeDiff, r1]
      exact ⟨r2, r3, r4, r5, r6, r7, r8, b'', m', N', q1, q2, (gk.trans sk).trans qk, q3, q4, q5, q6, by simp at q7; omega⟩
end Go.Proofs.Ythnccfmmeaeibaa

/-! A trie of rules that are right. -/
set_option linter.unusedSimpArgs false
set_option linter.unusedVariables false
namespace Go.Proofs.Ythnccfmmeaeibaa
open Go Lon
/-- 'append([]int(nil), x...)'. -/
theorem app_new {H : AHeap} {x : Value} {l : List Int} {el : TypeId} (hx : Ints H x l) (hb : l.length * 8 ≤ 140737488355328) (h0 : 0 < l.length) :
    ∃ c, appendA H (.slice none 0 0) x el 1 8 = some (.slice (some ⟨H.n, 0, none⟩) l.length c, H.push ⟨ints l, el, .tip, 0, []⟩) := by
  obtain ⟨⟨a, c, rfl⟩, hc⟩ := hx
  have h1 : cellsOf H 1 (.slice none 0 0) = some [] := rfl
  refine ⟨l.length + 1, ?_⟩
  unfold appendA
  simp only [h1, hc]
  rw [if_neg (by omega), if_pos ⟨by omega, ones_ints l⟩]
  simp
/-- The nodes' paths. -/
def paths (L : List Rl) : List (List Int) := L.foldl (fun P r => addIns P [] r.1) [[]]
theorem v_out {H : AHeap} {p : Option Addr} {m c : Nat} : vBuild [.slice none 0 0, .slice none 0 0] [(1, 1, .slice p m c)] H = some (.agg ⟨[.slice none 0 0, .slice p m c]⟩, H) := rfl
theorem v_rule1' {H : AHeap} {el : TypeId} {x y : Value} : vBslice el 1 2 [.slice none 0 0, .slice none 0 0] [(0, 2, .agg ⟨[x, y]⟩)] H = some (.slice (some ⟨H.n, 0, none⟩) 1 2, H.push ⟨[x, y], el, .tip, 0, []⟩) := rfl
/-- Rules that are right: sides of 1 to 8 units that may be; no In twice. -/
def Right (T : List Rl) : Prop := (∀ r ∈ T, sideB r.1 = true ∧ sideB r.2 = true) ∧ ∀ k r, T[k]? = some r → fnd (T.take k) r.1 < 0
theorem side_len {l : List Int} (h : sideB l = true) : 0 < l.length ∧ l.length ≤ 8 := by
  unfold sideB at h
  simp only [Bool.and_eq_true, decide_eq_true_eq] at h
  exact h.1
theorem fdx_snoc {q : List Int} {r : Rl} : ∀ {T : List Rl} {i : Nat}, fdx q (T ++ [r]) i = match fdx q T i with | some k => some k | none => if r.1 = q then some (i + T.length) else none
  | [], i => by simp [fdx]
  | a :: T, i => by
    rw [List.cons_append]
    unfold fdx
    split
    · rfl
    · rw [fdx_snoc]
      cases fdx q T (i + 1) with
      | some k => rfl
      | none => simp only [List.length_cons]; split <;> simp; omega
theorem fnd_snoc {q : List Int} {r : Rl} {T : List Rl} (h : fnd T r.1 < 0) : fnd (T ++ [r]) q = if q = r.1 then (T.length : Int) else fnd T q := by
  have e : ∀ x, fnd T x = match fdx x T 0 with | some k => (k : Int) | none => -1 := fun _ => rfl
  unfold fnd
  rw [fdx_snoc]
  by_cases hq : q = r.1
  · subst hq
    rw [if_pos rfl]
    rw [e] at h
    cases hf : fdx r.1 T 0 with
    | some k => rw [hf] at h; simp at h; omega
    | none => simp
  · rw [if_neg hq]
    cases hf : fdx q T 0 with
    | some k => rfl
    | none =>
      have hne : ¬ r.1 = q := fun e => hq e.symm
      simp only [if_neg hne]
theorem got_ext {H H' : AHeap} (hx : Ext H H') {i o : Nat} {k : Option Nat} {v : Value} (h : gotLoad (H.get i) o k H = some (v, H)) : gotLoad (H'.get i) o k H' = some (v, H') := by
  cases hg : H.get i with
  | none => rw [hg] at h; cases h
  | some b =>
    rw [hx.get hg]
    rw [hg] at h
    unfold gotLoad at h ⊢
    rw [Option.map_eq_some_iff] at h
    obtain ⟨u, h3, h4⟩ := h
    injection h4 with h4 _
    rw [h3, h4]
    rfl
theorem RF.set {T : List Rl} {r : Rl} {P : List (List Int)} {N : List Nd} {m : Nat} {x : Nd} (h : RF (fnd T) P N) (hF : Fits P N) (hn : fnd T r.1 < 0) (hm : P[m]? = some r.1) (hx : N[m]? = some x) : RF (fnd (T ++ [r])) P (N.set m (cellAt x 3 (T.length : Int))) := by
  have hl := (List.getElem?_eq_some_iff.1 hx).1
  intro j y p hj hp
  rw [fnd_snoc hn]
  rw [List.getElem?_set] at hj
  split at hj
  · rename_i e
    subst e
    injection hj with hj
    subst hj
    rw [hp] at hm
    injection hm with hm
    rw [if_pos hm]
    rfl
  · rename_i hne
    have hpr : p ≠ r.1 := fun e => hne (at_inj hF.nodup hm (by rw [hp, e]))
    rw [if_neg hpr]
    exact h j y p hj hp
theorem l_Of {H0 : AHeap} {a : Value} {L : List Rl} {t : Nat} (ha : Rules H0 a L) (hR : Right L) (hL : L.length ≤ 512) : ∀ (k i : Nat) (H : AHeap) (b : Nat) (vr : Value) (N : List Nd), i + k = L.length → Ext H0 H → TS H0.n H t b vr N ((L.take i).map (·.2)) → Fits (paths (L.take i)) N → RF (fnd (L.take i)) (paths (L.take i)) N → (∀ q, q ∉ paths (L.take i) → fnd (L.take i) q = -1) → N.length ≤ 1 + 8 * i →
    Out (run Try.prog (tabF tab) om1 (.loop [6, 26, 27, 28] b_trie_Of_1) [(6, .pointer (some ⟨t, 0, none⟩)), (26, a), (27, .int .i64 L.length), (28, .int .i64 i)] H) fun y e' H' => y = .exit 0 ∧ eget e' 6 = .pointer (some ⟨t, 0, none⟩) ∧ Ext H0 H' ∧
      ∃ (b' : Nat) (vr' : Value) (N' : List Nd), TS H0.n H' t b' vr' N' (L.map (·.2)) ∧ Fits (paths L) N' ∧ RF (fnd L) (paths L) N' ∧ (∀ q, q ∉ paths L → fnd L q = -1) ∧ N'.length ≤ 1 + 8 * L.length := by
  intro k
  induction k with
  | zero =>
    intro i H b vr N hi hx hT hF hRF hρ hN
    obtain rfl : i = L.length := by omega
    have hlt : ¬ ((L.length : Int) < L.length) := by omega
    rw [w_loop_b b_trie_Of_1.eq_1]
    rw [List.take_length] at hRF hρ hF hT
    simp only [w_draw, dr_cons, dr_some, dr_none, dr_go, still_no, still_yes, next_no, next_yes, last_cons, last_nil, isStore, calm_no, calm_nil, calm_cons, calmB_some, isCall, freshI, dr_nil, dr_end, still_nil, still_cons, stillB_some, stamp_some, stampV_ptr, stampV_tuple, stampO, still_here, still_here0, List.nil_append, w_out, w_gives, fin_ret, fin_normal, ress_nil, ress_tmp, pack_one, pack_nil, pack_two, entry_nil, entry_one, entry_two, entry_three, entry_four, eq_skip, eq_exit, eq_ret, w_rows, w_done, w_seq, w_normal, w_ret, w_exit, w_cond, w_true, w_false, eq_block, block_normal, block_ret, block_exit, rows_nil, rows_cons, on_some, on_none, row_plain, row_guard, guard_tt, guard_ff, guard_tf, guard_ft, guard_no, ev_tmp, ev_int, ev_bool, ev_string, ev_slice, ev_pointer, ev_map, ev_float, ev_complex, ev_nilIface, ev_nilFunc, ev_func, eget_cons, eget_nil, st_mv, st_pick, v_pick_t, v_pick_f, st_ext, v_ext0, v_ext1, v_ext2, v_ext3, st_int, v_int, int_add, int_sub, int_mul, int_eql, int_neq, int_lss, int_leq, int_gtr, int_geq, st_beq, v_beq, v_bne, st_not, v_not, st_conv, v_conv, st_faddr, v_faddr, st_iaddr, v_iaddr, st_aaddr, v_aaddr, st_nilChk, v_nil, st_len, v_len, v_lenS, st_load, v_load, got_one, got_row, mem_tip, mem_ro, mem_ret, st_alloc, st_box, st_store, v_store, got_store, cells_agg, cells_int, cells_bool, cells_slice, cells_pointer, cells_string, cells_complex, cells_func, one_int, one_bool, one_slice, one_pointer, one_string, one_complex, one_func, upd_push, get_push_self, AHeap.n_push, AHeap.n_upd, st_build, parts_nil, parts_cons, st_bslice, st_append, st_mkfun, st_mkface, st_isNil, st_max, v_max, st_min, v_min, st_field, st_index, st_slice0, v_slice0, v_slice0n, st_slice, kill_nil, st_call, v_call, forget_nil, forget_cons, Option.map_some, Option.map_none, Option.bind_some, List.map_cons, List.map_nil, if_true, if_false, Nat.reduceEqDiff, Int.reduceEq, Nat.reduceAdd, Nat.reduceMul, Bool.not_true, Bool.not_false, reduceCtorEq, decide_true, decide_false, Int.cast_ofNat_Int, eq_self, Int.reduceLT, Int.reduceLE, Int.reduceToNat, Int.toNat_natCast, Int.le_refl, Nat.le_refl, Nat.zero_add, Nat.add_zero, Nat.zero_mul, Nat.mul_one, Nat.mul_zero, and_self, and_true, true_and, List.length_cons, List.length_nil, List.all_cons, List.all_nil, Bool.and_self, Bool.and_true, Bool.true_and, List.take_zero, List.nil_append, List.drop_nil, List.append_nil, List.getElem?_cons_zero, List.getElem?_cons_succ, List.drop_succ_cons, List.drop_zero, List.take_succ_cons, List.cons_append, Nat.reduceLeDiff, hlt]
    exact ⟨hx, b, vr, N, hT, hF, hRF, hρ, hN⟩
  | succ k ih =>
    intro i H b vr N hi hx hT hF hRF hρ hN
    have hlt : (i : Int) < L.length := by omega
    obtain ⟨r, hr, hdr⟩ := drop_at (L := L) (i := i) (by omega)
    have htk : L.take (i + 1) = L.take i ++ [r] := by rw [List.take_add_one, hr]; rfl
    obtain ⟨sd1, sd2⟩ := hR.1 r (List.mem_of_getElem? hr)
    have hfn := hR.2 i r hr
    have l1 := side_len sd1
    have l2 := side_len sd2
    obtain ⟨i1, o1, vi, vo, h1, _, _, h4, h5, h6, h7, h8⟩ := ha.at hr
    have h5' := h5
    have h6' := h6
    obtain ⟨⟨ai, ci, rfl⟩, _⟩ := h5'
    obtain ⟨⟨ao, co, rfl⟩, _⟩ := h6'
    have h4' := got_ext hx h4
    have hw2 : IntKind.i64.wrap ((i : Int) + 1) = ((i + 1 : Nat) : Int) := by rw [wrap64 (by omega) (by omega)]; omega
    have hx1 := Ext.push H ⟨[.slice ai r.1.length ci, .slice ao r.2.length co], 51, .tip, 1, []⟩
    obtain ⟨c, g0⟩ := app_new (el := 3) ((h6.ext hx).ext hx1) (by omega) l2.1
    have x2 := Ext.push (H.push ⟨[.slice ai r.1.length ci, .slice ao r.2.length co], 51, .tip, 1, []⟩) ⟨ints r.2, 3, .tip, 0, []⟩
    have hq0 := get_push_self (H := H.push ⟨[.slice ai r.1.length ci, .slice ao r.2.length co], 51, .tip, 1, []⟩) (b := ⟨ints r.2, 3, .tip, 0, []⟩)
    obtain ⟨H2, hH2⟩ : ∃ H2, H2 = (H.push ⟨[.slice ai r.1.length ci, .slice ao r.2.length co], 51, .tip, 1, []⟩).push ⟨ints r.2, 3, .tip, 0, []⟩ := ⟨_, rfl⟩
    obtain ⟨q, hqe⟩ : ∃ q, q = (H.push ⟨[.slice ai r.1.length ci, .slice ao r.2.length co], 51, .tip, 1, []⟩).n := ⟨_, rfl⟩
    rw [← hH2, ← hqe] at g0 hq0
    rw [← hH2] at x2
    have hps : addIns (paths (L.take i)) [] r.1 = paths (L.take (i + 1)) := by unfold paths; rw [htk, List.foldl_append]; rfl
    have hos : (L.take i).map (·.2) ++ [r.2] = (L.take (i + 1)).map (·.2) := by rw [htk, List.map_append]; rfl
    have hT2 := hT.ext (hx1.trans x2)
    obtain ⟨ver, ht1⟩ := (hT.ext hx1).ht
    have ht2 := x2.get ht1
    have hn2 : H0.n ≤ H2.n := by have := hx.1; have := (hx1.trans x2).1; omega
    have hn12 : H.n < H2.n := by have := x2.1; simp at this; omega
    obtain ⟨v', H3, g1, g2, g3, H4, g4, g5, g6, g7, g8, gk⟩ := hT2.rule (c := c) hn2 (by rw [List.length_map, List.length_take]; omega) hq0 (by unfold Lon.tiny; omega)
    have ht3 := g2.trans ht2
    have hqt : H.n ≠ t := by
      obtain ⟨ver0, ht0⟩ := hT.ht
      have := AHeap.lt_of_get ht0
      omega
    have hvq : NotAt vr H.n := by
      obtain ⟨cs, ⟨_, ho⟩, _⟩ := hT.hv
      rcases ho with ⟨rfl, _⟩ | ⟨q', _, _, rfl, _, hq⟩
      · trivial
      · have := AHeap.lt_of_get hq
        show q' ≠ H.n
        omega
    have hq2 : H2.get H.n = some ⟨[.slice ai r.1.length ci, .slice ao r.2.length co], 51, .tip, 1, []⟩ := x2.get get_push_self
    have hq3 := (g3 H.n hn12 hvq).trans hq2
    have hq4 := (g4 H.n hqt).trans hq3
    rw [v_store, ht3] at g5
    have hx4 : Ext H0 H4 := ⟨by omega, fun j hj => by rw [g8 j hj, (hx.trans (hx1.trans x2)).2 j hj]⟩
    obtain ⟨y2, e2, H5, t1, rfl, t2, t3, t4, t5, t6, t7, b', m', N', q1, q2, qk, q3, q4, q5, q6, q7⟩ := l_In (a := a) (ρ := fnd (L.take i)) (c1 := (i : Int)) (c2 := (L.length : Int)) (c3 := (i : Int)) h5 l1.2 r.1.length 0 H4 b N _ 0 (by omega) hx4 g6 hF (by rw [List.take_zero]; exact hF.root) hRF hρ (by omega)
    rw [List.take_zero, List.drop_zero, hps] at q3 q4 q5 q6
    rw [hos] at q2
    obtain ⟨ver5, ht5⟩ := q2.ht
    obtain ⟨ver6, A6, hn5, _⟩ := q2.hn
    have hm5 : m' < N'.length := by rw [q3.len]; exact (List.getElem?_eq_some_iff.1 q4).1
    obtain ⟨x5, hx5⟩ : ∃ x, N'[m']? = some x := ⟨N'[m'], List.getElem?_eq_getElem hm5⟩
    obtain ⟨H6, s1, s2, s3, s4, sk⟩ := q2.store (z := (i : Int)) hx5 (show 3 < 4 by omega)
    rw [v_store, hn5] at s1
    have h05 : (0 : Int) ≤ m' := by omega
    have hm5' : (m' : Int) < (N'.length : Int) := by omega
    have hx6 : Ext H0 H6 := ⟨by have := t7.1; omega, fun j hj => by rw [s4 j hj, t7.2 j hj]⟩
    have hti : (L.take i).length = i := by rw [List.length_take]; omega
    have hRF6 := q5.set q3 hfn q4 hx5
    rw [hti, ← htk] at hRF6
    have hF6 : Fits (paths (L.take (i + 1))) (N'.set m' (cellAt x5 3 (i : Int))) := q3.setRule hx5 (i : Int)
    have hρ6 : ∀ q, q ∉ paths (L.take (i + 1)) → fnd (L.take (i + 1)) q = -1 := fun q hq => by
      rw [htk, fnd_snoc hfn, if_neg (fun e => hq (by rw [e]; exact List.mem_of_getElem? q4))]
      exact q6 q hq
    obtain ⟨y, e', H', r1, r2, r3, r4, r5⟩ := ih (i + 1) H6 b' v' _ (by omega) hx6 s2 hF6 hRF6 hρ6 (by simp; omega)
    simp only [Int.cast_ofNat_Int] at t1
    rw [w_loop_b b_trie_Of_1.eq_1]
    simp only [w_draw, dr_cons, dr_some, dr_none, dr_go, still_no, still_yes, next_no, next_yes, last_cons, last_nil, isStore, calm_no, calm_nil, calm_cons, calmB_some, isCall, freshI, dr_nil, dr_end, still_nil, still_cons, stillB_some, stamp_some, stampV_ptr, stampV_tuple, stampO, still_here, still_here0, List.nil_append, w_out, w_gives, fin_ret, fin_normal, ress_nil, ress_tmp, pack_one, pack_nil, pack_two, entry_nil, entry_one, entry_two, entry_three, entry_four, eq_skip, eq_exit, eq_ret, w_rows, w_done, w_seq, w_normal, w_ret, w_exit, w_cond, w_true, w_false, eq_block, block_normal, block_ret, block_exit, rows_nil, rows_cons, on_some, on_none, row_plain, row_guard, guard_tt, guard_ff, guard_tf, guard_ft, guard_no, ev_tmp, ev_int, ev_bool, ev_string, ev_slice, ev_pointer, ev_map, ev_float, ev_complex, ev_nilIface, ev_nilFunc, ev_func, eget_cons, eget_nil, st_mv, st_pick, v_pick_t, v_pick_f, st_ext, v_ext0, v_ext1, v_ext2, v_ext3, st_int, v_int, int_add, int_sub, int_mul, int_eql, int_neq, int_lss, int_leq, int_gtr, int_geq, st_beq, v_beq, v_bne, st_not, v_not, st_conv, v_conv, st_faddr, v_faddr, st_iaddr, v_iaddr, st_aaddr, v_aaddr, st_nilChk, v_nil, st_len, v_len, v_lenS, st_load, v_load, got_one, got_row, mem_tip, mem_ro, mem_ret, st_alloc, st_box, st_store, v_store, got_store, cells_agg, cells_int, cells_bool, cells_slice, cells_pointer, cells_string, cells_complex, cells_func, one_int, one_bool, one_slice, one_pointer, one_string, one_complex, one_func, upd_push, get_push_self, AHeap.n_push, AHeap.n_upd, st_build, parts_nil, parts_cons, st_bslice, st_append, st_mkfun, st_mkface, st_isNil, st_max, v_max, st_min, v_min, st_field, st_index, st_slice0, v_slice0, v_slice0n, st_slice, kill_nil, st_call, v_call, forget_nil, forget_cons, Option.map_some, Option.map_none, Option.bind_some, List.map_cons, List.map_nil, if_true, if_false, Nat.reduceEqDiff, Int.reduceEq, Nat.reduceAdd, Nat.reduceMul, Bool.not_true, Bool.not_false, reduceCtorEq, decide_true, decide_false, Int.cast_ofNat_Int, eq_self, Int.reduceLT, Int.reduceLE, Int.reduceToNat, Int.toNat_natCast, Int.le_refl, Nat.le_refl, Nat.zero_add, Nat.add_zero, Nat.zero_mul, Nat.mul_one, Nat.mul_zero, and_self, and_true, true_and, List.length_cons, List.length_nil, List.all_cons, List.all_nil, Bool.and_self, Bool.and_true, Bool.true_and, List.take_zero, List.nil_append, List.drop_nil, List.append_nil, List.getElem?_cons_zero, List.getElem?_cons_succ, List.drop_succ_cons, List.drop_zero, List.take_succ_cons, List.cons_append, Nat.reduceLeDiff, hlt, h1, h4', ht1, g0, v_out, v_rule1', g1, ht3, hq3, g5, hq4, h5.len]
    rw [w_enter]
    simp only [w_draw, dr_cons, dr_some, dr_none, dr_go, still_no, still_yes, next_no, next_yes, last_cons, last_nil, isStore, calm_no, calm_nil, calm_cons, calmB_some, isCall, freshI, dr_nil, dr_end, still_nil, still_cons, stillB_some, stamp_some, stampV_ptr, stampV_tuple, stampO, still_here, still_here0, List.nil_append, w_out, w_gives, fin_ret, fin_normal, ress_nil, ress_tmp, pack_one, pack_nil, pack_two, entry_nil, entry_one, entry_two, entry_three, entry_four, eq_skip, eq_exit, eq_ret, w_rows, w_done, w_seq, w_normal, w_ret, w_exit, w_cond, w_true, w_false, eq_block, block_normal, block_ret, block_exit, rows_nil, rows_cons, on_some, on_none, row_plain, row_guard, guard_tt, guard_ff, guard_tf, guard_ft, guard_no, ev_tmp, ev_int, ev_bool, ev_string, ev_slice, ev_pointer, ev_map, ev_float, ev_complex, ev_nilIface, ev_nilFunc, ev_func, eget_cons, eget_nil, st_mv, st_pick, v_pick_t, v_pick_f, st_ext, v_ext0, v_ext1, v_ext2, v_ext3, st_int, v_int, int_add, int_sub, int_mul, int_eql, int_neq, int_lss, int_leq, int_gtr, int_geq, st_beq, v_beq, v_bne, st_not, v_not, st_conv, v_conv, st_faddr, v_faddr, st_iaddr, v_iaddr, st_aaddr, v_aaddr, st_nilChk, v_nil, st_len, v_len, v_lenS, st_load, v_load, got_one, got_row, mem_tip, mem_ro, mem_ret, st_alloc, st_box, st_store, v_store, got_store, cells_agg, cells_int, cells_bool, cells_slice, cells_pointer, cells_string, cells_complex, cells_func, one_int, one_bool, one_slice, one_pointer, one_string, one_complex, one_func, upd_push, get_push_self, AHeap.n_push, AHeap.n_upd, st_build, parts_nil, parts_cons, st_bslice, st_append, st_mkfun, st_mkface, st_isNil, st_max, v_max, st_min, v_min, st_field, st_index, st_slice0, v_slice0, v_slice0n, st_slice, kill_nil, st_call, v_call, forget_nil, forget_cons, Option.map_some, Option.map_none, Option.bind_some, List.map_cons, List.map_nil, if_true, if_false, Nat.reduceEqDiff, Int.reduceEq, Nat.reduceAdd, Nat.reduceMul, Bool.not_true, Bool.not_false, reduceCtorEq, decide_true, decide_false, Int.cast_ofNat_Int, eq_self, Int.reduceLT, Int.reduceLE, Int.reduceToNat, Int.toNat_natCast, Int.le_refl, Nat.le_refl, Nat.zero_add, Nat.add_zero, Nat.zero_mul, Nat.mul_one, Nat.mul_zero, and_self, and_true, true_and, List.length_cons, List.length_nil, List.all_cons, List.all_nil, Bool.and_self, Bool.and_true, Bool.true_and, List.take_zero, List.nil_append, List.drop_nil, List.append_nil, List.getElem?_cons_zero, List.getElem?_cons_succ, List.drop_succ_cons, List.drop_zero, List.take_succ_cons, List.cons_append, Nat.reduceLeDiff, t1, t2, t3, t4, t5, t6, q1, ht5, hn5, h05, hm5', s1, hw2]
    rw [w_enter]
    simp only [w_draw, dr_cons, dr_some, dr_none, dr_go, still_no, still_yes, next_no, next_yes, last_cons, last_nil, isStore, calm_no, calm_nil, calm_cons, calmB_some, isCall, freshI, dr_nil, dr_end, still_nil, still_cons, stillB_some, stamp_some, stampV_ptr, stampV_tuple, stampO, still_here, still_here0, List.nil_append, w_out, w_gives, fin_ret, fin_normal, ress_nil, ress_tmp, pack_one, pack_nil, pack_two, entry_nil, entry_one, entry_two, entry_three, entry_four, eq_skip, eq_exit, eq_ret, w_rows, w_done, w_seq, w_normal, w_ret, w_exit, w_cond, w_true, w_false, eq_block, block_normal, block_ret, block_exit, rows_nil, rows_cons, on_some, on_none, row_plain, row_guard, guard_tt, guard_ff, guard_tf, guard_ft, guard_no, ev_tmp, ev_int, ev_bool, ev_string, ev_slice, ev_pointer, ev_map, ev_float, ev_complex, ev_nilIface, ev_nilFunc, ev_func, eget_cons, eget_nil, st_mv, st_pick, v_pick_t, v_pick_f, st_ext, v_ext0, v_ext1, v_ext2, v_ext3, st_int, v_int, int_add, int_sub, int_mul, int_eql, int_neq, int_lss, int_leq, int_gtr, int_geq, st_beq, v_beq, v_bne, st_not, v_not, st_conv, v_conv, st_faddr, v_faddr, st_iaddr, v_iaddr, st_aaddr, v_aaddr, st_nilChk, v_nil, st_len, v_len, v_lenS, st_load, v_load, got_one, got_row, mem_tip, mem_ro, mem_ret, st_alloc, st_box, st_store, v_store, got_store, cells_agg, cells_int, cells_bool, cells_slice, cells_pointer, cells_string, cells_complex, cells_func, one_int, one_bool, one_slice, one_pointer, one_string, one_complex, one_func, upd_push, get_push_self, AHeap.n_push, AHeap.n_upd, st_build, parts_nil, parts_cons, st_bslice, st_append, st_mkfun, st_mkface, st_isNil, st_max, v_max, st_min, v_min, st_field, st_index, st_slice0, v_slice0, v_slice0n, st_slice, kill_nil, st_call, v_call, forget_nil, forget_cons, Option.map_some, Option.map_none, Option.bind_some, List.map_cons, List.map_nil, if_true, if_false, Nat.reduceEqDiff, Int.reduceEq, Nat.reduceAdd, Nat.reduceMul, Bool.not_true, Bool.not_false, reduceCtorEq, decide_true, decide_false, Int.cast_ofNat_Int, eq_self, Int.reduceLT, Int.reduceLE, Int.reduceToNat, Int.toNat_natCast, Int.le_refl, Nat.le_refl, Nat.zero_add, Nat.add_zero, Nat.zero_mul, Nat.mul_one, Nat.mul_zero, and_self, and_true, true_and, List.length_cons, List.length_nil, List.all_cons, List.all_nil, Bool.and_self, Bool.and_true, Bool.true_and, List.take_zero, List.nil_append, List.drop_nil, List.append_nil, List.getElem?_cons_zero, List.getElem?_cons_succ, List.drop_succ_cons, List.drop_zero, List.take_succ_cons, List.cons_append, Nat.reduceLeDiff, t2, t4, t5, r1]
    exact ⟨r2, r3, r4, r5⟩
theorem fits0 : Fits [[]] [⟨0, 0, 0, -1⟩] := by
  refine ⟨rfl, rfl, by simp, fun {j x p} hj hp => ?_, fun {j x p u} hj hp => ?_, fun {p u} h => by simp at h, fun {j x} hj => ?_⟩
  · have hj0 : j = 0 := by have := (List.getElem?_eq_some_iff.1 hj).1; simp at this; exact this
    subst hj0
    simp at hj hp
    subst hj hp
    exact Int.le_refl 0
  · have hj0 : j = 0 := by have := (List.getElem?_eq_some_iff.1 hj).1; simp at this; exact this
    subst hj0
    simp at hp
  · have hj0 : j = 0 := by have := (List.getElem?_eq_some_iff.1 hj).1; simp at this; exact this
    subst hj0
    simp at hj
    subst hj
    exact Int.le_refl 0
theorem v_root {H : AHeap} : vBuild [.int .i64 0, .int .i64 0, .int .i64 0, .int .i64 0] [(3, 1, .int .i64 (-1))] H = some (.agg ⟨nd ⟨0, 0, 0, -1⟩⟩, H) := rfl
theorem v_root1 {H : AHeap} {el : TypeId} {x : Nd} : vBslice el 1 4 [.int .i64 0, .int .i64 0, .int .i64 0, .int .i64 0] [(0, 4, .agg ⟨nd x⟩)] H = some (.slice (some ⟨H.n, 0, none⟩) 1 2, H.push ⟨nd x, el, .tip, 0, []⟩) := rfl
theorem v_trie {H : AHeap} {p : Option Addr} {m c : Nat} : vBuild [.slice none 0 0, .slice none 0 0] [(0, 1, .slice p m c)] H = some (.agg ⟨[.slice p m c, .slice none 0 0]⟩, H) := rfl
theorem chk_right {T : List Rl} (h : Right T) (hl : T.length ≤ 512) : ∀ (j i : Nat), i + j = T.length → chk T (T.drop i) i = (-1, 0) := by
  intro j
  induction j with
  | zero => intro i hi; rw [List.drop_of_length_le (by omega)]; rfl
  | succ j ih =>
    intro i hi
    obtain ⟨r, hr, hdr⟩ := drop_at (L := T) (i := i) (by omega)
    have hs := h.1 r (List.mem_of_getElem? hr)
    have hf := h.2 i r hr
    rw [hdr]
    unfold chk
    rw [if_neg (by omega), hs.1, hs.2]
    simp only [Bool.not_true, Bool.or_self, Bool.false_eq_true, if_false]
    rw [if_neg (by omega)]
    exact ih (i + 1) (by omega)
theorem c_Of {a : Value} {L : List Rl} {H : AHeap} (ha : Rules H a L) (hC : Cut Try.prog H a 2) (hR : Right L) (hL : L.length ≤ 512) : Gives (cw Try.prog (tabF tab) om1 16 [a] H) fun v H' => Ext H H' ∧ ∃ (t b : Nat) (vr : Value) (N : List Nd), v = .tuple ⟨[.pointer (some ⟨t, 0, none⟩), .int .i64 0]⟩ ∧ TS H.n H' t b vr N (L.map (·.2)) ∧ Fits (paths L) N ∧ RF (fnd L) (paths L) N ∧ (∀ q, q ∉ paths L → fnd L q = -1) := by
  rw [cw_run (F := F_trie_Of) rfl rfl rfl]
  unfold F_trie_Of k_trie_Of
  obtain ⟨v, H1, c1, x1, rfl⟩ := c_Check ha hC
  have hk := chk_right hR hL L.length 0 (by omega)
  rw [List.drop_zero] at hk
  rw [hk] at c1
  have hx2 := Ext.push H1 ⟨nd ⟨0, 0, 0, -1⟩, 70, .tip, 0, []⟩
  have hx3 := Ext.push (H1.push ⟨nd ⟨0, 0, 0, -1⟩, 70, .tip, 0, []⟩) ⟨[.slice (some ⟨H1.n, 0, none⟩) 1 2, .slice none 0 0], 73, .tip, 0, []⟩
  have hbx : vBox (.agg ⟨[.slice (some ⟨H1.n, 0, none⟩) 1 2, .slice none 0 0]⟩) 73 (H1.push ⟨nd ⟨0, 0, 0, -1⟩, 70, .tip, 0, []⟩) = some (.pointer (some ⟨H1.n + 1, 0, none⟩), (H1.push ⟨nd ⟨0, 0, 0, -1⟩, 70, .tip, 0, []⟩).push ⟨[.slice (some ⟨H1.n, 0, none⟩) 1 2, .slice none 0 0], 73, .tip, 0, []⟩) := by
    have := v_box (H := H1.push ⟨nd ⟨0, 0, 0, -1⟩, 70, .tip, 0, []⟩) (v := .agg ⟨[.slice (some ⟨H1.n, 0, none⟩) 1 2, .slice none 0 0]⟩) (el := 73) rfl
    rw [AHeap.n_push] at this
    exact this
  have hnn := x1.1
  have hT : TS H.n ((H1.push ⟨nd ⟨0, 0, 0, -1⟩, 70, .tip, 0, []⟩).push ⟨[.slice (some ⟨H1.n, 0, none⟩) 1 2, .slice none 0 0], 73, .tip, 0, []⟩) (H1.n + 1) H1.n (.slice none 0 0) [⟨0, 0, 0, -1⟩] [] := by
    refine ⟨by omega, by omega, by omega, by decide, by decide, ⟨0, ?_⟩, ⟨0, [], ?_, fun a ha => by cases ha⟩, ⟨[], ⟨rfl, .inl ⟨rfl, rfl⟩⟩, fun k o ho => by simp at ho⟩, trivial, trivial, trivial⟩
    · have := get_push_self (H := H1.push ⟨nd ⟨0, 0, 0, -1⟩, 70, .tip, 0, []⟩) (b := ⟨[.slice (some ⟨H1.n, 0, none⟩) 1 2, .slice none 0 0], 73, .tip, 0, []⟩)
      rw [AHeap.n_push] at this
      exact this
    · exact hx3.get get_push_self
  obtain ⟨y, e', H', r1, rfl, r3, r4, b', vr', N', q1, q2, q3, q4, q5⟩ := l_Of ha hR hL L.length 0 _ _ _ _ (by omega) ((x1.trans hx2).trans hx3) hT fits0 (fun j x p hj hp => by
    have hj0 : j = 0 := by have := (List.getElem?_eq_some_iff.1 hj).1; simp at this; exact this
    subst hj0
    simp [paths] at hj hp
    subst hj hp
    rfl) (fun q _ => rfl) (by simp)
  have z : ((0 : Int) ≠ 0) = False := by simp
  simp only [Int.cast_ofNat_Int] at r1
  have hl := ha.len (H2 := (H1.push ⟨nd ⟨0, 0, 0, -1⟩, 70, .tip, 0, []⟩).push ⟨[.slice (some ⟨H1.n, 0, none⟩) 1 2, .slice none 0 0], 73, .tip, 0, []⟩)
  simp only [w_draw, dr_cons, dr_some, dr_none, dr_go, still_no, still_yes, next_no, next_yes, last_cons, last_nil, isStore, calm_no, calm_nil, calm_cons, calmB_some, isCall, freshI, dr_nil, dr_end, still_nil, still_cons, stillB_some, stamp_some, stampV_ptr, stampV_tuple, stampO, still_here, still_here0, List.nil_append, w_out, w_gives, fin_ret, fin_normal, ress_nil, ress_tmp, pack_one, pack_nil, pack_two, entry_nil, entry_one, entry_two, entry_three, entry_four, eq_skip, eq_exit, eq_ret, w_rows, w_done, w_seq, w_normal, w_ret, w_exit, w_cond, w_true, w_false, eq_block, block_normal, block_ret, block_exit, rows_nil, rows_cons, on_some, on_none, row_plain, row_guard, guard_tt, guard_ff, guard_tf, guard_ft, guard_no, ev_tmp, ev_int, ev_bool, ev_string, ev_slice, ev_pointer, ev_map, ev_float, ev_complex, ev_nilIface, ev_nilFunc, ev_func, eget_cons, eget_nil, st_mv, st_pick, v_pick_t, v_pick_f, st_ext, v_ext0, v_ext1, v_ext2, v_ext3, st_int, v_int, int_add, int_sub, int_mul, int_eql, int_neq, int_lss, int_leq, int_gtr, int_geq, st_beq, v_beq, v_bne, st_not, v_not, st_conv, v_conv, st_faddr, v_faddr, st_iaddr, v_iaddr, st_aaddr, v_aaddr, st_nilChk, v_nil, st_len, v_len, v_lenS, st_load, v_load, got_one, got_row, mem_tip, mem_ro, mem_ret, st_alloc, st_box, st_store, v_store, got_store, cells_agg, cells_int, cells_bool, cells_slice, cells_pointer, cells_string, cells_complex, cells_func, one_int, one_bool, one_slice, one_pointer, one_string, one_complex, one_func, upd_push, get_push_self, AHeap.n_push, AHeap.n_upd, st_build, parts_nil, parts_cons, st_bslice, st_append, st_mkfun, st_mkface, st_isNil, st_max, v_max, st_min, v_min, st_field, st_index, st_slice0, v_slice0, v_slice0n, st_slice, kill_nil, st_call, v_call, forget_nil, forget_cons, Option.map_some, Option.map_none, Option.bind_some, List.map_cons, List.map_nil, if_true, if_false, Nat.reduceEqDiff, Int.reduceEq, Nat.reduceAdd, Nat.reduceMul, Bool.not_true, Bool.not_false, reduceCtorEq, decide_true, decide_false, Int.cast_ofNat_Int, eq_self, Int.reduceLT, Int.reduceLE, Int.reduceToNat, Int.toNat_natCast, Int.le_refl, Nat.le_refl, Nat.zero_add, Nat.add_zero, Nat.zero_mul, Nat.mul_one, Nat.mul_zero, and_self, and_true, true_and, List.length_cons, List.length_nil, List.all_cons, List.all_nil, Bool.and_self, Bool.and_true, Bool.true_and, List.take_zero, List.nil_append, List.drop_nil, List.append_nil, List.getElem?_cons_zero, List.getElem?_cons_succ, List.drop_succ_cons, List.drop_zero, List.take_succ_cons, List.cons_append, Nat.reduceLeDiff, c1, z, v_root, v_root1, v_trie, hbx, hl]
  rw [w_enter]
  simp only [w_draw, dr_cons, dr_some, dr_none, dr_go, still_no, still_yes, next_no, next_yes, last_cons, last_nil, isStore, calm_no, calm_nil, calm_cons, calmB_some, isCall, freshI, dr_nil, dr_end, still_nil, still_cons, stillB_some, stamp_some, stampV_ptr, stampV_tuple, stampO, still_here, still_here0, List.nil_append, w_out, w_gives, fin_ret, fin_normal, ress_nil, ress_tmp, pack_one, pack_nil, pack_two, entry_nil, entry_one, entry_two, entry_three, entry_four, eq_skip, eq_exit, eq_ret, w_rows, w_done, w_seq, w_normal, w_ret, w_exit, w_cond, w_true, w_false, eq_block, block_normal, block_ret, block_exit, rows_nil, rows_cons, on_some, on_none, row_plain, row_guard, guard_tt, guard_ff, guard_tf, guard_ft, guard_no, ev_tmp, ev_int, ev_bool, ev_string, ev_slice, ev_pointer, ev_map, ev_float, ev_complex, ev_nilIface, ev_nilFunc, ev_func, eget_cons, eget_nil, st_mv, st_pick, v_pick_t, v_pick_f, st_ext, v_ext0, v_ext1, v_ext2, v_ext3, st_int, v_int, int_add, int_sub, int_mul, int_eql, int_neq, int_lss, int_leq, int_gtr, int_geq, st_beq, v_beq, v_bne, st_not, v_not, st_conv, v_conv, st_faddr, v_faddr, st_iaddr, v_iaddr, st_aaddr, v_aaddr, st_nilChk, v_nil, st_len, v_len, v_lenS, st_load, v_load, got_one, got_row, mem_tip, mem_ro, mem_ret, st_alloc, st_box, st_store, v_store, got_store, cells_agg, cells_int, cells_bool, cells_slice, cells_pointer, cells_string, cells_complex, cells_func, one_int, one_bool, one_slice, one_pointer, one_string, one_complex, one_func, upd_push, get_push_self, AHeap.n_push, AHeap.n_upd, st_build, parts_nil, parts_cons, st_bslice, st_append, st_mkfun, st_mkface, st_isNil, st_max, v_max, st_min, v_min, st_field, st_index, st_slice0, v_slice0, v_slice0n, st_slice, kill_nil, st_call, v_call, forget_nil, forget_cons, Option.map_some, Option.map_none, Option.bind_some, List.map_cons, List.map_nil, if_true, if_false, Nat.reduceEqDiff, Int.reduceEq, Nat.reduceAdd, Nat.reduceMul, Bool.not_true, Bool.not_false, reduceCtorEq, decide_true, decide_false, Int.cast_ofNat_Int, eq_self, Int.reduceLT, Int.reduceLE, Int.reduceToNat, Int.toNat_natCast, Int.le_refl, Nat.le_refl, Nat.zero_add, Nat.add_zero, Nat.zero_mul, Nat.mul_one, Nat.mul_zero, and_self, and_true, true_and, List.length_cons, List.length_nil, List.all_cons, List.all_nil, Bool.and_self, Bool.and_true, Bool.true_and, List.take_zero, List.nil_append, List.drop_nil, List.append_nil, List.getElem?_cons_zero, List.getElem?_cons_succ, List.drop_succ_cons, List.drop_zero, List.take_succ_cons, List.cons_append, Nat.reduceLeDiff, r1, r3]
  exact ⟨r4, _, b', vr', N', rfl, q1, q2, q3, q4⟩
end Go.Proofs.Ythnccfmmeaeibaa

/-! The longest rule that units begin with. -/
set_option linter.unusedSimpArgs false
set_option linter.unusedVariables false
namespace Go.Proofs.Ythnccfmmeaeibaa
open Go Lon
def kidAt (N : List Nd) (m : Nat) : Int := match N[m]? with | some x => x.kid | none => 0
def ruleAt (N : List Nd) (m : Nat) : Int := match N[m]? with | some x => x.rule | none => -1
/-- From a node: the longest rule, its units, and whether more may come. -/
def lonF (N : List Nd) (P : List (List Int)) : List Int → Nat → Int → Nat → List Int → Nat → Int × Nat × Bool
  | [], _, k, n, _, m => (k, n, !decide (kidAt N m = 0))
  | u :: us, i, k, n, p, m => match pickU N u (kidsOf P p) with
    | none => (k, n, false)
    | some j => if ruleAt N j ≥ 0 then lonF N P us (i + 1) (ruleAt N j) (i + 1) (p ++ [u]) j else lonF N P us (i + 1) k n (p ++ [u]) j
theorem l_Long {t : Nat} {N : List Nd} {vr b : Value} {P : List (List Int)} {us : List Int} {H : AHeap} (hT : TrieAt H t N vr) (hF : Fits P N) (hb : Ints H b us) (hs : tiny us) : ∀ (c i : Nat) (k : Int) (n : Nat) (p : List Int) (m : Nat), i + c = us.length → P[m]? = some p →
    Out (run Try.prog (tabF tab) om1 (.loop [0, 7, 8, 9, 15, 16, 17] b_trie_Trie__Longest_0) [(0, .pointer (some ⟨t, 0, none⟩)), (7, .int .i64 k), (8, .int .i64 n), (9, .int .i64 m), (15, b), (16, .int .i64 us.length), (17, .int .i64 i)] H) fun y e' H' => H' = H ∧
      ((y = .ret ∧ eget e' 4 = .int .i64 (lonF N P (us.drop i) i k n p m).1 ∧ eget e' 5 = .int .i64 (lonF N P (us.drop i) i k n p m).2.1 ∧ (lonF N P (us.drop i) i k n p m).2.2 = false ∧ eget e' 6 = .bool false) ∨
       (y = .exit 0 ∧ ∃ (m' : Nat) (x : Nd), N[m']? = some x ∧ eget e' 0 = .pointer (some ⟨t, 0, none⟩) ∧ eget e' 7 = .int .i64 (lonF N P (us.drop i) i k n p m).1 ∧ eget e' 8 = .int .i64 (lonF N P (us.drop i) i k n p m).2.1 ∧ eget e' 9 = .int .i64 m' ∧ (lonF N P (us.drop i) i k n p m).2.2 = !decide (x.kid = 0))) := by
  intro c
  unfold tiny at hs
  induction c with
  | zero =>
    intro i k n p m hi hp
    have hlt : ¬ ((i : Int) < us.length) := by omega
    have hml : m < N.length := by rw [hF.len]; exact (List.getElem?_eq_some_iff.1 hp).1
    rw [w_loop_b b_trie_Trie__Longest_0.eq_1, List.drop_of_length_le (by omega)]
    simp only [w_draw, dr_cons, dr_some, dr_none, dr_go, still_no, still_yes, next_no, next_yes, last_cons, last_nil, isStore, calm_no, calm_nil, calm_cons, calmB_some, isCall, freshI, dr_nil, dr_end, still_nil, still_cons, stillB_some, stamp_some, stampV_ptr, stampV_tuple, stampO, still_here, still_here0, List.nil_append, w_out, w_gives, fin_ret, fin_normal, ress_nil, ress_tmp, pack_one, pack_nil, pack_two, entry_nil, entry_one, entry_two, entry_three, entry_four, eq_skip, eq_exit, eq_ret, w_rows, w_done, w_seq, w_normal, w_ret, w_exit, w_cond, w_true, w_false, eq_block, block_normal, block_ret, block_exit, rows_nil, rows_cons, on_some, on_none, row_plain, row_guard, guard_tt, guard_ff, guard_tf, guard_ft, guard_no, ev_tmp, ev_int, ev_bool, ev_string, ev_slice, ev_pointer, ev_map, ev_float, ev_complex, ev_nilIface, ev_nilFunc, ev_func, eget_cons, eget_nil, st_mv, st_pick, v_pick_t, v_pick_f, st_ext, v_ext0, v_ext1, v_ext2, v_ext3, st_int, v_int, int_add, int_sub, int_mul, int_eql, int_neq, int_lss, int_leq, int_gtr, int_geq, st_beq, v_beq, v_bne, st_not, v_not, st_conv, v_conv, st_faddr, v_faddr, st_iaddr, v_iaddr, st_aaddr, v_aaddr, st_nilChk, v_nil, st_len, v_len, v_lenS, st_load, v_load, got_one, got_row, mem_tip, mem_ro, mem_ret, st_alloc, st_box, st_store, v_store, got_store, cells_agg, cells_int, cells_bool, cells_slice, cells_pointer, cells_string, cells_complex, cells_func, one_int, one_bool, one_slice, one_pointer, one_string, one_complex, one_func, upd_push, get_push_self, AHeap.n_push, AHeap.n_upd, st_build, parts_nil, parts_cons, st_bslice, st_append, st_mkfun, st_mkface, st_isNil, st_max, v_max, st_min, v_min, st_field, st_index, st_slice0, v_slice0, v_slice0n, st_slice, kill_nil, st_call, v_call, forget_nil, forget_cons, Option.map_some, Option.map_none, Option.bind_some, List.map_cons, List.map_nil, if_true, if_false, Nat.reduceEqDiff, Int.reduceEq, Nat.reduceAdd, Nat.reduceMul, Bool.not_true, Bool.not_false, reduceCtorEq, decide_true, decide_false, Int.cast_ofNat_Int, eq_self, Int.reduceLT, Int.reduceLE, Int.reduceToNat, Int.toNat_natCast, Int.le_refl, Nat.le_refl, Nat.zero_add, Nat.add_zero, Nat.zero_mul, Nat.mul_one, Nat.mul_zero, and_self, and_true, true_and, List.length_cons, List.length_nil, List.all_cons, List.all_nil, Bool.and_self, Bool.and_true, Bool.true_and, List.take_zero, List.nil_append, List.drop_nil, List.append_nil, List.getElem?_cons_zero, List.getElem?_cons_succ, List.drop_succ_cons, List.drop_zero, List.take_succ_cons, List.cons_append, Nat.reduceLeDiff, hlt, lonF]
    refine .inr ⟨m, N[m], List.getElem?_eq_getElem hml, rfl, ?_⟩
    simp [kidAt, List.getElem?_eq_getElem hml]
  | succ c ih =>
    intro i k n p m hi hp
    have hlt : (i : Int) < us.length := by omega
    obtain ⟨u, hu, hdu⟩ := drop_at (L := us) (i := i) (by omega)
    obtain ⟨i1, o1, h1, h2⟩ := hb.at hu
    have hw2 : IntKind.i64.wrap ((i : Int) + 1) = ((i + 1 : Nat) : Int) := by rw [wrap64 (by omega) (by omega)]; omega
    have hml : m < N.length := by rw [hF.len]; exact (List.getElem?_eq_some_iff.1 hp).1
    have hxm := List.getElem?_eq_getElem hml
    have cS := c_Step (u := u) hT hxm (hF.chain hxm hp)
    rw [w_loop_b b_trie_Trie__Longest_0.eq_1, hdu]
    unfold lonF
    cases hpk : pickU N u (kidsOf P p) with
    | none =>
      rw [hpk] at cS
      simp only at cS
      simp only [w_draw, dr_cons, dr_some, dr_none, dr_go, still_no, still_yes, next_no, next_yes, last_cons, last_nil, isStore, calm_no, calm_nil, calm_cons, calmB_some, isCall, freshI, dr_nil, dr_end, still_nil, still_cons, stillB_some, stamp_some, stampV_ptr, stampV_tuple, stampO, still_here, still_here0, List.nil_append, w_out, w_gives, fin_ret, fin_normal, ress_nil, ress_tmp, pack_one, pack_nil, pack_two, entry_nil, entry_one, entry_two, entry_three, entry_four, eq_skip, eq_exit, eq_ret, w_rows, w_done, w_seq, w_normal, w_ret, w_exit, w_cond, w_true, w_false, eq_block, block_normal, block_ret, block_exit, rows_nil, rows_cons, on_some, on_none, row_plain, row_guard, guard_tt, guard_ff, guard_tf, guard_ft, guard_no, ev_tmp, ev_int, ev_bool, ev_string, ev_slice, ev_pointer, ev_map, ev_float, ev_complex, ev_nilIface, ev_nilFunc, ev_func, eget_cons, eget_nil, st_mv, st_pick, v_pick_t, v_pick_f, st_ext, v_ext0, v_ext1, v_ext2, v_ext3, st_int, v_int, int_add, int_sub, int_mul, int_eql, int_neq, int_lss, int_leq, int_gtr, int_geq, st_beq, v_beq, v_bne, st_not, v_not, st_conv, v_conv, st_faddr, v_faddr, st_iaddr, v_iaddr, st_aaddr, v_aaddr, st_nilChk, v_nil, st_len, v_len, v_lenS, st_load, v_load, got_one, got_row, mem_tip, mem_ro, mem_ret, st_alloc, st_box, st_store, v_store, got_store, cells_agg, cells_int, cells_bool, cells_slice, cells_pointer, cells_string, cells_complex, cells_func, one_int, one_bool, one_slice, one_pointer, one_string, one_complex, one_func, upd_push, get_push_self, AHeap.n_push, AHeap.n_upd, st_build, parts_nil, parts_cons, st_bslice, st_append, st_mkfun, st_mkface, st_isNil, st_max, v_max, st_min, v_min, st_field, st_index, st_slice0, v_slice0, v_slice0n, st_slice, kill_nil, st_call, v_call, forget_nil, forget_cons, Option.map_some, Option.map_none, Option.bind_some, List.map_cons, List.map_nil, if_true, if_false, Nat.reduceEqDiff, Int.reduceEq, Nat.reduceAdd, Nat.reduceMul, Bool.not_true, Bool.not_false, reduceCtorEq, decide_true, decide_false, Int.cast_ofNat_Int, eq_self, Int.reduceLT, Int.reduceLE, Int.reduceToNat, Int.toNat_natCast, Int.le_refl, Nat.le_refl, Nat.zero_add, Nat.add_zero, Nat.zero_mul, Nat.mul_one, Nat.mul_zero, and_self, and_true, true_and, List.length_cons, List.length_nil, List.all_cons, List.all_nil, Bool.and_self, Bool.and_true, Bool.true_and, List.take_zero, List.nil_append, List.drop_nil, List.append_nil, List.getElem?_cons_zero, List.getElem?_cons_succ, List.drop_succ_cons, List.drop_zero, List.take_succ_cons, List.cons_append, Nat.reduceLeDiff, hlt, h1, h2, cS]
      first | done | simp
    | some j =>
      rw [hpk] at cS
      simp only at cS
      have hpj := (pick_iff hF).1 hpk
      have hjl : j < N.length := by rw [hF.len]; exact (List.getElem?_eq_some_iff.1 hpj).1
      have hxj := List.getElem?_eq_getElem hjl
      have cR := c_Rule hT hxj
      have hrj : ruleAt N j = N[j].rule := by unfold ruleAt; rw [hxj]
      simp only [hrj]
      by_cases hr : N[j].rule ≥ 0
      · rw [if_pos hr]
        obtain ⟨y, e', H', r1, r2, r3⟩ := ih (i + 1) N[j].rule (i + 1) (p ++ [u]) j (by omega) hpj
        simp only [w_draw, dr_cons, dr_some, dr_none, dr_go, still_no, still_yes, next_no, next_yes, last_cons, last_nil, isStore, calm_no, calm_nil, calm_cons, calmB_some, isCall, freshI, dr_nil, dr_end, still_nil, still_cons, stillB_some, stamp_some, stampV_ptr, stampV_tuple, stampO, still_here, still_here0, List.nil_append, w_out, w_gives, fin_ret, fin_normal, ress_nil, ress_tmp, pack_one, pack_nil, pack_two, entry_nil, entry_one, entry_two, entry_three, entry_four, eq_skip, eq_exit, eq_ret, w_rows, w_done, w_seq, w_normal, w_ret, w_exit, w_cond, w_true, w_false, eq_block, block_normal, block_ret, block_exit, rows_nil, rows_cons, on_some, on_none, row_plain, row_guard, guard_tt, guard_ff, guard_tf, guard_ft, guard_no, ev_tmp, ev_int, ev_bool, ev_string, ev_slice, ev_pointer, ev_map, ev_float, ev_complex, ev_nilIface, ev_nilFunc, ev_func, eget_cons, eget_nil, st_mv, st_pick, v_pick_t, v_pick_f, st_ext, v_ext0, v_ext1, v_ext2, v_ext3, st_int, v_int, int_add, int_sub, int_mul, int_eql, int_neq, int_lss, int_leq, int_gtr, int_geq, st_beq, v_beq, v_bne, st_not, v_not, st_conv, v_conv, st_faddr, v_faddr, st_iaddr, v_iaddr, st_aaddr, v_aaddr, st_nilChk, v_nil, st_len, v_len, v_lenS, st_load, v_load, got_one, got_row, mem_tip, mem_ro, mem_ret, st_alloc, st_box, st_store, v_store, got_store, cells_agg, cells_int, cells_bool, cells_slice, cells_pointer, cells_string, cells_complex, cells_func, one_int, one_bool, one_slice, one_pointer, one_string, one_complex, one_func, upd_push, get_push_self, AHeap.n_push, AHeap.n_upd, st_build, parts_nil, parts_cons, st_bslice, st_append, st_mkfun, st_mkface, st_isNil, st_max, v_max, st_min, v_min, st_field, st_index, st_slice0, v_slice0, v_slice0n, st_slice, kill_nil, st_call, v_call, forget_nil, forget_cons, Option.map_some, Option.map_none, Option.bind_some, List.map_cons, List.map_nil, if_true, if_false, Nat.reduceEqDiff, Int.reduceEq, Nat.reduceAdd, Nat.reduceMul, Bool.not_true, Bool.not_false, reduceCtorEq, decide_true, decide_false, Int.cast_ofNat_Int, eq_self, Int.reduceLT, Int.reduceLE, Int.reduceToNat, Int.toNat_natCast, Int.le_refl, Nat.le_refl, Nat.zero_add, Nat.add_zero, Nat.zero_mul, Nat.mul_one, Nat.mul_zero, and_self, and_true, true_and, List.length_cons, List.length_nil, List.all_cons, List.all_nil, Bool.and_self, Bool.and_true, Bool.true_and, List.take_zero, List.nil_append, List.drop_nil, List.append_nil, List.getElem?_cons_zero, List.getElem?_cons_succ, List.drop_succ_cons, List.drop_zero, List.take_succ_cons, List.cons_append, Nat.reduceLeDiff, hlt, h1, h2, cS, cR, hr, hw2]
        rw [w_enter]
        simp only [w_draw, dr_cons, dr_some, dr_none, dr_go, still_no, still_yes, next_no, next_yes, last_cons, last_nil, isStore, calm_no, calm_nil, calm_cons, calmB_some, isCall, freshI, dr_nil, dr_end, still_nil, still_cons, stillB_some, stamp_some, stampV_ptr, stampV_tuple, stampO, still_here, still_here0, List.nil_append, w_out, w_gives, fin_ret, fin_normal, ress_nil, ress_tmp, pack_one, pack_nil, pack_two, entry_nil, entry_one, entry_two, entry_three, entry_four, eq_skip, eq_exit, eq_ret, w_rows, w_done, w_seq, w_normal, w_ret, w_exit, w_cond, w_true, w_false, eq_block, block_normal, block_ret, block_exit, rows_nil, rows_cons, on_some, on_none, row_plain, row_guard, guard_tt, guard_ff, guard_tf, guard_ft, guard_no, ev_tmp, ev_int, ev_bool, ev_string, ev_slice, ev_pointer, ev_map, ev_float, ev_complex, ev_nilIface, ev_nilFunc, ev_func, eget_cons, eget_nil, st_mv, st_pick, v_pick_t, v_pick_f, st_ext, v_ext0, v_ext1, v_ext2, v_ext3, st_int, v_int, int_add, int_sub, int_mul, int_eql, int_neq, int_lss, int_leq, int_gtr, int_geq, st_beq, v_beq, v_bne, st_not, v_not, st_conv, v_conv, st_faddr, v_faddr, st_iaddr, v_iaddr, st_aaddr, v_aaddr, st_nilChk, v_nil, st_len, v_len, v_lenS, st_load, v_load, got_one, got_row, mem_tip, mem_ro, mem_ret, st_alloc, st_box, st_store, v_store, got_store, cells_agg, cells_int, cells_bool, cells_slice, cells_pointer, cells_string, cells_complex, cells_func, one_int, one_bool, one_slice, one_pointer, one_string, one_complex, one_func, upd_push, get_push_self, AHeap.n_push, AHeap.n_upd, st_build, parts_nil, parts_cons, st_bslice, st_append, st_mkfun, st_mkface, st_isNil, st_max, v_max, st_min, v_min, st_field, st_index, st_slice0, v_slice0, v_slice0n, st_slice, kill_nil, st_call, v_call, forget_nil, forget_cons, Option.map_some, Option.map_none, Option.bind_some, List.map_cons, List.map_nil, if_true, if_false, Nat.reduceEqDiff, Int.reduceEq, Nat.reduceAdd, Nat.reduceMul, Bool.not_true, Bool.not_false, reduceCtorEq, decide_true, decide_false, Int.cast_ofNat_Int, eq_self, Int.reduceLT, Int.reduceLE, Int.reduceToNat, Int.toNat_natCast, Int.le_refl, Nat.le_refl, Nat.zero_add, Nat.add_zero, Nat.zero_mul, Nat.mul_one, Nat.mul_zero, and_self, and_true, true_and, List.length_cons, List.length_nil, List.all_cons, List.all_nil, Bool.and_self, Bool.and_true, Bool.true_and, List.take_zero, List.nil_append, List.drop_nil, List.append_nil, List.getElem?_cons_zero, List.getElem?_cons_succ, List.drop_succ_cons, List.drop_zero, List.take_succ_cons, List.cons_append, Nat.reduceLeDiff, r1]
        exact ⟨r2, r3⟩
      · rw [if_neg hr]
        obtain ⟨y, e', H', r1, r2, r3⟩ := ih (i + 1) k n (p ++ [u]) j (by omega) hpj
        simp only [w_draw, dr_cons, dr_some, dr_none, dr_go, still_no, still_yes, next_no, next_yes, last_cons, last_nil, isStore, calm_no, calm_nil, calm_cons, calmB_some, isCall, freshI, dr_nil, dr_end, still_nil, still_cons, stillB_some, stamp_some, stampV_ptr, stampV_tuple, stampO, still_here, still_here0, List.nil_append, w_out, w_gives, fin_ret, fin_normal, ress_nil, ress_tmp, pack_one, pack_nil, pack_two, entry_nil, entry_one, entry_two, entry_three, entry_four, eq_skip, eq_exit, eq_ret, w_rows, w_done, w_seq, w_normal, w_ret, w_exit, w_cond, w_true, w_false, eq_block, block_normal, block_ret, block_exit, rows_nil, rows_cons, on_some, on_none, row_plain, row_guard, guard_tt, guard_ff, guard_tf, guard_ft, guard_no, ev_tmp, ev_int, ev_bool, ev_string, ev_slice, ev_pointer, ev_map, ev_float, ev_complex, ev_nilIface, ev_nilFunc, ev_func, eget_cons, eget_nil, st_mv, st_pick, v_pick_t, v_pick_f, st_ext, v_ext0, v_ext1, v_ext2, v_ext3, st_int, v_int, int_add, int_sub, int_mul, int_eql, int_neq, int_lss, int_leq, int_gtr, int_geq, st_beq, v_beq, v_bne, st_not, v_not, st_conv, v_conv, st_faddr, v_faddr, st_iaddr, v_iaddr, st_aaddr, v_aaddr, st_nilChk, v_nil, st_len, v_len, v_lenS, st_load, v_load, got_one, got_row, mem_tip, mem_ro, mem_ret, st_alloc, st_box, st_store, v_store, got_store, cells_agg, cells_int, cells_bool, cells_slice, cells_pointer, cells_string, cells_complex, cells_func, one_int, one_bool, one_slice, one_pointer, one_string, one_complex, one_func, upd_push, get_push_self, AHeap.n_push, AHeap.n_upd, st_build, parts_nil, parts_cons, st_bslice, st_append, st_mkfun, st_mkface, st_isNil, st_max, v_max, st_min, v_min, st_field, st_index, st_slice0, v_slice0, v_slice0n, st_slice, kill_nil, st_call, v_call, forget_nil, forget_cons, Option.map_some, Option.map_none, Option.bind_some, List.map_cons, List.map_nil, if_true, if_false, Nat.reduceEqDiff, Int.reduceEq, Nat.reduceAdd, Nat.reduceMul, Bool.not_true, Bool.not_false, reduceCtorEq, decide_true, decide_false, Int.cast_ofNat_Int, eq_self, Int.reduceLT, Int.reduceLE, Int.reduceToNat, Int.toNat_natCast, Int.le_refl, Nat.le_refl, Nat.zero_add, Nat.add_zero, Nat.zero_mul, Nat.mul_one, Nat.mul_zero, and_self, and_true, true_and, List.length_cons, List.length_nil, List.all_cons, List.all_nil, Bool.and_self, Bool.and_true, Bool.true_and, List.take_zero, List.nil_append, List.drop_nil, List.append_nil, List.getElem?_cons_zero, List.getElem?_cons_succ, List.drop_succ_cons, List.drop_zero, List.take_succ_cons, List.cons_append, Nat.reduceLeDiff, hlt, h1, h2, cS, cR, hr, hw2]
        rw [w_enter]
        simp only [w_draw, dr_cons, dr_some, dr_none, dr_go, still_no, still_yes, next_no, next_yes, last_cons, last_nil, isStore, calm_no, calm_nil, calm_cons, calmB_some, isCall, freshI, dr_nil, dr_end, still_nil, still_cons, stillB_some, stamp_some, stampV_ptr, stampV_tuple, stampO, still_here, still_here0, List.nil_append, w_out, w_gives, fin_ret, fin_normal, ress_nil, ress_tmp, pack_one, pack_nil, pack_two, entry_nil, entry_one, entry_two, entry_three, entry_four, eq_skip, eq_exit, eq_ret, w_rows, w_done, w_seq, w_normal, w_ret, w_exit, w_cond, w_true, w_false, eq_block, block_normal, block_ret, block_exit, rows_nil, rows_cons, on_some, on_none, row_plain, row_guard, guard_tt, guard_ff, guard_tf, guard_ft, guard_no, ev_tmp, ev_int, ev_bool, ev_string, ev_slice, ev_pointer, ev_map, ev_float, ev_complex, ev_nilIface, ev_nilFunc, ev_func, eget_cons, eget_nil, st_mv, st_pick, v_pick_t, v_pick_f, st_ext, v_ext0, v_ext1, v_ext2, v_ext3, st_int, v_int, int_add, int_sub, int_mul, int_eql, int_neq, int_lss, int_leq, int_gtr, int_geq, st_beq, v_beq, v_bne, st_not, v_not, st_conv, v_conv, st_faddr, v_faddr, st_iaddr, v_iaddr, st_aaddr, v_aaddr, st_nilChk, v_nil, st_len, v_len, v_lenS, st_load, v_load, got_one, got_row, mem_tip, mem_ro, mem_ret, st_alloc, st_box, st_store, v_store, got_store, cells_agg, cells_int, cells_bool, cells_slice, cells_pointer, cells_string, cells_complex, cells_func, one_int, one_bool, one_slice, one_pointer, one_string, one_complex, one_func, upd_push, get_push_self, AHeap.n_push, AHeap.n_upd, st_build, parts_nil, parts_cons, st_bslice, st_append, st_mkfun, st_mkface, st_isNil, st_max, v_max, st_min, v_min, st_field, st_index, st_slice0, v_slice0, v_slice0n, st_slice, kill_nil, st_call, v_call, forget_nil, forget_cons, Option.map_some, Option.map_none, Option.bind_some, List.map_cons, List.map_nil, if_true, if_false, Nat.reduceEqDiff, Int.reduceEq, Nat.reduceAdd, Nat.reduceMul, Bool.not_true, Bool.not_false, reduceCtorEq, decide_true, decide_false, Int.cast_ofNat_Int, eq_self, Int.reduceLT, Int.reduceLE, Int.reduceToNat, Int.toNat_natCast, Int.le_refl, Nat.le_refl, Nat.zero_add, Nat.add_zero, Nat.zero_mul, Nat.mul_one, Nat.mul_zero, and_self, and_true, true_and, List.length_cons, List.length_nil, List.all_cons, List.all_nil, Bool.and_self, Bool.and_true, Bool.true_and, List.take_zero, List.nil_append, List.drop_nil, List.append_nil, List.getElem?_cons_zero, List.getElem?_cons_succ, List.drop_succ_cons, List.drop_zero, List.take_succ_cons, List.cons_append, Nat.reduceLeDiff, r1]
        exact ⟨r2, r3⟩
def lon (N : List Nd) (P : List (List Int)) (us : List Int) : Int × Nat × Bool := lonF N P us 0 (-1) 0 [] 0
theorem c_Long {t : Nat} {N : List Nd} {vr b : Value} {P : List (List Int)} {us : List Int} {H : AHeap} (hT : TrieAt H t N vr) (hF : Fits P N) (hb : Ints H b us) (hs : tiny us) :
    cw Try.prog (tabF tab) om1 28 [.pointer (some ⟨t, 0, none⟩), b] H = some (.tuple ⟨[.int .i64 (lon N P us).1, .int .i64 (lon N P us).2.1, .bool (lon N P us).2.2]⟩, H) := by
  rw [cw_run (F := F_trie_Trie__Longest) rfl rfl rfl]
  unfold F_trie_Trie__Longest k_trie_Trie__Longest
  obtain ⟨y, e', H', r1, rfl, r3⟩ := l_Long hT hF hb hs us.length 0 (-1) 0 [] 0 (by omega) hF.root
  have hl := hb.len (H2 := H')
  simp only [Int.cast_ofNat_Int] at r1
  simp only [w_draw, dr_cons, dr_some, dr_none, dr_go, still_no, still_yes, next_no, next_yes, last_cons, last_nil, isStore, calm_no, calm_nil, calm_cons, calmB_some, isCall, freshI, dr_nil, dr_end, still_nil, still_cons, stillB_some, stamp_some, stampV_ptr, stampV_tuple, stampO, still_here, still_here0, List.nil_append, w_out, w_gives, fin_ret, fin_normal, ress_nil, ress_tmp, pack_one, pack_nil, pack_two, entry_nil, entry_one, entry_two, entry_three, entry_four, eq_skip, eq_exit, eq_ret, w_rows, w_done, w_seq, w_normal, w_ret, w_exit, w_cond, w_true, w_false, eq_block, block_normal, block_ret, block_exit, rows_nil, rows_cons, on_some, on_none, row_plain, row_guard, guard_tt, guard_ff, guard_tf, guard_ft, guard_no, ev_tmp, ev_int, ev_bool, ev_string, ev_slice, ev_pointer, ev_map, ev_float, ev_complex, ev_nilIface, ev_nilFunc, ev_func, eget_cons, eget_nil, st_mv, st_pick, v_pick_t, v_pick_f, st_ext, v_ext0, v_ext1, v_ext2, v_ext3, st_int, v_int, int_add, int_sub, int_mul, int_eql, int_neq, int_lss, int_leq, int_gtr, int_geq, st_beq, v_beq, v_bne, st_not, v_not, st_conv, v_conv, st_faddr, v_faddr, st_iaddr, v_iaddr, st_aaddr, v_aaddr, st_nilChk, v_nil, st_len, v_len, v_lenS, st_load, v_load, got_one, got_row, mem_tip, mem_ro, mem_ret, st_alloc, st_box, st_store, v_store, got_store, cells_agg, cells_int, cells_bool, cells_slice, cells_pointer, cells_string, cells_complex, cells_func, one_int, one_bool, one_slice, one_pointer, one_string, one_complex, one_func, upd_push, get_push_self, AHeap.n_push, AHeap.n_upd, st_build, parts_nil, parts_cons, st_bslice, st_append, st_mkfun, st_mkface, st_isNil, st_max, v_max, st_min, v_min, st_field, st_index, st_slice0, v_slice0, v_slice0n, st_slice, kill_nil, st_call, v_call, forget_nil, forget_cons, Option.map_some, Option.map_none, Option.bind_some, List.map_cons, List.map_nil, if_true, if_false, Nat.reduceEqDiff, Int.reduceEq, Nat.reduceAdd, Nat.reduceMul, Bool.not_true, Bool.not_false, reduceCtorEq, decide_true, decide_false, Int.cast_ofNat_Int, eq_self, Int.reduceLT, Int.reduceLE, Int.reduceToNat, Int.toNat_natCast, Int.le_refl, Nat.le_refl, Nat.zero_add, Nat.add_zero, Nat.zero_mul, Nat.mul_one, Nat.mul_zero, and_self, and_true, true_and, List.length_cons, List.length_nil, List.all_cons, List.all_nil, Bool.and_self, Bool.and_true, Bool.true_and, List.take_zero, List.nil_append, List.drop_nil, List.append_nil, List.getElem?_cons_zero, List.getElem?_cons_succ, List.drop_succ_cons, List.drop_zero, List.take_succ_cons, List.cons_append, Nat.reduceLeDiff, hl]
  rw [w_enter]
  simp only [w_draw, dr_cons, dr_some, dr_none, dr_go, still_no, still_yes, next_no, next_yes, last_cons, last_nil, isStore, calm_no, calm_nil, calm_cons, calmB_some, isCall, freshI, dr_nil, dr_end, still_nil, still_cons, stillB_some, stamp_some, stampV_ptr, stampV_tuple, stampO, still_here, still_here0, List.nil_append, w_out, w_gives, fin_ret, fin_normal, ress_nil, ress_tmp, pack_one, pack_nil, pack_two, entry_nil, entry_one, entry_two, entry_three, entry_four, eq_skip, eq_exit, eq_ret, w_rows, w_done, w_seq, w_normal, w_ret, w_exit, w_cond, w_true, w_false, eq_block, block_normal, block_ret, block_exit, rows_nil, rows_cons, on_some, on_none, row_plain, row_guard, guard_tt, guard_ff, guard_tf, guard_ft, guard_no, ev_tmp, ev_int, ev_bool, ev_string, ev_slice, ev_pointer, ev_map, ev_float, ev_complex, ev_nilIface, ev_nilFunc, ev_func, eget_cons, eget_nil, st_mv, st_pick, v_pick_t, v_pick_f, st_ext, v_ext0, v_ext1, v_ext2, v_ext3, st_int, v_int, int_add, int_sub, int_mul, int_eql, int_neq, int_lss, int_leq, int_gtr, int_geq, st_beq, v_beq, v_bne, st_not, v_not, st_conv, v_conv, st_faddr, v_faddr, st_iaddr, v_iaddr, st_aaddr, v_aaddr, st_nilChk, v_nil, st_len, v_len, v_lenS, st_load, v_load, got_one, got_row, mem_tip, mem_ro, mem_ret, st_alloc, st_box, st_store, v_store, got_store, cells_agg, cells_int, cells_bool, cells_slice, cells_pointer, cells_string, cells_complex, cells_func, one_int, one_bool, one_slice, one_pointer, one_string, one_complex, one_func, upd_push, get_push_self, AHeap.n_push, AHeap.n_upd, st_build, parts_nil, parts_cons, st_bslice, st_append, st_mkfun, st_mkface, st_isNil, st_max, v_max, st_min, v_min, st_field, st_index, st_slice0, v_slice0, v_slice0n, st_slice, kill_nil, st_call, v_call, forget_nil, forget_cons, Option.map_some, Option.map_none, Option.bind_some, List.map_cons, List.map_nil, if_true, if_false, Nat.reduceEqDiff, Int.reduceEq, Nat.reduceAdd, Nat.reduceMul, Bool.not_true, Bool.not_false, reduceCtorEq, decide_true, decide_false, Int.cast_ofNat_Int, eq_self, Int.reduceLT, Int.reduceLE, Int.reduceToNat, Int.toNat_natCast, Int.le_refl, Nat.le_refl, Nat.zero_add, Nat.add_zero, Nat.zero_mul, Nat.mul_one, Nat.mul_zero, and_self, and_true, true_and, List.length_cons, List.length_nil, List.all_cons, List.all_nil, Bool.and_self, Bool.and_true, Bool.true_and, List.take_zero, List.nil_append, List.drop_nil, List.append_nil, List.getElem?_cons_zero, List.getElem?_cons_succ, List.drop_succ_cons, List.drop_zero, List.take_succ_cons, List.cons_append, Nat.reduceLeDiff, r1]
  rw [List.drop_zero] at r3
  unfold lon
  rcases r3 with ⟨rfl, r4, r5, r6, r7⟩ | ⟨rfl, m', x, hx, r0, r4, r5, r6, r7⟩
  · simp only [w_draw, dr_cons, dr_some, dr_none, dr_go, still_no, still_yes, next_no, next_yes, last_cons, last_nil, isStore, calm_no, calm_nil, calm_cons, calmB_some, isCall, freshI, dr_nil, dr_end, still_nil, still_cons, stillB_some, stamp_some, stampV_ptr, stampV_tuple, stampO, still_here, still_here0, List.nil_append, w_out, w_gives, fin_ret, fin_normal, ress_nil, ress_tmp, pack_one, pack_nil, pack_two, entry_nil, entry_one, entry_two, entry_three, entry_four, eq_skip, eq_exit, eq_ret, w_rows, w_done, w_seq, w_normal, w_ret, w_exit, w_cond, w_true, w_false, eq_block, block_normal, block_ret, block_exit, rows_nil, rows_cons, on_some, on_none, row_plain, row_guard, guard_tt, guard_ff, guard_tf, guard_ft, guard_no, ev_tmp, ev_int, ev_bool, ev_string, ev_slice, ev_pointer, ev_map, ev_float, ev_complex, ev_nilIface, ev_nilFunc, ev_func, eget_cons, eget_nil, st_mv, st_pick, v_pick_t, v_pick_f, st_ext, v_ext0, v_ext1, v_ext2, v_ext3, st_int, v_int, int_add, int_sub, int_mul, int_eql, int_neq, int_lss, int_leq, int_gtr, int_geq, st_beq, v_beq, v_bne, st_not, v_not, st_conv, v_conv, st_faddr, v_faddr, st_iaddr, v_iaddr, st_aaddr, v_aaddr, st_nilChk, v_nil, st_len, v_len, v_lenS, st_load, v_load, got_one, got_row, mem_tip, mem_ro, mem_ret, st_alloc, st_box, st_store, v_store, got_store, cells_agg, cells_int, cells_bool, cells_slice, cells_pointer, cells_string, cells_complex, cells_func, one_int, one_bool, one_slice, one_pointer, one_string, one_complex, one_func, upd_push, get_push_self, AHeap.n_push, AHeap.n_upd, st_build, parts_nil, parts_cons, st_bslice, st_append, st_mkfun, st_mkface, st_isNil, st_max, v_max, st_min, v_min, st_field, st_index, st_slice0, v_slice0, v_slice0n, st_slice, kill_nil, st_call, v_call, forget_nil, forget_cons, Option.map_some, Option.map_none, Option.bind_some, List.map_cons, List.map_nil, if_true, if_false, Nat.reduceEqDiff, Int.reduceEq, Nat.reduceAdd, Nat.reduceMul, Bool.not_true, Bool.not_false, reduceCtorEq, decide_true, decide_false, Int.cast_ofNat_Int, eq_self, Int.reduceLT, Int.reduceLE, Int.reduceToNat, Int.toNat_natCast, Int.le_refl, Nat.le_refl, Nat.zero_add, Nat.add_zero, Nat.zero_mul, Nat.mul_one, Nat.mul_zero, and_self, and_true, true_and, List.length_cons, List.length_nil, List.all_cons, List.all_nil, Bool.and_self, Bool.and_true, Bool.true_and, List.take_zero, List.nil_append, List.drop_nil, List.append_nil, List.getElem?_cons_zero, List.getElem?_cons_succ, List.drop_succ_cons, List.drop_zero, List.take_succ_cons, List.cons_append, Nat.reduceLeDiff, r4, r5, r6, r7]
  · have cL := c_Leaf hT hx
    simp only [w_draw, dr_cons, dr_some, dr_none, dr_go, still_no, still_yes, next_no, next_yes, last_cons, last_nil, isStore, calm_no, calm_nil, calm_cons, calmB_some, isCall, freshI, dr_nil, dr_end, still_nil, still_cons, stillB_some, stamp_some, stampV_ptr, stampV_tuple, stampO, still_here, still_here0, List.nil_append, w_out, w_gives, fin_ret, fin_normal, ress_nil, ress_tmp, pack_one, pack_nil, pack_two, entry_nil, entry_one, entry_two, entry_three, entry_four, eq_skip, eq_exit, eq_ret, w_rows, w_done, w_seq, w_normal, w_ret, w_exit, w_cond, w_true, w_false, eq_block, block_normal, block_ret, block_exit, rows_nil, rows_cons, on_some, on_none, row_plain, row_guard, guard_tt, guard_ff, guard_tf, guard_ft, guard_no, ev_tmp, ev_int, ev_bool, ev_string, ev_slice, ev_pointer, ev_map, ev_float, ev_complex, ev_nilIface, ev_nilFunc, ev_func, eget_cons, eget_nil, st_mv, st_pick, v_pick_t, v_pick_f, st_ext, v_ext0, v_ext1, v_ext2, v_ext3, st_int, v_int, int_add, int_sub, int_mul, int_eql, int_neq, int_lss, int_leq, int_gtr, int_geq, st_beq, v_beq, v_bne, st_not, v_not, st_conv, v_conv, st_faddr, v_faddr, st_iaddr, v_iaddr, st_aaddr, v_aaddr, st_nilChk, v_nil, st_len, v_len, v_lenS, st_load, v_load, got_one, got_row, mem_tip, mem_ro, mem_ret, st_alloc, st_box, st_store, v_store, got_store, cells_agg, cells_int, cells_bool, cells_slice, cells_pointer, cells_string, cells_complex, cells_func, one_int, one_bool, one_slice, one_pointer, one_string, one_complex, one_func, upd_push, get_push_self, AHeap.n_push, AHeap.n_upd, st_build, parts_nil, parts_cons, st_bslice, st_append, st_mkfun, st_mkface, st_isNil, st_max, v_max, st_min, v_min, st_field, st_index, st_slice0, v_slice0, v_slice0n, st_slice, kill_nil, st_call, v_call, forget_nil, forget_cons, Option.map_some, Option.map_none, Option.bind_some, List.map_cons, List.map_nil, if_true, if_false, Nat.reduceEqDiff, Int.reduceEq, Nat.reduceAdd, Nat.reduceMul, Bool.not_true, Bool.not_false, reduceCtorEq, decide_true, decide_false, Int.cast_ofNat_Int, eq_self, Int.reduceLT, Int.reduceLE, Int.reduceToNat, Int.toNat_natCast, Int.le_refl, Nat.le_refl, Nat.zero_add, Nat.add_zero, Nat.zero_mul, Nat.mul_one, Nat.mul_zero, and_self, and_true, true_and, List.length_cons, List.length_nil, List.all_cons, List.all_nil, Bool.and_self, Bool.and_true, Bool.true_and, List.take_zero, List.nil_append, List.drop_nil, List.append_nil, List.getElem?_cons_zero, List.getElem?_cons_succ, List.drop_succ_cons, List.drop_zero, List.take_succ_cons, List.cons_append, Nat.reduceLeDiff, r0, r4, r5, r6, cL, r7]
theorem lonF_le {N : List Nd} {P : List (List Int)} : ∀ {us : List Int} {i : Nat} {k : Int} {n : Nat} {p : List Int} {m : Nat}, n ≤ i → (lonF N P us i k n p m).2.1 ≤ i + us.length
  | [], i, k, n, p, m, h => by unfold lonF; simpa using h
  | u :: us, i, k, n, p, m, h => by
    unfold lonF
    split
    · simp; omega
    · rename_i j _
      split
      · have := lonF_le (N := N) (P := P) (us := us) (i := i + 1) (k := ruleAt N j) (n := i + 1) (p := p ++ [u]) (m := j) (Nat.le_refl _)
        simp; omega
      · have := lonF_le (N := N) (P := P) (us := us) (i := i + 1) (k := k) (n := n) (p := p ++ [u]) (m := j) (by omega)
        simp; omega
/-- One unit more. -/
theorem lonF_more {N : List Nd} {P : List (List Int)} (hF : Fits P N) {v : Int} : ∀ {us : List Int} {i : Nat} {k : Int} {n : Nat} {p : List Int} {m : Nat}, n ≤ i → P[m]? = some p →
    (lonF N P us i k n p m).2.1 ≤ (lonF N P (us ++ [v]) i k n p m).2.1 ∧ ((lonF N P us i k n p m).2.2 = false → lonF N P (us ++ [v]) i k n p m = lonF N P us i k n p m)
  | [], i, k, n, p, m, h, hp => by
    rw [List.nil_append]
    unfold lonF
    cases hpk : pickU N v (kidsOf P p) with
    | none => exact ⟨Nat.le_refl _, fun h => by simp only at h; simp [h]⟩
    | some j =>
      have hml : m < N.length := by rw [hF.len]; exact (List.getElem?_eq_some_iff.1 hp).1
      have hxm := List.getElem?_eq_getElem hml
      have hc := hF.chain hxm hp
      have hne : kidAt N m ≠ 0 := by
        unfold kidAt
        rw [hxm]
        unfold pickU at hpk
        have hmem := List.mem_of_find?_eq_some hpk
        cases hk : kidsOf P p with
        | nil => rw [hk] at hmem; cases hmem
        | cons a r =>
          rw [hk] at hc
          obtain ⟨h1, h2, _⟩ := hc
          simp only
          omega
      refine ⟨?_, fun h => by simp [hne] at h⟩
      simp only
      split
      · unfold lonF; simp only; omega
      · unfold lonF; exact Nat.le_refl _
  | u :: us, i, k, n, p, m, h, hp => by
    rw [List.cons_append]
    unfold lonF
    cases hpk : pickU N u (kidsOf P p) with
    | none => exact ⟨Nat.le_refl _, fun _ => rfl⟩
    | some j =>
      have hpj := (pick_iff hF).1 hpk
      simp only
      split
      · exact lonF_more hF (Nat.le_refl _) hpj
      · exact lonF_more hF (by omega) hpj
end Go.Proofs.Ythnccfmmeaeibaa

/-! The longest rule, told by the rules alone. -/
set_option linter.unusedSimpArgs false
set_option linter.unusedVariables false
namespace Go.Proofs.Ythnccfmmeaeibaa
open Go Lon
theorem mem_addIns : ∀ {us p : List Int} {P : List (List Int)} {q : List Int}, q ∈ addIns P p us ↔ q ∈ P ∨ ∃ a, a ≠ [] ∧ a <+: us ∧ q = p ++ a
  | [], p, P, q => by
    unfold addIns
    constructor
    · exact .inl
    · rintro (h | ⟨a, h1, h2, _⟩)
      · exact h
      · exact absurd (List.prefix_nil.1 h2) h1
  | u :: us, p, P, q => by
    unfold addIns
    rw [mem_addIns]
    constructor
    · rintro (h | ⟨a, h1, h2, rfl⟩)
      · split at h
        · exact .inl h
        · rcases List.mem_append.1 h with h | h
          · exact .inl h
          · exact .inr ⟨[u], by simp, ⟨us, rfl⟩, by simpa using h⟩
      · exact .inr ⟨u :: a, by simp, List.cons_prefix_cons.2 ⟨rfl, h2⟩, by simp⟩
    · rintro (h | ⟨a, h1, h2, rfl⟩)
      · left
        split
        · exact h
        · exact List.mem_append_left _ h
      · cases a with
        | nil => exact absurd rfl h1
        | cons v a =>
          obtain ⟨rfl, h3⟩ := List.cons_prefix_cons.1 h2
          cases a with
          | nil =>
            left
            split
            · assumption
            · simp
          | cons w a => exact .inr ⟨w :: a, by simp, h3, by simp⟩
theorem mem_pathsG : ∀ {L : List Rl} {P : List (List Int)} {q : List Int}, q ∈ L.foldl (fun P r => addIns P [] r.1) P ↔ q ∈ P ∨ ∃ r ∈ L, q ≠ [] ∧ q <+: r.1
  | [], P, q => by simp
  | r :: L, P, q => by
    rw [List.foldl_cons, mem_pathsG, mem_addIns]
    constructor
    · rintro ((h | ⟨a, h1, h2, rfl⟩) | ⟨x, h1, h2⟩)
      · exact .inl h
      · exact .inr ⟨r, List.mem_cons_self .., by simpa using h1, by simpa using h2⟩
      · exact .inr ⟨x, List.mem_cons_of_mem _ h1, h2⟩
    · rintro (h | ⟨x, h1, h2, h3⟩)
      · exact .inl (.inl h)
      · rcases List.mem_cons.1 h1 with rfl | h1
        · exact .inl (.inr ⟨q, h2, h3, rfl⟩)
        · exact .inr ⟨x, h1, h2, h3⟩
theorem mem_paths {L : List Rl} {q : List Int} : q ∈ paths L ↔ q = [] ∨ ∃ r ∈ L, q ≠ [] ∧ q <+: r.1 := by
  unfold paths
  rw [mem_pathsG, List.mem_singleton]
theorem paths_pre {L : List Rl} {p s : List Int} (h : p ++ s ∈ paths L) : p ∈ paths L := by
  rw [mem_paths] at h ⊢
  by_cases hp : p = []
  · exact .inl hp
  · rcases h with h | ⟨r, h1, h2, h3⟩
    · exact absurd (List.append_eq_nil_iff.1 h).1 hp
    · exact .inr ⟨r, h1, hp, (List.prefix_append p s).trans h3⟩
theorem paths_more {L : List Rl} {q : List Int} : (∃ u, q ++ [u] ∈ paths L) ↔ ∃ r ∈ L, q.length < r.1.length ∧ q <+: r.1 := by
  constructor
  · rintro ⟨u, h⟩
    rcases mem_paths.1 h with h | ⟨r, h1, h2, h3⟩
    · simp at h
    · refine ⟨r, h1, ?_, (List.prefix_append q [u]).trans h3⟩
      have := h3.length_le
      simp at this
      omega
  · rintro ⟨r, h1, h2, t, h3⟩
    cases t with
    | nil => rw [← h3] at h2; simp at h2
    | cons u t => exact ⟨u, mem_paths.2 (.inr ⟨r, h1, by simp, t, by rw [← h3]; simp⟩)⟩
/-- A rule's own place. -/
theorem fnd_get {L : List Rl} (hR : ∀ k r, L[k]? = some r → fnd (L.take k) r.1 < 0) {i : Nat} {r : Rl} (hr : L[i]? = some r) : ∀ (c : Nat), i + 1 + c ≤ L.length → fnd (L.take (i + 1 + c)) r.1 = i
  | 0, h => by
    have htk : L.take (i + 1) = L.take i ++ [r] := by rw [List.take_add_one, hr]; rfl
    show fnd (L.take (i + 1)) r.1 = i
    rw [htk, fnd_snoc (hR i r hr), if_pos rfl, List.length_take, Nat.min_eq_left (by omega)]
  | c + 1, h => by
    have ih := fnd_get hR hr c (by omega)
    obtain ⟨x, hx, _⟩ := drop_at (L := L) (i := i + 1 + c) (by omega)
    have htk : L.take (i + 1 + (c + 1)) = L.take (i + 1 + c) ++ [x] := by
      have : i + 1 + (c + 1) = i + 1 + c + 1 := by omega
      rw [this, List.take_add_one, hx]; rfl
    have hn := hR _ x hx
    rw [htk, fnd_snoc hn, if_neg (fun e => by rw [← e, ih] at hn; omega)]
    exact ih
theorem fnd_at {L : List Rl} (hR : ∀ k r, L[k]? = some r → fnd (L.take k) r.1 < 0) {i : Nat} {r : Rl} (hr : L[i]? = some r) : fnd L r.1 = i := by
  have hl := (List.getElem?_eq_some_iff.1 hr).1
  have := fnd_get hR hr (L.length - (i + 1)) (by omega)
  rwa [List.take_of_length_le (by omega)] at this
/-- The longest In with which units begin, its rule. -/
def Pre (L : List Rl) (q : List Int) (k : Int) (n : Nat) : Prop := n ≤ q.length ∧ (n = 0 → k = -1) ∧ (0 < n → k = fnd L (q.take n) ∧ 0 ≤ k) ∧ ∀ m, n < m → m ≤ q.length → fnd L (q.take m) < 0
theorem Pre.uniq {L : List Rl} {q : List Int} {k k' : Int} {n n' : Nat} (h : Pre L q k n) (h' : Pre L q k' n') : k = k' ∧ n = n' := by
  obtain ⟨a1, a2, a3, a4⟩ := h
  obtain ⟨b1, b2, b3, b4⟩ := h'
  rcases Nat.lt_trichotomy n n' with hlt | rfl | hlt
  · have h1 := a4 n' hlt b1
    obtain ⟨h2, h3⟩ := b3 (by omega)
    omega
  · refine ⟨?_, rfl⟩
    rcases Nat.eq_zero_or_pos n with h0 | h0
    · rw [a2 h0, b2 h0]
    · rw [(a3 h0).1, (b3 h0).1]
  · have h1 := b4 n hlt a1
    obtain ⟨h2, h3⟩ := a3 (by omega)
    omega
theorem lonF_is {L : List Rl} {N : List Nd} (hF : Fits (paths L) N) (hRF : RF (fnd L) (paths L) N) (hρ : ∀ q, q ∉ paths L → fnd L q = -1) : ∀ (us p : List Int) (k : Int) (n m : Nat), (paths L)[m]? = some p → Pre L p k n →
    Pre L (p ++ us) (lonF N (paths L) us p.length k n p m).1 (lonF N (paths L) us p.length k n p m).2.1 ∧ ((lonF N (paths L) us p.length k n p m).2.2 = true ↔ ∃ u, p ++ us ++ [u] ∈ paths L) := by
  intro us
  induction us with
  | nil =>
    intro p k n m hp hpre
    unfold lonF
    rw [List.append_nil]
    refine ⟨hpre, ?_⟩
    have hml : m < N.length := by rw [hF.len]; exact (List.getElem?_eq_some_iff.1 hp).1
    have hx := List.getElem?_eq_getElem hml
    have hc := hF.chain hx hp
    have h0 := hF.kid0 hx
    have hk : kidAt N m = N[m].kid := by unfold kidAt; rw [hx]
    simp only [hk, Bool.not_eq_true', decide_eq_false_iff_not]
    constructor
    · intro hne
      cases hkk : kidsOf (paths L) p with
      | nil =>
        rw [hkk] at hc
        have : N[m].kid ≤ 0 := hc
        omega
      | cons j r =>
        obtain ⟨u, hu⟩ := mem_kids.1 (show j ∈ kidsOf (paths L) p by rw [hkk]; exact List.mem_cons_self ..)
        exact ⟨u, List.mem_of_getElem? hu⟩
    · rintro ⟨u, hu⟩
      obtain ⟨j, hj, hju⟩ := List.getElem_of_mem hu
      have hm : j ∈ kidsOf (paths L) p := mem_kids.2 ⟨u, by rw [List.getElem?_eq_getElem hj, hju]⟩
      cases hkk : kidsOf (paths L) p with
      | nil => rw [hkk] at hm; cases hm
      | cons j r =>
        rw [hkk] at hc
        obtain ⟨h1, h2, _⟩ := hc
        omega
  | cons u us ih =>
    intro p k n m hp hpre
    unfold lonF
    have happ : p ++ u :: us = p ++ [u] ++ us := by simp
    cases hpk : pickU N u (kidsOf (paths L) p) with
    | none =>
      have hno := (pick_none hF).1 hpk
      obtain ⟨a1, a2, a3, a4⟩ := hpre
      refine ⟨⟨by simp; omega, a2, fun h => ?_, fun m' h1 h2 => ?_⟩, ?_⟩
      · rw [List.take_append_of_le_length a1]
        exact a3 h
      · rcases Nat.lt_or_ge p.length m' with hl | hl
        · have : (p ++ u :: us).take m' = p ++ [u] ++ us.take (m' - p.length - 1) := by
            rw [List.take_append, List.take_of_length_le (by omega)]
            obtain ⟨d, hd⟩ : ∃ d, m' - p.length = d + 1 := ⟨m' - p.length - 1, by omega⟩
            rw [hd]
            simp
          rw [this, hρ _ (fun hm => hno (paths_pre hm))]
          decide
        · rw [List.take_append_of_le_length hl]
          exact a4 m' h1 hl
      · simp only [Bool.false_eq_true, false_iff]
        rintro ⟨v, hv⟩
        rw [happ, List.append_assoc] at hv
        exact hno (paths_pre hv)
    | some j =>
      have hpj := (pick_iff hF).1 hpk
      have hjl : j < N.length := by rw [hF.len]; exact (List.getElem?_eq_some_iff.1 hpj).1
      have hxj := List.getElem?_eq_getElem hjl
      have hrj : ruleAt N j = fnd L (p ++ [u]) := by unfold ruleAt; rw [hxj]; exact hRF _ _ _ hxj hpj
      obtain ⟨a1, a2, a3, a4⟩ := hpre
      have hlen : (p ++ [u]).length = p.length + 1 := by simp
      rw [happ]
      simp only
      rw [hrj]
      by_cases h0 : fnd L (p ++ [u]) ≥ 0
      · rw [if_pos h0]
        have := ih (p ++ [u]) (fnd L (p ++ [u])) (p.length + 1) j hpj ⟨by omega, fun h => by omega, fun _ => ⟨by rw [List.take_of_length_le (by omega)], h0⟩, fun m' h1 h2 => by omega⟩
        rw [hlen] at this
        exact this
      · rw [if_neg h0]
        have := ih (p ++ [u]) k n j hpj ⟨by omega, a2, fun h => by rw [List.take_append_of_le_length a1]; exact a3 h, fun m' h1 h2 => by
          rcases Nat.lt_or_ge p.length m' with hl | hl
          · rw [List.take_of_length_le (by omega)]; omega
          · rw [List.take_append_of_le_length hl]; exact a4 m' h1 hl⟩
        rw [hlen] at this
        exact this
theorem lon_is {L : List Rl} {N : List Nd} (hF : Fits (paths L) N) (hRF : RF (fnd L) (paths L) N) (hρ : ∀ q, q ∉ paths L → fnd L q = -1) (us : List Int) :
    Pre L us (lon N (paths L) us).1 (lon N (paths L) us).2.1 ∧ ((lon N (paths L) us).2.2 = true ↔ ∃ r ∈ L, us.length < r.1.length ∧ us <+: r.1) := by
  have := lonF_is hF hRF hρ us [] (-1) 0 0 hF.root ⟨Nat.le_refl _, fun _ => rfl, fun h => by omega, fun m h1 h2 => by simp at h2; omega⟩
  rw [List.nil_append, paths_more] at this
  exact this
/-- The document's loop. -/
def docF (us : List Int) : List Rl → Nat → Int → Nat → Bool → Int × Nat × Bool
  | [], _, k, n, o => (k, n, o)
  | r :: L, i, k, n, o =>
    if r.1.length ≤ us.length ∧ r.1 = us.take r.1.length ∧ n < r.1.length then docF us L (i + 1) i r.1.length (o || (decide (us.length < r.1.length) && decide (r.1.take us.length = us)))
    else docF us L (i + 1) k n (o || (decide (us.length < r.1.length) && decide (r.1.take us.length = us)))
theorem pre_take {a b : List Int} : a <+: b ↔ b.take a.length = a := by
  constructor
  · rintro ⟨t, rfl⟩; simp
  · intro h; exact ⟨b.drop a.length, by have := List.take_append_drop a.length b; rw [h] at this; exact this⟩
theorem docF_is {us : List Int} : ∀ (R T : List Rl) (k : Int) (n : Nat) (o : Bool), (∀ j r, (T ++ R)[j]? = some r → fnd ((T ++ R).take j) r.1 < 0) → Pre T us k n → (o = true ↔ ∃ r ∈ T, us.length < r.1.length ∧ us <+: r.1) →
    Pre (T ++ R) us (docF us R T.length k n o).1 (docF us R T.length k n o).2.1 ∧ ((docF us R T.length k n o).2.2 = true ↔ ∃ r ∈ T ++ R, us.length < r.1.length ∧ us <+: r.1)
  | [], T, k, n, o, hR, hp, ho => by
    rw [List.append_nil]
    exact ⟨hp, ho⟩
  | r :: R, T, k, n, o, hR, hp, ho => by
    have happ : T ++ r :: R = T ++ [r] ++ R := by simp
    have hn : fnd T r.1 < 0 := by
      have := hR T.length r (by rw [List.getElem?_append_right (Nat.le_refl _), Nat.sub_self]; rfl)
      rwa [List.take_left] at this
    have hl : (T ++ [r]).length = T.length + 1 := by simp
    obtain ⟨a1, a2, a3, a4⟩ := hp
    have ho' : (o || (decide (us.length < r.1.length) && decide (r.1.take us.length = us))) = true ↔ ∃ x ∈ T ++ [r], us.length < x.1.length ∧ us <+: x.1 := by
      rw [Bool.or_eq_true, Bool.and_eq_true, decide_eq_true_eq, decide_eq_true_eq, ← pre_take, ho]
      constructor
      · rintro (⟨x, h1, h2⟩ | h)
        · exact ⟨x, List.mem_append_left _ h1, h2⟩
        · exact ⟨r, by simp, h⟩
      · rintro ⟨x, h1, h2⟩
        rcases List.mem_append.1 h1 with h1 | h1
        · exact .inl ⟨x, h1, h2⟩
        · simp at h1
          subst h1
          exact .inr h2
    rw [happ] at hR ⊢
    unfold docF
    split
    · rename_i hc
      obtain ⟨c1, c2, c3⟩ := hc
      have := docF_is R (T ++ [r]) T.length r.1.length _ hR ⟨c1, fun h => by omega, fun _ => ⟨by rw [fnd_snoc hn, if_pos c2.symm], by omega⟩, fun m h1 h2 => by
        rw [fnd_snoc hn, if_neg (fun e => by have := congrArg List.length e; rw [List.length_take] at this; omega)]
        exact a4 m (by omega) h2⟩ ho'
      rw [hl] at this
      exact this
    · rename_i hc
      have := docF_is R (T ++ [r]) k n _ hR ⟨a1, a2, fun h => by
        obtain ⟨b1, b2⟩ := a3 h
        rw [fnd_snoc hn, if_neg (fun e => by rw [e] at b1; omega)]
        exact ⟨b1, b2⟩, fun m h1 h2 => by
        rw [fnd_snoc hn, if_neg (fun e => hc (by
          have hm : r.1.length = m := by rw [← e, List.length_take]; omega
          exact ⟨by omega, by rw [hm]; exact e.symm, by omega⟩))]
        exact a4 m h1 h2⟩ ho'
      rw [hl] at this
      exact this
/-- What is read of a trie is what the document says. -/
theorem lon_doc {L : List Rl} {N : List Nd} (hR : Right L) (hF : Fits (paths L) N) (hRF : RF (fnd L) (paths L) N) (hρ : ∀ q, q ∉ paths L → fnd L q = -1) (us : List Int) : lon N (paths L) us = docF us L 0 (-1) 0 false := by
  obtain ⟨h1, h2⟩ := lon_is hF hRF hρ us
  have h0 : ∀ (q : List Int), fnd [] q = -1 := fun _ => rfl
  obtain ⟨h3, h4⟩ := docF_is (us := us) L [] (-1) 0 false (by simpa using hR.2) ⟨Nat.zero_le _, fun _ => rfl, fun h => by omega, fun m _ _ => by rw [h0]; decide⟩ (by simp)
  rw [List.nil_append] at h3 h4
  obtain ⟨e1, e2⟩ := h1.uniq h3
  have e3 : (lon N (paths L) us).2.2 = (docF us L 0 (-1) 0 false).2.2 := by
    rw [Bool.eq_iff_iff]
    exact h2.trans h4.symm
  exact Prod.ext e1 (Prod.ext e2 e3)
end Go.Proofs.Ythnccfmmeaeibaa

/-! A trie in memory, read: what is out of range; its size; the Outs. -/
set_option linter.unusedSimpArgs false
set_option linter.unusedVariables false
namespace Go.Proofs.Ythnccfmmeaeibaa
open Go Lon
theorem c_RuleNo {t : Nat} {N : List Nd} {vr : Value} {a : Int} {H : AHeap} (hr : TrieAt H t N vr) (ha : a < 0 ∨ a ≥ N.length) : cw Try.prog (tabF tab) om1 39 [.pointer (some ⟨t, 0, none⟩), .int .i64 a] H = some (.int .i64 (-1), H) := by
  obtain ⟨vn, hr⟩ := hr.rd
  rw [cw_run (F := F_trie_Trie__Rule) rfl rfl rfl]
  unfold F_trie_Trie__Rule k_trie_Trie__Rule
  have hl := hr.len H
  have hn := hr.nodes
  by_cases h1 : a < 0
  · simp only [w_draw, dr_cons, dr_some, dr_none, dr_go, still_no, still_yes, next_no, next_yes, last_cons, last_nil, isStore, calm_no, calm_nil, calm_cons, calmB_some, isCall, freshI, dr_nil, dr_end, still_nil, still_cons, stillB_some, stamp_some, stampV_ptr, stampV_tuple, stampO, still_here, still_here0, List.nil_append, w_out, w_gives, fin_ret, fin_normal, ress_nil, ress_tmp, pack_one, pack_nil, pack_two, entry_nil, entry_one, entry_two, entry_three, entry_four, eq_skip, eq_exit, eq_ret, w_rows, w_done, w_seq, w_normal, w_ret, w_exit, w_cond, w_true, w_false, eq_block, block_normal, block_ret, block_exit, rows_nil, rows_cons, on_some, on_none, row_plain, row_guard, guard_tt, guard_ff, guard_tf, guard_ft, guard_no, ev_tmp, ev_int, ev_bool, ev_string, ev_slice, ev_pointer, ev_map, ev_float, ev_complex, ev_nilIface, ev_nilFunc, ev_func, eget_cons, eget_nil, st_mv, st_pick, v_pick_t, v_pick_f, st_ext, v_ext0, v_ext1, v_ext2, v_ext3, st_int, v_int, int_add, int_sub, int_mul, int_eql, int_neq, int_lss, int_leq, int_gtr, int_geq, st_beq, v_beq, v_bne, st_not, v_not, st_conv, v_conv, st_faddr, v_faddr, st_iaddr, v_iaddr, st_aaddr, v_aaddr, st_nilChk, v_nil, st_len, v_len, v_lenS, st_load, v_load, got_one, got_row, mem_tip, mem_ro, mem_ret, st_alloc, st_box, st_store, v_store, got_store, cells_agg, cells_int, cells_bool, cells_slice, cells_pointer, cells_string, cells_complex, cells_func, one_int, one_bool, one_slice, one_pointer, one_string, one_complex, one_func, upd_push, get_push_self, AHeap.n_push, AHeap.n_upd, st_build, parts_nil, parts_cons, st_bslice, st_append, st_mkfun, st_mkface, st_isNil, st_max, v_max, st_min, v_min, st_field, st_index, st_slice0, v_slice0, v_slice0n, st_slice, kill_nil, st_call, v_call, forget_nil, forget_cons, Option.map_some, Option.map_none, Option.bind_some, List.map_cons, List.map_nil, if_true, if_false, Nat.reduceEqDiff, Int.reduceEq, Nat.reduceAdd, Nat.reduceMul, Bool.not_true, Bool.not_false, reduceCtorEq, decide_true, decide_false, Int.cast_ofNat_Int, eq_self, Int.reduceLT, Int.reduceLE, Int.reduceToNat, Int.toNat_natCast, Int.le_refl, Nat.le_refl, Nat.zero_add, Nat.add_zero, Nat.zero_mul, Nat.mul_one, Nat.mul_zero, and_self, and_true, true_and, List.length_cons, List.length_nil, List.all_cons, List.all_nil, Bool.and_self, Bool.and_true, Bool.true_and, List.take_zero, List.nil_append, List.drop_nil, List.append_nil, List.getElem?_cons_zero, List.getElem?_cons_succ, List.drop_succ_cons, List.drop_zero, List.take_succ_cons, List.cons_append, Nat.reduceLeDiff, h1]
  · have h2 : a ≥ (N.length : Int) := by omega
    simp only [w_draw, dr_cons, dr_some, dr_none, dr_go, still_no, still_yes, next_no, next_yes, last_cons, last_nil, isStore, calm_no, calm_nil, calm_cons, calmB_some, isCall, freshI, dr_nil, dr_end, still_nil, still_cons, stillB_some, stamp_some, stampV_ptr, stampV_tuple, stampO, still_here, still_here0, List.nil_append, w_out, w_gives, fin_ret, fin_normal, ress_nil, ress_tmp, pack_one, pack_nil, pack_two, entry_nil, entry_one, entry_two, entry_three, entry_four, eq_skip, eq_exit, eq_ret, w_rows, w_done, w_seq, w_normal, w_ret, w_exit, w_cond, w_true, w_false, eq_block, block_normal, block_ret, block_exit, rows_nil, rows_cons, on_some, on_none, row_plain, row_guard, guard_tt, guard_ff, guard_tf, guard_ft, guard_no, ev_tmp, ev_int, ev_bool, ev_string, ev_slice, ev_pointer, ev_map, ev_float, ev_complex, ev_nilIface, ev_nilFunc, ev_func, eget_cons, eget_nil, st_mv, st_pick, v_pick_t, v_pick_f, st_ext, v_ext0, v_ext1, v_ext2, v_ext3, st_int, v_int, int_add, int_sub, int_mul, int_eql, int_neq, int_lss, int_leq, int_gtr, int_geq, st_beq, v_beq, v_bne, st_not, v_not, st_conv, v_conv, st_faddr, v_faddr, st_iaddr, v_iaddr, st_aaddr, v_aaddr, st_nilChk, v_nil, st_len, v_len, v_lenS, st_load, v_load, got_one, got_row, mem_tip, mem_ro, mem_ret, st_alloc, st_box, st_store, v_store, got_store, cells_agg, cells_int, cells_bool, cells_slice, cells_pointer, cells_string, cells_complex, cells_func, one_int, one_bool, one_slice, one_pointer, one_string, one_complex, one_func, upd_push, get_push_self, AHeap.n_push, AHeap.n_upd, st_build, parts_nil, parts_cons, st_bslice, st_append, st_mkfun, st_mkface, st_isNil, st_max, v_max, st_min, v_min, st_field, st_index, st_slice0, v_slice0, v_slice0n, st_slice, kill_nil, st_call, v_call, forget_nil, forget_cons, Option.map_some, Option.map_none, Option.bind_some, List.map_cons, List.map_nil, if_true, if_false, Nat.reduceEqDiff, Int.reduceEq, Nat.reduceAdd, Nat.reduceMul, Bool.not_true, Bool.not_false, reduceCtorEq, decide_true, decide_false, Int.cast_ofNat_Int, eq_self, Int.reduceLT, Int.reduceLE, Int.reduceToNat, Int.toNat_natCast, Int.le_refl, Nat.le_refl, Nat.zero_add, Nat.add_zero, Nat.zero_mul, Nat.mul_one, Nat.mul_zero, and_self, and_true, true_and, List.length_cons, List.length_nil, List.all_cons, List.all_nil, Bool.and_self, Bool.and_true, Bool.true_and, List.take_zero, List.nil_append, List.drop_nil, List.append_nil, List.getElem?_cons_zero, List.getElem?_cons_succ, List.drop_succ_cons, List.drop_zero, List.take_succ_cons, List.cons_append, Nat.reduceLeDiff, h1, hn, hl, h2]
theorem c_LeafNo {t : Nat} {N : List Nd} {vr : Value} {a : Int} {H : AHeap} (hr : TrieAt H t N vr) (ha : a < 0 ∨ a ≥ N.length) : cw Try.prog (tabF tab) om1 40 [.pointer (some ⟨t, 0, none⟩), .int .i64 a] H = some (.bool true, H) := by
  obtain ⟨vn, hr⟩ := hr.rd
  rw [cw_run (F := F_trie_Trie__Leaf) rfl rfl rfl]
  unfold F_trie_Trie__Leaf k_trie_Trie__Leaf
  have hl := hr.len H
  have hn := hr.nodes
  by_cases h1 : a < 0
  · simp only [w_draw, dr_cons, dr_some, dr_none, dr_go, still_no, still_yes, next_no, next_yes, last_cons, last_nil, isStore, calm_no, calm_nil, calm_cons, calmB_some, isCall, freshI, dr_nil, dr_end, still_nil, still_cons, stillB_some, stamp_some, stampV_ptr, stampV_tuple, stampO, still_here, still_here0, List.nil_append, w_out, w_gives, fin_ret, fin_normal, ress_nil, ress_tmp, pack_one, pack_nil, pack_two, entry_nil, entry_one, entry_two, entry_three, entry_four, eq_skip, eq_exit, eq_ret, w_rows, w_done, w_seq, w_normal, w_ret, w_exit, w_cond, w_true, w_false, eq_block, block_normal, block_ret, block_exit, rows_nil, rows_cons, on_some, on_none, row_plain, row_guard, guard_tt, guard_ff, guard_tf, guard_ft, guard_no, ev_tmp, ev_int, ev_bool, ev_string, ev_slice, ev_pointer, ev_map, ev_float, ev_complex, ev_nilIface, ev_nilFunc, ev_func, eget_cons, eget_nil, st_mv, st_pick, v_pick_t, v_pick_f, st_ext, v_ext0, v_ext1, v_ext2, v_ext3, st_int, v_int, int_add, int_sub, int_mul, int_eql, int_neq, int_lss, int_leq, int_gtr, int_geq, st_beq, v_beq, v_bne, st_not, v_not, st_conv, v_conv, st_faddr, v_faddr, st_iaddr, v_iaddr, st_aaddr, v_aaddr, st_nilChk, v_nil, st_len, v_len, v_lenS, st_load, v_load, got_one, got_row, mem_tip, mem_ro, mem_ret, st_alloc, st_box, st_store, v_store, got_store, cells_agg, cells_int, cells_bool, cells_slice, cells_pointer, cells_string, cells_complex, cells_func, one_int, one_bool, one_slice, one_pointer, one_string, one_complex, one_func, upd_push, get_push_self, AHeap.n_push, AHeap.n_upd, st_build, parts_nil, parts_cons, st_bslice, st_append, st_mkfun, st_mkface, st_isNil, st_max, v_max, st_min, v_min, st_field, st_index, st_slice0, v_slice0, v_slice0n, st_slice, kill_nil, st_call, v_call, forget_nil, forget_cons, Option.map_some, Option.map_none, Option.bind_some, List.map_cons, List.map_nil, if_true, if_false, Nat.reduceEqDiff, Int.reduceEq, Nat.reduceAdd, Nat.reduceMul, Bool.not_true, Bool.not_false, reduceCtorEq, decide_true, decide_false, Int.cast_ofNat_Int, eq_self, Int.reduceLT, Int.reduceLE, Int.reduceToNat, Int.toNat_natCast, Int.le_refl, Nat.le_refl, Nat.zero_add, Nat.add_zero, Nat.zero_mul, Nat.mul_one, Nat.mul_zero, and_self, and_true, true_and, List.length_cons, List.length_nil, List.all_cons, List.all_nil, Bool.and_self, Bool.and_true, Bool.true_and, List.take_zero, List.nil_append, List.drop_nil, List.append_nil, List.getElem?_cons_zero, List.getElem?_cons_succ, List.drop_succ_cons, List.drop_zero, List.take_succ_cons, List.cons_append, Nat.reduceLeDiff, h1]
  · have h2 : a ≥ (N.length : Int) := by omega
    simp only [w_draw, dr_cons, dr_some, dr_none, dr_go, still_no, still_yes, next_no, next_yes, last_cons, last_nil, isStore, calm_no, calm_nil, calm_cons, calmB_some, isCall, freshI, dr_nil, dr_end, still_nil, still_cons, stillB_some, stamp_some, stampV_ptr, stampV_tuple, stampO, still_here, still_here0, List.nil_append, w_out, w_gives, fin_ret, fin_normal, ress_nil, ress_tmp, pack_one, pack_nil, pack_two, entry_nil, entry_one, entry_two, entry_three, entry_four, eq_skip, eq_exit, eq_ret, w_rows, w_done, w_seq, w_normal, w_ret, w_exit, w_cond, w_true, w_false, eq_block, block_normal, block_ret, block_exit, rows_nil, rows_cons, on_some, on_none, row_plain, row_guard, guard_tt, guard_ff, guard_tf, guard_ft, guard_no, ev_tmp, ev_int, ev_bool, ev_string, ev_slice, ev_pointer, ev_map, ev_float, ev_complex, ev_nilIface, ev_nilFunc, ev_func, eget_cons, eget_nil, st_mv, st_pick, v_pick_t, v_pick_f, st_ext, v_ext0, v_ext1, v_ext2, v_ext3, st_int, v_int, int_add, int_sub, int_mul, int_eql, int_neq, int_lss, int_leq, int_gtr, int_geq, st_beq, v_beq, v_bne, st_not, v_not, st_conv, v_conv, st_faddr, v_faddr, st_iaddr, v_iaddr, st_aaddr, v_aaddr, st_nilChk, v_nil, st_len, v_len, v_lenS, st_load, v_load, got_one, got_row, mem_tip, mem_ro, mem_ret, st_alloc, st_box, st_store, v_store, got_store, cells_agg, cells_int, cells_bool, cells_slice, cells_pointer, cells_string, cells_complex, cells_func, one_int, one_bool, one_slice, one_pointer, one_string, one_complex, one_func, upd_push, get_push_self, AHeap.n_push, AHeap.n_upd, st_build, parts_nil, parts_cons, st_bslice, st_append, st_mkfun, st_mkface, st_isNil, st_max, v_max, st_min, v_min, st_field, st_index, st_slice0, v_slice0, v_slice0n, st_slice, kill_nil, st_call, v_call, forget_nil, forget_cons, Option.map_some, Option.map_none, Option.bind_some, List.map_cons, List.map_nil, if_true, if_false, Nat.reduceEqDiff, Int.reduceEq, Nat.reduceAdd, Nat.reduceMul, Bool.not_true, Bool.not_false, reduceCtorEq, decide_true, decide_false, Int.cast_ofNat_Int, eq_self, Int.reduceLT, Int.reduceLE, Int.reduceToNat, Int.toNat_natCast, Int.le_refl, Nat.le_refl, Nat.zero_add, Nat.add_zero, Nat.zero_mul, Nat.mul_one, Nat.mul_zero, and_self, and_true, true_and, List.length_cons, List.length_nil, List.all_cons, List.all_nil, Bool.and_self, Bool.and_true, Bool.true_and, List.take_zero, List.nil_append, List.drop_nil, List.append_nil, List.getElem?_cons_zero, List.getElem?_cons_succ, List.drop_succ_cons, List.drop_zero, List.take_succ_cons, List.cons_append, Nat.reduceLeDiff, h1, hn, hl, h2]
theorem app_nil2 {H : AHeap} {x : Value} {l : List Int} {el : TypeId} (hx : Ints H x l) (hb : l.length * 8 ≤ 140737488355328) :
    ∃ v H', appendA H (.slice none 0 0) x el 1 8 = some (v, H') ∧ Ext H H' ∧ Ints H' v l ∧ From H.n v ∧ ((Try.prog.info? el).map (·.size) = some 1 → Cut Try.prog H' v 1) := by
  by_cases hl : 0 < l.length
  · obtain ⟨c, h⟩ := app_new (el := el) hx hb hl
    exact ⟨_, _, h, Ext.push _ _, Sl.new get_push_self mem_tip (by simp [ints]), Nat.le_refl _, fun he => Cut.new get_push_self he⟩
  · have h0 : l.length = 0 := by omega
    have h1 : l = [] := List.length_eq_zero_iff.1 h0
    subst h1
    refine ⟨.slice none 0 0, H, ?_, Ext.refl _, Sl.nil H 1, trivial, fun _ => trivial⟩
    obtain ⟨⟨a, c, rfl⟩, hc⟩ := hx
    have h2 : cellsOf H 1 (.slice none 0 0) = some [] := rfl
    unfold appendA
    simp only [h2, hc]
    exact if_pos List.length_nil
/-- A rule's Out, as the trie holds it. -/
theorem c_Out {t i : Nat} {N : List Nd} {vr : Value} {O : List (List Int)} {o : List Int} {H : AHeap} (hr : TrieAt H t N vr) (hO : Rules H vr (O.map fun o => ([], o))) (ho : O[i]? = some o) (hb : o.length * 8 ≤ 140737488355328) :
    Gives (cw Try.prog (tabF tab) om1 44 [.pointer (some ⟨t, 0, none⟩), .int .i64 (i : Int)] H) fun v H' => Ext H H' ∧ Ints H' v o ∧ From H.n v ∧ Cut Try.prog H' v 1 := by
  obtain ⟨vn, hr⟩ := hr.rd
  rw [cw_run (F := F_trie_Trie__Out) rfl rfl rfl]
  unfold F_trie_Trie__Out k_trie_Trie__Out
  have hl := hO.len (H2 := H)
  rw [List.length_map] at hl
  have hk := (List.getElem?_eq_some_iff.1 ho).1
  have hn := hr.rules
  have hn' := hr.rules'
  have h1 : ¬ (i : Int) < 0 := by omega
  have h2 : ¬ (i : Int) ≥ (O.length : Int) := by omega
  obtain ⟨i1, o1, vi, vo, a1, a2, a3, a4, a5, a6, _⟩ := hO.at (show (O.map fun o => (([], o) : Rl))[i]? = some ([], o) by rw [List.getElem?_map, ho]; rfl)
  obtain ⟨v, H', g1, g2, g3, g4, g5⟩ := app_nil2 (el := 3) a6 hb
  simp only [w_draw, dr_cons, dr_some, dr_none, dr_go, still_no, still_yes, next_no, next_yes, last_cons, last_nil, isStore, calm_no, calm_nil, calm_cons, calmB_some, isCall, freshI, dr_nil, dr_end, still_nil, still_cons, stillB_some, stamp_some, stampV_ptr, stampV_tuple, stampO, still_here, still_here0, List.nil_append, w_out, w_gives, fin_ret, fin_normal, ress_nil, ress_tmp, pack_one, pack_nil, pack_two, entry_nil, entry_one, entry_two, entry_three, entry_four, eq_skip, eq_exit, eq_ret, w_rows, w_done, w_seq, w_normal, w_ret, w_exit, w_cond, w_true, w_false, eq_block, block_normal, block_ret, block_exit, rows_nil, rows_cons, on_some, on_none, row_plain, row_guard, guard_tt, guard_ff, guard_tf, guard_ft, guard_no, ev_tmp, ev_int, ev_bool, ev_string, ev_slice, ev_pointer, ev_map, ev_float, ev_complex, ev_nilIface, ev_nilFunc, ev_func, eget_cons, eget_nil, st_mv, st_pick, v_pick_t, v_pick_f, st_ext, v_ext0, v_ext1, v_ext2, v_ext3, st_int, v_int, int_add, int_sub, int_mul, int_eql, int_neq, int_lss, int_leq, int_gtr, int_geq, st_beq, v_beq, v_bne, st_not, v_not, st_conv, v_conv, st_faddr, v_faddr, st_iaddr, v_iaddr, st_aaddr, v_aaddr, st_nilChk, v_nil, st_len, v_len, v_lenS, st_load, v_load, got_one, got_row, mem_tip, mem_ro, mem_ret, st_alloc, st_box, st_store, v_store, got_store, cells_agg, cells_int, cells_bool, cells_slice, cells_pointer, cells_string, cells_complex, cells_func, one_int, one_bool, one_slice, one_pointer, one_string, one_complex, one_func, upd_push, get_push_self, AHeap.n_push, AHeap.n_upd, st_build, parts_nil, parts_cons, st_bslice, st_append, st_mkfun, st_mkface, st_isNil, st_max, v_max, st_min, v_min, st_field, st_index, st_slice0, v_slice0, v_slice0n, st_slice, kill_nil, st_call, v_call, forget_nil, forget_cons, Option.map_some, Option.map_none, Option.bind_some, List.map_cons, List.map_nil, if_true, if_false, Nat.reduceEqDiff, Int.reduceEq, Nat.reduceAdd, Nat.reduceMul, Bool.not_true, Bool.not_false, reduceCtorEq, decide_true, decide_false, Int.cast_ofNat_Int, eq_self, Int.reduceLT, Int.reduceLE, Int.reduceToNat, Int.toNat_natCast, Int.le_refl, Nat.le_refl, Nat.zero_add, Nat.add_zero, Nat.zero_mul, Nat.mul_one, Nat.mul_zero, and_self, and_true, true_and, List.length_cons, List.length_nil, List.all_cons, List.all_nil, Bool.and_self, Bool.and_true, Bool.true_and, List.take_zero, List.nil_append, List.drop_nil, List.append_nil, List.getElem?_cons_zero, List.getElem?_cons_succ, List.drop_succ_cons, List.drop_zero, List.take_succ_cons, List.cons_append, Nat.reduceLeDiff, h1, hn, hn', hl, h2, a1, a3, g1]
  exact ⟨g2, g3, g4, g5 (by kernel_rfl)⟩
theorem c_OutNo {t : Nat} {N : List Nd} {vr : Value} {O : List (List Int)} {a : Int} {H : AHeap} (hr : TrieAt H t N vr) (hO : Rules H vr (O.map fun o => ([], o))) (ha : a < 0 ∨ a ≥ O.length) :
    cw Try.prog (tabF tab) om1 44 [.pointer (some ⟨t, 0, none⟩), .int .i64 a] H = some (.slice none 0 0, H) := by
  obtain ⟨vn, hr⟩ := hr.rd
  rw [cw_run (F := F_trie_Trie__Out) rfl rfl rfl]
  unfold F_trie_Trie__Out k_trie_Trie__Out
  have hl := hO.len (H2 := H)
  rw [List.length_map] at hl
  have hn := hr.rules
  have hn' := hr.rules'
  by_cases h1 : a < 0
  · simp only [w_draw, dr_cons, dr_some, dr_none, dr_go, still_no, still_yes, next_no, next_yes, last_cons, last_nil, isStore, calm_no, calm_nil, calm_cons, calmB_some, isCall, freshI, dr_nil, dr_end, still_nil, still_cons, stillB_some, stamp_some, stampV_ptr, stampV_tuple, stampO, still_here, still_here0, List.nil_append, w_out, w_gives, fin_ret, fin_normal, ress_nil, ress_tmp, pack_one, pack_nil, pack_two, entry_nil, entry_one, entry_two, entry_three, entry_four, eq_skip, eq_exit, eq_ret, w_rows, w_done, w_seq, w_normal, w_ret, w_exit, w_cond, w_true, w_false, eq_block, block_normal, block_ret, block_exit, rows_nil, rows_cons, on_some, on_none, row_plain, row_guard, guard_tt, guard_ff, guard_tf, guard_ft, guard_no, ev_tmp, ev_int, ev_bool, ev_string, ev_slice, ev_pointer, ev_map, ev_float, ev_complex, ev_nilIface, ev_nilFunc, ev_func, eget_cons, eget_nil, st_mv, st_pick, v_pick_t, v_pick_f, st_ext, v_ext0, v_ext1, v_ext2, v_ext3, st_int, v_int, int_add, int_sub, int_mul, int_eql, int_neq, int_lss, int_leq, int_gtr, int_geq, st_beq, v_beq, v_bne, st_not, v_not, st_conv, v_conv, st_faddr, v_faddr, st_iaddr, v_iaddr, st_aaddr, v_aaddr, st_nilChk, v_nil, st_len, v_len, v_lenS, st_load, v_load, got_one, got_row, mem_tip, mem_ro, mem_ret, st_alloc, st_box, st_store, v_store, got_store, cells_agg, cells_int, cells_bool, cells_slice, cells_pointer, cells_string, cells_complex, cells_func, one_int, one_bool, one_slice, one_pointer, one_string, one_complex, one_func, upd_push, get_push_self, AHeap.n_push, AHeap.n_upd, st_build, parts_nil, parts_cons, st_bslice, st_append, st_mkfun, st_mkface, st_isNil, st_max, v_max, st_min, v_min, st_field, st_index, st_slice0, v_slice0, v_slice0n, st_slice, kill_nil, st_call, v_call, forget_nil, forget_cons, Option.map_some, Option.map_none, Option.bind_some, List.map_cons, List.map_nil, if_true, if_false, Nat.reduceEqDiff, Int.reduceEq, Nat.reduceAdd, Nat.reduceMul, Bool.not_true, Bool.not_false, reduceCtorEq, decide_true, decide_false, Int.cast_ofNat_Int, eq_self, Int.reduceLT, Int.reduceLE, Int.reduceToNat, Int.toNat_natCast, Int.le_refl, Nat.le_refl, Nat.zero_add, Nat.add_zero, Nat.zero_mul, Nat.mul_one, Nat.mul_zero, and_self, and_true, true_and, List.length_cons, List.length_nil, List.all_cons, List.all_nil, Bool.and_self, Bool.and_true, Bool.true_and, List.take_zero, List.nil_append, List.drop_nil, List.append_nil, List.getElem?_cons_zero, List.getElem?_cons_succ, List.drop_succ_cons, List.drop_zero, List.take_succ_cons, List.cons_append, Nat.reduceLeDiff, h1]
  · have h2 : a ≥ (O.length : Int) := by omega
    simp only [w_draw, dr_cons, dr_some, dr_none, dr_go, still_no, still_yes, next_no, next_yes, last_cons, last_nil, isStore, calm_no, calm_nil, calm_cons, calmB_some, isCall, freshI, dr_nil, dr_end, still_nil, still_cons, stillB_some, stamp_some, stampV_ptr, stampV_tuple, stampO, still_here, still_here0, List.nil_append, w_out, w_gives, fin_ret, fin_normal, ress_nil, ress_tmp, pack_one, pack_nil, pack_two, entry_nil, entry_one, entry_two, entry_three, entry_four, eq_skip, eq_exit, eq_ret, w_rows, w_done, w_seq, w_normal, w_ret, w_exit, w_cond, w_true, w_false, eq_block, block_normal, block_ret, block_exit, rows_nil, rows_cons, on_some, on_none, row_plain, row_guard, guard_tt, guard_ff, guard_tf, guard_ft, guard_no, ev_tmp, ev_int, ev_bool, ev_string, ev_slice, ev_pointer, ev_map, ev_float, ev_complex, ev_nilIface, ev_nilFunc, ev_func, eget_cons, eget_nil, st_mv, st_pick, v_pick_t, v_pick_f, st_ext, v_ext0, v_ext1, v_ext2, v_ext3, st_int, v_int, int_add, int_sub, int_mul, int_eql, int_neq, int_lss, int_leq, int_gtr, int_geq, st_beq, v_beq, v_bne, st_not, v_not, st_conv, v_conv, st_faddr, v_faddr, st_iaddr, v_iaddr, st_aaddr, v_aaddr, st_nilChk, v_nil, st_len, v_len, v_lenS, st_load, v_load, got_one, got_row, mem_tip, mem_ro, mem_ret, st_alloc, st_box, st_store, v_store, got_store, cells_agg, cells_int, cells_bool, cells_slice, cells_pointer, cells_string, cells_complex, cells_func, one_int, one_bool, one_slice, one_pointer, one_string, one_complex, one_func, upd_push, get_push_self, AHeap.n_push, AHeap.n_upd, st_build, parts_nil, parts_cons, st_bslice, st_append, st_mkfun, st_mkface, st_isNil, st_max, v_max, st_min, v_min, st_field, st_index, st_slice0, v_slice0, v_slice0n, st_slice, kill_nil, st_call, v_call, forget_nil, forget_cons, Option.map_some, Option.map_none, Option.bind_some, List.map_cons, List.map_nil, if_true, if_false, Nat.reduceEqDiff, Int.reduceEq, Nat.reduceAdd, Nat.reduceMul, Bool.not_true, Bool.not_false, reduceCtorEq, decide_true, decide_false, Int.cast_ofNat_Int, eq_self, Int.reduceLT, Int.reduceLE, Int.reduceToNat, Int.toNat_natCast, Int.le_refl, Nat.le_refl, Nat.zero_add, Nat.add_zero, Nat.zero_mul, Nat.mul_one, Nat.mul_zero, and_self, and_true, true_and, List.length_cons, List.length_nil, List.all_cons, List.all_nil, Bool.and_self, Bool.and_true, Bool.true_and, List.take_zero, List.nil_append, List.drop_nil, List.append_nil, List.getElem?_cons_zero, List.getElem?_cons_succ, List.drop_succ_cons, List.drop_zero, List.take_succ_cons, List.cons_append, Nat.reduceLeDiff, h1, hn, hn', hl, h2]
end Go.Proofs.Ythnccfmmeaeibaa

/-! The document's longest rule. -/
set_option linter.unusedSimpArgs false
set_option linter.unusedVariables false
namespace Go.Proofs.Ythnccfmmeaeibaa
open Go Lon
set_option maxRecDepth 100000
theorem l_Doc {a b : Value} {us : List Int} {L : List Rl} (hL : L.length < 1000000) (hus : tiny us) : ∀ (c i : Nat) (H : AHeap) (k : Int) (n : Nat) (o : Bool), i + c = L.length → Rules H a L → CutR H a → Ints H b us → Cut Try.prog H b 1 →
    Out (run Try.prog (tabF tab) om1 (.loop [1, 7, 8, 9, 12, 13, 14] b_lontarlaw04_Longest_0) [(1, b), (7, .int .i64 k), (8, .int .i64 n), (9, .bool o), (12, a), (13, .int .i64 L.length), (14, .int .i64 i)] H) fun y e' H' => y = .exit 0 ∧ Ext H H' ∧ eget e' 7 = .int .i64 (docF us (L.drop i) i k n o).1 ∧ eget e' 8 = .int .i64 (docF us (L.drop i) i k n o).2.1 ∧ eget e' 9 = .bool (docF us (L.drop i) i k n o).2.2 := by
  intro c
  induction c with
  | zero =>
    intro i H k n o hi ha hac hb hbc
    have hlt : ¬ ((i : Int) < L.length) := by omega
    rw [w_loop_b b_lontarlaw04_Longest_0.eq_1, List.drop_of_length_le (by omega)]
    simp only [w_draw, dr_cons, dr_some, dr_none, dr_go, still_no, still_yes, next_no, next_yes, last_cons, last_nil, isStore, calm_no, calm_nil, calm_cons, calmB_some, isCall, freshI, dr_nil, dr_end, still_nil, still_cons, stillB_some, stamp_some, stampV_ptr, stampV_tuple, stampO, still_here, still_here0, List.nil_append, w_out, w_gives, fin_ret, fin_normal, ress_nil, ress_tmp, pack_one, pack_nil, pack_two, entry_nil, entry_one, entry_two, entry_three, entry_four, eq_skip, eq_exit, eq_ret, w_rows, w_done, w_seq, w_normal, w_ret, w_exit, w_cond, w_true, w_false, eq_block, block_normal, block_ret, block_exit, rows_nil, rows_cons, on_some, on_none, row_plain, row_guard, guard_tt, guard_ff, guard_tf, guard_ft, guard_no, ev_tmp, ev_int, ev_bool, ev_string, ev_slice, ev_pointer, ev_map, ev_float, ev_complex, ev_nilIface, ev_nilFunc, ev_func, eget_cons, eget_nil, st_mv, st_pick, v_pick_t, v_pick_f, st_ext, v_ext0, v_ext1, v_ext2, v_ext3, st_int, v_int, int_add, int_sub, int_mul, int_eql, int_neq, int_lss, int_leq, int_gtr, int_geq, st_beq, v_beq, v_bne, st_not, v_not, st_conv, v_conv, st_faddr, v_faddr, st_iaddr, v_iaddr, st_aaddr, v_aaddr, st_nilChk, v_nil, st_len, v_len, v_lenS, st_load, v_load, got_one, got_row, mem_tip, mem_ro, mem_ret, st_alloc, st_box, st_store, v_store, got_store, cells_agg, cells_int, cells_bool, cells_slice, cells_pointer, cells_string, cells_complex, cells_func, one_int, one_bool, one_slice, one_pointer, one_string, one_complex, one_func, upd_push, get_push_self, AHeap.n_push, AHeap.n_upd, st_build, parts_nil, parts_cons, st_bslice, st_append, st_mkfun, st_mkface, st_isNil, st_max, v_max, st_min, v_min, st_field, st_index, st_slice0, v_slice0, v_slice0n, st_slice, kill_nil, st_call, v_call, forget_nil, forget_cons, Option.map_some, Option.map_none, Option.bind_some, List.map_cons, List.map_nil, if_true, if_false, Nat.reduceEqDiff, Int.reduceEq, Nat.reduceAdd, Nat.reduceMul, Bool.not_true, Bool.not_false, reduceCtorEq, decide_true, decide_false, Int.cast_ofNat_Int, eq_self, Int.reduceLT, Int.reduceLE, Int.reduceToNat, Int.toNat_natCast, Int.le_refl, Nat.le_refl, Nat.zero_add, Nat.add_zero, Nat.zero_mul, Nat.mul_one, Nat.mul_zero, and_self, and_true, true_and, List.length_cons, List.length_nil, List.all_cons, List.all_nil, Bool.and_self, Bool.and_true, Bool.true_and, List.take_zero, List.nil_append, List.drop_nil, List.append_nil, List.getElem?_cons_zero, List.getElem?_cons_succ, List.drop_succ_cons, List.drop_zero, List.take_succ_cons, List.cons_append, Nat.reduceLeDiff, hlt, docF]
    exact Ext.refl _
  | succ c ih =>
    intro i H k n o hi ha hac hb hbc
    have hlt : (i : Int) < L.length := by omega
    obtain ⟨r, hr, hdr⟩ := drop_at (L := L) (i := i) (by omega)
    obtain ⟨i1, o1, vi, vo, h1, h2, h3, h4, h5, h6, h7, h8, h9, h10⟩ := Rules.atC ha hac hr
    have h5' := h5
    have h6' := h6
    obtain ⟨⟨ai, ci, rfl⟩, _⟩ := h5'
    obtain ⟨⟨ao, co, rfl⟩, _⟩ := h6'
    have hx1 := Ext.push H ⟨[.slice ai r.1.length ci, .slice ao r.2.length co], 51, .tip, 1, []⟩
    obtain ⟨H1, hH1⟩ : ∃ H1, H1 = H.push ⟨[.slice ai r.1.length ci, .slice ao r.2.length co], 51, .tip, 1, []⟩ := ⟨_, rfl⟩
    have hg1 : H1.get H.n = some ⟨[.slice ai r.1.length ci, .slice ao r.2.length co], 51, .tip, 1, []⟩ := by rw [hH1]; exact get_push_self
    have hw2 : IntKind.i64.wrap ((i : Int) + 1) = ((i + 1 : Nat) : Int) := by rw [wrap64 (by omega) (by omega)]; omega
    have hlr : ∀ H2 : AHeap, vLen false (.slice ai r.1.length ci) H2 = some (.int .i64 r.1.length, H2) := fun H2 => Sl.len h5
    have hlb : ∀ H2 : AHeap, vLen false b H2 = some (.int .i64 us.length, H2) := fun H2 => Sl.len hb
    rw [w_loop_b b_lontarlaw04_Longest_0.eq_1, hdr]
    unfold docF
    rw [← hH1] at hx1
    by_cases hle : r.1.length ≤ us.length
    · obtain ⟨b', s1, s2, s3⟩ := (hb.ext hx1).take (hbc.ext hx1) hle
      have s1' := s1 .i64
      have cU := c_Units (h5.ext hx1) s2 h7
      have hle' : (r.1.length : Int) ≤ us.length := by omega
      have hgt : ¬ (r.1.length : Int) > us.length := by omega
      have hd : (decide (us.length < r.1.length) && decide (r.1.take us.length = us)) = false := by
        rw [decide_eq_false (by omega)]; rfl
      rw [hd, Bool.or_false]
      by_cases he : r.1 = us.take r.1.length
      · have he' : decide (r.1 = us.take r.1.length) = true := decide_eq_true he
        rw [he'] at cU
        by_cases hn : n < r.1.length
        · have hn' : (r.1.length : Int) > n := by omega
          rw [if_pos ⟨hle, he, hn⟩]
          obtain ⟨y, e', H', r1, r2, r3, r4, r5, r6⟩ := ih (i + 1) H1 i r.1.length o (by omega) (ha.ext hx1) (hac.ext hx1) (hb.ext hx1) (hbc.ext hx1)
          cases o <;>
          · simp only [w_draw, dr_cons, dr_some, dr_none, dr_go, still_no, still_yes, next_no, next_yes, last_cons, last_nil, isStore, calm_no, calm_nil, calm_cons, calmB_some, isCall, freshI, dr_nil, dr_end, still_nil, still_cons, stillB_some, stamp_some, stampV_ptr, stampV_tuple, stampO, still_here, still_here0, List.nil_append, w_out, w_gives, fin_ret, fin_normal, ress_nil, ress_tmp, pack_one, pack_nil, pack_two, entry_nil, entry_one, entry_two, entry_three, entry_four, eq_skip, eq_exit, eq_ret, w_rows, w_done, w_seq, w_normal, w_ret, w_exit, w_cond, w_true, w_false, eq_block, block_normal, block_ret, block_exit, rows_nil, rows_cons, on_some, on_none, row_plain, row_guard, guard_tt, guard_ff, guard_tf, guard_ft, guard_no, ev_tmp, ev_int, ev_bool, ev_string, ev_slice, ev_pointer, ev_map, ev_float, ev_complex, ev_nilIface, ev_nilFunc, ev_func, eget_cons, eget_nil, st_mv, st_pick, v_pick_t, v_pick_f, st_ext, v_ext0, v_ext1, v_ext2, v_ext3, st_int, v_int, int_add, int_sub, int_mul, int_eql, int_neq, int_lss, int_leq, int_gtr, int_geq, st_beq, v_beq, v_bne, st_not, v_not, st_conv, v_conv, st_faddr, v_faddr, st_iaddr, v_iaddr, st_aaddr, v_aaddr, st_nilChk, v_nil, st_len, v_len, v_lenS, st_load, v_load, got_one, got_row, mem_tip, mem_ro, mem_ret, st_alloc, st_box, st_store, v_store, got_store, cells_agg, cells_int, cells_bool, cells_slice, cells_pointer, cells_string, cells_complex, cells_func, one_int, one_bool, one_slice, one_pointer, one_string, one_complex, one_func, upd_push, get_push_self, AHeap.n_push, AHeap.n_upd, st_build, parts_nil, parts_cons, st_bslice, st_append, st_mkfun, st_mkface, st_isNil, st_max, v_max, st_min, v_min, st_field, st_index, st_slice0, v_slice0, v_slice0n, st_slice, kill_nil, st_call, v_call, forget_nil, forget_cons, Option.map_some, Option.map_none, Option.bind_some, List.map_cons, List.map_nil, if_true, if_false, Nat.reduceEqDiff, Int.reduceEq, Nat.reduceAdd, Nat.reduceMul, Bool.not_true, Bool.not_false, reduceCtorEq, decide_true, decide_false, Int.cast_ofNat_Int, eq_self, Int.reduceLT, Int.reduceLE, Int.reduceToNat, Int.toNat_natCast, Int.le_refl, Nat.le_refl, Nat.zero_add, Nat.add_zero, Nat.zero_mul, Nat.mul_one, Nat.mul_zero, and_self, and_true, true_and, List.length_cons, List.length_nil, List.all_cons, List.all_nil, Bool.and_self, Bool.and_true, Bool.true_and, List.take_zero, List.nil_append, List.drop_nil, List.append_nil, List.getElem?_cons_zero, List.getElem?_cons_succ, List.drop_succ_cons, List.drop_zero, List.take_succ_cons, List.cons_append, Nat.reduceLeDiff, hlt, h1, h4, ← hH1, hg1, hlr, hlb, hle', s1', cU, hn', hgt, hw2]
            rw [w_enter]
            simp only [w_draw, dr_cons, dr_some, dr_none, dr_go, still_no, still_yes, next_no, next_yes, last_cons, last_nil, isStore, calm_no, calm_nil, calm_cons, calmB_some, isCall, freshI, dr_nil, dr_end, still_nil, still_cons, stillB_some, stamp_some, stampV_ptr, stampV_tuple, stampO, still_here, still_here0, List.nil_append, w_out, w_gives, fin_ret, fin_normal, ress_nil, ress_tmp, pack_one, pack_nil, pack_two, entry_nil, entry_one, entry_two, entry_three, entry_four, eq_skip, eq_exit, eq_ret, w_rows, w_done, w_seq, w_normal, w_ret, w_exit, w_cond, w_true, w_false, eq_block, block_normal, block_ret, block_exit, rows_nil, rows_cons, on_some, on_none, row_plain, row_guard, guard_tt, guard_ff, guard_tf, guard_ft, guard_no, ev_tmp, ev_int, ev_bool, ev_string, ev_slice, ev_pointer, ev_map, ev_float, ev_complex, ev_nilIface, ev_nilFunc, ev_func, eget_cons, eget_nil, st_mv, st_pick, v_pick_t, v_pick_f, st_ext, v_ext0, v_ext1, v_ext2, v_ext3, st_int, v_int, int_add, int_sub, int_mul, int_eql, int_neq, int_lss, int_leq, int_gtr, int_geq, st_beq, v_beq, v_bne, st_not, v_not, st_conv, v_conv, st_faddr, v_faddr, st_iaddr, v_iaddr, st_aaddr, v_aaddr, st_nilChk, v_nil, st_len, v_len, v_lenS, st_load, v_load, got_one, got_row, mem_tip, mem_ro, mem_ret, st_alloc, st_box, st_store, v_store, got_store, cells_agg, cells_int, cells_bool, cells_slice, cells_pointer, cells_string, cells_complex, cells_func, one_int, one_bool, one_slice, one_pointer, one_string, one_complex, one_func, upd_push, get_push_self, AHeap.n_push, AHeap.n_upd, st_build, parts_nil, parts_cons, st_bslice, st_append, st_mkfun, st_mkface, st_isNil, st_max, v_max, st_min, v_min, st_field, st_index, st_slice0, v_slice0, v_slice0n, st_slice, kill_nil, st_call, v_call, forget_nil, forget_cons, Option.map_some, Option.map_none, Option.bind_some, List.map_cons, List.map_nil, if_true, if_false, Nat.reduceEqDiff, Int.reduceEq, Nat.reduceAdd, Nat.reduceMul, Bool.not_true, Bool.not_false, reduceCtorEq, decide_true, decide_false, Int.cast_ofNat_Int, eq_self, Int.reduceLT, Int.reduceLE, Int.reduceToNat, Int.toNat_natCast, Int.le_refl, Nat.le_refl, Nat.zero_add, Nat.add_zero, Nat.zero_mul, Nat.mul_one, Nat.mul_zero, and_self, and_true, true_and, List.length_cons, List.length_nil, List.all_cons, List.all_nil, Bool.and_self, Bool.and_true, Bool.true_and, List.take_zero, List.nil_append, List.drop_nil, List.append_nil, List.getElem?_cons_zero, List.getElem?_cons_succ, List.drop_succ_cons, List.drop_zero, List.take_succ_cons, List.cons_append, Nat.reduceLeDiff, r1]
            exact ⟨r2, hx1.trans r3, r4, r5, r6⟩
        · have hn' : ¬ (r.1.length : Int) > n := by omega
          rw [if_neg (fun h => hn h.2.2)]
          obtain ⟨y, e', H', r1, r2, r3, r4, r5, r6⟩ := ih (i + 1) H1 k n o (by omega) (ha.ext hx1) (hac.ext hx1) (hb.ext hx1) (hbc.ext hx1)
          cases o <;>
          · simp only [w_draw, dr_cons, dr_some, dr_none, dr_go, still_no, still_yes, next_no, next_yes, last_cons, last_nil, isStore, calm_no, calm_nil, calm_cons, calmB_some, isCall, freshI, dr_nil, dr_end, still_nil, still_cons, stillB_some, stamp_some, stampV_ptr, stampV_tuple, stampO, still_here, still_here0, List.nil_append, w_out, w_gives, fin_ret, fin_normal, ress_nil, ress_tmp, pack_one, pack_nil, pack_two, entry_nil, entry_one, entry_two, entry_three, entry_four, eq_skip, eq_exit, eq_ret, w_rows, w_done, w_seq, w_normal, w_ret, w_exit, w_cond, w_true, w_false, eq_block, block_normal, block_ret, block_exit, rows_nil, rows_cons, on_some, on_none, row_plain, row_guard, guard_tt, guard_ff, guard_tf, guard_ft, guard_no, ev_tmp, ev_int, ev_bool, ev_string, ev_slice, ev_pointer, ev_map, ev_float, ev_complex, ev_nilIface, ev_nilFunc, ev_func, eget_cons, eget_nil, st_mv, st_pick, v_pick_t, v_pick_f, st_ext, v_ext0, v_ext1, v_ext2, v_ext3, st_int, v_int, int_add, int_sub, int_mul, int_eql, int_neq, int_lss, int_leq, int_gtr, int_geq, st_beq, v_beq, v_bne, st_not, v_not, st_conv, v_conv, st_faddr, v_faddr, st_iaddr, v_iaddr, st_aaddr, v_aaddr, st_nilChk, v_nil, st_len, v_len, v_lenS, st_load, v_load, got_one, got_row, mem_tip, mem_ro, mem_ret, st_alloc, st_box, st_store, v_store, got_store, cells_agg, cells_int, cells_bool, cells_slice, cells_pointer, cells_string, cells_complex, cells_func, one_int, one_bool, one_slice, one_pointer, one_string, one_complex, one_func, upd_push, get_push_self, AHeap.n_push, AHeap.n_upd, st_build, parts_nil, parts_cons, st_bslice, st_append, st_mkfun, st_mkface, st_isNil, st_max, v_max, st_min, v_min, st_field, st_index, st_slice0, v_slice0, v_slice0n, st_slice, kill_nil, st_call, v_call, forget_nil, forget_cons, Option.map_some, Option.map_none, Option.bind_some, List.map_cons, List.map_nil, if_true, if_false, Nat.reduceEqDiff, Int.reduceEq, Nat.reduceAdd, Nat.reduceMul, Bool.not_true, Bool.not_false, reduceCtorEq, decide_true, decide_false, Int.cast_ofNat_Int, eq_self, Int.reduceLT, Int.reduceLE, Int.reduceToNat, Int.toNat_natCast, Int.le_refl, Nat.le_refl, Nat.zero_add, Nat.add_zero, Nat.zero_mul, Nat.mul_one, Nat.mul_zero, and_self, and_true, true_and, List.length_cons, List.length_nil, List.all_cons, List.all_nil, Bool.and_self, Bool.and_true, Bool.true_and, List.take_zero, List.nil_append, List.drop_nil, List.append_nil, List.getElem?_cons_zero, List.getElem?_cons_succ, List.drop_succ_cons, List.drop_zero, List.take_succ_cons, List.cons_append, Nat.reduceLeDiff, hlt, h1, h4, ← hH1, hg1, hlr, hlb, hle', s1', cU, hn', hgt, hw2]
            rw [w_enter]
            simp only [w_draw, dr_cons, dr_some, dr_none, dr_go, still_no, still_yes, next_no, next_yes, last_cons, last_nil, isStore, calm_no, calm_nil, calm_cons, calmB_some, isCall, freshI, dr_nil, dr_end, still_nil, still_cons, stillB_some, stamp_some, stampV_ptr, stampV_tuple, stampO, still_here, still_here0, List.nil_append, w_out, w_gives, fin_ret, fin_normal, ress_nil, ress_tmp, pack_one, pack_nil, pack_two, entry_nil, entry_one, entry_two, entry_three, entry_four, eq_skip, eq_exit, eq_ret, w_rows, w_done, w_seq, w_normal, w_ret, w_exit, w_cond, w_true, w_false, eq_block, block_normal, block_ret, block_exit, rows_nil, rows_cons, on_some, on_none, row_plain, row_guard, guard_tt, guard_ff, guard_tf, guard_ft, guard_no, ev_tmp, ev_int, ev_bool, ev_string, ev_slice, ev_pointer, ev_map, ev_float, ev_complex, ev_nilIface, ev_nilFunc, ev_func, eget_cons, eget_nil, st_mv, st_pick, v_pick_t, v_pick_f, st_ext, v_ext0, v_ext1, v_ext2, v_ext3, st_int, v_int, int_add, int_sub, int_mul, int_eql, int_neq, int_lss, int_leq, int_gtr, int_geq, st_beq, v_beq, v_bne, st_not, v_not, st_conv, v_conv, st_faddr, v_faddr, st_iaddr, v_iaddr, st_aaddr, v_aaddr, st_nilChk, v_nil, st_len, v_len, v_lenS, st_load, v_load, got_one, got_row, mem_tip, mem_ro, mem_ret, st_alloc, st_box, st_store, v_store, got_store, cells_agg, cells_int, cells_bool, cells_slice, cells_pointer, cells_string, cells_complex, cells_func, one_int, one_bool, one_slice, one_pointer, one_string, one_complex, one_func, upd_push, get_push_self, AHeap.n_push, AHeap.n_upd, st_build, parts_nil, parts_cons, st_bslice, st_append, st_mkfun, st_mkface, st_isNil, st_max, v_max, st_min, v_min, st_field, st_index, st_slice0, v_slice0, v_slice0n, st_slice, kill_nil, st_call, v_call, forget_nil, forget_cons, Option.map_some, Option.map_none, Option.bind_some, List.map_cons, List.map_nil, if_true, if_false, Nat.reduceEqDiff, Int.reduceEq, Nat.reduceAdd, Nat.reduceMul, Bool.not_true, Bool.not_false, reduceCtorEq, decide_true, decide_false, Int.cast_ofNat_Int, eq_self, Int.reduceLT, Int.reduceLE, Int.reduceToNat, Int.toNat_natCast, Int.le_refl, Nat.le_refl, Nat.zero_add, Nat.add_zero, Nat.zero_mul, Nat.mul_one, Nat.mul_zero, and_self, and_true, true_and, List.length_cons, List.length_nil, List.all_cons, List.all_nil, Bool.and_self, Bool.and_true, Bool.true_and, List.take_zero, List.nil_append, List.drop_nil, List.append_nil, List.getElem?_cons_zero, List.getElem?_cons_succ, List.drop_succ_cons, List.drop_zero, List.take_succ_cons, List.cons_append, Nat.reduceLeDiff, r1]
            exact ⟨r2, hx1.trans r3, r4, r5, r6⟩
      · have he' : decide (r.1 = us.take r.1.length) = false := decide_eq_false he
        rw [he'] at cU
        rw [if_neg (fun h => he h.2.1)]
        obtain ⟨y, e', H', r1, r2, r3, r4, r5, r6⟩ := ih (i + 1) H1 k n o (by omega) (ha.ext hx1) (hac.ext hx1) (hb.ext hx1) (hbc.ext hx1)
        cases o <;>
        · simp only [w_draw, dr_cons, dr_some, dr_none, dr_go, still_no, still_yes, next_no, next_yes, last_cons, last_nil, isStore, calm_no, calm_nil, calm_cons, calmB_some, isCall, freshI, dr_nil, dr_end, still_nil, still_cons, stillB_some, stamp_some, stampV_ptr, stampV_tuple, stampO, still_here, still_here0, List.nil_append, w_out, w_gives, fin_ret, fin_normal, ress_nil, ress_tmp, pack_one, pack_nil, pack_two, entry_nil, entry_one, entry_two, entry_three, entry_four, eq_skip, eq_exit, eq_ret, w_rows, w_done, w_seq, w_normal, w_ret, w_exit, w_cond, w_true, w_false, eq_block, block_normal, block_ret, block_exit, rows_nil, rows_cons, on_some, on_none, row_plain, row_guard, guard_tt, guard_ff, guard_tf, guard_ft, guard_no, ev_tmp, ev_int, ev_bool, ev_string, ev_slice, ev_pointer, ev_map, ev_float, ev_complex, ev_nilIface, ev_nilFunc, ev_func, eget_cons, eget_nil, st_mv, st_pick, v_pick_t, v_pick_f, st_ext, v_ext0, v_ext1, v_ext2, v_ext3, st_int, v_int, int_add, int_sub, int_mul, int_eql, int_neq, int_lss, int_leq, int_gtr, int_geq, st_beq, v_beq, v_bne, st_not, v_not, st_conv, v_conv, st_faddr, v_faddr, st_iaddr, v_iaddr, st_aaddr, v_aaddr, st_nilChk, v_nil, st_len, v_len, v_lenS, st_load, v_load, got_one, got_row, mem_tip, mem_ro, mem_ret, st_alloc, st_box, st_store, v_store, got_store, cells_agg, cells_int, cells_bool, cells_slice, cells_pointer, cells_string, cells_complex, cells_func, one_int, one_bool, one_slice, one_pointer, one_string, one_complex, one_func, upd_push, get_push_self, AHeap.n_push, AHeap.n_upd, st_build, parts_nil, parts_cons, st_bslice, st_append, st_mkfun, st_mkface, st_isNil, st_max, v_max, st_min, v_min, st_field, st_index, st_slice0, v_slice0, v_slice0n, st_slice, kill_nil, st_call, v_call, forget_nil, forget_cons, Option.map_some, Option.map_none, Option.bind_some, List.map_cons, List.map_nil, if_true, if_false, Nat.reduceEqDiff, Int.reduceEq, Nat.reduceAdd, Nat.reduceMul, Bool.not_true, Bool.not_false, reduceCtorEq, decide_true, decide_false, Int.cast_ofNat_Int, eq_self, Int.reduceLT, Int.reduceLE, Int.reduceToNat, Int.toNat_natCast, Int.le_refl, Nat.le_refl, Nat.zero_add, Nat.add_zero, Nat.zero_mul, Nat.mul_one, Nat.mul_zero, and_self, and_true, true_and, List.length_cons, List.length_nil, List.all_cons, List.all_nil, Bool.and_self, Bool.and_true, Bool.true_and, List.take_zero, List.nil_append, List.drop_nil, List.append_nil, List.getElem?_cons_zero, List.getElem?_cons_succ, List.drop_succ_cons, List.drop_zero, List.take_succ_cons, List.cons_append, Nat.reduceLeDiff, hlt, h1, h4, ← hH1, hg1, hlr, hlb, hle', s1', cU, hgt, hw2]
          rw [w_enter]
          simp only [w_draw, dr_cons, dr_some, dr_none, dr_go, still_no, still_yes, next_no, next_yes, last_cons, last_nil, isStore, calm_no, calm_nil, calm_cons, calmB_some, isCall, freshI, dr_nil, dr_end, still_nil, still_cons, stillB_some, stamp_some, stampV_ptr, stampV_tuple, stampO, still_here, still_here0, List.nil_append, w_out, w_gives, fin_ret, fin_normal, ress_nil, ress_tmp, pack_one, pack_nil, pack_two, entry_nil, entry_one, entry_two, entry_three, entry_four, eq_skip, eq_exit, eq_ret, w_rows, w_done, w_seq, w_normal, w_ret, w_exit, w_cond, w_true, w_false, eq_block, block_normal, block_ret, block_exit, rows_nil, rows_cons, on_some, on_none, row_plain, row_guard, guard_tt, guard_ff, guard_tf, guard_ft, guard_no, ev_tmp, ev_int, ev_bool, ev_string, ev_slice, ev_pointer, ev_map, ev_float, ev_complex, ev_nilIface, ev_nilFunc, ev_func, eget_cons, eget_nil, st_mv, st_pick, v_pick_t, v_pick_f, st_ext, v_ext0, v_ext1, v_ext2, v_ext3, st_int, v_int, int_add, int_sub, int_mul, int_eql, int_neq, int_lss, int_leq, int_gtr, int_geq, st_beq, v_beq, v_bne, st_not, v_not, st_conv, v_conv, st_faddr, v_faddr, st_iaddr, v_iaddr, st_aaddr, v_aaddr, st_nilChk, v_nil, st_len, v_len, v_lenS, st_load, v_load, got_one, got_row, mem_tip, mem_ro, mem_ret, st_alloc, st_box, st_store, v_store, got_store, cells_agg, cells_int, cells_bool, cells_slice, cells_pointer, cells_string, cells_complex, cells_func, one_int, one_bool, one_slice, one_pointer, one_string, one_complex, one_func, upd_push, get_push_self, AHeap.n_push, AHeap.n_upd, st_build, parts_nil, parts_cons, st_bslice, st_append, st_mkfun, st_mkface, st_isNil, st_max, v_max, st_min, v_min, st_field, st_index, st_slice0, v_slice0, v_slice0n, st_slice, kill_nil, st_call, v_call, forget_nil, forget_cons, Option.map_some, Option.map_none, Option.bind_some, List.map_cons, List.map_nil, if_true, if_false, Nat.reduceEqDiff, Int.reduceEq, Nat.reduceAdd, Nat.reduceMul, Bool.not_true, Bool.not_false, reduceCtorEq, decide_true, decide_false, Int.cast_ofNat_Int, eq_self, Int.reduceLT, Int.reduceLE, Int.reduceToNat, Int.toNat_natCast, Int.le_refl, Nat.le_refl, Nat.zero_add, Nat.add_zero, Nat.zero_mul, Nat.mul_one, Nat.mul_zero, and_self, and_true, true_and, List.length_cons, List.length_nil, List.all_cons, List.all_nil, Bool.and_self, Bool.and_true, Bool.true_and, List.take_zero, List.nil_append, List.drop_nil, List.append_nil, List.getElem?_cons_zero, List.getElem?_cons_succ, List.drop_succ_cons, List.drop_zero, List.take_succ_cons, List.cons_append, Nat.reduceLeDiff, r1]
          exact ⟨r2, hx1.trans r3, r4, r5, r6⟩
    · have hle' : ¬ (r.1.length : Int) ≤ us.length := by omega
      have hgt : (r.1.length : Int) > us.length := by omega
      rw [if_neg (fun h => hle h.1), decide_eq_true (show us.length < r.1.length by omega), Bool.true_and]
      obtain ⟨b', s1, s2, s3⟩ := (h5.ext hx1).take (h9.ext hx1) (show us.length ≤ r.1.length by omega)
      have s1' := s1 .i64
      have cU := c_Units s2 (hb.ext hx1) (by rw [List.length_take]; unfold Lon.tiny at hus; omega)
      obtain ⟨y, e', H', r1, r2, r3, r4, r5, r6⟩ := ih (i + 1) H1 k n (o || decide (r.1.take us.length = us)) (by omega) (ha.ext hx1) (hac.ext hx1) (hb.ext hx1) (hbc.ext hx1)
      cases o with
      | true =>
        simp only [Bool.true_or] at r1 r4 r5 r6 ⊢
        simp only [w_draw, dr_cons, dr_some, dr_none, dr_go, still_no, still_yes, next_no, next_yes, last_cons, last_nil, isStore, calm_no, calm_nil, calm_cons, calmB_some, isCall, freshI, dr_nil, dr_end, still_nil, still_cons, stillB_some, stamp_some, stampV_ptr, stampV_tuple, stampO, still_here, still_here0, List.nil_append, w_out, w_gives, fin_ret, fin_normal, ress_nil, ress_tmp, pack_one, pack_nil, pack_two, entry_nil, entry_one, entry_two, entry_three, entry_four, eq_skip, eq_exit, eq_ret, w_rows, w_done, w_seq, w_normal, w_ret, w_exit, w_cond, w_true, w_false, eq_block, block_normal, block_ret, block_exit, rows_nil, rows_cons, on_some, on_none, row_plain, row_guard, guard_tt, guard_ff, guard_tf, guard_ft, guard_no, ev_tmp, ev_int, ev_bool, ev_string, ev_slice, ev_pointer, ev_map, ev_float, ev_complex, ev_nilIface, ev_nilFunc, ev_func, eget_cons, eget_nil, st_mv, st_pick, v_pick_t, v_pick_f, st_ext, v_ext0, v_ext1, v_ext2, v_ext3, st_int, v_int, int_add, int_sub, int_mul, int_eql, int_neq, int_lss, int_leq, int_gtr, int_geq, st_beq, v_beq, v_bne, st_not, v_not, st_conv, v_conv, st_faddr, v_faddr, st_iaddr, v_iaddr, st_aaddr, v_aaddr, st_nilChk, v_nil, st_len, v_len, v_lenS, st_load, v_load, got_one, got_row, mem_tip, mem_ro, mem_ret, st_alloc, st_box, st_store, v_store, got_store, cells_agg, cells_int, cells_bool, cells_slice, cells_pointer, cells_string, cells_complex, cells_func, one_int, one_bool, one_slice, one_pointer, one_string, one_complex, one_func, upd_push, get_push_self, AHeap.n_push, AHeap.n_upd, st_build, parts_nil, parts_cons, st_bslice, st_append, st_mkfun, st_mkface, st_isNil, st_max, v_max, st_min, v_min, st_field, st_index, st_slice0, v_slice0, v_slice0n, st_slice, kill_nil, st_call, v_call, forget_nil, forget_cons, Option.map_some, Option.map_none, Option.bind_some, List.map_cons, List.map_nil, if_true, if_false, Nat.reduceEqDiff, Int.reduceEq, Nat.reduceAdd, Nat.reduceMul, Bool.not_true, Bool.not_false, reduceCtorEq, decide_true, decide_false, Int.cast_ofNat_Int, eq_self, Int.reduceLT, Int.reduceLE, Int.reduceToNat, Int.toNat_natCast, Int.le_refl, Nat.le_refl, Nat.zero_add, Nat.add_zero, Nat.zero_mul, Nat.mul_one, Nat.mul_zero, and_self, and_true, true_and, List.length_cons, List.length_nil, List.all_cons, List.all_nil, Bool.and_self, Bool.and_true, Bool.true_and, List.take_zero, List.nil_append, List.drop_nil, List.append_nil, List.getElem?_cons_zero, List.getElem?_cons_succ, List.drop_succ_cons, List.drop_zero, List.take_succ_cons, List.cons_append, Nat.reduceLeDiff, hlt, h1, h4, ← hH1, hg1, hlr, hlb, hle', hw2]
        rw [w_enter]
        simp only [w_draw, dr_cons, dr_some, dr_none, dr_go, still_no, still_yes, next_no, next_yes, last_cons, last_nil, isStore, calm_no, calm_nil, calm_cons, calmB_some, isCall, freshI, dr_nil, dr_end, still_nil, still_cons, stillB_some, stamp_some, stampV_ptr, stampV_tuple, stampO, still_here, still_here0, List.nil_append, w_out, w_gives, fin_ret, fin_normal, ress_nil, ress_tmp, pack_one, pack_nil, pack_two, entry_nil, entry_one, entry_two, entry_three, entry_four, eq_skip, eq_exit, eq_ret, w_rows, w_done, w_seq, w_normal, w_ret, w_exit, w_cond, w_true, w_false, eq_block, block_normal, block_ret, block_exit, rows_nil, rows_cons, on_some, on_none, row_plain, row_guard, guard_tt, guard_ff, guard_tf, guard_ft, guard_no, ev_tmp, ev_int, ev_bool, ev_string, ev_slice, ev_pointer, ev_map, ev_float, ev_complex, ev_nilIface, ev_nilFunc, ev_func, eget_cons, eget_nil, st_mv, st_pick, v_pick_t, v_pick_f, st_ext, v_ext0, v_ext1, v_ext2, v_ext3, st_int, v_int, int_add, int_sub, int_mul, int_eql, int_neq, int_lss, int_leq, int_gtr, int_geq, st_beq, v_beq, v_bne, st_not, v_not, st_conv, v_conv, st_faddr, v_faddr, st_iaddr, v_iaddr, st_aaddr, v_aaddr, st_nilChk, v_nil, st_len, v_len, v_lenS, st_load, v_load, got_one, got_row, mem_tip, mem_ro, mem_ret, st_alloc, st_box, st_store, v_store, got_store, cells_agg, cells_int, cells_bool, cells_slice, cells_pointer, cells_string, cells_complex, cells_func, one_int, one_bool, one_slice, one_pointer, one_string, one_complex, one_func, upd_push, get_push_self, AHeap.n_push, AHeap.n_upd, st_build, parts_nil, parts_cons, st_bslice, st_append, st_mkfun, st_mkface, st_isNil, st_max, v_max, st_min, v_min, st_field, st_index, st_slice0, v_slice0, v_slice0n, st_slice, kill_nil, st_call, v_call, forget_nil, forget_cons, Option.map_some, Option.map_none, Option.bind_some, List.map_cons, List.map_nil, if_true, if_false, Nat.reduceEqDiff, Int.reduceEq, Nat.reduceAdd, Nat.reduceMul, Bool.not_true, Bool.not_false, reduceCtorEq, decide_true, decide_false, Int.cast_ofNat_Int, eq_self, Int.reduceLT, Int.reduceLE, Int.reduceToNat, Int.toNat_natCast, Int.le_refl, Nat.le_refl, Nat.zero_add, Nat.add_zero, Nat.zero_mul, Nat.mul_one, Nat.mul_zero, and_self, and_true, true_and, List.length_cons, List.length_nil, List.all_cons, List.all_nil, Bool.and_self, Bool.and_true, Bool.true_and, List.take_zero, List.nil_append, List.drop_nil, List.append_nil, List.getElem?_cons_zero, List.getElem?_cons_succ, List.drop_succ_cons, List.drop_zero, List.take_succ_cons, List.cons_append, Nat.reduceLeDiff, r1]
        exact ⟨r2, hx1.trans r3, r4, r5, r6⟩
      | false =>
        simp only [Bool.false_or] at r1 r4 r5 r6 ⊢
        simp only [w_draw, dr_cons, dr_some, dr_none, dr_go, still_no, still_yes, next_no, next_yes, last_cons, last_nil, isStore, calm_no, calm_nil, calm_cons, calmB_some, isCall, freshI, dr_nil, dr_end, still_nil, still_cons, stillB_some, stamp_some, stampV_ptr, stampV_tuple, stampO, still_here, still_here0, List.nil_append, w_out, w_gives, fin_ret, fin_normal, ress_nil, ress_tmp, pack_one, pack_nil, pack_two, entry_nil, entry_one, entry_two, entry_three, entry_four, eq_skip, eq_exit, eq_ret, w_rows, w_done, w_seq, w_normal, w_ret, w_exit, w_cond, w_true, w_false, eq_block, block_normal, block_ret, block_exit, rows_nil, rows_cons, on_some, on_none, row_plain, row_guard, guard_tt, guard_ff, guard_tf, guard_ft, guard_no, ev_tmp, ev_int, ev_bool, ev_string, ev_slice, ev_pointer, ev_map, ev_float, ev_complex, ev_nilIface, ev_nilFunc, ev_func, eget_cons, eget_nil, st_mv, st_pick, v_pick_t, v_pick_f, st_ext, v_ext0, v_ext1, v_ext2, v_ext3, st_int, v_int, int_add, int_sub, int_mul, int_eql, int_neq, int_lss, int_leq, int_gtr, int_geq, st_beq, v_beq, v_bne, st_not, v_not, st_conv, v_conv, st_faddr, v_faddr, st_iaddr, v_iaddr, st_aaddr, v_aaddr, st_nilChk, v_nil, st_len, v_len, v_lenS, st_load, v_load, got_one, got_row, mem_tip, mem_ro, mem_ret, st_alloc, st_box, st_store, v_store, got_store, cells_agg, cells_int, cells_bool, cells_slice, cells_pointer, cells_string, cells_complex, cells_func, one_int, one_bool, one_slice, one_pointer, one_string, one_complex, one_func, upd_push, get_push_self, AHeap.n_push, AHeap.n_upd, st_build, parts_nil, parts_cons, st_bslice, st_append, st_mkfun, st_mkface, st_isNil, st_max, v_max, st_min, v_min, st_field, st_index, st_slice0, v_slice0, v_slice0n, st_slice, kill_nil, st_call, v_call, forget_nil, forget_cons, Option.map_some, Option.map_none, Option.bind_some, List.map_cons, List.map_nil, if_true, if_false, Nat.reduceEqDiff, Int.reduceEq, Nat.reduceAdd, Nat.reduceMul, Bool.not_true, Bool.not_false, reduceCtorEq, decide_true, decide_false, Int.cast_ofNat_Int, eq_self, Int.reduceLT, Int.reduceLE, Int.reduceToNat, Int.toNat_natCast, Int.le_refl, Nat.le_refl, Nat.zero_add, Nat.add_zero, Nat.zero_mul, Nat.mul_one, Nat.mul_zero, and_self, and_true, true_and, List.length_cons, List.length_nil, List.all_cons, List.all_nil, Bool.and_self, Bool.and_true, Bool.true_and, List.take_zero, List.nil_append, List.drop_nil, List.append_nil, List.getElem?_cons_zero, List.getElem?_cons_succ, List.drop_succ_cons, List.drop_zero, List.take_succ_cons, List.cons_append, Nat.reduceLeDiff, hlt, h1, h4, ← hH1, hg1, hlr, hlb, hle', hgt, s1', cU, hw2]
        rw [w_enter]
        simp only [w_draw, dr_cons, dr_some, dr_none, dr_go, still_no, still_yes, next_no, next_yes, last_cons, last_nil, isStore, calm_no, calm_nil, calm_cons, calmB_some, isCall, freshI, dr_nil, dr_end, still_nil, still_cons, stillB_some, stamp_some, stampV_ptr, stampV_tuple, stampO, still_here, still_here0, List.nil_append, w_out, w_gives, fin_ret, fin_normal, ress_nil, ress_tmp, pack_one, pack_nil, pack_two, entry_nil, entry_one, entry_two, entry_three, entry_four, eq_skip, eq_exit, eq_ret, w_rows, w_done, w_seq, w_normal, w_ret, w_exit, w_cond, w_true, w_false, eq_block, block_normal, block_ret, block_exit, rows_nil, rows_cons, on_some, on_none, row_plain, row_guard, guard_tt, guard_ff, guard_tf, guard_ft, guard_no, ev_tmp, ev_int, ev_bool, ev_string, ev_slice, ev_pointer, ev_map, ev_float, ev_complex, ev_nilIface, ev_nilFunc, ev_func, eget_cons, eget_nil, st_mv, st_pick, v_pick_t, v_pick_f, st_ext, v_ext0, v_ext1, v_ext2, v_ext3, st_int, v_int, int_add, int_sub, int_mul, int_eql, int_neq, int_lss, int_leq, int_gtr, int_geq, st_beq, v_beq, v_bne, st_not, v_not, st_conv, v_conv, st_faddr, v_faddr, st_iaddr, v_iaddr, st_aaddr, v_aaddr, st_nilChk, v_nil, st_len, v_len, v_lenS, st_load, v_load, got_one, got_row, mem_tip, mem_ro, mem_ret, st_alloc, st_box, st_store, v_store, got_store, cells_agg, cells_int, cells_bool, cells_slice, cells_pointer, cells_string, cells_complex, cells_func, one_int, one_bool, one_slice, one_pointer, one_string, one_complex, one_func, upd_push, get_push_self, AHeap.n_push, AHeap.n_upd, st_build, parts_nil, parts_cons, st_bslice, st_append, st_mkfun, st_mkface, st_isNil, st_max, v_max, st_min, v_min, st_field, st_index, st_slice0, v_slice0, v_slice0n, st_slice, kill_nil, st_call, v_call, forget_nil, forget_cons, Option.map_some, Option.map_none, Option.bind_some, List.map_cons, List.map_nil, if_true, if_false, Nat.reduceEqDiff, Int.reduceEq, Nat.reduceAdd, Nat.reduceMul, Bool.not_true, Bool.not_false, reduceCtorEq, decide_true, decide_false, Int.cast_ofNat_Int, eq_self, Int.reduceLT, Int.reduceLE, Int.reduceToNat, Int.toNat_natCast, Int.le_refl, Nat.le_refl, Nat.zero_add, Nat.add_zero, Nat.zero_mul, Nat.mul_one, Nat.mul_zero, and_self, and_true, true_and, List.length_cons, List.length_nil, List.all_cons, List.all_nil, Bool.and_self, Bool.and_true, Bool.true_and, List.take_zero, List.nil_append, List.drop_nil, List.append_nil, List.getElem?_cons_zero, List.getElem?_cons_succ, List.drop_succ_cons, List.drop_zero, List.take_succ_cons, List.cons_append, Nat.reduceLeDiff, r1]
        exact ⟨r2, hx1.trans r3, r4, r5, r6⟩
theorem c_Doc {a b : Value} {us : List Int} {L : List Rl} {H : AHeap} (ha : Rules H a L) (hac : CutR H a) (hb : Ints H b us) (hbc : Cut Try.prog H b 1) (hL : L.length < 1000000) (hus : tiny us) : Gives (cw Try.prog (tabF tab) om1 29 [a, b] H) fun v H' => Ext H H' ∧ v = .tuple ⟨[.int .i64 (docF us L 0 (-1) 0 false).1, .int .i64 (docF us L 0 (-1) 0 false).2.1, .bool (docF us L 0 (-1) 0 false).2.2]⟩ := by
  rw [cw_run (F := F_lontarlaw04_Longest) rfl rfl rfl]
  unfold F_lontarlaw04_Longest k_lontarlaw04_Longest
  obtain ⟨y, e', H', r1, rfl, r3, r4, r5, r6⟩ := l_Doc (a := a) hL hus L.length 0 H (-1) 0 false (by omega) ha hac hb hbc
  have hl := ha.len (H2 := H)
  rw [List.drop_zero] at r4 r5 r6
  simp only [Int.cast_ofNat_Int] at r1
  simp only [w_draw, dr_cons, dr_some, dr_none, dr_go, still_no, still_yes, next_no, next_yes, last_cons, last_nil, isStore, calm_no, calm_nil, calm_cons, calmB_some, isCall, freshI, dr_nil, dr_end, still_nil, still_cons, stillB_some, stamp_some, stampV_ptr, stampV_tuple, stampO, still_here, still_here0, List.nil_append, w_out, w_gives, fin_ret, fin_normal, ress_nil, ress_tmp, pack_one, pack_nil, pack_two, entry_nil, entry_one, entry_two, entry_three, entry_four, eq_skip, eq_exit, eq_ret, w_rows, w_done, w_seq, w_normal, w_ret, w_exit, w_cond, w_true, w_false, eq_block, block_normal, block_ret, block_exit, rows_nil, rows_cons, on_some, on_none, row_plain, row_guard, guard_tt, guard_ff, guard_tf, guard_ft, guard_no, ev_tmp, ev_int, ev_bool, ev_string, ev_slice, ev_pointer, ev_map, ev_float, ev_complex, ev_nilIface, ev_nilFunc, ev_func, eget_cons, eget_nil, st_mv, st_pick, v_pick_t, v_pick_f, st_ext, v_ext0, v_ext1, v_ext2, v_ext3, st_int, v_int, int_add, int_sub, int_mul, int_eql, int_neq, int_lss, int_leq, int_gtr, int_geq, st_beq, v_beq, v_bne, st_not, v_not, st_conv, v_conv, st_faddr, v_faddr, st_iaddr, v_iaddr, st_aaddr, v_aaddr, st_nilChk, v_nil, st_len, v_len, v_lenS, st_load, v_load, got_one, got_row, mem_tip, mem_ro, mem_ret, st_alloc, st_box, st_store, v_store, got_store, cells_agg, cells_int, cells_bool, cells_slice, cells_pointer, cells_string, cells_complex, cells_func, one_int, one_bool, one_slice, one_pointer, one_string, one_complex, one_func, upd_push, get_push_self, AHeap.n_push, AHeap.n_upd, st_build, parts_nil, parts_cons, st_bslice, st_append, st_mkfun, st_mkface, st_isNil, st_max, v_max, st_min, v_min, st_field, st_index, st_slice0, v_slice0, v_slice0n, st_slice, kill_nil, st_call, v_call, forget_nil, forget_cons, Option.map_some, Option.map_none, Option.bind_some, List.map_cons, List.map_nil, if_true, if_false, Nat.reduceEqDiff, Int.reduceEq, Nat.reduceAdd, Nat.reduceMul, Bool.not_true, Bool.not_false, reduceCtorEq, decide_true, decide_false, Int.cast_ofNat_Int, eq_self, Int.reduceLT, Int.reduceLE, Int.reduceToNat, Int.toNat_natCast, Int.le_refl, Nat.le_refl, Nat.zero_add, Nat.add_zero, Nat.zero_mul, Nat.mul_one, Nat.mul_zero, and_self, and_true, true_and, List.length_cons, List.length_nil, List.all_cons, List.all_nil, Bool.and_self, Bool.and_true, Bool.true_and, List.take_zero, List.nil_append, List.drop_nil, List.append_nil, List.getElem?_cons_zero, List.getElem?_cons_succ, List.drop_succ_cons, List.drop_zero, List.take_succ_cons, List.cons_append, Nat.reduceLeDiff, hl]
  rw [w_enter]
  simp only [w_draw, dr_cons, dr_some, dr_none, dr_go, still_no, still_yes, next_no, next_yes, last_cons, last_nil, isStore, calm_no, calm_nil, calm_cons, calmB_some, isCall, freshI, dr_nil, dr_end, still_nil, still_cons, stillB_some, stamp_some, stampV_ptr, stampV_tuple, stampO, still_here, still_here0, List.nil_append, w_out, w_gives, fin_ret, fin_normal, ress_nil, ress_tmp, pack_one, pack_nil, pack_two, entry_nil, entry_one, entry_two, entry_three, entry_four, eq_skip, eq_exit, eq_ret, w_rows, w_done, w_seq, w_normal, w_ret, w_exit, w_cond, w_true, w_false, eq_block, block_normal, block_ret, block_exit, rows_nil, rows_cons, on_some, on_none, row_plain, row_guard, guard_tt, guard_ff, guard_tf, guard_ft, guard_no, ev_tmp, ev_int, ev_bool, ev_string, ev_slice, ev_pointer, ev_map, ev_float, ev_complex, ev_nilIface, ev_nilFunc, ev_func, eget_cons, eget_nil, st_mv, st_pick, v_pick_t, v_pick_f, st_ext, v_ext0, v_ext1, v_ext2, v_ext3, st_int, v_int, int_add, int_sub, int_mul, int_eql, int_neq, int_lss, int_leq, int_gtr, int_geq, st_beq, v_beq, v_bne, st_not, v_not, st_conv, v_conv, st_faddr, v_faddr, st_iaddr, v_iaddr, st_aaddr, v_aaddr, st_nilChk, v_nil, st_len, v_len, v_lenS, st_load, v_load, got_one, got_row, mem_tip, mem_ro, mem_ret, st_alloc, st_box, st_store, v_store, got_store, cells_agg, cells_int, cells_bool, cells_slice, cells_pointer, cells_string, cells_complex, cells_func, one_int, one_bool, one_slice, one_pointer, one_string, one_complex, one_func, upd_push, get_push_self, AHeap.n_push, AHeap.n_upd, st_build, parts_nil, parts_cons, st_bslice, st_append, st_mkfun, st_mkface, st_isNil, st_max, v_max, st_min, v_min, st_field, st_index, st_slice0, v_slice0, v_slice0n, st_slice, kill_nil, st_call, v_call, forget_nil, forget_cons, Option.map_some, Option.map_none, Option.bind_some, List.map_cons, List.map_nil, if_true, if_false, Nat.reduceEqDiff, Int.reduceEq, Nat.reduceAdd, Nat.reduceMul, Bool.not_true, Bool.not_false, reduceCtorEq, decide_true, decide_false, Int.cast_ofNat_Int, eq_self, Int.reduceLT, Int.reduceLE, Int.reduceToNat, Int.toNat_natCast, Int.le_refl, Nat.le_refl, Nat.zero_add, Nat.add_zero, Nat.zero_mul, Nat.mul_one, Nat.mul_zero, and_self, and_true, true_and, List.length_cons, List.length_nil, List.all_cons, List.all_nil, Bool.and_self, Bool.and_true, Bool.true_and, List.take_zero, List.nil_append, List.drop_nil, List.append_nil, List.getElem?_cons_zero, List.getElem?_cons_succ, List.drop_succ_cons, List.drop_zero, List.take_succ_cons, List.cons_append, Nat.reduceLeDiff, r1, r4, r5, r6]
  exact r3
end Go.Proofs.Ythnccfmmeaeibaa

/-! Units by numbers. -/
set_option linter.unusedSimpArgs false
set_option linter.unusedVariables false
namespace Go.Proofs.Ythnccfmmeaeibaa
open Go Lon
def som (l : List Int) : List Int := (l.take 60).map fun u => 97 + u % 6
theorem som_len {l : List Int} : (som l).length ≤ 60 := by unfold som; rw [List.length_map, List.length_take]; omega
theorem som_map {l : List Int} {i : Nat} : (l.map fun u => 97 + u % 6).take i = (l.take i).map fun u => 97 + u % 6 := by rw [List.map_take]
theorem l_Some {a : Value} {l : List Int} {B : Nat} (hl : l.length ≤ 60) (hb : bytes l) : ∀ (k i : Nat) (H : AHeap) (out : Value), i + k = l.length → Nums H .u8 a l → Own H 3 1 out i (ints ((l.take i).map fun u => 97 + u % 6)) → From B out → B ≤ H.n →
    Out (run Try.prog (tabF tab) om1 (.loop [3, 10, 11, 12] b_lontarlaw04_Some_0) [(3, out), (10, a), (11, .int .i64 l.length), (12, .int .i64 i)] H) fun y e' H' => y = .exit 0 ∧ Own H' 3 1 (eget e' 3) l.length (ints (l.map fun u => 97 + u % 6)) ∧ From B (eget e' 3) ∧ B ≤ H'.n ∧ (∀ j, j < B → H'.get j = H.get j) := by
  intro k
  induction k with
  | zero =>
    intro i H out hi ha ho hf hB
    obtain rfl : i = l.length := by omega
    have hlt : ¬ ((l.length : Int) < l.length) := by omega
    rw [w_loop_b b_lontarlaw04_Some_0.eq_1]
    rw [List.take_length] at ho
    simp only [w_draw, dr_cons, dr_some, dr_none, dr_go, still_no, still_yes, next_no, next_yes, last_cons, last_nil, isStore, calm_no, calm_nil, calm_cons, calmB_some, isCall, freshI, dr_nil, dr_end, still_nil, still_cons, stillB_some, stamp_some, stampV_ptr, stampV_tuple, stampO, still_here, still_here0, List.nil_append, w_out, w_gives, fin_ret, fin_normal, ress_nil, ress_tmp, pack_one, pack_nil, pack_two, entry_nil, entry_one, entry_two, entry_three, entry_four, eq_skip, eq_exit, eq_ret, w_rows, w_done, w_seq, w_normal, w_ret, w_exit, w_cond, w_true, w_false, eq_block, block_normal, block_ret, block_exit, rows_nil, rows_cons, on_some, on_none, row_plain, row_guard, guard_tt, guard_ff, guard_tf, guard_ft, guard_no, ev_tmp, ev_int, ev_bool, ev_string, ev_slice, ev_pointer, ev_map, ev_float, ev_complex, ev_nilIface, ev_nilFunc, ev_func, eget_cons, eget_nil, st_mv, st_pick, v_pick_t, v_pick_f, st_ext, v_ext0, v_ext1, v_ext2, v_ext3, st_int, v_int, int_add, int_sub, int_mul, int_eql, int_neq, int_lss, int_leq, int_gtr, int_geq, st_beq, v_beq, v_bne, st_not, v_not, st_conv, v_conv, st_faddr, v_faddr, st_iaddr, v_iaddr, st_aaddr, v_aaddr, st_nilChk, v_nil, st_len, v_len, v_lenS, st_load, v_load, got_one, got_row, mem_tip, mem_ro, mem_ret, st_alloc, st_box, st_store, v_store, got_store, cells_agg, cells_int, cells_bool, cells_slice, cells_pointer, cells_string, cells_complex, cells_func, one_int, one_bool, one_slice, one_pointer, one_string, one_complex, one_func, upd_push, get_push_self, AHeap.n_push, AHeap.n_upd, st_build, parts_nil, parts_cons, st_bslice, st_append, st_mkfun, st_mkface, st_isNil, st_max, v_max, st_min, v_min, st_field, st_index, st_slice0, v_slice0, v_slice0n, st_slice, kill_nil, st_call, v_call, forget_nil, forget_cons, Option.map_some, Option.map_none, Option.bind_some, List.map_cons, List.map_nil, if_true, if_false, Nat.reduceEqDiff, Int.reduceEq, Nat.reduceAdd, Nat.reduceMul, Bool.not_true, Bool.not_false, reduceCtorEq, decide_true, decide_false, Int.cast_ofNat_Int, eq_self, Int.reduceLT, Int.reduceLE, Int.reduceToNat, Int.toNat_natCast, Int.le_refl, Nat.le_refl, Nat.zero_add, Nat.add_zero, Nat.zero_mul, Nat.mul_one, Nat.mul_zero, and_self, and_true, true_and, List.length_cons, List.length_nil, List.all_cons, List.all_nil, Bool.and_self, Bool.and_true, Bool.true_and, List.take_zero, List.nil_append, List.drop_nil, List.append_nil, List.getElem?_cons_zero, List.getElem?_cons_succ, List.drop_succ_cons, List.drop_zero, List.take_succ_cons, List.cons_append, Nat.reduceLeDiff, hlt]
    exact ⟨ho, hf, hB, fun _ _ => trivial⟩
  | succ k ih =>
    intro i H out hi ha ho hf hB
    have hlt : (i : Int) < l.length := by omega
    obtain ⟨u, hu, hd⟩ := drop_at (L := l) (i := i) (by omega)
    obtain ⟨u1, u2⟩ := hb u (List.mem_of_getElem? hu)
    obtain ⟨i1, o1, h1, h2⟩ := ha.at hu
    have hw2 : IntKind.i64.wrap ((i : Int) + 1) = ((i + 1 : Nat) : Int) := by rw [wrap64 (by omega) (by omega)]; omega
    have q1 : intOp .rem .u8 u 6 = some (.int .u8 (u % 6)) := by rw [int_rem (by decide), Int.tmod_eq_emod_of_nonneg (by omega)]
    have q2 : IntKind.i64.wrap (u % 6) = u % 6 := wrap64 (by omega) (by omega)
    have q3 : IntKind.i64.wrap (97 + u % 6) = 97 + u % 6 := wrap64 (by omega) (by omega)
    have hx1 := Ext.push H ⟨[.int .i64 (97 + u % 6)], 3, .tip, 0, []⟩
    obtain ⟨v', H5, m1, m2, m3, m4, m5, m6⟩ := Own.append2 (bytes := 8) (m := 1) (ho.ext hx1) (Sl.new (n := 1) (c := 2) (get_push_self (H := H) (b := ⟨[.int .i64 (97 + u % 6)], 3, .tip, 0, []⟩)) mem_tip rfl) (by omega) rfl (by omega)
    have hdone : ints ((l.take i).map fun u => 97 + u % 6) ++ [.int .i64 (97 + u % 6)] = ints ((l.take (i + 1)).map fun u => 97 + u % 6) := by
      rw [List.take_add_one, hu]; simp [ints]
    rw [hdone] at m2
    obtain ⟨y, e', H', r1, r2, r4, r5, r6, r7⟩ := ih (i + 1) H5 v' (by omega) (((ha.ext hx1)).keeps m4) m2 (m3.mono (by simp; omega)) (by simp at m5; omega)
    rw [w_loop_b b_lontarlaw04_Some_0.eq_1]
    simp only [w_draw, dr_cons, dr_some, dr_none, dr_go, still_no, still_yes, next_no, next_yes, last_cons, last_nil, isStore, calm_no, calm_nil, calm_cons, calmB_some, isCall, freshI, dr_nil, dr_end, still_nil, still_cons, stillB_some, stamp_some, stampV_ptr, stampV_tuple, stampO, still_here, still_here0, List.nil_append, w_out, w_gives, fin_ret, fin_normal, ress_nil, ress_tmp, pack_one, pack_nil, pack_two, entry_nil, entry_one, entry_two, entry_three, entry_four, eq_skip, eq_exit, eq_ret, w_rows, w_done, w_seq, w_normal, w_ret, w_exit, w_cond, w_true, w_false, eq_block, block_normal, block_ret, block_exit, rows_nil, rows_cons, on_some, on_none, row_plain, row_guard, guard_tt, guard_ff, guard_tf, guard_ft, guard_no, ev_tmp, ev_int, ev_bool, ev_string, ev_slice, ev_pointer, ev_map, ev_float, ev_complex, ev_nilIface, ev_nilFunc, ev_func, eget_cons, eget_nil, st_mv, st_pick, v_pick_t, v_pick_f, st_ext, v_ext0, v_ext1, v_ext2, v_ext3, st_int, v_int, int_add, int_sub, int_mul, int_eql, int_neq, int_lss, int_leq, int_gtr, int_geq, st_beq, v_beq, v_bne, st_not, v_not, st_conv, v_conv, st_faddr, v_faddr, st_iaddr, v_iaddr, st_aaddr, v_aaddr, st_nilChk, v_nil, st_len, v_len, v_lenS, st_load, v_load, got_one, got_row, mem_tip, mem_ro, mem_ret, st_alloc, st_box, st_store, v_store, got_store, cells_agg, cells_int, cells_bool, cells_slice, cells_pointer, cells_string, cells_complex, cells_func, one_int, one_bool, one_slice, one_pointer, one_string, one_complex, one_func, upd_push, get_push_self, AHeap.n_push, AHeap.n_upd, st_build, parts_nil, parts_cons, st_bslice, st_append, st_mkfun, st_mkface, st_isNil, st_max, v_max, st_min, v_min, st_field, st_index, st_slice0, v_slice0, v_slice0n, st_slice, kill_nil, st_call, v_call, forget_nil, forget_cons, Option.map_some, Option.map_none, Option.bind_some, List.map_cons, List.map_nil, if_true, if_false, Nat.reduceEqDiff, Int.reduceEq, Nat.reduceAdd, Nat.reduceMul, Bool.not_true, Bool.not_false, reduceCtorEq, decide_true, decide_false, Int.cast_ofNat_Int, eq_self, Int.reduceLT, Int.reduceLE, Int.reduceToNat, Int.toNat_natCast, Int.le_refl, Nat.le_refl, Nat.zero_add, Nat.add_zero, Nat.zero_mul, Nat.mul_one, Nat.mul_zero, and_self, and_true, true_and, List.length_cons, List.length_nil, List.all_cons, List.all_nil, Bool.and_self, Bool.and_true, Bool.true_and, List.take_zero, List.nil_append, List.drop_nil, List.append_nil, List.getElem?_cons_zero, List.getElem?_cons_succ, List.drop_succ_cons, List.drop_zero, List.take_succ_cons, List.cons_append, Nat.reduceLeDiff, hlt, h1, h2, q1, q2, q3, v_int1, m1, hw2]
    rw [w_enter]
    simp only [w_draw, dr_cons, dr_some, dr_none, dr_go, still_no, still_yes, next_no, next_yes, last_cons, last_nil, isStore, calm_no, calm_nil, calm_cons, calmB_some, isCall, freshI, dr_nil, dr_end, still_nil, still_cons, stillB_some, stamp_some, stampV_ptr, stampV_tuple, stampO, still_here, still_here0, List.nil_append, w_out, w_gives, fin_ret, fin_normal, ress_nil, ress_tmp, pack_one, pack_nil, pack_two, entry_nil, entry_one, entry_two, entry_three, entry_four, eq_skip, eq_exit, eq_ret, w_rows, w_done, w_seq, w_normal, w_ret, w_exit, w_cond, w_true, w_false, eq_block, block_normal, block_ret, block_exit, rows_nil, rows_cons, on_some, on_none, row_plain, row_guard, guard_tt, guard_ff, guard_tf, guard_ft, guard_no, ev_tmp, ev_int, ev_bool, ev_string, ev_slice, ev_pointer, ev_map, ev_float, ev_complex, ev_nilIface, ev_nilFunc, ev_func, eget_cons, eget_nil, st_mv, st_pick, v_pick_t, v_pick_f, st_ext, v_ext0, v_ext1, v_ext2, v_ext3, st_int, v_int, int_add, int_sub, int_mul, int_eql, int_neq, int_lss, int_leq, int_gtr, int_geq, st_beq, v_beq, v_bne, st_not, v_not, st_conv, v_conv, st_faddr, v_faddr, st_iaddr, v_iaddr, st_aaddr, v_aaddr, st_nilChk, v_nil, st_len, v_len, v_lenS, st_load, v_load, got_one, got_row, mem_tip, mem_ro, mem_ret, st_alloc, st_box, st_store, v_store, got_store, cells_agg, cells_int, cells_bool, cells_slice, cells_pointer, cells_string, cells_complex, cells_func, one_int, one_bool, one_slice, one_pointer, one_string, one_complex, one_func, upd_push, get_push_self, AHeap.n_push, AHeap.n_upd, st_build, parts_nil, parts_cons, st_bslice, st_append, st_mkfun, st_mkface, st_isNil, st_max, v_max, st_min, v_min, st_field, st_index, st_slice0, v_slice0, v_slice0n, st_slice, kill_nil, st_call, v_call, forget_nil, forget_cons, Option.map_some, Option.map_none, Option.bind_some, List.map_cons, List.map_nil, if_true, if_false, Nat.reduceEqDiff, Int.reduceEq, Nat.reduceAdd, Nat.reduceMul, Bool.not_true, Bool.not_false, reduceCtorEq, decide_true, decide_false, Int.cast_ofNat_Int, eq_self, Int.reduceLT, Int.reduceLE, Int.reduceToNat, Int.toNat_natCast, Int.le_refl, Nat.le_refl, Nat.zero_add, Nat.add_zero, Nat.zero_mul, Nat.mul_one, Nat.mul_zero, and_self, and_true, true_and, List.length_cons, List.length_nil, List.all_cons, List.all_nil, Bool.and_self, Bool.and_true, Bool.true_and, List.take_zero, List.nil_append, List.drop_nil, List.append_nil, List.getElem?_cons_zero, List.getElem?_cons_succ, List.drop_succ_cons, List.drop_zero, List.take_succ_cons, List.cons_append, Nat.reduceLeDiff, r1]
    refine ⟨r2, r4, r5, r6, fun j hj => ?_⟩
    rw [r7 j hj, m6 j (by simp; omega) (NotAt.of_from hf hj), hx1.2 j (by omega)]
theorem c_Some {a : Value} {l : List Int} {H : AHeap} (ha : Nums H .u8 a l) (hc : Cut Try.prog H a 1) (hb : bytes l) (hs : tiny l) : Gives (cw Try.prog (tabF tab) om1 19 [a] H) fun v H' => Ext H H' ∧ Ints H' v (som l) ∧ Cut Try.prog H' v 1 := by
  rw [cw_run (F := F_lontarlaw04_Some) rfl rfl rfl]
  unfold F_lontarlaw04_Some k_lontarlaw04_Some
  obtain ⟨k, hk⟩ : ∃ k : Nat, k = min l.length 60 := ⟨_, rfl⟩
  obtain ⟨a', s1, s2, s3⟩ := ha.take hc (show k ≤ l.length by omega)
  have hmin : (if (60 : Int) < (l.length : Int) then (60 : Int) else (l.length : Int)) = (k : Int) := by split <;> omega
  have hkl : (l.take k).length = k := by simp; omega
  have hk4 : l.take 60 = l.take k := by
    subst hk
    rcases Nat.le_total l.length 60 with h | h
    · rw [Nat.min_eq_left h, List.take_of_length_le h, List.take_length]
    · rw [Nat.min_eq_right h]
  obtain ⟨y, e', H', r1, rfl, r4, r5, r6, r7⟩ := l_Some (a := a') (l := l.take k) (B := H.n) (by omega) (fun u hu => hb u (List.mem_of_mem_take hu)) (l.take k).length 0 H (.slice none 0 0) (by omega) s2 ⟨rfl, .inl ⟨rfl, rfl⟩⟩ trivial (Nat.le_refl _)
  have hl0 := ha.len (H2 := H)
  have hl1 := Nums.len s2 (H2 := H)
  rw [hkl] at hl1 r1 r4
  simp only [Int.cast_ofNat_Int] at r1
  have s1' := s1 .i64
  simp only [w_draw, dr_cons, dr_some, dr_none, dr_go, still_no, still_yes, next_no, next_yes, last_cons, last_nil, isStore, calm_no, calm_nil, calm_cons, calmB_some, isCall, freshI, dr_nil, dr_end, still_nil, still_cons, stillB_some, stamp_some, stampV_ptr, stampV_tuple, stampO, still_here, still_here0, List.nil_append, w_out, w_gives, fin_ret, fin_normal, ress_nil, ress_tmp, pack_one, pack_nil, pack_two, entry_nil, entry_one, entry_two, entry_three, entry_four, eq_skip, eq_exit, eq_ret, w_rows, w_done, w_seq, w_normal, w_ret, w_exit, w_cond, w_true, w_false, eq_block, block_normal, block_ret, block_exit, rows_nil, rows_cons, on_some, on_none, row_plain, row_guard, guard_tt, guard_ff, guard_tf, guard_ft, guard_no, ev_tmp, ev_int, ev_bool, ev_string, ev_slice, ev_pointer, ev_map, ev_float, ev_complex, ev_nilIface, ev_nilFunc, ev_func, eget_cons, eget_nil, st_mv, st_pick, v_pick_t, v_pick_f, st_ext, v_ext0, v_ext1, v_ext2, v_ext3, st_int, v_int, int_add, int_sub, int_mul, int_eql, int_neq, int_lss, int_leq, int_gtr, int_geq, st_beq, v_beq, v_bne, st_not, v_not, st_conv, v_conv, st_faddr, v_faddr, st_iaddr, v_iaddr, st_aaddr, v_aaddr, st_nilChk, v_nil, st_len, v_len, v_lenS, st_load, v_load, got_one, got_row, mem_tip, mem_ro, mem_ret, st_alloc, st_box, st_store, v_store, got_store, cells_agg, cells_int, cells_bool, cells_slice, cells_pointer, cells_string, cells_complex, cells_func, one_int, one_bool, one_slice, one_pointer, one_string, one_complex, one_func, upd_push, get_push_self, AHeap.n_push, AHeap.n_upd, st_build, parts_nil, parts_cons, st_bslice, st_append, st_mkfun, st_mkface, st_isNil, st_max, v_max, st_min, v_min, st_field, st_index, st_slice0, v_slice0, v_slice0n, st_slice, kill_nil, st_call, v_call, forget_nil, forget_cons, Option.map_some, Option.map_none, Option.bind_some, List.map_cons, List.map_nil, if_true, if_false, Nat.reduceEqDiff, Int.reduceEq, Nat.reduceAdd, Nat.reduceMul, Bool.not_true, Bool.not_false, reduceCtorEq, decide_true, decide_false, Int.cast_ofNat_Int, eq_self, Int.reduceLT, Int.reduceLE, Int.reduceToNat, Int.toNat_natCast, Int.le_refl, Nat.le_refl, Nat.zero_add, Nat.add_zero, Nat.zero_mul, Nat.mul_one, Nat.mul_zero, and_self, and_true, true_and, List.length_cons, List.length_nil, List.all_cons, List.all_nil, Bool.and_self, Bool.and_true, Bool.true_and, List.take_zero, List.nil_append, List.drop_nil, List.append_nil, List.getElem?_cons_zero, List.getElem?_cons_succ, List.drop_succ_cons, List.drop_zero, List.take_succ_cons, List.cons_append, Nat.reduceLeDiff, hl0, hmin, s1', hl1]
  rw [w_enter]
  simp only [w_draw, dr_cons, dr_some, dr_none, dr_go, still_no, still_yes, next_no, next_yes, last_cons, last_nil, isStore, calm_no, calm_nil, calm_cons, calmB_some, isCall, freshI, dr_nil, dr_end, still_nil, still_cons, stillB_some, stamp_some, stampV_ptr, stampV_tuple, stampO, still_here, still_here0, List.nil_append, w_out, w_gives, fin_ret, fin_normal, ress_nil, ress_tmp, pack_one, pack_nil, pack_two, entry_nil, entry_one, entry_two, entry_three, entry_four, eq_skip, eq_exit, eq_ret, w_rows, w_done, w_seq, w_normal, w_ret, w_exit, w_cond, w_true, w_false, eq_block, block_normal, block_ret, block_exit, rows_nil, rows_cons, on_some, on_none, row_plain, row_guard, guard_tt, guard_ff, guard_tf, guard_ft, guard_no, ev_tmp, ev_int, ev_bool, ev_string, ev_slice, ev_pointer, ev_map, ev_float, ev_complex, ev_nilIface, ev_nilFunc, ev_func, eget_cons, eget_nil, st_mv, st_pick, v_pick_t, v_pick_f, st_ext, v_ext0, v_ext1, v_ext2, v_ext3, st_int, v_int, int_add, int_sub, int_mul, int_eql, int_neq, int_lss, int_leq, int_gtr, int_geq, st_beq, v_beq, v_bne, st_not, v_not, st_conv, v_conv, st_faddr, v_faddr, st_iaddr, v_iaddr, st_aaddr, v_aaddr, st_nilChk, v_nil, st_len, v_len, v_lenS, st_load, v_load, got_one, got_row, mem_tip, mem_ro, mem_ret, st_alloc, st_box, st_store, v_store, got_store, cells_agg, cells_int, cells_bool, cells_slice, cells_pointer, cells_string, cells_complex, cells_func, one_int, one_bool, one_slice, one_pointer, one_string, one_complex, one_func, upd_push, get_push_self, AHeap.n_push, AHeap.n_upd, st_build, parts_nil, parts_cons, st_bslice, st_append, st_mkfun, st_mkface, st_isNil, st_max, v_max, st_min, v_min, st_field, st_index, st_slice0, v_slice0, v_slice0n, st_slice, kill_nil, st_call, v_call, forget_nil, forget_cons, Option.map_some, Option.map_none, Option.bind_some, List.map_cons, List.map_nil, if_true, if_false, Nat.reduceEqDiff, Int.reduceEq, Nat.reduceAdd, Nat.reduceMul, Bool.not_true, Bool.not_false, reduceCtorEq, decide_true, decide_false, Int.cast_ofNat_Int, eq_self, Int.reduceLT, Int.reduceLE, Int.reduceToNat, Int.toNat_natCast, Int.le_refl, Nat.le_refl, Nat.zero_add, Nat.add_zero, Nat.zero_mul, Nat.mul_one, Nat.mul_zero, and_self, and_true, true_and, List.length_cons, List.length_nil, List.all_cons, List.all_nil, Bool.and_self, Bool.and_true, Bool.true_and, List.take_zero, List.nil_append, List.drop_nil, List.append_nil, List.getElem?_cons_zero, List.getElem?_cons_succ, List.drop_succ_cons, List.drop_zero, List.take_succ_cons, List.cons_append, Nat.reduceLeDiff, r1]
  refine ⟨⟨r6, r7⟩, ?_, r4.cut (by kernel_rfl)⟩
  have := r4.sl
  unfold Ints som
  rw [hk4, List.length_map, hkl]
  exact this
end Go.Proofs.Ythnccfmmeaeibaa

