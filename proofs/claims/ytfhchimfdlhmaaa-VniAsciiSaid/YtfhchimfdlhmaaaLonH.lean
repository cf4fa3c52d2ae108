/- What is proved here: that a write into an own row keeps the heap's relation. Conditions: those that each theorem names, and no others. -/
import Derived.Test.YtfhchimfdlhmaaaLonG
/-! Memory: blocks that turn. -/
set_option linter.unusedSimpArgs false
set_option linter.unusedVariables false
namespace Lon
open Go

section
variable {P : Program} {σ : Sig} {base : Nat} {H H' : AHeap} {w : World}

/-- Blocks die, or are retired: the relation stays. -/
theorem HR.sub (h : HR P σ base H w) (hn : H'.n = H.n)
    (hs : ∀ i b', H'.get i = some b' → ∃ b, H.get i = some b ∧ b'.elem = b.elem ∧ b'.anc = b.anc ∧ b'.cells = b.cells ∧ (b'.st = b.st ∨ b'.st = .dead ∨ (b.st = .tip ∧ b'.st = .ret))) : HR P σ base H' w where
  elem hg hl := by
    obtain ⟨b, h1, h2, _⟩ := hs _ _ hg
    rw [h2]; exact h.elem h1 hl
  out i hi := h.out i (by omega)
  lt hg hst hl := by
    obtain ⟨b, h1, _, _, _, h5⟩ := hs _ _ hg
    refine h.lt h1 (fun e => ?_) hl
    rcases h5 with h5 | h5 | ⟨h5, h6⟩
    · exact hst (h5.trans e)
    · exact hst h5
    · rw [e] at h5; cases h5
  cells hg hst hl k v hk := by
    obtain ⟨b, h1, _, _, h4, h5⟩ := hs _ _ hg
    refine h.cells h1 ?_ hl (by rw [← h4]; exact hk)
    rcases h5 with h5 | h5 | ⟨h5, h6⟩
    · rw [← h5]; exact hst
    · rw [h5] at hst; cases hst
    · rw [h5]; rfl
  ro hg hst hl := by
    obtain ⟨b, h1, _, _, _, h5⟩ := hs _ _ hg
    refine h.ro h1 ?_ hl
    rcases h5 with h5 | h5 | ⟨h5, h6⟩
    · rw [← h5]; exact hst
    · rw [h5] at hst; cases hst
    · rw [h6] at hst; cases hst
  own hg hst hl := by
    obtain ⟨b, h1, _, _, _, h5⟩ := hs _ _ hg
    refine h.own h1 ?_ hl
    rcases h5 with h5 | h5 | ⟨h5, h6⟩
    · rw [← h5]; exact hst
    · rw [h5] at hst; cases hst
    · rw [h5]; rfl
  row hg hst hl := by
    obtain ⟨b, h1, _, _, _, h5⟩ := hs _ _ hg
    refine h.row h1 ?_ hl
    rcases h5 with h5 | h5 | ⟨h5, h6⟩
    · rw [← h5]; exact hst
    · rw [h5] at hst; cases hst
    · rw [h5]; rfl
  fits hg hst hl := by
    obtain ⟨b, h1, _, _, h4, h5⟩ := hs _ _ hg
    rw [h4]
    refine h.fits h1 ?_ hl
    rcases h5 with h5 | h5 | ⟨h5, h6⟩
    · rw [← h5]; exact hst
    · rw [h5] at hst; cases hst
    · rw [h5]; rfl
  map hg hst hl := by
    obtain ⟨b, h1, _, _, h4, h5⟩ := hs _ _ hg
    rw [h4]
    refine h.map h1 ?_ hl
    rcases h5 with h5 | h5 | ⟨h5, h6⟩
    · rw [← h5]; exact hst
    · rw [h5] at hst; cases hst
    · rw [h6] at hst; cases hst
  sep hij hi hj si sj hli hlj hb := by
    obtain ⟨bi, h1, _, a1, _, s1⟩ := hs _ _ hi
    obtain ⟨bj, h2, _, a2, _, s2⟩ := hs _ _ hj
    rw [a1, a2]
    refine h.sep hij h1 h2 ?_ ?_ hli hlj hb
    · rcases s1 with s | s | ⟨s, s'⟩
      · rw [← s]; exact si
      · rw [s] at si; cases si
      · rw [s]; rfl
    · rcases s2 with s | s | ⟨s, s'⟩
      · rw [← s]; exact sj
      · rw [s] at sj; cases sj
      · rw [s]; rfl
  anc hi hj si sj hm := by
    obtain ⟨bi, h1, _, a1, _, s1⟩ := hs _ _ hi
    obtain ⟨bj, h2, _, a2, _, s2⟩ := hs _ _ hj
    rw [a2] at hm
    have q1 : bi.st.own = true := by
      rcases s1 with s | s | ⟨s, s'⟩
      · rw [← s]; exact si
      · rw [s] at si; cases si
      · rw [s]; rfl
    have q2 : bj.st.own = true := by
      rcases s2 with s | s | ⟨s, s'⟩
      · rw [← s]; exact sj
      · rw [s] at sj; cases sj
      · rw [s]; rfl
    have := h.anc h1 h2 q1 q2 hm
    rcases s1 with s | s | ⟨s, s'⟩
    · rw [s]; exact this
    · rw [s] at si; cases si
    · exact s'
  ends hi hj si sj hm hli hlj hb := by
    obtain ⟨bi, h1, _, a1, c1, s1⟩ := hs _ _ hi
    obtain ⟨bj, h2, _, a2, c2, s2⟩ := hs _ _ hj
    rw [a2] at hm
    rw [c1, c2]
    refine h.ends h1 h2 ?_ ?_ hm hli hlj hb
    · rcases s1 with s | s | ⟨s, s'⟩
      · rw [← s]; exact si
      · rw [s] at si; cases si
      · rw [s]; rfl
    · rcases s2 with s | s | ⟨s, s'⟩
      · rw [← s]; exact sj
      · rw [s] at sj; cases sj
      · rw [s]; rfl
  ancJ hj i hm := by
    obtain ⟨bj, h2, _, a2, _⟩ := hs _ _ hj
    rw [a2] at hm
    exact h.ancJ h2 i hm

theorem kill1_sub (H : AHeap) (i : Nat) : ∀ j b', (kill1 H i).get j = some b' → ∃ b, H.get j = some b ∧ b'.elem = b.elem ∧ b'.anc = b.anc ∧ b'.cells = b.cells ∧ (b'.st = b.st ∨ b'.st = .dead ∨ (b.st = .tip ∧ b'.st = .ret)) := by
  intro j b' h
  rw [kill1_get] at h
  split at h
  · rename_i e
    subst e
    cases hh : H.get j with
    | none => rw [hh] at h; cases h
    | some b =>
      rw [hh] at h
      simp only [Option.map_some, Option.some.injEq] at h
      subst h
      exact ⟨b, rfl, rfl, rfl, rfl, .inr (.inl rfl)⟩
  · exact ⟨b', h, rfl, rfl, rfl, .inl rfl⟩
theorem HR.killAll : ∀ (l : List Nat) {H : AHeap}, HR P σ base H w → HR P σ base (Lon.killAll H l) w
  | [], _, h => h
  | i :: r, H, h => by
    simp only [Lon.killAll]
    exact HR.killAll r (h.sub (kill1_n H i) (kill1_sub H i))
theorem HR.retire (h : HR P σ base H w) {i : Nat} {b : ABlk} (hg : H.get i = some b) (ht : b.st = .tip) : HR P σ base (H.upd i { b with st := .ret }) w :=
  h.sub (by simp) fun j b' hj => by
    rw [AHeap.get_upd hg] at hj
    split at hj
    · rename_i e
      subst e
      injection hj with hj
      subst hj
      exact ⟨b, hg, rfl, rfl, rfl, .inr (.inr ⟨ht, rfl⟩)⟩
    · exact ⟨b', hj, rfl, rfl, rfl, .inl rfl⟩
theorem killAll_alive {l : List Nat} {j : Nat} {b : ABlk} (h : (killAll H l).get j = some b) (hs : b.st ≠ .dead) : j ∉ l ∧ H.get j = some b := by
  by_cases hm : j ∈ l
  · exact absurd (killAll_get_mem l H j b hm h).1 hs
  · exact ⟨hm, by rwa [killAll_get_not l H j hm] at h⟩

/-- After a tip's ancestors are dead nothing that lives lies in its block but itself. -/
theorem HR.alone (h : HR P σ base H w) {i : Nat} {b : ABlk} {l : Loc} (hg : H.get i = some b) (ht : b.st = .tip) (hl : σ i = some l) {j : Nat} {bj : ABlk} {lj : Loc}
    (hj : (Lon.killAll H b.anc).get j = some bj) (hs : bj.st ≠ .dead) (hlj : σ j = some lj) (hji : j ≠ i) : lj.b ≠ l.b := by
  obtain ⟨h1, h2⟩ := killAll_alive hj hs
  intro e
  have hbase := h.own hg (by rw [ht]; rfl) hl
  by_cases hro : bj.st = .ro
  · have := h.ro h2 hro hlj
    omega
  · have hown : bj.st.own = true := by cases hh : bj.st <;> first | rfl | exact absurd hh hs | exact absurd hh hro
    rcases h.sep hji h2 hg hown (by rw [ht]; rfl) hlj hl e with h3 | h3
    · exact h1 h3
    · have := h.anc hg h2 (by rw [ht]; rfl) hown h3
      rw [ht] at this; cases this

/-- A block's cells are stored anew in place: tip, without ancestors. -/
theorem HR.stored (h : HR P σ base H w) {i : Nat} {b : ABlk} {l : Loc} (hg : H.get i = some b) (ht : b.st = .tip) (hl : σ i = some l)
    {cur cur' : Array Value} {e : TypeId} (hw : w.heap[l.b]? = some (.cells cur e (0, 0))) (hsz : cur'.size = cur.size) {cells : List Value} (hlen : cells.length = b.cells.length)
    (hc : ∀ k v, cells[k]? = some v → ∃ v', cur'[l.f + k]? = some v' ∧ VR σ v v') :
    HR P σ base ((Lon.killAll H b.anc).upd i ⟨cells, b.elem, .tip, b.ver + 1, []⟩) (w.setRow l.b cur') := by
  have hk := HR.killAll b.anc h
  have hni : i ∉ b.anc := fun hm => by
    have := h.anc hg hg (by rw [ht]; rfl) (by rw [ht]; rfl) hm
    rw [ht] at this; cases this
  have hgk : (Lon.killAll H b.anc).get i = some b := by rw [killAll_get_not _ _ _ hni]; exact hg
  have hget : ∀ j, ((Lon.killAll H b.anc).upd i ⟨cells, b.elem, .tip, b.ver + 1, []⟩).get j = if j = i then some ⟨cells, b.elem, .tip, b.ver + 1, []⟩ else (Lon.killAll H b.anc).get j := AHeap.get_upd hgk _
  have hrow : (w.setRow l.b cur').heap[l.b]? = some (.cells cur' e (0, 0)) := setRow_heap w l.b cur cur' e (0, 0) hw
  have hother : ∀ k, k ≠ l.b → (w.setRow l.b cur').heap[k]? = w.heap[k]? := fun k hk => by
    simp only [World.setRow, Array.getElem?_modify]
    rw [if_neg (fun e => hk e.symm)]
  have hsize : (w.setRow l.b cur').heap.size = w.heap.size := by simp [World.setRow]
  have hal : ∀ {j bj lj}, (Lon.killAll H b.anc).get j = some bj → bj.st ≠ .dead → σ j = some lj → j ≠ i → lj.b ≠ l.b := fun hj hs hlj hji => h.alone hg ht hl hj hs hlj hji
  constructor
  · intro j bj lj hj hlj
    rw [hget] at hj
    split at hj
    · rename_i e1
      subst e1
      injection hj with hj
      subst hj
      have := h.elem hg hlj
      exact this
    · exact hk.elem hj hlj
  · intro j hj
    exact hk.out j (by simpa using hj)
  · intro j bj lj hj hs hlj
    rw [hsize]
    rw [hget] at hj
    split at hj
    · rename_i e1
      subst e1
      exact h.lt hg (by rw [ht]; intro e; cases e) hlj
    · exact hk.lt hj hs hlj
  · intro j bj lj hj hs hlj k v hkv
    rw [hget] at hj
    split at hj
    · rename_i e1
      subst e1
      injection hj with hj
      subst hj
      rw [hl] at hlj
      injection hlj with hlj
      subst hlj
      obtain ⟨v', h1, h2⟩ := hc k v hkv
      exact ⟨v', by simp [World.cell?, hrow, h1], h2⟩
    · rename_i hji
      obtain ⟨v', h1, h2⟩ := hk.cells hj hs hlj hkv
      exact ⟨v', by rw [World.cell?_of_block (w := w) (hother _ (hal hj (mem_ne_dead hs) hlj hji))]; exact h1, h2⟩
  · intro j bj lj hj hs hlj
    rw [hget] at hj
    split at hj
    · injection hj with hj
      subst hj
      cases hs
    · exact hk.ro hj hs hlj
  · intro j bj lj hj hs hlj
    rw [hget] at hj
    split at hj
    · rename_i e1
      subst e1
      exact h.own hg (by rw [ht]; rfl) hlj
    · exact hk.own hj hs hlj
  · intro j bj lj hj hs hlj
    rw [hget] at hj
    split at hj
    · rename_i e1
      subst e1
      rw [hl] at hlj
      injection hlj with hlj
      subst hlj
      obtain ⟨cur0, e0, h1, h2⟩ := h.row hg (by rw [ht]; rfl) hl
      rw [hw] at h1
      injection h1 with h1
      injection h1 with h1 _
      subst h1
      exact ⟨cur', e, hrow, by omega⟩
    · rename_i hji
      obtain ⟨c0, e0, h1, h2⟩ := hk.row hj hs hlj
      exact ⟨c0, e0, by rw [hother _ (hal hj (mem_ne_dead (row_mem hs)) hlj hji)]; exact h1, h2⟩
  · intro j bj lj hj hs hlj
    rw [hget] at hj
    split at hj
    · rename_i e1
      subst e1
      injection hj with hj
      subst hj
      have := h.fits hg (by rw [ht]; rfl) hlj
      simp only
      omega
    · exact hk.fits hj hs hlj
  · intro j bj lj hj hs hlj
    rw [hget] at hj
    split at hj
    · injection hj with hj
      subst hj
      cases hs
    · rename_i hji
      obtain ⟨es, cl, h1, h2⟩ := hk.map hj hs hlj
      exact ⟨es, cl, by rw [hother _ (hal hj (by rw [hs]; intro e; cases e) hlj hji)]; exact h1, h2⟩
  · intro j1 j2 b1 b2 l1 l2 h12 h1 h2 s1 s2 e1 e2 eb
    rw [hget] at h1 h2
    split at h1
    · rename_i q1
      subst q1
      rw [hl] at e1
      injection e1 with e1
      subst e1
      rw [if_neg (fun q => h12 q.symm)] at h2
      exact absurd eb.symm (hal h2 (own_ne_dead s2) e2 (fun q => h12 q.symm))
    · split at h2
      · rename_i q1 q2
        subst q2
        rw [hl] at e2
        injection e2 with e2
        subst e2
        exact absurd eb (hal h1 (own_ne_dead s1) e1 q1)
      · exact hk.sep h12 h1 h2 s1 s2 e1 e2 eb
  · intro j1 j2 b1 b2 h1 h2 s1 s2 hm
    rw [hget] at h1 h2
    split at h2
    · injection h2 with h2
      subst h2
      simp at hm
    · split at h1
      · rename_i q2 q1
        subst q1
        have := hk.anc hgk h2 (by rw [ht]; rfl) s2 hm
        rw [ht] at this; cases this
      · exact hk.anc h1 h2 s1 s2 hm
  · intro j1 j2 b1 b2 l1 l2 h1 h2 s1 s2 hm e1 e2 eb
    rw [hget] at h1 h2
    split at h2
    · injection h2 with h2
      subst h2
      simp at hm
    · split at h1
      · rename_i q2 q1
        subst q1
        have := hk.anc hgk h2 (by rw [ht]; rfl) s2 hm
        rw [ht] at this; cases this
      · exact hk.ends h1 h2 s1 s2 hm e1 e2 eb
  · intro j bj hj x hx
    rw [hget] at hj
    split at hj
    · injection hj with hj
      subst hj
      simp at hx
    · exact hk.ancJ hj x hx
end
end Lon
