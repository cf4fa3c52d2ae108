/- What is proved here: that a row laid over an elder one keeps the heap's relation. Conditions: those that each theorem names, and no others. -/
import Derived.Test.YtfhchimfdlhmaaaLonJ
/-! append. -/
set_option linter.unusedSimpArgs false
set_option linter.unusedVariables false
namespace Lon
open Go

section
variable {P : Program} {σ : Sig} {nt base : Nat} {e : Env} {a : Act} {o : Oper} {H H' : AHeap} {w : World}

/-- A block that begins in another one's block: the row behind it is written. -/
theorem HR.onto (h : HR P σ base H w) {b f tot sz : Nat} (hb : base ≤ b) {cur cur' : Array Value} {e0 : TypeId} (hw : w.heap[b]? = some (.cells cur e0 (0, 0))) (hcs : cur.size = tot) (hcs' : cur'.size = tot) {elem : TypeId} (hs : (P.info? elem).map (·.size) = some sz)
    {A : List Nat} (hA : ∀ i ∈ A, i < H.n ∧ ∀ bi, H.get i = some bi → bi.st.own = true → bi.st = .ret) {lim : Nat}
    (hal : ∀ {j bj lj}, H.get j = some bj → bj.st ≠ .dead → σ j = some lj → lj.b = b → bj.st.row = true ∧ j ∈ A ∧ lj.f + bj.cells.length ≤ lim) (hkeep : ∀ k, k < lim → cur'[k]? = cur[k]?)
    {cells : List Value} (hc : ∀ k v, cells[k]? = some v → ∃ v', cur'[f + k]? = some v' ∧ VR σ v v') (hfit : f + cells.length ≤ tot) (hend : A ≠ [] → lim ≤ f + cells.length) :
    HR P (ext σ H.n ⟨b, f, tot, sz⟩) base (H.push ⟨cells, elem, .tip, 0, A⟩) (w.setRow b cur') := by
  have hn : σ H.n = none := h.out _ (Nat.le_refl _)
  have hsub := Sub.ext hn ⟨b, f, tot, sz⟩
  have hold : ∀ j, j ≠ H.n → ext σ H.n ⟨b, f, tot, sz⟩ j = σ j := fun j hj => by simp [ext, hj]
  have hnew : ext σ H.n ⟨b, f, tot, sz⟩ H.n = some ⟨b, f, tot, sz⟩ := by simp [ext]
  have hget : ∀ i, (H.push ⟨cells, elem, .tip, 0, A⟩).get i = if i = H.n then some ⟨cells, elem, .tip, 0, A⟩ else H.get i := AHeap.get_push H _
  have hrow : (w.setRow b cur').heap[b]? = some (.cells cur' e0 (0, 0)) := setRow_heap w b cur cur' e0 (0, 0) hw
  have hother : ∀ k, k ≠ b → (w.setRow b cur').heap[k]? = w.heap[k]? := fun k hk => by
    simp only [World.setRow, Array.getElem?_modify]
    rw [if_neg (fun e => hk e.symm)]
  have hsize : (w.setRow b cur').heap.size = w.heap.size := by simp [World.setRow]
  have hlt : b < w.heap.size := (Array.getElem?_eq_some_iff.1 hw).1
  constructor
  · intro i blk l hg hl
    rw [hget] at hg
    by_cases hi : i = H.n
    · subst hi
      rw [if_pos rfl] at hg
      injection hg with hg
      subst hg
      rw [hnew] at hl
      injection hl with hl
      subst hl
      exact hs
    · rw [if_neg hi] at hg
      rw [hold i hi] at hl
      exact h.elem hg hl
  · intro i hi
    simp at hi
    rw [hold i (by omega)]
    exact h.out i (by omega)
  · intro i blk l hg hst hl
    rw [hsize]
    rw [hget] at hg
    by_cases hi : i = H.n
    · subst hi
      rw [hnew] at hl
      injection hl with hl
      subst hl
      exact hlt
    · rw [if_neg hi] at hg
      rw [hold i hi] at hl
      exact h.lt hg hst hl
  · intro i blk l hg hst hl k v hk
    rw [hget] at hg
    by_cases hi : i = H.n
    · subst hi
      rw [if_pos rfl] at hg
      injection hg with hg
      subst hg
      rw [hnew] at hl
      injection hl with hl
      subst hl
      obtain ⟨v', h1, h2⟩ := hc k v hk
      exact ⟨v', by simp [World.cell?, hrow, h1], h2.mono hsub⟩
    · rw [if_neg hi] at hg
      rw [hold i hi] at hl
      obtain ⟨v', h1, h2⟩ := h.cells hg hst hl hk
      refine ⟨v', ?_, h2.mono hsub⟩
      by_cases e1 : l.b = b
      · obtain ⟨_, _, hle⟩ := hal hg (mem_ne_dead hst) hl e1
        have hkl : k < blk.cells.length := (List.getElem?_eq_some_iff.1 hk).1
        rw [e1] at h1 ⊢
        simp only [World.cell?, hw] at h1
        simp only [World.cell?, hrow, hkeep (l.f + k) (by omega)]
        exact h1
      · rw [World.cell?_of_block (w := w) (hother _ e1)]
        exact h1
  · intro i blk l hg hst hl
    rw [hget] at hg
    by_cases hi : i = H.n
    · subst hi
      rw [if_pos rfl] at hg
      injection hg with hg
      subst hg
      cases hst
    · rw [if_neg hi] at hg
      rw [hold i hi] at hl
      exact h.ro hg hst hl
  · intro i blk l hg hst hl
    rw [hget] at hg
    by_cases hi : i = H.n
    · subst hi
      rw [hnew] at hl
      injection hl with hl
      subst hl
      exact hb
    · rw [if_neg hi] at hg
      rw [hold i hi] at hl
      exact h.own hg hst hl
  · intro i blk l hg hst hl
    rw [hget] at hg
    by_cases hi : i = H.n
    · subst hi
      rw [hnew] at hl
      injection hl with hl
      subst hl
      exact ⟨cur', e0, hrow, hcs'⟩
    · rw [if_neg hi] at hg
      rw [hold i hi] at hl
      obtain ⟨c0, e1, h1, h2⟩ := h.row hg hst hl
      by_cases e2 : l.b = b
      · rw [e2, hw] at h1
        injection h1 with h1
        injection h1 with h1 _
        subst h1
        exact ⟨cur', e0, by rw [e2]; exact hrow, by omega⟩
      · exact ⟨c0, e1, by rw [hother _ e2]; exact h1, h2⟩
  · intro i blk l hg hst hl
    rw [hget] at hg
    by_cases hi : i = H.n
    · subst hi
      rw [if_pos rfl] at hg
      injection hg with hg
      subst hg
      rw [hnew] at hl
      injection hl with hl
      subst hl
      exact hfit
    · rw [if_neg hi] at hg
      rw [hold i hi] at hl
      exact h.fits hg hst hl
  · intro i blk l hg hst hl
    rw [hget] at hg
    by_cases hi : i = H.n
    · subst hi
      rw [if_pos rfl] at hg
      injection hg with hg
      subst hg
      cases hst
    · rw [if_neg hi] at hg
      rw [hold i hi] at hl
      obtain ⟨es, clock, h1, h2⟩ := h.map hg hst hl
      have e1 : l.b ≠ b := fun e1 => by
        have := (hal hg (by rw [hst]; intro e; cases e) hl e1).1
        rw [hst] at this; cases this
      exact ⟨es, clock, by rw [hother _ e1]; exact h1, h2.mono hsub⟩
  · intro i j bi bj li lj hij hi hj si sj hli hlj hbb
    rw [hget] at hi hj
    by_cases h1 : i = H.n
    · subst h1
      by_cases h2 : j = H.n
      · exact absurd h2.symm hij
      · rw [if_pos rfl] at hi
        injection hi with hi
        subst hi
        rw [if_neg h2] at hj
        rw [hold j h2] at hlj
        rw [hnew] at hli
        injection hli with hli
        subst hli
        exact .inr (hal hj (own_ne_dead sj) hlj hbb.symm).2.1
    · rw [if_neg h1] at hi
      rw [hold i h1] at hli
      by_cases h2 : j = H.n
      · subst h2
        rw [if_pos rfl] at hj
        injection hj with hj
        subst hj
        rw [hnew] at hlj
        injection hlj with hlj
        subst hlj
        exact .inl (hal hi (own_ne_dead si) hli hbb).2.1
      · rw [if_neg h2] at hj
        rw [hold j h2] at hlj
        exact h.sep hij hi hj si sj hli hlj hbb
  · intro i j bi bj hi hj si sj hm
    rw [hget] at hi hj
    by_cases h2 : j = H.n
    · subst h2
      rw [if_pos rfl] at hj
      injection hj with hj
      subst hj
      have := hA i hm
      rw [if_neg (by omega)] at hi
      exact this.2 bi hi si
    · rw [if_neg h2] at hj
      have := h.ancLt hj i hm
      rw [if_neg (by omega)] at hi
      exact h.anc hi hj si sj hm
  · intro i j bi bj li lj hi hj si sj hm hli hlj hbb
    rw [hget] at hi hj
    by_cases h2 : j = H.n
    · subst h2
      rw [if_pos rfl] at hj
      injection hj with hj
      subst hj
      have hlt := (hA i hm).1
      rw [if_neg (by omega)] at hi
      rw [hold i (by omega)] at hli
      rw [hnew] at hlj
      injection hlj with hlj
      subst hlj
      have := (hal hi (own_ne_dead si) hli hbb).2.2
      have := hend (fun e => by rw [e] at hm; simp at hm)
      simp only
      omega
    · rw [if_neg h2] at hj
      have hlt := h.ancLt hj i hm
      rw [if_neg (by omega)] at hi
      rw [hold j h2] at hlj
      rw [hold i (by omega)] at hli
      exact h.ends hi hj si sj hm hli hlj hbb
  · intro j bj hj i hm
    rw [hget] at hj
    by_cases h2 : j = H.n
    · subst h2
      rw [if_pos rfl] at hj
      injection hj with hj
      subst hj
      exact (hA i hm).1
    · rw [if_neg h2] at hj
      exact h.ancJ hj i hm
end
end Lon
