/- What is proved here: that loads and cuts of slices are sound. Conditions: those that each theorem names, and no others. -/
import Derived.Test.YtfhchimfdlhmaaaLonH
/-! The operations that read, make and write memory are sound. -/
set_option linter.unusedSimpArgs false
set_option linter.unusedVariables false
namespace Lon
open Go

/-- An operation comes to what the interpreter says. -/
def StepOK (P : Program) (base : Nat) (σ : Sig) (H : AHeap) (w : World) (o : Oper) (a : Act) (v : Value) (H' : AHeap) : Prop :=
  ∀ (next : Act → World → Prop) (Q : Exit → Act → World → Prop),
    (∀ σ' w' v', VR σ' v v' → HR P σ' base H' w' → Fr σ σ' H H' w w' → next (a.put o.dst v') w') → o.wp P a w next Q

section
variable {P : Program} {σ : Sig} {nt base : Nat} {e : Env} {a : Act} {o : Oper} {H H' : AHeap} {w : World}

theorem StepOK.value {v : Value} {σ' : Sig} {w' : World} {v' : Value} (hr : (execOp a.eval o).run P w = .ok (.value v') w') (hv : VR σ' v v') (hh : HR P σ' base H' w') (hf : Fr σ σ' H H' w w') : StepOK P base σ H w o a v H' := by
  intro next Q h
  unfold Oper.wp
  rw [hr]
  exact h σ' w' v' hv hh hf
theorem StepOK.skip {σ' : Sig} {w' : World} (hr : (execOp a.eval o).run P w = .ok .skip w') (hh : HR P σ' base H' w') (hf : Fr σ σ' H H' w w') : StepOK P base σ H w o a (.tuple ⟨[]⟩) H' := by
  intro next Q h
  unfold Oper.wp
  rw [hr]
  exact h σ' w' undef (.tuple _ _ .nil) hh hf
theorem StepOK.pure (hh : HR P σ base H w) {v : Value} (h : ∃ v', Pure P o a v' ∧ VR σ v v') : StepOK P base σ H w o a v H := by
  obtain ⟨v', h1, h2⟩ := h
  exact .value (h1 w) h2 hh (Fr.refl _ _ _)

theorem sound_load (her : ER σ nt e a) (hh : HR P σ base H w) {t : TypeId} {x : Operand} {p : Bool × Nat} (ho : o.op = .load t x) (hs : shapeOf P t = some p) {v : Value}
    (h : readA P e H (.load x (if p.1 then some p.2 else none)) = some v) : ∃ v', (execOp a.eval o).run P w = .ok (.value v') w ∧ VR σ v v' := by
  obtain ⟨d, hd, hp1, hsz⟩ := shapeOf_inv hs
  simp only [readA] at h
  split at h
  · rename_i i off hx
    obtain ⟨l, hl, hx'⟩ := VR.ptr_inv (hx ▸ ev_rel her x)
    split at h
    · rename_i blk hg
      split at h
      · rename_i hm
        split at h
        · rename_i n hn
          split at h
          · rename_i hle
            injection h with h
            subst h
            cases hp : p.1 with
            | false => rw [hp] at hn; cases hn
            | true =>
              rw [hp] at hn
              simp at hn
              subst hn
              obtain ⟨ds, h1, h2⟩ := hh.rowOf hg hm hl off p.2 hle
              have hdl : ds.length = p.2 := by have := h1.length; simp at this; omega
              refine ⟨.agg ⟨ds⟩, ?_, .agg _ _ h1⟩
              have hrun := run_loadCells_list (P := P) w ⟨l.b, l.f + off, none⟩ ds (fun j v hj => by rw [add_addr]; have := h2 j v hj; rwa [← Nat.add_assoc] at this)
              rw [hdl] at hrun
              simp only [execOp, ho, hx', Instr.loadAt, Instr.sureAddr, loadVar, Sem.run_bind, Sem.run_pure, Result.andThen_ok, run_isAgg hd, ← hp1, hp, if_true, run_szOf hsz, hrun]
          · cases h
        · rename_i hn
          cases hp : p.1 with
          | true => rw [hp] at hn; cases hn
          | false =>
            obtain ⟨v', h1, h2⟩ := hh.cells hg hm hl h
            refine ⟨v', ?_, h2⟩
            have h1' : w.cell? ⟨l.b, l.f + off, none⟩ = some v' := h1
            simp [execOp, ho, hx', Instr.loadAt, Instr.sureAddr, loadVar, run_isAgg hd, ← hp1, hp, h1']
      · cases h
    · cases h
  · cases h

theorem run_bound (P : Program) (w : World) (k : IntKind) (i : Int) (y : Nat) (code : BoundsCode) (h : 0 ≤ i ∧ i ≤ y) : (Instr.sliceBound (.int k i) y code).run P w = .ok i.toNat w := by
  simp only [Instr.sliceBound, asIntOf, Sem.run_bind, Sem.run_pure, Result.andThen_ok]
  rw [if_pos h]
  rfl

theorem bnd_inv (her : ER σ nt e a) {d j : Int} {h : Option Operand} (hb : bndA e d h = some j) : (h = none ∧ j = d) ∨ ∃ q k, h = some q ∧ a.eval q = .int k j := by
  unfold bndA at hb
  split at hb
  · injection hb with hb
    exact .inl ⟨rfl, hb.symm⟩
  · rename_i q
    split at hb
    · rename_i k j' hj
      injection hb with hb
      subst hb
      exact .inr ⟨q, k, rfl, VR.int_inv (hj ▸ ev_rel her q)⟩
    · cases hb
theorem sound_slice (her : ER σ nt e a) (hh : HR P σ base H w) {t el : TypeId} {x : Operand} {lo hi : Option Operand} {s : Nat} (ho : o.op = .slice t x lo hi none) (hu : P.underlying t = some (.slice el)) (hs : szOf P el = some s) {v : Value}
    (h : readA P e H (.slice x lo hi s) = some v) : ∃ v', (execOp a.eval o).run P w = .ok (.value v') w ∧ VR σ v v' := by
  simp only [readA] at h
  split at h
  · rename_i i off n c hx
    obtain ⟨l, f', c', hl, hx', hf', hnc, hcc, hc0, htot⟩ := VR.slice_inv (hx ▸ ev_rel her x)
    split at h
    · rename_i hv lv s' eh elo es
      split at h
      · rename_i hb
        injection h with h
        subst h
        obtain ⟨h1, h2, h3, h4⟩ := hb
        subst h4
        have hsz : s' = l.sz := by
          cases hg : H.get i with
          | none => rw [hg] at es; cases es
          | some b =>
            have := hh.elem hg hl
            rw [hg] at es
            simp only [Option.map_some] at es
            injection es with es
            rw [this] at es
            injection es with es
            exact es.symm
        have hrun : (execOp a.eval o).run P w = .ok (.value (.slice (if c' = lv.toNat then some ⟨l.b, f', none⟩ else (some (⟨l.b, f', none⟩ : Addr)).map (·.add (lv.toNat * s'))) (hv.toNat - lv.toNat) (c' - lv.toNat))) w := by
          rcases bnd_inv her eh with ⟨rfl, rfl⟩ | ⟨q, k, rfl, hq⟩ <;> rcases bnd_inv her elo with ⟨rfl, rfl⟩ | ⟨q', k', rfl, hq'⟩
          · simp [execOp, ho, hx', Instr.sliceAt, run_und hu, Instr.slice, Instr.sliceBounds, run_szOf hs]
          · have b2 := run_bound P w k' lv n .sliceB ⟨h1, by omega⟩
            simp [execOp, ho, hx', Instr.sliceAt, run_und hu, Instr.slice, Instr.sliceBounds, run_szOf hs, hq', b2]
          · have b1 := run_bound P w k hv c' .sliceAcap ⟨by omega, by omega⟩
            simp [execOp, ho, hx', Instr.sliceAt, run_und hu, Instr.slice, Instr.sliceBounds, run_szOf hs, hq, b1]
          · have b1 := run_bound P w k hv c' .sliceAcap ⟨by omega, by omega⟩
            have b2 := run_bound P w k' lv hv.toNat .sliceB ⟨h1, by omega⟩
            simp [execOp, ho, hx', Instr.sliceAt, run_und hu, Instr.slice, Instr.sliceBounds, run_szOf hs, hq, hq', b1, b2]
        by_cases hcl : c' = lv.toNat
        · rw [if_pos hcl] at hrun
          refine ⟨_, hrun, ?_⟩
          have e0 : hv.toNat - lv.toNat = 0 := by omega
          rw [e0]
          refine .slice _ _ _ _ _ _ l hl (fun h => absurd h (by omega)) (by omega) (by split <;> omega) (fun h => by omega) ?_
          rw [hcl, Nat.sub_self, Nat.zero_mul]
          have : f' ≤ f' + c' * l.sz := Nat.le_add_right _ _
          omega
        · rw [if_neg hcl] at hrun
          simp only [Option.map_some, add_addr] at hrun
          refine ⟨_, hrun, ?_⟩
          refine .slice _ _ _ _ _ _ l hl (fun h => ?_) (by omega) (by split <;> omega) (fun h => ?_) ?_
          · rw [hf' (by omega), Nat.add_assoc]
          · split at h
            · rename_i hc; have := hc0 hc; omega
            · omega
          · rw [hsz]
            have hcl2 : lv.toNat ≤ c' := by omega
            have : lv.toNat * l.sz + (c' - lv.toNat) * l.sz = c' * l.sz := by rw [← Nat.add_mul]; congr 1; omega
            omega
      · cases h
    · cases h
  · rename_i hx
    have hx' : a.eval x = .slice none 0 0 := by
      have hr := hx ▸ ev_rel her x
      revert hr
      generalize a.eval x = ax
      intro hr
      cases hr
      rfl
    split at h
    · rename_i hv lv eh elo
      split at h
      · rename_i hb
        injection h with h
        subst h
        obtain ⟨rfl, rfl⟩ := hb
        refine ⟨.slice none 0 0, ?_, .nilSlice⟩
        rcases bnd_inv her eh with ⟨rfl, _⟩ | ⟨q, k, rfl, hq⟩ <;> rcases bnd_inv her elo with ⟨rfl, _⟩ | ⟨q', k', rfl, hq'⟩
        · simp [execOp, ho, hx', Instr.sliceAt, run_und hu, Instr.slice, Instr.sliceBounds, run_szOf hs]
        · have b2 := run_bound P w k' 0 0 .sliceB ⟨by omega, by omega⟩
          simp [execOp, ho, hx', Instr.sliceAt, run_und hu, Instr.slice, Instr.sliceBounds, run_szOf hs, hq', b2]
        · have b1 := run_bound P w k 0 0 .sliceAcap ⟨by omega, by omega⟩
          simp [execOp, ho, hx', Instr.sliceAt, run_und hu, Instr.slice, Instr.sliceBounds, run_szOf hs, hq, b1]
        · have b1 := run_bound P w k 0 0 .sliceAcap ⟨by omega, by omega⟩
          have b2 := run_bound P w k' 0 0 .sliceB ⟨by omega, by omega⟩
          simp [execOp, ho, hx', Instr.sliceAt, run_und hu, Instr.slice, Instr.sliceBounds, run_szOf hs, hq, hq', b1, b2]
      · cases h
    · cases h
  · rename_i i0 o0 k0 hx
    obtain ⟨a0, hx', hv0⟩ : ∃ a0, a.eval x = .slice (some a0) 0 0 ∧ VR σ (.slice (some ⟨i0, o0, some k0⟩) 0 0) (.slice (some a0) 0 0) := by
      have hr := hx ▸ ev_rel her x
      revert hr
      generalize a.eval x = ax
      intro hr
      cases hr
      exact ⟨_, rfl, .nilAt _⟩
    split at h
    · rename_i hv lv eh elo
      split at h
      · rename_i hb
        injection h with h
        subst h
        obtain ⟨rfl, rfl⟩ := hb
        refine ⟨.slice (some a0) 0 0, ?_, hv0⟩
        rcases bnd_inv her eh with ⟨rfl, _⟩ | ⟨q, k, rfl, hq⟩ <;> rcases bnd_inv her elo with ⟨rfl, _⟩ | ⟨q', k', rfl, hq'⟩
        · simp [execOp, ho, hx', Instr.sliceAt, run_und hu, Instr.slice, Instr.sliceBounds, run_szOf hs]
        · have b2 := run_bound P w k' 0 0 .sliceB ⟨by omega, by omega⟩
          simp [execOp, ho, hx', Instr.sliceAt, run_und hu, Instr.slice, Instr.sliceBounds, run_szOf hs, hq', b2]
        · have b1 := run_bound P w k 0 0 .sliceAcap ⟨by omega, by omega⟩
          simp [execOp, ho, hx', Instr.sliceAt, run_und hu, Instr.slice, Instr.sliceBounds, run_szOf hs, hq, b1]
        · have b1 := run_bound P w k 0 0 .sliceAcap ⟨by omega, by omega⟩
          have b2 := run_bound P w k' 0 0 .sliceB ⟨by omega, by omega⟩
          simp [execOp, ho, hx', Instr.sliceAt, run_und hu, Instr.slice, Instr.sliceBounds, run_szOf hs, hq, hq', b1, b2]
      · cases h
    · cases h
  · cases h
theorem zeroC_inv (her : ER σ nt e a) {h : Operand} (hz : zeroC h = true) : ∃ k, a.eval h = .int k 0 := by
  unfold zeroC at hz
  split at hz
  · exact ⟨_, rfl⟩
  · cases hz
theorem sound_slice0 (her : ER σ nt e a) (hh : HR P σ base H w) {t el : TypeId} {x h m : Operand} (ho : o.op = .slice t x none (some h) (some m)) (hu : P.underlying t = some (.slice el)) {s : Nat} (hs : szOf P el = some s) (z1 : zeroC h = true) (z2 : zeroC m = true) {v : Value}
    (hr : readA P e H (.slice0 x) = some v) : ∃ v', (execOp a.eval o).run P w = .ok (.value v') w ∧ VR σ v v' := by
  obtain ⟨k1, q1⟩ := zeroC_inv her z1
  obtain ⟨k2, q2⟩ := zeroC_inv her z2
  simp only [readA] at hr
  split at hr
  · rename_i i off n c hx
    obtain ⟨l, f', c', hl, hx', hf', hnc, hcc, hc0, htot⟩ := VR.slice_inv (hx ▸ ev_rel her x)
    injection hr with hr
    subst hr
    have b1 := run_bound P w k2 0 c' .slice3Acap ⟨by omega, by omega⟩
    have b2 := run_bound P w k1 0 0 .slice3B ⟨by omega, by omega⟩
    refine ⟨.slice (some ⟨l.b, f', none⟩) 0 0, ?_, .slice _ _ _ _ _ _ l hl (fun h => absurd h (by omega)) (Nat.le_refl _) (by omega) (fun _ => rfl) (by have : f' ≤ f' + c' * l.sz := Nat.le_add_right _ _; omega)⟩
    simp [execOp, ho, hx', Instr.sliceAt, run_und hu, Instr.slice, Instr.sliceBounds, run_szOf hs, q1, q2, b1, b2]
  · rename_i hx
    have hx' : a.eval x = .slice none 0 0 := by
      have hr := hx ▸ ev_rel her x
      revert hr
      generalize a.eval x = ax
      intro hr
      cases hr
      rfl
    injection hr with hr
    subst hr
    have b1 := run_bound P w k2 0 0 .slice3Acap ⟨by omega, by omega⟩
    have b2 := run_bound P w k1 0 0 .slice3B ⟨by omega, by omega⟩
    refine ⟨.slice none 0 0, ?_, .nilSlice⟩
    simp [execOp, ho, hx', Instr.sliceAt, run_und hu, Instr.slice, Instr.sliceBounds, run_szOf hs, q1, q2, b1, b2]
  · rename_i i0 o0 k0 hx
    obtain ⟨a0, hx', hv0⟩ : ∃ a0, a.eval x = .slice (some a0) 0 0 ∧ VR σ (.slice (some ⟨i0, o0, some k0⟩) 0 0) (.slice (some a0) 0 0) := by
      have hr := hx ▸ ev_rel her x
      revert hr
      generalize a.eval x = ax
      intro hr
      cases hr
      exact ⟨_, rfl, .nilAt _⟩
    injection hr with hr
    subst hr
    have b1 := run_bound P w k2 0 0 .slice3Acap ⟨by omega, by omega⟩
    have b2 := run_bound P w k1 0 0 .slice3B ⟨by omega, by omega⟩
    refine ⟨.slice (some a0) 0 0, ?_, hv0⟩
    simp [execOp, ho, hx', Instr.sliceAt, run_und hu, Instr.slice, Instr.sliceBounds, run_szOf hs, q1, q2, b1, b2]
  · cases hr
end
end Lon
