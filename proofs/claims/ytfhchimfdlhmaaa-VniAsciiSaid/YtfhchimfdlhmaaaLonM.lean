/- What is proved here: that appends are sound. Conditions: those that each theorem names, and no others. -/
import Derived.Test.YtfhchimfdlhmaaaLonL
/-! append is sound, whole. -/
set_option linter.unusedSimpArgs false
set_option linter.unusedVariables false
namespace Lon
open Go

section
variable {P : Program} {σ : Sig} {nt base : Nat} {e : Env} {a : Act} {o : Oper} {H H' : AHeap} {w : World}

theorem Fr.lower (hh : HR P σ base H w) {H1 : AHeap} (hn : H1.n = H.n)
    (hs : ∀ i b', H1.get i = some b' → b'.st.act = true → ∃ b, H.get i = some b ∧ b.st.act = true)
    (hv : ∀ i b, H.get i = some b → ∃ b', H1.get i = some b' ∧ b.ver ≤ b'.ver ∧ b'.elem = b.elem ∧ (b'.ver = b.ver → b'.cells = b.cells ∧ (b.st.mem = true → b'.st.mem = true) ∧ (b.st = .map → b'.st = .map))) : Fr σ σ H H1 w w :=
  ⟨Sub.refl _, fun _ _ => rfl, by omega, rfl, rfl, rfl, Nat.le_refl _, fun _ _ _ => rfl, fun j b' l hj ha hl => by
    obtain ⟨b, h1, h2⟩ := hs j b' hj ha
    exact .inr ⟨j, b, l, h1, h2, hl, rfl⟩, hv⟩
theorem Fr.kill (hh : HR P σ base H w) (l : List Nat) : Fr σ σ H (killAll H l) w w :=
  Fr.lower hh (killAll_n _ _) (fun i b' h ha => ⟨b', (killAll_alive h (own_ne_dead (act_own ha))).2, ha⟩) (fun i b hb => by
    obtain ⟨b', h1, h2, h3⟩ := killAll_get_ex l H i b hb
    obtain ⟨b3, h4, h5⟩ := killAll_elem l h1
    rw [hb] at h4
    injection h4 with h4
    subst h4
    exact ⟨b', h1, h2, h5, fun e => by rw [h3 e]; exact ⟨rfl, id, id⟩⟩)
theorem Fr.retire (hh : HR P σ base H w) {i : Nat} {b : ABlk} (hg : H.get i = some b) (ht : b.st = .tip) : Fr σ σ H (H.upd i { b with st := .ret }) w w :=
  Fr.lower hh (by simp) (fun j b' h ha => by
    rw [AHeap.get_upd hg] at h
    split at h
    · injection h with h
      subst h
      cases ha
    · exact ⟨b', h, ha⟩) (fun j bj hj => by
    rw [AHeap.get_upd hg]
    by_cases e1 : j = i
    · subst e1
      rw [hg] at hj
      injection hj with hj
      subst hj
      exact ⟨_, if_pos rfl, Nat.le_refl _, rfl, fun _ => ⟨rfl, fun _ => rfl, fun e => by rw [ht] at e; cases e⟩⟩
    · exact ⟨bj, by rw [if_neg e1]; exact hj, Nat.le_refl _, rfl, fun _ => ⟨rfl, id, id⟩⟩)
/-- What is laid in another one's block turns that block alone. -/
theorem Fr.onto {H1 : AHeap} (hh : HR P σ base H w) (h1 : HR P σ base H1 w) (hf1 : Fr σ σ H H1 w w) {i : Nat} {b : ABlk} {l : Loc} (hg : H.get i = some b) (ht : b.st = .tip) (hl : σ i = some l) (nb : ABlk) (loc : Loc) (hloc : loc.b = l.b) (cur' : Array Value) :
    Fr σ (ext σ H1.n loc) H (H1.push nb) w (w.setRow l.b cur') where
  sub := Sub.ext (h1.out _ (Nat.le_refl _)) loc
  old j hj := by
    have := hf1.mono
    simp [ext]; intro e; omega
  mono := by have := hf1.mono; simp; omega
  os := rfl
  tape := rfl
  output := rfl
  size := by simp [World.setRow]
  keep k hk hno := by
    have := hno i b l hg (by rw [ht]; rfl) hl
    simp only [World.setRow, Array.getElem?_modify]
    rw [if_neg this]
  tips j bj lj hj ha hlj := by
    rw [AHeap.get_push] at hj
    by_cases e : j = H1.n
    · subst e
      simp only [ext, if_true] at hlj
      injection hlj with hlj
      subst hlj
      exact .inr ⟨i, b, l, hg, by rw [ht]; rfl, hl, hloc.symm⟩
    · rw [if_neg e] at hj
      simp only [ext, if_neg e] at hlj
      rcases hf1.tips j bj lj hj ha hlj with h | h
      · exact .inl h
      · exact .inr h
  ver j bj hj := by
    obtain ⟨b', q1, q2⟩ := hf1.ver j bj hj
    exact ⟨b', by rw [AHeap.get_push, if_neg (by have := AHeap.lt_of_get q1; omega)]; exact q1, q2⟩

theorem sound_append (her : ER σ nt e a) (hh : HR P σ base H w) (hb : base ≤ w.heap.size) {t el : TypeId} {args : Array Operand} {ts : Array TypeId} {s x : Operand} {i : TypeInfo} {z : List Value}
    (ho : o.op = .call ⟨.builtin .append, args, ts⟩) (ha : args.toList = [s, x]) (hts : ts.toList = [t, t]) (hu : P.underlying t = some (.slice el)) (hi : P.info? el = some i) (hz : zeroOf P el = some z) (hzl : z.length = i.size) (hby : 0 < i.bytes)
    {v : Value} (h : appendA H (ev e s) (ev e x) el i.size i.bytes = some (v, H')) : StepOK P base σ H w o a v H' := by
  obtain ⟨i', zv, hi', hzv, rfl⟩ := zeroOf_inv hz
  rw [hi] at hi'
  injection hi' with hi'
  subst hi'
  have hzs : zv.cells.size = i.size := by simpa using hzl
  unfold appendA at h
  split at h
  case h_2 => cases h
  rename_i sv xv p n c p' m c' hsv hxv
  split at h
  case h_2 => cases h
  rename_i old new hold hnew
  have hsr := hsv ▸ ev_rel her s
  have hxr := hxv ▸ ev_rel her x
  obtain ⟨A, cA, ods, hsa, hor, hol, hA1, hA2, hA3⟩ := cells_rel hh hold hsr
  obtain ⟨X, cX, nds, hxa, hnr, hnl, hX1, hX2, hX3⟩ := cells_rel hh hnew hxr
  have hodl : ods.length = n * i.size := by rw [hor.length]; exact hol
  have hndl : nds.length = m * i.size := by rw [hnr.length]; exact hnl
  have hncA : n ≤ cA := by
    rw [hsa] at hsr
    cases hsr with
    | nilSlice => omega
    | nilAt => omega
    | slice _ _ _ _ _ _ _ _ _ h2 => exact h2
  split at h
  · -- nothing is appended
    rename_i hm
    subst hm
    injection h with h
    injection h with h1 h2
    subst h1 h2
    have hr := run_append_zero (w := w) (ty := o.type) hu hi A X n cA cX hncA
    exact StepOK.value (run_exec_append ho ha hts hsa hxa hr) (hsa ▸ hsr) hh (Fr.refl _ _ _)
  rename_i hm
  split at h
  case isFalse => cases h
  rename_i hbytes
  obtain ⟨hbytes, hone⟩ := hbytes
  have hone' := ones_rel hone hnr
  obtain ⟨ad, had⟩ : ∃ ad, X = some ad := by
    cases hX : X with
    | none => exact absurd (hX1 hX).1 hm
    | some ad => exact ⟨ad, rfl⟩
  subst had
  have hnews := hX3 ad rfl
  have hnm : (n + m) ≤ 140737488355328 := Nat.le_trans (Nat.le_mul_of_pos_right _ hby) hbytes
  have happ : VRs σ (old ++ new) (ods ++ nds) := hor.append hnr
  have happl : (ods ++ nds).length = (n + m) * i.size := by rw [List.length_append, hodl, hndl, Nat.add_mul]
  split at h
  · -- a nil slice
    injection h with h
    injection h with h1 h2
    subst h1 h2
    obtain ⟨rfl, rfl, rfl⟩ := hA2 rfl
    have ho0 : ods = [] := List.eq_nil_of_length_eq_zero (by rw [hodl]; simp)
    subst ho0
    have hr := run_append_nil (P := P) w t o.type el i zv hu hi hzv ad m cX nds hndl hnews (by omega) (by omega) (by simp at hbytes; omega)
    refine StepOK.grown (old := 0) (n := 0) hh hb hh (Fr.refl _ _ _) (A := []) (fun _ h => absurd h (by simp)) happ hi hzs happl (by omega) ?_
    simp only [Nat.zero_add, List.nil_append]
    exact run_exec_append ho ha hts hsa hxa hr
  rename_i p0
  obtain ⟨A0, rfl⟩ : ∃ A0, A = some A0 := by
    cases hA : A with
    | none => have := (hA1 hA).2; cases this
    | some A0 => exact ⟨A0, rfl⟩
  split at h
  · -- a capacity of none
    rename_i hc0
    injection h with h
    injection h with h1 h2
    subst h1 h2 hc0
    rw [hsa] at hsr
    have q4 : cA = 0 := by
      cases hsr with
      | nilAt => rfl
      | slice i0 o0 _ _ f' _ l0 hl0 _ _ _ h0 _ => exact h0 rfl
    subst q4
    have hn0 : n = 0 := by omega
    subst hn0
    have ho0 : ods = [] := List.eq_nil_of_length_eq_zero (by rw [hodl]; simp)
    subst ho0
    have hr := run_append_grow (P := P) w t o.type el i zv hu hi hzv A0 0 0 [] (by simp) (fun j v hj => by simp at hj) ad m cX nds hndl hnews (by omega) (by omega) (growslice_fits (by omega) hbytes)
    refine StepOK.grown (old := 0) (n := 0) hh hb hh (Fr.refl _ _ _) (A := []) (fun _ h => absurd h (by simp)) happ hi hzs happl (by omega) ?_
    simp only [List.nil_append, Array.empty_append] at hr ⊢
    exact run_exec_append ho ha hts hsa hxa hr
  rename_i hc0
  split at h
  case h_2 => cases h
  rename_i blk hg
  split at h
  case isFalse => cases h
  rename_i hte
  obtain ⟨htip, hel⟩ := hte
  -- the slice's own block
  obtain ⟨off, f', l, hp0, hl, hA0, hf', hcc, htot⟩ : ∃ off f' l, p0 = ⟨p0.block, off, none⟩ ∧ σ p0.block = some l ∧ A0 = ⟨l.b, f', none⟩ ∧ (0 < n → f' = l.f + off) ∧ c ≤ cA + 1 ∧ f' + cA * l.sz ≤ l.tot := by
    rw [hsa] at hsr
    cases hsr with
    | nilAt => exact absurd rfl hc0
    | slice i0 o0 _ _ f' _ l0 hl0 q1 q2 q3 q4 q5 => exact ⟨o0, f', l0, rfl, hl0, rfl, q1, q3, q5⟩
  subst hA0
  have hlsz : l.sz = i.size := by
    have := hh.elem hg hl
    rw [hel, hi] at this
    simpa using this.symm
  have hbase := hh.own hg (by rw [htip]; rfl) hl
  obtain ⟨cur, e0, hw, hcs⟩ := hh.row hg (by rw [htip]; rfl) hl
  have hni : p0.block ∉ blk.anc := fun hm => by
    have := hh.anc hg hg (by rw [htip]; rfl) (by rw [htip]; rfl) hm
    rw [htip] at this; cases this
  -- both ways: the elder blocks, and what is laid
  have both : ∀ (H1 : AHeap) (Anc : List Nat), HR P σ base H1 w → Fr σ σ H H1 w w → (∀ j ∈ Anc, j < H1.n ∧ ∀ bj, H1.get j = some bj → bj.st.own = true → bj.st = .ret) →
      (∀ {j bj lj}, H1.get j = some bj → bj.st ≠ .dead → σ j = some lj → lj.b = l.b → bj.st.row = true ∧ j ∈ Anc ∧ lj.f + bj.cells.length ≤ f' + n * i.size) →
      StepOK P base σ H w o a (.slice (some ⟨H1.n, 0, none⟩) (n + m) (n + m + 1)) (H1.push ⟨old ++ new, el, .tip, 0, Anc⟩) := by
    intro H1 Anc h1 hf1 hAnc hal
    by_cases hroom : n + m ≤ cA
    · have hmul : (n + m) * i.size ≤ cA * i.size := Nat.mul_le_mul_right _ hroom
      rw [hlsz] at htot
      have hsum : (n + m) * i.size = n * i.size + m * i.size := Nat.add_mul _ _ _
      have hr := run_append_room' (w := w) (ty := o.type) hu hi l.b f' n cA hw ad m cX hndl hnews hone' hroom (by rw [hndl]; omega)
      have hcl : cur.toList.length = cur.size := by simp
      have hwl : (cur.toList.take (f' + n * i.size)).length = f' + n * i.size := by simp; omega
      have hon := h1.onto (b := l.b) (f := f') (tot := l.tot) (sz := i.size) hbase hw hcs (cur' := (cur.toList.take (f' + n * i.size) ++ nds ++ cur.toList.drop (f' + n * i.size + nds.length)).toArray) (by simp [hndl]; omega) (elem := el) (by simp [hi]) hAnc hal
        (fun k hk => by
          simp only [List.getElem?_toArray]
          rw [List.append_assoc, List.getElem?_append_left (by rw [hwl]; exact hk), List.getElem?_take, if_pos hk]
          simp)
        (cells := old ++ new) (fun k v hk => by
          simp only [List.getElem?_toArray]
          by_cases ck : k < n * i.size
          · rw [List.getElem?_append_left (by omega)] at hk
            obtain ⟨v', q1, q2⟩ := hor.get hk
            refine ⟨v', ?_, q2⟩
            have hc := hA3 _ rfl k v' q1
            rw [add_addr] at hc
            simp only [World.cell?, hw] at hc
            rw [List.append_assoc, List.getElem?_append_left (by rw [hwl]; omega), List.getElem?_take, if_pos (by omega)]
            simpa using hc
          · have hk2 := hk
            rw [List.getElem?_append_right (by omega), hol] at hk2
            obtain ⟨v', q1, q2⟩ := hnr.get hk2
            have hkn : k - n * i.size < nds.length := (List.getElem?_eq_some_iff.1 q1).1
            refine ⟨v', ?_, q2⟩
            rw [List.getElem?_append_left (by rw [List.length_append, hwl]; omega), List.getElem?_append_right (by rw [hwl]; omega), hwl]
            rw [show f' + k - (f' + n * i.size) = k - n * i.size by omega]
            exact q1) (by rw [List.length_append, hol, hnl]; omega) (fun _ => by rw [List.length_append, hol, hnl]; omega)
      have hfr := Fr.onto hh h1 hf1 hg htip hl ⟨old ++ new, el, .tip, 0, Anc⟩ ⟨l.b, f', l.tot, i.size⟩ rfl (cur.toList.take (f' + n * i.size) ++ nds ++ cur.toList.drop (f' + n * i.size + nds.length)).toArray
      refine StepOK.value (run_exec_append ho ha hts hsa hxa hr) ?_ hon hfr
      exact .slice _ _ _ _ f' cA ⟨l.b, f', l.tot, i.size⟩ (ext_new _ _ _) (fun _ => by simp) hroom (by omega) (fun h => by omega) htot
    · have hr := run_append_grow (P := P) w t o.type el i zv hu hi hzv ⟨l.b, f', none⟩ n cA ods hodl (fun j v hj => hA3 _ rfl j v hj) ad m cX nds hndl hnews (by omega) (by omega) (growslice_fits (by omega) hbytes)
      refine StepOK.grown (old := cA) (n := n) hh hb h1 hf1 hAnc happ hi hzs happl (by omega) ?_
      have := run_exec_append ho ha hts hsa hxa hr
      rw [this]
      congr 3
      simp
  split at h
  · -- the end of the block: it is retired
    rename_i hend
    injection h with h
    injection h with h1 h2
    subst h1 h2
    have hret := hh.retire hg htip
    have hoff : p0.off = off := by rw [hp0]
    have hHn : H.n = (H.upd p0.block { blk with st := .ret }).n := by simp
    rw [show (Value.slice (some { block := H.n, off := 0 }) (n + m) (n + m + 1)) = Value.slice (some { block := (H.upd p0.block { blk with st := .ret }).n, off := 0 }) (n + m) (n + m + 1) by rw [← hHn]]
    refine both _ _ hret (Fr.retire hh hg htip) ?_ ?_
    · intro j hj
      rcases List.mem_cons.1 hj with rfl | hj
      · refine ⟨by have := AHeap.lt_of_get hg; simpa using this, fun bj hbj _ => ?_⟩
        rw [AHeap.get_upd hg, if_pos rfl] at hbj
        injection hbj with hbj
        subst hbj
        rfl
      · refine ⟨by have := hh.ancLt hg j hj; simpa using this, fun bj hbj hown => ?_⟩
        rw [AHeap.get_upd hg, if_neg (by rintro rfl; exact hni hj)] at hbj
        exact hh.anc hbj hg hown (by rw [htip]; rfl) hj
    · intro j bj lj hj hs hlj hbb
      rw [AHeap.get_upd hg] at hj
      split at hj
      · rename_i e1
        subst e1
        injection hj with hj
        subst hj
        rw [hl] at hlj
        injection hlj with hlj
        subst hlj
        refine ⟨rfl, List.mem_cons_self, ?_⟩
        simp only
        rw [hf' hend.1]
        have := hend.2
        omega
      · rename_i e1
        have hnro : bj.st ≠ .ro := fun e => by have := hh.ro hj e hlj; omega
        have hown : bj.st.own = true := by cases hh' : bj.st <;> first | rfl | exact absurd hh' hs | exact absurd hh' hnro
        rcases hh.sep e1 hj hg hown (by rw [htip]; rfl) hlj hl hbb with q | q
        · have hr := hh.anc hj hg hown (by rw [htip]; rfl) q
          refine ⟨by rw [hr]; rfl, List.mem_cons_of_mem _ q, ?_⟩
          have := hh.ends hj hg hown (by rw [htip]; rfl) q hlj hl hbb
          rw [hf' hend.1]
          have := hend.2
          omega
        · have := hh.anc hg hj (by rw [htip]; rfl) hown q
          rw [htip] at this; cases this
  · injection h with h
    injection h with h1 h2
    subst h1 h2
    have hkk := hh.killAll (p0.block :: blk.anc)
    have hnn : (killAll H (p0.block :: blk.anc)).n = H.n := killAll_n _ _
    have := both _ [] hkk (Fr.kill hh _) (fun _ h => absurd h (by simp)) ?_
    · rw [hnn] at this; exact this
    · intro j bj lj hj hs hlj hbb
      obtain ⟨hnm', hgj⟩ := killAll_alive hj hs
      simp only [List.mem_cons, not_or] at hnm'
      have hnro : bj.st ≠ .ro := fun e => by have := hh.ro hgj e hlj; omega
      have hown : bj.st.own = true := by cases hh' : bj.st <;> first | rfl | exact absurd hh' hs | exact absurd hh' hnro
      rcases hh.sep hnm'.1 hgj hg hown (by rw [htip]; rfl) hlj hl hbb with q | q
      · exact absurd q hnm'.2
      · have := hh.anc hg hgj (by rw [htip]; rfl) hown q
        rw [htip] at this; cases this
end
end Lon
