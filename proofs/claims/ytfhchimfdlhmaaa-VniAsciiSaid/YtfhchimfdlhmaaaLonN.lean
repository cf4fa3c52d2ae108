/- What is proved here: that every operation of the interpreter is sound. Conditions: those that each theorem names, and no others. -/
import Derived.Test.YtfhchimfdlhmaaaLonMm
/-! Every operation is sound. -/
set_option linter.unusedSimpArgs false
set_option linter.unusedVariables false
namespace Lon
open Go

theorem run_places {P : Program} {w : World} : ∀ {l : List Field} {ps : List (Nat × Nat)}, placesOf P l = some ps → (l.mapM (fun f => do pure (f.offset, ← Go.sizeOf f.type) : Field → Sem (Nat × Nat))).run P w = .ok ps w
  | [], ps, h => by simp [placesOf] at h; subst h; simp
  | f :: r, ps, h => by
    simp only [placesOf] at h
    split at h
    · rename_i s l hs hl
      injection h with h
      subst h
      have ih := run_places (w := w) hl
      simp only [List.mapM_cons, Sem.run_bind, run_szOf hs, Result.andThen_ok, Sem.run_pure]
      rw [ih]
      simp
    · cases h
theorem PR.partsP {σ : Sig} {nt : Nat} {e : Env} {a : Act} (her : ER σ nt e a) {ps : List (Nat × Nat)} : ∀ {l : List (Nat × Operand)} {q : List (Nat × Nat × Operand)}, Lon.partsP ps l = some q →
    PR σ (fun i => ps[i]?) (evParts e q) (l.map fun p => (p.1, a.eval p.2))
  | [], q, h => by simp [Lon.partsP] at h; subst h; exact .nil
  | (i, x) :: r, q, h => by
    simp only [Lon.partsP] at h
    split at h
    · rename_i p l hp hl
      injection h with h
      subst h
      exact .cons i p.1 p.2 _ _ _ _ hp (ev_rel her x) (PR.partsP her hl)
    · cases h

section
variable {P : Program} {σ : Sig} {nt base : Nat} {e : Env} {a : Act} {o : Oper} {H H' : AHeap} {w : World}

theorem sound_buildS (her : ER σ nt e a) {t : TypeId} {parts : Array (Nat × Operand)} {fs : Array Field} {z : List Value} {ps : List (Nat × Nat)} {q : List (Nat × Nat × Operand)} (ho : o.op = .build t parts) (hu : P.underlying t = some (.struct fs)) (hz : zeroOf P t = some z) (hza : z.all atom = true)
    (hps : placesOf P fs.toList = some ps) (hq : partsP ps parts.toList = some q) {v : Value} (h : pureA P e (.build z q) = some v) : ∃ v', Pure P o a v' ∧ VR σ v v' := by
  obtain ⟨i, zv, hi, hzv, rfl⟩ := zeroOf_inv hz
  simp only [pureA] at h
  split at h
  · rename_i hok
    injection h with h
    subst h
    obtain ⟨ds, hf, hd⟩ := fill_rel (PR.partsP her hq) (cs := zv.cells) (VRs.of_atoms hza) hok
    refine ⟨.agg ds, fun w => ?_, .agg _ _ hd⟩
    have hm : (fs.mapM (fun f => do pure (f.offset, ← Go.sizeOf f.type) : Field → Sem (Nat × Nat))).run P w = .ok ps.toArray w := by
      obtain ⟨fl⟩ := fs
      have := run_places (w := w) hps
      simp only [List.mapM_toArray, Sem.run_map, this, Result.andThen_ok]
    have hplace : (fun i : Nat => (ps.toArray)[i]?) = (fun i : Nat => ps[i]?) := by funext i; simp
    simp only [execOp, ho, Instr.build, Sem.run_bind, zeroValue, typeInfo, run_program, hi, Sem.run_pure, Result.andThen_ok, hzv, run_und hu, hm, hplace]
    have : (parts.map fun x => (x.1, a.eval x.2)).toList = parts.toList.map fun p => (p.1, a.eval p.2) := by simp
    rw [this, hf]
    rfl
  · cases h
theorem sound_buildA (her : ER σ nt e a) {t el : TypeId} {cnt s : Nat} {parts : Array (Nat × Operand)} {z : List Value} (ho : o.op = .build t parts) (hu : P.underlying t = some (.array cnt el)) (hz : zeroOf P t = some z) (hza : z.all atom = true)
    (hs : szOf P el = some s) {v : Value} (h : pureA P e (.build z (partsA s parts.toList)) = some v) : ∃ v', Pure P o a v' ∧ VR σ v v' := by
  obtain ⟨i, zv, hi, hzv, rfl⟩ := zeroOf_inv hz
  simp only [pureA] at h
  split at h
  · rename_i hok
    injection h with h
    subst h
    obtain ⟨ds, hf, hd⟩ := fill_rel (PR.partsA her s parts.toList) (cs := zv.cells) (VRs.of_atoms hza) hok
    refine ⟨.agg ds, fun w => ?_, .agg _ _ hd⟩
    simp only [execOp, ho, Instr.build, Sem.run_bind, zeroValue, typeInfo, run_program, hi, Sem.run_pure, Result.andThen_ok, hzv, run_und hu, run_szOf hs]
    have : (parts.map fun x => (x.1, a.eval x.2)).toList = parts.toList.map fun p => (p.1, a.eval p.2) := by simp
    rw [this, hf]
    rfl
  · cases h
theorem pure_step {cf : CallF} {ao : AOp} {v : Value} (hna : ∀ x k, ao ≠ .load x k) (h1 : ∀ x lo hi s, ao ≠ .slice x lo hi s) (h2 : ∀ x, ao ≠ .slice0 x) (h3 : ∀ c el, ao ≠ .alloc c el) (h4 : ∀ x el, ao ≠ .box x el) (h5 : ∀ el n s z p, ao ≠ .bslice el n s z p) (h6 : ∀ x v n, ao ≠ .store x v n) (h7 : ∀ s x el sz b, ao ≠ .append s x el sz b) (h8 : ∀ f args, ao ≠ .call f args) (h9 : ∀ m, ao ≠ .mop m)
    (h : stepA P cf e H ao = some (v, H')) : pureA P e ao = some v ∧ H' = H := by
  cases ao <;> first | exact absurd rfl (hna _ _) | exact absurd rfl (h1 _ _ _ _) | exact absurd rfl (h2 _) | exact absurd rfl (h3 _ _) | exact absurd rfl (h4 _ _) | exact absurd rfl (h5 _ _ _ _ _) | exact absurd rfl (h6 _ _ _) | exact absurd rfl (h7 _ _ _ _ _) | exact absurd rfl (h8 _ _) | exact absurd rfl (h9 _) | skip
  all_goals
    simp only [stepA, Option.map_eq_some_iff] at h
    obtain ⟨v0, hv, he⟩ := h
    injection he with he1 he2
    subst he1 he2
    exact ⟨hv, rfl⟩

theorem step_sound {cf : CallF} (hcf : ∀ g args H v H', cf g args H = some (v, H') → Sim P base g args H v H') (her : ER σ nt e a) (hh : HR P σ base H w) (hb : base ≤ w.heap.size) {ao : AOp} (hp : prepOp P o = some ao)
    {v : Value} (h : stepA P cf e H ao = some (v, H')) : StepOK P base σ H w o a v H' := by
  have gen : ao = .gen (bareOf o) → StepOK P base σ H w o a v H' := by
    intro e1
    subst e1
    obtain ⟨h1, rfl⟩ := pure_step (by intros; simp) (by intros; simp) (by intros; simp) (by intros; simp) (by intros; simp) (by intros; simp) (by intros; simp) (by intros; simp) (by intros; simp) (by intros; simp) h
    exact .pure hh (sound_gen her h1)
  have pu : ∀ {ao' : AOp}, (∀ v, pureA P e ao' = some v → ∃ v', Pure P o a v' ∧ VR σ v v') → ao = ao' → (∀ x k, ao' ≠ .load x k) ∧ (∀ x lo hi s, ao' ≠ .slice x lo hi s) ∧ (∀ x, ao' ≠ .slice0 x) ∧ (∀ c el, ao' ≠ .alloc c el) ∧ (∀ x el, ao' ≠ .box x el) ∧ (∀ el n s z p, ao' ≠ .bslice el n s z p) ∧ (∀ x v n, ao' ≠ .store x v n) ∧ (∀ s x el sz b, ao' ≠ .append s x el sz b) ∧ (∀ f args, ao' ≠ .call f args) ∧ (∀ m, ao' ≠ .mop m) → StepOK P base σ H w o a v H' := by
    intro ao' hs e1 hne
    subst e1
    obtain ⟨q0, q1, q2, q3, q4, q5, q6, q7, q8, q9⟩ := hne
    obtain ⟨h1, rfl⟩ := pure_step q0 q1 q2 q3 q4 q5 q6 q7 q8 q9 h
    exact .pure hh (hs v h1)
  unfold prepOp at hp
  split at hp
  · rename_i x ho; injection hp with hp; exact pu (fun v => sound_mv her (.inl ho)) hp.symm (by simp)
  · rename_i x ho; injection hp with hp; exact pu (fun v => sound_mv her (.inr ho)) hp.symm (by simp)
  · rename_i c x y ho; injection hp with hp; exact pu (fun v => sound_pick her ho) hp.symm (by simp)
  · rename_i t ix ho; injection hp with hp; exact pu (fun v => sound_ext her ho) hp.symm (by simp)
  · -- field
    rename_i t x f ho
    split at hp
    · rename_i fs hu
      split at hp
      · rename_i fd hf
        simp only [Option.map_eq_some_iff] at hp
        obtain ⟨p, hs, hp⟩ := hp
        exact pu (fun v => sound_field her ho hu hf hs) hp.symm (by simp)
      · cases hp
    · cases hp
  · -- index
    rename_i t x i ho
    split at hp
    · rename_i cnt el hu
      simp only [Option.map_eq_some_iff] at hp
      obtain ⟨p, hs, hp⟩ := hp
      exact pu (fun v => sound_index her ho hu hs) hp.symm (by simp)
    · injection hp with hp; exact gen hp.symm
  · -- build
    rename_i t parts ho
    split at hp
    · rename_i fs z hu hz
      split at hp
      · rename_i hza
        simp only [Option.bind_eq_some_iff, Option.map_eq_some_iff] at hp
        obtain ⟨ps, hps, q, hq, hp⟩ := hp
        exact pu (fun v => sound_buildS her ho hu hz hza hps hq) hp.symm (by simp)
      · cases hp
    · rename_i cnt el z hu hz
      split at hp
      · rename_i hza
        simp only [Option.map_eq_some_iff] at hp
        obtain ⟨s, hs, hp⟩ := hp
        exact pu (fun v => sound_buildA her ho hu hz hza hs) hp.symm (by simp)
      · cases hp
    · cases hp
  · -- binOp
    rename_i op t x y u ho
    unfold prepBin at hp
    split at hp
    · rename_i k hu
      split at hp
      all_goals first
        | (injection hp with hp; exact gen hp.symm)
        | skip
      rename_i n1 n2 n3 n4 n5 n6
      injection hp with hp
      exact pu (fun v hv => sound_int her ho hv ⟨n1, n2, n3, n4, n5, n6⟩) hp.symm (by simp)
    · rename_i hu
      split at hp
      · injection hp with hp; exact pu (fun v => sound_beq her (neq := false) ho hu) hp.symm (by simp)
      · injection hp with hp; exact pu (fun v => sound_beq her (neq := true) ho hu) hp.symm (by simp)
      · cases hp
    · rename_i el hu
      have hu' : P.underlying t = some (.pointer (P.pointee t)) := by simp [Program.pointee, hu]
      split at hp
      · rename_i hy
        split at hp
        · injection hp with hp; exact pu (fun v => sound_isNil0 her (neq := false) ho hy hu') hp.symm (by simp)
        · injection hp with hp; exact pu (fun v => sound_isNil0 her (neq := true) ho hy hu') hp.symm (by simp)
        · cases hp
      · cases hp
    · rename_i el hu
      split at hp
      · rename_i hy
        split at hp
        · injection hp with hp; exact pu (fun v => sound_isNil1 her (neq := false) ho hy hu) hp.symm (by simp)
        · injection hp with hp; exact pu (fun v => sound_isNil1 her (neq := true) ho hy hu) hp.symm (by simp)
        · cases hp
      · cases hp
    · rename_i ky el hu
      split at hp
      · rename_i hy
        split at hp
        · injection hp with hp; exact pu (fun v => sound_isNil2 her (neq := false) ho hy hu) hp.symm (by simp)
        · injection hp with hp; exact pu (fun v => sound_isNil2 her (neq := true) ho hy hu) hp.symm (by simp)
        · cases hp
      · cases hp
    · injection hp with hp; exact gen hp.symm
    · cases hp
  · rename_i t x ho; injection hp with hp; exact pu (fun v => sound_not her ho) hp.symm (by simp)
  · -- convert
    rename_i s d x ho
    split at hp
    · rename_i k0 k hs hd
      injection hp with hp
      exact pu (fun v => sound_conv her ho hs hd) hp.symm (by simp)
    · injection hp with hp; exact gen hp.symm
  · rename_i fn first captured ho; injection hp with hp; exact pu (fun v => sound_mkfun her ho) hp.symm (by simp)
  · -- makeInterface
    rename_i t x ho
    split at hp
    · cases hp
    · rename_i d hnd hu
      injection hp with hp
      exact pu (fun v => sound_mkface her ho hu (fun ms e => hnd ms e)) hp.symm (by simp)
    · cases hp
  · -- slice
    rename_i t x lo hi mx ho
    split at hp
    · rename_i el hu
      split at hp
      · simp only [Option.map_eq_some_iff] at hp
        obtain ⟨s, hs, rfl⟩ := hp
        simp only [stepA, Option.map_eq_some_iff] at h
        obtain ⟨v0, hv, he⟩ := h
        injection he with he1 he2
        subst he1 he2
        obtain ⟨v', q1, q2⟩ := sound_slice her hh ho hu hs hv
        exact .value q1 q2 hh (Fr.refl _ _ _)
      · rename_i m
        split at hp
        · rename_i h0
          split at hp
          · rename_i hc
            simp only [Bool.and_eq_true] at hc
            injection hp with hp
            subst hp
            obtain ⟨s, hs⟩ := Option.isSome_iff_exists.1 hc.2
            simp only [stepA, Option.map_eq_some_iff] at h
            obtain ⟨v0, hv, he⟩ := h
            injection he with he1 he2
            subst he1 he2
            obtain ⟨v', q1, q2⟩ := sound_slice0 her hh ho hu hs hc.1.1 hc.1.2 hv
            exact .value q1 q2 hh (Fr.refl _ _ _)
          · cases hp
        · cases hp
    · injection hp with hp; exact gen hp.symm
  · -- fieldAddr
    rename_i s x f ho
    split at hp
    · rename_i fs hu
      split at hp
      · rename_i fd hf
        split at hp
        · rename_i n hs
          injection hp with hp
          exact pu (fun v => sound_faddr her ho hu hf hs) hp.symm (by simp)
        · cases hp
      · cases hp
    · cases hp
  · -- indexAddr
    rename_i t x i ho
    split at hp
    · rename_i el hu
      simp only [Option.map_eq_some_iff] at hp
      obtain ⟨s, hs, hp⟩ := hp
      exact pu (fun v => sound_iaddr her ho hu hs) hp.symm (by simp)
    · rename_i cnt el hu
      simp only [Option.map_eq_some_iff] at hp
      obtain ⟨s, hs, hp⟩ := hp
      exact pu (fun v => sound_aaddr her ho hu hs) hp.symm (by simp)
    · cases hp
  · -- load
    rename_i t x ho
    simp only [Option.map_eq_some_iff] at hp
    obtain ⟨p, hs, rfl⟩ := hp
    simp only [stepA, Option.map_eq_some_iff] at h
    obtain ⟨v0, hv, he⟩ := h
    injection he with he1 he2
    subst he1 he2
    obtain ⟨v', q1, q2⟩ := sound_load her hh ho hs hv
    exact .value q1 q2 hh (Fr.refl _ _ _)
  · -- store
    rename_i t p x ho
    simp only [Option.map_eq_some_iff] at hp
    obtain ⟨s, hs, rfl⟩ := hp
    simp only [stepA, Option.map_eq_some_iff] at h
    obtain ⟨H0, hst, he⟩ := h
    injection he with he1 he2
    subst he1 he2
    exact sound_store her hh ho hs hst
  · -- alloc
    rename_i el ho
    simp only [Option.bind_eq_some_iff] at hp
    obtain ⟨z, hz, hp⟩ := hp
    split at hp
    · rename_i hza
      injection hp with hp
      subst hp
      simp only [stepA, newA, Option.map_some] at h
      injection h with h
      injection h with h1 h2
      subst h1 h2
      exact .new hh hb (sound_alloc her ho hz hza _)
    · cases hp
  · -- box
    rename_i el x ho
    split at hp
    · rename_i hs
      injection hp with hp
      subst hp
      obtain ⟨s, hs⟩ := Option.isSome_iff_exists.1 hs
      simp only [stepA, newA] at h
      split at h
      · rename_i hx
        simp only [Option.map_some] at h
        injection h with h
        injection h with h1 h2
        subst h1 h2
        exact .new hh hb (sound_box her ho hs hx _)
      · cases h
    · cases hp
  · -- buildSlice
    rename_i t n parts ho
    split at hp
    · rename_i el hu
      split at hp
      · rename_i s z hs hz
        split at hp
        · rename_i hc
          simp only [Bool.and_eq_true, beq_iff_eq, decide_eq_true_eq] at hc
          injection hp with hp
          subst hp
          simp only [stepA, newA] at h
          split at h
          · rename_i hk
            simp only [Option.map_some] at h
            injection h with h
            injection h with h1 h2
            subst h1 h2
            exact .new hh hb (sound_bslice her ho hu hs hz hc.1.1 hc.1.2 hc.2 hk _)
          · cases h
        · cases hp
      · cases hp
    · cases hp
  · rename_i x ho; injection hp with hp; exact pu (fun v => sound_nilChk her ho) hp.symm (by simp)
  · -- call
    rename_i f args ts ho
    injection hp with hp
    subst hp
    exact sound_call hcf her hh hb ho h
  · -- len
    rename_i args ts ho
    split at hp
    · rename_i x t ha ht
      split at hp
      · rename_i el hu
        injection hp with hp
        exact pu (fun v => sound_len her ho ha ht hu) hp.symm (by simp)
      · rename_i hu
        injection hp with hp
        exact pu (fun v => sound_lenS her ho ha ht hu) hp.symm (by simp)
      · cases hp
    · cases hp
  · -- append
    rename_i args ts ho
    split at hp
    · rename_i s x t u ha ht
      split at hp
      · rename_i el hu
        split at hp
        · rename_i i z hi hz
          split at hp
          · rename_i hc
            obtain ⟨rfl, hzl, hby⟩ := hc
            injection hp with hp
            subst hp
            exact sound_append her hh hb ho ha ht hu hi hz hzl hby h
          · cases hp
        · cases hp
      · cases hp
    · cases hp
  · -- max
    rename_i args ts ho
    split at hp
    · rename_i x y ha
      split at hp
      · injection hp with hp; exact pu (fun v => sound_max2 her ho ha) hp.symm (by simp)
      · injection hp with hp; exact gen hp.symm
    · injection hp with hp; exact gen hp.symm
  · -- min
    rename_i args ts ho
    split at hp
    · rename_i x y ha
      split at hp
      · injection hp with hp; exact pu (fun v => sound_min2 her ho ha) hp.symm (by simp)
      · injection hp with hp; exact gen hp.symm
    · injection hp with hp; exact gen hp.symm
  · -- makeMap
    rename_i t ho
    split at hp
    · rename_i hs
      injection hp with hp
      subst hp
      exact sound_mmake her hh hb ho hs h
    · cases hp
  · -- lookup
    rename_i t x i c ho
    split at hp
    · rename_i k el hu
      split at hp
      · rename_i kd z z' hk hz hz'
        split at hp
        · rename_i ha
          rw [Bool.and_eq_true] at ha
          injection hp with hp
          subst hp
          exact sound_mget her hh ho hu hk hz hz' ha.1 ha.2 h
        · cases hp
      · cases hp
    · cases hp
  · -- mapUpdate
    rename_i t m k v ho
    split at hp
    · rename_i kt el hu
      split at hp
      · rename_i kd hk
        injection hp with hp
        subst hp
        exact sound_mset her hh (.inl ho) hu hk h
      · cases hp
    · cases hp
  · -- insert
    rename_i t m k v ho
    split at hp
    · rename_i kt el hu
      split at hp
      · rename_i kd hk
        injection hp with hp
        subst hp
        exact sound_mset her hh (.inr ho) hu hk h
      · cases hp
    · cases hp
  all_goals first
    | (injection hp with hp; exact gen hp.symm)
    | (cases hp; done)
end
end Lon
