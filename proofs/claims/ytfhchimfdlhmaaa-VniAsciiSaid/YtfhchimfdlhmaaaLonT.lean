/- What is proved here: that regions which draw their order are sound. Conditions: those that each theorem names, and no others. -/
import Derived.Test.YtfhchimfdlhmaaaLonS
/-! Regions that draw their order, whole. -/
set_option linter.unusedSimpArgs false
set_option linter.unusedVariables false
namespace Lon
open Go

section
variable {P : Program} {nt base : Nat} {ops : Array Oper} {l : List Nat} {rows : List ARow} {cls : List (List Nat)} {S : Nat → Env × AHeap} {cf : CallF} {σ0 : Sig} {H0 : AHeap} {w0 : World}

theorem draw_any (hcf : ∀ g args H v H', cf g args H = some (v, H') → Sim P base g args H v H') (D : DOK ops l rows cls) (hprep : prepDraw P nt ops l = some rows) (T : Trace P cf rows S) (hs0 : (S 0).2 = H0)
    {Q : Exit → Act → World → Prop} (hQ : ∀ σ a w, ER σ nt (S rows.length).1 a → HR P σ base (S rows.length).2 w → Fr σ0 σ H0 (S rows.length).2 w0 w → Q .normal a w) :
    ∀ (fuel : Nat) (listed : Array Bool) (a : Act) (w : World), DInv P nt base ops l rows S σ0 H0 w0 fuel listed a w → wpAny P .any ops Q fuel listed a w := by
  have hver : ∀ g args H v H', cf g args H = some (v, H') → VerLe H H' := fun g args H v H' h => (hcf g args H v H' h).2.1
  have hrl : rows.length = ops.size := D.rlen
  obtain ⟨hpl, hpget⟩ := prepDraw_get hprep
  have hll : l.length = ops.size := D.len
  -- the row of a place
  have hrow : ∀ {q}, q < ops.size → ∃ o, ops[l.getD q ops.size]? = some o ∧ prepRow P nt ops o = some (rowAt rows q) := by
    intro q hq
    have hlq : l[q]? = some (l.getD q ops.size) := by
      rw [List.getD_eq_getElem?_getD, List.getElem?_eq_getElem (by omega)]
      simp
    obtain ⟨o, r, ho, hr, hp⟩ := hpget q _ hlq
    refine ⟨o, ho, ?_⟩
    have : rowAt rows q = r := by unfold rowAt; rw [List.getD_eq_getElem?_getD, hr]; rfl
    rw [this]; exact hp
  -- the end
  have hend : ∀ {fuel listed a w}, DInv P nt base ops l rows S σ0 H0 w0 fuel listed a w → (∀ q, q < ops.size → Lst ops l listed q) → Q .normal a w := by
    intro fuel listed a w hinv hall
    obtain ⟨p, σ, U, hp, hls, hU, hun, hpn, hcl, hfirm, hh, hf, hb, hsz, hdf, henv, habs⟩ := hinv
    have hpe : p = ops.size := by
      rcases Nat.lt_or_ge p ops.size with h | h
      · exact absurd (hall p h) (hpn p (Nat.le_refl _) h)
      · omega
    subst hpe
    rw [← hrl] at hh hf henv
    refine hQ σ a w ⟨hsz, hdf, fun t => ?_⟩ hh hf
    rcases henv t with ⟨q, hq, hnl, _⟩ | h
    · exact absurd (hall q (by omega)) hnl
    · exact h
  intro fuel
  induction fuel with
  | zero =>
    intro listed a w hinv
    have hall : ∀ q, q < ops.size → Lst ops l listed q := by
      obtain ⟨p, σ, U, hp, hls, hU, hun, _⟩ := hinv
      intro q hq
      by_cases hL : Lst ops l listed q
      · exact hL
      · have := hun q hq hL
        rw [List.eq_nil_of_length_eq_zero hU] at this
        simp at this
    refine ⟨?_, hend hinv hall⟩
    refine List.eq_nil_iff_forall_not_mem.2 fun i hi => ?_
    obtain ⟨h1, o, ho, _⟩ := mem_ready.1 hi
    have hil : i < ops.size := (Array.getElem?_eq_some_iff.1 ho).1
    obtain ⟨q, hq, hqi⟩ := D.surj hil
    have := hall q hq
    unfold Lst at this
    rw [hqi] at this
    obtain ⟨_, _, _, _, hls, _⟩ := hinv
    have hlt : i < listed.size := by omega
    simp [Array.getD, hlt] at h1 this
    rw [h1] at this
    cases this
  | succ fuel ih =>
    intro listed a w hinv
    refine ⟨fun hr => hend hinv ?_, fun i hi => ?_⟩
    · -- nothing is ready: all are listed
      intro q
      induction q using Nat.strongRecOn with
      | _ q ihq =>
        intro hq
        by_cases hL : Lst ops l listed q
        · exact hL
        · exfalso
          obtain ⟨o, ho, _⟩ := hrow hq
          have : l.getD q ops.size ∈ Region.ready .any ops listed := by
            refine mem_ready.2 ⟨?_, o, ho, fun e he hb => ?_⟩
            · obtain ⟨_, _, _, _, hls, _⟩ := hinv
              have hlt : l.getD q ops.size < listed.size := by rw [hls]; exact D.lt hq
              unfold Lst at hL
              simp only [Array.getD, hlt, dif_pos] at hL ⊢
              simpa using hL
            · obtain ⟨h1, h2⟩ := D.edge hq ho e he hb
              have := ihq _ h1 (by omega)
              unfold Lst at this
              rw [h2] at this
              exact this
          rw [hr] at this
          simp at this
    · -- one comes up
      obtain ⟨hi1, o, ho, hall⟩ := mem_ready.1 hi
      have hil : i < ops.size := (Array.getElem?_eq_some_iff.1 ho).1
      obtain ⟨q, hq, hqi⟩ := D.surj hil
      subst hqi
      obtain ⟨o', ho', hprow⟩ := hrow hq
      rw [ho] at ho'
      injection ho' with ho'
      subst ho'
      obtain ⟨p, σ, U, hp, hls, hU, hun, hpn, hcl, hfirm, hh, hf, hb, hsz, hdf, henv, habs⟩ := hinv
      have hilt : l.getD q ops.size < listed.size := by omega
      have hqn : ¬ Lst ops l listed q := by
        intro h
        unfold Lst at h
        simp only [Array.getD, hilt, dif_pos] at h hi1
        rw [hi1] at h
        cases h
      have hdeps : ∀ {x}, depB cls x q = true → Lst ops l listed x := fun hd => dep_edges D hcl hq ho hall hd
      have hclos : ∀ {r}, r < ops.size → Lst ops l listed r → ∀ x, depB cls x r = true → Lst ops l listed x := fun hr hL x hd => lst_closed D hcl _ hr hL x hd
      -- the listed ones afterwards
      have hL' : ∀ x, x < ops.size → (Lst ops l (listed.setIfInBounds (l.getD q ops.size) true) x ↔ (Lst ops l listed x ∨ x = q)) := by
        intro x hx
        unfold Lst
        by_cases e : x = q
        · subst e
          have hset : ∀ k, k < listed.size → (listed.setIfInBounds k true).getD k false = true := by
            intro k hk; simp [Array.getD, hk]
          exact ⟨fun _ => Or.inr rfl, fun _ => hset _ hilt⟩
        · have hne : l.getD q ops.size ≠ l.getD x ops.size := fun h => e (by rw [← D.inj hx, ← D.inj hq, h])
          rw [getD_set_ne false hne]
          simp [e]
      obtain ⟨v, hv, hv2⟩ := T.step q (by omega)
      have hself := D.self hq
      -- what the row looks at is told by the place q, as it is by the place p
      have hslots : ∀ t, t ∈ slotsR (rowAt rows q) → (∀ x, x < p → ¬ Lst ops l listed x → (rowAt rows x).dst ≠ some t) ∧ (p ≤ q → eget (S q).1 t = eget (S p).1 t) ∧ (q < p → eget (S q).1 t = eget (S p).1 t) := by
        intro t ht
        have hnm : t ∈ namesR (rowAt rows q) := List.mem_append_left _ ht
        have hnotq : (rowAt rows q).dst ≠ some t := by
          intro hd
          unfold selfOk at hself
          rw [hd] at hself
          simp only [Bool.not_eq_true'] at hself
          have : (slotsR (rowAt rows q)).contains t = true := by simpa using ht
          rw [this] at hself
          cases hself
        -- no promised one writes it
        have hpro : ∀ x, x < ops.size → ¬ Lst ops l listed x → (x < p ∨ x < q) → (rowAt rows x).dst ≠ some t := by
          intro x hx hnl hxp hd
          have hdi := dstIn_true hd hnm
          rcases Nat.lt_trichotomy x q with h | h | h
          · by_cases hdp : depB cls x q = true
            · exact hnl (hdeps hdp)
            · have := (pair_of (D.pair h hq) hdp).2.2.1
              rw [hdi] at this; cases this
          · subst h; exact hnotq hd
          · have hxp' : x < p := by omega
            have := firm_war (hfirm x hxp' hnl) h
            rw [hdi] at this; cases this
        refine ⟨fun x hx hnl => hpro x (by omega) hnl (.inl hx), fun hpq => ?_, fun hqp => ?_⟩
        · refine env_same T hpq (by omega) (fun x h1 h2 => hpro x (by omega) (hpn x h1 (by omega)) (.inr h2))
        · refine (env_same T (Nat.le_of_lt hqp) (by omega) (fun x h1 h2 hd => ?_)).symm
          by_cases hxq : x = q
          · subst hxq; exact hnotq hd
          · have hdi := dstIn_true hd hnm
            by_cases hnl : Lst ops l listed x
            · have hqx : q < x := by omega
              by_cases hdp : depB cls q x = true
              · exact hqn (hclos (by omega) hnl q hdp)
              · have := (pair_of (D.pair hqx (by omega)) hdp).2.1
                rw [hdi] at this; cases this
            · exact hpro x (by omega) hnl (.inl h2) hd
      have her : ER σ nt (forget (slotsR (rowAt rows q)) (S q).1) a := by
        refine ⟨hsz, hdf, fun t => ?_⟩
        rw [eget_forget]
        split
        · rename_i ht
          obtain ⟨h1, h2, h3⟩ := hslots t ht
          have heq : eget (S q).1 t = eget (S p).1 t := by
            rcases Nat.lt_or_ge q p with h | h
            · exact h3 h
            · exact h2 h
          rw [heq]
          rcases henv t with ⟨x, hx, hnl, hd⟩ | h
          · exact absurd hd (h1 x hx hnl)
          · exact h
        · exact .poison _
      have hdst : (rowAt rows q).dst = o.dst := (prepRow_inv hprow).2.1
      have hdlt : ∀ d, o.dst = some d → d < nt := (prepRow_inv hprow).2.2.1
      -- what is common to all ways on
      have hun' : ∀ x, x < ops.size → ¬ Lst ops l (listed.setIfInBounds (l.getD q ops.size) true) x → x ∈ U.erase q := by
        intro x hx hnl
        rw [hL' x hx, not_or] at hnl
        exact (List.mem_erase_of_ne hnl.2).2 (hun x hx hnl.1)
      have hUe : (U.erase q).length = fuel := by
        rw [List.length_erase_of_mem (hun q hq hqn), hU]
        rfl
      have hcl' : ∀ x, x < ops.size → Lst ops l (listed.setIfInBounds (l.getD q ops.size) true) x → ∀ o', ops[l.getD x ops.size]? = some o' → ∀ e ∈ o'.after, Region.binds .any e = true → (listed.setIfInBounds (l.getD q ops.size) true).getD e.on false = true := by
        intro x hx hLx o' ho' e he hbd
        refine getD_set_true ?_
        rw [hL' x hx] at hLx
        rcases hLx with h | h
        · exact hcl x hx h o' ho' e he hbd
        · subst h
          rw [ho] at ho'
          injection ho' with ho'
          subst ho'
          exact hall e he hbd
      have hls' : (listed.setIfInBounds (l.getD q ops.size) true).size = ops.size := by simpa using hls
      -- a row is run from the heap at the place p1, and leaves that at p2
      suffices hgo : ∀ (next : Act → World → Prop), next = wpAny P .any ops Q fuel (listed.setIfInBounds (l.getD q ops.size) true) → (if Region.wanted o (yielded ops a.tmps) then o.wp P a w next Q else next (a.put o.dst undef) w) by
        unfold wpOp
        rw [ho]
        have := hgo _ rfl
        simp only
        split
        · rename_i hw
          rw [if_pos hw] at this
          exact .inl this
        · rename_i hw
          rw [if_neg hw] at this
          exact this
      intro next hnext
      have hputsz : ∀ v', (a.put o.dst v').tmps.size = nt ∧ (a.put o.dst v').defers = [] := by
        intro v'
        cases o.dst <;> simp [Act.put, hsz, hdf]
      have hput : ∀ v' t, ((a.put o.dst v').tmps.getD t undef = if o.dst = some t then v' else a.tmps.getD t undef) := by
        intro v' t
        cases hd : o.dst with
        | none => simp [Act.put]
        | some d =>
          have hdl : d < a.tmps.size := by rw [hsz]; exact hdlt d hd
          simp only [Act.put, Option.some.injEq]
          by_cases e1 : d = t
          · subst e1
            simp [Array.getD, hdl]
          · rw [if_neg e1]
            simp only [Array.getD_eq_getD_getElem?]
            rw [Array.getElem?_setIfInBounds_ne e1]
      rcases Nat.lt_or_ge q p with hqp | hpq
      · -- a promise is kept
        have hnf : firmR rows q = false := hfirm q hqp hqn
        have hquiet := firm_loud hnf
        have hvle : VerLe (S q).2 (S p).2 := ver_range T hver (Nat.le_of_lt hqp) (by omega)
        have hpE : p ≤ endAt rows := by
          rcases endAt_cases rows with hE | ⟨hE, hst⟩
          · omega
          · refine Decidable.byContradiction fun hcon => ?_
            have hlast : endAt rows = ops.size - 1 := by omega
            rw [hlast] at hst
            have hlt : ops.size - 1 < p := by omega
            by_cases hL : Lst ops l listed (ops.size - 1)
            · have hql : q < ops.size - 1 := by
                rcases Nat.lt_or_ge q (ops.size - 1) with h | h
                · exact h
                · have : q = ops.size - 1 := by omega
                  subst this
                  exact absurd hL hqn
              exact hqn (hclos (by omega) hL q (D.last hst hql))
            · have hf1 := hfirm _ hlt hL
              have hloud := firm_loud hf1
              revert hst hloud
              cases (rowAt rows (ops.size - 1)).op <;> simp [isStore, AOp.loud]
        have hEl : endAt rows ≤ rows.length := by rcases endAt_cases rows with h | ⟨h, _⟩ <;> omega
        have hvle2 : VerLe (S p).2 (S (endAt rows)).2 := ver_range T hver hpE hEl
        -- the slot that it wrote is as it wrote it
        have hkept : ∀ t, (rowAt rows q).dst = some t → eget (S p).1 t = v := by
          intro t hd
          have h1 : eget (S (q + 1)).1 t = v := by rw [hv2, hd]; simp [eput, eget_cons]
          rw [← h1]
          refine env_same T (by omega) (by omega) (fun x hx1 hx2 hdx => ?_)
          have hnm : t ∈ namesR (rowAt rows q) := List.mem_append_right _ (by rw [hd]; simp)
          have hdi := dstIn_true hdx hnm
          have hqx : q < x := by omega
          by_cases hnl : Lst ops l listed x
          · by_cases hdp : depB cls q x = true
            · exact hqn (hclos (by omega) hnl q hdp)
            · have := (pair_of (D.pair hqx (by omega)) hdp).2.1
              rw [hdi] at this; cases this
          · have := firm_war (hfirm x hx2 hnl) hqx
            rw [hdi] at this; cases this
        -- the invariant afterwards
        have hinv' : ∀ σ' v' w', VR σ' v v' → Sub σ σ' → HR P σ' base (S p).2 w' → Fr σ0 σ' H0 (S p).2 w0 w' → w.heap.size ≤ w'.heap.size → (∀ x, x < p → ¬ Lst ops l listed x → x ≠ q → (S (x + 1)).2.n = (S x).2.n + 1 → σ' (S x).2.n = none) → next (a.put o.dst v') w' := by
          intro σ' v' w' g1 g2 g3 g4 g5 g6
          subst hnext
          refine ih _ _ _ ⟨p, σ', U.erase q, hp, hls', hUe, hun', fun x hx1 hx2 hLx => ?_, hcl', fun x hx hnl => ?_, g3, g4, Nat.le_trans hb g5, (hputsz v').1, (hputsz v').2, fun t => ?_, fun x hx hnl hn => ?_⟩
          · rw [hL' x hx2] at hLx
            rcases hLx with h | h
            · exact hpn x hx1 hx2 h
            · omega
          · rw [hL' x (by omega), not_or] at hnl
            exact hfirm x hx hnl.1
          · rw [hput]
            split
            · rename_i hd
              right
              rw [hkept t (by rw [hdst]; exact hd)]
              exact g1
            · rename_i hd
              rcases henv t with ⟨x, hx, hnl, hdx⟩ | h
              · by_cases hxq : x = q
                · subst hxq
                  rw [hdst] at hdx
                  exact absurd hdx hd
                · exact .inl ⟨x, hx, by rw [hL' x (by omega), not_or]; exact ⟨hnl, hxq⟩, hdx⟩
              · exact .inr (h.mono g2)
          · rw [hL' x (by omega), not_or] at hnl
            exact g6 x hx hnl.1 hnl.2 hn
        rcases rowV_quiet hquiet hv with ⟨he, hlater⟩ | ⟨hg, hfr, b, hnb, he⟩
        · -- it reads, or reckons
          have hst : ∀ pp ∈ stamps (S q).2 (forget (slotsR (rowAt rows q)) (S q).1) (rowAt rows q), ∃ b, (S p).2.get pp.1 = some b ∧ b.ver = pp.2 := by
            intro pp hpp
            obtain ⟨bn, hbn, hvn⟩ := T.stamp q (by omega) pp hpp
            obtain ⟨b0, hb0, hv0⟩ : ∃ b0, (S q).2.get pp.1 = some b0 ∧ b0.ver = pp.2 := by
              unfold stamps at hpp
              split at hpp
              · split at hpp
                · split at hpp
                  · rename_i b hb0
                    simp only [List.mem_singleton] at hpp
                    subst hpp
                    exact ⟨b, hb0, rfl⟩
                  · simp at hpp
                · simp at hpp
              · simp at hpp
            obtain ⟨b1, hb1, hle1, _⟩ := hvle.2 _ _ hb0
            obtain ⟨b2, hb2, hle2, _⟩ := hvle2.2 _ _ hb1
            rw [hbn] at hb2
            injection hb2 with hb2
            subst hb2
            exact ⟨b1, hb1, by omega⟩
          have hrv := hlater (S p).2 hvle hst
          refine rowV_sound hcf her hh hb hprow hrv fun σ' v' w' g1 g2 g3 => ?_
          refine hinv' σ' v' w' g1 g3.sub g2 (hf.trans g3) g3.size fun x hx hnl hxq hn => ?_
          have hxn : (S x).2.n < (S p).2.n := by
            have := (ver_range T hver (show x + 1 ≤ p by omega) (by omega)).1
            omega
          rw [g3.old _ hxn]
          exact habs x hx hnl hn
        · -- it lays a new block
          have hblk := newA_blk hnb
          have hblk' : b.st = .tip ∧ b.anc = [] ∧ b.ver = 0 := hblk
          have hnoloud : ∀ x, q + 1 ≤ x → x < p → (rowAt rows x).op.loud = false ∨ isCall (rowAt rows x).op = true := by
            intro x hx1 hx2
            by_cases hnl : Lst ops l listed x
            · by_cases hdp : depB cls q x = true
              · exact absurd (hclos (by omega) hnl q hdp) hqn
              · exact (pair_of (D.pair (show q < x by omega) (by omega)) hdp).2.2.2 hfr
            · exact .inl (firm_loud (hfirm x hx2 hnl))
          obtain ⟨hgb, hnb2⟩ := quiet_block T hver he hfr hblk' (show q + 1 ≤ p by omega) (by omega) hnoloud
          have hnone : σ (S q).2.n = none := habs q hqp hqn (by rw [he]; simp)
          have hnew := new_sound (prepRow_inv hprow).1 hfr her hnb
          obtain ⟨n1, n2, n3, cs, sz, hc, hs, hrun⟩ := hnew
          obtain ⟨v', hr1, hr2⟩ := hrun w
          have hw : Region.wanted o (yielded ops a.tmps) = true := guard_rel her (prepRow_inv hprow).2.2.2 hg
          rw [hw, if_pos rfl]
          unfold Oper.wp
          rw [hr1]
          simp only [Oper.upon]
          have hH0 : H0.n ≤ (S q).2.n := by rw [← hs0]; exact (ver_range T hver (Nat.zero_le q) (by omega)).1
          refine hinv' (ext σ (S q).2.n ⟨w.heap.size, 0, cs.size, sz⟩) v' _ (hr2 _ (ext_new _ _ _)) (Sub.ext hnone _) (hh.fill hb hgb n1 n3 hnone (fun j bj hj hjo hm => ?_) hc hs) (hf.fill hH0 hnone _ _ rfl) (by simp) (fun x hx hnl hxq hn => ?_)
          · have := hh.anc hgb hj (by rw [hblk'.1]; rfl) hjo hm
            rw [hblk'.1] at this
            cases this
          · have hne : (S x).2.n ≠ (S q).2.n := by
              rcases Nat.lt_or_ge x q with h | h
              · have := (ver_range T hver (show x + 1 ≤ q by omega) (by omega)).1
                omega
              · have hqx : q + 1 ≤ x := by omega
                have h1 := (ver_range T hver hqx (by omega)).1
                have h2 : (S (q + 1)).2.n = (S q).2.n + 1 := by rw [he]; simp
                omega
            simp only [ext, if_neg hne]
            exact habs x hx hnl hn
      · -- the interpreter runs on to it
        have hquiet : ∀ x, p ≤ x → x < q → firmR rows x = false := by
          intro x hx1 hx2
          by_cases hdp : depB cls x q = true
          · exact absurd (hdeps hdp) (hpn x hx1 (by omega))
          · exact (pair_of (D.pair hx2 hq) hdp).1
        obtain ⟨hh2, hf2⟩ := quiet_range T hh hf hpq (by omega) (fun x h1 h2 => firm_loud (hquiet x h1 h2))
        refine rowV_sound hcf her hh2 hb hprow hv fun σ' v' w' g1 g2 g3 => ?_
        subst hnext
        refine ih _ _ _ ⟨q + 1, σ', U.erase q, by omega, hls', hUe, hun', fun x hx1 hx2 hLx => ?_, hcl', fun x hx hnl => ?_, g2, hf2.trans g3, Nat.le_trans hb g3.size, (hputsz v').1, (hputsz v').2, fun t => ?_, fun x hx hnl hn => ?_⟩
        · rw [hL' x hx2] at hLx
          rcases hLx with h | h
          · exact hpn x (by omega) hx2 h
          · omega
        · rw [hL' x (by omega), not_or] at hnl
          rcases Nat.lt_or_ge x p with h | h
          · exact hfirm x h hnl.1
          · exact hquiet x h (by omega)
        · rw [hput]
          split
          · rename_i hd
            right
            rw [hv2, hdst, hd]
            simp only [eput, eget_cons, if_true]
            exact g1
          · rename_i hd
            have hS : eget (S (q + 1)).1 t = eget (S q).1 t := by
              rw [hv2, hdst]
              cases hd2 : o.dst with
              | none => rfl
              | some d =>
                simp only [eput, eget_cons]
                rw [if_neg (fun e => hd (by rw [hd2, e]))]
            rw [hS]
            by_cases hex : ∃ x, p ≤ x ∧ x < q ∧ (rowAt rows x).dst = some t
            · obtain ⟨x, hx1, hx2, hdx⟩ := hex
              exact .inl ⟨x, by omega, by rw [hL' x (by omega), not_or]; exact ⟨hpn x hx1 (by omega), by omega⟩, hdx⟩
            · have heq : eget (S q).1 t = eget (S p).1 t := env_same T hpq (by omega) (fun x h1 h2 hdx => hex ⟨x, h1, h2, hdx⟩)
              rw [heq]
              rcases henv t with ⟨x, hx, hnl, hdx⟩ | h
              · exact .inl ⟨x, by omega, by rw [hL' x (by omega), not_or]; exact ⟨hnl, by omega⟩, hdx⟩
              · exact .inr (h.mono g3.sub)
        · have hxq : x < q ∨ x = q := by omega
          rw [hL' x (by omega), not_or] at hnl
          have hxlt : x < q := by rcases hxq with h | h; · exact h
                                  · exact absurd h hnl.2
          have hxn : (S x).2.n < (S q).2.n := by
            have := (ver_range T hver (show x + 1 ≤ q by omega) (by omega)).1
            omega
          rw [g3.old _ hxn]
          rcases Nat.lt_or_ge x p with h | h
          · exact habs x h hnl.1 hn
          · refine hh.out _ ?_
            exact (ver_range T hver h (by omega)).1

/-- **A region that draws its order.** -/
theorem draw_sound (hmix : P.follows .mixedOrders = true) (hcf : ∀ g args H v H', cf g args H = some (v, H') → Sim P base g args H v H') (hok : drawOk ops l rows cls = true) (hprep : prepDraw P nt ops l = some rows)
    {σ : Sig} {e e' : Env} {a : Act} {H H' : AHeap} {w : World} (her : ER σ nt e a) (hh : HR P σ base H w) (hb : base ≤ w.heap.size) (h : drawA P cf rows [] [] e H = some (e', H')) {id : Nat} {Q : Exit → Act → World → Prop}
    (hQ : ∀ σ' a' w', ER σ' nt e' a' → HR P σ' base H' w' → Fr σ σ' H H' w w' → Q .normal a' w') : (Code.region id ops true).wp P Q a w := by
  have D := drawOk_spec hok
  obtain ⟨S, s0, s1, T, _, _⟩ := draw_trace h
  refine wp_region_any hmix (draw_any (σ0 := σ) (H0 := H) (w0 := w) hcf D hprep T (by rw [s0]) (fun σ' a' w' h1 h2 h3 => ?_) _ _ _ _ ?_)
  · rw [s1] at h1 h2 h3
    exact hQ σ' a' w' h1 h2 h3
  · refine ⟨0, σ, List.range ops.size, Nat.zero_le _, by simp, by simp, fun q hq _ => by simpa using hq, fun q _ hq hL => ?_, fun q hq hL => ?_, fun q hq => by omega, ?_, ?_, hb, her.size, her.defers, fun t => .inr ?_, fun q hq => by omega⟩
    · unfold Lst at hL
      simp [Array.getD] at hL
    · exfalso
      unfold Lst at hL
      simp [Array.getD] at hL
    · rw [s0]; exact hh.drewN _
    · rw [s0]; exact Fr.drewN _ _ _ _
    · rw [s0]; exact her.get t
end
end Lon
