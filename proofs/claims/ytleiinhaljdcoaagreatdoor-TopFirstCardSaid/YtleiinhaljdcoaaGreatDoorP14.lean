/- What is proved here: what the program's functions come to, as far as the claimed statement asks. Conditions: those that each theorem names, and no others. -/
import Derived.Test.YtleiinhaljdcoaaGreatDoorP13
set_option linter.unusedSimpArgs false
set_option linter.unusedVariables false
namespace Go.Proofs.YtleiinhaljdcoaaGreatDoor
open Go Lon
set_option maxRecDepth 100000
theorem Cut.sh {H H0 : AHeap} {v : Value} {el : TypeId} {sz : Nat} (h : cutB H0 v el = true) (hs : (Tryz.prog.info? el).map (·.size) = some sz) : Cut Tryz.prog (joinH H H0) (shV H.n v) sz := by
 unfold cutB at h
 split at h
 ·rename_i i o n c
  split at h
  ·rename_i b hb
   refine ⟨shB H.n b,joinH_get hb,?_⟩
   show (Tryz.prog.info? b.elem).map (·.size) = some sz
   rw [Nat.eq_of_beq_eq_true h]; exact hs
  ·cases h
 ·cases h
theorem laid_gives {r : Option (Value × AHeap)} {R : List Rl} (h : chkR r R = true) (H : AHeap) : ∃ v H',laidO r H = some (v,H') ∧ GivesR H R v H' := by
 unfold chkR at h
 split at h
 case h_2 => cases h
 rename_i v H0
 simp only [Bool.and_eq_true] at h
 obtain ⟨⟨⟨h1,h2⟩,h3⟩,h4⟩ := h
 refine ⟨_,_,by unfold laidO; simp only; rw [if_pos h1],joinH_ext H H0,(rulesB_spec h2).sh,Cut.sh h3 (by kernel_rfl),?_⟩
 unfold cutsB at h4
 rw [kCells_eq] at h4
 split at h4
 case h_2 => cases h4
 rename_i cs hcs
 obtain ⟨_,cs',hs,_⟩ := rulesB_spec h2
 obtain rfl : cs' = cs := Option.some.inj (hs.2.symm.trans hcs)
 refine ⟨_,_,Sl.sh hs,fun x hx => ?_⟩
 obtain ⟨y,hy,rfl⟩ := List.mem_map.1 hx
 exact Cut.sh (List.all_eq_true.1 h4 y hy) (by kernel_rfl)
theorem c_rulesO {k : Nat} {R : List Rl} {H : AHeap} (h2 : (nm k).data.toList ≠ (nm 2).data.toList) (h : chkR (runR (nm k)) R = true) : Gives (cw Tryz.prog (tabF tab) om1 39 [.string (nm k)] H) (GivesR H R) := by
 obtain ⟨v,H',h1,r1⟩ := laid_gives h H
 refine ⟨v,H',cw_omega ?_,r1⟩
 unfold om1
 simp only
 rw [if_neg h2]
 exact h1
theorem c_rules1 {H : AHeap} : Gives (cw Tryz.prog (tabF tab) om1 39 [.string (nm 1)] H) (GivesR H ascR) := c_rulesO (by decide) k_rul1
theorem c_rules3 {H : AHeap} : Gives (cw Tryz.prog (tabF tab) om1 39 [.string (nm 3)] H) (GivesR H Rtcvn) := c_rulesO (by decide) k_rul3
theorem c_rules4 {H : AHeap} : Gives (cw Tryz.prog (tabF tab) om1 39 [.string (nm 4)] H) (GivesR H Rvni) := c_rulesO (by decide) k_rul4
theorem c_rules5 {H : AHeap} : Gives (cw Tryz.prog (tabF tab) om1 39 [.string (nm 5)] H) (GivesR H Rtis) := c_rulesO (by decide) k_rul5
theorem c_rules6 {H : AHeap} : Gives (cw Tryz.prog (tabF tab) om1 39 [.string (nm 6)] H) (GivesR H Rtam) := c_rulesO (by decide) k_rul6
theorem c_IRules {H : AHeap} : Gives (cw Tryz.prog (tabF tab) om1 101 [] H) (GivesR H Rind) := by
 obtain ⟨v,H',h1,r1⟩ := laid_gives k_rul7 H
 exact ⟨v,H',cw_omega (by unfold om1; exact h1),r1⟩
def key : List Int → Nat
 | [] => 0
 | u :: l => u.toNat + 1 + 2000000 * key l
def noneB (k : Nat) : List Nat → Bool
 | [] => true
 | a :: l => cond (Nat.beq a k) false (noneB k l)
def distB : List Nat → Bool
 | [] => true
 | a :: l => cond (noneB a l) (distB l) false
theorem noneB_spec {k : Nat} : ∀ {l : List Nat},noneB k l = true → k ∉ l
 | [],_,h => by cases h
 | a :: l,h,hm => by
  unfold noneB at h
  cases hb : Nat.beq a k with
  | true => rw [hb] at h; cases h
  | false =>
   rw [hb] at h
   rcases List.mem_cons.1 hm with e | hm
   ·subst e; rw [Nat.beq_refl] at hb; cases hb
   ·exact noneB_spec h hm
theorem distB_spec : ∀ {l : List Nat},distB l = true → l.Nodup
 | [],_ => List.nodup_nil
 | a :: l,h => by
  unfold distB at h
  cases hb : noneB a l with
  | true => rw [hb] at h; exact List.nodup_cons.2 ⟨noneB_spec hb,distB_spec h⟩
  | false => rw [hb] at h; cases h
theorem nodup_of {α : Type} {f : α → Nat} {l : List α} (h : (l.map f).Nodup) : l.Nodup := List.Pairwise.of_map f (fun a b hne e => hne (congrArg f e)) h
theorem pair_good {L : List Rl} (hs : L.all (fun r => sideB r.1 && sideB r.2) = true) (hd : (L.map (·.1)).Nodup) : Right L := by
 refine ⟨fun r hr => by simpa using List.all_eq_true.1 hs r hr,fun k r hr => ?_⟩
 rw [fnd_neg]
 intro x hx e
 obtain ⟨i,hi,rfl⟩ := List.getElem_of_mem hx
 obtain ⟨hk,rfl⟩ := List.getElem?_eq_some_iff.1 hr
 rw [List.length_take] at hi
 rw [List.getElem_take] at e
 have := (List.pairwise_iff_getElem.1 hd) i k (by rw [List.length_map]; omega) (by rw [List.length_map]; exact hk) (by omega)
 rw [List.getElem_map,List.getElem_map] at this
 exact this e
theorem ascR_right : Right ascR := pair_good (by kernel_rfl) (nodup_of (f := key) (distB_spec (by kernel_rfl)))
theorem ascR_len : Nat.ble ascR.length 512 = true := by kernel_rfl
theorem Rtcvn_right : Right Rtcvn := pair_good (by kernel_rfl) (nodup_of (f := key) (distB_spec (by kernel_rfl)))
theorem Rtcvn_len : Nat.ble Rtcvn.length 512 = true := by kernel_rfl
theorem Rvni_right : Right Rvni := pair_good (by kernel_rfl) (nodup_of (f := key) (distB_spec (by kernel_rfl)))
theorem Rvni_len : Nat.ble Rvni.length 512 = true := by kernel_rfl
theorem Rtis_right : Right Rtis := pair_good (by kernel_rfl) (nodup_of (f := key) (distB_spec (by kernel_rfl)))
theorem Rtis_len : Nat.ble Rtis.length 512 = true := by kernel_rfl
theorem Rtam_right : Right Rtam := pair_good (by kernel_rfl) (nodup_of (f := key) (distB_spec (by kernel_rfl)))
theorem Rtam_len : Nat.ble Rtam.length 512 = true := by kernel_rfl
theorem Rind_right : Right Rind := pair_good (by kernel_rfl) (nodup_of (f := key) (distB_spec (by kernel_rfl)))
theorem Rind_len : Nat.ble Rind.length 512 = true := by kernel_rfl
theorem ascR_cls : clsF ascR ascR = true := cls_single fun r hr => by simpa using List.all_eq_true.1 (show (ascR.all fun r => decide (r.1.length = 1)) = true by kernel_rfl) r hr
theorem Rtcvn_cls : clsF Rtcvn Rtcvn = true := cls_single fun r hr => by simpa using List.all_eq_true.1 (show (Rtcvn.all fun r => decide (r.1.length = 1)) = true by kernel_rfl) r hr
theorem Rtis_cls : clsF Rtis Rtis = true := cls_single fun r hr => by simpa using List.all_eq_true.1 (show (Rtis.all fun r => decide (r.1.length = 1)) = true by kernel_rfl) r hr
theorem Rvni_cls : clsF Rvni Rvni = true := by kernel_rfl
theorem Rtam_cls : clsF Rtam Rtam = true := by kernel_rfl
theorem Rind_cls : clsF Rind Rind = true := by kernel_rfl
theorem c_IScalar {s p : Int} (hs : 0 ≤ s ∧ s < 4294967296) (hp : 0 ≤ p ∧ p < 4294967296) (H : AHeap) : cw Tryz.prog (tabF tab) om1 169 [.int .i64 s,.int .i64 p] H = some (.int .i64 (2304 + 128 * s + p),H) := by
 rw [cw_run (F := F_indic_Scalar) rfl rfl rfl]
 unfold F_indic_Scalar k_indic_Scalar
 have w1 : IntKind.i64.wrap (128 * s) = 128 * s := wrap64 (by omega) (by omega)
 have w2 : IntKind.i64.wrap (2304 + 128 * s) = 2304 + 128 * s := wrap64 (by omega) (by omega)
 have w3 : IntKind.i64.wrap (2304 + 128 * s + p) = 2304 + 128 * s + p := wrap64 (by omega) (by omega)
 simp only [WA,isStore,isCall,isK,freshI,stampO,Nat.reduceEqDiff,Int.reduceEq,Nat.reduceAdd,Nat.reduceMul,reduceCtorEq,Int.reduceLT,Int.reduceLE,Int.reduceToNat,Nat.reduceLeDiff,Int.cast_ofNat_Int,w1,w2,w3]
def mnU : Int → List Int → List Int → List Int × Int
 | scr,acc,[] => (acc,scr)
 | scr,acc,u :: us => if u ≥ 8192 then mnU scr (acc ++ [u - 8192]) us else if u ≥ 4096 then mnU (u - 4096) acc us else mnU scr (acc ++ [2304 + 128 * scr + u]) us
def mnT : Int → List Tok → List Tok × Int
 | scr,[] => ([],scr)
 | scr,x :: T => (⟨x.at_,x.len,(mnU scr [] x.out).1,x.err⟩ :: (mnT (mnU scr [] x.out).2 T).1,(mnT (mnU scr [] x.out).2 T).2)
theorem id_set1 {H : AHeap} {i ver : Nat} {el : TypeId} {a b x : Value} (h1 : one x = true) : gotStore (some ⟨[a,b],el,.tip,ver,[]⟩) i 1 x 1 H = some (.tuple ⟨[]⟩,H.upd i ⟨[a,x],el,.tip,ver + 1,[]⟩) := wr_set1 h1
def okN (m : List Int) : Prop := ∀ u ∈ m,0 ≤ u ∧ u < 100000
theorem OwnI.more {H : AHeap} {v : Value} {l : List Int} {u : Int} (ho : OwnI H v l) (hl : l.length < 1000000) : ∃ H1 v' H2,vBslice 3 1 1 [.int .i64 0] [(0,1,.int .i64 u)] H = some (.slice (some ⟨H.n,0,none⟩) 1 2,H1) ∧ appendA H1 v (.slice (some ⟨H.n,0,none⟩) 1 2) 3 1 8 = some (v',H2) ∧ OwnI H2 v' (l ++ [u]) ∧ From H.n v' ∧ H.n ≤ H2.n ∧ (∀ j,j < H.n → NotAt v j → H2.get j = H.get j) ∧ VerLe H H2 := by
 obtain ⟨H1,v1,x1,i1,_⟩ := new_one (H := H) (a := u)
 obtain ⟨v2,H2,q1,q2,q3,q4,q5,q6⟩ := Own.append2 (bytes := 8) (Own.ext x1 ho) i1 (by simp) rfl (by simp; omega)
 have x1n := x1.1
 refine ⟨H1,v2,H2,v1,q1,?_,q3.mono x1n,by omega,fun j hj hn => by rw [q6 j (by omega) hn,x1.2 j hj],(Ext.ver x1).trans (appendA_ver q1)⟩
 have hints : ints l ++ ints [u] = ints (l ++ [u]) := by simp [ints]
 unfold OwnI
 rw [List.length_append,← hints]
 exact q2
structure MN (d : Nat) (inv : Value) (H0 H : AHeap) (ov : Value) (acc : List Int) (scr : Int) : Prop where
 hd : ∃ ver,H.get d = some ⟨[inv,.int .i64 scr],138,.tip,ver,[]⟩
 ho : OwnI H ov acc
 hf : From H0.n ov
 hn : H0.n ≤ H.n
 hk : ∀ j,j < H0.n → j ≠ d → H.get j = H0.get j
 hv : VerLe H0 H
def PN0 (d : Nat) (inv v1 v5 v10 v11 v12 : Value) (H0 : AHeap) (z : List Int × Int) (y : AEx) (e' : Env) (H' : AHeap) : Prop := y = .exit 2 ∧ eget e' 0 = .pointer (some ⟨d,0,none⟩) ∧ eget e' 1 = v1 ∧ eget e' 5 = v5 ∧ eget e' 10 = v10 ∧ eget e' 11 = v11 ∧ eget e' 12 = v12 ∧ MN d inv H0 H' (eget e' 7) z.1 z.2
theorem l_mn0 {d : Nat} {inv v1 v5 v10 v11 v12 x : Value} {H0 : AHeap} {m : List Int} (hm : okN m) (hml : m.length < 1000) (hx : m ≠ [] → Ints H0 x m ∧ Cut Tryz.prog H0 x 1 ∧ NotAt x d) (hd0 : ∃ ver s,H0.get d = some ⟨[inv,s],138,.tip,ver,[]⟩) : ∀ (c k : Nat) (H : AHeap) (ov : Value) (acc : List Int) (scr : Int),k + c = m.length → acc.length ≤ k → 0 ≤ scr ∧ scr < 100000 → MN d inv H0 H ov acc scr →
  Out (run Tryz.prog (tabF tab) om1 (.loop [0,1,5,7,10,11,12,18,19,20] b_iscii_Decoder__mean_0) [(0,.pointer (some ⟨d,0,none⟩)),(1,v1),(5,v5),(7,ov),(10,v10),(11,v11),(12,v12),(18,x),(19,.int .i64 m.length),(20,.int .i64 k)] H) (PN0 d inv v1 v5 v10 v11 v12 H0 (mnU scr acc (m.drop k))) := by
 intro c
 induction c with
 | zero =>
  intro k H ov acc scr hk ha hs h
  obtain rfl : k = m.length := by omega
  have zz : (((m.length : Nat) : Int) < (m.length : Nat)) = False := by simp
  rw [List.drop_of_length_le (Nat.le_refl _),show mnU scr acc [] = (acc,scr) from rfl,w_loop_b b_iscii_Decoder__mean_0.eq_1]
  simp only [WA,isStore,isCall,isK,freshI,stampO,Nat.reduceEqDiff,Int.reduceEq,Nat.reduceAdd,Nat.reduceMul,reduceCtorEq,Int.reduceLT,Int.reduceLE,Int.reduceToNat,Nat.reduceLeDiff,Int.cast_ofNat_Int,zz]
  exact ⟨rfl,rfl,rfl,rfl,rfl,rfl,rfl,h⟩
 | succ c ih =>
  intro k H ov acc scr hk ha hs h
  have hlt : ((k : Int) < (m.length : Nat)) = True := eq_true (by omega)
  obtain ⟨u,hu,hdx⟩ := drop_at (L := m) (i := k) (by omega)
  obtain ⟨u0,u1⟩ := hm u (List.mem_of_getElem? hu)
  have hmn : m ≠ [] := fun e => by subst e; simp at hu
  obtain ⟨hx1,hx2,hx3⟩ := hx hmn
  obtain ⟨ver0,s0,g0⟩ := hd0
  have hon : Only (fun j => j = d) H0 H := ⟨h.hn,h.hk⟩
  obtain ⟨hy1,_⟩ := (only_rd hon fun j b hj hb => by
   have hj : j = d := hj
   subst hj
   rw [g0] at hb
   injection hb with hb
   subst hb
   simp only
   decide).1 x m hmn hx1 hx2 fun j hj => by
    have hj : j = d := hj
    subst hj
    exact hx3
  obtain ⟨i,o,a1,a2⟩ := hy1.at hu
  obtain ⟨ver,gd⟩ := h.hd
  have hdl := AHeap.lt_of_get g0
  have hnd : NotAt ov d := NotAt.of_from h.hf hdl
  have hw2 : IntKind.i64.wrap ((k : Int) + 1) = ((k + 1 : Nat) : Int) := by rw [wrap64 (by omega) (by omega)]; omega
  rw [hdx]
  by_cases h8 : u ≥ 8192
  ·have z8 : (u ≥ 8192) = True := eq_true h8
   have hu8 : IntKind.i64.wrap (u - 8192) = u - 8192 := wrap64 (by omega) (by omega)
   have hM : mnU scr acc (u :: m.drop (k + 1)) = mnU scr (acc ++ [u - 8192]) (m.drop (k + 1)) := by conv => lhs; unfold mnU; rw [if_pos h8]
   obtain ⟨H1,v',H2,v1',q1,q2,q3,q4,q5,q6⟩ := OwnI.more (u := u - 8192) h.ho (by omega)
   have hn := h.hn
   have h2 : MN d inv H0 H2 v' (acc ++ [u - 8192]) scr := ⟨⟨ver,by rw [q5 d (by omega) hnd]; exact gd⟩,q2,q3.mono hn,by omega,fun j hj hjd => by rw [q5 j (by omega) (NotAt.of_from h.hf hj),h.hk j hj hjd],h.hv.trans q6⟩
   obtain ⟨y,e',H',r1,r2⟩ := ih (k + 1) H2 v' (acc ++ [u - 8192]) scr (by omega) (by rw [List.length_append,List.length_singleton]; omega) hs h2
   rw [hM,w_loop_b b_iscii_Decoder__mean_0.eq_1]
   simp only [WA,isStore,isCall,isK,freshI,stampO,Nat.reduceEqDiff,Int.reduceEq,Nat.reduceAdd,Nat.reduceMul,reduceCtorEq,Int.reduceLT,Int.reduceLE,Int.reduceToNat,Nat.reduceLeDiff,Int.cast_ofNat_Int,hlt,a1,a2,z8,hu8,v1',q1,hw2]
   rw [w_enter]
   simp only [WA,isStore,isCall,isK,freshI,stampO,Nat.reduceEqDiff,Int.reduceEq,Nat.reduceAdd,Nat.reduceMul,reduceCtorEq,Int.reduceLT,Int.reduceLE,Int.reduceToNat,Nat.reduceLeDiff,Int.cast_ofNat_Int,r1]
   exact r2
  have z8 : (u ≥ 8192) = False := eq_false h8
  by_cases h4 : u ≥ 4096
  ·have z4 : (u ≥ 4096) = True := eq_true h4
   have hu4 : IntKind.i64.wrap (u - 4096) = u - 4096 := wrap64 (by omega) (by omega)
   have hM : mnU scr acc (u :: m.drop (k + 1)) = mnU (u - 4096) acc (m.drop (k + 1)) := by conv => lhs; unfold mnU; rw [if_neg h8,if_pos h4]
   have st := id_set1 (H := H) (i := d) (ver := ver) (el := 138) (a := inv) (b := .int .i64 scr) (x := .int .i64 (u - 4096)) rfl
   obtain ⟨H2,hH2⟩ : ∃ H2,H2 = H.upd d ⟨[inv,.int .i64 (u - 4096)],138,.tip,ver + 1,[]⟩ := ⟨_,rfl⟩
   rw [← hH2] at st
   have h2 : MN d inv H0 H2 ov acc (u - 4096) := ⟨⟨_,by rw [hH2]; exact upd_self gd⟩,own_at h.ho fun j hj => by rw [hH2,upd_other gd (fun e => hj (by rw [e]; exact hnd))],h.hf,by rw [hH2]; simp; exact h.hn,fun j hj hjd => by rw [hH2,upd_other gd hjd,h.hk j hj hjd],h.hv.trans (by rw [hH2]; exact VerLe.upd gd (Nat.le_succ _) rfl (fun e => by simp only at e; omega))⟩
   obtain ⟨y,e',H',r1,r2⟩ := ih (k + 1) H2 ov acc (u - 4096) (by omega) (by omega) (by omega) h2
   rw [hM,w_loop_b b_iscii_Decoder__mean_0.eq_1]
   simp only [WA,isStore,isCall,isK,freshI,stampO,Nat.reduceEqDiff,Int.reduceEq,Nat.reduceAdd,Nat.reduceMul,reduceCtorEq,Int.reduceLT,Int.reduceLE,Int.reduceToNat,Nat.reduceLeDiff,Int.cast_ofNat_Int,hlt,a1,a2,z8,z4,hu4,gd,st,hw2]
   rw [w_enter]
   simp only [WA,isStore,isCall,isK,freshI,stampO,Nat.reduceEqDiff,Int.reduceEq,Nat.reduceAdd,Nat.reduceMul,reduceCtorEq,Int.reduceLT,Int.reduceLE,Int.reduceToNat,Nat.reduceLeDiff,Int.cast_ofNat_Int,r1]
   exact r2
  ·have z4 : (u ≥ 4096) = False := eq_false h4
   have cs := c_IScalar (s := scr) (p := u) (by omega) (by omega) H
   have hM : mnU scr acc (u :: m.drop (k + 1)) = mnU scr (acc ++ [2304 + 128 * scr + u]) (m.drop (k + 1)) := by conv => lhs; unfold mnU; rw [if_neg h8,if_neg h4]
   obtain ⟨H1,v',H2,v1',q1,q2,q3,q4,q5,q6⟩ := OwnI.more (u := 2304 + 128 * scr + u) h.ho (by omega)
   have hn := h.hn
   have h2 : MN d inv H0 H2 v' (acc ++ [2304 + 128 * scr + u]) scr := ⟨⟨ver,by rw [q5 d (by omega) hnd]; exact gd⟩,q2,q3.mono hn,by omega,fun j hj hjd => by rw [q5 j (by omega) (NotAt.of_from h.hf hj),h.hk j hj hjd],h.hv.trans q6⟩
   obtain ⟨y,e',H',r1,r2⟩ := ih (k + 1) H2 v' (acc ++ [2304 + 128 * scr + u]) scr (by omega) (by rw [List.length_append,List.length_singleton]; omega) hs h2
   rw [hM,w_loop_b b_iscii_Decoder__mean_0.eq_1]
   simp only [WA,isStore,isCall,isK,freshI,stampO,Nat.reduceEqDiff,Int.reduceEq,Nat.reduceAdd,Nat.reduceMul,reduceCtorEq,Int.reduceLT,Int.reduceLE,Int.reduceToNat,Nat.reduceLeDiff,Int.cast_ofNat_Int,hlt,a1,a2,z8,z4,gd,cs,v1',q1,hw2]
   rw [w_enter]
   simp only [WA,isStore,isCall,isK,freshI,stampO,Nat.reduceEqDiff,Int.reduceEq,Nat.reduceAdd,Nat.reduceMul,reduceCtorEq,Int.reduceLT,Int.reduceLE,Int.reduceToNat,Nat.reduceLeDiff,Int.cast_ofNat_Int,r1]
   exact r2
theorem hQtokF (B : Nat) (H : AHeap) : ∀ (H' : AHeap) (row : List Value) (r : Tok),(∀ j blk,H.get j = some blk → blk.elem ≠ 36 → H'.get j = some blk) → tokF B Tryz.prog H row r → tokF B Tryz.prog H' row r := fun H' row r hk h => tokF_elem (el := 36) (s := 4) (by kernel_rfl) (by decide) hk h
structure MT (d B : Nat) (inv v : Value) (H0 H : AHeap) (T : List Tok) (scr : Int) : Prop where
 hd : ∃ ver,H.get d = some ⟨[inv,.int .i64 scr],138,.tip,ver,[]⟩
 ht : OwnTF B H v T
 ha : AncB B H 36 v
 hn : H0.n ≤ H.n
 hl : ∀ j,j < B → j ≠ d → H.get j = H0.get j
 hk : ∀ j b,H0.get j = some b → b.elem ≠ 36 → j ≠ d → H.get j = some b
def PN1 (d B : Nat) (inv v : Value) (H0 : AHeap) (z : List Tok × Int) (y : AEx) (e' : Env) (H' : AHeap) : Prop := y = .exit 0 ∧ eget e' 1 = v ∧ MT d B inv v H0 H' z.1 z.2
def mnA (scr : Int) (T : List Tok) (k : Nat) : List Tok × Int := ((mnT scr (T.take k)).1 ++ T.drop k,(mnT scr (T.take k)).2)
theorem mnT_snoc : ∀ (T : List Tok) (scr : Int) (x : Tok),mnT scr (T ++ [x]) = ((mnT scr T).1 ++ [⟨x.at_,x.len,(mnU (mnT scr T).2 [] x.out).1,x.err⟩],(mnU (mnT scr T).2 [] x.out).2)
 | [],scr,x => rfl
 | y :: T,scr,x => by
  rw [List.cons_append]
  unfold mnT
  rw [mnT_snoc T]
  rfl
theorem mnT_len : ∀ (T : List Tok) (scr : Int),(mnT scr T).1.length = T.length
 | [],scr => rfl
 | y :: T,scr => by unfold mnT; simp [mnT_len T]
theorem mnU_len : ∀ (m : List Int) (scr : Int) (acc : List Int),(mnU scr acc m).1.length ≤ acc.length + m.length
 | [],scr,acc => by simp [mnU]
 | u :: m,scr,acc => by
  unfold mnU
  rw [List.length_cons]
  split
  ·have := mnU_len m scr (acc ++ [u - 8192]); rw [List.length_append,List.length_singleton] at this; omega
  split
  ·have := mnU_len m (u - 4096) acc; omega
  ·have := mnU_len m scr (acc ++ [2304 + 128 * scr + u]); rw [List.length_append,List.length_singleton] at this; omega
theorem mnU_scr : ∀ (m : List Int) (scr : Int) (acc : List Int),okN m → 0 ≤ scr ∧ scr < 100000 → 0 ≤ (mnU scr acc m).2 ∧ (mnU scr acc m).2 < 100000
 | [],scr,acc,_,h => h
 | u :: m,scr,acc,hm,h => by
  have h1 := hm u (List.mem_cons_self ..)
  have h2 : okN m := fun v hv => hm v (List.mem_cons_of_mem _ hv)
  unfold mnU
  split
  ·exact mnU_scr m _ _ h2 h
  split
  ·exact mnU_scr m _ _ h2 (by omega)
  ·exact mnU_scr m _ _ h2 h
theorem mnT_scr : ∀ (T : List Tok) (scr : Int),(∀ x ∈ T,okN x.out) → 0 ≤ scr ∧ scr < 100000 → 0 ≤ (mnT scr T).2 ∧ (mnT scr T).2 < 100000
 | [],scr,_,h => h
 | x :: T,scr,hm,h => by
  unfold mnT
  exact mnT_scr T _ (fun y hy => hm y (List.mem_cons_of_mem _ hy)) (mnU_scr x.out scr [] (hm x (List.mem_cons_self ..)) h)
theorem l_mn1 {d B : Nat} {inv v : Value} {H0 : AHeap} {T : List Tok} {scr : Int} (hT : ∀ x ∈ T,okN x.out ∧ x.out.length < 1000) (hs : 0 ≤ scr ∧ scr < 100000) (hf : From B v) (hdB : d < B) (hBn : B ≤ H0.n) (hTl : T.length < 1000000) : ∀ (c k : Nat) (H : AHeap),k + c = T.length → MT d B inv v H0 H (mnA scr T k).1 (mnA scr T k).2 →
  Out (run Tryz.prog (tabF tab) om1 (.loop [0,1,10,11,12] b_iscii_Decoder__mean_1) [(0,.pointer (some ⟨d,0,none⟩)),(1,v),(10,v),(11,.int .i64 T.length),(12,.int .i64 k)] H) (PN1 d B inv v H0 (mnT scr T)) := by
 intro c
 induction c with
 | zero =>
  intro k H hk h
  obtain rfl : k = T.length := by omega
  have zz : (((T.length : Nat) : Int) < (T.length : Nat)) = False := by simp
  have hA : mnA scr T T.length = mnT scr T := by unfold mnA; rw [List.take_of_length_le (Nat.le_refl _),List.drop_of_length_le (Nat.le_refl _),List.append_nil]
  rw [hA] at h
  rw [w_loop_b b_iscii_Decoder__mean_1.eq_1]
  simp only [WA,isStore,isCall,isK,freshI,stampO,Nat.reduceEqDiff,Int.reduceEq,Nat.reduceAdd,Nat.reduceMul,reduceCtorEq,Int.reduceLT,Int.reduceLE,Int.reduceToNat,Nat.reduceLeDiff,Int.cast_ofNat_Int,zz]
  exact ⟨rfl,rfl,h⟩
 | succ c ih =>
  intro k H hk h
  have hlt : ((k : Int) < (T.length : Nat)) = True := eq_true (by omega)
  obtain ⟨x,hxk,hdx⟩ := drop_at (L := T) (i := k) (by omega)
  obtain ⟨hx1,hx2⟩ := hT x (List.mem_of_getElem? hxk)
  obtain ⟨s,hs'⟩ : ∃ s,(mnT scr (T.take k)).2 = s := ⟨_,rfl⟩
  have hsb : 0 ≤ s ∧ s < 100000 := by rw [← hs']; exact mnT_scr _ scr (fun y hy => (hT y (List.mem_of_mem_take hy)).1) hs
  have hA1 : (mnA scr T k).1 = (mnT scr (T.take k)).1 ++ x :: T.drop (k + 1) := by unfold mnA; rw [hdx]
  have hA2 : (mnA scr T k).2 = s := hs'
  have hAk : (mnA scr T k).1[k]? = some x := by
   rw [hA1,List.getElem?_append_right (by rw [mnT_len,List.length_take]; omega),mnT_len,List.length_take,Nat.min_eq_left (by omega),Nat.sub_self]
   rfl
  have hAs : mnA scr T (k + 1) = ((mnA scr T k).1.set k ⟨x.at_,x.len,(mnU s [] x.out).1,x.err⟩,(mnU s [] x.out).2) := by
   have ht : T.take (k + 1) = T.take k ++ [x] := by rw [List.take_add_one,hxk]; rfl
   unfold mnA
   rw [ht,mnT_snoc,hs',hdx]
   simp only
   rw [List.set_append_right _ _ (by rw [mnT_len,List.length_take]; omega),mnT_len,List.length_take,Nat.min_eq_left (by omega),Nat.sub_self,List.append_assoc]
   rfl
  rw [hA2] at h
  obtain ⟨⟨ver,gd⟩,ht,ha,hn,hl,hkk⟩ := h
  obtain ⟨i,o,row,a1,_,_,a6,⟨p,cc,hrow,a7,a8,a9⟩,a10⟩ := ht.rws.at hAk
  have hrow : row = tokC p cc x := hrow
  subst hrow
  obtain ⟨H1,hH1⟩ : ∃ H1,H1 = H.push ⟨tokC p cc x,36,.tip,1,[]⟩ := ⟨_,rfl⟩
  have x1 : Ext H H1 := by rw [hH1]; exact Ext.push H _
  have g1 : H1.get H.n = some ⟨tokC p cc x,36,.tip,1,[]⟩ := by rw [hH1]; exact get_push_self
  have gd1 := x1.get gd
  have x1n := x1.1
  have hxd : NotAt (.slice p x.out.length cc) d := NotAt.of_from (a10 p _ cc rfl) hdB
  obtain ⟨y',e2,H2,p1,rfl,p2,p3,p4,p5,p6,p7,p8⟩ := l_mn0 (d := d) (inv := inv) (v1 := v) (v5 := .int .i64 k) (v10 := v) (v11 := .int .i64 T.length) (v12 := .int .i64 k) (x := .slice p x.out.length cc) (H0 := H1) hx1 hx2 (fun _ => ⟨a7.ext x1,a9.ext x1,hxd⟩) ⟨ver,_,gd1⟩ x.out.length 0 H1 (.slice none 0 0) [] s (by omega) (by simp) hsb ⟨⟨ver,gd1⟩,OwnI.nil,trivial,Nat.le_refl _,fun _ _ _ => rfl,VerLe.refl _⟩
  rw [List.drop_zero] at p8
  rw [show ((0 : Nat) : Int) = 0 from rfl] at p1
  obtain ⟨acc,hacc⟩ : ∃ acc,(mnU s [] x.out).1 = acc := ⟨_,rfl⟩
  rw [hacc] at p8 hAs
  obtain ⟨⟨ver2,gd2⟩,ho2,hf2,hn2,hk2,hv2⟩ := p8
  have hb2 : ∀ j b,H1.get j = some b → b.elem ≠ 138 → H2.get j = some b := fun j b hj he => by
   rw [hk2 j (AHeap.lt_of_get hj) (fun e => by subst e; rw [gd1] at hj; injection hj with hj; subst hj; exact he rfl)]
   exact hj
  have helD : (Tryz.prog.info? 138).map (·.size) = some 2 := by kernel_rfl
  have ht1 := OwnRws.ext tokF_mono x1 ht
  have ht2 : OwnTF B H2 v (mnA scr T k).1 := by
   obtain ⟨q0,cs,q1,q2⟩ := ht1
   exact ⟨q0,cs,q1.move fun i b hi he => hb2 i b hi (by rw [he]; decide),fun k r hr => tokF_elem helD (by decide) hb2 (q2 k r hr)⟩
  have ha2 : AncB B H2 36 v := (ha.ext x1).move hv2 fun i b hi hna => by
   obtain ⟨q0,cs,q1,q2⟩ := ht1
   obtain ⟨b',hb',he⟩ := own_here q1 hna
   rw [hi] at hb'
   injection hb' with hb'
   subst hb'
   exact hb2 i b hi (by rw [he]; decide)
  have hone : (eget e2 7).cells.toList = [eget e2 7] ∧ one (eget e2 7) = true := by
   obtain ⟨⟨u1,u2,hu⟩,_⟩ := ho2.sl
   rw [hu]
   exact ⟨rfl,rfl⟩
  obtain ⟨b,b1,row',b2,b3,⟨⟨p',c',hrow',_⟩,_⟩,H3,b4,b5,b6,b7,b8,b9,b10⟩ := ht2.store (f := 2) (u := eget e2 7) hf ha2 hAk (by decide) hone.1 hone.2 (hQtokF B H2)
  have ho3 : OwnI H3 (eget e2 7) acc := Own.move ho2 fun i b hi he => b7 i b hi (by rw [he]; decide)
  have b10' := b10 ⟨x.at_,x.len,acc,x.err⟩ (by
   rw [hrow']
   obtain ⟨⟨u1,u2,hu⟩,_⟩ := ho2.sl
   rw [hu]
   refine ⟨⟨u1,u2,rfl,?_,?_,?_⟩,fun a n c e => ?_⟩
   ·rw [← hu]; exact OwnI.asI ho3
   ·have := mnU_len x.out s []
    rw [hacc] at this
    unfold Lon.tiny
    simp only [List.length_nil] at this
    simp only
    omega
   ·rw [← hu]; exact OwnI.cutI ho3
   ·have e : some (Value.slice u1 acc.length u2) = some (.slice a n c) := e
    injection e with e
    rw [← e,← hu]
    exact hf2.mono (by omega))
  have hsz : H3.n = H2.n := b5
  obtain ⟨y,e',H',r1,r2⟩ := ih (k + 1) H3 (by omega) (by
   rw [hAs]
   exact ⟨⟨ver2,b7 _ _ gd2 (by simp only; decide)⟩,b10',b8,by omega,fun j hj hjd => by rw [b6 j hj,hk2 j (by omega) hjd,x1.2 j (by omega),hl j hj hjd],fun j b hj he hjd => b7 j b (by
    rw [hk2 j (by have := AHeap.lt_of_get (hkk j b hj he hjd); omega) hjd]
    exact x1.get (hkk j b hj he hjd)) he⟩)
  have hw2 : IntKind.i64.wrap ((k : Int) + 1) = ((k + 1 : Nat) : Int) := by rw [wrap64 (by omega) (by omega)]; omega
  rw [w_loop_b b_iscii_Decoder__mean_1.eq_1]
  simp only [WA,isStore,isCall,isK,freshI,stampO,Nat.reduceEqDiff,Int.reduceEq,Nat.reduceAdd,Nat.reduceMul,reduceCtorEq,Int.reduceLT,Int.reduceLE,Int.reduceToNat,Nat.reduceLeDiff,Int.cast_ofNat_Int,hlt,a1,a6,got_tok,← hH1,g1,tk2]
  rw [w_enter]
  simp only [WA,isStore,isCall,isK,freshI,stampO,Nat.reduceEqDiff,Int.reduceEq,Nat.reduceAdd,Nat.reduceMul,reduceCtorEq,Int.reduceLT,Int.reduceLE,Int.reduceToNat,Nat.reduceLeDiff,Int.cast_ofNat_Int,p1,p2,p3,p4,p5,p6,p7,b1,b4,hw2]
  rw [w_enter]
  simp only [WA,isStore,isCall,isK,freshI,stampO,Nat.reduceEqDiff,Int.reduceEq,Nat.reduceAdd,Nat.reduceMul,reduceCtorEq,Int.reduceLT,Int.reduceLE,Int.reduceToNat,Nat.reduceLeDiff,Int.cast_ofNat_Int,p2,p3,p4,p5,p6,p7,r1]
  exact r2
theorem c_mean {d B ver : Nat} {inv v : Value} {H : AHeap} {T : List Tok} {scr : Int} (hT : ∀ x ∈ T,okN x.out ∧ x.out.length < 1000) (hs : 0 ≤ scr ∧ scr < 100000) (hTl : T.length < 1000000) (hd : H.get d = some ⟨[inv,.int .i64 scr],138,.tip,ver,[]⟩) (hdB : d < B) (hBn : B ≤ H.n) (ht : OwnTF B H v T) (hf : From B v) (ha : AncB B H 36 v) :
  Gives (cw Tryz.prog (tabF tab) om1 168 [.pointer (some ⟨d,0,none⟩),v] H) fun w H' => w = v ∧ MT d B inv v H H' (mnT scr T).1 (mnT scr T).2 := by
 rw [cw_run (F := F_iscii_Decoder__mean) rfl rfl rfl]
 unfold F_iscii_Decoder__mean k_iscii_Decoder__mean
 have hw := fun H9 => Rws.len (H2 := H9) ht.rws
 obtain ⟨y,e',H',r1,rfl,r2,r3⟩ := l_mn1 (H0 := H) (T := T) (scr := scr) hT hs hf hdB hBn hTl T.length 0 H (by omega) ⟨⟨ver,hd⟩,by unfold mnA; rw [List.take_zero,List.drop_zero]; exact ht,ha,Nat.le_refl _,fun _ _ _ => rfl,fun j b hj _ _ => hj⟩
 rw [show ((0 : Nat) : Int) = 0 from rfl] at r1
 simp only [WA,isStore,isCall,isK,freshI,stampO,Nat.reduceEqDiff,Int.reduceEq,Nat.reduceAdd,Nat.reduceMul,reduceCtorEq,Int.reduceLT,Int.reduceLE,Int.reduceToNat,Nat.reduceLeDiff,Int.cast_ofNat_Int,hw]
 rw [w_enter]
 simp only [WA,isStore,isCall,isK,freshI,stampO,Nat.reduceEqDiff,Int.reduceEq,Nat.reduceAdd,Nat.reduceMul,reduceCtorEq,Int.reduceLT,Int.reduceLE,Int.reduceToNat,Nat.reduceLeDiff,Int.cast_ofNat_Int,r1,r2]
 exact r3
theorem takeF_mem {L : List Rl} (hR : Right L) {e : Bool} : ∀ (c : Nat) (w : List Int) (a st : Int),∀ x ∈ (takeF L e c w a st).1,(x.err = 3 ∧ x.out = []) ∨ (x.err = 0 ∧ x.out.length ≤ 8 ∧ ∃ r ∈ L,x.out = r.2)
 | 0,w,a,st,x,hx => absurd hx (by unfold takeF; simp)
 | c + 1,w,a,st,x,hx => by
  rw [takeF_succ] at hx
  by_cases hn : w = []
  ·rw [if_pos hn] at hx
   exact absurd hx (by simp)
  rw [if_neg hn] at hx
  split at hx
  ·exact absurd hx (by simp)
  ·rcases List.mem_cons.1 hx with rfl | hx
   ·rcases oneT_is hR hn a with ⟨q1,_⟩ | ⟨k,n,r,_,_,_,_,q5,_,_,q8,q9⟩
    ·rw [q1]; exact .inl ⟨rfl,rfl⟩
    ·rw [q9]; exact .inr ⟨rfl,q8,r,List.mem_of_getElem? q5,rfl⟩
   ·exact takeF_mem hR c _ _ _ x hx
def okNB (m : List Int) : Bool := m.all fun u => decide (0 ≤ u ∧ u < 100000)
theorem okN_of {m : List Int} (h : okNB m = true) : okN m := fun u hu => by simpa using List.all_eq_true.1 h u hu
theorem Rind_okN : Rind.all (fun r => okNB r.2 && decide (r.2.length < 1000)) = true := by kernel_rfl
def okPB (m : List Int) : Bool := m.all fun u => if u ≥ 8192 then decide (u - 8192 < 55296) else if u ≥ 4096 then decide (u < 4105) else decide (0 ≤ u ∧ u < 128)
def okP (m : List Int) : Prop := ∀ u ∈ m,(u ≥ 8192 → u - 8192 < 55296) ∧ (u < 8192 → u ≥ 4096 → u < 4105) ∧ (u < 4096 → 0 ≤ u ∧ u < 128)
theorem okP_of {m : List Int} (h : okPB m = true) : okP m := fun u hu => by
 have := List.all_eq_true.1 h u hu
 by_cases h8 : u ≥ 8192
 ·rw [if_pos h8,decide_eq_true_eq] at this
  exact ⟨fun _ => this,fun h => absurd h8 (by omega),fun h => absurd h8 (by omega)⟩
 rw [if_neg h8] at this
 by_cases h4 : u ≥ 4096
 ·rw [if_pos h4,decide_eq_true_eq] at this
  exact ⟨fun h => absurd h h8,fun _ _ => this,fun h => absurd h4 (by omega)⟩
 rw [if_neg h4,decide_eq_true_eq] at this
 exact ⟨fun h => absurd h h8,fun _ h => absurd h h4,fun _ => this⟩
theorem Rind_okP : Rind.all (fun r => okPB r.2) = true := by kernel_rfl
theorem tok_okP {e : Bool} {c : Nat} {w : List Int} {a st : Int} : ∀ x ∈ (takeF Rind e c w a st).1,okP x.out := fun x hx => by
 rcases takeF_mem Rind_right c w a st x hx with ⟨_,h⟩ | ⟨_,_,r,hr,h⟩
 ·rw [h]; exact fun u hu => absurd hu (by simp)
 ·rw [h]; exact okP_of (List.all_eq_true.1 Rind_okP r hr)
theorem mnU_okS : ∀ (m : List Int) (scr : Int) (acc : List Int),okP m → (0 ≤ scr ∧ scr < 9) → (∀ u ∈ acc,okS u) → (0 ≤ (mnU scr acc m).2 ∧ (mnU scr acc m).2 < 9) ∧ ∀ u ∈ (mnU scr acc m).1,okS u
 | [],scr,acc,_,hs,ha => ⟨hs,ha⟩
 | u :: m,scr,acc,hm,hs,ha => by
  obtain ⟨h1,h2,h3⟩ := hm u (List.mem_cons_self ..)
  have hm2 : okP m := fun v hv => hm v (List.mem_cons_of_mem _ hv)
  have hap : ∀ v : Int,okS v → ∀ y ∈ acc ++ [v],okS y := fun v hv y hy => by
   rcases List.mem_append.1 hy with hy | hy
   ·exact ha y hy
   ·rw [List.mem_singleton.1 hy]; exact hv
  unfold mnU
  by_cases h8 : u ≥ 8192
  ·rw [if_pos h8]
   have := h1 h8
   exact mnU_okS m scr _ hm2 hs (hap _ ⟨by omega,by omega,.inl (by omega)⟩)
  rw [if_neg h8]
  by_cases h4 : u ≥ 4096
  ·rw [if_pos h4]
   have := h2 (by omega) h4
   exact mnU_okS m _ acc hm2 (by omega) ha
  rw [if_neg h4]
  have := h3 (by omega)
  exact mnU_okS m scr _ hm2 hs (hap _ ⟨by omega,by omega,.inl (by omega)⟩)
theorem mnT_okS : ∀ (T : List Tok) (scr : Int),(∀ x ∈ T,okP x.out) → (0 ≤ scr ∧ scr < 9) → (0 ≤ (mnT scr T).2 ∧ (mnT scr T).2 < 9) ∧ ∀ x ∈ (mnT scr T).1,∀ u ∈ x.out,okS u
 | [],scr,_,hs => ⟨hs,fun x hx => absurd hx (by unfold mnT; simp)⟩
 | x :: T,scr,hm,hs => by
  obtain ⟨h1,h2⟩ := mnU_okS x.out scr [] (hm x (List.mem_cons_self ..)) hs (fun u hu => absurd hu (by simp))
  obtain ⟨h3,h4⟩ := mnT_okS T _ (fun y hy => hm y (List.mem_cons_of_mem _ hy)) h1
  unfold mnT
  refine ⟨h3,fun y hy => ?_⟩
  rcases List.mem_cons.1 hy with rfl | hy
  ·exact h2
  ·exact h4 y hy
theorem tok_ok {e : Bool} {c : Nat} {w : List Int} {a st : Int} : ∀ x ∈ (takeF Rind e c w a st).1,okN x.out ∧ x.out.length < 1000 := fun x hx => by
 rcases takeF_mem Rind_right c w a st x hx with ⟨_,h⟩ | ⟨_,_,r,hr,h⟩
 ·rw [h]; exact ⟨fun u hu => absurd hu (by simp),by simp⟩
 ·rw [h]
  have := List.all_eq_true.1 Rind_okN r hr
  simp only [Bool.and_eq_true,decide_eq_true_eq] at this
  exact ⟨okN_of this.1,this.2⟩
abbrev ISt := MSt × Int
def rsI (st : ISt) (u : Int) : List Tok × ISt := ((mnT st.2 (rdS Rind st.1 u).1).1,((rdS Rind st.1 u).2,(mnT st.2 (rdS Rind st.1 u).1).2))
def rfI (st : ISt) : List Tok × ISt := ((mnT st.2 (rdF Rind st.1).1).1,((rdF Rind st.1).2,(mnT st.2 (rdF Rind st.1).1).2))
def RdI (v : Value) (n : Nat) (H : AHeap) (st : ISt) (C D : NS) : Prop := ∃ k d i m t ver ver2 Hs C0 D0,v = .iface 102 (.pointer (some ⟨i,0,none⟩)) ∧ H.get i = some ⟨[.iface 139 (.pointer (some ⟨d,0,none⟩)),.int .i64 st.2],138,.tip,ver2,[]⟩ ∧ D0 d ∧ ¬ C0 d ∧ ¬ D0 i ∧ H.get d = some ⟨[.pointer (some ⟨m,0,none⟩)],143,.tip,ver,[]⟩ ∧ MX k Hs H m t Rind st.1.1 st.1.2.1 st.1.2.2 C0 D0 ∧ Mi Rind n st.1 ∧ (0 ≤ st.2 ∧ st.2 < 9) ∧ (∀ j,D0 j → ∃ b,H.get j = some b ∧ b.elem ≠ 36) ∧ C = (fun j => C0 j ∨ j = i) ∧ D = fun j => D0 j ∨ j = i
theorem me_JP : methA Tryz.prog 102 "Put" = some (167, none) := by kernel_rfl
theorem me_JE : methA Tryz.prog 102 "End" = some (165, none) := by kernel_rfl
theorem jd_tail {n' k d i m t ver ver2 : Nat} {Hs H H1 : AHeap} {C0 D0 : NS} {st : ISt} {e : Bool} {w : List Int} {a s : Int} {x : Value} (hi : H.get i = some ⟨[.iface 139 (.pointer (some ⟨d,0,none⟩)),.int .i64 st.2],138,.tip,ver2,[]⟩) (dd : D0 d) (cd : ¬ C0 d) (di : ¬ D0 i) (gd : H.get d = some ⟨[.pointer (some ⟨m,0,none⟩)],143,.tip,ver,[]⟩) (hX : MX k Hs H m t Rind st.1.1 st.1.2.1 st.1.2.2 C0 D0) (hs : 0 ≤ st.2 ∧ st.2 < 9) (hfr : ∀ j,D0 j → ∃ b,H.get j = some b ∧ b.elem ≠ 36)
  (hw : w.length ≤ 8) (r1 : MS (cutN H k) H1 m t (takeW Rind e w a s).2.1 (takeW Rind e w a s).2.2.1 (takeW Rind e w a s).2.2.2) (r3 : From H.n x) (r4 : Kx H H1) (ra : AncB H.n H1 36 x) (r5 : OnlyM m H H1) (r6 : OwnTF H.n H1 x (takeW Rind e w a s).1) (hMi : Mi Rind n' (takeW Rind e w a s).2) :
  ∃ H',cw Tryz.prog (tabF tab) om1 168 [.pointer (some ⟨i,0,none⟩),x] H1 = some (x,H') ∧ H1.get i = some ⟨[.iface 139 (.pointer (some ⟨d,0,none⟩)),.int .i64 st.2],138,.tip,ver2,[]⟩ ∧ OwnTA (fun j => j < H.n) H' x (mnT st.2 (takeW Rind e w a s).1).1 ∧ Rd (fun j => C0 j ∨ j = i) H H' ∧ Only (fun j => C0 j ∨ j = i) H H' ∧ ∃ C' D',RdI (.iface 102 (.pointer (some ⟨i,0,none⟩))) n' H' ((takeW Rind e w a s).2,(mnT st.2 (takeW Rind e w a s).1).2) C' D' ∧ (∀ j,j < H.n → C' j → C0 j ∨ j = i) ∧ ∀ j,j < H.n → D' j → D0 j ∨ j = i := by
 have hil := AHeap.lt_of_get hi
 have hon1 := hX.only r5 r4.1
 have hM1 := hX.of r1 r5 r4.1
 have r4n := r4.1
 have ci : ¬ C0 i := fun h => di (hX.cd i h)
 have gi1 : H1.get i = some ⟨[.iface 139 (.pointer (some ⟨d,0,none⟩)),.int .i64 st.2],138,.tip,ver2,[]⟩ := by rw [hon1.2 i hil ci]; exact hi
 have hTl : (takeW Rind e w a s).1.length ≤ w.length := by
  obtain ⟨n,n1,_,_,_,_,n6,_⟩ := takeF_bd Rind_right (e := e) w.length w a s
  have : (takeW Rind e w a s).1.length ≤ n := n6
  omega
 obtain ⟨v2,H2,c2,rfl,hT⟩ := c_mean (B := H.n) (T := (takeW Rind e w a s).1) (fun x hx => tok_ok x hx) ⟨hs.1,by omega⟩ (by omega) gi1 hil r4.1 r6 r3 ra
 obtain ⟨⟨ver3,gi2⟩,ht2,_,n2,l2,k2⟩ := hT
 have hold : ∀ j,¬ NW H1 m j → j < H.n → C0 j := fun j hj hl => hX.old r5 j hl hj
 have hni : ¬ ¬ NW H1 m i := fun h => ci (hold i h hil)
 have D1i : ¬ (D0 i ∨ ¬ NW H1 m i) := fun h => h.elim di hni
 have tokf : ∀ j,(D0 j ∨ ¬ NW H1 m j) → ∃ b,H1.get j = some b ∧ b.elem ≠ 36 := fun j hj => by
  rcases hj with hj | hj
  ·obtain ⟨b0,hb0,he0⟩ := hfr j hj
   by_cases hjm : j = m
   ·subst hjm
    obtain ⟨vw,ver9,q1,_⟩ := hM1.hm
    exact ⟨_,q1,by simp only; decide⟩
   ·by_cases hnw : NW H m j
    ·exact ⟨b0,by rw [r5.k j (AHeap.lt_of_get hb0) hjm hnw]; exact hb0,he0⟩
    ·obtain ⟨vw,ver9,q1,q2,_⟩ := hX.hm
     obtain ⟨b',hb',he⟩ := own_here q2 (fun hx => hnw (NW.of q1 hx))
     rw [hb0] at hb'
     injection hb' with hb'
     subst hb'
     obtain ⟨_,b1,hb1,he1,_⟩ := r4.2 j b0 hb0 (by rw [he]; decide)
     exact ⟨b1,hb1,by rw [he1]; exact he0⟩
  ·obtain ⟨vw,ver9,q1,q2,q3⟩ := hM1.hm
   have hj2 : ¬ NotAt vw j := fun hx => hj (NW.of q1 hx)
   obtain ⟨b',hb',he⟩ := own_here q2 hj2
   exact ⟨b',hb',by rw [he]; decide⟩
 have hkeep : ∀ j,(D0 j ∨ ¬ NW H1 m j) → H2.get j = H1.get j := fun j hj => by
  have hji : j ≠ i := fun e => D1i (e ▸ hj)
  obtain ⟨b,hb,he⟩ := tokf j hj
  rw [hb]
  exact k2 j b hb he hji
 have hM2 := hM1.keep n2 hkeep
 have hon : Only (fun j => C0 j ∨ j = i) H H2 := ⟨by omega,fun j hj hc => by rw [l2 j hj (fun e => hc (.inr e)),hon1.2 j hj (fun h => hc (.inl h))]⟩
 have gd2 : H2.get d = some ⟨[.pointer (some ⟨m,0,none⟩)],143,.tip,ver,[]⟩ := by rw [hon.2 d (hX.dl d dd) (fun h => h.elim cd fun e => di (e ▸ dd))]; exact gd
 refine ⟨H2,c2,gi1,ht2.ta,only_rd hon ?_,hon,_,_,⟨k,d,i,m,t,ver,ver3,Hs,_,_,rfl,gi2,.inl dd,fun h => h.elim cd fun h => cd (hold d h (hX.dl d dd)),D1i,gd2,hM2,hMi,(mnT_okS _ _ (fun x hx => tok_okP x hx) hs).1,fun j hj => by rw [hkeep j hj]; exact tokf j hj,rfl,rfl⟩,fun j hj hc => ?_,fun j hj hc => ?_⟩
 ·intro j b hj hb
  rcases hj with hj | rfl
  ·obtain ⟨b0,hb0,he0⟩ := hfr j (hX.cd j hj)
   rw [hb] at hb0
   injection hb0 with hb0
   subst hb0
   exact he0
  ·rw [hi] at hb
   injection hb with hb
   subst hb
   simp only
   decide
 ·rcases hc with (hc | hc) | hc
  ·exact .inl hc
  ·exact .inl (hold j hc hj)
  ·exact .inr hc
 ·rcases hc with (hc | hc) | hc
  ·exact .inl hc
  ·exact .inl (hX.cd j (hold j hc hj))
  ·exact .inr hc
theorem mc_I {v : Value} : Mc (RdI v) v rsI rfI (fun u => 0 ≤ u ∧ u < 256) 900 where
 put := by
  intro n H st C D u ⟨k,d,i,m,t,ver,ver2,Hs,C0,D0,hv,hi,dd,cd,di,gd,hX,hMi,hs,hfr,hC,hD⟩ hn hu
  subst hv hC hD
  have hl := hMi.wt.len Rind_right
  have h2 := hMi.a0
  have h3 := hMi.an
  have h4 := hMi.s0
  have h5 := hMi.sn
  have hsq : ((st.1.1.length : Int) + 1) * ((st.1.1.length : Int) + 1) ≤ 8 * 8 := Int.mul_le_mul (by omega) (by omega) (by omega) (by omega)
  obtain ⟨x,H1,c1,r1,r2,r3,r4,ra,r5,r6⟩ := c_Put (u := u) hX.md.trie hX.md.ms (by omega) (by omega) (by omega)
  obtain ⟨H2,c2,gi1,q1,q2,q3,C',D',q4,q5,q6⟩ := jd_tail (n' := n + 1) (w := st.1.1 ++ [u]) hi dd cd di gd hX hs hfr (by rw [List.length_append,List.length_singleton]; omega) r1 r3 r4 ra r5 r6 (Mi.put Rind_right (u := u) hMi)
  rw [inv_none me_JP]
  refine ⟨x,H2,?_,q1,q2,q3,C',D',q4,q5,q6⟩
  have ci := inv_load (cf := cw Tryz.prog (tabF tab) om1) (args := [.int .i64 u]) me_DP gd
  rw [cw_run (F := F_iscii_Decoder__Put) rfl rfl rfl]
  unfold F_iscii_Decoder__Put k_iscii_Decoder__Put
  simp only [WA,isStore,isCall,isK,freshI,stampO,Nat.reduceEqDiff,Int.reduceEq,Nat.reduceAdd,Nat.reduceMul,reduceCtorEq,Int.reduceLT,Int.reduceLE,Int.reduceToNat,Nat.reduceLeDiff,Int.cast_ofNat_Int,hi,st_inv,ci,c1,c2]
 fin := by
  intro n H st C D ⟨k,d,i,m,t,ver,ver2,Hs,C0,D0,hv,hi,dd,cd,di,gd,hX,hMi,hs,hfr,hC,hD⟩ hn
  subst hv hC hD
  have hl := hMi.wt.len Rind_right
  have h2 := hMi.a0
  have h3 := hMi.an
  have h4 := hMi.s0
  have h5 := hMi.sn
  have hsq : (st.1.1.length : Int) * (st.1.1.length : Int) ≤ 8 * 8 := Int.mul_le_mul (by omega) (by omega) (by omega) (by omega)
  obtain ⟨x,H1,c1,r1,r2,r3,r4,ra,r5,r6⟩ := c_End hX.md.trie hX.md.ms (by omega) (by omega) (by omega)
  obtain ⟨H2,c2,gi1,q1,q2,q3,C',D',q4,q5,q6⟩ := jd_tail (n' := n) (w := st.1.1) hi dd cd di gd hX hs hfr (by omega) r1 r3 r4 ra r5 r6 (Mi.fin Rind_right hMi)
  rw [inv_none me_JE]
  refine ⟨x,H2,?_,q1,q2,q3,C',D',q4,q5,q6⟩
  have ci := inv_load (cf := cw Tryz.prog (tabF tab) om1) (args := []) me_DE gd
  rw [cw_run (F := F_iscii_Decoder__End) rfl rfl rfl]
  unfold F_iscii_Decoder__End k_iscii_Decoder__End
  simp only [WA,isStore,isCall,isK,freshI,stampO,Nat.reduceEqDiff,Int.reduceEq,Nat.reduceAdd,Nat.reduceMul,reduceCtorEq,Int.reduceLT,Int.reduceLE,Int.reduceToNat,Nat.reduceLeDiff,Int.cast_ofNat_Int,hi,st_inv,ci,c1,c2]
 keep := by
  intro n H H' st C D ⟨k,d,i,m,t,ver,ver2,Hs,C0,D0,hv,hi,dd,cd,di,gd,hX,hMi,hs,hfr,hC,hD⟩ hn hk
  subst hD
  exact ⟨k,d,i,m,t,ver,ver2,Hs,C0,D0,hv,by rw [hk i (.inr rfl)]; exact hi,dd,cd,di,by rw [hk d (.inl dd)]; exact gd,hX.keep hn fun j hj => hk j (.inl hj),hMi,hs,fun j hj => by rw [hk j (.inl hj)]; exact hfr j hj,hC,rfl⟩
 lt := by
  intro n H st C D j ⟨k,d,i,m,t,ver,ver2,Hs,C0,D0,hv,hi,dd,cd,di,gd,hX,hMi,hs,hfr,hC,hD⟩ hj
  subst hD
  rcases hj with hj | rfl
  ·exact hX.dl j hj
  ·exact AHeap.lt_of_get hi
 sub := by
  intro n H st C D j ⟨k,d,i,m,t,ver,ver2,Hs,C0,D0,hv,hi,dd,cd,di,gd,hX,hMi,hs,hfr,hC,hD⟩ hj
  subst hC hD
  exact hj.imp (hX.cd j) id
 mono := by
  intro n n' H st C D ⟨k,d,i,m,t,ver,ver2,Hs,C0,D0,hv,hi,dd,cd,di,gd,hX,hMi,hs,hfr,hC,hD⟩ hn
  exact ⟨k,d,i,m,t,ver,ver2,Hs,C0,D0,hv,hi,dd,cd,di,gd,hX,hMi.mono hn,hs,hfr,hC,hD⟩
theorem c_Iall {H : AHeap} : Gives (cw Tryz.prog (tabF tab) om1 71 [] H) fun v H' => Ext H H' ∧ ∃ q,v = .pointer (some ⟨q,0,none⟩) ∧ TableOk H' q Rind := by
 rw [cw_run (F := F_iscii_all) rfl rfl rfl]
 unfold F_iscii_all k_iscii_all
 obtain ⟨v1,H1,c1,x1,r1,k1,q1⟩ := c_IRules (H := H)
 obtain ⟨v2,H2,c2,x2,q,rfl,hT⟩ := c_TOf r1 k1 q1 Rind_right (Nat.le_of_ble_eq_true Rind_len) Rind_cls
 simp only [WA,isStore,isCall,isK,freshI,stampO,Nat.reduceEqDiff,Int.reduceEq,Nat.reduceAdd,Nat.reduceMul,reduceCtorEq,Int.reduceLT,Int.reduceLE,Int.reduceToNat,Nat.reduceLeDiff,Int.cast_ofNat_Int,c1,c2]
 exact ⟨x1.trans x2,q,rfl,hT⟩
theorem v_idec {H : AHeap} {t : TypeId} {d : Nat} : vBuild [.nilIface,.int .i64 0] [(0,1,.iface t (.pointer (some ⟨d,0,none⟩)))] H = some (.agg ⟨[.iface t (.pointer (some ⟨d,0,none⟩)),.int .i64 0]⟩,H) := rfl
theorem c_IDecode {H : AHeap} : Gives (cw Tryz.prog (tabF tab) om1 42 [] H) fun v H' => ∃ i C D,v = .pointer (some ⟨i,0,none⟩) ∧ RdI (.iface 102 (.pointer (some ⟨i,0,none⟩))) 0 H' (([],0,0),0) C D ∧ NewM H H' C D := by
 rw [cw_run (F := F_iscii_Decode) rfl rfl rfl]
 unfold F_iscii_Decode k_iscii_Decode
 obtain ⟨v1,H1,c1,x1,q,rfl,hT⟩ := c_Iall (H := H)
 obtain ⟨v2,H2,c2,x2,hM⟩ := c_MDecode hT
 obtain ⟨d,m,t,ver,rfl,hd,gd,hMD⟩ := hM.md
 obtain ⟨vw,ver2,gm,q2,q3⟩ := hMD.hm
 have hv : vw = .slice none 0 0 := by
  obtain ⟨_,⟨h,_⟩ | ⟨b,ver,anc,_,h,_⟩⟩ := q2
  ·exact h
  ·exact absurd h (by simp)
 subst hv
 obtain ⟨H3,hH3⟩ : ∃ H3,H3 = H2.push ⟨[.iface 139 (.pointer (some ⟨d,0,none⟩)),.int .i64 0],138,.tip,0,[]⟩ := ⟨_,rfl⟩
 have x3 : Ext H2 H3 := by rw [hH3]; exact Ext.push H2 _
 have g3 : H3.get H2.n = some ⟨[.iface 139 (.pointer (some ⟨d,0,none⟩)),.int .i64 0],138,.tip,0,[]⟩ := by rw [hH3]; exact get_push_self
 have hbx : vBox (.agg ⟨[.iface 139 (.pointer (some ⟨d,0,none⟩)),.int .i64 0]⟩) 138 H2 = some (.pointer (some ⟨H2.n,0,none⟩),H3) := by rw [hH3]; exact v_box rfl
 simp only [WA,isStore,isCall,isK,freshI,stampO,Nat.reduceEqDiff,Int.reduceEq,Nat.reduceAdd,Nat.reduceMul,reduceCtorEq,Int.reduceLT,Int.reduceLE,Int.reduceToNat,Nat.reduceLeDiff,Int.cast_ofNat_Int,c1,c2,v_idec,hbx]
 have hdl := AHeap.lt_of_get gd
 have hml := AHeap.lt_of_get gm
 have hdm : d ≠ m := fun e => by
  rw [e,gm] at gd
  injection gd with gd
  injection gd with _ gd
  exact absurd gd (by decide)
 have hkm := hMD.km
 have hkn := hMD.kn
 have x1n := x1.1
 have x2n := x2.1
 have x3n := x3.1
 have gd3 := x3.get gd
 have gm3 := x3.get gm
 have hX : MX H1.n H2 H2 m t Rind [] 0 0 (fun j => j = m) (fun j => j = d ∨ j = m ∨ (j < H1.n ∧ ∃ b,H2.get j = some b ∧ isT b.elem = true)) := ⟨hkn,hkn,hkm,hMD.trie,⟨_,ver2,gm,q2,q3⟩,fun j b hj hb he => ⟨.inr (.inr ⟨hj,b,hb,he⟩),hb⟩,rfl,fun j hj => absurd (NW.of gm (vw := .slice none 0 0) trivial) hj,fun j hj => by have hj : j = m := hj; omega,fun j hj => .inr (.inl hj),fun j hj => by
  rcases hj with rfl | rfl | ⟨hj,_⟩
  ·exact hdl
  ·exact hml
  ·omega⟩
 have hX3 := hX.keep x3.1 fun j hj => x3.2 j (hX.dl j hj)
 refine ⟨H2.n,_,_,rfl,⟨H1.n,d,H2.n,m,t,ver,0,H2,fun j => j = m,_,rfl,g3,.inl rfl,hdm,fun h => by have := hX.dl _ h; omega,gd3,hX3,⟨⟨.inl rfl⟩,by decide,by decide,by decide,by decide⟩,by decide,fun j hj => ?_,rfl,rfl⟩,(x1.trans x2).trans x3,fun j hj => ?_,fun j hj hl b hb => ?_⟩
 ·rcases hj with rfl | rfl | ⟨hj,b,hb,ht⟩
  ·exact ⟨_,gd3,by simp only; decide⟩
  ·exact ⟨_,gm3,by simp only; decide⟩
  ·exact ⟨b,x3.get hb,fun e => by rw [e] at ht; exact absurd ht (by decide)⟩
 ·rcases hj with hj | rfl
  ·have hj : j = m := hj
   subst hj
   exact ⟨by omega,_,gm3,by simp only; decide⟩
  ·exact ⟨by omega,_,g3,by simp only; decide⟩
 ·rcases hj with (rfl | rfl | ⟨_,b',hb',ht⟩) | rfl
  ·omega
  ·omega
  ·rw [x3.get hb'] at hb
   injection hb with hb
   subst hb
   exact isF_T ht
  ·omega
theorem mk_I {H : AHeap} : Gives (cw Tryz.prog (tabF tab) om1 18 [.string (nm 7)] H) fun v H' => ∃ rv C D,v = .tuple ⟨[rv,.int .i64 0]⟩ ∧ one rv = true ∧ RdI rv 0 H' (([],0,0),0) C D ∧ NewM H H' C D := by
 rw [cw_run (F := F_codec_Decode) rfl rfl rfl]
 unfold F_codec_Decode k_codec_Decode
 have hn := c_Name (H := H) (k := 7) (by omega)
 have e0 := e_utf 7 (by omega)
 have e7 := e_iscii 7 (by omega)
 rw [show Nat.beq 7 0 = false from rfl] at e0
 rw [show Nat.beq 7 7 = true from rfl] at e7
 obtain ⟨v1,H1,c1,i,C,D,rfl,q1,q2⟩ := c_IDecode (H := H)
 have z0 : ((0 : Int) ≠ 0) = False := by simp
 simp only [WA,isStore,isCall,isK,freshI,stampO,Nat.reduceEqDiff,Int.reduceEq,Nat.reduceAdd,Nat.reduceMul,reduceCtorEq,Int.reduceLT,Int.reduceLE,Int.reduceToNat,Nat.reduceLeDiff,Int.cast_ofNat_Int,hn,z0,st_bin gS,e0,e7,c1]
 exact ⟨_,C,D,rfl,rfl,q1,q2⟩
theorem og_at {l : List Int} {n r k : Nat} {s lo hi u : Int} (h : l[k]? = some u) (h1 : lo ≤ u) (h2 : u ≤ hi) : oneG l n (r + 1) s lo hi k = oneG l n r (s * 64 + u % 64) 128 191 (k + 1) := by
 conv => lhs; unfold oneG
 rw [h]
 simp only
 rw [if_neg (by omega)]
theorem og_inv {l : List Int} {n r k : Nat} {s lo hi : Int} (h : (oneG l n (r + 1) s lo hi k).2.2 = 0) : ∃ u,l[k]? = some u ∧ lo ≤ u ∧ u ≤ hi ∧ oneG l n (r + 1) s lo hi k = oneG l n r (s * 64 + u % 64) 128 191 (k + 1) := by
 cases hu : l[k]? with
 | none =>
  unfold oneG at h
  rw [hu] at h
  cases h
 | some u =>
  by_cases hc : u < lo ∨ u > hi
  ·unfold oneG at h
   rw [hu] at h
   simp only at h
   rw [if_pos hc] at h
   cases h
  ·exact ⟨u,rfl,by omega,by omega,og_at hu (by omega) (by omega)⟩
theorem of_at {c : Int} {l : List Int} {n : Nat} {s lo hi : Int} (h : ldF c = (((n + 1 : Nat) : Int),s,lo,hi)) : oneF (c :: l) = oneG (c :: l) (n + 1) n s lo hi 1 := by
 unfold oneF
 simp only [h]
 rw [if_neg (by omega),Int.toNat_natCast]
 rfl
theorem one_utf {s : Int} (h : okS s) (r : List Int) : oneF (utfB s ++ r) = (s,(((utfB s).length : Nat) : Int),0) := by
 obtain ⟨h1,h2,h3⟩ := h
 unfold utfB
 by_cases k1 : s < 128
 ·rw [if_pos k1,List.cons_append,of_at (n := 0) (s := s) (lo := 128) (hi := 191) (by unfold ldF; rw [if_pos k1]; rfl)]
  rfl
 rw [if_neg k1]
 by_cases k2 : s < 2048
 ·rw [if_pos k2,List.cons_append,of_at (n := 1) (s := s / 64) (lo := 128) (hi := 191) (by
   unfold ldF
   rw [if_neg (by omega),if_neg (by omega),if_pos (by omega)]
   have : (192 + s / 64) % 32 = s / 64 := by omega
   rw [this]; rfl),og_at (u := 128 + s % 64) rfl (by omega) (by omega)]
  show (s / 64 * 64 + (128 + s % 64) % 64,((2 : Nat) : Int),(0 : Int)) = _
  congr 1
  omega
 rw [if_neg k2]
 by_cases k3 : s < 65536
 ·rw [if_pos k3,List.cons_append]
  have e : ∃ lo hi,ldF (224 + s / 4096) = (((2 + 1 : Nat) : Int),s / 4096,lo,hi) ∧ lo ≤ 128 + s / 64 % 64 ∧ 128 + s / 64 % 64 ≤ hi := by
   unfold ldF
   rw [if_neg (by omega),if_neg (by omega),if_neg (by omega)]
   by_cases c1 : 224 + s / 4096 = 224
   ·rw [if_pos c1]
    exact ⟨160,191,by rw [show s / 4096 = 0 by omega]; rfl,by omega,by omega⟩
   rw [if_neg c1]
   by_cases c2 : 224 + s / 4096 = 237
   ·rw [if_pos c2]
    exact ⟨128,159,by rw [show s / 4096 = 13 by omega]; rfl,by omega,by omega⟩
   rw [if_neg c2,if_pos (by omega)]
   exact ⟨128,191,by rw [show (224 + s / 4096) % 16 = s / 4096 by omega]; rfl,by omega,by omega⟩
  obtain ⟨lo,hi,e1,e2,e3⟩ := e
  rw [of_at (n := 2) e1,og_at (u := 128 + s / 64 % 64) rfl e2 e3,og_at (u := 128 + s % 64) rfl (by omega) (by omega)]
  show ((s / 4096 * 64 + (128 + s / 64 % 64) % 64) * 64 + (128 + s % 64) % 64,((3 : Nat) : Int),(0 : Int)) = _
  congr 1
  omega
 rw [if_neg k3,List.cons_append]
 have e : ∃ lo hi,ldF (240 + s / 262144) = (((3 + 1 : Nat) : Int),s / 262144,lo,hi) ∧ lo ≤ 128 + s / 4096 % 64 ∧ 128 + s / 4096 % 64 ≤ hi := by
  unfold ldF
  rw [if_neg (by omega),if_neg (by omega),if_neg (by omega),if_neg (by omega),if_neg (by omega),if_neg (by omega)]
  by_cases c1 : 240 + s / 262144 = 240
  ·rw [if_pos c1]
   exact ⟨144,191,by rw [show s / 262144 = 0 by omega]; rfl,by omega,by omega⟩
  rw [if_neg c1]
  by_cases c2 : 240 + s / 262144 = 244
  ·rw [if_pos c2]
   exact ⟨128,143,by rw [show s / 262144 = 4 by omega]; rfl,by omega,by omega⟩
  rw [if_neg c2]
  exact ⟨128,191,by rw [show (240 + s / 262144) % 8 = s / 262144 by omega]; rfl,by omega,by omega⟩
 obtain ⟨lo,hi,e1,e2,e3⟩ := e
 rw [of_at (n := 3) e1,og_at (u := 128 + s / 4096 % 64) rfl e2 e3,og_at (u := 128 + s / 64 % 64) rfl (by omega) (by omega),og_at (u := 128 + s % 64) rfl (by omega) (by omega)]
 show (((s / 262144 * 64 + (128 + s / 4096 % 64) % 64) * 64 + (128 + s / 64 % 64) % 64) * 64 + (128 + s % 64) % 64,((4 : Nat) : Int),(0 : Int)) = _
 congr 1
 omega
theorem one_sound {w : List Int} (hb : ∀ u ∈ w,0 ≤ u ∧ u < 256) (h : (oneF w).2.2 = 0) : okS (oneF w).1 ∧ utfB (oneF w).1 = w.take (oneF w).2.1.toNat := by
 cases w with
 | nil => cases h
 | cons c l =>
  obtain ⟨c0,c1⟩ := hb c (List.mem_cons_self ..)
  have one : ∀ {s lo hi : Int},ldF c = (((0 + 1 : Nat) : Int),s,lo,hi) → oneF (c :: l) = (s,((1 : Nat) : Int),0) := fun {s lo hi} e => by rw [of_at (n := 0) e]; rfl
  have two : ∀ {s lo hi : Int},ldF c = (((1 + 1 : Nat) : Int),s,lo,hi) → ∃ u,l[0]? = some u ∧ lo ≤ u ∧ u ≤ hi ∧ oneF (c :: l) = (s * 64 + u % 64,((2 : Nat) : Int),0) := fun {s lo hi} e => by
   rw [of_at (n := 1) e] at h ⊢
   obtain ⟨u,a1,a2,a3,a4⟩ := og_inv h
   exact ⟨u,a1,a2,a3,a4⟩
  have three : ∀ {s lo hi : Int},ldF c = (((2 + 1 : Nat) : Int),s,lo,hi) → ∃ u v,l[0]? = some u ∧ l[1]? = some v ∧ lo ≤ u ∧ u ≤ hi ∧ 128 ≤ v ∧ v ≤ 191 ∧ oneF (c :: l) = ((s * 64 + u % 64) * 64 + v % 64,((3 : Nat) : Int),0) := fun {s lo hi} e => by
   rw [of_at (n := 2) e] at h ⊢
   obtain ⟨u,a1,a2,a3,a4⟩ := og_inv h
   rw [a4] at h ⊢
   obtain ⟨v,b1,b2,b3,b4⟩ := og_inv h
   exact ⟨u,v,a1,b1,a2,a3,b2,b3,b4⟩
  have four : ∀ {s lo hi : Int},ldF c = (((3 + 1 : Nat) : Int),s,lo,hi) → ∃ u v x,l[0]? = some u ∧ l[1]? = some v ∧ l[2]? = some x ∧ lo ≤ u ∧ u ≤ hi ∧ 128 ≤ v ∧ v ≤ 191 ∧ 128 ≤ x ∧ x ≤ 191 ∧ oneF (c :: l) = (((s * 64 + u % 64) * 64 + v % 64) * 64 + x % 64,((4 : Nat) : Int),0) := fun {s lo hi} e => by
   rw [of_at (n := 3) e] at h ⊢
   obtain ⟨u,a1,a2,a3,a4⟩ := og_inv h
   rw [a4] at h ⊢
   obtain ⟨v,b1,b2,b3,b4⟩ := og_inv h
   rw [b4] at h ⊢
   obtain ⟨x,d1,d2,d3,d4⟩ := og_inv h
   exact ⟨u,v,x,a1,b1,d1,a2,a3,b2,b3,d2,d3,d4⟩
  have t2 : ∀ {u : Int},l[0]? = some u → (c :: l).take 2 = [c,u] := fun {u} e => by
   cases l with
   | nil => cases e
   | cons a l => injection e with e; subst e; rfl
  have t3 : ∀ {u v : Int},l[0]? = some u → l[1]? = some v → (c :: l).take 3 = [c,u,v] := fun {u v} e e2 => by
   cases l with
   | nil => cases e
   | cons a l =>
    injection e with e
    subst e
    cases l with
    | nil => cases e2
    | cons b l => injection e2 with e2; subst e2; rfl
  have t4 : ∀ {u v x : Int},l[0]? = some u → l[1]? = some v → l[2]? = some x → (c :: l).take 4 = [c,u,v,x] := fun {u v x} e e2 e3 => by
   cases l with
   | nil => cases e
   | cons a l =>
    injection e with e
    subst e
    cases l with
    | nil => cases e2
    | cons b l =>
     injection e2 with e2
     subst e2
     cases l with
     | nil => cases e3
     | cons d l => injection e3 with e3; subst e3; rfl
  by_cases q1 : c < 128
  ·rw [one (s := c) (lo := 128) (hi := 191) (by unfold ldF; rw [if_pos q1]; rfl)]
   refine ⟨⟨c0,by simp only; omega,.inl (by simp only; omega)⟩,?_⟩
   unfold utfB
   rw [if_pos q1]
   rfl
  by_cases q2 : c < 194 ∨ c > 244
  ·exfalso
   have : ldF c = (0,0,128,191) := by unfold ldF; rw [if_neg q1,if_pos q2]
   have h9 : oneF (c :: l) = (0,1,1) := by
    unfold oneF
    simp only [this]
    rfl
   rw [h9] at h
   cases h
  by_cases q3 : c < 224
  ·obtain ⟨u,e1,e2,e3,e4⟩ := two (s := c % 32) (lo := 128) (hi := 191) (by unfold ldF; rw [if_neg q1,if_neg q2,if_pos q3]; rfl)
   rw [e4]
   refine ⟨⟨by simp only; omega,by simp only; omega,.inl (by simp only; omega)⟩,?_⟩
   simp only [Int.toNat_natCast]
   rw [t2 e1]
   unfold utfB
   rw [if_neg (by omega),if_pos (by omega)]
   congr 1
   ·omega
   ·congr 1
    omega
  have tri : ∀ {s lo hi : Int},ldF c = (((2 + 1 : Nat) : Int),s,lo,hi) → c = 224 + s → 0 ≤ s ∧ s < 16 → 128 ≤ lo → hi ≤ 191 → (s = 0 → 160 ≤ lo) → (s = 13 → hi ≤ 159) → okS (oneF (c :: l)).1 ∧ utfB (oneF (c :: l)).1 = (c :: l).take (oneF (c :: l)).2.1.toNat := fun {s lo hi} e hc hs h1 h2 h3 h4 => by
   obtain ⟨u,v,e1,e2,e3,e4,e5,e6,e7⟩ := three e
   rw [e7]
   have g0 : (s * 64 + u % 64) * 64 + v % 64 = s * 4096 + (u - 128) * 64 + (v - 128) := by omega
   have g1 : 2048 ≤ s * 4096 + (u - 128) * 64 + (v - 128) := by
    by_cases hs0 : s = 0
    ·have := h3 hs0; omega
    ·omega
   have g2 : s * 4096 + (u - 128) * 64 + (v - 128) < 55296 ∨ s * 4096 + (u - 128) * 64 + (v - 128) > 57343 := by
    by_cases hs0 : s = 13
    ·have := h4 hs0; omega
    ·omega
   refine ⟨⟨by simp only; omega,by simp only; omega,by simp only; omega⟩,?_⟩
   simp only [Int.toNat_natCast]
   rw [t3 e1 e2,g0]
   unfold utfB
   rw [if_neg (by omega),if_neg (by omega),if_pos (by omega)]
   congr 1
   ·omega
   ·congr 1
    ·omega
    ·congr 1
     omega
  have qua : ∀ {s lo hi : Int},ldF c = (((3 + 1 : Nat) : Int),s,lo,hi) → c = 240 + s → 0 ≤ s ∧ s < 5 → 128 ≤ lo → hi ≤ 191 → (s = 0 → 144 ≤ lo) → (s = 4 → hi ≤ 143) → okS (oneF (c :: l)).1 ∧ utfB (oneF (c :: l)).1 = (c :: l).take (oneF (c :: l)).2.1.toNat := fun {s lo hi} e hc hs h1 h2 h3 h4 => by
   obtain ⟨u,v,x,e1,e2,e8,e3,e4,e5,e6,e9,e10,e7⟩ := four e
   rw [e7]
   have g0 : ((s * 64 + u % 64) * 64 + v % 64) * 64 + x % 64 = s * 262144 + (u - 128) * 4096 + (v - 128) * 64 + (x - 128) := by omega
   have g1 : 65536 ≤ s * 262144 + (u - 128) * 4096 + (v - 128) * 64 + (x - 128) := by
    by_cases hs0 : s = 0
    ·have := h3 hs0; omega
    ·omega
   have g2 : s * 262144 + (u - 128) * 4096 + (v - 128) * 64 + (x - 128) ≤ 1114111 := by
    by_cases hs0 : s = 4
    ·have := h4 hs0; omega
    ·omega
   refine ⟨⟨by simp only; omega,by simp only; omega,by simp only; omega⟩,?_⟩
   simp only [Int.toNat_natCast]
   rw [t4 e1 e2 e8,g0]
   unfold utfB
   rw [if_neg (by omega),if_neg (by omega),if_neg (by omega)]
   congr 1
   ·omega
   ·congr 1
    ·omega
    ·congr 1
     ·omega
     ·congr 1
      omega
  by_cases q4 : c = 224
  ·exact tri (s := 0) (lo := 160) (hi := 191) (by unfold ldF; rw [if_neg q1,if_neg q2,if_neg q3,if_pos q4]; rfl) (by omega) (by omega) (by omega) (by omega) (fun _ => by omega) (fun h => by omega)
  by_cases q5 : c = 237
  ·exact tri (s := 13) (lo := 128) (hi := 159) (by unfold ldF; rw [if_neg q1,if_neg q2,if_neg q3,if_neg q4,if_pos q5]; rfl) (by omega) (by omega) (by omega) (by omega) (fun _ => by omega) (fun h => by omega)
  by_cases q6 : c < 240
  ·exact tri (s := c % 16) (lo := 128) (hi := 191) (by unfold ldF; rw [if_neg q1,if_neg q2,if_neg q3,if_neg q4,if_neg q5,if_pos q6]; rfl) (by omega) (by omega) (by omega) (by omega) (fun h => by omega) (fun h => by omega)
  by_cases q7 : c = 240
  ·exact qua (s := 0) (lo := 144) (hi := 191) (by unfold ldF; rw [if_neg q1,if_neg q2,if_neg q3,if_neg q4,if_neg q5,if_neg q6,if_pos q7]; rfl) (by omega) (by omega) (by omega) (by omega) (fun _ => by omega) (fun h => by omega)
  by_cases q8 : c = 244
  ·exact qua (s := 4) (lo := 128) (hi := 143) (by unfold ldF; rw [if_neg q1,if_neg q2,if_neg q3,if_neg q4,if_neg q5,if_neg q6,if_neg q7,if_pos q8]; rfl) (by omega) (by omega) (by omega) (by omega) (fun h => by omega) (fun _ => by omega)
  ·exact qua (s := c % 8) (lo := 128) (hi := 191) (by unfold ldF; rw [if_neg q1,if_neg q2,if_neg q3,if_neg q4,if_neg q5,if_neg q6,if_neg q7,if_neg q8]; rfl) (by omega) (by omega) (by omega) (by omega) (fun h => by omega) (fun h => by omega)
def ub (us : List Int) : List Int := us.flatMap utfB
theorem ub_app {a b : List Int} : ub (a ++ b) = ub a ++ ub b := List.flatMap_append ..
theorem ub_cons {u : Int} {us : List Int} : ub (u :: us) = utfB u ++ ub us := List.flatMap_cons ..
def sF : List Tok → List Int × FT
 | [] => ([],(0,0,0))
 | x :: T => if x.err ≠ 0 then ([],(1,x.at_,x.err)) else (ub x.out ++ (sF T).1,(sF T).2)
theorem sF_ok {x : Tok} {T : List Tok} (h : x.err = 0) : sF (x :: T) = (ub x.out ++ (sF T).1,(sF T).2) := by conv => lhs; unfold sF; rw [if_neg (fun h2 => h2 h)]
theorem sF_bad {x : Tok} {T : List Tok} (h : x.err ≠ 0) : sF (x :: T) = ([],(1,x.at_,x.err)) := by unfold sF; rw [if_pos h]
def oT (pol : Int) (T : List Tok) : List Int := T.flatMap (outOf pol)
def gF (pol : Int) (T : List Tok) : List Int × FT := if pol = 0 then sF T else (ub (oT pol T),(0,0,0))
theorem wr_S {pol a u : Int} {y : List Int × FT} (h : y.2.2.2 = 0) : wrF pol (wrS a u).1 y = (y.1 ++ utfB u,y.2) := by
 unfold wrS wrF
 rw [if_neg (fun h2 => h2 h),if_pos rfl]
 rfl
theorem pt_S {pol : Int} : ∀ (us : List Int) (a : Int) (y : List Int × FT),y.2.2.2 = 0 → ptF pol wrS us (a,y) = (a + us.length,(y.1 ++ ub us,y.2))
 | [],a,y,h => by
  unfold ptF ub
  simp
 | u :: us,a,y,h => by
  unfold ptF
  rw [if_pos h]
  show ptF pol wrS us (a + 1,wrF pol (wrS a u).1 y) = _
  rw [wr_S h,pt_S us (a + 1) (y.1 ++ utfB u,y.2) h,ub_cons,List.append_assoc,List.length_cons]
  congr 1
  push_cast
  omega
theorem tk_S {pol : Int} (hp : pol ≠ 0) : ∀ (T : List Tok) (a : Int) (y : List Int × FT),y.2.2.2 = 0 → ∃ a',tkF pol wrS wfS T (a,y) = (a',(y.1 ++ ub (oT pol T),y.2))
 | [],a,y,h => ⟨a,by unfold tkF oT ub; simp⟩
 | x :: T,a,y,h => by
  unfold tkF
  rw [if_neg (fun h2 => hp h2.2.2),pt_S _ _ _ h]
  obtain ⟨a',e⟩ := tk_S hp T (a + ((outOf pol x).length : Nat)) (y.1 ++ ub (outOf pol x),y.2) h
  refine ⟨a',?_⟩
  rw [e]
  unfold oT
  rw [List.flatMap_cons,ub_app,List.append_assoc]
theorem tk_S0 : ∀ (T : List Tok) (a : Int) (l : List Int),∃ a',tkF 0 wrS wfS T (a,(l,(0,0,0))) = (a',(l ++ (sF T).1,(sF T).2))
 | [],a,l => ⟨a,by unfold tkF sF; simp⟩
 | x :: T,a,l => by
  unfold tkF sF
  rw [pt_S _ _ _ rfl]
  by_cases hx : x.err = 0
  ·rw [if_neg (fun h2 => h2.1 hx),if_neg (fun h2 => h2 hx)]
   have ho : outOf 0 x = x.out := by unfold outOf; rw [if_pos hx]
   rw [ho]
   obtain ⟨a',e⟩ := tk_S0 T (a + (x.out.length : Nat)) (l ++ ub x.out)
   refine ⟨a',?_⟩
   rw [e,List.append_assoc]
  ·have ho : outOf 0 x = [] := by unfold outOf; rw [if_neg hx,if_neg (by decide)]
   rw [ho,if_pos ⟨hx,rfl,rfl⟩,if_pos hx]
   refine ⟨a,?_⟩
   unfold lfF wfS wrF ub
   simp
theorem sF_err : ∀ (T : List Tok),(sF T).2.2.2 = 0 → (sF T).2 = (0,0,0)
 | [],_ => rfl
 | x :: T,h => by
  unfold sF at h ⊢
  by_cases hx : x.err = 0
  ·rw [if_neg (fun h2 => h2 hx)] at h ⊢
   exact sF_err T h
  ·rw [if_pos hx] at h
   exact absurd h hx
theorem sF_app : ∀ (S T : List Tok),sF (S ++ T) = if (sF S).2.2.2 = 0 then ((sF S).1 ++ (sF T).1,(sF T).2) else sF S
 | [],T => by simp [sF]
 | x :: S,T => by
  rw [List.cons_append]
  by_cases hx : x.err = 0
  ·rw [sF_ok hx,sF_ok hx,sF_app S T]
   by_cases hz : (sF S).2.2.2 = 0
   ·rw [if_pos hz,if_pos hz,List.append_assoc]
   ·rw [if_neg hz,if_neg hz]
  ·rw [sF_bad hx,sF_bad hx,if_neg hx]
section
variable {ρ : Type} {rs : ρ → Int → List Tok × ρ} {rf : ρ → List Tok × ρ}
def fdR (rs : ρ → Int → List Tok × ρ) : List Int → ρ → List Tok × ρ
 | [],r => ([],r)
 | u :: us,r => ((rs r u).1 ++ (fdR rs us (rs r u).2).1,(fdR rs us (rs r u).2).2)
theorem fdR_cons {u : Int} {us : List Int} {r : ρ} : fdR rs (u :: us) r = ((rs r u).1 ++ (fdR rs us (rs r u).2).1,(fdR rs us (rs r u).2).2) := rfl
def dcT (rs : ρ → Int → List Tok × ρ) (rf : ρ → List Tok × ρ) (xs : List Int) (r : ρ) : List Tok := (fdR rs xs r).1 ++ (rf (fdR rs xs r).2).1
theorem al_S {pol : Int} (hp : pol ≠ 0) : ∀ (xs : List Int) (r : ρ) (a : Int) (l : List Int),∃ a',alF pol rs wrS wfS xs r (a,(l,(0,0,0))) = ((fdR rs xs r).2,(a',(l ++ ub (oT pol (fdR rs xs r).1),(0,0,0))))
 | [],r,a,l => ⟨a,by unfold alF fdR oT ub; simp⟩
 | u :: us,r,a,l => by
  obtain ⟨a1,e1⟩ := tk_S hp (rs r u).1 a (l,(0,0,0)) rfl
  unfold alF
  rw [e1,if_neg (fun h => h rfl)]
  obtain ⟨a2,e2⟩ := al_S hp us (rs r u).2 a1 (l ++ ub (oT pol (rs r u).1))
  refine ⟨a2,?_⟩
  simp only
  rw [e2,fdR_cons]
  unfold oT
  rw [List.flatMap_append,ub_app,List.append_assoc]
theorem al_S0 : ∀ (xs : List Int) (r : ρ) (a : Int) (l : List Int),∃ a' r',alF 0 rs wrS wfS xs r (a,(l,(0,0,0))) = (r',(a',(l ++ (sF (fdR rs xs r).1).1,(sF (fdR rs xs r).1).2))) ∧ ((sF (fdR rs xs r).1).2.2.2 = 0 → r' = (fdR rs xs r).2)
 | [],r,a,l => ⟨a,r,by unfold alF fdR sF; simp,fun _ => rfl⟩
 | u :: us,r,a,l => by
  obtain ⟨a1,e1⟩ := tk_S0 (rs r u).1 a l
  rw [fdR_cons]
  unfold alF
  rw [e1]
  simp only
  rw [sF_app]
  by_cases hz : (sF (rs r u).1).2.2.2 = 0
  ·rw [if_neg (fun h => h hz),if_pos hz]
   have hz2 := sF_err _ hz
   rw [hz2]
   obtain ⟨a2,r2,e2,e3⟩ := al_S0 us (rs r u).2 a1 (l ++ (sF (rs r u).1).1)
   refine ⟨a2,r2,?_,e3⟩
   rw [e2,List.append_assoc]
  ·rw [if_pos hz,if_neg hz]
   exact ⟨a1,_,rfl,fun h => absurd h hz⟩
theorem sa_S {pol : Int} {xs : List Int} {r : ρ} : saF pol rs rf wrS wfS xs r 0 = gF pol (dcT rs rf xs r) := by
 unfold saF gF dcT
 by_cases hp : pol = 0
 ·subst hp
  rw [if_pos rfl]
  obtain ⟨a,r',e,e2⟩ := al_S0 (rs := rs) xs r 0 []
  rw [e,sF_app]
  simp only [List.nil_append]
  by_cases hz : (sF (fdR rs xs r).1).2.2.2 = 0
  ·rw [if_neg (fun h => h hz),if_pos hz,e2 hz,sF_err _ hz]
   unfold enF
   obtain ⟨a2,e3⟩ := tk_S0 (rf (fdR rs xs r).2).1 a (sF (fdR rs xs r).1).1
   simp only
   rw [e3]
   simp only
   split
   ·unfold wfS wrF
    rfl
   ·rfl
  ·rw [if_pos hz,if_neg hz]
 ·rw [if_neg hp]
  obtain ⟨a,e⟩ := al_S (rs := rs) hp xs r 0 []
  rw [e]
  simp only [List.nil_append]
  rw [if_neg (fun h => h rfl)]
  unfold enF
  obtain ⟨a2,e3⟩ := tk_S hp (rf (fdR rs xs r).2).1 a (ub (oT pol (fdR rs xs r).1),(0,0,0)) rfl
  simp only
  rw [e3]
  simp only
  rw [if_pos trivial]
  unfold wfS wrF oT
  rw [List.flatMap_append,ub_app]
end
theorem okS_bad : okS 65533 := ⟨by decide,by decide,.inr (by decide)⟩
theorem outOf_ok {pol : Int} {x : Tok} (h : x.err = 0 → ∀ u ∈ x.out,okS u) : ∀ u ∈ outOf pol x,okS u := fun u hu => by
 unfold outOf at hu
 split at hu
 ·rename_i he
  exact h he u hu
 ·split at hu
  ·rw [List.mem_singleton.1 hu]; exact okS_bad
  ·exact absurd hu (by simp)
theorem outOf_len {pol : Int} {x : Tok} (h : x.out.length ≤ 8) : (outOf pol x).length ≤ 8 := by
 unfold outOf
 split
 ·exact h
 ·split <;> simp
theorem cnt_le {pol : Int} : ∀ (T : List Tok),(∀ x ∈ T,x.out.length ≤ 8) → cnt pol T ≤ 8 * T.length
 | [],_ => by simp [cnt]
 | x :: T,h => by
  rw [cnt_cons,List.length_cons]
  have h1 := outOf_len (pol := pol) (h x (List.mem_cons_self ..))
  have h2 := cnt_le (pol := pol) T fun y hy => h y (List.mem_cons_of_mem _ hy)
  omega
theorem rg_of {pol : Int} {T : List Tok} (h1 : ∀ x ∈ T,x.err = 0 → ∀ u ∈ x.out,okS u) (h2 : ∀ x ∈ T,x.out.length ≤ 8) (h3 : T.length ≤ 8) : (∀ x ∈ T,∀ v ∈ outOf pol x,okS v) ∧ (∀ x ∈ T,x.out.length < 1000) ∧ cnt pol T ≤ 100 := by
 have := cnt_le (pol := pol) T h2
 exact ⟨fun x hx => outOf_ok (h1 x hx),fun x hx => by have := h2 x hx; omega,by omega⟩
theorem takeF_tok {L : List Rl} (hR : Right L) {e : Bool} {w : List Int} {a st : Int} (hok : ∀ r ∈ L,∀ u ∈ r.2,okS u) : (∀ x ∈ (takeW L e w a st).1,x.err = 0 → ∀ u ∈ x.out,okS u) ∧ (∀ x ∈ (takeW L e w a st).1,x.out.length ≤ 8) ∧ (takeW L e w a st).1.length ≤ w.length := by
 obtain ⟨n,n1,_,_,_,_,n6,_⟩ := takeF_bd hR (e := e) w.length w a st
 refine ⟨fun x hx he u hu => ?_,fun x hx => ?_,Nat.le_trans n6 n1⟩
 ·rcases takeF_mem hR w.length w a st x hx with ⟨h,_⟩ | ⟨_,_,r,hr,h⟩
  ·rw [he] at h; cases h
  ·rw [h] at hu; exact hok r hr u hu
 ·rcases takeF_mem hR w.length w a st x hx with ⟨_,h⟩ | ⟨_,h,_⟩
  ·rw [h]; simp
  ·exact h
theorem rg_T {L : List Rl} (hR : Right L) (hok : ∀ r ∈ L,∀ u ∈ r.2,okS u) {pol : Int} {v : Value} : Rg (RdM L v) (rdS L) (rdF L) pol okS where
 good := by
  intro n H r C D u ⟨k,d,m,t,ver,Hs,hv,dd,cd,gd,hX,hi⟩ hu
  have hl := hi.wt.len hR
  obtain ⟨h1,h2,h3⟩ := takeF_tok hR (e := false) (w := r.1 ++ [u]) (a := r.2.1) (st := r.2.2) hok
  rw [List.length_append,List.length_singleton] at h3
  exact rg_of h1 h2 (by show (takeW L false (r.1 ++ [u]) r.2.1 r.2.2).1.length ≤ 8; omega)
 goodf := by
  intro n H r C D ⟨k,d,m,t,ver,Hs,hv,dd,cd,gd,hX,hi⟩
  have hl := hi.wt.len hR
  obtain ⟨h1,h2,h3⟩ := takeF_tok hR (e := true) (w := r.1) (a := r.2.1) (st := r.2.2) hok
  exact rg_of h1 h2 (by show (takeW L true r.1 r.2.1 r.2.2).1.length ≤ 8; omega)
theorem lpF_ok : ∀ (c : Nat) (w : List Int) (a : Int),(∀ u ∈ w,0 ≤ u ∧ u < 256) → ∀ x ∈ (lpF c w a).1,x.err = 0 → ∀ u ∈ x.out,okS u
 | 0,w,a,hb,x,hx => absurd hx (by unfold lpF; simp)
 | c + 1,w,a,hb,x,hx => by
  unfold lpF at hx
  by_cases hne : w = []
  ·rw [if_pos hne] at hx
   exact absurd hx (by simp)
  rw [if_neg hne] at hx
  by_cases h2 : (oneF w).2.2 = 2
  ·rw [if_pos h2] at hx
   exact absurd hx (by simp)
  rw [if_neg h2] at hx
  rcases List.mem_cons.1 hx with rfl | hx
  ·intro he u hu
   have he : (oneF w).2.2 = 0 := he
   unfold rtT at hu
   simp only at hu
   rw [if_pos he] at hu
   rw [List.mem_singleton.1 hu]
   exact (one_sound hb he).1
  ·exact lpF_ok c _ _ (fun u hu => hb u (List.mem_of_mem_drop hu)) x hx
theorem rg_B {pol : Int} {v : Value} : Rg (RdB v) rbS rbF pol okS where
 good := by
  intro n H st C D u ⟨r,vw,hv,h,hi,hC,hD⟩ hu
  have hl := hi.len
  have hb : ∀ x ∈ st.1 ++ [u],0 ≤ x ∧ x < 256 := fun x hx => by
   rcases List.mem_append.1 hx with hx | hx
   ·exact hi.by_ x hx
   ·rw [List.mem_singleton.1 hx]; exact hu
  obtain ⟨_,_,_,_,i5,i6⟩ := lpF_inv (st.1.length + 1) (st.1 ++ [u]) st.2 (by simp) hb
  rw [List.length_append,List.length_singleton] at i5
  exact rg_of (lpF_ok _ _ _ hb) (fun x hx => by have := i6 x hx; omega) (by show (lpF (st.1.length + 1) (st.1 ++ [u]) st.2).1.length ≤ 8; omega)
 goodf := by
  intro n H st C D ⟨r,vw,hv,h,hi,hC,hD⟩
  unfold rbF
  split
  ·exact rg_of (fun x hx => absurd hx (by simp)) (fun x hx => absurd hx (by simp)) (by simp)
  ·refine rg_of (fun x hx he => ?_) (fun x hx => ?_) (by simp)
   ·rw [List.mem_singleton.1 hx] at he
    cases he
   ·rw [List.mem_singleton.1 hx]
    unfold rtT
    simp
theorem mnT_out : ∀ (T : List Tok) (scr : Int),(∀ x ∈ T,x.out.length ≤ 8) → ∀ x ∈ (mnT scr T).1,x.out.length ≤ 8
 | [],scr,_,x,hx => absurd hx (by unfold mnT; simp)
 | y :: T,scr,h,x,hx => by
  unfold mnT at hx
  rcases List.mem_cons.1 hx with rfl | hx
  ·have := mnU_len y.out scr []
   have := h y (List.mem_cons_self ..)
   simp only [List.length_nil] at *
   omega
  ·exact mnT_out T _ (fun z hz => h z (List.mem_cons_of_mem _ hz)) x hx
theorem rg_J {pol : Int} {scr : Int} {e : Bool} {w : List Int} {a st : Int} (hw : w.length ≤ 8) (hs : 0 ≤ scr ∧ scr < 9) : (∀ x ∈ (mnT scr (takeW Rind e w a st).1).1,∀ v ∈ outOf pol x,okS v) ∧ (∀ x ∈ (mnT scr (takeW Rind e w a st).1).1,x.out.length < 1000) ∧ cnt pol (mnT scr (takeW Rind e w a st).1).1 ≤ 100 := by
 obtain ⟨n,n1,_,_,_,_,n6,_⟩ := takeF_bd Rind_right (e := e) w.length w a st
 have n6 : (takeW Rind e w a st).1.length ≤ n := n6
 refine rg_of (fun x hx _ => (mnT_okS _ scr (fun y hy => tok_okP y hy) hs).2 x hx) (mnT_out _ scr fun x hx => ?_) (by rw [mnT_len]; omega)
 rcases takeF_mem Rind_right w.length w a st x hx with ⟨_,h⟩ | ⟨_,h,_⟩
 ·rw [h]; simp
 ·exact h
theorem rg_I {pol : Int} {v : Value} : Rg (RdI v) rsI rfI pol okS where
 good := by
  intro n H st C D u ⟨k,d,i,m,t,ver,ver2,Hs,C0,D0,hv,hi,dd,cd,di,gd,hX,hMi,hs,hfr,hC,hD⟩ hu
  have hl := hMi.wt.len Rind_right
  exact rg_J (e := false) (w := st.1.1 ++ [u]) (by rw [List.length_append,List.length_singleton]; omega) hs
 goodf := by
  intro n H st C D ⟨k,d,i,m,t,ver,ver2,Hs,C0,D0,hv,hi,dd,cd,di,gd,hX,hMi,hs,hfr,hC,hD⟩
  have hl := hMi.wt.len Rind_right
  exact rg_J (e := true) (w := st.1.1) (by omega) hs
theorem c_ToU {ρ : Type} {R : Value → Nat → AHeap → ρ → NS → NS → Prop} {rs : ρ → Int → List Tok × ρ} {rf : ρ → List Tok × ρ} {r0 : ρ} {k : Nat} {pol : Int} {H : AHeap} {x : Value} {xs : List Int} (hk : k < 8) (hp : 0 ≤ pol ∧ pol < 3) (hr : ∀ v,Mc (R v) v rs rf (fun u => 0 ≤ u ∧ u < 256) 900) (hrg : ∀ v,Rg (R v) rs rf pol okS)
  (hD : ∀ H,Gives (cw Tryz.prog (tabF tab) om1 18 [.string (nm k)] H) fun v H' => ∃ rv C D,v = .tuple ⟨[rv,.int .i64 0]⟩ ∧ one rv = true ∧ R rv 0 H' r0 C D ∧ NewM H H' C D)
  (hx : Nums H .u8 x xs) (hxb : ∀ u ∈ xs,0 ≤ u ∧ u < 256) (hxl : xs.length ≤ 900) :
  Gives (cw Tryz.prog (tabF tab) om1 8 [.string (nm k),.string (nm 0),.int .i64 pol,x] H) fun v H' => Ext H H' ∧ (gF pol (dcT rs rf xs r0)).1.length < 100000000 ∧ ∃ ow,v = .tuple ⟨[ow,fvF (gF pol (dcT rs rf xs r0)).2,.int .i64 0]⟩ ∧ OwnB H' ow (gF pol (dcT rs rf xs r0)).1 ∧ From H.n ow := by
 obtain ⟨v,H2,c2,rfl,rv,wv,C,D,C',D',hM⟩ := c_Open (f := nm k) (t := nm 0) (H := H.push ⟨[.int .i64 0,.int .i64 0,.int .i64 0],27,.tip,0,[]⟩) (R := R) (M := WrM) hr (fun v => mc_S (v := v)) hp (fun H => c_Name hk) (fun H => c_Name (by omega)) hD (fun H => mk_S)
 rw [AHeap.n_push] at c2 hM
 have := c_SAll (hr rv) (hrg rv) (mc_S (v := wv)) (wg_S (v := wv)) (by omega) hxl (by omega) hx hxb c2 hM
 rw [← sa_S]
 exact this
def nmL : List Value := (List.range 8).map fun k => .string (nm k)
theorem c_Names (H : AHeap) : cw Tryz.prog (tabF tab) om1 27 [] H = some (.slice (some ⟨H.n,0,none⟩) 8 9,H.push ⟨nmL,9,.tip,0,[]⟩) := cw_of 3 (by kernel_rfl)
theorem nmL_at {k : Nat} (hk : k < 8) : nmL[k]? = some (.string (nm k)) := by
 unfold nmL
 rw [List.getElem?_map,List.getElem?_range hk]
 rfl
theorem c_nameT {n : Int} {H : AHeap} (hn : 0 ≤ n ∧ n < 256) : Gives (cw Tryz.prog (tabF tab) om1 9 [.int .u8 n] H) fun v H' => Ext H H' ∧ v = .string (nm (n % 8).toNat) := by
 rw [cw_run (F := F_lontartop_name) rfl rfl rfl]
 unfold F_lontartop_name k_lontartop_name
 have x1 := Ext.push H ⟨nmL,9,.tip,0,[]⟩
 have g1 := get_push_self (H := H) (b := ⟨nmL,9,.tip,0,[]⟩)
 have hs : Sl (H.push ⟨nmL,9,.tip,0,[]⟩) 1 (.slice (some ⟨H.n,0,none⟩) 8 9) 8 nmL := Sl.new (n := 8) (c := 9) g1 mem_tip rfl
 have hk : (n % 8).toNat < 8 := by omega
 obtain ⟨i,o,a1,a2,_⟩ := Sl.at hs hk
 have a3 : gotLoad ((H.push ⟨nmL,9,.tip,0,[]⟩).get i) o none (H.push ⟨nmL,9,.tip,0,[]⟩) = some (.string (nm (n % 8).toNat),H.push ⟨nmL,9,.tip,0,[]⟩) := a2 0 _ (by omega) (by rw [Nat.mul_one,Nat.add_zero]; exact nmL_at hk)
 have hl := fun H9 => Sl.len (H2 := H9) hs
 have hw : IntKind.i64.wrap n = n := wrap64 (by omega) (by omega)
 have hq : intOp .rem .i64 n 8 = some (.int .i64 (((n % 8).toNat : Nat) : Int)) := by rw [int_rem (by decide),Int.tmod_eq_emod_of_nonneg hn.1]; congr 2; omega
 have z : ((8 : Int) = 0) = False := by simp
 have z8 : ((8 : Nat) : Int) = 8 := rfl
 rw [z8] at hl
 simp only [WA,isStore,isCall,isK,freshI,stampO,Nat.reduceEqDiff,Int.reduceEq,Nat.reduceAdd,Nat.reduceMul,reduceCtorEq,Int.reduceLT,Int.reduceLE,Int.reduceToNat,Nat.reduceLeDiff,Int.cast_ofNat_Int,c_Names,hl,z,hw,hq,a1,a3]
 exact x1
theorem vI_take {P : Program} {H : AHeap} {v : Value} {l : List Int} {k : Nat} (h : Nums H .u8 v l) (hc : Cut P H v 1) (hk : k ≤ l.length) : ∃ v',(∀ kd : IntKind,vSlice (P := P) v none (some (.int kd k)) 1 H = some (v',H)) ∧ Nums H .u8 v' (l.take k) := by
 obtain ⟨v',g1,g2,_⟩ := Sl.take h hc hk
 refine ⟨v',g1,?_⟩
 unfold Nums
 rw [List.length_take,Nat.min_eq_left hk]
 simpa [List.map_take] using g2
def rulK : Nat → List Rl
 | 1 => ascR
 | 2 => RVis 256
 | 3 => Rtcvn
 | 4 => Rvni
 | 5 => Rtis
 | _ => Rtam
theorem c_TabK : ∀ k,1 ≤ k → k ≤ 6 → ∀ H,Gives (cw Tryz.prog (tabF tab) om1 17 [.string (nm k)] H) fun v H' => Ext H H' ∧ ∃ q,v = .pointer (some ⟨q,0,none⟩) ∧ TableOk H' q (rulK k)
 | 1,_,_,H => c_TableK (fun H => c_rules1) (by decide) ascR_right (Nat.le_of_ble_eq_true ascR_len) ascR_cls
 | 2,_,_,H => c_TableK (fun H => c_rules2) (by show (RVis 256).length ≠ 0; rw [RVis_len]; omega) RVis_right (by show (RVis 256).length ≤ 512; rw [RVis_len]; omega) RVis_cls
 | 3,_,_,H => c_TableK (fun H => c_rules3) (by decide) Rtcvn_right (Nat.le_of_ble_eq_true Rtcvn_len) Rtcvn_cls
 | 4,_,_,H => c_TableK (fun H => c_rules4) (by decide) Rvni_right (Nat.le_of_ble_eq_true Rvni_len) Rvni_cls
 | 5,_,_,H => c_TableK (fun H => c_rules5) (by decide) Rtis_right (Nat.le_of_ble_eq_true Rtis_len) Rtis_cls
 | 6,_,_,H => c_TableK (fun H => c_rules6) (by decide) Rtam_right (Nat.le_of_ble_eq_true Rtam_len) Rtam_cls
 | 0,h,_,_ => by omega
 | k + 7,_,h,_ => by omega
theorem feed_fd {L : List Rl} : ∀ (us : List Int) (T : List Tok) (r : MSt),feed L us (T,r) = (T ++ (fdR (rdS L) us r).1,(fdR (rdS L) us r).2)
 | [],T,r => by unfold feed fdR; simp
 | u :: us,T,r => by
  rw [feed_cons,fdR_cons]
  have h := feed_fd (L := L) us (T ++ (rdS L r u).1) (rdS L r u).2
  rw [List.append_assoc] at h
  exact h
theorem dc_T {L : List Rl} (hR : Right L) (us : List Int) : dcT (rdS L) (rdF L) us ([],0,0) = allU L us 0 := by
 obtain ⟨h1,_,_⟩ := feed_all hR us ([],[],0,0) ⟨.inl rfl⟩
 have h2 := feed_fd (L := L) us [] ([],0,0)
 rw [h2] at h1
 simp only [List.nil_append] at h1
 rw [← h1]
 unfold dcT rdF
 rw [(end_is hR).1]
theorem allU_ok {L : List Rl} (hR : Right L) : ∀ (c : Nat) (us : List Int) (a : Int),us.length ≤ c → ∀ x ∈ allU L us a,a ≤ x.at_ ∧ x.at_ < a + us.length ∧ x.out.length ≤ 8 ∧ ((x.err = 3 ∧ x.out = []) ∨ (x.err = 0 ∧ ∃ r ∈ L,x.out = r.2)) := by
 intro c
 induction c with
 | zero =>
  intro us a h x hx
  have : us = [] := List.length_eq_zero_iff.1 (by omega)
  subst this
  cases hx
 | succ c ih =>
  intro us a h x hx
  by_cases hn : us = []
  ·subst hn; cases hx
  ·obtain ⟨n,e,n1,n2⟩ := oneT_len hR hn a
   rw [allU_cons hR hn,e] at hx
   have hpos := List.length_pos_iff.2 hn
   rcases List.mem_cons.1 hx with rfl | hx
   ·refine ⟨?_,?_,oneT_out hR,?_⟩
    ·rcases oneT_is hR hn a with ⟨q1,_⟩ | ⟨k,n,r,_,_,_,_,_,_,_,_,q9⟩
     ·rw [q1]; exact Int.le_refl _
     ·rw [q9]; exact Int.le_refl _
    ·rcases oneT_is hR hn a with ⟨q1,_⟩ | ⟨k,n,r,_,_,_,_,_,_,_,_,q9⟩
     ·rw [q1]; simp only; omega
     ·rw [q9]; simp only; omega
    ·rcases oneT_is hR hn a with ⟨q1,_⟩ | ⟨k,n,r,_,_,_,_,q5,_,_,_,q9⟩
     ·rw [q1]; exact .inl ⟨rfl,rfl⟩
     ·rw [q9]; exact .inr ⟨rfl,r,List.mem_of_getElem? q5,rfl⟩
   ·rw [Int.toNat_natCast] at hx
    obtain ⟨i1,i2,i3⟩ := ih _ _ (by rw [List.length_drop]; omega) x hx
    rw [List.length_drop] at i2
    exact ⟨by omega,by omega,i3⟩
theorem mnT_cons {x : Tok} {T : List Tok} {scr : Int} : mnT scr (x :: T) = (⟨x.at_,x.len,(mnU scr [] x.out).1,x.err⟩ :: (mnT (mnU scr [] x.out).2 T).1,(mnT (mnU scr [] x.out).2 T).2) := rfl
theorem mnT_app : ∀ (S T : List Tok) (scr : Int),mnT scr (S ++ T) = ((mnT scr S).1 ++ (mnT (mnT scr S).2 T).1,(mnT (mnT scr S).2 T).2)
 | [],T,scr => rfl
 | x :: S,T,scr => by
  rw [List.cons_append,mnT_cons,mnT_cons,mnT_app S T]
  rfl
theorem fd_I : ∀ (us : List Int) (r : MSt) (scr : Int),fdR rsI us (r,scr) = ((mnT scr (fdR (rdS Rind) us r).1).1,((fdR (rdS Rind) us r).2,(mnT scr (fdR (rdS Rind) us r).1).2))
 | [],r,scr => rfl
 | u :: us,r,scr => by
  rw [fdR_cons,fdR_cons,mnT_app]
  have h := fd_I us (rdS Rind r u).2 (mnT scr (rdS Rind r u).1).2
  show ((mnT scr (rdS Rind r u).1).1 ++ (fdR rsI us ((rdS Rind r u).2,(mnT scr (rdS Rind r u).1).2)).1,(fdR rsI us ((rdS Rind r u).2,(mnT scr (rdS Rind r u).1).2)).2) = _
  rw [h]
theorem dc_I (us : List Int) : dcT rsI rfI us (([],0,0),0) = (mnT 0 (allU Rind us 0)).1 := by
 rw [← dc_T Rind_right us]
 unfold dcT
 rw [fd_I,mnT_app]
 rfl
theorem mnT_mem : ∀ (T : List Tok) (scr : Int),∀ x ∈ (mnT scr T).1,∃ y ∈ T,x.at_ = y.at_ ∧ x.err = y.err
 | [],scr,x,hx => absurd hx (by unfold mnT; simp)
 | y :: T,scr,x,hx => by
  unfold mnT at hx
  rcases List.mem_cons.1 hx with rfl | hx
  ·exact ⟨y,List.mem_cons_self ..,rfl,rfl⟩
  ·obtain ⟨z,h1,h2⟩ := mnT_mem T _ x hx
   exact ⟨z,List.mem_cons_of_mem _ h1,h2⟩
theorem lpF_at : ∀ (c : Nat) (w : List Int) (a : Int),w.length ≤ c → (∀ u ∈ w,0 ≤ u ∧ u < 256) → ((lpF c w a).1.length : Int) + a ≤ (lpF c w a).2.2 ∧ ∀ x ∈ (lpF c w a).1,a ≤ x.at_ ∧ x.at_ < a + w.length
 | 0,w,a,hc,hb => by
  unfold lpF
  exact ⟨by simp,fun x hx => absurd hx (by simp)⟩
 | c + 1,w,a,hc,hb => by
  by_cases hne : w = []
  ·have hL : lpF (c + 1) w a = ([],w,a) := by unfold lpF; rw [if_pos hne]
   rw [hL]
   exact ⟨by simp,fun x hx => absurd hx (by simp)⟩
  rcases oneF_ok hne hb with ⟨e2,_⟩ | ⟨e01,n,en,n1,n2⟩
  ·have hL : lpF (c + 1) w a = ([],w,a) := by unfold lpF; rw [if_neg hne,if_pos e2]
   rw [hL]
   exact ⟨by simp,fun x hx => absurd hx (by simp)⟩
  ·have ene : ¬ (oneF w).2.2 = 2 := by rcases e01 with h | h <;> rw [h] <;> decide
   have hL : lpF (c + 1) w a = (rtT a (oneF w).1 (oneF w).2.2 n :: (lpF c (w.drop n) (a + n)).1,(lpF c (w.drop n) (a + n)).2) := by
    conv => lhs; unfold lpF
    rw [if_neg hne,if_neg ene,en,Int.toNat_natCast]
   obtain ⟨i1,i2⟩ := lpF_at c (w.drop n) (a + n) (by rw [List.length_drop]; omega) fun u hu => hb u (List.mem_of_mem_drop hu)
   rw [List.length_drop] at i2
   rw [hL]
   refine ⟨by simp only [List.length_cons]; push_cast; omega,fun x hx => ?_⟩
   rcases List.mem_cons.1 hx with rfl | hx
   ·unfold rtT
    simp only
    omega
   ·have := i2 x hx
    omega
theorem fd_B : ∀ (us : List Int) (st : BSt) (n : Nat),Bi n st → (∀ u ∈ us,0 ≤ u ∧ u < 256) → (∀ x ∈ (fdR rbS us st).1,st.2 ≤ x.at_ ∧ x.at_ < st.2 + st.1.length + us.length ∧ x.out.length ≤ 8 ∧ (x.err = 0 → ∀ u ∈ x.out,okS u)) ∧ Bi (n + us.length) (fdR rbS us st).2 ∧ (fdR rbS us st).2.2 + (fdR rbS us st).2.1.length = st.2 + st.1.length + us.length ∧ st.2 ≤ (fdR rbS us st).2.2 ∧ ((fdR rbS us st).1.length : Int) + st.2 ≤ (fdR rbS us st).2.2
 | [],st,n,hi,hb => ⟨fun x hx => absurd hx (by unfold fdR; simp),hi,by simp [fdR],Int.le_refl _,by simp [fdR]⟩
 | u :: us,st,n,hi,hb => by
  have hu := hb u (List.mem_cons_self ..)
  have hbw : ∀ x ∈ st.1 ++ [u],0 ≤ x ∧ x < 256 := fun x hx => by
   rcases List.mem_append.1 hx with hx | hx
   ·exact hi.by_ x hx
   ·rw [List.mem_singleton.1 hx]; exact hu
  obtain ⟨_,_,i3,i4,i5,i6⟩ := lpF_inv (st.1.length + 1) (st.1 ++ [u]) st.2 (by simp) hbw
  obtain ⟨j1,j2⟩ := lpF_at (st.1.length + 1) (st.1 ++ [u]) st.2 (by simp) hbw
  have j3 := lpF_ok (st.1.length + 1) (st.1 ++ [u]) st.2 hbw
  rw [List.length_append,List.length_singleton] at i4 j2
  obtain ⟨q,hq⟩ : ∃ q,lpF (st.1.length + 1) (st.1 ++ [u]) st.2 = q := ⟨_,rfl⟩
  have hr : rbS st u = q := hq
  rw [hq] at i3 i4 i5 i6 j1 j2 j3
  have hi2 : Bi (n + 1) q.2 := by rw [← hr]; exact hi.put hu
  obtain ⟨h1,h2,h3,h4,h5⟩ := fd_B us q.2 (n + 1) hi2 fun v hv => hb v (List.mem_cons_of_mem _ hv)
  rw [fdR_cons,hr,List.length_cons]
  refine ⟨fun x hx => ?_,by rw [show n + (us.length + 1) = n + 1 + us.length by omega]; exact h2,by rw [h3]; push_cast; omega,by simp only; omega,by rw [List.length_append]; push_cast; omega⟩
  rcases List.mem_append.1 hx with hx | hx
  ·have a1 := j2 x hx
   have a2 := i6 x hx
   exact ⟨a1.1,by push_cast; omega,by omega,j3 x hx⟩
  ·obtain ⟨b1,b2,b3⟩ := h1 x hx
   exact ⟨by omega,by push_cast; omega,b3⟩
def dcK (k : Nat) (xs : List Int) : List Tok := if k = 0 then dcT rbS rbF xs ([],0) else if k = 7 then dcT rsI rfI xs (([],0,0),0) else dcT (rdS (rulK k)) (rdF (rulK k)) xs ([],0,0)
def okLB (L : List Rl) : Bool := L.all fun r => r.2.all fun u => decide (0 ≤ u ∧ u < 55296)
theorem okL_of {L : List Rl} (h : okLB L = true) : ∀ r ∈ L,∀ u ∈ r.2,okS u := fun r hr u hu => by
 have := List.all_eq_true.1 (List.all_eq_true.1 h r hr) u hu
 rw [decide_eq_true_eq] at this
 exact ⟨this.1,by omega,.inl this.2⟩
theorem rulK_ok : ∀ k,1 ≤ k → k ≤ 6 → Right (rulK k) ∧ ∀ r ∈ rulK k,∀ u ∈ r.2,okS u
 | 1,_,_ => ⟨ascR_right,okL_of (by kernel_rfl)⟩
 | 2,_,_ => ⟨RVis_right,okL_of (by kernel_rfl)⟩
 | 3,_,_ => ⟨Rtcvn_right,okL_of (by kernel_rfl)⟩
 | 4,_,_ => ⟨Rvni_right,okL_of (by kernel_rfl)⟩
 | 5,_,_ => ⟨Rtis_right,okL_of (by kernel_rfl)⟩
 | 6,_,_ => ⟨Rtam_right,okL_of (by kernel_rfl)⟩
 | 0,h,_ => by omega
 | k + 7,_,h => by omega
theorem dcK_ok {k : Nat} (hk : k < 8) {xs : List Int} (hb : ∀ u ∈ xs,0 ≤ u ∧ u < 256) : (∀ x ∈ dcK k xs,0 ≤ x.at_ ∧ x.at_ < xs.length ∧ x.out.length ≤ 8 ∧ (x.err = 0 → ∀ u ∈ x.out,okS u)) ∧ (dcK k xs).length ≤ xs.length := by
 unfold dcK
 by_cases h0 : k = 0
 ·rw [if_pos h0]
  obtain ⟨h1,h2,h3,h4,h5⟩ := fd_B xs ([],0) 0 ⟨.inl rfl,fun u hu => absurd hu (by simp),by decide,by decide⟩ hb
  simp only [List.length_nil] at h1 h3 h4 h5
  unfold dcT
  obtain ⟨q,hq⟩ : ∃ q,(fdR rbS xs ([],0)).2 = q := ⟨_,rfl⟩
  rw [hq] at h2 h3 h4 h5 ⊢
  have hf : (∀ x ∈ (rbF q).1,0 ≤ x.at_ ∧ x.at_ < xs.length ∧ x.out.length ≤ 8 ∧ (x.err = 0 → ∀ u ∈ x.out,okS u)) ∧ (rbF q).1.length ≤ q.1.length := by
   unfold rbF
   split
   ·exact ⟨fun x hx => absurd hx (by simp),by simp⟩
   ·rename_i hne
    have := List.length_pos_iff.2 hne
    refine ⟨fun x hx => ?_,by simp only [List.length_singleton]; omega⟩
    rw [List.mem_singleton.1 hx]
    unfold rtT
    simp only
    exact ⟨h4,by omega,by simp,fun h => by cases h⟩
  refine ⟨fun x hx => ?_,by rw [List.length_append]; have := hf.2; omega⟩
  rcases List.mem_append.1 hx with hx | hx
  ·obtain ⟨b1,b2,b3⟩ := h1 x hx
   exact ⟨b1,by omega,b3⟩
  ·exact hf.1 x hx
 rw [if_neg h0]
 by_cases h7 : k = 7
 ·rw [if_pos h7,dc_I]
  have hok := fun x hx => allU_ok Rind_right xs.length xs 0 (Nat.le_refl _) x hx
  have hp : ∀ x ∈ allU Rind xs 0,okP x.out := fun x hx => by
   rcases (hok x hx).2.2.2 with ⟨_,h⟩ | ⟨_,r,hr,h⟩
   ·rw [h]; exact fun u hu => absurd hu (by simp)
   ·rw [h]; exact okP_of (List.all_eq_true.1 Rind_okP r hr)
  refine ⟨fun x hx => ?_,by rw [mnT_len]; exact allU_len Rind_right xs.length xs 0 (Nat.le_refl _)⟩
  obtain ⟨y,hy,ha,he⟩ := mnT_mem _ 0 x hx
  obtain ⟨a1,a2,a3,_⟩ := hok y hy
  exact ⟨by omega,by omega,mnT_out _ 0 (fun z hz => (hok z hz).2.2.1) x hx,fun _ => (mnT_okS _ 0 hp (by decide)).2 x hx⟩
 ·rw [if_neg h7]
  obtain ⟨hR,hok⟩ := rulK_ok k (by omega) (by omega)
  rw [dc_T hR]
  refine ⟨fun x hx => ?_,allU_len hR xs.length xs 0 (Nat.le_refl _)⟩
  obtain ⟨a1,a2,a3,a4⟩ := allU_ok hR xs.length xs 0 (Nat.le_refl _) x hx
  refine ⟨a1,by omega,a3,fun he u hu => ?_⟩
  rcases a4 with ⟨h,_⟩ | ⟨_,r,hr,h⟩
  ·rw [he] at h; cases h
  ·rw [h] at hu; exact hok r hr u hu
theorem c_ToK {k : Nat} {pol : Int} {H : AHeap} {x : Value} {xs : List Int} (hk : k < 8) (hp : 0 ≤ pol ∧ pol < 3) (hx : Nums H .u8 x xs) (hxb : ∀ u ∈ xs,0 ≤ u ∧ u < 256) (hxl : xs.length ≤ 900) :
  Gives (cw Tryz.prog (tabF tab) om1 8 [.string (nm k),.string (nm 0),.int .i64 pol,x] H) fun v H' => Ext H H' ∧ (gF pol (dcK k xs)).1.length < 100000000 ∧ ∃ ow,v = .tuple ⟨[ow,fvF (gF pol (dcK k xs)).2,.int .i64 0]⟩ ∧ OwnB H' ow (gF pol (dcK k xs)).1 ∧ From H.n ow := by
 unfold dcK
 by_cases h0 : k = 0
 ·subst h0
  rw [if_pos rfl]
  exact c_ToU (R := RdB) hk hp (fun v => mc_B) (fun v => rg_B) (fun H => mk_B) hx hxb hxl
 rw [if_neg h0]
 by_cases h7 : k = 7
 ·subst h7
  rw [if_pos rfl]
  exact c_ToU (R := RdI) hk hp (fun v => mc_I) (fun v => rg_I) (fun H => mk_I) hx hxb hxl
 ·rw [if_neg h7]
  obtain ⟨hR,hok⟩ := rulK_ok k (by omega) (by omega)
  exact c_ToU (R := RdM (rulK k)) hk hp (fun v => mc_T hR) (fun v => rg_T hR hok) (fun H => mk_T hk h0 h7 fun H => c_TabK k (by omega) (by omega) H) hx hxb hxl
def uaT : List Int → Int → List Tok
 | [],_ => []
 | u :: us,a => ⟨a,(utfB u).length,[u],0⟩ :: uaT us (a + (utfB u).length)
theorem uaT_len : ∀ (us : List Int) (a : Int),(uaT us a).length = us.length
 | [],a => rfl
 | u :: us,a => by unfold uaT; simp [uaT_len us]
def PUA (H0 : AHeap) (T : List Tok) (y : AEx) (e' : Env) (H' : AHeap) : Prop := y = .exit 0 ∧ OwnToks Tryz.prog H' 36 (eget e' 3) T ∧ Ext H0 H'
theorem l_UA {H0 : AHeap} {v : Value} {us : List Int} (hu : ∀ u ∈ us,okS u) (hv : Nums H0 .u8 v (ub us)) (hc : Cut Tryz.prog H0 v 1) (hl : (ub us).length < 1000000) : ∀ (r p : List Int) (H : AHeap) (out : Value) (T : List Tok),p ++ r = us → Ext H0 H → OwnToks Tryz.prog H 36 out T → From H0.n out → T.length + r.length < 1000000 →
  Out (run Tryz.prog (tabF tab) om1 (.loop [0,3,4] b_utf_All_0) [(0,v),(3,out),(4,.int .i64 (ub p).length)] H) (PUA H0 (T ++ uaT r (ub p).length)) := by
 intro r
 induction r with
 | nil =>
  intro p H out T hp hx ht hf hT
  rw [List.append_nil] at hp
  subst hp
  have hlv := fun H9 => Nums.len (H2 := H9) hv
  have zz : (((ub p).length : Int) < ((ub p).length : Nat)) = False := by simp
  rw [w_loop_b b_utf_All_0.eq_1]
  simp only [WA,isStore,isCall,isK,freshI,stampO,Nat.reduceEqDiff,Int.reduceEq,Nat.reduceAdd,Nat.reduceMul,reduceCtorEq,Int.reduceLT,Int.reduceLE,Int.reduceToNat,Nat.reduceLeDiff,Int.cast_ofNat_Int,hlv,zz]
  unfold uaT
  rw [List.append_nil]
  exact ⟨rfl,ht,hx⟩
 | cons u r ih =>
  intro p H out T hp hx ht hf hT
  rw [List.length_cons] at hT
  have hou := hu u (by rw [← hp]; simp)
  obtain ⟨ub1,ub2,ub3⟩ := utfB_ok hou
  have hpos := List.length_pos_iff.2 ub3
  have hus : ub us = ub p ++ (utfB u ++ ub r) := by rw [← hp,ub_app,ub_cons]
  have hlen : (ub us).length = (ub p).length + ((utfB u).length + (ub r).length) := by rw [hus,List.length_append,List.length_append]
  have hlv := fun H9 => Nums.len (H2 := H9) hv
  have zz : (((ub p).length : Int) < ((ub us).length : Nat)) = True := eq_true (by omega)
  obtain ⟨v5,s5,s5',_⟩ := Sl.drop (P := Tryz.prog) (j := (ub p).length) (Nums.ext hx hv) (hc.ext hx) (by omega)
  have hby : ∀ y ∈ utfB u ++ ub r,0 ≤ y ∧ y < 256 := fun y hy => by
   rcases List.mem_append.1 hy with hy | hy
   ·exact ub1 y hy
   ·unfold ub at hy
    obtain ⟨z,hz,hy⟩ := List.mem_flatMap.1 hy
    exact (utfB_ok (hu z (by rw [← hp]; simp [hz]))).1 y hy
  have hi5 : Nums H .u8 v5 (utfB u ++ ub r) := by
   have h6 := s5'
   have e6 : (List.map (fun x => Value.int .u8 x) (ub us)).drop ((ub p).length * 1) = (utfB u ++ ub r).map fun x => Value.int .u8 x := by
    rw [Nat.mul_one,← List.map_drop,hus,List.drop_left]
   have e7 : (ub us).length - (ub p).length = (utfB u ++ ub r).length := by rw [hlen,List.length_append]; omega
   rw [e7] at h6
   unfold Nums
   rw [← e6]
   exact h6
  have c1 := c_One hi5 hby
  unfold oneV at c1
  rw [one_utf hou] at c1
  simp only at c1
  obtain ⟨n,hn⟩ : ∃ n,(utfB u).length = n := ⟨_,rfl⟩
  rw [hn] at c1 hlen hpos
  obtain ⟨a,ha⟩ : ∃ a,(ub p).length = a := ⟨_,rfl⟩
  rw [ha] at s5 zz hlen ⊢
  obtain ⟨H1,hH1⟩ : ∃ H1,H1 = H.push ⟨[.int .i64 a,.int .i64 n,.slice none 0 0,.int .i64 0],36,.tip,1,[]⟩ := ⟨_,rfl⟩
  have x1 : Ext H H1 := by rw [hH1]; exact Ext.push H _
  have g1 : H1.get H.n = some ⟨[.int .i64 a,.int .i64 n,.slice none 0 0,.int .i64 0],36,.tip,1,[]⟩ := by rw [hH1]; exact get_push_self
  have hst := tk_store (H := H.push ⟨[.int .i64 0,.int .i64 0,.slice none 0 0,.int .i64 0],36,.tip,0,[]⟩) (i := H.n) (ver := 0) (el := 36) (a := .int .i64 0) (b := .int .i64 0) (c := .slice none 0 0) (d := .int .i64 0) (u := .int .i64 a) (v := .int .i64 n) (x := .slice none 0 0) (y := .int .i64 0) rfl
  simp only [Nat.zero_add] at hst
  obtain ⟨H3,v3,x3,i3,k3⟩ := new_one (H := H1) (a := u)
  have g3 := x3.get g1
  have hst3 := tk_set2 (H := H3) (i := H.n) (ver := 1) (el := 36) (a := .int .i64 a) (b := .int .i64 n) (c := .slice none 0 0) (d := .int .i64 0) (x := .slice (some ⟨H1.n,0,none⟩) 1 2) rfl
  obtain ⟨H4,hH4⟩ : ∃ H4,H4 = H3.upd H.n ⟨[.int .i64 a,.int .i64 n,.slice (some ⟨H1.n,0,none⟩) 1 2,.int .i64 0],36,.tip,1 + 1,[]⟩ := ⟨_,rfl⟩
  rw [← hH4] at hst3
  have g4 : H4.get H.n = some ⟨[.int .i64 a,.int .i64 n,.slice (some ⟨H1.n,0,none⟩) 1 2,.int .i64 0],36,.tip,1 + 1,[]⟩ := by rw [hH4]; exact upd_self g3
  have x4 : Ext H H4 := by rw [hH4]; exact Ext.upd (x1.trans x3) g3 (Nat.le_refl _)
  have n1 : H1.n = H.n + 1 := by rw [hH1,AHeap.n_push]
  have ld : gotLoad (some ⟨[.int .i64 a,.int .i64 n,.slice (some ⟨H1.n,0,none⟩) 1 2,.int .i64 0],36,.tip,1 + 1,[]⟩) 0 (some 4) H4 = some (.agg ⟨[.int .i64 a,.int .i64 n,.slice (some ⟨H1.n,0,none⟩) 1 2,.int .i64 0]⟩,H4) := by
   rw [got_row mem_tip (by simp)]; rfl
  have t4 : tokQ Tryz.prog H4 (tokC (some ⟨H1.n,0,none⟩) 2 ⟨a,n,[u],0⟩) ⟨a,n,[u],0⟩ := ⟨_,_,rfl,by rw [hH4]; exact Sl.upd i3 g3 (fun e => by have : H1.n = H.n := e; omega),by unfold Lon.tiny; simp,by rw [hH4]; exact Cut.upd k3 g3 rfl⟩
  have x5 := Ext.push H4 ⟨tokC (some ⟨H1.n,0,none⟩) 2 ⟨a,n,[u],0⟩,36,.tip,0,[]⟩
  have g5 := get_push_self (H := H4) (b := ⟨tokC (some ⟨H1.n,0,none⟩) 2 ⟨a,n,[u],0⟩,36,.tip,0,[]⟩)
  obtain ⟨v6,H6,q1,q2,q3,q4,q5,q6⟩ := (ht.ext tokQ_mono (x4.trans x5)).push tokQ_mono (bytes := 48) (c := 2) g5 rfl (tokQ_mono x5.kp t4) tokC_one (by omega) (by omega)
  have x6 : Ext H0 H6 := by
   have := hx.1
   have := x4.1
   have := x5.1
   refine ⟨by omega,fun j hj => ?_⟩
   rw [q6 j (by omega) (NotAt.of_from hf hj),x5.2 j (by omega),x4.2 j (by omega),hx.2 j hj]
  have hmk := v_mkT (H := H4) (el := 36) (p := some ⟨H1.n,0,none⟩) (c := 2) (x := ⟨a,n,[u],0⟩)
  have htc : tokC (some ⟨H1.n,0,none⟩) 2 (⟨a,n,[u],0⟩ : Tok) = [.int .i64 a,.int .i64 n,.slice (some ⟨H1.n,0,none⟩) 1 2,.int .i64 0] := rfl
  rw [htc] at hmk q1
  have hap : (ub (p ++ [u])).length = a + n := by rw [ub_app,List.length_append,ha]; unfold ub; simp [hn]
  obtain ⟨y,e',H',r1,r2⟩ := ih (p ++ [u]) H6 v6 (T ++ [⟨a,n,[u],0⟩]) (by rw [List.append_assoc]; exact hp) x6 q2 (q3.mono (by have := hx.1; have := x4.1; have := x5.1; omega)) (by rw [List.length_append,List.length_singleton]; omega)
  rw [hap] at r1 r2
  have hwa : IntKind.i64.wrap ((a : Int) + (n : Int)) = ((a + n : Nat) : Int) := by rw [wrap64 (by omega) (by omega)]; omega
  have z0 : ((0 : Int) = 0) = True := by simp
  rw [w_loop_b b_utf_All_0.eq_1]
  simp only [WA,isStore,isCall,isK,freshI,stampO,Nat.reduceEqDiff,Int.reduceEq,Nat.reduceAdd,Nat.reduceMul,reduceCtorEq,Int.reduceLT,Int.reduceLE,Int.reduceToNat,Nat.reduceLeDiff,Int.cast_ofNat_Int,hlv,zz,s5,c1,v_tkG,hst,← hH1,z0,v3,g3,hst3,g4,ld,hmk,q1,hwa]
  rw [w_enter]
  simp only [WA,isStore,isCall,isK,freshI,stampO,Nat.reduceEqDiff,Int.reduceEq,Nat.reduceAdd,Nat.reduceMul,reduceCtorEq,Int.reduceLT,Int.reduceLE,Int.reduceToNat,Nat.reduceLeDiff,Int.cast_ofNat_Int,r1]
  have hU : uaT (u :: r) (a : Int) = ⟨a,n,[u],0⟩ :: uaT r ((a + n : Nat) : Int) := by
   conv => lhs; unfold uaT
   rw [hn,show ((a + n : Nat) : Int) = (a : Int) + (n : Int) by omega]
  rw [hU]
  rw [List.append_assoc] at r2
  exact r2
theorem c_UAll {H : AHeap} {v : Value} {us : List Int} (hu : ∀ u ∈ us,okS u) (hv : Nums H .u8 v (ub us)) (hc : Cut Tryz.prog H v 1) (hl : (ub us).length < 1000000) (hl2 : us.length < 1000000) : Gives (cw Tryz.prog (tabF tab) om1 10 [v] H) fun w H' => Ext H H' ∧ OwnToks Tryz.prog H' 36 w (uaT us 0) := by
 rw [cw_run (F := F_utf_All) rfl rfl rfl]
 unfold F_utf_All k_utf_All
 obtain ⟨y,e',H',r1,rfl,r2,r3⟩ := l_UA (H0 := H) hu hv hc hl us [] H (.slice none 0 0) [] rfl (Ext.refl H) OwnRws.nil trivial (by simpa using hl2)
 rw [show (((ub []).length : Nat) : Int) = 0 from rfl] at r1
 rw [List.nil_append,show (((ub []).length : Nat) : Int) = 0 from rfl] at r2
 simp only [WA,isStore,isCall,isK,freshI,stampO,Nat.reduceEqDiff,Int.reduceEq,Nat.reduceAdd,Nat.reduceMul,reduceCtorEq,Int.reduceLT,Int.reduceLE,Int.reduceToNat,Nat.reduceLeDiff,Int.cast_ofNat_Int]
 rw [w_enter]
 simp only [WA,isStore,isCall,isK,freshI,stampO,Nat.reduceEqDiff,Int.reduceEq,Nat.reduceAdd,Nat.reduceMul,reduceCtorEq,Int.reduceLT,Int.reduceLE,Int.reduceToNat,Nat.reduceLeDiff,Int.cast_ofNat_Int,r1]
 exact ⟨r3,r2⟩
theorem s_neq (s : ByteArray) : binV2 .neq 9 (.string s) (.string s) = some (.bool false) := by
 have h : binV2 .neq 9 (.string s) (.string s) = some (.bool (!(s.toList == s.toList))) := by rfl
 rw [h]; simp
theorem s_eql (s : ByteArray) : binV2 .eql 9 (.string s) (.string s) = some (.bool true) := by
 have h : binV2 .eql 9 (.string s) (.string s) = some (.bool (s.toList == s.toList)) := by rfl
 rw [h]; simp
theorem txt_any : ∀ (l : List Int) (s : ByteArray),∃ t,txtB s (u8s l) = some t
 | [],s => ⟨s,rfl⟩
 | u :: l,s => txt_any l _
theorem txt_num {H : AHeap} {v : Value} {l : List Int} {s : ByteArray} (h : Nums H .u8 v l) (ht : txtB ByteArray.empty (u8s l) = some s) : vText v H = some (.string s,H) := by
 have h2 := h.2
 have h2 : cellsOf H 1 v = some (u8s l) := h2
 unfold vText
 rw [h2]
 simp only
 rw [ht]
 rfl
def nb (us : List Int) : List Int := us.filter fun u => decide (u ≠ 65533)
theorem nb_app {a b : List Int} : nb (a ++ b) = nb a ++ nb b := List.filter_append ..
theorem nb_out (x : Tok) : nb (outOf 1 x) = nb (outOf 2 x) := by
 unfold outOf
 split
 ·rfl
 ·rw [if_pos rfl,if_neg (by decide)]; rfl
theorem nb_oT : ∀ (T : List Tok),nb (oT 1 T) = nb (oT 2 T)
 | [] => rfl
 | x :: T => by
  unfold oT
  rw [List.flatMap_cons,List.flatMap_cons,nb_app,nb_app,nb_out]
  have := nb_oT T
  unfold oT at this
  rw [this]
theorem sF_pre : ∀ (T : List Tok),(∃ r,ub (oT 2 T) = (sF T).1 ++ r) ∧ ((sF T).2.1 = 0 ∨ (sF T).2.1 = 1) ∧ ((sF T).2.2.2 = 0 → (sF T).1 = ub (oT 2 T) ∧ oT 1 T = oT 2 T) ∧ ((sF T).2.2.2 ≠ 0 → (∃ x ∈ T,(sF T).2.2.1 = x.at_) ∧ 65533 ∈ oT 1 T)
 | [] => ⟨⟨[],rfl⟩,.inl rfl,fun _ => ⟨rfl,rfl⟩,fun h => absurd rfl h⟩
 | x :: T => by
  obtain ⟨⟨r,h1⟩,h2,h3,h4⟩ := sF_pre T
  have ho : ∀ p,oT p (x :: T) = outOf p x ++ oT p T := fun p => List.flatMap_cons ..
  by_cases hx : x.err = 0
  ·have e : ∀ p,outOf p x = x.out := fun p => by unfold outOf; rw [if_pos hx]
   rw [sF_ok hx,ho,ho,e,e]
   refine ⟨⟨r,by rw [ub_app,h1,List.append_assoc]⟩,h2,fun h => ?_,fun h => ?_⟩
   ·obtain ⟨a,b⟩ := h3 h
    exact ⟨by rw [ub_app,← a],by rw [b]⟩
   ·obtain ⟨⟨y,hy,a⟩,b⟩ := h4 h
    exact ⟨⟨y,List.mem_cons_of_mem _ hy,a⟩,List.mem_append_right _ b⟩
  ·rw [sF_bad hx]
   refine ⟨⟨_,(List.nil_append _).symm⟩,.inr rfl,fun h => absurd h hx,fun _ => ⟨⟨x,List.mem_cons_self ..,rfl⟩,?_⟩⟩
   rw [ho]
   refine List.mem_append_left _ ?_
   unfold outOf
   rw [if_neg hx,if_pos rfl]
   exact List.mem_singleton.2 rfl
theorem nb_len : ∀ (us : List Int),(ub (nb us)).length ≤ (ub us).length ∧ (65533 ∈ us → (ub (nb us)).length < (ub us).length)
 | [] => ⟨Nat.le_refl _,fun h => absurd h (by simp)⟩
 | u :: us => by
  obtain ⟨h1,h2⟩ := nb_len us
  have hu : 0 < (utfB u).length := by
   unfold utfB
   split
   ·simp
   split
   ·simp
   split <;> simp
  by_cases h : u = 65533
  ·have e : nb (u :: us) = nb us := by unfold nb; rw [List.filter_cons_of_neg (by simp [h])]
   rw [e,ub_cons,List.length_append]
   exact ⟨by omega,fun _ => by omega⟩
  ·have e : nb (u :: us) = u :: nb us := by unfold nb; rw [List.filter_cons_of_pos (by simp [h])]
   rw [e,ub_cons,ub_cons,List.length_append,List.length_append]
   refine ⟨by omega,fun hm => ?_⟩
   rcases List.mem_cons.1 hm with hm | hm
   ·exact absurd hm.symm h
   ·have := h2 hm
    omega
theorem oT_ok {pol : Int} {T : List Tok} (h : ∀ x ∈ T,x.err = 0 → ∀ u ∈ x.out,okS u) : ∀ u ∈ oT pol T,okS u := fun u hu => by
 unfold oT at hu
 obtain ⟨x,hx,hu⟩ := List.mem_flatMap.1 hu
 exact outOf_ok (h x hx) u hu
theorem oT_len {pol : Int} : ∀ (T : List Tok),(∀ x ∈ T,x.out.length ≤ 8) → (oT pol T).length ≤ 8 * T.length
 | [],_ => by simp [oT]
 | x :: T,h => by
  have h1 := outOf_len (pol := pol) (h x (List.mem_cons_self ..))
  have h2 := oT_len (pol := pol) T fun y hy => h y (List.mem_cons_of_mem _ hy)
  unfold oT at h2 ⊢
  rw [List.flatMap_cons,List.length_append,List.length_cons]
  omega
theorem ub_len : ∀ (us : List Int),(∀ u ∈ us,okS u) → (ub us).length ≤ 4 * us.length
 | [],_ => by simp [ub]
 | u :: us,h => by
  have h1 := (utfB_ok (h u (List.mem_cons_self ..))).2.1
  have h2 := ub_len us fun v hv => h v (List.mem_cons_of_mem _ hv)
  rw [ub_cons,List.length_append,List.length_cons]
  omega
end Go.Proofs.YtleiinhaljdcoaaGreatDoor
