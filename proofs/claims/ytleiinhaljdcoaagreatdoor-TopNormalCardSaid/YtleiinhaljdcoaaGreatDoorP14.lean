/- What is proved here: what the program's functions come to, as far as the claimed statement asks. Conditions: those that each theorem names, and no others. -/
import Derived.Test.YtleiinhaljdcoaaGreatDoorP13
set_option linter.unusedSimpArgs false
set_option linter.unusedVariables false
namespace Go.Proofs.YtleiinhaljdcoaaGreatDoor
open Go Lon
set_option maxRecDepth 100000
theorem Cut.sh {H H0:AHeap} {v:Value} {el:TypeId} {sz:Nat} (h:cutB H0 v el=true) (hs:(Tryz.prog.info? el).map (·.size)=some sz):Cut Tryz.prog (joinH H H0) (shV H.n v) sz:=by
 unfold cutB at h
 split at h
 ·rename_i i o n c
  split at h
  ·rename_i b hb
   refine ⟨shB H.n b,joinH_get hb,?_⟩
   show (Tryz.prog.info? b.elem).map (·.size)=some sz
   rw[Nat.eq_of_beq_eq_true h];exact hs
  ·cases h
 ·cases h
theorem laid_gives {r:Option (Value × AHeap)} {R:List Rl} (h:chkR r R=true) (H:AHeap):∃ v H',laidO r H=some (v,H')∧GivesR H R v H':=by
 unfold chkR at h
 split at h
 case h_2=>cases h
 rename_i v H0
 simp only[Bool.and_eq_true] at h
 obtain ⟨⟨⟨h1,h2⟩,h3⟩,h4⟩:=h
 refine ⟨_,_,by unfold laidO;simp only;rw[if_pos h1],joinH_ext H H0,(rulesB_spec h2).sh,Cut.sh h3 (by kernel_rfl),?_⟩
 unfold cutsB at h4
 rw[kCells_eq] at h4
 split at h4
 case h_2=>cases h4
 rename_i cs hcs
 obtain ⟨_,cs',hs,_⟩:=rulesB_spec h2
 obtain rfl:cs'=cs:=Option.some.inj (hs.2.symm.trans hcs)
 refine ⟨_,_,Sl.sh hs,fun x hx=>?_⟩
 obtain ⟨y,hy,rfl⟩:=List.mem_map.1 hx
 exact Cut.sh (List.all_eq_true.1 h4 y hy) (by kernel_rfl)
theorem c_rulesO {k:Nat} {R:List Rl} {H:AHeap} (h2:(nm k).data.toList≠(nm 2).data.toList) (h:chkR (runR (nm k)) R=true):Gives (cw Tryz.prog (tabF tab) om1 39 [.string (nm k)] H) (GivesR H R):=by
 obtain ⟨v,H',h1,r1⟩:=laid_gives h H
 refine ⟨v,H',cw_omega ?_,r1⟩
 unfold om1
 simp only
 rw[if_neg h2]
 exact h1
theorem c_rules1 {H:AHeap}:Gives (cw Tryz.prog (tabF tab) om1 39 [.string (nm 1)] H) (GivesR H ascR):=c_rulesO (by decide) k_rul1
theorem c_rules3 {H:AHeap}:Gives (cw Tryz.prog (tabF tab) om1 39 [.string (nm 3)] H) (GivesR H Rtcvn):=c_rulesO (by decide) k_rul3
theorem c_rules4 {H:AHeap}:Gives (cw Tryz.prog (tabF tab) om1 39 [.string (nm 4)] H) (GivesR H Rvni):=c_rulesO (by decide) k_rul4
theorem c_rules5 {H:AHeap}:Gives (cw Tryz.prog (tabF tab) om1 39 [.string (nm 5)] H) (GivesR H Rtis):=c_rulesO (by decide) k_rul5
theorem c_rules6 {H:AHeap}:Gives (cw Tryz.prog (tabF tab) om1 39 [.string (nm 6)] H) (GivesR H Rtam):=c_rulesO (by decide) k_rul6
theorem c_IRules {H:AHeap}:Gives (cw Tryz.prog (tabF tab) om1 101 [] H) (GivesR H Rind):=by
 obtain ⟨v,H',h1,r1⟩:=laid_gives k_rul7 H
 exact ⟨v,H',cw_omega (by unfold om1;exact h1),r1⟩
def key:List Int→Nat
 | []=>0
 | u :: l=>u.toNat+1+2000000*key l
def noneB (k:Nat):List Nat→Bool
 | []=>true
 | a :: l=>cond (Nat.beq a k) false (noneB k l)
def distB:List Nat→Bool
 | []=>true
 | a :: l=>cond (noneB a l) (distB l) false
theorem noneB_spec {k:Nat}:∀ {l:List Nat},noneB k l=true→k∉l
 | [],_,h=>by cases h
 | a :: l,h,hm=>by
  unfold noneB at h
  cases hb:Nat.beq a k with
  | true=>rw[hb] at h;cases h
  | false=>
   rw[hb] at h
   rcases List.mem_cons.1 hm with e | hm
   ·subst e;rw[Nat.beq_refl] at hb;cases hb
   ·exact noneB_spec h hm
theorem distB_spec:∀ {l:List Nat},distB l=true→l.Nodup
 | [],_=>List.nodup_nil
 | a :: l,h=>by
  unfold distB at h
  cases hb:noneB a l with
  | true=>rw[hb] at h;exact List.nodup_cons.2 ⟨noneB_spec hb,distB_spec h⟩
  | false=>rw[hb] at h;cases h
theorem nodup_of {α:Type} {f:α→Nat} {l:List α} (h:(l.map f).Nodup):l.Nodup:=List.Pairwise.of_map f (fun a b hne e=>hne (congrArg f e)) h
theorem pair_good {L:List Rl} (hs:L.all (fun r=>sideB r.1&&sideB r.2)=true) (hd:(L.map (·.1)).Nodup):Right L:=by
 refine ⟨fun r hr=>by simpa using List.all_eq_true.1 hs r hr,fun k r hr=>?_⟩
 rw[fnd_neg]
 intro x hx e
 obtain ⟨i,hi,rfl⟩:=List.getElem_of_mem hx
 obtain ⟨hk,rfl⟩:=List.getElem?_eq_some_iff.1 hr
 rw[List.length_take] at hi
 rw[List.getElem_take] at e
 have:=(List.pairwise_iff_getElem.1 hd) i k (by rw[List.length_map];omega) (by rw[List.length_map];exact hk) (by omega)
 rw[List.getElem_map,List.getElem_map] at this
 exact this e
theorem ascR_right:Right ascR:=pair_good (by kernel_rfl) (nodup_of (f:=key) (distB_spec (by kernel_rfl)))
theorem ascR_len:Nat.ble ascR.length 512=true:=by kernel_rfl
theorem Rtcvn_right:Right Rtcvn:=pair_good (by kernel_rfl) (nodup_of (f:=key) (distB_spec (by kernel_rfl)))
theorem Rtcvn_len:Nat.ble Rtcvn.length 512=true:=by kernel_rfl
theorem Rvni_right:Right Rvni:=pair_good (by kernel_rfl) (nodup_of (f:=key) (distB_spec (by kernel_rfl)))
theorem Rvni_len:Nat.ble Rvni.length 512=true:=by kernel_rfl
theorem Rtis_right:Right Rtis:=pair_good (by kernel_rfl) (nodup_of (f:=key) (distB_spec (by kernel_rfl)))
theorem Rtis_len:Nat.ble Rtis.length 512=true:=by kernel_rfl
theorem Rtam_right:Right Rtam:=pair_good (by kernel_rfl) (nodup_of (f:=key) (distB_spec (by kernel_rfl)))
theorem Rtam_len:Nat.ble Rtam.length 512=true:=by kernel_rfl
theorem Rind_right:Right Rind:=pair_good (by kernel_rfl) (nodup_of (f:=key) (distB_spec (by kernel_rfl)))
theorem Rind_len:Nat.ble Rind.length 512=true:=by kernel_rfl
theorem ascR_cls:clsF ascR ascR=true:=cls_single fun r hr=>by simpa using List.all_eq_true.1 (show (ascR.all fun r=>decide (r.1.length=1))=true by kernel_rfl) r hr
theorem Rtcvn_cls:clsF Rtcvn Rtcvn=true:=cls_single fun r hr=>by simpa using List.all_eq_true.1 (show (Rtcvn.all fun r=>decide (r.1.length=1))=true by kernel_rfl) r hr
theorem Rtis_cls:clsF Rtis Rtis=true:=cls_single fun r hr=>by simpa using List.all_eq_true.1 (show (Rtis.all fun r=>decide (r.1.length=1))=true by kernel_rfl) r hr
theorem Rvni_cls:clsF Rvni Rvni=true:=by kernel_rfl
theorem Rtam_cls:clsF Rtam Rtam=true:=by kernel_rfl
theorem Rind_cls:clsF Rind Rind=true:=by kernel_rfl
theorem c_IScalar {s p:Int} (hs:0≤s∧s<4294967296) (hp:0≤p∧p<4294967296) (H:AHeap):cw Tryz.prog (tabF tab) om1 169 [.int .i64 s,.int .i64 p] H=some (.int .i64 (2304+128*s+p),H):=by
 rw[cw_run (F:=F_indic_Scalar) rfl rfl rfl]
 unfold F_indic_Scalar k_indic_Scalar
 have w1:IntKind.i64.wrap (128*s)=128*s:=wrap64 (by omega) (by omega)
 have w2:IntKind.i64.wrap (2304+128*s)=2304+128*s:=wrap64 (by omega) (by omega)
 have w3:IntKind.i64.wrap (2304+128*s+p)=2304+128*s+p:=wrap64 (by omega) (by omega)
 simp only[WA,Nat.reduceEqDiff,reduceCtorEq,w1,w2,w3]
def mnU:Int→List Int→List Int→List Int × Int
 | scr,acc,[]=>(acc,scr)
 | scr,acc,u :: us=>if u≥8192 then mnU scr (acc++[u - 8192]) us else if u≥4096 then mnU (u - 4096) acc us else mnU scr (acc++[2304+128*scr+u]) us
def mnT:Int→List Tok→List Tok × Int
 | scr,[]=>([],scr)
 | scr,x :: T=>(⟨x.at_,x.len,(mnU scr [] x.out).1,x.err⟩ :: (mnT (mnU scr [] x.out).2 T).1,(mnT (mnU scr [] x.out).2 T).2)
theorem id_set1 {H:AHeap} {i ver:Nat} {el:TypeId} {a b x:Value} (h1:one x=true):gotStore (some ⟨[a,b],el,.tip,ver,[]⟩) i 1 x 1 H=some (.tuple ⟨[]⟩,H.upd i ⟨[a,x],el,.tip,ver+1,[]⟩):=wr_set1 h1
def okN (m:List Int):Prop:=∀ u∈m,0≤u∧u<100000
theorem OwnI.more {H:AHeap} {v:Value} {l:List Int} {u:Int} (ho:OwnI H v l) (hl:l.length<1000000):∃ H1 v' H2,vBslice 3 1 1 [.int .i64 0] [(0,1,.int .i64 u)] H=some (.slice (some ⟨H.n,0,none⟩) 1 2,H1)∧appendA H1 v (.slice (some ⟨H.n,0,none⟩) 1 2) 3 1 8=some (v',H2)∧OwnI H2 v' (l++[u])∧From H.n v'∧H.n≤H2.n∧(∀ j,j<H.n→NotAt v j→H2.get j=H.get j)∧VerLe H H2:=by
 obtain ⟨H1,v1,x1,i1,_⟩:=new_one (H:=H) (a:=u)
 obtain ⟨v2,H2,q1,q2,q3,q4,q5,q6⟩:=Own.append2 (bytes:=8) (Own.ext x1 ho) i1 (by simp) rfl (by simp;omega)
 have x1n:=x1.1
 refine ⟨H1,v2,H2,v1,q1,?_,q3.mono x1n,by omega,fun j hj hn=>by rw[q6 j (by omega) hn,x1.2 j hj],(Ext.ver x1).trans (appendA_ver q1)⟩
 have hints:ints l++ints [u]=ints (l++[u]):=by simp[ints]
 unfold OwnI
 rw[List.length_append,← hints]
 exact q2
structure MN (d:Nat) (inv:Value) (H0 H:AHeap) (ov:Value) (acc:List Int) (scr:Int):Prop where
 hd:∃ ver,H.get d=some ⟨[inv,.int .i64 scr],138,.tip,ver,[]⟩
 ho:OwnI H ov acc
 hf:From H0.n ov
 hn:H0.n≤H.n
 hk:∀ j,j<H0.n→j≠d→H.get j=H0.get j
 hv:VerLe H0 H
def PN0 (d:Nat) (inv v1 v5 v10 v11 v12:Value) (H0:AHeap) (z:List Int × Int) (y:AEx) (e':Env) (H':AHeap):Prop:=y=.exit 2∧eget e' 0=.pointer (some ⟨d,0,none⟩)∧eget e' 1=v1∧eget e' 5=v5∧eget e' 10=v10∧eget e' 11=v11∧eget e' 12=v12∧MN d inv H0 H' (eget e' 7) z.1 z.2
theorem l_mn0 {d:Nat} {inv v1 v5 v10 v11 v12 x:Value} {H0:AHeap} {m:List Int} (hm:okN m) (hml:m.length<1000) (hx:m≠[]→Ints H0 x m∧Cut Tryz.prog H0 x 1∧NotAt x d) (hd0:∃ ver s,H0.get d=some ⟨[inv,s],138,.tip,ver,[]⟩):∀ (c k:Nat) (H:AHeap) (ov:Value) (acc:List Int) (scr:Int),k+c=m.length→acc.length≤k→0≤scr∧scr<100000→MN d inv H0 H ov acc scr →
  Out (run Tryz.prog (tabF tab) om1 (.loop [0,1,5,7,10,11,12,18,19,20] b_iscii_Decoder__mean_0) [(0,.pointer (some ⟨d,0,none⟩)),(1,v1),(5,v5),(7,ov),(10,v10),(11,v11),(12,v12),(18,x),(19,.int .i64 m.length),(20,.int .i64 k)] H) (PN0 d inv v1 v5 v10 v11 v12 H0 (mnU scr acc (m.drop k))):=by
 intro c
 induction c with
 | zero=>
  intro k H ov acc scr hk ha hs h
  obtain rfl:k=m.length:=by omega
  have zz:(((m.length:Nat):Int)<(m.length:Nat))=False:=by simp
  rw[List.drop_of_length_le (Nat.le_refl _),show mnU scr acc []=(acc,scr) from rfl,w_loop_b b_iscii_Decoder__mean_0.eq_1]
  simp only[WA,Nat.reduceEqDiff,reduceCtorEq,zz]
  exact ⟨rfl,rfl,rfl,rfl,rfl,rfl,rfl,h⟩
 | succ c ih=>
  intro k H ov acc scr hk ha hs h
  have hlt:((k:Int)<(m.length:Nat))=True:=eq_true (by omega)
  obtain ⟨u,hu,hdx⟩:=drop_at (L:=m) (i:=k) (by omega)
  obtain ⟨u0,u1⟩:=hm u (List.mem_of_getElem? hu)
  have hmn:m≠[]:=fun e=>by subst e;simp at hu
  obtain ⟨hx1,hx2,hx3⟩:=hx hmn
  obtain ⟨ver0,s0,g0⟩:=hd0
  have hon:Only (fun j=>j=d) H0 H:=⟨h.hn,h.hk⟩
  obtain ⟨hy1,_⟩:=(only_rd hon fun j b hj hb=>by
   have hj:j=d:=hj
   subst hj
   rw[g0] at hb
   injection hb with hb
   subst hb
   simp only
   decide).1 x m hmn hx1 hx2 fun j hj=>by
    have hj:j=d:=hj
    subst hj
    exact hx3
  obtain ⟨i,o,a1,a2⟩:=hy1.at hu
  obtain ⟨ver,gd⟩:=h.hd
  have hdl:=AHeap.lt_of_get g0
  have hnd:NotAt ov d:=NotAt.of_from h.hf hdl
  have hw2:IntKind.i64.wrap ((k:Int)+1)=((k+1:Nat):Int):=by rw[wrap64 (by omega) (by omega)];omega
  rw[hdx]
  by_cases h8:u≥8192
  ·have z8:(u≥8192)=True:=eq_true h8
   have hu8:IntKind.i64.wrap (u - 8192)=u - 8192:=wrap64 (by omega) (by omega)
   have hM:mnU scr acc (u :: m.drop (k+1))=mnU scr (acc++[u - 8192]) (m.drop (k+1)):=by conv=>lhs;unfold mnU;rw[if_pos h8]
   obtain ⟨H1,v',H2,v1',q1,q2,q3,q4,q5,q6⟩:=OwnI.more (u:=u - 8192) h.ho (by omega)
   have hn:=h.hn
   have h2:MN d inv H0 H2 v' (acc++[u - 8192]) scr:=⟨⟨ver,by rw[q5 d (by omega) hnd];exact gd⟩,q2,q3.mono hn,by omega,fun j hj hjd=>by rw[q5 j (by omega) (NotAt.of_from h.hf hj),h.hk j hj hjd],h.hv.trans q6⟩
   obtain ⟨y,e',H',r1,r2⟩:=ih (k+1) H2 v' (acc++[u - 8192]) scr (by omega) (by rw[List.length_append,List.length_singleton];omega) hs h2
   rw[hM,w_loop_b b_iscii_Decoder__mean_0.eq_1]
   simp only[WA,Nat.reduceEqDiff,reduceCtorEq,hlt,a1,a2,z8,hu8,v1',q1,hw2]
   rw[w_enter]
   simp only[WA,Nat.reduceEqDiff,reduceCtorEq,r1]
   exact r2
  have z8:(u≥8192)=False:=eq_false h8
  by_cases h4:u≥4096
  ·have z4:(u≥4096)=True:=eq_true h4
   have hu4:IntKind.i64.wrap (u - 4096)=u - 4096:=wrap64 (by omega) (by omega)
   have hM:mnU scr acc (u :: m.drop (k+1))=mnU (u - 4096) acc (m.drop (k+1)):=by conv=>lhs;unfold mnU;rw[if_neg h8,if_pos h4]
   have st:=id_set1 (H:=H) (i:=d) (ver:=ver) (el:=138) (a:=inv) (b:=.int .i64 scr) (x:=.int .i64 (u - 4096)) rfl
   obtain ⟨H2,hH2⟩:∃ H2,H2=H.upd d ⟨[inv,.int .i64 (u - 4096)],138,.tip,ver+1,[]⟩:=⟨_,rfl⟩
   rw[← hH2] at st
   have h2:MN d inv H0 H2 ov acc (u - 4096):=⟨⟨_,by rw[hH2];exact upd_self gd⟩,own_at h.ho fun j hj=>by rw[hH2,upd_other gd (fun e=>hj (by rw[e];exact hnd))],h.hf,by rw[hH2];simp;exact h.hn,fun j hj hjd=>by rw[hH2,upd_other gd hjd,h.hk j hj hjd],h.hv.trans (by rw[hH2];exact VerLe.upd gd (Nat.le_succ _) rfl (fun e=>by simp only at e;omega))⟩
   obtain ⟨y,e',H',r1,r2⟩:=ih (k+1) H2 ov acc (u - 4096) (by omega) (by omega) (by omega) h2
   rw[hM,w_loop_b b_iscii_Decoder__mean_0.eq_1]
   simp only[WA,Nat.reduceEqDiff,reduceCtorEq,hlt,a1,a2,z8,z4,hu4,gd,st,hw2]
   rw[w_enter]
   simp only[WA,Nat.reduceEqDiff,reduceCtorEq,r1]
   exact r2
  ·have z4:(u≥4096)=False:=eq_false h4
   have cs:=c_IScalar (s:=scr) (p:=u) (by omega) (by omega) H
   have hM:mnU scr acc (u :: m.drop (k+1))=mnU scr (acc++[2304+128*scr+u]) (m.drop (k+1)):=by conv=>lhs;unfold mnU;rw[if_neg h8,if_neg h4]
   obtain ⟨H1,v',H2,v1',q1,q2,q3,q4,q5,q6⟩:=OwnI.more (u:=2304+128*scr+u) h.ho (by omega)
   have hn:=h.hn
   have h2:MN d inv H0 H2 v' (acc++[2304+128*scr+u]) scr:=⟨⟨ver,by rw[q5 d (by omega) hnd];exact gd⟩,q2,q3.mono hn,by omega,fun j hj hjd=>by rw[q5 j (by omega) (NotAt.of_from h.hf hj),h.hk j hj hjd],h.hv.trans q6⟩
   obtain ⟨y,e',H',r1,r2⟩:=ih (k+1) H2 v' (acc++[2304+128*scr+u]) scr (by omega) (by rw[List.length_append,List.length_singleton];omega) hs h2
   rw[hM,w_loop_b b_iscii_Decoder__mean_0.eq_1]
   simp only[WA,Nat.reduceEqDiff,reduceCtorEq,hlt,a1,a2,z8,z4,gd,cs,v1',q1,hw2]
   rw[w_enter]
   simp only[WA,Nat.reduceEqDiff,reduceCtorEq,r1]
   exact r2
theorem hQtokF (B:Nat) (H:AHeap):∀ (H':AHeap) (row:List Value) (r:Tok),(∀ j blk,H.get j=some blk→blk.elem≠36→H'.get j=some blk)→tokF B Tryz.prog H row r→tokF B Tryz.prog H' row r:=fun H' row r hk h=>tokF_elem (el:=36) (s:=4) (by kernel_rfl) (by decide) hk h
structure MT (d B:Nat) (inv v:Value) (H0 H:AHeap) (T:List Tok) (scr:Int):Prop where
 hd:∃ ver,H.get d=some ⟨[inv,.int .i64 scr],138,.tip,ver,[]⟩
 ht:OwnTF B H v T
 ha:AncB B H 36 v
 hn:H0.n≤H.n
 hl:∀ j,j<B→j≠d→H.get j=H0.get j
 hk:∀ j b,H0.get j=some b→b.elem≠36→j≠d→H.get j=some b
def PN1 (d B:Nat) (inv v:Value) (H0:AHeap) (z:List Tok × Int) (y:AEx) (e':Env) (H':AHeap):Prop:=y=.exit 0∧eget e' 1=v∧MT d B inv v H0 H' z.1 z.2
def mnA (scr:Int) (T:List Tok) (k:Nat):List Tok × Int:=((mnT scr (T.take k)).1++T.drop k,(mnT scr (T.take k)).2)
theorem mnT_snoc:∀ (T:List Tok) (scr:Int) (x:Tok),mnT scr (T++[x])=((mnT scr T).1++[⟨x.at_,x.len,(mnU (mnT scr T).2 [] x.out).1,x.err⟩],(mnU (mnT scr T).2 [] x.out).2)
 | [],scr,x=>rfl
 | y :: T,scr,x=>by
  rw[List.cons_append]
  unfold mnT
  rw[mnT_snoc T]
  rfl
theorem mnT_len:∀ (T:List Tok) (scr:Int),(mnT scr T).1.length=T.length
 | [],scr=>rfl
 | y :: T,scr=>by unfold mnT;simp[mnT_len T]
theorem mnU_len:∀ (m:List Int) (scr:Int) (acc:List Int),(mnU scr acc m).1.length≤acc.length+m.length
 | [],scr,acc=>by simp[mnU]
 | u :: m,scr,acc=>by
  unfold mnU
  rw[List.length_cons]
  split
  ·have:=mnU_len m scr (acc++[u - 8192]);rw[List.length_append,List.length_singleton] at this;omega
  split
  ·have:=mnU_len m (u - 4096) acc;omega
  ·have:=mnU_len m scr (acc++[2304+128*scr+u]);rw[List.length_append,List.length_singleton] at this;omega
theorem mnU_scr:∀ (m:List Int) (scr:Int) (acc:List Int),okN m→0≤scr∧scr<100000→0≤(mnU scr acc m).2∧(mnU scr acc m).2<100000
 | [],scr,acc,_,h=>h
 | u :: m,scr,acc,hm,h=>by
  have h1:=hm u (List.mem_cons_self ..)
  have h2:okN m:=fun v hv=>hm v (List.mem_cons_of_mem _ hv)
  unfold mnU
  split
  ·exact mnU_scr m _ _ h2 h
  split
  ·exact mnU_scr m _ _ h2 (by omega)
  ·exact mnU_scr m _ _ h2 h
theorem mnT_scr:∀ (T:List Tok) (scr:Int),(∀ x∈T,okN x.out)→0≤scr∧scr<100000→0≤(mnT scr T).2∧(mnT scr T).2<100000
 | [],scr,_,h=>h
 | x :: T,scr,hm,h=>by
  unfold mnT
  exact mnT_scr T _ (fun y hy=>hm y (List.mem_cons_of_mem _ hy)) (mnU_scr x.out scr [] (hm x (List.mem_cons_self ..)) h)
theorem l_mn1 {d B:Nat} {inv v:Value} {H0:AHeap} {T:List Tok} {scr:Int} (hT:∀ x∈T,okN x.out∧x.out.length<1000) (hs:0≤scr∧scr<100000) (hf:From B v) (hdB:d<B) (hBn:B≤H0.n) (hTl:T.length<1000000):∀ (c k:Nat) (H:AHeap),k+c=T.length→MT d B inv v H0 H (mnA scr T k).1 (mnA scr T k).2 →
  Out (run Tryz.prog (tabF tab) om1 (.loop [0,1,10,11,12] b_iscii_Decoder__mean_1) [(0,.pointer (some ⟨d,0,none⟩)),(1,v),(10,v),(11,.int .i64 T.length),(12,.int .i64 k)] H) (PN1 d B inv v H0 (mnT scr T)):=by
 intro c
 induction c with
 | zero=>
  intro k H hk h
  obtain rfl:k=T.length:=by omega
  have zz:(((T.length:Nat):Int)<(T.length:Nat))=False:=by simp
  have hA:mnA scr T T.length=mnT scr T:=by unfold mnA;rw[List.take_of_length_le (Nat.le_refl _),List.drop_of_length_le (Nat.le_refl _),List.append_nil]
  rw[hA] at h
  rw[w_loop_b b_iscii_Decoder__mean_1.eq_1]
  simp only[WA,Nat.reduceEqDiff,reduceCtorEq,zz]
  exact ⟨rfl,rfl,h⟩
 | succ c ih=>
  intro k H hk h
  have hlt:((k:Int)<(T.length:Nat))=True:=eq_true (by omega)
  obtain ⟨x,hxk,hdx⟩:=drop_at (L:=T) (i:=k) (by omega)
  obtain ⟨hx1,hx2⟩:=hT x (List.mem_of_getElem? hxk)
  obtain ⟨s,hs'⟩:∃ s,(mnT scr (T.take k)).2=s:=⟨_,rfl⟩
  have hsb:0≤s∧s<100000:=by rw[← hs'];exact mnT_scr _ scr (fun y hy=>(hT y (List.mem_of_mem_take hy)).1) hs
  have hA1:(mnA scr T k).1=(mnT scr (T.take k)).1++x :: T.drop (k+1):=by unfold mnA;rw[hdx]
  have hA2:(mnA scr T k).2=s:=hs'
  have hAk:(mnA scr T k).1[k]?=some x:=by
   rw[hA1,List.getElem?_append_right (by rw[mnT_len,List.length_take];omega),mnT_len,List.length_take,Nat.min_eq_left (by omega),Nat.sub_self]
   rfl
  have hAs:mnA scr T (k+1)=((mnA scr T k).1.set k ⟨x.at_,x.len,(mnU s [] x.out).1,x.err⟩,(mnU s [] x.out).2):=by
   have ht:T.take (k+1)=T.take k++[x]:=by rw[List.take_add_one,hxk];rfl
   unfold mnA
   rw[ht,mnT_snoc,hs',hdx]
   simp only
   rw[List.set_append_right _ _ (by rw[mnT_len,List.length_take];omega),mnT_len,List.length_take,Nat.min_eq_left (by omega),Nat.sub_self,List.append_assoc]
   rfl
  rw[hA2] at h
  obtain ⟨⟨ver,gd⟩,ht,ha,hn,hl,hkk⟩:=h
  obtain ⟨i,o,row,a1,_,_,a6,⟨p,cc,hrow,a7,a8,a9⟩,a10⟩:=ht.rws.at hAk
  have hrow:row=tokC p cc x:=hrow
  subst hrow
  obtain ⟨H1,hH1⟩:∃ H1,H1=H.push ⟨tokC p cc x,36,.tip,1,[]⟩:=⟨_,rfl⟩
  have x1:Ext H H1:=by rw[hH1];exact Ext.push H _
  have g1:H1.get H.n=some ⟨tokC p cc x,36,.tip,1,[]⟩:=by rw[hH1];exact get_push_self
  have gd1:=x1.get gd
  have x1n:=x1.1
  have hxd:NotAt (.slice p x.out.length cc) d:=NotAt.of_from (a10 p _ cc rfl) hdB
  obtain ⟨y',e2,H2,p1,rfl,p2,p3,p4,p5,p6,p7,p8⟩:=l_mn0 (d:=d) (inv:=inv) (v1:=v) (v5:=.int .i64 k) (v10:=v) (v11:=.int .i64 T.length) (v12:=.int .i64 k) (x:=.slice p x.out.length cc) (H0:=H1) hx1 hx2 (fun _=>⟨a7.ext x1,a9.ext x1,hxd⟩) ⟨ver,_,gd1⟩ x.out.length 0 H1 (.slice none 0 0) [] s (by omega) (by simp) hsb ⟨⟨ver,gd1⟩,OwnI.nil,trivial,Nat.le_refl _,fun _ _ _=>rfl,VerLe.refl _⟩
  rw[List.drop_zero] at p8
  rw[show ((0:Nat):Int)=0 from rfl] at p1
  obtain ⟨acc,hacc⟩:∃ acc,(mnU s [] x.out).1=acc:=⟨_,rfl⟩
  rw[hacc] at p8 hAs
  obtain ⟨⟨ver2,gd2⟩,ho2,hf2,hn2,hk2,hv2⟩:=p8
  have hb2:∀ j b,H1.get j=some b→b.elem≠138→H2.get j=some b:=fun j b hj he=>by
   rw[hk2 j (AHeap.lt_of_get hj) (fun e=>by subst e;rw[gd1] at hj;injection hj with hj;subst hj;exact he rfl)]
   exact hj
  have helD:(Tryz.prog.info? 138).map (·.size)=some 2:=by kernel_rfl
  have ht1:=OwnRws.ext tokF_mono x1 ht
  have ht2:OwnTF B H2 v (mnA scr T k).1:=by
   obtain ⟨q0,cs,q1,q2⟩:=ht1
   exact ⟨q0,cs,q1.move fun i b hi he=>hb2 i b hi (by rw[he];decide),fun k r hr=>tokF_elem helD (by decide) hb2 (q2 k r hr)⟩
  have ha2:AncB B H2 36 v:=(ha.ext x1).move hv2 fun i b hi hna=>by
   obtain ⟨q0,cs,q1,q2⟩:=ht1
   obtain ⟨b',hb',he⟩:=own_here q1 hna
   rw[hi] at hb'
   injection hb' with hb'
   subst hb'
   exact hb2 i b hi (by rw[he];decide)
  have hone:(eget e2 7).cells.toList=[eget e2 7]∧one (eget e2 7)=true:=by
   obtain ⟨⟨u1,u2,hu⟩,_⟩:=ho2.sl
   rw[hu]
   exact ⟨rfl,rfl⟩
  obtain ⟨b,b1,row',b2,b3,⟨⟨p',c',hrow',_⟩,_⟩,H3,b4,b5,b6,b7,b8,b9,b10⟩:=ht2.store (f:=2) (u:=eget e2 7) hf ha2 hAk (by decide) hone.1 hone.2 (hQtokF B H2)
  have ho3:OwnI H3 (eget e2 7) acc:=Own.move ho2 fun i b hi he=>b7 i b hi (by rw[he];decide)
  have b10':=b10 ⟨x.at_,x.len,acc,x.err⟩ (by
   rw[hrow']
   obtain ⟨⟨u1,u2,hu⟩,_⟩:=ho2.sl
   rw[hu]
   refine ⟨⟨u1,u2,rfl,?_,?_,?_⟩,fun a n c e=>?_⟩
   ·rw[← hu];exact OwnI.asI ho3
   ·have:=mnU_len x.out s []
    rw[hacc] at this
    unfold Lon.tiny
    simp only[List.length_nil] at this
    simp only
    omega
   ·rw[← hu];exact OwnI.cutI ho3
   ·have e:some (Value.slice u1 acc.length u2)=some (.slice a n c):=e
    injection e with e
    rw[← e,← hu]
    exact hf2.mono (by omega))
  have hsz:H3.n=H2.n:=b5
  obtain ⟨y,e',H',r1,r2⟩:=ih (k+1) H3 (by omega) (by
   rw[hAs]
   exact ⟨⟨ver2,b7 _ _ gd2 (by simp only;decide)⟩,b10',b8,by omega,fun j hj hjd=>by rw[b6 j hj,hk2 j (by omega) hjd,x1.2 j (by omega),hl j hj hjd],fun j b hj he hjd=>b7 j b (by
    rw[hk2 j (by have:=AHeap.lt_of_get (hkk j b hj he hjd);omega) hjd]
    exact x1.get (hkk j b hj he hjd)) he⟩)
  have hw2:IntKind.i64.wrap ((k:Int)+1)=((k+1:Nat):Int):=by rw[wrap64 (by omega) (by omega)];omega
  rw[w_loop_b b_iscii_Decoder__mean_1.eq_1]
  simp only[WA,Nat.reduceEqDiff,reduceCtorEq,hlt,a1,a6,got_tok,← hH1,g1,tk2]
  rw[w_enter]
  simp only[WA,Nat.reduceEqDiff,reduceCtorEq,p1,p3,p4,p7,b1,b4,hw2]
  rw[w_enter]
  simp only[WA,Nat.reduceEqDiff,reduceCtorEq,p2,p3,p5,p6,p7,r1]
  exact r2
theorem c_mean {d B ver:Nat} {inv v:Value} {H:AHeap} {T:List Tok} {scr:Int} (hT:∀ x∈T,okN x.out∧x.out.length<1000) (hs:0≤scr∧scr<100000) (hTl:T.length<1000000) (hd:H.get d=some ⟨[inv,.int .i64 scr],138,.tip,ver,[]⟩) (hdB:d<B) (hBn:B≤H.n) (ht:OwnTF B H v T) (hf:From B v) (ha:AncB B H 36 v) :
  Gives (cw Tryz.prog (tabF tab) om1 168 [.pointer (some ⟨d,0,none⟩),v] H) fun w H'=>w=v∧MT d B inv v H H' (mnT scr T).1 (mnT scr T).2:=by
 rw[cw_run (F:=F_iscii_Decoder__mean) rfl rfl rfl]
 unfold F_iscii_Decoder__mean k_iscii_Decoder__mean
 have hw:=fun H9=>Rws.len (H2:=H9) ht.rws
 obtain ⟨y,e',H',r1,rfl,r2,r3⟩:=l_mn1 (H0:=H) (T:=T) (scr:=scr) hT hs hf hdB hBn hTl T.length 0 H (by omega) ⟨⟨ver,hd⟩,by unfold mnA;rw[List.take_zero,List.drop_zero];exact ht,ha,Nat.le_refl _,fun _ _ _=>rfl,fun j b hj _ _=>hj⟩
 rw[show ((0:Nat):Int)=0 from rfl] at r1
 simp only[WA,Nat.reduceEqDiff,reduceCtorEq,hw]
 rw[w_enter]
 simp only[WA,Nat.reduceEqDiff,reduceCtorEq,r1,r2]
 exact r3
theorem takeF_mem {L:List Rl} (hR:Right L) {e:Bool}:∀ (c:Nat) (w:List Int) (a st:Int),∀ x∈(takeF L e c w a st).1,(x.err=3∧x.out=[])∨(x.err=0∧x.out.length≤8∧∃ r∈L,x.out=r.2)
 | 0,w,a,st,x,hx=>absurd hx (by unfold takeF;simp)
 | c+1,w,a,st,x,hx=>by
  rw[takeF_succ] at hx
  by_cases hn:w=[]
  ·rw[if_pos hn] at hx
   exact absurd hx (by simp)
  rw[if_neg hn] at hx
  split at hx
  ·exact absurd hx (by simp)
  ·rcases List.mem_cons.1 hx with rfl | hx
   ·rcases oneT_is hR hn a with ⟨q1,_⟩ | ⟨k,n,r,_,_,_,_,q5,_,_,q8,q9⟩
    ·rw[q1];exact .inl ⟨rfl,rfl⟩
    ·rw[q9];exact .inr ⟨rfl,q8,r,List.mem_of_getElem? q5,rfl⟩
   ·exact takeF_mem hR c _ _ _ x hx
def okNB (m:List Int):Bool:=m.all fun u=>decide (0≤u∧u<100000)
theorem okN_of {m:List Int} (h:okNB m=true):okN m:=fun u hu=>by simpa using List.all_eq_true.1 h u hu
theorem Rind_okN:Rind.all (fun r=>okNB r.2&&decide (r.2.length<1000))=true:=by kernel_rfl
def okPB (m:List Int):Bool:=m.all fun u=>if u≥8192 then decide (u - 8192<55296) else if u≥4096 then decide (u<4105) else decide (0≤u∧u<128)
def okP (m:List Int):Prop:=∀ u∈m,(u≥8192→u - 8192<55296)∧(u<8192→u≥4096→u<4105)∧(u<4096→0≤u∧u<128)
theorem okP_of {m:List Int} (h:okPB m=true):okP m:=fun u hu=>by
 have:=List.all_eq_true.1 h u hu
 by_cases h8:u≥8192
 ·rw[if_pos h8,decide_eq_true_eq] at this
  exact ⟨fun _=>this,fun h=>absurd h8 (by omega),fun h=>absurd h8 (by omega)⟩
 rw[if_neg h8] at this
 by_cases h4:u≥4096
 ·rw[if_pos h4,decide_eq_true_eq] at this
  exact ⟨fun h=>absurd h h8,fun _ _=>this,fun h=>absurd h4 (by omega)⟩
 rw[if_neg h4,decide_eq_true_eq] at this
 exact ⟨fun h=>absurd h h8,fun _ h=>absurd h h4,fun _=>this⟩
theorem Rind_okP:Rind.all (fun r=>okPB r.2)=true:=by kernel_rfl
theorem tok_okP {e:Bool} {c:Nat} {w:List Int} {a st:Int}:∀ x∈(takeF Rind e c w a st).1,okP x.out:=fun x hx=>by
 rcases takeF_mem Rind_right c w a st x hx with ⟨_,h⟩ | ⟨_,_,r,hr,h⟩
 ·rw[h];exact fun u hu=>absurd hu (by simp)
 ·rw[h];exact okP_of (List.all_eq_true.1 Rind_okP r hr)
theorem mnU_okS:∀ (m:List Int) (scr:Int) (acc:List Int),okP m→(0≤scr∧scr<9)→(∀ u∈acc,okS u)→(0≤(mnU scr acc m).2∧(mnU scr acc m).2<9)∧∀ u∈(mnU scr acc m).1,okS u
 | [],scr,acc,_,hs,ha=>⟨hs,ha⟩
 | u :: m,scr,acc,hm,hs,ha=>by
  obtain ⟨h1,h2,h3⟩:=hm u (List.mem_cons_self ..)
  have hm2:okP m:=fun v hv=>hm v (List.mem_cons_of_mem _ hv)
  have hap:∀ v:Int,okS v→∀ y∈acc++[v],okS y:=fun v hv y hy=>by
   rcases List.mem_append.1 hy with hy | hy
   ·exact ha y hy
   ·rw[List.mem_singleton.1 hy];exact hv
  unfold mnU
  by_cases h8:u≥8192
  ·rw[if_pos h8]
   have:=h1 h8
   exact mnU_okS m scr _ hm2 hs (hap _ ⟨by omega,by omega,.inl (by omega)⟩)
  rw[if_neg h8]
  by_cases h4:u≥4096
  ·rw[if_pos h4]
   have:=h2 (by omega) h4
   exact mnU_okS m _ acc hm2 (by omega) ha
  rw[if_neg h4]
  have:=h3 (by omega)
  exact mnU_okS m scr _ hm2 hs (hap _ ⟨by omega,by omega,.inl (by omega)⟩)
theorem mnT_okS:∀ (T:List Tok) (scr:Int),(∀ x∈T,okP x.out)→(0≤scr∧scr<9)→(0≤(mnT scr T).2∧(mnT scr T).2<9)∧∀ x∈(mnT scr T).1,∀ u∈x.out,okS u
 | [],scr,_,hs=>⟨hs,fun x hx=>absurd hx (by unfold mnT;simp)⟩
 | x :: T,scr,hm,hs=>by
  obtain ⟨h1,h2⟩:=mnU_okS x.out scr [] (hm x (List.mem_cons_self ..)) hs (fun u hu=>absurd hu (by simp))
  obtain ⟨h3,h4⟩:=mnT_okS T _ (fun y hy=>hm y (List.mem_cons_of_mem _ hy)) h1
  unfold mnT
  refine ⟨h3,fun y hy=>?_⟩
  rcases List.mem_cons.1 hy with rfl | hy
  ·exact h2
  ·exact h4 y hy
theorem tok_ok {e:Bool} {c:Nat} {w:List Int} {a st:Int}:∀ x∈(takeF Rind e c w a st).1,okN x.out∧x.out.length<1000:=fun x hx=>by
 rcases takeF_mem Rind_right c w a st x hx with ⟨_,h⟩ | ⟨_,_,r,hr,h⟩
 ·rw[h];exact ⟨fun u hu=>absurd hu (by simp),by simp⟩
 ·rw[h]
  have:=List.all_eq_true.1 Rind_okN r hr
  simp only[Bool.and_eq_true,decide_eq_true_eq] at this
  exact ⟨okN_of this.1,this.2⟩
abbrev ISt:=MSt × Int
def rsI (st:ISt) (u:Int):List Tok × ISt:=((mnT st.2 (rdS Rind st.1 u).1).1,((rdS Rind st.1 u).2,(mnT st.2 (rdS Rind st.1 u).1).2))
def rfI (st:ISt):List Tok × ISt:=((mnT st.2 (rdF Rind st.1).1).1,((rdF Rind st.1).2,(mnT st.2 (rdF Rind st.1).1).2))
def RdI (v:Value) (n:Nat) (H:AHeap) (st:ISt) (C D:NS):Prop:=∃ k d i m t ver ver2 Hs C0 D0,v=.iface 102 (.pointer (some ⟨i,0,none⟩))∧H.get i=some ⟨[.iface 139 (.pointer (some ⟨d,0,none⟩)),.int .i64 st.2],138,.tip,ver2,[]⟩∧D0 d∧¬ C0 d∧¬ D0 i∧H.get d=some ⟨[.pointer (some ⟨m,0,none⟩)],143,.tip,ver,[]⟩∧MX k Hs H m t Rind st.1.1 st.1.2.1 st.1.2.2 C0 D0∧Mi Rind n st.1∧(0≤st.2∧st.2<9)∧(∀ j,D0 j→∃ b,H.get j=some b∧b.elem≠36)∧C=(fun j=>C0 j∨j=i)∧D=fun j=>D0 j∨j=i
theorem me_JP : methA Tryz.prog 102 "Put" = some (167, none) := by kernel_rfl
theorem me_JE : methA Tryz.prog 102 "End" = some (165, none) := by kernel_rfl
theorem jd_tail {n' k d i m t ver ver2:Nat} {Hs H H1:AHeap} {C0 D0:NS} {st:ISt} {e:Bool} {w:List Int} {a s:Int} {x:Value} (hi:H.get i=some ⟨[.iface 139 (.pointer (some ⟨d,0,none⟩)),.int .i64 st.2],138,.tip,ver2,[]⟩) (dd:D0 d) (cd:¬ C0 d) (di:¬ D0 i) (gd:H.get d=some ⟨[.pointer (some ⟨m,0,none⟩)],143,.tip,ver,[]⟩) (hX:MX k Hs H m t Rind st.1.1 st.1.2.1 st.1.2.2 C0 D0) (hs:0≤st.2∧st.2<9) (hfr:∀ j,D0 j→∃ b,H.get j=some b∧b.elem≠36)
  (hw:w.length≤8) (r1:MS (cutN H k) H1 m t (takeW Rind e w a s).2.1 (takeW Rind e w a s).2.2.1 (takeW Rind e w a s).2.2.2) (r3:From H.n x) (r4:Kx H H1) (ra:AncB H.n H1 36 x) (r5:OnlyM m H H1) (r6:OwnTF H.n H1 x (takeW Rind e w a s).1) (hMi:Mi Rind n' (takeW Rind e w a s).2) :
  ∃ H',cw Tryz.prog (tabF tab) om1 168 [.pointer (some ⟨i,0,none⟩),x] H1=some (x,H')∧H1.get i=some ⟨[.iface 139 (.pointer (some ⟨d,0,none⟩)),.int .i64 st.2],138,.tip,ver2,[]⟩∧OwnTA (fun j=>j<H.n) H' x (mnT st.2 (takeW Rind e w a s).1).1∧Rd (fun j=>C0 j∨j=i) H H'∧Only (fun j=>C0 j∨j=i) H H'∧∃ C' D',RdI (.iface 102 (.pointer (some ⟨i,0,none⟩))) n' H' ((takeW Rind e w a s).2,(mnT st.2 (takeW Rind e w a s).1).2) C' D'∧(∀ j,j<H.n→C' j→C0 j∨j=i)∧∀ j,j<H.n→D' j→D0 j∨j=i:=by
 have hil:=AHeap.lt_of_get hi
 have hon1:=hX.only r5 r4.1
 have hM1:=hX.of r1 r5 r4.1
 have r4n:=r4.1
 have ci:¬ C0 i:=fun h=>di (hX.cd i h)
 have gi1:H1.get i=some ⟨[.iface 139 (.pointer (some ⟨d,0,none⟩)),.int .i64 st.2],138,.tip,ver2,[]⟩:=by rw[hon1.2 i hil ci];exact hi
 have hTl:(takeW Rind e w a s).1.length≤w.length:=by
  obtain ⟨n,n1,_,_,_,_,n6,_⟩:=takeF_bd Rind_right (e:=e) w.length w a s
  have:(takeW Rind e w a s).1.length≤n:=n6
  omega
 obtain ⟨v2,H2,c2,rfl,hT⟩:=c_mean (B:=H.n) (T:=(takeW Rind e w a s).1) (fun x hx=>tok_ok x hx) ⟨hs.1,by omega⟩ (by omega) gi1 hil r4.1 r6 r3 ra
 obtain ⟨⟨ver3,gi2⟩,ht2,_,n2,l2,k2⟩:=hT
 have hold:∀ j,¬ NW H1 m j→j<H.n→C0 j:=fun j hj hl=>hX.old r5 j hl hj
 have hni:¬ ¬ NW H1 m i:=fun h=>ci (hold i h hil)
 have D1i:¬ (D0 i∨¬ NW H1 m i):=fun h=>h.elim di hni
 have tokf:∀ j,(D0 j∨¬ NW H1 m j)→∃ b,H1.get j=some b∧b.elem≠36:=fun j hj=>by
  rcases hj with hj | hj
  ·obtain ⟨b0,hb0,he0⟩:=hfr j hj
   by_cases hjm:j=m
   ·subst hjm
    obtain ⟨vw,ver9,q1,_⟩:=hM1.hm
    exact ⟨_,q1,by simp only;decide⟩
   ·by_cases hnw:NW H m j
    ·exact ⟨b0,by rw[r5.k j (AHeap.lt_of_get hb0) hjm hnw];exact hb0,he0⟩
    ·obtain ⟨vw,ver9,q1,q2,_⟩:=hX.hm
     obtain ⟨b',hb',he⟩:=own_here q2 (fun hx=>hnw (NW.of q1 hx))
     rw[hb0] at hb'
     injection hb' with hb'
     subst hb'
     obtain ⟨_,b1,hb1,he1,_⟩:=r4.2 j b0 hb0 (by rw[he];decide)
     exact ⟨b1,hb1,by rw[he1];exact he0⟩
  ·obtain ⟨vw,ver9,q1,q2,q3⟩:=hM1.hm
   have hj2:¬ NotAt vw j:=fun hx=>hj (NW.of q1 hx)
   obtain ⟨b',hb',he⟩:=own_here q2 hj2
   exact ⟨b',hb',by rw[he];decide⟩
 have hkeep:∀ j,(D0 j∨¬ NW H1 m j)→H2.get j=H1.get j:=fun j hj=>by
  have hji:j≠i:=fun e=>D1i (e▸hj)
  obtain ⟨b,hb,he⟩:=tokf j hj
  rw[hb]
  exact k2 j b hb he hji
 have hM2:=hM1.keep n2 hkeep
 have hon:Only (fun j=>C0 j∨j=i) H H2:=⟨by omega,fun j hj hc=>by rw[l2 j hj (fun e=>hc (.inr e)),hon1.2 j hj (fun h=>hc (.inl h))]⟩
 have gd2:H2.get d=some ⟨[.pointer (some ⟨m,0,none⟩)],143,.tip,ver,[]⟩:=by rw[hon.2 d (hX.dl d dd) (fun h=>h.elim cd fun e=>di (e▸dd))];exact gd
 refine ⟨H2,c2,gi1,ht2.ta,only_rd hon ?_,hon,_,_,⟨k,d,i,m,t,ver,ver3,Hs,_,_,rfl,gi2,.inl dd,fun h=>h.elim cd fun h=>cd (hold d h (hX.dl d dd)),D1i,gd2,hM2,hMi,(mnT_okS _ _ (fun x hx=>tok_okP x hx) hs).1,fun j hj=>by rw[hkeep j hj];exact tokf j hj,rfl,rfl⟩,fun j hj hc=>?_,fun j hj hc=>?_⟩
 ·intro j b hj hb
  rcases hj with hj | rfl
  ·obtain ⟨b0,hb0,he0⟩:=hfr j (hX.cd j hj)
   rw[hb] at hb0
   injection hb0 with hb0
   subst hb0
   exact he0
  ·rw[hi] at hb
   injection hb with hb
   subst hb
   simp only
   decide
 ·rcases hc with (hc | hc) | hc
  ·exact .inl hc
  ·exact .inl (hold j hc hj)
  ·exact .inr hc
 ·rcases hc with (hc | hc) | hc
  ·exact .inl hc
  ·exact .inl (hX.cd j (hold j hc hj))
  ·exact .inr hc
theorem mc_I {v:Value}:Mc (RdI v) v rsI rfI (fun u=>0≤u∧u<256) 900 where
 put:=by
  intro n H st C D u ⟨k,d,i,m,t,ver,ver2,Hs,C0,D0,hv,hi,dd,cd,di,gd,hX,hMi,hs,hfr,hC,hD⟩ hn hu
  subst hv hC hD
  have hl:=hMi.wt.len Rind_right
  have h2:=hMi.a0
  have h3:=hMi.an
  have h4:=hMi.s0
  have h5:=hMi.sn
  have hsq:((st.1.1.length:Int)+1)*((st.1.1.length:Int)+1)≤8*8:=Int.mul_le_mul (by omega) (by omega) (by omega) (by omega)
  obtain ⟨x,H1,c1,r1,r2,r3,r4,ra,r5,r6⟩:=c_Put (u:=u) hX.md.trie hX.md.ms (by omega) (by omega) (by omega)
  obtain ⟨H2,c2,gi1,q1,q2,q3,C',D',q4,q5,q6⟩:=jd_tail (n':=n+1) (w:=st.1.1++[u]) hi dd cd di gd hX hs hfr (by rw[List.length_append,List.length_singleton];omega) r1 r3 r4 ra r5 r6 (Mi.put Rind_right (u:=u) hMi)
  rw[inv_none me_JP]
  refine ⟨x,H2,?_,q1,q2,q3,C',D',q4,q5,q6⟩
  have ci:=inv_load (cf:=cw Tryz.prog (tabF tab) om1) (args:=[.int .i64 u]) me_DP gd
  rw[cw_run (F:=F_iscii_Decoder__Put) rfl rfl rfl]
  unfold F_iscii_Decoder__Put k_iscii_Decoder__Put
  simp only[WA,Nat.reduceEqDiff,reduceCtorEq,hi,st_inv,ci,c1,c2]
 fin:=by
  intro n H st C D ⟨k,d,i,m,t,ver,ver2,Hs,C0,D0,hv,hi,dd,cd,di,gd,hX,hMi,hs,hfr,hC,hD⟩ hn
  subst hv hC hD
  have hl:=hMi.wt.len Rind_right
  have h2:=hMi.a0
  have h3:=hMi.an
  have h4:=hMi.s0
  have h5:=hMi.sn
  have hsq:(st.1.1.length:Int)*(st.1.1.length:Int)≤8*8:=Int.mul_le_mul (by omega) (by omega) (by omega) (by omega)
  obtain ⟨x,H1,c1,r1,r2,r3,r4,ra,r5,r6⟩:=c_End hX.md.trie hX.md.ms (by omega) (by omega) (by omega)
  obtain ⟨H2,c2,gi1,q1,q2,q3,C',D',q4,q5,q6⟩:=jd_tail (n':=n) (w:=st.1.1) hi dd cd di gd hX hs hfr (by omega) r1 r3 r4 ra r5 r6 (Mi.fin Rind_right hMi)
  rw[inv_none me_JE]
  refine ⟨x,H2,?_,q1,q2,q3,C',D',q4,q5,q6⟩
  have ci:=inv_load (cf:=cw Tryz.prog (tabF tab) om1) (args:=[]) me_DE gd
  rw[cw_run (F:=F_iscii_Decoder__End) rfl rfl rfl]
  unfold F_iscii_Decoder__End k_iscii_Decoder__End
  simp only[WA,Nat.reduceEqDiff,reduceCtorEq,hi,st_inv,ci,c1,c2]
 keep:=by
  intro n H H' st C D ⟨k,d,i,m,t,ver,ver2,Hs,C0,D0,hv,hi,dd,cd,di,gd,hX,hMi,hs,hfr,hC,hD⟩ hn hk
  subst hD
  exact ⟨k,d,i,m,t,ver,ver2,Hs,C0,D0,hv,by rw[hk i (.inr rfl)];exact hi,dd,cd,di,by rw[hk d (.inl dd)];exact gd,hX.keep hn fun j hj=>hk j (.inl hj),hMi,hs,fun j hj=>by rw[hk j (.inl hj)];exact hfr j hj,hC,rfl⟩
 lt:=by
  intro n H st C D j ⟨k,d,i,m,t,ver,ver2,Hs,C0,D0,hv,hi,dd,cd,di,gd,hX,hMi,hs,hfr,hC,hD⟩ hj
  subst hD
  rcases hj with hj | rfl
  ·exact hX.dl j hj
  ·exact AHeap.lt_of_get hi
 sub:=by
  intro n H st C D j ⟨k,d,i,m,t,ver,ver2,Hs,C0,D0,hv,hi,dd,cd,di,gd,hX,hMi,hs,hfr,hC,hD⟩ hj
  subst hC hD
  exact hj.imp (hX.cd j) id
 mono:=by
  intro n n' H st C D ⟨k,d,i,m,t,ver,ver2,Hs,C0,D0,hv,hi,dd,cd,di,gd,hX,hMi,hs,hfr,hC,hD⟩ hn
  exact ⟨k,d,i,m,t,ver,ver2,Hs,C0,D0,hv,hi,dd,cd,di,gd,hX,hMi.mono hn,hs,hfr,hC,hD⟩
theorem c_Iall {H:AHeap}:Gives (cw Tryz.prog (tabF tab) om1 71 [] H) fun v H'=>Ext H H'∧∃ q,v=.pointer (some ⟨q,0,none⟩)∧TableOk H' q Rind:=by
 rw[cw_run (F:=F_iscii_all) rfl rfl rfl]
 unfold F_iscii_all k_iscii_all
 obtain ⟨v1,H1,c1,x1,r1,k1,q1⟩:=c_IRules (H:=H)
 obtain ⟨v2,H2,c2,x2,q,rfl,hT⟩:=c_TOf r1 k1 q1 Rind_right (Nat.le_of_ble_eq_true Rind_len) Rind_cls
 simp only[WA,Nat.reduceEqDiff,reduceCtorEq,c1,c2]
 exact ⟨x1.trans x2,q,rfl,hT⟩
theorem v_idec {H:AHeap} {t:TypeId} {d:Nat}:vBuild [.nilIface,.int .i64 0] [(0,1,.iface t (.pointer (some ⟨d,0,none⟩)))] H=some (.agg ⟨[.iface t (.pointer (some ⟨d,0,none⟩)),.int .i64 0]⟩,H):=rfl
theorem c_IDecode {H:AHeap}:Gives (cw Tryz.prog (tabF tab) om1 42 [] H) fun v H'=>∃ i C D,v=.pointer (some ⟨i,0,none⟩)∧RdI (.iface 102 (.pointer (some ⟨i,0,none⟩))) 0 H' (([],0,0),0) C D∧NewM H H' C D:=by
 rw[cw_run (F:=F_iscii_Decode) rfl rfl rfl]
 unfold F_iscii_Decode k_iscii_Decode
 obtain ⟨v1,H1,c1,x1,q,rfl,hT⟩:=c_Iall (H:=H)
 obtain ⟨v2,H2,c2,x2,hM⟩:=c_MDecode hT
 obtain ⟨d,m,t,ver,rfl,hd,gd,hMD⟩:=hM.md
 obtain ⟨vw,ver2,gm,q2,q3⟩:=hMD.hm
 have hv:vw=.slice none 0 0:=by
  obtain ⟨_,⟨h,_⟩ | ⟨b,ver,anc,_,h,_⟩⟩:=q2
  ·exact h
  ·exact absurd h (by simp)
 subst hv
 obtain ⟨H3,hH3⟩:∃ H3,H3=H2.push ⟨[.iface 139 (.pointer (some ⟨d,0,none⟩)),.int .i64 0],138,.tip,0,[]⟩:=⟨_,rfl⟩
 have x3:Ext H2 H3:=by rw[hH3];exact Ext.push H2 _
 have g3:H3.get H2.n=some ⟨[.iface 139 (.pointer (some ⟨d,0,none⟩)),.int .i64 0],138,.tip,0,[]⟩:=by rw[hH3];exact get_push_self
 have hbx:vBox (.agg ⟨[.iface 139 (.pointer (some ⟨d,0,none⟩)),.int .i64 0]⟩) 138 H2=some (.pointer (some ⟨H2.n,0,none⟩),H3):=by rw[hH3];exact v_box rfl
 simp only[WA,Nat.reduceEqDiff,reduceCtorEq,c1,c2,v_idec,hbx]
 have hdl:=AHeap.lt_of_get gd
 have hml:=AHeap.lt_of_get gm
 have hdm:d≠m:=fun e=>by
  rw[e,gm] at gd
  injection gd with gd
  injection gd with _ gd
  exact absurd gd (by decide)
 have hkm:=hMD.km
 have hkn:=hMD.kn
 have x1n:=x1.1
 have x2n:=x2.1
 have x3n:=x3.1
 have gd3:=x3.get gd
 have gm3:=x3.get gm
 have hX:MX H1.n H2 H2 m t Rind [] 0 0 (fun j=>j=m) (fun j=>j=d∨j=m∨(j<H1.n∧∃ b,H2.get j=some b∧isT b.elem=true)):=⟨hkn,hkn,hkm,hMD.trie,⟨_,ver2,gm,q2,q3⟩,fun j b hj hb he=>⟨.inr (.inr ⟨hj,b,hb,he⟩),hb⟩,rfl,fun j hj=>absurd (NW.of gm (vw:=.slice none 0 0) trivial) hj,fun j hj=>by have hj:j=m:=hj;omega,fun j hj=>.inr (.inl hj),fun j hj=>by
  rcases hj with rfl | rfl | ⟨hj,_⟩
  ·exact hdl
  ·exact hml
  ·omega⟩
 have hX3:=hX.keep x3.1 fun j hj=>x3.2 j (hX.dl j hj)
 refine ⟨H2.n,_,_,rfl,⟨H1.n,d,H2.n,m,t,ver,0,H2,fun j=>j=m,_,rfl,g3,.inl rfl,hdm,fun h=>by have:=hX.dl _ h;omega,gd3,hX3,⟨⟨.inl rfl⟩,by decide,by decide,by decide,by decide⟩,by decide,fun j hj=>?_,rfl,rfl⟩,(x1.trans x2).trans x3,fun j hj=>?_,fun j hj hl b hb=>?_⟩
 ·rcases hj with rfl | rfl | ⟨hj,b,hb,ht⟩
  ·exact ⟨_,gd3,by simp only;decide⟩
  ·exact ⟨_,gm3,by simp only;decide⟩
  ·exact ⟨b,x3.get hb,fun e=>by rw[e] at ht;exact absurd ht (by decide)⟩
 ·rcases hj with hj | rfl
  ·have hj:j=m:=hj
   subst hj
   exact ⟨by omega,_,gm3,by simp only;decide⟩
  ·exact ⟨by omega,_,g3,by simp only;decide⟩
 ·rcases hj with (rfl | rfl | ⟨_,b',hb',ht⟩) | rfl
  ·omega
  ·omega
  ·rw[x3.get hb'] at hb
   injection hb with hb
   subst hb
   exact isF_T ht
  ·omega
theorem mk_I {H:AHeap}:Gives (cw Tryz.prog (tabF tab) om1 18 [.string (nm 7)] H) fun v H'=>∃ rv C D,v=.tuple ⟨[rv,.int .i64 0]⟩∧one rv=true∧RdI rv 0 H' (([],0,0),0) C D∧NewM H H' C D:=by
 rw[cw_run (F:=F_codec_Decode) rfl rfl rfl]
 unfold F_codec_Decode k_codec_Decode
 have hn:=c_Name (H:=H) (k:=7) (by omega)
 have e0:=e_utf 7 (by omega)
 have e7:=e_iscii 7 (by omega)
 rw[show Nat.beq 7 0=false from rfl] at e0
 rw[show Nat.beq 7 7=true from rfl] at e7
 obtain ⟨v1,H1,c1,i,C,D,rfl,q1,q2⟩:=c_IDecode (H:=H)
 have z0:((0:Int)≠0)=False:=by simp
 simp only[WA,Nat.reduceEqDiff,reduceCtorEq,hn,z0,st_bin gS,e0,e7,c1]
 exact ⟨_,C,D,rfl,rfl,q1,q2⟩
end Go.Proofs.YtleiinhaljdcoaaGreatDoor
