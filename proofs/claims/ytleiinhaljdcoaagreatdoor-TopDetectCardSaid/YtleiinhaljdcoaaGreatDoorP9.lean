/- What is proved here: what the program's functions come to, as far as the claimed statement asks. Conditions: those that each theorem names, and no others. -/
import Derived.Test.YtleiinhaljdcoaaGreatDoorP8
set_option linter.unusedSimpArgs false
set_option linter.unusedVariables false
namespace Go.Proofs.YtleiinhaljdcoaaGreatDoor
open Go Lon
set_option maxRecDepth 100000
structure MSX (X:Value→Prop) (H0 H:q0a) (m t:Nat) (w:List Int) (a st:Int):Prop where
 mB:H0.n≤m
 ext:Ext H0 H
 hm:∃vw ver,H.get m=some ⟨[.pointer (some ⟨t,0,none⟩),vw,.int .i64 a,.int .i64 st],197,.tip,ver,[]⟩∧Own H 3 1 vw w.length (ints w)∧From H0.n vw∧X vw
abbrev MS:=MSX fun _=>True
def q3o (L:List Rl) (e:Bool):Nat→List Int→Int→Int→List Tok×List Int×Int×Int
 | 0,w,a,st=>([],w,a,st)
 | c+1,w,a,st=>if w=[] then ([],w,a,st) else if (lgs L w).2.2=true∧e=false then ([],w,a,st+w.length) else
   (oneT L w a::(q3o L e c (w.drop (oneT L w a).len.toNat) (a+(oneT L w a).len) (st+w.length)).1,(q3o L e c (w.drop (oneT L w a).len.toNat) (a+(oneT L w a).len) (st+w.length)).2)
theorem q6L {L : List Rl} {e : Bool} {c : Nat} {w : List Int} {a st : Int} : q3o L e (c + 1) w a st = if w = [] then ([],w,a,st) else if (lgs L w).2.2 = true ∧ e = false then ([],w,a,st + w.length) else
   (oneT L w a::(q3o L e c (w.drop (oneT L w a).len.toNat) (a+(oneT L w a).len) (st+w.length)).1,(q3o L e c (w.drop (oneT L w a).len.toNat) (a+(oneT L w a).len) (st+w.length)).2):=rfl
theorem v_mk {H:q0a} {a n:Int}:q2l [.int .i64 0,.int .i64 0,.slice none 0 0,.int .i64 0] [(0,1,.int .i64 a),(1,1,.int .i64 n)] H=some (.agg ⟨[.int .i64 a,.int .i64 n,.slice none 0 0,.int .i64 0]⟩,H):=rfl
theorem z9L {H:q0a} {el:TypeId} {x y z u:Value}:q0D el 1 4 [.int .i64 0,.int .i64 0,.slice none 0 0,.int .i64 0] [(0,4,.agg ⟨[x,y,z,u]⟩)] H=some (.slice (some ⟨H.n,0,none⟩) 1 2,H.push ⟨[x,y,z,u],el,.tip,0,[]⟩):=rfl
set_option maxHeartbeats 1600000 in
def tokF (B:Nat) (P:Program) (H:q0a) (cs:List Value) (t:Tok):Prop:=tokQ P H cs t∧∀a n c,cs[2]?=some (.slice a n c)→From B (.slice a n c)
theorem q3g {B:Nat} {P:Program}:k7z (tokF B P):=fun _ _ _ _ hk ⟨h1,h2⟩=>⟨k2R hk h1,h2⟩
theorem q6M {B:Nat} {P:Program} {H H':q0a} {cs:List Value} {t:Tok} {el:TypeId} {s:Nat} (hel:(P.info? el).map (·.size)=some s) (hs:s≠1) (hk:∀j blk,H.get j=some blk→blk.elem≠el→H'.get j=some blk) (h:tokF B P H cs t):tokF B P H' cs t:=⟨k2S hel hs hk h.1,h.2⟩
theorem From.len {B n n' c c':Nat} {a:Option Addr} (h:From B (.slice a n c)):From B (.slice a n' c'):=by
 cases a with
 | none=>trivial
 | some a=>exact h
theorem k3c {B:Nat} {P:Program} {H:q0a} {p:Option Addr} {c:Nat} {u:Tok} (h:tokQ P H (tokC p c u) u) (hf:From B (.slice p u.out.length c)):tokF B P H (tokC p c u) u:=⟨h,fun a n c' e=>by
 have e:some (Value.slice p u.out.length c)=some (.slice a n c'):=e
 injection e with e
 rw[←e]
 exact hf⟩
abbrev q2R (B:Nat) (H:q0a) (v:Value) (L:List Tok):Prop:=q0U 4 (tokF B Tryz.prog) H 36 v L
theorem q2R.ot {B:Nat} {H:q0a} {v:Value} {L:List Tok} (h:q2R B H v L):k5E Tryz.prog H 36 v L:=by
 obtain ⟨h0,cs,h1,h2⟩:=h
 exact ⟨h0,cs,h1,fun k r hr=>(h2 k r hr).1⟩
theorem q2R.mono {B B':Nat} (hB:B'≤B) {H:q0a} {v:Value} {L:List Tok} (h:q2R B H v L):q2R B' H v L:=by
 obtain ⟨h0,cs,h1,h2⟩:=h
 exact ⟨h0,cs,h1,fun k r hr=>⟨(h2 k r hr).1,fun a n c e=>((h2 k r hr).2 a n c e).mono hB⟩⟩
set_option maxHeartbeats 800000 in
theorem j1V {H0 Hs:q0a} {m t:Nat} {L:List Rl} {e:Bool} (hT:q3O H0 t L) (hms:m<Hs.n) (h0s:H0.n≤Hs.n) {X:Value→Prop} (hX:∀v,From Hs.n v→X v):∀(c:Nat) (w:List Int) (a st:Int) (H:q0a) (out:Value) (T:List Tok),w.length≤c→MSX X H0 H m t w a st→q2R Hs.n H out T→From Hs.n out→AncB Hs.n H 36 out→Hs.n≤H.n→(∀j,j<Hs.n→j≠m→H.get j=Hs.get j)→0≤a∧a+w.length<1000000000→0≤st∧st+w.length*w.length<1000000000→T.length+w.length<1000000→w.length<10000 →
  Out (run Tryz.prog (tabF tab) om1 (.loop [0,1,5] q0P) [(0,.pointer (some ⟨m,0,none⟩)),(1,.bool e),(5,out)] H) fun y e' H'=>y=.exit 0∧MSX X H0 H' m t (q3o L e c w a st).2.1 (q3o L e c w a st).2.2.1 (q3o L e c w a st).2.2.2∧q2R Hs.n H' (eget e' 5) (T++(q3o L e c w a st).1)∧From Hs.n (eget e' 5)∧AncB Hs.n H' 36 (eget e' 5)∧Hs.n≤H'.n∧(∀j,j<Hs.n→j≠m→H'.get j=Hs.get j):=by
 intro c
 induction c with
 | zero=>
  intro w a st H out T hw hM ho hf hA hn hk ha hst hTl hw1
  have:w=[]:=List.length_eq_zero_iff.1 (by omega)
  subst this
  obtain ⟨vw,ver,hm,hv,hvf⟩:=hM.hm
  have hlw:=hv.sl.len (H2:=H)
  have z0:((0:Int)>0)=False:=by simp
  simp only[List.length_nil] at hlw
  rw[q0d q0P.eq_1]
  simp only[WA,Nat.reduceEqDiff,reduceCtorEq,Int.cast_ofNat_Int,hm,hlw,z0]
  unfold q3o
  simp only[List.append_nil]
  exact ⟨hM,ho,hf,hA,hn,hk⟩
 | succ c ih=>
  intro w a st H out T hw hM ho hf hA hn hk ha hst hTl hw1
  obtain ⟨vw,ver,hm,hv,hvf⟩:=hM.hm
  have hlw:=fun H2=>hv.sl.len (H2:=H2)
  rw[q6L]
  by_cases hne:w=[]
  ·subst hne
   have z0:((0:Int)>0)=False:=by simp
   simp only[List.length_nil] at hlw
   rw[q0d q0P.eq_1,if_pos rfl]
   simp only[WA,Nat.reduceEqDiff,reduceCtorEq,Int.cast_ofNat_Int,hm,hlw,z0]
   exact ⟨hM,ho,hf,hA,hn,hk⟩
  ·rw[if_neg hne]
   have hpos:=List.length_pos_iff.2 hne
   have z0:((w.length:Int)>0)=True:=by simp;omega
   have cL:=z4g (hT.ext hM.ext) hv.sl (by unfold Lon.tiny;omega)
   have hws:IntKind.i64.wrap (st+w.length)=st+w.length:=q0k (by omega) (by have:w.length≤w.length*w.length:=Nat.le_mul_of_pos_left _ hpos;omega)
   have hm3:(197:TypeId)≠3:=by decide
   have hm39:(197:TypeId)≠36:=by decide
   have hmb:m<H.n:=by omega
   obtain ⟨H1,hH1⟩:∃H1,H1=H.upd m ⟨[.pointer (some ⟨t,0,none⟩),vw,.int .i64 a,.int .i64 (st+w.length)],197,.tip,ver+1,[]⟩:=⟨_,rfl⟩
   have g1:H1.get m=some ⟨[.pointer (some ⟨t,0,none⟩),vw,.int .i64 a,.int .i64 (st+w.length)],197,.tip,ver+1,[]⟩:=by rw[hH1];exact q0r hm
   have hn1:H1.n=H.n:=by rw[hH1];simp
   have k1:∀j,j≠m→H1.get j=H.get j:=fun j hj=>by rw[hH1];exact q0j hm hj
   have hv1:Own H1 3 1 vw w.length (ints w):=hv.move fun i b hi he=>by
    rw[k1 i (fun e=>by subst e;rw[hm] at hi;injection hi with hi;subst hi;exact absurd he hm3)];exact hi
   have ho1:q2R Hs.n H1 out T:=by
    obtain ⟨q0,cs,q1,q2⟩:=ho
    refine ⟨q0,cs,q1.move fun i b hi he=>?_,fun k r hr=>q6M (el:=197) (s:=4) (by kernel_rfl) (by decide) (fun j b hj he=>?_) (q2 k r hr)⟩
    ·rw[k1 i (fun e=>by subst e;rw[hm] at hi;injection hi with hi;subst hi;exact absurd he hm39)];exact hi
    ·rw[k1 j (fun e=>by subst e;rw[hm] at hj;injection hj with hj;subst hj;exact he rfl)];exact hj
   have hver1:q0B H H1:=by rw[hH1];exact q0B.upd hm (Nat.le_succ ver) rfl (fun e=>by simp only at e;omega)
   have ho_m:q0i out m:=by
    obtain ⟨q0,cs,q1,q2⟩:=ho
    exact q1.notAt_elem hm hm39
   have hA1:AncB Hs.n H1 36 out:=hA.move hver1 fun i b hi hna=>by
    rw[k1 i (fun e=>by subst e;exact hna ho_m)];exact hi
   have hx1:Ext H0 H1:=⟨by rw[hn1];exact hM.ext.1,fun j hj=>by rw[k1 j (by have:=hM.mB;omega)];exact hM.ext.2 j hj⟩
   have hwsq:w.length≤w.length*w.length:=Nat.le_mul_of_pos_left _ hpos
   by_cases hop:(lgs L w).2.2=true∧e=false
   ·rw[if_pos hop]
    obtain ⟨o1,rfl⟩:=hop
    rw[o1] at cL
    rw[q0d q0P.eq_1]
    simp only[WA,q0M,q1b,q1w,q1y,Nat.reduceEqDiff,Nat.reduceAdd,reduceCtorEq,hm,hlw,z0,cL,hws,←hH1]
    exact ⟨⟨hM.mB,hx1,vw,ver+1,g1,hv1,hvf⟩,ho1,hf,hA1,by omega,fun j hj hjm=>by rw[k1 j hjm];exact hk j hj hjm⟩
   ·rw[if_neg hop]
    obtain ⟨n,en,n1,n2⟩:=q6o hT.right hne a
    generalize hu:oneT L w a=u at *
    rw[en,Int.toNat_natCast]
    have hsq:w.length+(w.length-n)*(w.length-n)≤w.length*w.length:=by
     have e1:(w.length-n)*(w.length-n)≤(w.length-n)*w.length:=Nat.mul_le_mul_left _ (Nat.sub_le _ _)
     have e2:(w.length-n+1)*w.length≤w.length*w.length:=Nat.mul_le_mul_right _ (by omega)
     rw[Nat.succ_mul] at e2
     omega
    have hwn:(w.drop n).length=w.length-n:=List.length_drop
    have hwa:IntKind.i64.wrap (a+n)=a+n:=q0k (by omega) (by omega)
    have tail:∀{H3:q0a} {p:Option Addr} {cc:Nat},Ext H1 H3→H3.get H1.n=some ⟨tokC p cc u,36,.tip,2,[]⟩→tokF Hs.n Tryz.prog H3 (tokC p cc u) u→∃(v':Value) (H5:q0a) (vw':Value) (a2:Option Addr) (c2:Nat) (H6 H7 H8:q0a),q0m (H3.push ⟨tokC p cc u,36,.tip,0,[]⟩) out (.slice (some ⟨H3.n,0,none⟩) 1 2) 36 4 48=some (v',H5) ∧
      H5.get m=some ⟨[.pointer (some ⟨t,0,none⟩),vw,.int .i64 a,.int .i64 (st+w.length)],197,.tip,ver+1,[]⟩∧H5.get H1.n=some ⟨tokC p cc u,36,.tip,2,[]⟩∧q3t (P:=Tryz.prog) vw (some (.int .i64 n)) none 1 H5=some (vw',H5)∧q0m H5 (.slice none 0 0) vw' 3 1 8=some (.slice a2 (w.drop n).length c2,H6)∧H6.get m=some ⟨[.pointer (some ⟨t,0,none⟩),vw,.int .i64 a,.int .i64 (st+w.length)],197,.tip,ver+1,[]⟩∧H6.get H1.n=some ⟨tokC p cc u,36,.tip,2,[]⟩ ∧
      H7=H6.upd m ⟨[.pointer (some ⟨t,0,none⟩),(.slice a2 (w.drop n).length c2),.int .i64 a,.int .i64 (st+w.length)],197,.tip,ver+1+1,[]⟩∧H7.get m=some ⟨[.pointer (some ⟨t,0,none⟩),(.slice a2 (w.drop n).length c2),.int .i64 a,.int .i64 (st+w.length)],197,.tip,ver+1+1,[]⟩∧H7.get H1.n=some ⟨tokC p cc u,36,.tip,2,[]⟩∧H8=H7.upd m ⟨[.pointer (some ⟨t,0,none⟩),(.slice a2 (w.drop n).length c2),.int .i64 (a+n),.int .i64 (st+w.length)],197,.tip,ver+1+1+1,[]⟩ ∧
      MSX X H0 H8 m t (w.drop n) (a+n) (st+w.length)∧q2R Hs.n H8 v' (T++[u])∧From Hs.n v'∧AncB Hs.n H8 36 v'∧Hs.n≤H8.n∧∀j,j<Hs.n→j≠m→H8.get j=Hs.get j:=by
     intro H3 p cc x3 g3 t3
     have x4:=Ext.push H3 ⟨tokC p cc u,36,.tip,0,[]⟩
     have g4:=q0b (H:=H3) (b:=⟨tokC p cc u,36,.tip,0,[]⟩)
     obtain ⟨v',H5,m1,m2,m3,m4,m5,m6⟩:=(ho1.ext q3g (x3.trans x4)).push q3g (bytes:=48) (c:=2) g4 rfl (q3g x4.kp t3) k5L (by omega) (by omega)
     have hn4:(H3.push ⟨tokC p cc u,36,.tip,0,[]⟩).n=H3.n+1:=by simp
     have x3n:=x3.1
     rw[hn4] at m3 m5 m6
     have gm3:=x3.get g1
     have gm5:H5.get m=some ⟨[.pointer (some ⟨t,0,none⟩),vw,.int .i64 a,.int .i64 (st+w.length)],197,.tip,ver+1,[]⟩:=by rw[m6 m (by omega) ho_m,q0s (by omega)];exact gm3
     have hoN:q0i out H1.n:=ho1.notAt (Nat.le_refl _)
     have hlt3:=q0a.lt_of_get g3
     have gt5:H5.get H1.n=some ⟨tokC p cc u,36,.tip,2,[]⟩:=by rw[m6 _ (by omega) hoN,q0s hlt3];exact g3
     have hv5:Own H5 3 1 vw w.length (ints w):=(hv1.ext (x3.trans x4)).move fun i b hi he=>by
      have hil:=q0a.lt_of_get hi
      rw[hn4] at hil
      obtain ⟨q0,cs,q1,q2⟩:=ho1.ext q3g (x3.trans x4)
      rw[m6 i hil (q1.notAt_elem hi (by rw[he];decide))]
      exact hi
     obtain ⟨vw',s1,s2,s3⟩:=Ints.drop (P:=Tryz.prog) (l:=w) hv5.sl (hv5.cut (by kernel_rfl)) n2
     obtain ⟨v2,H6,w1,w2,w3,w4,w5⟩:=z9h (el:=3) s2 (by rw[hwn];omega)
     have w3':=w3
     obtain ⟨⟨a2,c2,rfl⟩,_⟩:=w3'.sl
     have gm6:=w2.get gm5
     have gt6:=w2.get gt5
     have hmN:H1.n≠m:=by omega
     have gm7:=q0r (c:=⟨[.pointer (some ⟨t,0,none⟩),(.slice a2 (w.drop n).length c2),.int .i64 a,.int .i64 (st+w.length)],197,.tip,ver+1+1,[]⟩) gm6
     have gm8:=q0r (c:=⟨[.pointer (some ⟨t,0,none⟩),(.slice a2 (w.drop n).length c2),.int .i64 (a+n),.int .i64 (st+w.length)],197,.tip,ver+1+1+1,[]⟩) gm7
     have k8:∀j,j≠m→((H6.upd m ⟨[.pointer (some ⟨t,0,none⟩),(.slice a2 (w.drop n).length c2),.int .i64 a,.int .i64 (st+w.length)],197,.tip,ver+1+1,[]⟩).upd m ⟨[.pointer (some ⟨t,0,none⟩),(.slice a2 (w.drop n).length c2),.int .i64 (a+n),.int .i64 (st+w.length)],197,.tip,ver+1+1+1,[]⟩).get j=H6.get j:=fun j hj=>by rw[q0j gm7 hj,q0j gm6 hj]
     have n5:=w2.1
     have n8:((H6.upd m ⟨[.pointer (some ⟨t,0,none⟩),(.slice a2 (w.drop n).length c2),.int .i64 a,.int .i64 (st+w.length)],197,.tip,ver+1+1,[]⟩).upd m ⟨[.pointer (some ⟨t,0,none⟩),(.slice a2 (w.drop n).length c2),.int .i64 (a+n),.int .i64 (st+w.length)],197,.tip,ver+1+1+1,[]⟩).n=H6.n:=by simp
     have hd8:∀j b,H6.get j=some b→b.elem≠197→((H6.upd m ⟨[.pointer (some ⟨t,0,none⟩),(.slice a2 (w.drop n).length c2),.int .i64 a,.int .i64 (st+w.length)],197,.tip,ver+1+1,[]⟩).upd m ⟨[.pointer (some ⟨t,0,none⟩),(.slice a2 (w.drop n).length c2),.int .i64 (a+n),.int .i64 (st+w.length)],197,.tip,ver+1+1+1,[]⟩).get j=some b:=fun j b hj he=>by
      rw[k8 j (fun e=>by subst e;rw[gm6] at hj;injection hj with hj;subst hj;exact he rfl)];exact hj
     have hv68:q0B H6 ((H6.upd m ⟨[.pointer (some ⟨t,0,none⟩),(.slice a2 (w.drop n).length c2),.int .i64 a,.int .i64 (st+w.length)],197,.tip,ver+1+1,[]⟩).upd m ⟨[.pointer (some ⟨t,0,none⟩),(.slice a2 (w.drop n).length c2),.int .i64 (a+n),.int .i64 (st+w.length)],197,.tip,ver+1+1+1,[]⟩):=(q0B.upd (b':=⟨[.pointer (some ⟨t,0,none⟩),(.slice a2 (w.drop n).length c2),.int .i64 a,.int .i64 (st+w.length)],197,.tip,ver+1+1,[]⟩) gm6 (Nat.le_succ _) rfl (fun e=>by simp only at e;omega)).trans (q0B.upd (b':=⟨[.pointer (some ⟨t,0,none⟩),(.slice a2 (w.drop n).length c2),.int .i64 (a+n),.int .i64 (st+w.length)],197,.tip,ver+1+1+1,[]⟩) gm7 (Nat.le_succ _) rfl (fun e=>by simp only at e;omega))
     have low:∀j,j<Hs.n→j≠m→((H6.upd m ⟨[.pointer (some ⟨t,0,none⟩),(.slice a2 (w.drop n).length c2),.int .i64 a,.int .i64 (st+w.length)],197,.tip,ver+1+1,[]⟩).upd m ⟨[.pointer (some ⟨t,0,none⟩),(.slice a2 (w.drop n).length c2),.int .i64 (a+n),.int .i64 (st+w.length)],197,.tip,ver+1+1+1,[]⟩).get j=Hs.get j:=fun j hj hjm=>by
      rw[k8 j hjm,w2.2 j (by omega),m6 j (by omega) (q0i.of_from hf hj),q0s (by omega),x3.2 j (by omega),k1 j hjm,hk j hj hjm]
     refine ⟨v',H5,vw',a2,c2,H6,_,_,m1,gm5,gt5,s1 .i64,w1,gm6,gt6,rfl,gm7,by rw[q0j gm6 hmN];exact gt6,rfl,⟨hM.mB,⟨by rw[n8];omega,fun j hj=>?_⟩,.slice a2 (w.drop n).length c2,_,gm8,w3.move fun i b hi he=>hd8 i b hi (by rw[he];decide),w4.mono (by omega),hX _ (w4.mono (by omega))⟩,?_,m3.mono (by omega),?_,by rw[n8];omega,low⟩
     ·have hmB:=hM.mB
      rw[low j (by omega) (by omega),←hk j (by omega) (by omega)]
      exact hM.ext.2 j hj
     ·obtain ⟨q0,cs,q1,q2⟩:=m2.ext q3g w2
      exact ⟨q0,cs,q1.move fun i b hi he=>hd8 i b hi (by rw[he];decide),fun k r hr=>q6M (el:=197) (s:=4) (by kernel_rfl) (by decide) hd8 (q2 k r hr)⟩
     ·refine ((k2Q m1 hf ((hA1.ext x3).ext x4)).ext w2).move hv68 fun i b hi hna=>?_
      have hne2:b.elem≠197:=fun e=>hna (by
       obtain ⟨q0,cs,q1,q2⟩:=m2.ext q3g w2
       exact q1.notAt_elem hi (by rw[e];decide))
      exact hd8 i b hi hne2
    have hopn:((lgs L w).2.2&&!e)=false:=by
     cases h1:(lgs L w).2.2<;>cases h2:e<;>simp_all
    have fin:∀{H8:q0a} {v':Value},MSX X H0 H8 m t (w.drop n) (a+n) (st+w.length)→q2R Hs.n H8 v' (T++[u])→From Hs.n v'→AncB Hs.n H8 36 v'→Hs.n≤H8.n→(∀j,j<Hs.n→j≠m→H8.get j=Hs.get j)→_:=fun {H8 v'} b1 b2 b3 b4 b5 b6=>ih (w.drop n) (a+n) (st+w.length) H8 v' (T++[u]) (by omega) b1 b2 b3 b4 b5 b6 (by rw[hwn];omega) (by rw[hwn];omega) (by rw[hwn,List.length_append,List.length_singleton];omega) (by omega)
    obtain ⟨H2,hH2⟩:∃H2,H2=H1.push ⟨[.int .i64 a,.int .i64 n,.slice none 0 0,.int .i64 0],36,.tip,1,[]⟩:=⟨_,rfl⟩
    have x2:Ext H1 H2:=by rw[hH2];exact Ext.push H1 _
    have g2:H2.get H1.n=some ⟨[.int .i64 a,.int .i64 n,.slice none 0 0,.int .i64 0],36,.tip,1,[]⟩:=by rw[hH2];exact q0b
    have gm2:=x2.get g1
    rcases k3b hT.right hne a with ⟨q1,q0⟩|⟨k,nn,r,q1,q2,q3,q4,q5,q6,q7,q8,q9⟩
    ·rw[hu] at q1
     have en1:n=1:=by rw[q1] at en;simp only at en;omega
     subst en1
     have hmax:(if ((lgs L w).2.1:Int)>1 then ((lgs L w).2.1:Int) else 1)=((1:Nat):Int):=by rw[z9D hT.right q0];rfl
     obtain ⟨v',H5,vw',a2,c2,H6,H7,H8,f1,f2,f3,f4,f5,f6,f7,f8,f9,f10,f11,f12,f13,f14,f15,f16,f17⟩:=tail (H3:=H2.upd H1.n ⟨tokC none 0 u,36,.tip,2,[]⟩) (Ext.upd x2 g2 (Nat.le_refl _)) (q0r g2) (k3c ⟨none,0,by rw[q1];rfl,by rw[q1];exact Sl.nil _ 1,by rw[q1];exact (by decide:(0:Nat)<4611686018427387904),by rw[q1];trivial⟩ trivial)
     have e3:tokC none 0 u=[.int .i64 a,.int .i64 1,.slice none 0 0,.int .i64 3]:=by rw[q1];rfl
     rw[e3] at f1 f3 f7 f10
     obtain ⟨H3,hH3⟩:∃H3,H3=H2.upd H1.n ⟨[.int .i64 a,.int .i64 1,.slice none 0 0,.int .i64 3],36,.tip,2,[]⟩:=⟨_,rfl⟩
     rw[←hH3] at f1
     have g3:H3.get H1.n=some ⟨[.int .i64 a,.int .i64 1,.slice none 0 0,.int .i64 3],36,.tip,2,[]⟩:=by rw[hH3];exact q0r g2
     have hmax':(if ((lgs L w).2.1:Int)>1 then ((lgs L w).2.1:Int) else 1)=1:=hmax
     have hH2':H2=H1.push ⟨[.int .i64 a,.int .i64 1,.slice none 0 0,.int .i64 0],36,.tip,1,[]⟩:=hH2
     have g2':H2.get H1.n=some ⟨[.int .i64 a,.int .i64 1,.slice none 0 0,.int .i64 0],36,.tip,1,[]⟩:=g2
     have f4':q3t (P:=Tryz.prog) vw (some (.int .i64 1)) none 1 H5=some (vw',H5):=f4
     have hwa':IntKind.i64.wrap (a+1)=a+1:=hwa
     have hc1:((1:Nat):Int)=1:=rfl
     rw[hc1] at f11
     obtain ⟨y,e',H',r1,r2,r3,r4,r5,r6,r7,r8⟩:=fin f12 f13 f14 f15 f16 f17
     rw[List.append_assoc] at r4
     have hcase:(lgs L w).2.2=false∨((lgs L w).2.2=true∧e=true):=by
      cases h1:(lgs L w).2.2<;>cases h2:e<;>simp_all
     rcases hcase with h1|⟨h1,rfl⟩ <;>
     ·rw[h1] at cL
      rw[q0d q0P.eq_1]
      simp only[WA,q0M,q1b,isK,q1w,q1y,Nat.reduceEqDiff,Nat.reduceAdd,reduceCtorEq,Nat.reduceLeDiff,Int.cast_ofNat_Int,hm,hlw,z0,cL,hws,←hH1,g1,hmax',v_mk,←hH2',g2',q0,←hH3,g3,z9L,f1,f2,f3,f4',f5,f6,f7,←f8,f9,f10,hwa',←f11]
      rw[q0e]
      simp only[WA,Nat.reduceEqDiff,reduceCtorEq,r1]
      exact ⟨r2,r3,r4,r5,r6,r7,r8⟩
    ·rw[hu] at q9
     have en1:nn=n:=by rw[q9] at en;simp only at en;omega
     subst en1
     have hmax:(if ((lgs L w).2.1:Int)>1 then ((lgs L w).2.1:Int) else 1)=(nn:Int):=by rw[q2];split<;>omega
     obtain ⟨vo,HO,cO,xO,iO,fO,uO⟩:=j1P ((hT.ext hx1).ext x2) q5
     have iO':=iO
     obtain ⟨⟨ao,co,rfl⟩,_⟩:=iO'
     have gO:=xO.get g2
     have gmO:=xO.get gm2
     obtain ⟨v',H5,vw',a2,c2,H6,H7,H8,f1,f2,f3,f4,f5,f6,f7,f8,f9,f10,f11,f12,f13,f14,f15,f16,f17⟩:=tail (H3:=HO.upd H1.n ⟨tokC ao co u,36,.tip,2,[]⟩) (Ext.upd (x2.trans xO) gO (Nat.le_refl _)) (q0r gO) (k3c ⟨ao,co,by rw[q9];rfl,by rw[q9];exact Ints.upd' iO gO fO (by rw[hH2];simp),by rw[q9];unfold Lon.tiny;simp only;omega,by rw[q9];exact uO.upd gO rfl⟩ (From.len (fO.mono (by rw[hH2];simp;omega))))
     have e3:tokC ao co u=[.int .i64 a,.int .i64 nn,.slice ao r.2.length co,.int .i64 0]:=by rw[q9];rfl
     rw[e3] at f1 f3 f7 f10
     obtain ⟨H3,hH3⟩:∃H3,H3=HO.upd H1.n ⟨[.int .i64 a,.int .i64 nn,.slice ao r.2.length co,.int .i64 0],36,.tip,2,[]⟩:=⟨_,rfl⟩
     rw[←hH3] at f1
     have g3:H3.get H1.n=some ⟨[.int .i64 a,.int .i64 nn,.slice ao r.2.length co,.int .i64 0],36,.tip,2,[]⟩:=by rw[hH3];exact q0r gO
     obtain ⟨y,e',H',r1,r2,r3,r4,r5,r6,r7,r8⟩:=fin f12 f13 f14 f15 f16 f17
     rw[List.append_assoc] at r4
     have hcase:(lgs L w).2.2=false∨((lgs L w).2.2=true∧e=true):=by
      cases h1:(lgs L w).2.2<;>cases h2:e<;>simp_all
     have q0:¬((k:Int)<0):=by omega
     rw[q1] at cL
     rcases hcase with h1|⟨h1,rfl⟩ <;>
     ·rw[h1] at cL
      rw[q0d q0P.eq_1]
      simp only[WA,q0M,q1b,isK,q1w,q1y,Nat.reduceEqDiff,Nat.reduceAdd,reduceCtorEq,Nat.reduceLeDiff,hm,hlw,z0,cL,hws,←hH1,g1,hmax,v_mk,←hH2,gm2,q0,cO,gO,←hH3,g3,z9L,f1,f2,f3,f4,f5,f6,f7,←f8,f9,f10,hwa,←f11]
      rw[q0e]
      simp only[WA,Nat.reduceEqDiff,reduceCtorEq,r1]
      exact ⟨r2,r3,r4,r5,r6,r7,r8⟩
def Kx (H H':q0a):Prop:=H.n≤H'.n∧∀j b,H.get j=some b→b.elem≠197→(b.elem≠3→H'.get j=some b)∧∃b',H'.get j=some b'∧b'.elem=b.elem∧(b.st.mem=true→b'.cells=b.cells∧b'.st.mem=true)
theorem Kx.of {H H':q0a} {m:Nat} {cs:List Value} {ver:Nat} (hn:H.n≤H'.n) (hm:H.get m=some ⟨cs,197,.tip,ver,[]⟩) (h:∀j,j<H.n→j≠m→H'.get j=H.get j):Kx H H':=⟨hn,fun j b hj he=>by
 have hne:j≠m:=fun e=>by subst e;rw[hm] at hj;injection hj with hj;subst hj;exact he rfl
 have:=h j (q0a.lt_of_get hj) hne
 rw[hj] at this
 exact ⟨fun _=>this,b,this,rfl,fun hmm=>⟨rfl,hmm⟩⟩⟩
theorem Kx.trans {a b c:q0a} (h:Kx a b) (k:Kx b c):Kx a c:=⟨Nat.le_trans h.1 k.1,fun j x hj he=>by
 obtain ⟨h1,y,hy,h2,h3⟩:=h.2 j x hj he
 obtain ⟨k1,z,hz,k2,k3⟩:=k.2 j y hy (by rw[h2];exact he)
 refine ⟨fun hi=>(k.2 j x (h1 hi) he).1 hi,z,hz,k2.trans h2,fun hm=>?_⟩
 obtain ⟨p1,p2⟩:=h3 hm
 obtain ⟨q1,q2⟩:=k3 p2
 exact ⟨q1.trans p1,q2⟩⟩
theorem Ints.kx {H H':q0a} (hk:Kx H H') {v:Value} {l:List Int} (h:Ints H v l) (hc:Cut Tryz.prog H v 1):Ints H' v l∧Cut Tryz.prog H' v 1:=by
 have ne:∀{b:ABlk},(Tryz.prog.info? b.elem).map (·.size)=some 1→b.elem≠197:=fun {b} hb e=>by
  rw[e] at hb
  have h4:(Tryz.prog.info? 197).map (·.size)=some 4:=by kernel_rfl
  rw[h4] at hb
  injection hb with hb
  omega
 obtain ⟨⟨a,c,rfl⟩,h2⟩:=h
 unfold cellsOf at h2
 split at h2
 ·rename_i hv
  exact ⟨⟨⟨_,_,rfl⟩,by rw[hv];unfold cellsOf;exact h2⟩,by rw[hv];trivial⟩
 ·rename_i i o n' c' hv
  injection hv with e1 e2 e3
  subst e1 e2 e3
  obtain ⟨b,hb1,hb2⟩:=hc
  obtain ⟨_,b',hb',hbe,hbm⟩:=hk.2 _ _ hb1 (ne hb2)
  refine ⟨⟨⟨_,_,rfl⟩,?_⟩,⟨b',hb',by rw[hbe];exact hb2⟩⟩
  unfold cellsOf
  simp only[hb']
  rw[hb1] at h2
  simp only at h2
  split at h2
  ·rename_i h0
   rw[if_pos h0];exact h2
  ·rename_i h0
   rw[if_neg h0]
   split at h2
   ·rename_i h1
    obtain ⟨p1,p2⟩:=hbm h1.1
    rw[if_pos ⟨p2,by rw[p1];exact h1.2⟩,p1]
    exact h2
   ·cases h2
 ·rename_i hv
  exact ⟨⟨⟨_,_,rfl⟩,by rw[hv];unfold cellsOf;exact h2⟩,by rw[hv];trivial⟩
 ·cases h2
theorem z9M {H:q0a} {t:Nat}:q2l [.pointer none,.slice none 0 0,.int .i64 0,.int .i64 0] [(0,1,.pointer (some ⟨t,0,none⟩))] H=some (.agg ⟨[.pointer (some ⟨t,0,none⟩),.slice none 0 0,.int .i64 0,.int .i64 0]⟩,H):=rfl
theorem c_MOf {H:q0a} {t:Nat}:q0p (cw Tryz.prog (tabF tab) om1 72 [.pointer (some ⟨t,0,none⟩)] H) fun v H'=>Ext H H'∧v=.pointer (some ⟨H.n,0,none⟩)∧MS H H' H.n t [] 0 0:=by
 rw[q0g (F:=q8n) rfl rfl rfl]
 unfold q8n k4b
 have hbx:=q8H (H:=H) (v:=.agg ⟨[.pointer (some ⟨t,0,none⟩),.slice none 0 0,.int .i64 0,.int .i64 0]⟩) (el:=197) rfl
 simp only[WA,Nat.reduceEqDiff,reduceCtorEq,z9M,hbx]
 exact ⟨Ext.push H _,Nat.le_refl _,Ext.push H _,.slice none 0 0,0,q0b,⟨rfl,.inl ⟨rfl,rfl⟩⟩,trivial,trivial⟩
def q0G (L:List Rl) (e:Bool) (w:List Int) (a st:Int):List Tok×List Int×Int×Int:=q3o L e w.length w a st
def NW (H:q0a) (m j:Nat):Prop:=∀b vw,H.get m=some b→b.cells[1]?=some vw→q0i vw j
theorem NW.of {H:q0a} {m j ver:Nat} {x vw a s:Value} {anc:List Nat} {st:St} {el:TypeId} (hg:H.get m=some ⟨[x,vw,a,s],el,st,ver,anc⟩) (h:q0i vw j):NW H m j:=fun b v hb hv=>by
 rw[hg] at hb
 injection hb with hb
 subst hb
 injection hv with hv
 subst hv
 exact h
theorem NW.at {H:q0a} {m j ver:Nat} {x vw a s:Value} {anc:List Nat} {st:St} {el:TypeId} (h:NW H m j) (hg:H.get m=some ⟨[x,vw,a,s],el,st,ver,anc⟩):q0i vw j:=h _ _ hg rfl
structure k7M (m:Nat) (H H':q0a):Prop where
 k:∀j,j<H.n→j≠m→NW H m j→H'.get j=H.get j
 w:∀j,j<H.n→NW H m j→NW H' m j
theorem MSX.nw {X:Value→Prop} {H0 H:q0a} {m t:Nat} {w:List Int} {a st:Int} (h:MSX X H0 H m t w a st) {j:Nat} (hX:∀v,X v→q0i v j):NW H m j:=by
 obtain ⟨vw,ver,hm,_,_,hx⟩:=h.hm
 exact NW.of hm (hX _ hx)
theorem MSX.ms {X:Value→Prop} {H0 H:q0a} {m t:Nat} {w:List Int} {a st:Int} (h:MSX X H0 H m t w a st):MS H0 H m t w a st:=by
 obtain ⟨vw,ver,h1,h2,h3,_⟩:=h.hm
 exact ⟨h.mB,h.ext,vw,ver,h1,h2,h3,trivial⟩
theorem z8i {H0 H:q0a} {m t:Nat} {L:List Rl} {e:Bool} {w:List Int} {a st:Int} {X:Value→Prop} (hX:∀v,From H.n v→X v) (hT:q3O H0 t L) (hM:MSX X H0 H m t w a st) (ha:0≤a∧a+w.length<1000000000) (hst:0≤st∧st+w.length*w.length<1000000000) (hw1:w.length<10000) :
  q0p (cw Tryz.prog (tabF tab) om1 185 [.pointer (some ⟨m,0,none⟩),.bool e] H) fun v H'=>MSX X H0 H' m t (q0G L e w a st).2.1 (q0G L e w a st).2.2.1 (q0G L e w a st).2.2.2∧q2R H.n H' v (q0G L e w a st).1∧From H.n v∧AncB H.n H' 36 v∧H.n≤H'.n∧∀j,j<H.n→j≠m→H'.get j=H.get j:=by
 rw[q0g (F:=q2L) rfl rfl rfl]
 unfold q2L q5K
 obtain ⟨vw,ver,hm,_⟩:=hM.hm
 obtain ⟨y,e',H',r1,rfl,r3,r4,r5,r6,r7,r8⟩:=j1V (e:=e) hT (q0a.lt_of_get hm) hM.ext.1 hX w.length w a st H (.slice none 0 0) [] (Nat.le_refl _) hM q0U.nil trivial AncB.nil (Nat.le_refl _) (fun j _ _=>rfl) ha hst (by simp only[List.length_nil];omega) hw1
 rw[List.nil_append] at r4
 simp only[WA]
 rw[q0e]
 simp only[WA,Nat.reduceEqDiff,reduceCtorEq,r1]
 exact ⟨r3,r4,r5,r6,r7,r8⟩
theorem z9N {H0 H:q0a} {m t:Nat} {L:List Rl} {w:List Int} {a st:Int} (hT:q3O H0 t L) (hM:MS H0 H m t w a st) (ha:0≤a∧a+w.length<1000000000) (hst:0≤st∧st+w.length*w.length<1000000000) (hw1:w.length<10000) :
  q0p (cw Tryz.prog (tabF tab) om1 182 [.pointer (some ⟨m,0,none⟩)] H) fun v H'=>MS H0 H' m t (q0G L true w a st).2.1 (q0G L true w a st).2.2.1 (q0G L true w a st).2.2.2∧k5E Tryz.prog H' 36 v (q0G L true w a st).1∧From H.n v∧Kx H H'∧AncB H.n H' 36 v∧k7M m H H'∧q2R H.n H' v (q0G L true w a st).1:=by
 rw[q0g (F:=q2W) rfl rfl rfl]
 unfold q2W q6f
 obtain ⟨vw,ver,hm,q1,q2,_⟩:=hM.hm
 obtain ⟨v,H',c1,r3,r4,r5,r6,r7,r8⟩:=z8i (e:=true) (X:=fun v=>∀j,j<H.n→q0i vw j→q0i v j) (fun v hv j hj _=>q0i.of_from hv hj) hT ⟨hM.mB,hM.ext,vw,ver,hm,q1,q2,fun _ _ h=>h⟩ ha hst hw1
 simp only[WA,Nat.reduceEqDiff,reduceCtorEq,c1]
 exact ⟨r3.ms,r4.ot,r5,Kx.of r7 hm r8,r6,⟨fun j hj hjm _=>r8 j hj hjm,fun j hj hn=>r3.nw fun v hv=>hv j hj (hn.at hm)⟩,r4⟩
theorem z9O {H0 H:q0a} {m t:Nat} {L:List Rl} {w:List Int} {a st u:Int} (hT:q3O H0 t L) (hM:MS H0 H m t w a st) (ha:0≤a∧a+(w.length+1)<1000000000) (hst:0≤st∧st+(w.length+1)*(w.length+1)<1000000000) (hw1:w.length+1<10000) :
  q0p (cw Tryz.prog (tabF tab) om1 183 [.pointer (some ⟨m,0,none⟩),.int .i64 u] H) fun v H'=>MS H0 H' m t (q0G L false (w++[u]) a st).2.1 (q0G L false (w++[u]) a st).2.2.1 (q0G L false (w++[u]) a st).2.2.2∧k5E Tryz.prog H' 36 v (q0G L false (w++[u]) a st).1∧From H.n v∧Kx H H'∧AncB H.n H' 36 v∧k7M m H H'∧q2R H.n H' v (q0G L false (w++[u]) a st).1:=by
 rw[q0g (F:=q2X) rfl rfl rfl]
 unfold q2X q6g
 obtain ⟨vw,ver,hm,hv,hvf,_⟩:=hM.hm
 have hx1:=Ext.push H ⟨[.int .i64 u],3,.tip,0,[]⟩
 obtain ⟨v1,H2,m1,m2,m3,m4,m5,m6⟩:=Own.append2 (bytes:=8) (m:=1) (hv.ext hx1) (Sl.new (n:=1) (c:=2) (q0b (H:=H) (b:=⟨[.int .i64 u],3,.tip,0,[]⟩)) q0n rfl) (by omega) rfl (by omega)
 have n1:(H.push ⟨[.int .i64 u],3,.tip,0,[]⟩).n=H.n+1:=by simp
 rw[n1] at m3 m5 m6
 have hver:=q1l m1
 have hml:=q0a.lt_of_get hm
 have hvm:q0i vw m:=hv.notAt_elem hm (by simp only;decide)
 have gm1:=hx1.get hm
 have gm2:H2.get m=some ⟨[.pointer (some ⟨t,0,none⟩),vw,.int .i64 a,.int .i64 st],197,.tip,ver,[]⟩:=by rw[m6 m (by omega) hvm];exact gm1
 have hs1:=m2.sl
 obtain ⟨⟨a1,c1,rfl⟩,_⟩:=hs1
 have gm3:=q0r (c:=⟨[.pointer (some ⟨t,0,none⟩),.slice a1 (w.length+1) c1,.int .i64 a,.int .i64 st],197,.tip,ver+1,[]⟩) gm2
 obtain ⟨H3,hH3⟩:∃H3,H3=H2.upd m ⟨[.pointer (some ⟨t,0,none⟩),.slice a1 (w.length+1) c1,.int .i64 a,.int .i64 st],197,.tip,ver+1,[]⟩:=⟨_,rfl⟩
 rw[←hH3] at gm3
 have n3:H3.n=H2.n:=by rw[hH3];simp
 have k3:∀j,j≠m→H3.get j=H2.get j:=fun j hj=>by rw[hH3];exact q0j gm2 hj
 have hints:ints w++[.int .i64 u]=ints (w++[u]):=by simp[ints]
 rw[hints] at m2
 have hx0:Ext H0 H3:=⟨by have:=hM.ext.1;omega,fun j hj=>by
  have:=hM.mB
  rw[k3 j (by omega),m6 j (by have:=hM.ext.1;omega) (q0i.of_from hvf hj),hx1.2 j (by have:=hM.ext.1;omega),hM.ext.2 j hj]⟩
 have hlw:(w++[u]).length=w.length+1:=by simp
 have hM3:MSX (fun v=>From H.n v) H0 H3 m t (w++[u]) a st:=⟨hM.mB,hx0,.slice a1 (w.length+1) c1,ver+1,gm3,by
  rw[hlw]
  exact m2.move fun i b hi he=>by
   rw[k3 i (fun e=>by subst e;rw[gm2] at hi;injection hi with hi;subst hi;revert he;simp only;decide)];exact hi,m3.mono (by have:=hM.ext.1;omega),m3.mono (by omega)⟩
 obtain ⟨v,H',cT,r3,r4,r5,r6,r7,r8⟩:=z8i (e:=false) (fun v hv=>hv.mono (by omega)) hT hM3 (by rw[hlw];omega) (by rw[hlw];push_cast;exact hst) (by rw[hlw];omega)
 have hkx:Kx H H3:=⟨by omega,fun j b hj he=>by
  have hjl:=q0a.lt_of_get hj
  have hjm:j≠m:=fun e=>by subst e;rw[hm] at hj;injection hj with hj;subst hj;exact he rfl
  have hj1:=hx1.get hj
  refine ⟨fun hi=>?_,?_⟩
  ·rw[k3 j hjm,m6 j (by omega) (hv.notAt_elem hj hi)]
   exact hj1
  ·obtain ⟨b',e1,_,e2,_⟩:=hver.2 _ _ hj1
   refine ⟨b',by rw[k3 j hjm];exact e1,e2,fun hmm=>?_⟩
   obtain ⟨b2,f1,f2,f3⟩:=m4 _ _ hj1 hmm
   rw[e1] at f1
   injection f1 with f1
   subst f1
   exact ⟨f2,f3⟩⟩
 simp only[WA,Nat.reduceEqDiff,Nat.reduceAdd,reduceCtorEq,Nat.reduceLeDiff,hm,gm2,m1,z0K,←hH3,cT]
 exact ⟨r3.ms,r4.ot,r5.mono (by omega),hkx.trans (Kx.of r7 gm3 r8),r6.mono (by omega),⟨fun j hj hjm hn=>by rw[r8 j (by omega) hjm,k3 j hjm,m6 j (by omega) (hn.at hm),hx1.2 j hj],fun j hj _=>r3.nw fun v hv=>q0i.of_from hv hj⟩,r4.mono (by omega)⟩
end Go.Proofs.YtleiinhaljdcoaaGreatDoor
namespace Go.Proofs.YtleiinhaljdcoaaGreatDoor
open Go Lon
theorem z6i {L:List Rl} (hR:q1a L) {w r:List Int} (ho:(lgs L w).2.2=false):(lgs L (w++r)).1=(lgs L w).1∧(lgs L (w++r)).2.1=(lgs L w).2.1:=by
 obtain ⟨⟨a1,a2,a3,a4⟩,a5⟩:=k2Z hR w
 refine (k2Z hR (w++r)).1.uniq ⟨by rw[List.length_append];omega,a2,fun h=>?_,fun m h1 h2=>?_⟩
 ·rw[List.take_append_of_le_length a1]
  exact a3 h
 ·rcases Nat.lt_or_ge w.length m with hl|hl
  ·rcases (by omega:fnd L ((w++r).take m)<0∨0≤fnd L ((w++r).take m)) with h0|h0
   ·exact h0
   ·obtain ⟨x,hx,he⟩:=z1a h0
    have hop:(lgs L w).2.2=true:=a5.2 ⟨x,List.mem_of_getElem? hx,by rw[he,List.length_take];omega,by
     rw[he,List.take_append,List.take_of_length_le (by omega)]
     exact List.prefix_append _ _⟩
    rw[ho] at hop
    cases hop
  ·rw[List.take_append_of_le_length hl]
   exact a4 m h1 hl
theorem z4m {L:List Rl} (hR:q1a L) {w r:List Int} {a:Int} (ho:(lgs L w).2.2=false):oneT L (w++r) a=oneT L w a:=by
 obtain ⟨h1,h2⟩:=z6i hR (r:=r) ho
 unfold oneT
 rw[h1,h2]
theorem q6p {L:List Rl} (hR:q1a L) {e:Bool}:∀(c:Nat) (w:List Int) (a st:Int),∃n:Nat,n≤w.length∧(q3o L e c w a st).2.1=w.drop n∧(q3o L e c w a st).2.2.1=a+n∧st≤(q3o L e c w a st).2.2.2∧(q3o L e c w a st).2.2.2≤st+w.length*w.length∧(q3o L e c w a st).1.length≤n∧(w.length≤8→(q3o L e c w a st).2.2.2≤st+8*n+8):=by
 intro c
 induction c with
 | zero=>intro w a st;exact ⟨0,Nat.zero_le _,rfl,by simp[q3o],Int.le_refl _,by simp only[q3o];have:=Int.mul_nonneg (Int.natCast_nonneg w.length) (Int.natCast_nonneg w.length);omega,Nat.zero_le _,fun _=>by simp only[q3o];omega⟩
 | succ c ih=>
  intro w a st
  rw[q6L]
  have hnn:=Int.mul_nonneg (Int.natCast_nonneg w.length) (Int.natCast_nonneg w.length)
  split
  ·exact ⟨0,Nat.zero_le _,rfl,by simp,Int.le_refl _,by simp only;omega,Nat.zero_le _,fun _=>by simp only;omega⟩
  ·rename_i hne
   have hpos:=List.length_pos_iff.2 hne
   have hsq0:w.length≤w.length*w.length:=Nat.le_mul_of_pos_left _ hpos
   split
   ·exact ⟨0,Nat.zero_le _,rfl,by simp,by simp only;omega,by simp only;rw[←Int.natCast_mul];omega,Nat.zero_le _,fun _=>by simp only;omega⟩
   ·obtain ⟨n,en,n1,n2⟩:=q6o hR hne a
    rw[en,Int.toNat_natCast]
    obtain ⟨k,k1,k2,k3,k4,k5,k6,k7⟩:=ih (w.drop n) (a+n) (st+w.length)
    rw[List.length_drop] at k1 k5 k7
    have hsq:w.length+(w.length-n)*(w.length-n)≤w.length*w.length:=by
     have e1:(w.length-n)*(w.length-n)≤(w.length-n)*w.length:=Nat.mul_le_mul_left _ (Nat.sub_le _ _)
     have e2:(w.length-n+1)*w.length≤w.length*w.length:=Nat.mul_le_mul_right _ (by omega)
     rw[Nat.succ_mul] at e2
     omega
    refine ⟨n+k,by omega,by rw[k2,List.drop_drop],by rw[k3];omega,by simp only;omega,?_,by simp only[List.length_cons];omega,fun h8=>?_⟩
    ·simp only
     rw[←Int.natCast_mul] at k5 ⊢
     omega
    ·have:=k7 (by omega)
     simp only
     omega
theorem k7N {L:List Rl} (hR:q1a L) {e:Bool} {r:List Int} (hr:e=true→r=[]):∀(c:Nat) (w:List Int) (a st:Int),allU L (w++r) a=(q3o L e c w a st).1++allU L ((q3o L e c w a st).2.1++r) (q3o L e c w a st).2.2.1:=by
 intro c
 induction c with
 | zero=>intro w a st;rfl
 | succ c ih=>
  intro w a st
  rw[q6L]
  split
  ·rfl
  ·rename_i hne
   split
   ·rfl
   ·rename_i hop
    have hone:oneT L (w++r) a=oneT L w a:=by
     cases e with
     | true=>rw[hr rfl,List.append_nil]
     | false=>exact z4m hR (by cases h:(lgs L w).2.2<;>simp_all)
    obtain ⟨n,en,n1,n2⟩:=q6o hR hne a
    rw[k3a hR (by simp[hne]),hone,en,Int.toNat_natCast,List.drop_append_of_le_length n2,ih (w.drop n) (a+n) (st+w.length)]
    rfl
theorem k4G {L:List Rl} (hR:q1a L) {e:Bool}:∀(c:Nat) (w:List Int) (a st:Int),w.length≤c→(q3o L e c w a st).2.1=[]∨(e=false∧(lgs L (q3o L e c w a st).2.1).2.2=true):=by
 intro c
 induction c with
 | zero=>intro w a st h;left;exact List.length_eq_zero_iff.1 (by simpa[q3o] using h)
 | succ c ih=>
  intro w a st h
  rw[q6L]
  split
  ·left;assumption
  ·rename_i hne
   split
   ·rename_i hop;exact .inr ⟨hop.2,hop.1⟩
   ·obtain ⟨n,en,n1,n2⟩:=q6o hR hne a
    rw[en,Int.toNat_natCast]
    exact ih _ _ _ (by rw[List.length_drop];omega)
theorem z6j {L:List Rl} (hR:q1a L) {w:List Int} (h:(lgs L w).2.2=true):w.length≤7∧∃r∈L,w.length<r.1.length:=by
 obtain ⟨r,h1,h2,_⟩:=(k2Z hR w).2.1 h
 have:=(q4Q (hR.1 r h1).1).2
 exact ⟨by omega,r,h1,h2⟩
def feed (L:List Rl):List Int→List Tok×List Int×Int×Int→List Tok×List Int×Int×Int
 | [],s=>s
 | u::us,s=>feed L us (s.1++(q0G L false (s.2.1++[u]) s.2.2.1 s.2.2.2).1,(q0G L false (s.2.1++[u]) s.2.2.1 s.2.2.2).2)
structure Wt (L:List Rl) (w:List Int):Prop where
 is:w=[]∨(lgs L w).2.2=true
theorem Wt.len {L:List Rl} (hR:q1a L) {w:List Int} (h:Wt L w):w.length≤7:=by
 rcases h.is with rfl|h
 ·exact Nat.zero_le _
 ·exact (z6j hR h).1
theorem Wt.put {L:List Rl} (hR:q1a L) {w:List Int} {u a st:Int}:Wt L (q0G L false (w++[u]) a st).2.1:=⟨by
 rcases k4G hR (e:=false) (w++[u]).length (w++[u]) a st (Nat.le_refl _) with h|h
 ·exact .inl h
 ·exact .inr h.2⟩
theorem z8j {L:List Rl} (hR:q1a L) {w:List Int} {u a st:Int} (hw:Wt L w):(q0G L false (w++[u]) a st).2.2.1+(q0G L false (w++[u]) a st).2.1.length=a+w.length+1∧a≤(q0G L false (w++[u]) a st).2.2.1∧st≤(q0G L false (w++[u]) a st).2.2.2∧(q0G L false (w++[u]) a st).2.2.2+8*a≤st+8*(q0G L false (w++[u]) a st).2.2.1+8∧((q0G L false (w++[u]) a st).1.length:Int)+a≤(q0G L false (w++[u]) a st).2.2.1:=by
 have hl:=hw.len hR
 obtain ⟨n,n1,n2,n3,n4,n5,n6,n7⟩:=q6p hR (e:=false) (w++[u]).length (w++[u]) a st
 have hlen:(w++[u]).length=w.length+1:=by simp
 have h7:=n7 (by omega)
 unfold q0G
 rw[n2,n3,List.length_drop]
 refine ⟨by omega,by omega,n4,by omega,by omega⟩
theorem z4n {L:List Rl} (hR:q1a L) {w:List Int} {a st:Int}:(q0G L true w a st).1=allU L w a∧(q0G L true w a st).2.1=[]∧(q0G L true w a st).2.2.1=a+w.length:=by
 have h1:=k7N hR (e:=true) (r:=[]) (fun _=>rfl) w.length w a st
 have h2:(q3o L true w.length w a st).2.1=[]:=by
  rcases k4G hR (e:=true) w.length w a st (Nat.le_refl _) with h|h
  ·exact h
  ·cases h.1
 obtain ⟨n,n1,n2,n3,_⟩:=q6p hR (e:=true) w.length w a st
 rw[List.append_nil,List.append_nil,h2,k5K,List.append_nil] at h1
 rw[h2] at n2
 have:=congrArg List.length n2
 rw[List.length_drop,List.length_nil] at this
 exact ⟨h1.symm,h2,by unfold q0G;rw[n3];omega⟩
theorem z1f {L:List Rl} (hR:q1a L):∀(us:List Int) (s:List Tok×List Int×Int×Int),Wt L s.2.1→(feed L us s).1++allU L (feed L us s).2.1 (feed L us s).2.2.1=s.1++allU L (s.2.1++us) s.2.2.1∧(feed L us s).2.2.1+(feed L us s).2.1.length=s.2.2.1+s.2.1.length+us.length∧Wt L (feed L us s).2.1
 | [],s,h=>by unfold feed;rw[List.append_nil];exact ⟨rfl,by simp,h⟩
 | u::us,s,h=>by
  unfold feed
  obtain ⟨h1,h2,h3⟩:=z1f hR us (s.1++(q0G L false (s.2.1++[u]) s.2.2.1 s.2.2.2).1,(q0G L false (s.2.1++[u]) s.2.2.1 s.2.2.2).2) (Wt.put hR)
  refine ⟨?_,?_,h3⟩
  ·rw[h1,List.append_assoc]
   congr 1
   have:=k7N hR (e:=false) (r:=us) (fun h=>by cases h) (s.2.1++[u]).length (s.2.1++[u]) s.2.2.1 s.2.2.2
   rw[List.append_assoc,List.singleton_append] at this
   exact this.symm
  ·have:=(z8j hR (u:=u) (a:=s.2.2.1) (st:=s.2.2.2) h).1
   rw[h2,List.length_cons]
   simp only at this ⊢
   omega
end Go.Proofs.YtleiinhaljdcoaaGreatDoor
namespace Go.Proofs.YtleiinhaljdcoaaGreatDoor
open Go Lon
set_option maxRecDepth 100000
def nxt (L:List Rl) (u:Int) (s:List Tok×List Int×Int×Int):List Tok×List Int×Int×Int:=(s.1++(q0G L false (s.2.1++[u]) s.2.2.1 s.2.2.2).1,(q0G L false (s.2.1++[u]) s.2.2.1 s.2.2.2).2)
theorem z4o {L:List Rl} {u:Int} {us:List Int} {s:List Tok×List Int×Int×Int}:feed L (u::us) s=feed L us (nxt L u s):=rfl
theorem k1n {n:Int} (h1:0≤n) (h2:n<256):IntKind.u8.wrap n=n:=by
 unfold IntKind.wrap
 have hb:(2:Int)^IntKind.u8.bits=256:=by decide
 have hs:IntKind.u8.signed=false:=rfl
 rw[hb,hs]
 simp only[Bool.false_and,Bool.false_eq_true,if_false]
 omega
def z128:List Value:=ints (List.replicate 128 0)
theorem z9P:[(.int .i64 0),(.int .i64 0),(.int .i64 0),(.int .i64 0),(.int .i64 0),(.int .i64 0),(.int .i64 0),(.int .i64 0),(.int .i64 0),(.int .i64 0),(.int .i64 0),(.int .i64 0),(.int .i64 0),(.int .i64 0),(.int .i64 0),(.int .i64 0),(.int .i64 0),(.int .i64 0),(.int .i64 0),(.int .i64 0),(.int .i64 0),(.int .i64 0),(.int .i64 0),(.int .i64 0),(.int .i64 0),(.int .i64 0),(.int .i64 0),(.int .i64 0),(.int .i64 0),(.int .i64 0),(.int .i64 0),(.int .i64 0),(.int .i64 0),(.int .i64 0),(.int .i64 0),(.int .i64 0),(.int .i64 0),(.int .i64 0),(.int .i64 0),(.int .i64 0),(.int .i64 0),(.int .i64 0),(.int .i64 0),(.int .i64 0),(.int .i64 0),(.int .i64 0),(.int .i64 0),(.int .i64 0),(.int .i64 0),(.int .i64 0),(.int .i64 0),(.int .i64 0),(.int .i64 0),(.int .i64 0),(.int .i64 0),(.int .i64 0),(.int .i64 0),(.int .i64 0),(.int .i64 0),(.int .i64 0),(.int .i64 0),(.int .i64 0),(.int .i64 0),(.int .i64 0),(.int .i64 0),(.int .i64 0),(.int .i64 0),(.int .i64 0),(.int .i64 0),(.int .i64 0),(.int .i64 0),(.int .i64 0),(.int .i64 0),(.int .i64 0),(.int .i64 0),(.int .i64 0),(.int .i64 0),(.int .i64 0),(.int .i64 0),(.int .i64 0),(.int .i64 0),(.int .i64 0),(.int .i64 0),(.int .i64 0),(.int .i64 0),(.int .i64 0),(.int .i64 0),(.int .i64 0),(.int .i64 0),(.int .i64 0),(.int .i64 0),(.int .i64 0),(.int .i64 0),(.int .i64 0),(.int .i64 0),(.int .i64 0),(.int .i64 0),(.int .i64 0),(.int .i64 0),(.int .i64 0),(.int .i64 0),(.int .i64 0),(.int .i64 0),(.int .i64 0),(.int .i64 0),(.int .i64 0),(.int .i64 0),(.int .i64 0),(.int .i64 0),(.int .i64 0),(.int .i64 0),(.int .i64 0),(.int .i64 0),(.int .i64 0),(.int .i64 0),(.int .i64 0),(.int .i64 0),(.int .i64 0),(.int .i64 0),(.int .i64 0),(.int .i64 0),(.int .i64 0),(.int .i64 0),(.int .i64 0),(.int .i64 0),(.int .i64 0),(.int .i64 0),(.int .i64 0)]=z128:=by rfl
theorem j1W {H:q0a}:q2l z128 [(0,1,(.int .i64 7840)),(1,1,(.int .i64 7854)),(2,1,(.int .i64 7856)),(3,1,(.int .i64 7862)),(4,1,(.int .i64 7844)),(5,1,(.int .i64 7846)),(6,1,(.int .i64 7848)),(7,1,(.int .i64 7852)),(8,1,(.int .i64 7868)),(9,1,(.int .i64 7864)),(10,1,(.int .i64 7870)),(11,1,(.int .i64 7872)),(12,1,(.int .i64 7874)),(13,1,(.int .i64 7876)),(14,1,(.int .i64 7878)),(15,1,(.int .i64 7888)),(16,1,(.int .i64 7890)),(17,1,(.int .i64 7892)),(18,1,(.int .i64 7894)),(19,1,(.int .i64 7896)),(20,1,(.int .i64 7906)),(21,1,(.int .i64 7898)),(22,1,(.int .i64 7900)),(23,1,(.int .i64 7902)),(24,1,(.int .i64 7882)),(25,1,(.int .i64 7886)),(26,1,(.int .i64 7884)),(27,1,(.int .i64 7880)),(28,1,(.int .i64 7910)),(29,1,(.int .i64 360)),(30,1,(.int .i64 7908)),(31,1,(.int .i64 7922)),(32,1,(.int .i64 213)),(33,1,(.int .i64 7855)),(34,1,(.int .i64 7857)),(35,1,(.int .i64 7863)),(36,1,(.int .i64 7845)),(37,1,(.int .i64 7847)),(38,1,(.int .i64 7849)),(39,1,(.int .i64 7853)),(40,1,(.int .i64 7869)),(41,1,(.int .i64 7865)),(42,1,(.int .i64 7871)),(43,1,(.int .i64 7873)),(44,1,(.int .i64 7875)),(45,1,(.int .i64 7877)),(46,1,(.int .i64 7879)),(47,1,(.int .i64 7889)),(48,1,(.int .i64 7891)),(49,1,(.int .i64 7893)),(50,1,(.int .i64 7895)),(51,1,(.int .i64 7904)),(52,1,(.int .i64 416)),(53,1,(.int .i64 7897)),(54,1,(.int .i64 7901)),(55,1,(.int .i64 7903)),(56,1,(.int .i64 7883)),(57,1,(.int .i64 7920)),(58,1,(.int .i64 7912)),(59,1,(.int .i64 7914)),(60,1,(.int .i64 7916)),(61,1,(.int .i64 417)),(62,1,(.int .i64 7899)),(63,1,(.int .i64 431)),(64,1,(.int .i64 192)),(65,1,(.int .i64 193)),(66,1,(.int .i64 194)),(67,1,(.int .i64 195)),(68,1,(.int .i64 7842)),(69,1,(.int .i64 258)),(70,1,(.int .i64 7859)),(71,1,(.int .i64 7861)),(72,1,(.int .i64 200)),(73,1,(.int .i64 201)),(74,1,(.int .i64 202)),(75,1,(.int .i64 7866)),(76,1,(.int .i64 204)),(77,1,(.int .i64 205)),(78,1,(.int .i64 296)),(79,1,(.int .i64 7923)),(80,1,(.int .i64 272)),(81,1,(.int .i64 7913)),(82,1,(.int .i64 210)),(83,1,(.int .i64 211)),(84,1,(.int .i64 212)),(85,1,(.int .i64 7841)),(86,1,(.int .i64 7927)),(87,1,(.int .i64 7915)),(88,1,(.int .i64 7917)),(89,1,(.int .i64 217)),(90,1,(.int .i64 218)),(91,1,(.int .i64 7929)),(92,1,(.int .i64 7925)),(93,1,(.int .i64 221)),(94,1,(.int .i64 7905)),(95,1,(.int .i64 432)),(96,1,(.int .i64 224)),(97,1,(.int .i64 225)),(98,1,(.int .i64 226)),(99,1,(.int .i64 227)),(100,1,(.int .i64 7843)),(101,1,(.int .i64 259)),(102,1,(.int .i64 7919)),(103,1,(.int .i64 7851)),(104,1,(.int .i64 232)),(105,1,(.int .i64 233)),(106,1,(.int .i64 234)),(107,1,(.int .i64 7867)),(108,1,(.int .i64 236)),(109,1,(.int .i64 237)),(110,1,(.int .i64 297)),(111,1,(.int .i64 7881)),(112,1,(.int .i64 273)),(113,1,(.int .i64 7921)),(114,1,(.int .i64 242)),(115,1,(.int .i64 243)),(116,1,(.int .i64 244)),(117,1,(.int .i64 245)),(118,1,(.int .i64 7887)),(119,1,(.int .i64 7885)),(120,1,(.int .i64 7909)),(121,1,(.int .i64 249)),(122,1,(.int .i64 250)),(123,1,(.int .i64 361)),(124,1,(.int .i64 7911)),(125,1,(.int .i64 253)),(126,1,(.int .i64 7907)),(127,1,(.int .i64 7918))] H=some (.agg ⟨ints visH⟩,H):=by kernel_rfl
theorem z9Q {H:q0a} {i:Nat}:q0u (some ⟨z128,202,.tip,0,[]⟩) i 0 (.agg ⟨ints visH⟩) 128 H=some (.tuple ⟨[]⟩,H.upd i ⟨ints visH,202,.tip,1,[]⟩):=by
 have:=q0x (H:=H) (cells:=z128) (el:=202) (ver:=0) (anc:=[]) (i:=i) (o:=0) (n:=128) (v:=.agg ⟨ints visH⟩) (by kernel_rfl) (by kernel_rfl) (by decide)
 rw[this]
 rfl
theorem z9R {H:q0a} {ver:Nat}:q0l (some ⟨ints visH,202,.tip,ver,[]⟩) 0 (some 128) H=some (.agg ⟨ints visH⟩,H):=by kernel_rfl
theorem j1X (H:q0a):cw Tryz.prog (tabF tab) om1 107 [] H=some (.agg ⟨ints visH⟩,H.push ⟨ints visH,202,.tip,1,[]⟩):=by
 rw[q0g (F:=q5u) rfl rfl rfl]
 unfold q5u q9O
 have g1:(H.push ⟨ints visH,202,.tip,1,[]⟩).get H.n=some ⟨ints visH,202,.tip,1,[]⟩:=q0b
 rw[z9P]
 simp only[WA,reduceCtorEq,j1W,z9Q,q2h,q4f,g1,z9R]
theorem v_ixN {H:q0a} {l:List Int} {k n:Nat} {kd:IntKind} {s:Int} (hl:l.length=n) (hk:l[k]?=some s):k4p (.agg ⟨ints l⟩) (.int kd k) n false 1 H=some (.int .i64 s,H):=by
 have hk6:=(List.getElem?_eq_some_iff.1 hk).1
 unfold k4p
 simp only
 rw[if_pos ⟨by omega,by omega⟩]
 simp[ints,hk]
theorem c_vis {c:Nat} {H:q0a} (hc:c<256):q0p (cw Tryz.prog (tabF tab) om1 81 [.int .u8 c] H) fun v H'=>Ext H H'∧v=.int .i64 (vis c):=by
 rw[q0g (F:=q3Y) rfl rfl rfl]
 unfold q3Y q7K vis
 have ne:∀(k:Nat) (j:Int),j=k→¬c=k→((c:Int)=j)=False:=fun k j hj hk=>eq_false (by omega)
 have ye:∀(k:Nat) (j:Int),j=k→c=k→((c:Int)=j)=True:=fun k j hj hk=>eq_true (by omega)
 by_cases h1:c=2
 ·have z1:=ye 2 2 rfl h1
  rw[if_pos h1];simp only[WA,Nat.reduceEqDiff,reduceCtorEq,z1];exact Ext.refl _
 have z1:=ne 2 2 rfl h1
 rw[if_neg h1]
 by_cases h2:c=5
 ·have z2:=ye 5 5 rfl h2
  rw[if_pos h2];simp only[WA,Nat.reduceEqDiff,reduceCtorEq,z1,z2];exact Ext.refl _
 have z2:=ne 5 5 rfl h2
 rw[if_neg h2]
 by_cases h3:c=6
 ·have z3:=ye 6 6 rfl h3
  rw[if_pos h3];simp only[WA,Nat.reduceEqDiff,reduceCtorEq,z1,z2,z3];exact Ext.refl _
 have z3:=ne 6 6 rfl h3
 rw[if_neg h3]
 by_cases h4:c=20
 ·have z4:=ye 20 20 rfl h4
  rw[if_pos h4];simp only[WA,Nat.reduceEqDiff,reduceCtorEq,z1,z2,z3,z4];exact Ext.refl _
 have z4:=ne 20 20 rfl h4
 rw[if_neg h4]
 by_cases h5:c=25
 ·have z5:=ye 25 25 rfl h5
  rw[if_pos h5];simp only[WA,Nat.reduceEqDiff,reduceCtorEq,z1,z2,z3,z4,z5];exact Ext.refl _
 have z5:=ne 25 25 rfl h5
 rw[if_neg h5]
 by_cases h6:c=30
 ·have z6:=ye 30 30 rfl h6
  rw[if_pos h6];simp only[WA,Nat.reduceEqDiff,reduceCtorEq,z1,z2,z3,z4,z5,z6];exact Ext.refl _
 have z6:=ne 30 30 rfl h6
 rw[if_neg h6]
 by_cases h7:c<128
 ·have z7:((c:Int)<128)=True:=eq_true (by omega)
  have hw:IntKind.i64.wrap (c:Int)=c:=q0k (by omega) (by omega)
  rw[if_pos h7];simp only[WA,Nat.reduceEqDiff,reduceCtorEq,z1,z2,z3,z4,z5,z6,z7,hw];exact Ext.refl _
 have z7:((c:Int)<128)=False:=eq_false (by omega)
 rw[if_neg h7]
 have hw:IntKind.u8.wrap ((c:Int)-128)=((c-128:Nat):Int):=by rw[k1n (by omega) (by omega)];omega
 obtain ⟨s,hs⟩:∃s,visH[c-128]?=some s:=⟨_,List.getElem?_eq_getElem (by show c-128<128;omega)⟩
 have ix:=fun H=>v_ixN (H:=H) (n:=128) (kd:=.u8) (show visH.length=128 from rfl) hs
 have hsd:visH.getD (c-128) 0=s:=by rw[List.getD_eq_getElem?_getD,hs];rfl
 rw[hsd]
 simp only[WA,Nat.reduceEqDiff,reduceCtorEq,z1,z2,z3,z4,z5,z6,z7,j1X,hw,ix]
 exact Ext.push H _
structure RS (H0 H:q0a) (out:Value) (T:List Rl):Prop where
 own:q1f H 127 out T
 cut:CutR H out
 at_:From H0.n out
 ext:Ext H0 H
theorem RS.nil (H:q0a):RS H H (.slice none 0 0) []:=⟨q1f.nil _ _,CutR.nil _,trivial,Ext.refl _⟩
theorem RS.go {H0 H H':q0a} {out:Value} {T:List Rl} (h:RS H0 H out T) (hx:Ext H H'):RS H0 H' out T:=⟨h.own.ext hx,h.cut.ext hx,h.at_,h.ext.trans hx⟩
theorem RS.add {H0 H:q0a} {out:Value} {T:List Rl} {pi po:Option Addr} {ci co:Nat} {r:Rl} (h:RS H0 H out T) (hi:Ints H (.slice pi r.1.length ci) r.1) (hq:Ints H (.slice po r.2.length co) r.2) (c1:Cut Tryz.prog H (.slice pi r.1.length ci) 1) (c2:Cut Tryz.prog H (.slice po r.2.length co) 1) (t1:r.1.length<1000) (t2:r.2.length<1000) (hT:T.length<1000) :
  ∃out' H',q0m (H.push ⟨[.slice pi r.1.length ci,.slice po r.2.length co],127,.tip,0,[]⟩) out (.slice (some ⟨H.n,0,none⟩) 1 2) 127 2 48=some (out',H')∧RS H0 H' out' (T++[r]):=by
 have hx1:=Ext.push H ⟨[.slice pi r.1.length ci,.slice po r.2.length co],127,.tip,0,[]⟩
 have g1:=q0b (H:=H) (b:=⟨[.slice pi r.1.length ci,.slice po r.2.length co],127,.tip,0,[]⟩)
 obtain ⟨v',H6,m1,m2,m3,m4,m5,m6,m7,m8⟩:=q1f.appendC (bytes:=48) (r:=r) (h.own.ext hx1) (h.cut.ext hx1) (Sl.new (n:=1) (c:=2) g1 q0n rfl) (hi.ext hx1) (hq.ext hx1) (by unfold Lon.tiny;omega) (by unfold Lon.tiny;omega) (c1.ext hx1) (c2.ext hx1) (by omega)
 rw[q0a.n_push] at m3 m5 m6
 have hh:=h.ext.1
 refine ⟨v',H6,m1,m2,m7,m3.mono (by omega),⟨by omega,fun j hj=>?_⟩⟩
 rw[m6 j (by omega) (q0i.of_from h.at_ hj),hx1.2 j (by omega),h.ext.2 j hj]
theorem RS.rules {H0 H:q0a} {out:Value} {T:List Rl} (h:RS H0 H out T) (hT:T.length<1000):q2g H out T∧Cut Tryz.prog H out 2∧CutR H out:=⟨h.own.rules (by omega),h.own.cut (by kernel_rfl),h.cut⟩
theorem k3d {H:q0a} {a:Int}:∃H4,q0D 3 1 1 [.int .i64 0] [(0,1,.int .i64 a)] H=some (.slice (some ⟨H.n,0,none⟩) 1 2,H4)∧Ext H H4∧Ints H4 (.slice (some ⟨H.n,0,none⟩) 1 2) [a]∧Cut Tryz.prog H4 (.slice (some ⟨H.n,0,none⟩) 1 2) 1:=⟨_,z0K,Ext.push H _,Sl.new (n:=1) (c:=2) q0b q0n rfl,Cut.new q0b (by kernel_rfl)⟩
def PRs (H0:q0a) (id:Nat) (T:List Rl) (y:AEx) (e':Env) (H':q0a):Prop:=y=.exit id∧RS H0 H' (eget e' 1) T
theorem z4p (n:Nat):RVis (n+1)=RVis n++[([(n:Int)],[vis n])]:=by unfold RVis;rw[List.range_succ,List.map_append];rfl
theorem q7p (n:Nat):(RVis n).length=n:=by unfold RVis;simp
theorem l_vis {H0:q0a}:∀(c n:Nat) (H:q0a) (out:Value),n+c=256→RS H0 H out (RVis n) →
  Out (run Tryz.prog (tabF tab) om1 (.loop [1,3] q3x) [(1,out),(3,.int .i64 n)] H) (PRs H0 0 (RVis 256)):=by
 intro c
 induction c with
 | zero=>
  intro n H out hn h
  obtain rfl:n=256:=by omega
  have z:(((256:Nat):Int)<256)=False:=by simp
  rw[q0d q3x.eq_1]
  simp only[WA,Nat.reduceEqDiff,Int.reduceLT,Int.cast_ofNat_Int]
  exact ⟨rfl,h⟩
 | succ c ih=>
  intro n H out hn h
  have hlt:((n:Int)<256)=True:=eq_true (by omega)
  have hw2:IntKind.i64.wrap ((n:Int)+1)=((n+1:Nat):Int):=by rw[q0k (by omega) (by omega)];omega
  have hw3:IntKind.u8.wrap (n:Int)=n:=k1n (by omega) (by omega)
  obtain ⟨H1,v1,x1,i1,k1⟩:=k3d (H:=H) (a:=(n:Int))
  obtain ⟨v,H2,c2,x2,rfl⟩:=c_vis (c:=n) (H:=H1) (by omega)
  obtain ⟨H3,v3,x3,i3,k3⟩:=k3d (H:=H2) (a:=vis n)
  obtain ⟨out',H4,a1,a2⟩:=((h.go x1).go x2).go x3 |>.add (r:=([(n:Int)],[vis n])) (i1.ext (x2.trans x3)) i3 (k1.ext (x2.trans x3)) k3 (by simp) (by simp) (by rw[q7p];omega)
  rw[←z4p] at a2
  obtain ⟨y,e',H',r1,r2⟩:=ih (n+1) H4 out' (by omega) a2
  simp only[List.length_cons,List.length_nil,Nat.zero_add] at a1
  rw[q0d q3x.eq_1]
  simp only[WA,Nat.reduceEqDiff,hlt,v1,hw3,c2,v3,z7U,z3H,a1,hw2]
  rw[q0e]
  simp only[WA,Nat.reduceEqDiff,r1]
  exact r2
def q8g (H:q0a) (T:List Rl) (v:Value) (H':q0a):Prop:=Ext H H'∧q2g H' v T∧Cut Tryz.prog H' v 2∧CutR H' v
theorem j1Y {H:q0a}:q0p (cw Tryz.prog (tabF tab) om1 59 [] H) (q8g H (RVis 256)):=by
 rw[q0g (F:=q4I) rfl rfl rfl]
 unfold q4I q8L
 obtain ⟨y,e',H1,r1,rfl,r2⟩:=l_vis (H0:=H) 256 0 H (.slice none 0 0) (by omega) (RS.nil H)
 rw[show ((0:Nat):Int)=0 from rfl] at r1
 simp only[WA]
 rw[q0e]
 simp only[WA,Nat.reduceEqDiff,reduceCtorEq,r1]
 obtain ⟨q1,q2,q3⟩:=r2.rules (by rw[q7p];omega)
 exact ⟨r2.ext,q1,q2,q3⟩
theorem q8t {p:Nat→Prop} (h0:p 0) (h1:p 1) (h2:p 2) (h3:p 3) (h4:p 4) (h5:p 5) (h6:p 6) (h7:p 7):∀m,m<8→p m
 | 0,_=>h0
 | 1,_=>h1
 | 2,_=>h2
 | 3,_=>h3
 | 4,_=>h4
 | 5,_=>h5
 | 6,_=>h6
 | 7,_=>h7
 | m+8,h=>by omega
theorem gS {s:ByteArray}:q0J (.string s)=true:=rfl
theorem z1Z:∀k,k<8→binV .eql 9 (.string ⟨#[117,116,102,45,56]⟩) (.string (nm k))=some (.bool (Nat.beq k 0)):=q8t (by kernel_rfl) (by kernel_rfl) (by kernel_rfl) (by kernel_rfl) (by kernel_rfl) (by kernel_rfl) (by kernel_rfl) (by kernel_rfl)
theorem j1Z:∀k,k<8→binV .eql 9 (.string ⟨#[118,105,115,99,105,105]⟩) (.string (nm k))=some (.bool (Nat.beq k 2)):=q8t (by kernel_rfl) (by kernel_rfl) (by kernel_rfl) (by kernel_rfl) (by kernel_rfl) (by kernel_rfl) (by kernel_rfl) (by kernel_rfl)
theorem j2a:∀k,k<8→binV .eql 9 (.string ⟨#[116,99,118,110,51]⟩) (.string (nm k))=some (.bool (Nat.beq k 3)):=q8t (by kernel_rfl) (by kernel_rfl) (by kernel_rfl) (by kernel_rfl) (by kernel_rfl) (by kernel_rfl) (by kernel_rfl) (by kernel_rfl)
theorem e_vni:∀k,k<8→binV .eql 9 (.string ⟨#[118,110,105]⟩) (.string (nm k))=some (.bool (Nat.beq k 4)):=q8t (by kernel_rfl) (by kernel_rfl) (by kernel_rfl) (by kernel_rfl) (by kernel_rfl) (by kernel_rfl) (by kernel_rfl) (by kernel_rfl)
theorem z9S:∀k,k<8→binV .eql 9 (.string ⟨#[116,115,99,105,105]⟩) (.string (nm k))=some (.bool (Nat.beq k 6)):=q8t (by kernel_rfl) (by kernel_rfl) (by kernel_rfl) (by kernel_rfl) (by kernel_rfl) (by kernel_rfl) (by kernel_rfl) (by kernel_rfl)
theorem k3e:∀k,k<8→binV .eql 9 (.string ⟨#[105,115,99,105,105]⟩) (.string (nm k))=some (.bool (Nat.beq k 7)):=q8t (by kernel_rfl) (by kernel_rfl) (by kernel_rfl) (by kernel_rfl) (by kernel_rfl) (by kernel_rfl) (by kernel_rfl) (by kernel_rfl)
theorem z4q:(RVis 256).all (fun r=>q6J r.1&&q6J r.2)=true:=by kernel_rfl
theorem k4H:q1a (RVis 256):=by
 refine ⟨fun r hr=>by simpa using List.all_eq_true.1 z4q r hr,fun k r hr=>?_⟩
 rw[z3Z]
 intro x hx e
 obtain ⟨i,hi,rfl⟩:=List.getElem_of_mem hx
 rw[List.length_take,q7p] at hi
 have hk:=(List.getElem?_eq_some_iff.1 hr).1
 rw[q7p] at hk
 have e1:r=([(k:Int)],[vis k]):=by
  unfold RVis at hr
  rw[List.getElem?_map,List.getElem?_range hk] at hr
  simpa using hr.symm
 rw[List.getElem_take,e1] at e
 have e2:(RVis 256)[i]'(by rw[q7p];omega)=([(i:Int)],[vis i]):=by
  unfold RVis
  rw[List.getElem_map,List.getElem_range]
 rw[e2] at e
 simp at e
 omega
theorem q8u {L:List Rl} (h1:∀r∈L,r.1.length=1):clsF L L=true:=by
 have key:∀{R:List Rl},(∀r∈R,r.1.length=1)→clsF L R=true:=by
  intro R
  induction R with
  | nil=>intro _;rfl
  | cons r R ih=>
   intro h
   unfold clsF
   rw[h r (List.mem_cons_self ..),if_pos (by rfl)]
   exact ih fun x hx=>h x (List.mem_cons_of_mem _ hx)
 exact key h1
theorem z6k:∀r∈RVis 256,r.1.length=1:=fun r hr=>by
 unfold RVis at hr
 obtain ⟨c,_,rfl⟩:=List.mem_map.1 hr
 rfl
theorem z6l:clsF (RVis 256) (RVis 256)=true:=q8u z6k
theorem z6m {H:q0a}:q0p (cw Tryz.prog (tabF tab) om1 39 [.string (nm 2)] H) (q8g H (RVis 256)):=by
 rw[q0g (F:=q5s) (by unfold om1;exact if_pos rfl) rfl rfl]
 unfold q5s q9E
 obtain ⟨v,H1,c1,r1⟩:=j1Y (H:=H)
 have s2:=j1Z 2 (by omega)
 rw[show Nat.beq 2 2=true from rfl] at s2
 simp only[WA,Nat.reduceEqDiff,reduceCtorEq,q1I gS,s2,c1]
 exact r1
theorem nn_of {H H2:q0a} {v:Value} {L:List Rl} (h:q2g H v L) (hL:L.length≠0):k2I 1 false v H2=some (.bool false,H2):=by
 obtain ⟨_,cs,h1,_⟩:=h
 obtain ⟨i,o,c,cells,el,st,ver,anc,rfl,_⟩:=h1.form hL
 rfl
theorem q8v {k:Nat} {L:List Rl} {H:q0a} (hr:∀H,q0p (cw Tryz.prog (tabF tab) om1 39 [.string (nm k)] H) (q8g H L)) (hL0:L.length≠0) (hR:q1a L) (hL:L.length≤512) (hcl:clsF L L=true):q0p (cw Tryz.prog (tabF tab) om1 17 [.string (nm k)] H) fun v H'=>Ext H H'∧∃q,v=.pointer (some ⟨q,0,none⟩)∧q1K H' q L:=by
 rw[q0g (F:=q5p) rfl rfl rfl]
 unfold q5p q9A
 obtain ⟨v1,H1,c1,x1,r1,_⟩:=hr H
 obtain ⟨v2,H2,c2,x2,r2,k2,q2⟩:=hr H1
 obtain ⟨v3,H3,c3,x3,q,rfl,hT⟩:=j1U r2 k2 q2 hR hL hcl
 have hn:=fun H2=>nn_of (H2:=H2) r1 hL0
 simp only[WA,Nat.reduceEqDiff,reduceCtorEq,c1,hn,c2,c3]
 exact ⟨(x1.trans x2).trans x3,q,rfl,hT⟩
noncomputable def cutN (H:q0a) (k:Nat):q0a:=⟨k,H.t⟩
theorem q4R {H:q0a} {k i:Nat} (hk:k≤H.n) (hi:i<k):(cutN H k).get i=H.get i:=by
 rw[q0a.get_eq,q0a.get_eq]
 show (if i<k then H.t.get i else none)=_
 rw[if_pos hi,if_pos (by omega)]
theorem z6n {H:q0a} {k:Nat} (hk:k≤H.n):Ext (cutN H k) H:=⟨hk,fun i hi=>(q4R hk hi).symm⟩
theorem k0H {H:q0a} {k i:Nat} {b:ABlk} (h:(cutN H k).get i=some b):i<k:=q0a.lt_of_get h
structure MD (k:Nat) (H:q0a) (m t:Nat) (L:List Rl) (w:List Int) (a st:Int):Prop where
 kn:k≤H.n
 km:k≤m
 trie:q3O (cutN H k) t L
 hm:∃vw ver,H.get m=some ⟨[.pointer (some ⟨t,0,none⟩),vw,.int .i64 a,.int .i64 st],197,.tip,ver,[]⟩∧Own H 3 1 vw w.length (ints w)∧From k vw
theorem MD.ms {k:Nat} {H:q0a} {m t:Nat} {L:List Rl} {w:List Int} {a st:Int} (h:MD k H m t L w a st):MS (cutN H k) H m t w a st:=by
 obtain ⟨vw,ver,h1,h2,h3⟩:=h.hm
 exact ⟨h.km,z6n h.kn,vw,ver,h1,h2,h3,trivial⟩
theorem z9T {H H':q0a} {k:Nat} (hk:k≤H.n) (hk':k≤H'.n) (h:∀j blk,j<k→H.get j=some blk→isT blk.elem=true→H'.get j=some blk):KT (cutN H k) (cutN H' k):=fun j blk hj he=>by
 have hl:=k0H hj
 rw[q4R hk hl] at hj
 rw[q4R hk' hl]
 exact h j blk hl hj he
def isM (e:TypeId):Bool:=isT e||Nat.beq e 197
theorem MD.keep {k:Nat} {H H':q0a} {m t:Nat} {L:List Rl} {w:List Int} {a st:Int} (hn:H.n≤H'.n) (hk:∀j blk,H.get j=some blk→isM blk.elem=true→H'.get j=some blk) (h:MD k H m t L w a st):MD k H' m t L w a st:=by
 obtain ⟨vw,ver,h1,h2,h3⟩:=h.hm
 have hkn:=h.kn
 refine ⟨by omega,h.km,h.trie.keep (z9T h.kn (by omega) fun j blk _ hg he=>hk j blk hg (by unfold isM;rw[he];rfl)),vw,ver,hk _ _ h1 (by rfl),h2.move fun i b hi he=>hk i b hi (by rw[he];rfl),h3⟩
theorem MD.ext {k:Nat} {H H':q0a} {m t:Nat} {L:List Rl} {w:List Int} {a st:Int} (hx:Ext H H') (h:MD k H m t L w a st):MD k H' m t L w a st:=h.keep hx.1 fun j b hj _=>hx.get hj
theorem MD.new {H:q0a} {t:Nat} {L:List Rl} (hT:q3O H t L):q0p (cw Tryz.prog (tabF tab) om1 72 [.pointer (some ⟨t,0,none⟩)] H) fun v H'=>Ext H H'∧∃m,v=.pointer (some ⟨m,0,none⟩)∧MD H.n H' m t L [] 0 0:=by
 obtain ⟨v,H',c,x,rfl,hM⟩:=c_MOf (H:=H) (t:=t)
 obtain ⟨vw,ver,q1,q2,q3,_⟩:=hM.hm
 refine ⟨_,H',c,x,_,rfl,x.1,Nat.le_refl _,hT.keep fun j blk hj he=>?_,vw,ver,q1,q2,q3⟩
 rw[q4R x.1 (q0a.lt_of_get hj)]
 exact x.get hj
theorem q2N {cf:q0F} {t:TypeId} {v:Value} {name:String} {args:List Value} {H:q0a} {g:FuncId} (hm:q6Q Tryz.prog t name=some (g,none)):invA Tryz.prog cf (.iface t v) name args H=cf g (v::args) H:=by
 unfold invA z2g
 simp only[hm]
theorem k1C {cf:q0F} {t:TypeId} {d:Nat} {name:String} {args:List Value} {H:q0a} {g:FuncId} {u:Value} {r:List Value} {el:TypeId} {ver:Nat} {anc:List Nat} (hm:q6Q Tryz.prog t name=some (g,some (true,0))) (hg:H.get d=some ⟨u::r,el,.tip,ver,anc⟩):invA Tryz.prog cf (.iface t (.pointer (some ⟨d,0,none⟩))) name args H=cf g (u::args) H:=by
 unfold invA z2g
 simp only[hm,hg]
 rw[if_pos q0n]
 rfl
theorem z6o {cf:q0F} {t:TypeId} {d:Nat} {name:String} {args:List Value} {H:q0a} {g:FuncId} (hm:q6Q Tryz.prog t name=some (g,some (false,0))):invA Tryz.prog cf (.iface t (.pointer (some ⟨d,0,none⟩))) name args H=cf g (.pointer (some ⟨d,0,none⟩)::args) H:=by
 unfold invA z2g
 simp only[hm]
theorem j2b : q6Q Tryz.prog 139 "Put" = some (183, some (true, 0)) := by kernel_rfl
theorem j2c : q6Q Tryz.prog 139 "End" = some (182, some (true, 0)) := by kernel_rfl
structure MDec (k:Nat) (H:q0a) (v:Value) (L:List Rl) (w:List Int) (a st:Int):Prop where
 md:∃d m t ver,v=.iface 139 (.pointer (some ⟨d,0,none⟩))∧k≤d∧H.get d=some ⟨[.pointer (some ⟨m,0,none⟩)],143,.tip,ver,[]⟩∧MD k H m t L w a st
theorem j2d {q t1 t2 ver:Nat} {x y:Value} {H:q0a} (hg:H.get q=some ⟨[x,y,.pointer (some ⟨t1,0,none⟩),.pointer (some ⟨t2,0,none⟩)],107,.tip,ver,[]⟩):cw Tryz.prog (tabF tab) om1 23 [.pointer (some ⟨q,0,none⟩)] H=some (.pointer (some ⟨t1,0,none⟩),H):=by
 rw[q0g (F:=q2F) rfl rfl rfl]
 unfold q2F q5G
 simp only[WA,Nat.reduceEqDiff,reduceCtorEq,hg]
theorem z9U {q t1 t2 ver:Nat} {x y:Value} {H:q0a} (hg:H.get q=some ⟨[x,y,.pointer (some ⟨t1,0,none⟩),.pointer (some ⟨t2,0,none⟩)],107,.tip,ver,[]⟩):cw Tryz.prog (tabF tab) om1 75 [.pointer (some ⟨q,0,none⟩)] H=some (.pointer (some ⟨t2,0,none⟩),H):=by
 rw[q0g (F:=q2n) rfl rfl rfl]
 unfold q2n q5e
 simp only[WA,Nat.reduceEqDiff,reduceCtorEq,hg]
theorem v_dec {H:q0a} {m:Nat}:q2l [.pointer none] [(0,1,.pointer (some ⟨m,0,none⟩))] H=some (.agg ⟨[.pointer (some ⟨m,0,none⟩)]⟩,H):=rfl
theorem k7O {q:Nat} {L:List Rl} {H:q0a} (hT:q1K H q L):q0p (cw Tryz.prog (tabF tab) om1 43 [.pointer (some ⟨q,0,none⟩)] H) fun v H'=>Ext H H'∧MDec H.n H' v L [] 0 0:=by
 rw[q0g (F:=q3v) rfl rfl rfl]
 unfold q3v q7t
 obtain ⟨ver,t1,t2,hg,hT1,hT2⟩:=hT.rest
 have c1:=j2d hg
 obtain ⟨v2,H2,c2,x2,m,rfl,hM⟩:=MD.new hT1
 obtain ⟨H3,hH3⟩:∃H3,H3=H2.push ⟨[.pointer (some ⟨m,0,none⟩)],143,.tip,0,[]⟩:=⟨_,rfl⟩
 have x3:Ext H2 H3:=by rw[hH3];exact Ext.push H2 _
 have g3:H3.get H2.n=some ⟨[.pointer (some ⟨m,0,none⟩)],143,.tip,0,[]⟩:=by rw[hH3];exact q0b
 have hbx:vBox (.agg ⟨[.pointer (some ⟨m,0,none⟩)]⟩) 143 H2=some (.pointer (some ⟨H2.n,0,none⟩),H3):=by rw[hH3];exact q8H rfl
 simp only[WA,Nat.reduceEqDiff,reduceCtorEq,c1,c2,v_dec,hbx]
 exact ⟨x2.trans x3,H2.n,m,t1,0,rfl,x2.1,g3,hM.ext x3⟩
end Go.Proofs.YtleiinhaljdcoaaGreatDoor
