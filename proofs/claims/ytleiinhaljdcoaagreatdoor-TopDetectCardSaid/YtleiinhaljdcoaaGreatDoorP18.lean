/- What is proved here: what the program's functions come to, as far as the claimed statement asks. Conditions: those that each theorem names, and no others. -/
import Derived.Test.YtleiinhaljdcoaaGreatDoorP17
set_option linter.unusedSimpArgs false
set_option linter.unusedVariables false
namespace Go.Proofs.YtleiinhaljdcoaaGreatDoor
open Go Lon
set_option maxRecDepth 100000
theorem j0B (H:q0a):cw Tryz.prog (tabF tab) om1 104 [] H=some (.slice (some ⟨H.n+14,0,none⟩) 14 15,(q8b H (RV.map lblk)).push ⟨lrow H.n 0 RV,201,.tip,0,[]⟩):=k8M 3 (by kernel_rfl)
theorem z5o {H:q0a} {i ver:Nat} {el:TypeId} {a b x y:Value} (h1:[x,y].all one=true):q0u (some ⟨[a,b],el,.tip,ver,[]⟩) i 0 (.agg ⟨[x,y]⟩) 2 H=some (.tuple ⟨[]⟩,H.upd i ⟨[x,y],el,.tip,ver+1,[]⟩):=by
 have:=q0x (H:=H) (cells:=[a,b]) (el:=el) (ver:=ver) (anc:=[]) (i:=i) (o:=0) (n:=2) (v:=.agg ⟨[x,y]⟩) rfl h1 (Nat.le_refl 2)
 rw[this]
 rfl
theorem j3g {H:q0a}:q2l [.int .i64 0,.complex .f64 0 0] [] H=some (.agg ⟨[.int .i64 0,.complex .f64 0 0]⟩,H):=rfl
theorem z5p {s:Int} {H:q0a} (h:0≤s∧s<100000):cw Tryz.prog (tabF tab) om1 105 [.int .i64 s] H=some (.int .i64 (upp s),H):=by
 rw[q0g (F:=q2M) rfl rfl rfl]
 unfold q2M q5N upp
 have w1:IntKind.i64.wrap (s-32)=s-32:=q0k (by omega) (by omega)
 have w2:IntKind.i64.wrap (s-1)=s-1:=q0k (by omega) (by omega)
 by_cases hs:s<256
 ·rw[if_pos hs]
  simp only[WA,Nat.reduceEqDiff,reduceCtorEq,hs,w1]
 ·rw[if_neg hs]
  simp only[WA,Nat.reduceEqDiff,reduceCtorEq,hs,w2]
theorem j0C {H:q0a} {i:Nat} {el:TypeId} {x y z:Value} (h1:[x,y,z].all one=true):q0u (some ⟨[.int .i64 0,.int .i64 0,.slice none 0 0],el,.tip,0,[]⟩) i 0 (.agg ⟨[x,y,z]⟩) 3 H=some (.tuple ⟨[]⟩,H.upd i ⟨[x,y,z],el,.tip,1,[]⟩):=by
 have:=q0x (H:=H) (cells:=[.int .i64 0,.int .i64 0,.slice none 0 0]) (el:=el) (ver:=0) (anc:=[]) (i:=i) (o:=0) (n:=3) (v:=.agg ⟨[x,y,z]⟩) rfl h1 (Nat.le_refl 3)
 rw[this]
 rfl
theorem z5q {up:Bool} {b:Int} {m:Nat}:∀{l:List Int} {k:Nat},(∀s∈l,s≠0)→(letF up b m k l).length=l.length
 | [],k,_=>rfl
 | s::l,k,h=>by
  unfold letF
  rw[if_neg (h s (List.mem_cons_self ..))]
  simp[z5q (up:=up) (b:=b) (m:=m) (l:=l) (k:=k+1) fun x hx=>h x (List.mem_cons_of_mem _ hx)]
def Hit (H0:q0a) (q:Nat) (x:Lt) (y:AEx) (e':Env) (H':q0a):Prop:=y=.ret∧eget e' 2=.pointer (some ⟨q,0,none⟩)∧eget e' 3=.int .i64 x.sc∧eget e' 4=.bool true∧Ext H0 H'∧H'.get q=some ⟨ltC x,154,.tip,1,[]⟩
def P0 (up:Bool) (b g:Int) (m n q:Nat) (l:List Int) (H0 H:q0a) (z16 z17 z18:Value) (k c:Nat) (y:AEx) (e':Env) (H':q0a):Prop:=(∃x,(letF up b m k (l.drop k))[n-c]?=some x∧Hit H0 q x y e' H')∨((l.length-k≤n-c)∧y=.exit 4∧eget e' 0=.int .i64 n∧eget e' 2=.pointer (some ⟨q,0,none⟩)∧eget e' 5=.int .i64 ((c+(l.length-k):Nat):Int)∧eget e' 6=.int .i64 g∧eget e' 16=z16∧eget e' 17=z17∧eget e' 18=z18∧H'=H)
theorem l_L0 {H0 H:q0a} {z16 z17 z18 z23:Value} {up:Bool} {b g:Int} {m q q8 n:Nat} {el:TypeId} {l:List Int} (hg:(up=true∧g=1)∨(up=false∧g=0)) (hb:0≤b∧b<100000) (hm:m<6) (hl:l.length≤6) (hs:∀s∈l,s≠0∧0≤s∧s<100000) (hx:Ext H0 H) (hq:H0.n≤q) (hgq:H.get q=some ⟨[.int .i64 0,.complex .f64 0 0],154,.tip,0,[]⟩) (hg8:H.get q8=some ⟨[.int .i64 b,.int .i64 m,z23],el,.tip,1,[]⟩) (hi:Ints H z23 l):∀(r k c:Nat),k+r=l.length→c≤n→c+r<1000 →
  Out (run Tryz.prog (tabF tab) om1 (.loop [0,2,5,6,8,16,17,18,23,24,25] q1k) [(0,.int .i64 n),(2,.pointer (some ⟨q,0,none⟩)),(5,.int .i64 c),(6,.int .i64 g),(8,.pointer (some ⟨q8,0,none⟩)),(16,z16),(17,z17),(18,z18),(23,z23),(24,.int .i64 l.length),(25,.int .i64 k)] H) (P0 up b g m n q l H0 H z16 z17 z18 k c):=by
 intro r
 induction r with
 | zero=>
  intro k c hk hc hc2
  obtain rfl:k=l.length:=by omega
  have z:(((l.length:Nat):Int)<(l.length:Nat))=False:=by simp
  rw[q0d q1k.eq_1]
  simp only[WA,Nat.reduceEqDiff,reduceCtorEq,z]
  unfold P0
  rw[Nat.sub_self]
  exact .inr ⟨Nat.zero_le _,rfl,rfl,rfl,rfl,rfl,rfl,rfl,rfl,rfl⟩
 | succ r ih=>
  intro k c hk hc hc2
  have hlt:((k:Int)<(l.length:Nat))=True:=eq_true (by omega)
  obtain ⟨s,hsk,hd⟩:=q0z (L:=l) (i:=k) (by omega)
  obtain ⟨h0,hss⟩:=hs s (List.mem_of_getElem? hsk)
  obtain ⟨i2,o2,d1,d2⟩:=hi.at hsk
  have hw2:IntKind.i64.wrap ((k:Int)+1)=((k+1:Nat):Int):=by rw[q0k (by omega) (by omega)];omega
  have hw3:IntKind.i64.wrap ((c:Int)+1)=((c+1:Nat):Int):=by rw[q0k (by omega) (by omega)];omega
  have hF:letF up b m k (l.drop k)=⟨upB up b,m,k,upB up s⟩::letF up b m (k+1) (l.drop (k+1)):=by
   rw[hd]
   show (if s=0 then _ else _)=_
   rw[if_neg h0]
  by_cases he:c=n
  ·subst he
   have z1:((c:Int)=(c:Int))=True:=by simp
   have cm:=z0R m hm
   have ck:=z0R k (by omega)
   have hst:=z5o (H:=H) (i:=q) (ver:=0) (el:=154) (a:=.int .i64 0) (b:=.complex .f64 0 0) (x:=.int .i64 (upB up b)) (y:=.complex .f64 (fb m) (fb k)) rfl
   have g3:=q0r (c:=⟨ltC ⟨upB up b,m,k,upB up s⟩,154,.tip,1,[]⟩) hgq
   have x3:Ext H0 (H.upd q ⟨ltC ⟨upB up b,m,k,upB up s⟩,154,.tip,1,[]⟩):=Ext.upd hx hgq hq
   rw[q0d q1k.eq_1]
   rcases hg with ⟨rfl,rfl⟩|⟨rfl,rfl⟩
   ·have cb:=z5p (H:=H) hb
    have cs:=z5p (H:=H) hss
    simp only[upB,if_true,ltC] at hst g3 x3
    simp only[WA,Nat.reduceEqDiff,reduceCtorEq,hlt,d1,d2,hg8,cb,cs,z0P,cm,ck,z0Q,z0S,z0T,hgq,hst]
    unfold P0
    rw[hF,Nat.sub_self]
    exact .inl ⟨_,rfl,rfl,rfl,rfl,rfl,x3,g3⟩
   ·simp only[upB,Bool.false_eq_true,if_false,ltC] at hst g3 x3
    have z2:((0:Int)=1)=False:=by simp
    simp only[WA,Nat.reduceEqDiff,reduceCtorEq,hlt,d1,d2,z2,hg8,z0P,cm,ck,z0Q,z0S,z0T,hgq,hst]
    unfold P0
    rw[hF,Nat.sub_self]
    exact .inl ⟨_,rfl,rfl,rfl,rfl,rfl,x3,g3⟩
  ·have z1:((c:Int)=(n:Int))=False:=eq_false (by omega)
   obtain ⟨y,e',H',r1,r2⟩:=ih (k+1) (c+1) (by omega) (by omega) (by omega)
   rw[q0d q1k.eq_1]
   simp only[WA,Nat.reduceEqDiff,reduceCtorEq,hlt,d1,d2,z1,hw2,hw3]
   rw[q0e]
   simp only[WA,Nat.reduceEqDiff,reduceCtorEq,r1]
   unfold P0 at r2 ⊢
   rw[hF]
   rcases r2 with ⟨x,p1,p2⟩|⟨p1,p2,p3,p4,p5,p6⟩
   ·refine .inl ⟨x,?_,p2⟩
    rw[show n-c=(n-(c+1))+1 by omega]
    exact p1
   ·refine .inr ⟨by omega,p2,p3,p4,?_,p6⟩
    rw[p5]
    congr 2
    omega
def k3H (up:Bool) (r:Int×Int×List Int):List Lt:=letF up r.1 r.2.1.toNat 0 r.2.2
theorem LA_R (up:Bool):RV.flatMap (k3H up)=LA up:=by cases up<;>kernel_rfl
theorem RV_no:∀r∈RV,(0≤r.1∧r.1<100000)∧(0≤r.2.1∧r.2.1<6)∧r.2.2.length≤6∧∀s∈r.2.2,s≠0∧0≤s∧s<100000:=by
 have h:RV.all (fun r=>(decide (0≤r.1)&&decide (r.1<100000))&&((decide (0≤r.2.1)&&decide (r.2.1<6))&&(Nat.ble r.2.2.length 6&&r.2.2.all fun s=>decide (s≠0)&&(decide (0≤s)&&decide (s<100000)))))=true:=by kernel_rfl
 intro r hr
 have:=List.all_eq_true.1 h r hr
 simp only[Bool.and_eq_true,decide_eq_true_eq,List.all_eq_true] at this
 exact ⟨this.1,this.2.1,Nat.le_of_ble_eq_true this.2.2.1,this.2.2.2⟩
theorem k8d {n:Nat}:∀(R:List (Int×Int×List Int)) (k i:Nat),(lrow n k R).drop (i*3)=lrow n (k+i) (R.drop i)
 | [],k,i=>by simp[lrow]
 | r::R,k,0=>by simp
 | r::R,k,i+1=>by
  rw[show (i+1)*3=i*3+1+1+1 by omega]
  show (lrow n (k+1) R).drop (i*3)=_
  rw[k8d R (k+1) i,List.drop_succ_cons,show k+1+i=k+(i+1) by omega]
theorem z1o {n:Nat}:∀(R:List (Int×Int×List Int)) (k:Nat),(lrow n k R).length=R.length*3
 | [],k=>rfl
 | r::R,k=>by show (lrow n (k+1) R).length+1+1+1=_;rw[z1o R (k+1),List.length_cons];omega
def P1 (up:Bool) (g:Int) (n q:Nat) (H0 H:q0a) (k c:Nat) (y:AEx) (e':Env) (H':q0a):Prop:=(∃x,((RV.drop k).flatMap (k3H up))[n-c]?=some x∧Hit H0 q x y e' H')∨(((RV.drop k).flatMap (k3H up)).length≤n-c∧y=.exit 2∧eget e' 0=.int .i64 n∧eget e' 2=.pointer (some ⟨q,0,none⟩)∧eget e' 5=.int .i64 ((c+((RV.drop k).flatMap (k3H up)).length:Nat):Int)∧eget e' 6=.int .i64 g∧Ext H H')
theorem l_L1 {H0:q0a} {up:Bool} {g:Int} {q n n0 ib:Nat} (hg:(up=true∧g=1)∨(up=false∧g=0)) (hq:H0.n≤q):∀(r k c:Nat) (H:q0a),k+r=14→c≤n→c+6*r<900→Ext H0 H→H.get q=some ⟨[.int .i64 0,.complex .f64 0 0],154,.tip,0,[]⟩→H.get ib=some ⟨lrow n0 0 RV,201,.tip,0,[]⟩→(∀k r,RV[k]?=some r→H.get (n0+k)=some (lblk r)) →
  Out (run Tryz.prog (tabF tab) om1 (.loop [0,2,5,6,16,17,18] q1V) [(0,.int .i64 n),(2,.pointer (some ⟨q,0,none⟩)),(5,.int .i64 c),(6,.int .i64 g),(16,.slice (some ⟨ib,0,none⟩) 14 15),(17,.int .i64 14),(18,.int .i64 k)] H) (P1 up g n q H0 H k c):=by
 intro r
 induction r with
 | zero=>
  intro k c H hk hc hc2 hx hgq hgi hgr
  obtain rfl:k=14:=by omega
  have z:(((14:Nat):Int)<14)=False:=by simp
  rw[q0d q1V.eq_1]
  simp only[WA,Nat.reduceEqDiff,reduceCtorEq,Int.reduceLT,Int.cast_ofNat_Int]
  exact .inr ⟨Nat.zero_le _,rfl,rfl,rfl,rfl,rfl,Ext.refl _⟩
 | succ r ih=>
  intro k c H hk hc hc2 hx hgq hgi hgr
  have hlt:((k:Int)<14)=True:=eq_true (by omega)
  obtain ⟨w,hwk,hd⟩:=q0z (L:=RV) (i:=k) (by show k<14;omega)
  obtain ⟨hb,hm,hl,hs⟩:=RV_no w (List.mem_of_getElem? hwk)
  obtain ⟨m,hm'⟩:∃m:Nat,w.2.1=m:=⟨w.2.1.toNat,by omega⟩
  have hsl:Sl H 3 (.slice (some ⟨ib,0,none⟩) 14 15) 14 (lrow n0 0 RV):=Sl.new (n:=14) (c:=15) hgi q0n (by rw[z1o];rfl)
  obtain ⟨i,o,a1,a2,a3⟩:=hsl.at (k:=k) (by omega)
  rw[k8d,hd] at a3
  have a3':q0l (H.get i) o (some 3) H=some (.agg ⟨[.int .i64 w.1,.int .i64 w.2.1,.slice (some ⟨n0+(0+k),0,none⟩) w.2.2.length (w.2.2.length+1)]⟩,H):=a3
  rw[Nat.zero_add,hm'] at a3'
  obtain ⟨x,hxe⟩:∃x:Value,x=.slice (some ⟨n0+k,0,none⟩) w.2.2.length (w.2.2.length+1):=⟨_,rfl⟩
  rw[←hxe] at a3'
  have hst:=j0C (H:=H.push ⟨[.int .i64 0,.int .i64 0,.slice none 0 0],201,.tip,0,[]⟩) (i:=H.n) (el:=201) (x:=.int .i64 w.1) (y:=.int .i64 m) (z:=x) (by rw[hxe];rfl)
  obtain ⟨H1,hH1⟩:∃H1,H1=H.push ⟨[.int .i64 w.1,.int .i64 m,x],201,.tip,1,[]⟩:=⟨_,rfl⟩
  have x1:Ext H H1:=by rw[hH1];exact Ext.push H _
  have g1:H1.get H.n=some ⟨[.int .i64 w.1,.int .i64 m,x],201,.tip,1,[]⟩:=by rw[hH1];exact q0b
  have hgw:=hgr k w hwk
  have hin:Ints H1 x w.2.2:=by
   rw[hxe]
   exact Sl.new (n:=w.2.2.length) (c:=w.2.2.length+1) (x1.get hgw) q0n (by simp[ints])
  have hlen:∀H2,vLen false x H2=some (.int .i64 w.2.2.length,H2):=fun _=>by rw[hxe];rfl
  have hw2:IntKind.i64.wrap ((k:Int)+1)=((k+1:Nat):Int):=by rw[q0k (by omega) (by omega)];omega
  have hLR:k3H up w=letF up w.1 m 0 (w.2.2.drop 0):=by unfold k3H;rw[hm'];rfl
  have hlR:(k3H up w).length=w.2.2.length:=z5q fun s h=>(hs s h).1
  have hfl:(RV.drop k).flatMap (k3H up)=k3H up w++(RV.drop (k+1)).flatMap (k3H up):=by rw[hd];rfl
  obtain ⟨y,e',H2,q1,q2⟩:=l_L0 (H0:=H0) (z16:=.slice (some ⟨ib,0,none⟩) 14 15) (z17:=.int .i64 14) (z18:=.int .i64 k) (el:=201) (n:=n) hg hb (m:=m) (by omega) hl hs (hx.trans x1) hq (x1.get hgq) g1 hin w.2.2.length 0 c (by omega) hc (by omega)
  rw[show ((0:Nat):Int)=0 from rfl] at q1
  unfold P0 at q2
  rw[←hLR] at q2
  rw[q0d q1V.eq_1]
  rcases q2 with ⟨x',p1,p2⟩|⟨p1,rfl,p3,p4,p5,p6,p7,p8,p9,rfl⟩
  ·obtain ⟨rfl,p3,p4,p5,p6⟩:=p2
   have hlt':=(List.getElem?_eq_some_iff.1 p1).1
   simp only[WA,Nat.reduceEqDiff,reduceCtorEq,hlt,a1,a3',hst,←hH1,g1,hlen]
   rw[q0e]
   simp only[WA,Nat.reduceEqDiff,reduceCtorEq,q1]
   refine .inl ⟨x',?_,rfl,p3,p4,p5,p6⟩
   rw[hfl,List.getElem?_append_left hlt']
   exact p1
  ·rw[Nat.sub_zero] at p1 p5
   obtain ⟨y,e2,H3,r1,r2⟩:=ih (k+1) (c+w.2.2.length) H2 (by omega) (by omega) (by omega) (hx.trans x1) (x1.get hgq) (x1.get hgi) (fun k r h=>x1.get (hgr k r h))
   simp only[WA,Nat.reduceEqDiff,reduceCtorEq,hlt,a1,a3',hst,←hH1,g1,hlen]
   rw[q0e]
   simp only[WA,Nat.reduceEqDiff,reduceCtorEq,q1,p9,hw2]
   rw[q0e]
   simp only[WA,Nat.reduceEqDiff,reduceCtorEq,p3,p4,p5,p6,p7,p8,p9,r1]
   unfold P1 at r2 ⊢
   rw[hfl]
   rcases r2 with ⟨x',s1,s2⟩|⟨s1,s2,s3,s4,s5,s6,s7⟩
   ·refine .inl ⟨x',?_,s2⟩
    rw[List.getElem?_append_right (by omega),hlR]
    rw[show n-c-w.2.2.length=n-(c+w.2.2.length) by omega]
    exact s1
   ·refine .inr ⟨by rw[List.length_append,hlR];omega,s2,s3,s4,?_,s6,x1.trans s7⟩
    rw[s5,List.length_append,hlR]
    congr 2
    omega
def LL:Nat→List Lt
 | 0=>LA false++LA true
 | 1=>LA true
 | _=>[]
def P2 (n q:Nat) (H0:q0a) (k c:Nat) (y:AEx) (e':Env) (H':q0a):Prop:=(∃x,(LL k)[n-c]?=some x∧Hit H0 q x y e' H')∨((LL k).length≤n-c∧y=.exit 0∧eget e' 2=.pointer (some ⟨q,0,none⟩)∧Ext H0 H'∧H'.get q=some ⟨[.int .i64 0,.complex .f64 0 0],154,.tip,0,[]⟩)
theorem l_L2 {H0:q0a} {q n:Nat} (hq:H0.n≤q):∀(r k c:Nat) (H:q0a),k+r=2→c≤n→c+100*r<600→Ext H0 H→H.get q=some ⟨[.int .i64 0,.complex .f64 0 0],154,.tip,0,[]⟩ →
  Out (run Tryz.prog (tabF tab) om1 (.loop [0,2,5,6] q1W) [(0,.int .i64 n),(2,.pointer (some ⟨q,0,none⟩)),(5,.int .i64 c),(6,.int .i64 k)] H) (P2 n q H0 k c):=by
 intro r
 induction r with
 | zero=>
  intro k c H hk hc hc2 hx hgq
  obtain rfl:k=2:=by omega
  have z:(((2:Nat):Int)<2)=False:=by simp
  rw[q0d q1W.eq_1]
  simp only[WA,Nat.reduceEqDiff,reduceCtorEq,Int.reduceLT,Int.cast_ofNat_Int]
  exact .inr ⟨Nat.zero_le _,rfl,rfl,hx,hgq⟩
 | succ r ih=>
  intro k c H hk hc hc2 hx hgq
  have hlt:((k:Int)<2)=True:=eq_true (by omega)
  obtain ⟨up,hup⟩:∃up:Bool,(up=true∧(k:Int)=1)∨(up=false∧(k:Int)=0):=by
   by_cases h:k=1
   ·exact ⟨true,.inl ⟨rfl,by omega⟩⟩
   ·exact ⟨false,.inr ⟨rfl,by omega⟩⟩
  have hLL:LL k=LA up++LL (k+1):=by
   rcases hup with ⟨rfl,h⟩|⟨rfl,h⟩
   ·obtain rfl:k=1:=by omega
    show LA true=LA true++[]
    rw[List.append_nil]
   ·obtain rfl:k=0:=by omega
    rfl
  obtain ⟨H1,hH1⟩:∃H1,H1=(q8b H (RV.map lblk)).push ⟨lrow H.n 0 RV,201,.tip,0,[]⟩:=⟨_,rfl⟩
  have hn1:(q8b H (RV.map lblk)).n=H.n+14:=k7w _ _
  have x0:=q9l (RV.map lblk) H
  have x1:Ext H H1:=by rw[hH1];exact x0.trans (Ext.push _ _)
  have g1:H1.get (H.n+14)=some ⟨lrow H.n 0 RV,201,.tip,0,[]⟩:=by rw[hH1,←hn1];exact q0b
  have gr:∀k r,RV[k]?=some r→H1.get (H.n+k)=some (lblk r):=fun k r h=>by
   rw[hH1]
   exact (Ext.push _ _).get (k2O (RV.map lblk) H k (lblk r) (by rw[List.getElem?_map,h];rfl))
  have cr:=j0B H
  rw[←hH1] at cr
  have hw2:IntKind.i64.wrap ((k:Int)+1)=((k+1:Nat):Int):=by rw[q0k (by omega) (by omega)];omega
  obtain ⟨y,e',H2,q1,q2⟩:=l_L1 (H0:=H0) (n:=n) hup hq 14 0 c H1 (by omega) hc (by omega) (hx.trans x1) (x1.get hgq) g1 gr
  rw[show ((0:Nat):Int)=0 from rfl] at q1
  unfold P1 at q2
  rw[List.drop_zero,LA_R] at q2
  have hl14:∀H2:q0a,vLen false (.slice (some ⟨H.n+14,0,none⟩) 14 15) H2=some (.int .i64 14,H2):=fun _=>rfl
  rw[q0d q1W.eq_1]
  rcases q2 with ⟨x',p1,p2⟩|⟨p1,rfl,p3,p4,p5,p6,p7⟩
  ·obtain ⟨rfl,p3,p4,p5,p6⟩:=p2
   have hlt':=(List.getElem?_eq_some_iff.1 p1).1
   simp only[WA,Nat.reduceEqDiff,reduceCtorEq,hlt,cr,hl14]
   rw[q0e]
   simp only[WA,Nat.reduceEqDiff,reduceCtorEq,q1]
   refine .inl ⟨x',?_,rfl,p3,p4,p5,p6⟩
   rw[hLL,List.getElem?_append_left hlt']
   exact p1
  ·rw[k2T] at p1 p5
   obtain ⟨y,e2,H3,r1,r2⟩:=ih (k+1) (c+74) H2 (by omega) (by omega) (by omega) ((hx.trans x1).trans p7) (p7.get (x1.get hgq))
   simp only[WA,Nat.reduceEqDiff,reduceCtorEq,hlt,cr,hl14]
   rw[q0e]
   simp only[WA,Nat.reduceEqDiff,reduceCtorEq,q1,p6,hw2]
   rw[q0e]
   simp only[WA,Nat.reduceEqDiff,reduceCtorEq,p3,p4,p5,p6,r1]
   unfold P2 at r2 ⊢
   rw[hLL]
   rcases r2 with ⟨x',s1,s2⟩|⟨s1,s2⟩
   ·refine .inl ⟨x',?_,s2⟩
    rw[List.getElem?_append_right (by rw[k2T];omega),k2T,show n-c-74=n-(c+74) by omega]
    exact s1
   ·exact .inr ⟨by rw[List.length_append,k2T];omega,s2⟩
def ltV (n:Nat):Value:=match VL[n]? with
 | some x=>.tuple ⟨[.agg ⟨ltC x⟩,.int .i64 x.sc,.bool true]⟩
 | none=>.tuple ⟨[.agg ⟨[.int .i64 0,.complex .f64 0 0]⟩,.int .i64 0,.bool false]⟩
theorem z6Y {n:Nat} {H:q0a}:q0p (cw Tryz.prog (tabF tab) om1 77 [.int .i64 n] H) fun v H'=>Ext H H'∧v=ltV n:=by
 rw[q0g (F:=q2z) rfl rfl rfl]
 unfold q2z q5n ltV
 obtain ⟨H1,hH1⟩:∃H1,H1=H.push ⟨[.int .i64 0,.complex .f64 0 0],154,.tip,0,[]⟩:=⟨_,rfl⟩
 have x1:Ext H H1:=by rw[hH1];exact Ext.push H _
 have g1:H1.get H.n=some ⟨[.int .i64 0,.complex .f64 0 0],154,.tip,0,[]⟩:=by rw[hH1];exact q0b
 obtain ⟨y,e',H2,q1,q2⟩:=l_L2 (H0:=H) (n:=n) (Nat.le_refl _) 2 0 0 H1 (by omega) (Nat.zero_le _) (by omega) x1 g1
 rw[show ((0:Nat):Int)=0 from rfl] at q1
 unfold P2 at q2
 rw[show LL 0=VL from rfl,Nat.sub_zero] at q2
 rcases q2 with ⟨x,p1,p2⟩|⟨p1,rfl,p2,p3,p4⟩
 ·obtain ⟨rfl,p3,p4,p5,p6,p7⟩:=p2
  rw[p1]
  unfold ltC at p7 ⊢
  simp only[WA,←hH1]
  rw[q0e]
  simp only[WA,Nat.reduceEqDiff,Nat.reduceAdd,reduceCtorEq,q1,p3,p4,p5,q2h,q4f,p7]
  exact p6
 ·have hst:=z5o (H:=H2) (i:=H.n) (ver:=0) (el:=154) (a:=.int .i64 0) (b:=.complex .f64 0 0) (x:=.int .i64 0) (y:=.complex .f64 0 0) rfl
  have g3:=q0r (c:=⟨[.int .i64 0,.complex .f64 0 0],154,.tip,0+1,[]⟩) p4
  have x3:Ext H (H2.upd H.n ⟨[.int .i64 0,.complex .f64 0 0],154,.tip,0+1,[]⟩):=Ext.upd p3 p4 (Nat.le_refl _)
  rw[List.getElem?_eq_none p1]
  simp only[Nat.zero_add] at hst g3 x3
  simp only[WA,←hH1]
  rw[q0e]
  simp only[WA,Nat.reduceEqDiff,Nat.reduceAdd,reduceCtorEq,q1,p2,j3g,p4,hst,q2h,q4f,g3]
  exact x3

theorem s_eql (s:ByteArray):q9n .eql 9 (.string s) (.string s)=some (.bool true):=by
 have h:q9n .eql 9 (.string s) (.string s)=some (.bool (s.toList==s.toList)):=by rfl
 rw[h];simp
def nb (us:List Int):List Int:=us.filter fun u=>decide (u≠65533)
section
variable {H0:q0a} {w:Value} {us:List Int}
end
end Go.Proofs.YtleiinhaljdcoaaGreatDoor
