/- What is proved here: what the program's functions come to, as far as the claimed statement asks. Conditions: those that each theorem names, and no others. -/
import Derived.Test.YtleiinhaljdcoaaGreatDoorP16
set_option linter.unusedSimpArgs false
set_option linter.unusedVariables false
namespace Go.Proofs.YtleiinhaljdcoaaGreatDoor
open Go Lon
set_option maxRecDepth 100000
theorem c_LRows (H:AHeap):cw Tryz.prog (tabF tab) om1 104 [] H=some (.slice (some ⟨H.n+14,0,none⟩) 14 15,(pushAll H (RV.map lblk)).push ⟨lrow H.n 0 RV,201,.tip,0,[]⟩):=cw_of 3 (by kernel_rfl)
theorem st_let {H:AHeap} {i ver:Nat} {el:TypeId} {a b x y:Value} (h1:[x,y].all one=true):gotStore (some ⟨[a,b],el,.tip,ver,[]⟩) i 0 (.agg ⟨[x,y]⟩) 2 H=some (.tuple ⟨[]⟩,H.upd i ⟨[x,y],el,.tip,ver+1,[]⟩):=by
 have:=got_store (H:=H) (cells:=[a,b]) (el:=el) (ver:=ver) (anc:=[]) (i:=i) (o:=0) (n:=2) (v:=.agg ⟨[x,y]⟩) rfl h1 (Nat.le_refl 2)
 rw[this]
 rfl
theorem v_letZ {H:AHeap}:vBuild [.int .i64 0,.complex .f64 0 0] [] H=some (.agg ⟨[.int .i64 0,.complex .f64 0 0]⟩,H):=rfl
theorem c_upper {s:Int} {H:AHeap} (h:0≤s∧s<100000):cw Tryz.prog (tabF tab) om1 105 [.int .i64 s] H=some (.int .i64 (upp s),H):=by
 rw[cw_run (F:=F_lontarlaw09_upper) rfl rfl rfl]
 unfold F_lontarlaw09_upper k_lontarlaw09_upper upp
 have w1:IntKind.i64.wrap (s - 32)=s - 32:=wrap64 (by omega) (by omega)
 have w2:IntKind.i64.wrap (s - 1)=s - 1:=wrap64 (by omega) (by omega)
 by_cases hs:s<256
 ·rw[if_pos hs]
  simp only[WA,Nat.reduceEqDiff,reduceCtorEq,hs,w1]
 ·rw[if_neg hs]
  simp only[WA,Nat.reduceEqDiff,reduceCtorEq,hs,w2]
theorem st_row3 {H:AHeap} {i:Nat} {el:TypeId} {x y z:Value} (h1:[x,y,z].all one=true):gotStore (some ⟨[.int .i64 0,.int .i64 0,.slice none 0 0],el,.tip,0,[]⟩) i 0 (.agg ⟨[x,y,z]⟩) 3 H=some (.tuple ⟨[]⟩,H.upd i ⟨[x,y,z],el,.tip,1,[]⟩):=by
 have:=got_store (H:=H) (cells:=[.int .i64 0,.int .i64 0,.slice none 0 0]) (el:=el) (ver:=0) (anc:=[]) (i:=i) (o:=0) (n:=3) (v:=.agg ⟨[x,y,z]⟩) rfl h1 (Nat.le_refl 3)
 rw[this]
 rfl
theorem letF_no {up:Bool} {b:Int} {m:Nat}:∀ {l:List Int} {k:Nat},(∀ s∈l,s≠0)→(letF up b m k l).length=l.length
 | [],k,_=>rfl
 | s :: l,k,h=>by
  unfold letF
  rw[if_neg (h s (List.mem_cons_self ..))]
  simp[letF_no (up:=up) (b:=b) (m:=m) (l:=l) (k:=k+1) fun x hx=>h x (List.mem_cons_of_mem _ hx)]
def Hit (H0:AHeap) (q:Nat) (x:Lt) (y:AEx) (e':Env) (H':AHeap):Prop:=y=.ret∧eget e' 2=.pointer (some ⟨q,0,none⟩)∧eget e' 3=.int .i64 x.sc∧eget e' 4=.bool true∧Ext H0 H'∧H'.get q=some ⟨ltC x,154,.tip,1,[]⟩
def P0 (up:Bool) (b g:Int) (m n q:Nat) (l:List Int) (H0 H:AHeap) (z16 z17 z18:Value) (k c:Nat) (y:AEx) (e':Env) (H':AHeap):Prop:=(∃ x,(letF up b m k (l.drop k))[n - c]?=some x∧Hit H0 q x y e' H')∨((l.length - k≤n - c)∧y=.exit 4∧eget e' 0=.int .i64 n∧eget e' 2=.pointer (some ⟨q,0,none⟩)∧eget e' 5=.int .i64 ((c+(l.length - k):Nat):Int)∧eget e' 6=.int .i64 g∧eget e' 16=z16∧eget e' 17=z17∧eget e' 18=z18∧H'=H)
theorem l_L0 {H0 H:AHeap} {z16 z17 z18 z23:Value} {up:Bool} {b g:Int} {m q q8 n:Nat} {el:TypeId} {l:List Int} (hg:(up=true∧g=1)∨(up=false∧g=0)) (hb:0≤b∧b<100000) (hm:m<6) (hl:l.length≤6) (hs:∀ s∈l,s≠0∧0≤s∧s<100000) (hx:Ext H0 H) (hq:H0.n≤q) (hgq:H.get q=some ⟨[.int .i64 0,.complex .f64 0 0],154,.tip,0,[]⟩) (hg8:H.get q8=some ⟨[.int .i64 b,.int .i64 m,z23],el,.tip,1,[]⟩) (hi:Ints H z23 l):∀ (r k c:Nat),k+r=l.length→c≤n→c+r<1000 →
  Out (run Tryz.prog (tabF tab) om1 (.loop [0,2,5,6,8,16,17,18,23,24,25] b_lontarlaw09_Letter_0) [(0,.int .i64 n),(2,.pointer (some ⟨q,0,none⟩)),(5,.int .i64 c),(6,.int .i64 g),(8,.pointer (some ⟨q8,0,none⟩)),(16,z16),(17,z17),(18,z18),(23,z23),(24,.int .i64 l.length),(25,.int .i64 k)] H) (P0 up b g m n q l H0 H z16 z17 z18 k c):=by
 intro r
 induction r with
 | zero=>
  intro k c hk hc hc2
  obtain rfl:k=l.length:=by omega
  have z:(((l.length:Nat):Int)<(l.length:Nat))=False:=by simp
  rw[w_loop_b b_lontarlaw09_Letter_0.eq_1]
  simp only[WA,Nat.reduceEqDiff,reduceCtorEq,z]
  unfold P0
  rw[Nat.sub_self]
  exact .inr ⟨Nat.zero_le _,rfl,rfl,rfl,rfl,rfl,rfl,rfl,rfl,rfl⟩
 | succ r ih=>
  intro k c hk hc hc2
  have hlt:((k:Int)<(l.length:Nat))=True:=eq_true (by omega)
  obtain ⟨s,hsk,hd⟩:=drop_at (L:=l) (i:=k) (by omega)
  obtain ⟨h0,hss⟩:=hs s (List.mem_of_getElem? hsk)
  obtain ⟨i2,o2,d1,d2⟩:=hi.at hsk
  have hw2:IntKind.i64.wrap ((k:Int)+1)=((k+1:Nat):Int):=by rw[wrap64 (by omega) (by omega)];omega
  have hw3:IntKind.i64.wrap ((c:Int)+1)=((c+1:Nat):Int):=by rw[wrap64 (by omega) (by omega)];omega
  have hF:letF up b m k (l.drop k)=⟨upB up b,m,k,upB up s⟩ :: letF up b m (k+1) (l.drop (k+1)):=by
   rw[hd]
   show (if s=0 then _ else _)=_
   rw[if_neg h0]
  by_cases he:c=n
  ·subst he
   have z1:((c:Int)=(c:Int))=True:=by simp
   have cm:=cvt_is m hm
   have ck:=cvt_is k (by omega)
   have hst:=st_let (H:=H) (i:=q) (ver:=0) (el:=154) (a:=.int .i64 0) (b:=.complex .f64 0 0) (x:=.int .i64 (upB up b)) (y:=.complex .f64 (fb m) (fb k)) rfl
   have g3:=upd_self (c:=⟨ltC ⟨upB up b,m,k,upB up s⟩,154,.tip,1,[]⟩) hgq
   have x3:Ext H0 (H.upd q ⟨ltC ⟨upB up b,m,k,upB up s⟩,154,.tip,1,[]⟩):=Ext.upd hx hgq hq
   rw[w_loop_b b_lontarlaw09_Letter_0.eq_1]
   rcases hg with ⟨rfl,rfl⟩ | ⟨rfl,rfl⟩
   ·have cb:=c_upper (H:=H) hb
    have cs:=c_upper (H:=H) hss
    simp only[upB,if_true,ltC] at hst g3 x3
    simp only[WA,Nat.reduceEqDiff,reduceCtorEq,hlt,d1,d2,hg8,cb,cs,st_cvt,cm,ck,st_cpl,cpl_is,v_letB,hgq,hst]
    unfold P0
    rw[hF,Nat.sub_self]
    exact .inl ⟨_,rfl,rfl,rfl,rfl,rfl,x3,g3⟩
   ·simp only[upB,Bool.false_eq_true,if_false,ltC] at hst g3 x3
    have z2:((0:Int)=1)=False:=by simp
    simp only[WA,Nat.reduceEqDiff,reduceCtorEq,hlt,d1,d2,z2,hg8,st_cvt,cm,ck,st_cpl,cpl_is,v_letB,hgq,hst]
    unfold P0
    rw[hF,Nat.sub_self]
    exact .inl ⟨_,rfl,rfl,rfl,rfl,rfl,x3,g3⟩
  ·have z1:((c:Int)=(n:Int))=False:=eq_false (by omega)
   obtain ⟨y,e',H',r1,r2⟩:=ih (k+1) (c+1) (by omega) (by omega) (by omega)
   rw[w_loop_b b_lontarlaw09_Letter_0.eq_1]
   simp only[WA,Nat.reduceEqDiff,reduceCtorEq,hlt,d1,d2,z1,hw2,hw3]
   rw[w_enter]
   simp only[WA,Nat.reduceEqDiff,reduceCtorEq,r1]
   unfold P0 at r2 ⊢
   rw[hF]
   rcases r2 with ⟨x,p1,p2⟩ | ⟨p1,p2,p3,p4,p5,p6⟩
   ·refine .inl ⟨x,?_,p2⟩
    rw[show n - c=(n - (c+1))+1 by omega]
    exact p1
   ·refine .inr ⟨by omega,p2,p3,p4,?_,p6⟩
    rw[p5]
    congr 2
    omega
def letsR (up:Bool) (r:Int × Int × List Int):List Lt:=letF up r.1 r.2.1.toNat 0 r.2.2
theorem LA_R (up:Bool):RV.flatMap (letsR up)=LA up:=by cases up <;> kernel_rfl
theorem RV_no:∀ r∈RV,(0≤r.1∧r.1<100000)∧(0≤r.2.1∧r.2.1<6)∧r.2.2.length≤6∧∀ s∈r.2.2,s≠0∧0≤s∧s<100000:=by
 have h:RV.all (fun r=>(decide (0≤r.1)&&decide (r.1<100000))&&((decide (0≤r.2.1)&&decide (r.2.1<6))&&(Nat.ble r.2.2.length 6&&r.2.2.all fun s=>decide (s≠0)&&(decide (0≤s)&&decide (s<100000)))))=true:=by kernel_rfl
 intro r hr
 have:=List.all_eq_true.1 h r hr
 simp only[Bool.and_eq_true,decide_eq_true_eq,List.all_eq_true] at this
 exact ⟨this.1,this.2.1,Nat.le_of_ble_eq_true this.2.2.1,this.2.2.2⟩
theorem drop_lrow {n:Nat}:∀ (R:List (Int × Int × List Int)) (k i:Nat),(lrow n k R).drop (i*3)=lrow n (k+i) (R.drop i)
 | [],k,i=>by simp[lrow]
 | r :: R,k,0=>by simp
 | r :: R,k,i+1=>by
  rw[show (i+1)*3=i*3+1+1+1 by omega]
  show (lrow n (k+1) R).drop (i*3)=_
  rw[drop_lrow R (k+1) i,List.drop_succ_cons,show k+1+i=k+(i+1) by omega]
theorem lrow_len {n:Nat}:∀ (R:List (Int × Int × List Int)) (k:Nat),(lrow n k R).length=R.length*3
 | [],k=>rfl
 | r :: R,k=>by show (lrow n (k+1) R).length+1+1+1=_;rw[lrow_len R (k+1),List.length_cons];omega
def P1 (up:Bool) (g:Int) (n q:Nat) (H0 H:AHeap) (k c:Nat) (y:AEx) (e':Env) (H':AHeap):Prop:=(∃ x,((RV.drop k).flatMap (letsR up))[n - c]?=some x∧Hit H0 q x y e' H')∨(((RV.drop k).flatMap (letsR up)).length≤n - c∧y=.exit 2∧eget e' 0=.int .i64 n∧eget e' 2=.pointer (some ⟨q,0,none⟩)∧eget e' 5=.int .i64 ((c+((RV.drop k).flatMap (letsR up)).length:Nat):Int)∧eget e' 6=.int .i64 g∧Ext H H')
theorem l_L1 {H0:AHeap} {up:Bool} {g:Int} {q n n0 ib:Nat} (hg:(up=true∧g=1)∨(up=false∧g=0)) (hq:H0.n≤q):∀ (r k c:Nat) (H:AHeap),k+r=14→c≤n→c+6*r<900→Ext H0 H→H.get q=some ⟨[.int .i64 0,.complex .f64 0 0],154,.tip,0,[]⟩→H.get ib=some ⟨lrow n0 0 RV,201,.tip,0,[]⟩→(∀ k r,RV[k]?=some r→H.get (n0+k)=some (lblk r)) →
  Out (run Tryz.prog (tabF tab) om1 (.loop [0,2,5,6,16,17,18] b_lontarlaw09_Letter_1) [(0,.int .i64 n),(2,.pointer (some ⟨q,0,none⟩)),(5,.int .i64 c),(6,.int .i64 g),(16,.slice (some ⟨ib,0,none⟩) 14 15),(17,.int .i64 14),(18,.int .i64 k)] H) (P1 up g n q H0 H k c):=by
 intro r
 induction r with
 | zero=>
  intro k c H hk hc hc2 hx hgq hgi hgr
  obtain rfl:k=14:=by omega
  have z:(((14:Nat):Int)<14)=False:=by simp
  rw[w_loop_b b_lontarlaw09_Letter_1.eq_1]
  simp only[WA,Nat.reduceEqDiff,reduceCtorEq,Int.reduceLT,Int.cast_ofNat_Int]
  exact .inr ⟨Nat.zero_le _,rfl,rfl,rfl,rfl,rfl,Ext.refl _⟩
 | succ r ih=>
  intro k c H hk hc hc2 hx hgq hgi hgr
  have hlt:((k:Int)<14)=True:=eq_true (by omega)
  obtain ⟨w,hwk,hd⟩:=drop_at (L:=RV) (i:=k) (by show k<14;omega)
  obtain ⟨hb,hm,hl,hs⟩:=RV_no w (List.mem_of_getElem? hwk)
  obtain ⟨m,hm'⟩:∃ m:Nat,w.2.1=m:=⟨w.2.1.toNat,by omega⟩
  have hsl:Sl H 3 (.slice (some ⟨ib,0,none⟩) 14 15) 14 (lrow n0 0 RV):=Sl.new (n:=14) (c:=15) hgi mem_tip (by rw[lrow_len];rfl)
  obtain ⟨i,o,a1,a2,a3⟩:=hsl.at (k:=k) (by omega)
  rw[drop_lrow,hd] at a3
  have a3':gotLoad (H.get i) o (some 3) H=some (.agg ⟨[.int .i64 w.1,.int .i64 w.2.1,.slice (some ⟨n0+(0+k),0,none⟩) w.2.2.length (w.2.2.length+1)]⟩,H):=a3
  rw[Nat.zero_add,hm'] at a3'
  obtain ⟨x,hxe⟩:∃ x:Value,x=.slice (some ⟨n0+k,0,none⟩) w.2.2.length (w.2.2.length+1):=⟨_,rfl⟩
  rw[← hxe] at a3'
  have hst:=st_row3 (H:=H.push ⟨[.int .i64 0,.int .i64 0,.slice none 0 0],201,.tip,0,[]⟩) (i:=H.n) (el:=201) (x:=.int .i64 w.1) (y:=.int .i64 m) (z:=x) (by rw[hxe];rfl)
  obtain ⟨H1,hH1⟩:∃ H1,H1=H.push ⟨[.int .i64 w.1,.int .i64 m,x],201,.tip,1,[]⟩:=⟨_,rfl⟩
  have x1:Ext H H1:=by rw[hH1];exact Ext.push H _
  have g1:H1.get H.n=some ⟨[.int .i64 w.1,.int .i64 m,x],201,.tip,1,[]⟩:=by rw[hH1];exact get_push_self
  have hgw:=hgr k w hwk
  have hin:Ints H1 x w.2.2:=by
   rw[hxe]
   exact Sl.new (n:=w.2.2.length) (c:=w.2.2.length+1) (x1.get hgw) mem_tip (by simp[ints])
  have hlen:∀ H2,vLen false x H2=some (.int .i64 w.2.2.length,H2):=fun _=>by rw[hxe];rfl
  have hw2:IntKind.i64.wrap ((k:Int)+1)=((k+1:Nat):Int):=by rw[wrap64 (by omega) (by omega)];omega
  have hLR:letsR up w=letF up w.1 m 0 (w.2.2.drop 0):=by unfold letsR;rw[hm'];rfl
  have hlR:(letsR up w).length=w.2.2.length:=letF_no fun s h=>(hs s h).1
  have hfl:(RV.drop k).flatMap (letsR up)=letsR up w++(RV.drop (k+1)).flatMap (letsR up):=by rw[hd];rfl
  obtain ⟨y,e',H2,q1,q2⟩:=l_L0 (H0:=H0) (z16:=.slice (some ⟨ib,0,none⟩) 14 15) (z17:=.int .i64 14) (z18:=.int .i64 k) (el:=201) (n:=n) hg hb (m:=m) (by omega) hl hs (hx.trans x1) hq (x1.get hgq) g1 hin w.2.2.length 0 c (by omega) hc (by omega)
  rw[show ((0:Nat):Int)=0 from rfl] at q1
  unfold P0 at q2
  rw[← hLR] at q2
  rw[w_loop_b b_lontarlaw09_Letter_1.eq_1]
  rcases q2 with ⟨x',p1,p2⟩ | ⟨p1,rfl,p3,p4,p5,p6,p7,p8,p9,rfl⟩
  ·obtain ⟨rfl,p3,p4,p5,p6⟩:=p2
   have hlt':=(List.getElem?_eq_some_iff.1 p1).1
   simp only[WA,Nat.reduceEqDiff,reduceCtorEq,hlt,a1,a3',hst,← hH1,g1,hlen]
   rw[w_enter]
   simp only[WA,Nat.reduceEqDiff,reduceCtorEq,q1]
   refine .inl ⟨x',?_,rfl,p3,p4,p5,p6⟩
   rw[hfl,List.getElem?_append_left hlt']
   exact p1
  ·rw[Nat.sub_zero] at p1 p5
   obtain ⟨y,e2,H3,r1,r2⟩:=ih (k+1) (c+w.2.2.length) H2 (by omega) (by omega) (by omega) (hx.trans x1) (x1.get hgq) (x1.get hgi) (fun k r h=>x1.get (hgr k r h))
   simp only[WA,Nat.reduceEqDiff,reduceCtorEq,hlt,a1,a3',hst,← hH1,g1,hlen]
   rw[w_enter]
   simp only[WA,Nat.reduceEqDiff,reduceCtorEq,q1,p9,hw2]
   rw[w_enter]
   simp only[WA,Nat.reduceEqDiff,reduceCtorEq,p3,p4,p5,p6,p7,p8,p9,r1]
   unfold P1 at r2 ⊢
   rw[hfl]
   rcases r2 with ⟨x',s1,s2⟩ | ⟨s1,s2,s3,s4,s5,s6,s7⟩
   ·refine .inl ⟨x',?_,s2⟩
    rw[List.getElem?_append_right (by omega),hlR]
    rw[show n - c - w.2.2.length=n - (c+w.2.2.length) by omega]
    exact s1
   ·refine .inr ⟨by rw[List.length_append,hlR];omega,s2,s3,s4,?_,s6,x1.trans s7⟩
    rw[s5,List.length_append,hlR]
    congr 2
    omega
def LL:Nat→List Lt
 | 0=>LA false++LA true
 | 1=>LA true
 | _=>[]
def P2 (n q:Nat) (H0:AHeap) (k c:Nat) (y:AEx) (e':Env) (H':AHeap):Prop:=(∃ x,(LL k)[n - c]?=some x∧Hit H0 q x y e' H')∨((LL k).length≤n - c∧y=.exit 0∧eget e' 2=.pointer (some ⟨q,0,none⟩)∧Ext H0 H'∧H'.get q=some ⟨[.int .i64 0,.complex .f64 0 0],154,.tip,0,[]⟩)
theorem l_L2 {H0:AHeap} {q n:Nat} (hq:H0.n≤q):∀ (r k c:Nat) (H:AHeap),k+r=2→c≤n→c+100*r<600→Ext H0 H→H.get q=some ⟨[.int .i64 0,.complex .f64 0 0],154,.tip,0,[]⟩ →
  Out (run Tryz.prog (tabF tab) om1 (.loop [0,2,5,6] b_lontarlaw09_Letter_2) [(0,.int .i64 n),(2,.pointer (some ⟨q,0,none⟩)),(5,.int .i64 c),(6,.int .i64 k)] H) (P2 n q H0 k c):=by
 intro r
 induction r with
 | zero=>
  intro k c H hk hc hc2 hx hgq
  obtain rfl:k=2:=by omega
  have z:(((2:Nat):Int)<2)=False:=by simp
  rw[w_loop_b b_lontarlaw09_Letter_2.eq_1]
  simp only[WA,Nat.reduceEqDiff,reduceCtorEq,Int.reduceLT,Int.cast_ofNat_Int]
  exact .inr ⟨Nat.zero_le _,rfl,rfl,hx,hgq⟩
 | succ r ih=>
  intro k c H hk hc hc2 hx hgq
  have hlt:((k:Int)<2)=True:=eq_true (by omega)
  obtain ⟨up,hup⟩:∃ up:Bool,(up=true∧(k:Int)=1)∨(up=false∧(k:Int)=0):=by
   by_cases h:k=1
   ·exact ⟨true,.inl ⟨rfl,by omega⟩⟩
   ·exact ⟨false,.inr ⟨rfl,by omega⟩⟩
  have hLL:LL k=LA up++LL (k+1):=by
   rcases hup with ⟨rfl,h⟩ | ⟨rfl,h⟩
   ·obtain rfl:k=1:=by omega
    show LA true=LA true++[]
    rw[List.append_nil]
   ·obtain rfl:k=0:=by omega
    rfl
  obtain ⟨H1,hH1⟩:∃ H1,H1=(pushAll H (RV.map lblk)).push ⟨lrow H.n 0 RV,201,.tip,0,[]⟩:=⟨_,rfl⟩
  have hn1:(pushAll H (RV.map lblk)).n=H.n+14:=pushAll_n _ _
  have x0:=pushAll_ext (RV.map lblk) H
  have x1:Ext H H1:=by rw[hH1];exact x0.trans (Ext.push _ _)
  have g1:H1.get (H.n+14)=some ⟨lrow H.n 0 RV,201,.tip,0,[]⟩:=by rw[hH1,← hn1];exact get_push_self
  have gr:∀ k r,RV[k]?=some r→H1.get (H.n+k)=some (lblk r):=fun k r h=>by
   rw[hH1]
   exact (Ext.push _ _).get (pushAll_get (RV.map lblk) H k (lblk r) (by rw[List.getElem?_map,h];rfl))
  have cr:=c_LRows H
  rw[← hH1] at cr
  have hw2:IntKind.i64.wrap ((k:Int)+1)=((k+1:Nat):Int):=by rw[wrap64 (by omega) (by omega)];omega
  obtain ⟨y,e',H2,q1,q2⟩:=l_L1 (H0:=H0) (n:=n) hup hq 14 0 c H1 (by omega) hc (by omega) (hx.trans x1) (x1.get hgq) g1 gr
  rw[show ((0:Nat):Int)=0 from rfl] at q1
  unfold P1 at q2
  rw[List.drop_zero,LA_R] at q2
  have hl14:∀ H2:AHeap,vLen false (.slice (some ⟨H.n+14,0,none⟩) 14 15) H2=some (.int .i64 14,H2):=fun _=>rfl
  rw[w_loop_b b_lontarlaw09_Letter_2.eq_1]
  rcases q2 with ⟨x',p1,p2⟩ | ⟨p1,rfl,p3,p4,p5,p6,p7⟩
  ·obtain ⟨rfl,p3,p4,p5,p6⟩:=p2
   have hlt':=(List.getElem?_eq_some_iff.1 p1).1
   simp only[WA,Nat.reduceEqDiff,reduceCtorEq,hlt,cr,hl14]
   rw[w_enter]
   simp only[WA,Nat.reduceEqDiff,reduceCtorEq,q1]
   refine .inl ⟨x',?_,rfl,p3,p4,p5,p6⟩
   rw[hLL,List.getElem?_append_left hlt']
   exact p1
  ·rw[LA_len] at p1 p5
   obtain ⟨y,e2,H3,r1,r2⟩:=ih (k+1) (c+74) H2 (by omega) (by omega) (by omega) ((hx.trans x1).trans p7) (p7.get (x1.get hgq))
   simp only[WA,Nat.reduceEqDiff,reduceCtorEq,hlt,cr,hl14]
   rw[w_enter]
   simp only[WA,Nat.reduceEqDiff,reduceCtorEq,q1,p6,hw2]
   rw[w_enter]
   simp only[WA,Nat.reduceEqDiff,reduceCtorEq,p3,p4,p5,p6,r1]
   unfold P2 at r2 ⊢
   rw[hLL]
   rcases r2 with ⟨x',s1,s2⟩ | ⟨s1,s2⟩
   ·refine .inl ⟨x',?_,s2⟩
    rw[List.getElem?_append_right (by rw[LA_len];omega),LA_len,show n - c - 74=n - (c+74) by omega]
    exact s1
   ·exact .inr ⟨by rw[List.length_append,LA_len];omega,s2⟩
def ltV (n:Nat):Value:=match VL[n]? with
 | some x=>.tuple ⟨[.agg ⟨ltC x⟩,.int .i64 x.sc,.bool true]⟩
 | none=>.tuple ⟨[.agg ⟨[.int .i64 0,.complex .f64 0 0]⟩,.int .i64 0,.bool false]⟩
theorem c_Letter {n:Nat} {H:AHeap}:Gives (cw Tryz.prog (tabF tab) om1 77 [.int .i64 n] H) fun v H'=>Ext H H'∧v=ltV n:=by
 rw[cw_run (F:=F_lontarlaw09_Letter) rfl rfl rfl]
 unfold F_lontarlaw09_Letter k_lontarlaw09_Letter ltV
 obtain ⟨H1,hH1⟩:∃ H1,H1=H.push ⟨[.int .i64 0,.complex .f64 0 0],154,.tip,0,[]⟩:=⟨_,rfl⟩
 have x1:Ext H H1:=by rw[hH1];exact Ext.push H _
 have g1:H1.get H.n=some ⟨[.int .i64 0,.complex .f64 0 0],154,.tip,0,[]⟩:=by rw[hH1];exact get_push_self
 obtain ⟨y,e',H2,q1,q2⟩:=l_L2 (H0:=H) (n:=n) (Nat.le_refl _) 2 0 0 H1 (by omega) (Nat.zero_le _) (by omega) x1 g1
 rw[show ((0:Nat):Int)=0 from rfl] at q1
 unfold P2 at q2
 rw[show LL 0=VL from rfl,Nat.sub_zero] at q2
 rcases q2 with ⟨x,p1,p2⟩ | ⟨p1,rfl,p2,p3,p4⟩
 ·obtain ⟨rfl,p3,p4,p5,p6,p7⟩:=p2
  rw[p1]
  unfold ltC at p7 ⊢
  simp only[WA,← hH1]
  rw[w_enter]
  simp only[WA,Nat.reduceEqDiff,Nat.reduceAdd,reduceCtorEq,q1,p3,p4,p5,ress_cell,rd_load,p7]
  exact p6
 ·have hst:=st_let (H:=H2) (i:=H.n) (ver:=0) (el:=154) (a:=.int .i64 0) (b:=.complex .f64 0 0) (x:=.int .i64 0) (y:=.complex .f64 0 0) rfl
  have g3:=upd_self (c:=⟨[.int .i64 0,.complex .f64 0 0],154,.tip,0+1,[]⟩) p4
  have x3:Ext H (H2.upd H.n ⟨[.int .i64 0,.complex .f64 0 0],154,.tip,0+1,[]⟩):=Ext.upd p3 p4 (Nat.le_refl _)
  rw[List.getElem?_eq_none p1]
  simp only[Nat.zero_add] at hst g3 x3
  simp only[WA,← hH1]
  rw[w_enter]
  simp only[WA,Nat.reduceEqDiff,Nat.reduceAdd,reduceCtorEq,q1,p2,v_letZ,p4,hst,ress_cell,rd_load,g3]
  exact x3
structure Mp {τ:Type} (M:Nat→AHeap→τ→NS→NS→Prop) (mv:Value) (ws:τ→Int→List Tok × τ) (wf:τ→List Tok × τ) (okU:Int→Prop) (N:Nat) (K:NS):Prop where
 put : ∀ {n H st C D u}, M n H st C D → n < N → okU u → Gives (invA Tryz.prog (cw Tryz.prog (tabF tab) om1) mv "Put" [.int .i64 u] H) fun v H' => OwnTA (fun j => j < H.n) H' v (ws st u).1 ∧ Rd K H H' ∧ Only C H H' ∧ ∃ C' D', M (n + 1) H' (ws st u).2 C' D' ∧ (∀ j, j < H.n → C' j → C j) ∧ ∀ j, j < H.n → D' j → D j
 fin : ∀ {n H st C D}, M n H st C D → n ≤ N → Gives (invA Tryz.prog (cw Tryz.prog (tabF tab) om1) mv "End" [] H) fun v H' => OwnTA (fun j => j < H.n) H' v (wf st).1 ∧ Rd K H H' ∧ Only C H H' ∧ ∃ C' D', M n H' (wf st).2 C' D' ∧ (∀ j, j < H.n → C' j → C j) ∧ ∀ j, j < H.n → D' j → D j
theorem wl_two:∀ (T:List Tok),T.length+(outs T).length=wl T
 | []=>rfl
 | x :: T=>by
  have e:outs (x :: T)=x.out++outs T:=List.flatMap_cons ..
  rw[wl_cons,e,List.length_append,List.length_cons,← wl_two T]
  omega
theorem ta_ones {Z:NS} {H:AHeap} {v:Value} {L:List Tok} (h:Rws 4 (tokA Z Tryz.prog) H v L):∀ cs,Sl H 4 v L.length cs→cs.all one=true:=by
 intro cs hcs
 obtain ⟨h0,cs',h1,h2⟩:=h
 have:cs'=cs:=Option.some.inj (h1.2.symm.trans hcs.2)
 subst this
 rw[List.all_eq_true]
 intro x hx
 obtain ⟨j,hj,rfl⟩:=List.getElem_of_mem hx
 have hl:=h1.length
 have hk:j / 4<L.length:=by omega
 obtain ⟨a,c,⟨e,_⟩,_⟩:=h2 (j / 4) _ (List.getElem?_eq_getElem hk)
 have hrow:(rowC cs' 4 (j / 4))[j % 4]?=some cs'[j]:=by
  unfold rowC
  rw[List.getElem?_take,if_pos (Nat.mod_lt _ (by decide)),List.getElem?_drop,show j / 4*4+j % 4=j by omega,List.getElem?_eq_getElem hj]
 rw[e] at hrow
 have:=List.mem_of_getElem? hrow
 simp[tokC] at this
 rcases this with h | h | h | h <;> rw[h] <;> rfl
section
variable {τ:Type} {M:Nat→AHeap→τ→NS→NS→Prop} {mv:Value} {ws:τ→Int→List Tok × τ} {wf:τ→List Tok × τ} {okU:Int→Prop} {N:Nat} {K:NS}
structure AM (K:NS) (M:Nat→AHeap→τ→NS→NS→Prop) (HB:AHeap) (x:Value) (us:List Int) (k b:Nat) (H:AHeap) (v:Value) (T:List Tok) (st:τ) (C D:NS):Prop where
 m:M k H st C D
 t:OwnTA K H v T
 f:From HB.n v
 e:Ext HB H
 c:∀ j,C j→HB.n≤j
 d:∀ j,D j→NotAt v j
 l:T.length+(outs T).length≤400*b
 i:us≠[]→Ints H x us∧Cut Tryz.prog H x 1∧∀ j,K j→NotAt x j
 kn:∀ j,K j→j<H.n
theorem AM.step (hm:Mc M mv ws wf okU N) {HB:AHeap} {x tv:Value} {us:List Int} {k k' b:Nat} {H H1:AHeap} {v:Value} {T T1:List Tok} {st st':τ} {C D C' D':NS} (h:AM K M HB x us k b H v T st C D) (ht:OwnTA (fun j=>j<H.n) H1 tv T1) (hr:Rd K H H1) (ho:Only C H H1) (hM:M k' H1 st' C' D') (hc:∀ j,j<H.n→C' j→C j) (hd:∀ j,j<H.n→D' j→D j) (hl:wl T1≤400) (hb:b≤2000):∃ vr H2,appendA H1 v tv 36 4 48=some (vr,H2)∧AM K M HB x us k' (b+1) H2 vr (T++T1) st' C' D':=by
 have h1n:=ho.1
 have hxn:=h.e.1
 have hT:=h.l
 have ht1:OwnTA K H1 v T:=OwnTA.rt (hr.rt fun _ _ h=>h) h.t
 have htv:OwnTA K H1 tv T1:=ht.mono h.kn
 have hw:=wl_two T1
 have hdv:∀ j,D' j→NotAt v j:=fun j hj=>by
  by_cases hjn:j<H.n
  ·exact h.d j (hd j hjn hj)
  ·obtain ⟨_,cs,q1,_⟩:=h.t
   by_cases hna:NotAt v j
   ·exact hna
   ·obtain ⟨b9,hb9,_⟩:=own_here q1 hna
    exact absurd (AHeap.lt_of_get hb9) hjn
 obtain ⟨vr,H2,m1,m2,m3,m4,m5,m6⟩:=OwnRws.append (bytes:=48) tokA_mono ht1 htv.rws (fun _ cs hs=>ta_ones htv.rws cs hs) (by omega) (by omega)
 have hno:∀ j b,H1.get j=some b→b.elem≠36→H2.get j=some b:=fun j b hb hbe=>by
  obtain ⟨_,cs,q1,_⟩:=ht1
  rw[m6 j (AHeap.lt_of_get hb) (q1.notAt_elem hb hbe)]
  exact hb
 refine ⟨vr,H2,m1,hm.keep hM m5 fun j hj=>m6 j (hm.lt hM hj) (hdv j hj),m2,?_,⟨by omega,fun j hj=>?_⟩,fun j hj=>?_,fun j hj=>?_,?_,fun hu=>?_,fun j hj=>by have:=h.kn j hj;omega⟩
 ·rcases m3 with h9 | rfl
  ·exact h9.mono (by omega)
  ·exact h.f
 ·rw[m6 j (by omega) (NotAt.of_from h.f hj),ho.2 j (by omega) (fun hcj=>by have:=h.c j hcj;omega),h.e.2 j hj]
 ·by_cases hjn:j<H.n
  ·exact h.c j (hc j hjn hj)
  ·omega
 ·rcases m3 with h9 | rfl
  ·exact NotAt.of_from h9 (hm.lt hM hj)
  ·exact hdv j hj
 ·rw[outs_app,List.length_append,List.length_append]
  omega
 ·obtain ⟨g1,g2,g5⟩:=h.i hu
  obtain ⟨g3,g4⟩:=hr.1 x us hu g1 g2 g5
  obtain ⟨g6,g7⟩:=ints_same g3 hu g4 fun j b _ hb hs=>hno j b hb (size1 hs).1
  exact ⟨g6,g7,g5⟩
def PMA (K:NS) (M:Nat→AHeap→τ→NS→NS→Prop) (mv:Value) (HB:AHeap) (x:Value) (us:List Int) (y:AEx) (e':Env) (H':AHeap):Prop:=y=.exit 0∧eget e' 0=mv∧∃ T st C D,AM K M HB x us us.length us.length H' (eget e' 5) T st C D
theorem l_MA (hm:Mc M mv ws wf okU N) (hp:Mp M mv ws wf okU N K) (hg:Wg M ws wf okU) {x:Value} {us:List Int} (hU:∀ u∈us,okU u) (hul:us.length≤1000) (hN:us.length≤N) {HB:AHeap}:∀ (c k:Nat) (H:AHeap) (v:Value) (T:List Tok) (st:τ) (C D:NS),k+c=us.length→AM K M HB x us k k H v T st C D →
  Out (run Tryz.prog (tabF tab) om1 (.loop [0,5,8,9,10] b_machine_All_0) [(0,mv),(5,v),(8,x),(9,.int .i64 us.length),(10,.int .i64 k)] H) (PMA K M mv HB x us):=by
 intro c
 induction c with
 | zero=>
  intro k H v T st C D hk h
  obtain rfl:k=us.length:=by omega
  have zz:(((us.length:Nat):Int)<(us.length:Nat))=False:=by simp
  rw[w_loop_b b_machine_All_0.eq_1]
  simp only[WA,Nat.reduceEqDiff,reduceCtorEq,zz]
  exact ⟨rfl,rfl,T,st,C,D,h⟩
 | succ c ih=>
  intro k H v T st C D hk h
  have hlt:((k:Int)<(us.length:Nat))=True:=eq_true (by omega)
  obtain ⟨u,hu,hdx⟩:=drop_at (L:=us) (i:=k) (by omega)
  have hne:us≠[]:=fun e=>by rw[e] at hk;simp at hk
  obtain ⟨i,o,a1,a2⟩:=(h.i hne).1.at hu
  have hw2:IntKind.i64.wrap ((k:Int)+1)=((k+1:Nat):Int):=by rw[wrap64 (by omega) (by omega)];omega
  have hok:=hU u (List.mem_of_getElem? hu)
  obtain ⟨tv,H1,c1,t1,rd1,on1,C2,D2,r1,hc2,hd2⟩:=hp.put h.m (by omega) hok
  obtain ⟨vr,H2,m1,h2⟩:=h.step hm t1 rd1 on1 r1 hc2 hd2 (hg.good h.m hok).2 (by omega)
  obtain ⟨y,e',H',p1,p2⟩:=ih (k+1) H2 vr _ _ _ _ (by omega) h2
  rw[w_loop_b b_machine_All_0.eq_1]
  simp only[WA,Nat.reduceEqDiff,reduceCtorEq,hlt,a1,a2,st_inv,c1,m1,hw2]
  rw[w_enter]
  simp only[WA,Nat.reduceEqDiff,reduceCtorEq,p1]
  exact p2
theorem c_MA (hm:Mc M mv ws wf okU N) (hp:Mp M mv ws wf okU N K) (hg:Wg M ws wf okU) {x:Value} {us:List Int} (hU:∀ u∈us,okU u) (hul:us.length≤1000) (hN:us.length≤N) {HB H:AHeap} {st:τ} {C D:NS} (hM:M 0 H st C D) (hx:Ints H x us) (hxc:us≠[]→Cut Tryz.prog H x 1∧∀ j,K j→NotAt x j) (hK:∀ j,K j→j<H.n) (hB:Ext HB H) (hC:∀ j,C j→HB.n≤j):Gives (cw Tryz.prog (tabF tab) om1 21 [mv,x] H) fun v H'=>Ext HB H'∧∃ T,OwnTA (fun _=>False) H' v T∧T.length+(outs T).length≤500000:=by
 rw[cw_run (F:=F_machine_All) rfl rfl rfl]
 unfold F_machine_All k_machine_All
 have hl:=fun H9=>hx.len (H2:=H9)
 obtain ⟨y,e',H1,r1,rfl,r2,T,st1,C1,D1,h⟩:=l_MA hm hp hg hU hul hN (HB:=HB) us.length 0 H (.slice none 0 0) [] st C D (by omega) ⟨hM,OwnRws.nil,trivial,hB,hC,fun _ _=>trivial,by simp[outs],fun hu=>⟨hx,hxc hu⟩,hK⟩
 rw[show ((0:Nat):Int)=0 from rfl] at r1
 obtain ⟨tv,H2,c2,t2,rd2,on2,C2,D2,m2,hc2,hd2⟩:=hp.fin h.m hN
 obtain ⟨vr,H3,m3,h3⟩:=h.step hm t2 rd2 on2 m2 hc2 hd2 (hg.goodf h.m).2 (by omega)
 simp only[WA,Nat.reduceEqDiff,reduceCtorEq,hl]
 rw[w_enter]
 simp only[WA,Nat.reduceEqDiff,reduceCtorEq,r1,r2,st_inv,c2,m3]
 exact ⟨h3.e,_,h3.t.mono fun _ h=>absurd h id,by have:=h3.l;omega⟩
end
theorem l_UW {H0:AHeap} {w:Value} {T:List Tok} {q3 q5:Nat} (hT:OwnTA (fun _=>False) H0 w T) (h3:H0.n≤q3) (h5:H0.n≤q5) (h35:q3≠q5) (hTl:T.length<1000000) (hT8:(outs T).length<1000000000):∀ (c k:Nat) (H:AHeap) (v:Value) (l:List Int) (p:Option Addr) (cc ver:Nat) (u:Tok),k+c=T.length→OwnI H v l→From H0.n v→Ext H0 H→l++outs (T.drop k)=outs T→H.get q3=some ⟨tokC none 0 tok0,36,.tip,0,[]⟩→H.get q5=some ⟨tokC p cc u,36,.tip,ver,[]⟩ →
  Out (run Tryz.prog (tabF tab) om1 (.loop [3,4,5,8,9,10] b_rewrite_Units_0) [(3,.pointer (some ⟨q3,0,none⟩)),(4,v),(5,.pointer (some ⟨q5,0,none⟩)),(8,w),(9,.int .i64 T.length),(10,.int .i64 k)] H) fun y e' H'=>y=.exit 0∧eget e' 3=.pointer (some ⟨q3,0,none⟩)∧eget e' 5=.pointer (some ⟨q5,0,none⟩)∧OwnI H' (eget e' 4) (outs T)∧From H0.n (eget e' 4)∧Ext H0 H'∧H'.get q3=some ⟨tokC none 0 tok0,36,.tip,0,[]⟩∧∃ p' c' ver',H'.get q5=some ⟨tokC p' c' (fstB u (T.drop k)),36,.tip,ver',[]⟩:=by
 intro c
 induction c with
 | zero=>
  intro k H v l p cc ver u hk ho hf hx hl hg3 hg5
  have hlt:¬ ((k:Int)<T.length):=by omega
  rw[w_loop_b b_rewrite_Units_0.eq_1]
  rw[List.drop_of_length_le (by omega)] at hl ⊢
  simp only[WA,Nat.reduceEqDiff,hlt,fstB]
  rw[show outs []=[] from rfl,List.append_nil] at hl
  subst hl
  exact ⟨ho,hf,hx,hg3,p,cc,ver,hg5⟩
 | succ c ih=>
  intro k H v l p cc ver u hk ho hf hx hl hg3 hg5
  have hlt:(k:Int)<T.length:=by omega
  obtain ⟨x,hxk,hdx⟩:=drop_at (L:=T) (i:=k) (by omega)
  have hsz:l.length+x.out.length<10000000000:=by
   have:=congrArg List.length hl
   rw[hdx] at this
   simp only[outs,List.flatMap_cons,List.length_append] at this
   unfold outs at hT8
   omega
  obtain ⟨i,o,px,cx,a1,a6,a7⟩:=OwnTA.at0 hT hxk
  have a6':=got_ext hx a6
  obtain ⟨H1,hH1⟩:∃ H1,H1=H.push ⟨tokC px cx x,36,.tip,1,[]⟩:=⟨_,rfl⟩
  have x1:Ext H H1:=by rw[hH1];exact Ext.push H _
  have g1:H1.get H.n=some ⟨tokC px cx x,36,.tip,1,[]⟩:=by rw[hH1];exact get_push_self
  have hne:(36:TypeId)≠3:=by decide
  obtain ⟨v',H2,m1,m2,m3,m4,m5⟩:=OwnI.add2 (ho.ext x1) hf (hx.trans x1) ((a7.ext hx).ext x1) hsz
  have g2:=m5 _ _ g1 hne
  have g3:=m5 _ _ (x1.get hg3) hne
  have g5:=m5 _ _ (x1.get hg5) hne
  have hw2:IntKind.i64.wrap ((k:Int)+1)=((k+1:Nat):Int):=by rw[wrap64 (by omega) (by omega)];omega
  have hl2:(l++x.out)++outs (T.drop (k+1))=outs T:=by rw[← hl,hdx];simp[outs]
  rw[w_loop_b b_rewrite_Units_0.eq_1,hdx]
  unfold fstB
  by_cases he:x.err=0
  ·have he':(x.err≠0)=False:=by simp[he]
   rw[if_neg (fun hh=>hh.1 he)]
   obtain ⟨y,e',H',r1,r2⟩:=ih (k+1) H2 v' (l++x.out) p cc ver u (by omega) m2 m3 m4 hl2 g3 g5
   simp only[WA,Nat.reduceEqDiff,hlt,a1,a6',got_tok,← hH1,g1,tk2,tk3,m1,g2,he',hw2]
   rw[w_enter]
   simp only[WA,Nat.reduceEqDiff,r1]
   exact r2
  ·have he':(x.err≠0)=True:=by simp[he]
   by_cases hue:u.err=0
   ·have hue':(u.err=0)=True:=eq_true hue
    rw[if_pos ⟨he,hue⟩]
    have g5':=upd_self (c:=⟨tokC px cx x,36,.tip,ver+1,[]⟩) g5
    have g3':(H2.upd q5 ⟨tokC px cx x,36,.tip,ver+1,[]⟩).get q3=some ⟨tokC none 0 tok0,36,.tip,0,[]⟩:=by rw[upd_other g5 h35];exact g3
    have ho2:OwnI (H2.upd q5 ⟨tokC px cx x,36,.tip,ver+1,[]⟩) v' (l++x.out):=Own.move m2 fun j b hj hb=>by
     rw[upd_other g5 (fun e=>by subst e;rw[g5] at hj;injection hj with hj;subst hj;exact hne hb)]
     exact hj
    obtain ⟨y,e',H',r1,r2⟩:=ih (k+1) (H2.upd q5 ⟨tokC px cx x,36,.tip,ver+1,[]⟩) v' (l++x.out) px cx (ver+1) x (by omega) ho2 m3 (Ext.upd m4 g5 h5) hl2 g3' g5'
    simp only[WA,Nat.reduceEqDiff,hlt,a1,a6',got_tok,← hH1,g1,tk2,tk3,m1,g2,he',g5,hue',ld_tok]
    rw[got_tokT]
    simp only[WA,Nat.reduceEqDiff,hw2]
    rw[w_enter]
    simp only[WA,Nat.reduceEqDiff,r1]
    exact r2
   ·have hue':(u.err=0)=False:=eq_false hue
    rw[if_neg (fun hh=>hue hh.2)]
    obtain ⟨y,e',H',r1,r2⟩:=ih (k+1) H2 v' (l++x.out) p cc ver u (by omega) m2 m3 m4 hl2 g3 g5
    simp only[WA,Nat.reduceEqDiff,hlt,a1,a6',got_tok,← hH1,g1,tk2,tk3,m1,g2,he',g5,hue',hw2]
    rw[w_enter]
    simp only[WA,Nat.reduceEqDiff,r1]
    exact r2
theorem c_UW {w:Value} {T:List Tok} {H:AHeap} (hT:OwnTA (fun _=>False) H w T) (hTl:T.length<1000000) (hT8:(outs T).length<1000000000):Gives (cw Tryz.prog (tabF tab) om1 20 [w] H) fun v H'=>Ext H H'∧∃ vo p c,v=.tuple ⟨[vo,.agg ⟨tokC p c (fstB tok0 T)⟩]⟩∧OwnI H' vo (outs T)∧From H.n vo:=by
 rw[cw_run (F:=F_rewrite_Units) rfl rfl rfl]
 unfold F_rewrite_Units k_rewrite_Units
 obtain ⟨A,hA⟩:∃ A,A=H.push ⟨tokC none 0 tok0,36,.tip,0,[]⟩:=⟨_,rfl⟩
 obtain ⟨B,hB⟩:∃ B,B=A.push ⟨tokC none 0 tok0,36,.tip,0,[]⟩:=⟨_,rfl⟩
 have xa:Ext H A:=by rw[hA];exact Ext.push H _
 have xb:Ext A B:=by rw[hB];exact Ext.push A _
 have ga:A.get H.n=some ⟨tokC none 0 tok0,36,.tip,0,[]⟩:=by rw[hA];exact get_push_self
 have gb:B.get A.n=some ⟨tokC none 0 tok0,36,.tip,0,[]⟩:=by rw[hB];exact get_push_self
 have hAn:A.n=H.n+1:=by rw[hA,AHeap.n_push]
 have hz:([.int .i64 0,.int .i64 0,.slice none 0 0,.int .i64 0]:List Value)=tokC none 0 tok0:=rfl
 obtain ⟨y,e',H',r1,rfl,s3,s5,r4,r5,r6,r7,p',c',ver',r8⟩:=l_UW (w:=w) (q3:=H.n) (q5:=A.n) hT (Nat.le_refl _) (by omega) (by omega) hTl hT8 T.length 0 B (.slice none 0 0) [] none 0 0 tok0 (by omega) OwnI.nil trivial (xa.trans xb) rfl (xb.get ga) gb
 obtain ⟨u1,u2,hw⟩:∃ u1 u2,w=.slice u1 T.length u2:=by
  obtain ⟨_,cs,h1,_⟩:=hT.rws
  obtain ⟨u1,u2,e⟩:=h1.1
  exact ⟨u1,u2,e⟩
 rw[List.drop_zero] at r8
 rw[show ((0:Nat):Int)=0 from rfl] at r1
 simp only[WA,Nat.reduceEqDiff,reduceCtorEq,hz,← hA,← hB]
 rw[hw] at r1 ⊢
 simp only[WA]
 rw[w_enter]
 simp only[WA,isStore,isCall,freshI,stampO,Nat.reduceEqDiff,reduceCtorEq,r1,s3,s5,r8,ld_tok,r7]
 have r7':=upd_self (c:=⟨tokC p' c' (fstB tok0 T),36,.tip,1,[]⟩) r7
 have hne:(36:TypeId)≠3:=by decide
 rw[got_tokT]
 simp only[WA,Nat.reduceEqDiff,ress_cell,rd_load,s3,r7',ld_tok]
 have x2:Ext H (H'.upd H.n ⟨tokC p' c' (fstB tok0 T),36,.tip,1,[]⟩):=Ext.upd r6 r7 (Nat.le_refl _)
 exact ⟨x2,_,p',c',rfl,Own.move r4 fun j b hj hb=>by
  rw[upd_other r7 (fun e=>by subst e;rw[r7] at hj;injection hj with hj;subst hj;exact hne hb)]
  exact hj,r5⟩

theorem s_eql (s:ByteArray):binV2 .eql 9 (.string s) (.string s)=some (.bool true):=by
 have h:binV2 .eql 9 (.string s) (.string s)=some (.bool (s.toList == s.toList)):=by rfl
 rw[h];simp
theorem txt_any:∀ (l:List Int) (s:ByteArray),∃ t,txtB s (u8s l)=some t
 | [],s=>⟨s,rfl⟩
 | u :: l,s=>txt_any l _
theorem txt_num {H:AHeap} {v:Value} {l:List Int} {s:ByteArray} (h:Nums H .u8 v l) (ht:txtB ByteArray.empty (u8s l)=some s):vText v H=some (.string s,H):=by
 have h2:=h.2
 have h2:cellsOf H 1 v=some (u8s l):=h2
 unfold vText
 rw[h2]
 simp only
 rw[ht]
 rfl
def nb (us:List Int):List Int:=us.filter fun u=>decide (u≠65533)
section
variable {H0:AHeap} {w:Value} {us:List Int}
end
end Go.Proofs.YtleiinhaljdcoaaGreatDoor
