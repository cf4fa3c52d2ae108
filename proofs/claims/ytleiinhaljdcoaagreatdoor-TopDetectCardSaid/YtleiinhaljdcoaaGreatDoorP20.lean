/- What is proved here: what the program's functions come to, as far as the claimed statement asks. Conditions: those that each theorem names, and no others. -/
import Derived.Test.YtleiinhaljdcoaaGreatDoorP19
set_option linter.unusedSimpArgs false
set_option linter.unusedVariables false
namespace Go.Proofs.YtleiinhaljdcoaaGreatDoor
open Go Lon
set_option maxRecDepth 100000
theorem j3n {H:q0a} {z:FT}:∃H1,H1=H.push ⟨[.int .i64 z.1,.int .i64 z.2.1,.int .i64 z.2.2],27,.tip,1,[]⟩∧Ext H H1∧H1.get H.n=some ⟨[.int .i64 z.1,.int .i64 z.2.1,.int .i64 z.2.2],27,.tip,1,[]⟩∧q0u (some ⟨[.int .i64 0,.int .i64 0,.int .i64 0],27,.tip,0,[]⟩) H.n 0 (fvF z) 3 (H.push ⟨[.int .i64 0,.int .i64 0,.int .i64 0],27,.tip,0,[]⟩)=some (.tuple ⟨[]⟩,(H.push ⟨[.int .i64 0,.int .i64 0,.int .i64 0],27,.tip,0,[]⟩).upd H.n ⟨[.int .i64 z.1,.int .i64 z.2.1,.int .i64 z.2.2],27,.tip,1,[]⟩):=⟨_,rfl,Ext.push H _,q0b,k0p⟩
def bytes (l:List Int):Prop:=∀u∈l,0≤u∧u<256
theorem z8I:k7x Tryz.prog 22 1 (List Int) (z7V Tryz.prog 1 1 (qInt .u8)):=k7x.slice (k7x.int Tryz.underlying5) (z3I _) Tryz.underlying22 (by kernel_rfl) (by kernel_rfl) (by decide) (by kernel_rfl)
abbrev qU8:q0a→List Value→List Int→Prop:=z7V Tryz.prog 1 1 (qInt .u8)
theorem z6Z {L:List Int} (h:∀n∈L,(Lit.int .u8 n).wf=true):bytes L:=fun u hu=>by
 have:=h u hu
 simp[Lit.wf,IntKind.min,IntKind.max,IntKind.signed,IntKind.bits] at this
 omega
theorem z7a {n b:Nat} (h:n*b≤reachBytes) (hb:0<b):n<4611686018427387904:=by
 have h1:n≤n*b:=Nat.le_mul_of_pos_right _ hb
 unfold reachBytes at h
 omega
def U8s (H:q0a) (v:Value) (L:List Int):Prop:=Nums H .u8 v L∧Cut Tryz.prog H v 1∧bytes L∧tiny L
theorem z8J {H:q0a} {acs:List Value} {L:List Int} (h:qU8 H acs L):∃v,acs=[v]∧U8s H v L:=by
 obtain ⟨v,h1,h2,h3,h4,h5⟩:=k8U h
 exact ⟨v,h1,h2,h3,z6Z h5,z7a h4 (by decide)⟩
theorem k3k {W:World} {b:Nat} {t e:TypeId} {v:Value} (ht:Tryz.prog.underlying t=some (.slice e)) (hv:Value.okWide Tryz.prog W .any b t v):v.cells.toList=[v]:=by
 unfold Value.okWide at hv
 rw[ht] at hv
 simp only at hv
 unfold Cell.okWide at hv
 rw[ht] at hv
 cases v<;>first|rfl|(simp[Cell.ok,ht] at hv)
structure SL (B H:q0a) (out:Value) (m:List Int):Prop where
 o:OwnI H out m
 f:From B.n out
 e:Ext B H
 k:∀u∈m,okS u
theorem SL.more {B H H':q0a} {out:Value} {m:List Int} {u:Int} (h:SL B H out m) (hx:Ext H H') (hu:okS u) (hl:m.length<1000):∃H1 v' H2,q0D 3 1 1 [.int .i64 0] [(0,1,.int .i64 u)] H'=some (.slice (some ⟨H'.n,0,none⟩) 1 2,H1)∧q0m H1 out (.slice (some ⟨H'.n,0,none⟩) 1 2) 3 1 8=some (v',H2)∧SL B H2 v' (m++[u]):=by
 obtain ⟨H1,v',H2,q1,q2,q3,q4,q5,q6,_⟩:=OwnI.more (u:=u) (h.o.ext hx) (by omega)
 have x:=h.e.trans hx
 have xn:=x.1
 refine ⟨H1,v',H2,q1,q2,q3,q4.mono xn,⟨by omega,fun j hj=>by rw[q6 j (by omega) (q0i.of_from h.f hj),x.2 j hj]⟩,fun y hy=>?_⟩
 rcases List.mem_append.1 hy with hy|hy
 ·exact h.k y hy
 ·rw[List.mem_singleton.1 hy];exact hu
theorem SL.nil {B H:q0a} (h:Ext B H):SL B H (.slice none 0 0) []:=⟨OwnI.nil,trivial,h,fun _ h=>(by cases h)⟩
def PSL (B:q0a) (n t K:Nat) (y:AEx) (e':Env) (H':q0a):Prop:=y=.exit t∧∃m,m.length=n∧SL B H' (eget e' K) m
def okMB (l:List Int):Bool:=l.all fun u=>decide (0≤u∧u<55296)
theorem j3o {l:List Int} (h:okMB l=true):∀u∈l,okS u:=fun u hu=>by
 have:=List.all_eq_true.1 h u hu
 rw[decide_eq_true_eq] at this
 exact ⟨this.1,by omega,.inl this.2⟩
theorem z1p {l:List Int} (h:okMB l=true) {k:Nat} (hk:k<l.length):∃s,l[k]?=some s∧okS s:=by
 refine ⟨l[k],List.getElem?_eq_getElem hk,j3o h _ (List.getElem_mem hk)⟩
section
variable {B:q0a} {a:Value} {l:List Int}
theorem l_S19 (hb:bytes l) (hl:l.length≤60) (ha:Nums B .u8 a l):∀(c i:Nat) (H:q0a) (out:Value) (m:List Int),i+c=l.length→m.length=i→SL B H out m →
  Out (run Tryz.prog (tabF tab) om1 (.loop [5,31,32,33] q1E) [(5,out),(31,a),(32,.int .i64 l.length),(33,.int .i64 i)] H) (PSL B l.length 1 5):=by
 intro c
 induction c with
 | zero=>
  intro i H out m hi hm h
  obtain rfl:i=l.length:=by omega
  have hlt:(((l.length:Nat):Int)<(l.length:Nat))=False:=by simp
  rw[q0d q1E.eq_1]
  simp only[WA,Nat.reduceEqDiff,hlt]
  exact ⟨rfl,m,hm,h⟩
 | succ c ih=>
  intro i H out m hi hm h
  have hlt:((i:Int)<(l.length:Nat))=True:=eq_true (by omega)
  obtain ⟨u,hu,hd⟩:=q0z (L:=l) (i:=i) (by omega)
  obtain ⟨u1,u2⟩:=hb u (List.mem_of_getElem? hu)
  obtain ⟨i1,o1,h1,h2⟩:=(ha.ext h.e).at hu
  have hw2:IntKind.i64.wrap ((i:Int)+1)=((i+1:Nat):Int):=by rw[q0k (by omega) (by omega)];omega
  have q1:q2P .rem .i64 u 96=some (.int .i64 (u % 96)):=by rw[q4C (by decide),Int.tmod_eq_emod_of_nonneg (by omega)]
  have q3:IntKind.i64.wrap u=u:=q0k (by omega) (by omega)
  have q4:IntKind.i64.wrap (3584+u % 96)=3584+u % 96:=q0k (by omega) (by omega)
  have q5:IntKind.i64.wrap (u-120)=u-120:=q0k (by omega) (by omega)
  rw[q0d q1E.eq_1]
  by_cases hg:u>200
  ·obtain ⟨H1,v',H2,m1,m2,h9⟩:=h.more (Ext.refl H) (u:=u-120) ⟨by omega,by omega,.inl (by omega)⟩ (by omega)
   obtain ⟨y,e',H',r1,r2⟩:=ih (i+1) H2 v' _ (by omega) (by rw[List.length_append,List.length_singleton,hm]) h9
   simp only[WA,Nat.reduceEqDiff,hlt,h1,h2,q1,q3,q4,q5,hg,m1,m2,hw2]
   rw[q0e]
   simp only[WA,Nat.reduceEqDiff,r1]
   exact r2
  ·obtain ⟨H1,v',H2,m1,m2,h9⟩:=h.more (Ext.refl H) (u:=3584+u % 96) ⟨by omega,by omega,.inl (by omega)⟩ (by omega)
   obtain ⟨y,e',H',r1,r2⟩:=ih (i+1) H2 v' _ (by omega) (by rw[List.length_append,List.length_singleton,hm]) h9
   simp only[WA,Nat.reduceEqDiff,hlt,h1,h2,q1,q3,q4,hg,m1,m2,hw2]
   rw[q0e]
   simp only[WA,Nat.reduceEqDiff,r1]
   exact r2
def T18:List Int:=[8204,8205,2404,97,2364,2381,2509,2492,2314,3349]
theorem v_T18 {H:q0a}:q0D 3 10 1 [.int .i64 0] [(0,1,.int .i64 8204),(1,1,.int .i64 8205),(2,1,.int .i64 2404),(3,1,.int .i64 97),(4,1,.int .i64 2364),(5,1,.int .i64 2381),(6,1,.int .i64 2509),(7,1,.int .i64 2492),(8,1,.int .i64 2314),(9,1,.int .i64 3349)] H=some (.slice (some ⟨H.n,0,none⟩) 10 11,H.push ⟨ints T18,3,.tip,0,[]⟩):=rfl
theorem l_S18 (hb:bytes l) (hl:l.length≤60) (ha:Nums B .u8 a l):∀(c i:Nat) (H:q0a) (out:Value) (m:List Int),i+c=l.length→m.length=i→SL B H out m →
  Out (run Tryz.prog (tabF tab) om1 (.loop [3,10,11,12] q1e) [(3,out),(10,a),(11,.int .i64 l.length),(12,.int .i64 i)] H) (PSL B l.length 0 3):=by
 intro c
 induction c with
 | zero=>
  intro i H out m hi hm h
  obtain rfl:i=l.length:=by omega
  have hlt:(((l.length:Nat):Int)<(l.length:Nat))=False:=by simp
  rw[q0d q1e.eq_1]
  simp only[WA,Nat.reduceEqDiff,hlt]
  exact ⟨rfl,m,hm,h⟩
 | succ c ih=>
  intro i H out m hi hm h
  have hlt:((i:Int)<(l.length:Nat))=True:=eq_true (by omega)
  obtain ⟨u,hu,hd⟩:=q0z (L:=l) (i:=i) (by omega)
  obtain ⟨u1,u2⟩:=hb u (List.mem_of_getElem? hu)
  obtain ⟨i1,o1,h1,h2⟩:=(ha.ext h.e).at hu
  have hw2:IntKind.i64.wrap ((i:Int)+1)=((i+1:Nat):Int):=by rw[q0k (by omega) (by omega)];omega
  have step:∀s,okS s→∀H9,Ext H H9→∃H1 v' H2,q0D 3 1 1 [.int .i64 0] [(0,1,.int .i64 s)] H9=some (.slice (some ⟨H9.n,0,none⟩) 1 2,H1)∧q0m H1 out (.slice (some ⟨H9.n,0,none⟩) 1 2) 3 1 8=some (v',H2)∧Out (run Tryz.prog (tabF tab) om1 (.loop [3,10,11,12] q1e) [(3,v'),(10,a),(11,.int .i64 l.length),(12,.int .i64 ((i+1:Nat):Int))] H2) (PSL B l.length 0 3):=fun s hs H9 hx=>by
   obtain ⟨H1,v',H2,m1,m2,h9⟩:=h.more hx hs (by omega)
   exact ⟨H1,v',H2,m1,m2,ih (i+1) H2 v' _ (by omega) (by rw[List.length_append,List.length_singleton,hm]) h9⟩
  have q3:IntKind.i64.wrap u=u:=q0k (by omega) (by omega)
  have q1:q2P .rem .i64 u 128=some (.int .i64 (u % 128)):=by rw[q4C (by decide),Int.tmod_eq_emod_of_nonneg (by omega)]
  rw[q0d q1e.eq_1]
  by_cases g1:u<30
  ·obtain ⟨k,hk⟩:∃k:Nat,u % 10=k:=⟨(u % 10).toNat,by omega⟩
   have q2:q2P .rem .u8 u 10=some (.int .u8 k):=by rw[q4C (by decide),Int.tmod_eq_emod_of_nonneg (by omega),hk]
   obtain ⟨s,hs,hok⟩:=z1p (l:=T18) (by rfl) (k:=k) (by show k<10;omega)
   obtain ⟨H9,hH9⟩:∃H9,H9=H.push ⟨ints T18,3,.tip,0,[]⟩:=⟨_,rfl⟩
   have x1:Ext H H9:=by rw[hH9];exact Ext.push H _
   have s1:Ints H9 (.slice (some ⟨H.n,0,none⟩) 10 11) T18:=by rw[hH9];exact Sl.new (n:=10) (c:=11) q0b q0n rfl
   have v9:=v_T18 (H:=H)
   rw[←hH9] at v9
   obtain ⟨i3,o3,h3,h4⟩:=s1.at hs
   obtain ⟨H1,v',H2,m1,m2,y,e',H',r1,r2⟩:=step s hok _ x1
   simp only[WA,Nat.reduceEqDiff,hlt,h1,h2,g1,q2,v9,h3,h4,m1,m2,hw2]
   rw[q0e]
   simp only[WA,Nat.reduceEqDiff,r1]
   exact r2
  ·by_cases g2:u<140
   ·have q4:IntKind.i64.wrap (2304+u % 128)=2304+u % 128:=q0k (by omega) (by omega)
    obtain ⟨H1,v',H2,m1,m2,y,e',H',r1,r2⟩:=step (2304+u % 128) ⟨by omega,by omega,.inl (by omega)⟩ H (Ext.refl H)
    simp only[WA,Nat.reduceEqDiff,hlt,h1,h2,g1,g2,q1,q3,q4,m1,m2,hw2]
    rw[q0e]
    simp only[WA,Nat.reduceEqDiff,r1]
    exact r2
   ·by_cases g3:u<220
    ·have q4:IntKind.i64.wrap (2432+u % 128)=2432+u % 128:=q0k (by omega) (by omega)
     obtain ⟨H1,v',H2,m1,m2,y,e',H',r1,r2⟩:=step (2432+u % 128) ⟨by omega,by omega,.inl (by omega)⟩ H (Ext.refl H)
     simp only[WA,Nat.reduceEqDiff,hlt,h1,h2,g1,g2,g3,q1,q3,q4,m1,m2,hw2]
     rw[q0e]
     simp only[WA,Nat.reduceEqDiff,r1]
     exact r2
    ·have q2:q2P .rem .u8 u 9=some (.int .u8 (u % 9)):=by rw[q4C (by decide),Int.tmod_eq_emod_of_nonneg (by omega)]
     have q4:IntKind.i64.wrap (u % 9)=u % 9:=q0k (by omega) (by omega)
     have q5:IntKind.i64.wrap (128*(u % 9))=128*(u % 9):=q0k (by omega) (by omega)
     have q6:IntKind.i64.wrap (2304+128*(u % 9))=2304+128*(u % 9):=q0k (by omega) (by omega)
     have q7:IntKind.i64.wrap (2304+128*(u % 9)+21)=2304+128*(u % 9)+21:=q0k (by omega) (by omega)
     obtain ⟨H1,v',H2,m1,m2,y,e',H',r1,r2⟩:=step (2304+128*(u % 9)+21) ⟨by omega,by omega,.inl (by omega)⟩ H (Ext.refl H)
     simp only[WA,Nat.reduceEqDiff,hlt,h1,h2,g1,g2,g3,q2,q4,q5,q6,q7,m1,m2,hw2]
     rw[q0e]
     simp only[WA,Nat.reduceEqDiff,r1]
     exact r2
def G17:List Int:=[0xbc6,0xbc7,0xbc8,0xbcd,0xbbe,0xbbf,0xbc0,0xbd7,0xbca,0xbcb,0xbcc,0xb85,97]
def C17:List Int:=[2965,2969,2970,2974,2975,2979,2980,2984,2986,2990,2991,2992,2994,2997,2996,2995,2993,2985,2972,2999,3000,3001]
theorem c_L38 (H:q0a):cw Tryz.prog (tabF tab) om1 78 [] H=some (.slice (some ⟨H.n,0,none⟩) 22 23,H.push ⟨ints C17,3,.tip,0,[]⟩):=k8M 3 (by kernel_rfl)
theorem v_G17 {H:q0a}:q0D 3 13 1 [.int .i64 0] [(0,1,.int .i64 3014),(1,1,.int .i64 3015),(2,1,.int .i64 3016),(3,1,.int .i64 3021),(4,1,.int .i64 3006),(5,1,.int .i64 3007),(6,1,.int .i64 3008),(7,1,.int .i64 3031),(8,1,.int .i64 3018),(9,1,.int .i64 3019),(10,1,.int .i64 3020),(11,1,.int .i64 2949),(12,1,.int .i64 97)] H=some (.slice (some ⟨H.n,0,none⟩) 13 14,H.push ⟨ints G17,3,.tip,0,[]⟩):=rfl
theorem l_S17 (hb:bytes l) (hl:l.length≤60) (ha:Nums B .u8 a l) {g:Value} (hg:Ints B g G17):∀(c i:Nat) (H:q0a) (out:Value) (m:List Int),i+c=l.length→m.length=i→SL B H out m →
  Out (run Tryz.prog (tabF tab) om1 (.loop [3,4,13,14,15] q2x) [(3,g),(4,out),(13,a),(14,.int .i64 l.length),(15,.int .i64 i)] H) (PSL B l.length 0 4):=by
 intro c
 induction c with
 | zero=>
  intro i H out m hi hm h
  obtain rfl:i=l.length:=by omega
  have hlt:(((l.length:Nat):Int)<(l.length:Nat))=False:=by simp
  rw[q0d q2x.eq_1]
  simp only[WA,Nat.reduceEqDiff,hlt]
  exact ⟨rfl,m,hm,h⟩
 | succ c ih=>
  intro i H out m hi hm h
  have hlt:((i:Int)<(l.length:Nat))=True:=eq_true (by omega)
  obtain ⟨u,hu,hd⟩:=q0z (L:=l) (i:=i) (by omega)
  obtain ⟨u1,u2⟩:=hb u (List.mem_of_getElem? hu)
  obtain ⟨i1,o1,h1,h2⟩:=(ha.ext h.e).at hu
  have hw2:IntKind.i64.wrap ((i:Int)+1)=((i+1:Nat):Int):=by rw[q0k (by omega) (by omega)];omega
  obtain ⟨k,hk⟩:∃k:Nat,u % 22=k:=⟨(u % 22).toNat,by omega⟩
  obtain ⟨n,hn⟩:∃n:Nat,u % 13=n:=⟨(u % 13).toNat,by omega⟩
  have q1:q2P .rem .u8 u 22=some (.int .u8 k):=by rw[q4C (by decide),Int.tmod_eq_emod_of_nonneg (by omega),hk]
  have q2:q2P .rem .i64 u 13=some (.int .i64 n):=by rw[q4C (by decide),Int.tmod_eq_emod_of_nonneg (by omega),hn]
  have q3:IntKind.i64.wrap u=u:=q0k (by omega) (by omega)
  obtain ⟨H1,hH1⟩:∃H1,H1=H.push ⟨ints C17,3,.tip,0,[]⟩:=⟨_,rfl⟩
  have x1:Ext H H1:=by rw[hH1];exact Ext.push H _
  have s1:Ints H1 (.slice (some ⟨H.n,0,none⟩) 22 23) C17:=by rw[hH1];exact Sl.new (n:=22) (c:=23) q0b q0n rfl
  obtain ⟨s,hs,hok⟩:=z1p (l:=C17) (by rfl) (k:=k) (by show k<22;omega)
  obtain ⟨s2,hs2,hok2⟩:=z1p (l:=G17) (by rfl) (k:=n) (by show n<13;omega)
  obtain ⟨i3,o3,h3,h4⟩:=s1.at hs
  obtain ⟨i5,o5,h5,h6⟩:=((hg.ext h.e).ext x1).at hs2
  have cc:=c_L38 H
  rw[←hH1] at cc
  have hlg:∀H2,vLen false g H2=some (.int .i64 13,H2):=fun H2=>Sl.len (H2:=H2) hg
  rw[q0d q2x.eq_1]
  by_cases hg1:u>140
  ·obtain ⟨H2,v',H3,m1,m2,h9⟩:=h.more x1 hok2 (by omega)
   obtain ⟨y,e',H',r1,r2⟩:=ih (i+1) H3 v' _ (by omega) (by rw[List.length_append,List.length_singleton,hm]) h9
   simp only[WA,Nat.reduceEqDiff,hlt,h1,h2,q1,cc,h3,h4,hg1,q3,hlg,q2,h5,h6,m1,m2,hw2]
   rw[q0e]
   simp only[WA,Nat.reduceEqDiff,r1]
   exact r2
  ·obtain ⟨H2,v',H3,m1,m2,h9⟩:=h.more x1 hok (by omega)
   obtain ⟨y,e',H',r1,r2⟩:=ih (i+1) H3 v' _ (by omega) (by rw[List.length_append,List.length_singleton,hm]) h9
   simp only[WA,Nat.reduceEqDiff,hlt,h1,h2,q1,cc,h3,h4,hg1,m1,m2,hw2]
   rw[q0e]
   simp only[WA,Nat.reduceEqDiff,r1]
   exact r2
def MK:List Int:=[774,770,795,768,769,777,771,803]
theorem j0F (H:q0a):cw Tryz.prog (tabF tab) om1 76 [] H=some (.tuple ⟨[.slice (some ⟨H.n,0,none⟩) 8 9,.slice (some ⟨H.n+1,0,none⟩) 8 9]⟩,(H.push ⟨ints MK,3,.tip,0,[]⟩).push ⟨[.complex .f64 4607182418800017408 0,.complex .f64 4611686018427387904 0,.complex .f64 4613937818241073152 0,.complex .f64 0 4607182418800017408,.complex .f64 0 4611686018427387904,.complex .f64 0 4613937818241073152,.complex .f64 0 4616189618054758400,.complex .f64 0 4617315517961601024],46,.tip,0,[]⟩):=k8M 3 (by kernel_rfl)
theorem VL_ok:(VL.all fun x=>decide (0≤x.sc∧x.sc<55296))=true:=by kernel_rfl
theorem l_S10 (hb:bytes l) (hl:l.length≤60) (ha:Nums B .u8 a l) {g:Value} (hg:Ints B g MK):∀(c i:Nat) (H:q0a) (out:Value) (m:List Int),i+c=l.length→m.length=i→SL B H out m →
  Out (run Tryz.prog (tabF tab) om1 (.loop [3,5,19,20,21] q1x) [(3,g),(5,out),(19,a),(20,.int .i64 l.length),(21,.int .i64 i)] H) (PSL B l.length 0 5):=by
 intro c
 induction c with
 | zero=>
  intro i H out m hi hm h
  obtain rfl:i=l.length:=by omega
  have hlt:(((l.length:Nat):Int)<(l.length:Nat))=False:=by simp
  rw[q0d q1x.eq_1]
  simp only[WA,Nat.reduceEqDiff,hlt]
  exact ⟨rfl,m,hm,h⟩
 | succ c ih=>
  intro i H out m hi hm h
  have hlt:((i:Int)<(l.length:Nat))=True:=eq_true (by omega)
  obtain ⟨u,hu,hd⟩:=q0z (L:=l) (i:=i) (by omega)
  obtain ⟨u1,u2⟩:=hb u (List.mem_of_getElem? hu)
  obtain ⟨i1,o1,h1,h2⟩:=(ha.ext h.e).at hu
  have hw2:IntKind.i64.wrap ((i:Int)+1)=((i+1:Nat):Int):=by rw[q0k (by omega) (by omega)];omega
  obtain ⟨k,hk⟩:∃k:Nat,u % 148=k:=⟨(u % 148).toNat,by omega⟩
  obtain ⟨n,hn⟩:∃n:Nat,u % 8=n:=⟨(u % 8).toNat,by omega⟩
  have q1:q2P .rem .i64 u 148=some (.int .i64 k):=by rw[q4C (by decide),Int.tmod_eq_emod_of_nonneg (by omega),hk]
  have q2:q2P .rem .u8 u 8=some (.int .u8 n):=by rw[q4C (by decide),Int.tmod_eq_emod_of_nonneg (by omega),hn]
  have q3:IntKind.i64.wrap u=u:=q0k (by omega) (by omega)
  have q4:IntKind.i64.wrap (120+u)=120+u:=q0k (by omega) (by omega)
  have hk148:k<VL.length:=by rw[k7D];omega
  obtain ⟨x,hx⟩:∃x,VL[k]?=some x:=⟨_,List.getElem?_eq_getElem hk148⟩
  have hxo:=List.all_eq_true.1 VL_ok x (List.mem_of_getElem? hx)
  rw[decide_eq_true_eq] at hxo
  obtain ⟨v1,H1,c1,x1,rfl⟩:=z6Y (n:=k) (H:=H)
  unfold ltV at c1
  rw[hx] at c1
  unfold ltC at c1
  have st:=z5o (H:=H1.push ⟨[.int .i64 0,.complex .f64 0 0],154,.tip,0,[]⟩) (i:=H1.n) (ver:=0) (el:=154) (a:=.int .i64 0) (b:=.complex .f64 0 0) (x:=.int .i64 x.base) (y:=.complex .f64 (fb x.mark) (fb x.tone)) rfl
  obtain ⟨H2,hH2⟩:∃H2,H2=H1.push ⟨[.int .i64 x.base,.complex .f64 (fb x.mark) (fb x.tone)],154,.tip,1,[]⟩:=⟨_,rfl⟩
  have x2:Ext H H2:=x1.trans (by rw[hH2];exact Ext.push H1 _)
  obtain ⟨s2,hs2,hok2⟩:=z1p (l:=MK) (by rfl) (k:=n) (by show n<8;omega)
  obtain ⟨i5,o5,h5,h6⟩:=((hg.ext h.e).ext x2).at hs2
  have step:∀s,okS s→∃H3 v' H4,q0D 3 1 1 [.int .i64 0] [(0,1,.int .i64 s)] H2=some (.slice (some ⟨H2.n,0,none⟩) 1 2,H3)∧q0m H3 out (.slice (some ⟨H2.n,0,none⟩) 1 2) 3 1 8=some (v',H4)∧Out (run Tryz.prog (tabF tab) om1 (.loop [3,5,19,20,21] q1x) [(3,g),(5,v'),(19,a),(20,.int .i64 l.length),(21,.int .i64 ((i+1:Nat):Int))] H4) (PSL B l.length 0 5):=fun s hs=>by
   obtain ⟨H3,v',H4,m1,m2,h9⟩:=h.more x2 hs (by omega)
   exact ⟨H3,v',H4,m1,m2,ih (i+1) H4 v' _ (by omega) (by rw[List.length_append,List.length_singleton,hm]) h9⟩
  simp only[Nat.zero_add] at st
  rw[q0d q1x.eq_1]
  by_cases g1:u>190
  ·have g2:¬(u<6):=by omega
   obtain ⟨H3,v',H4,m1,m2,y,e',H',r1,r2⟩:=step s2 hok2
   simp only[WA,Nat.reduceEqDiff,hlt,h1,h2,q3,q1,c1,st,←hH2,g1,g2,q2,h5,h6,m1,m2,hw2]
   rw[q0e]
   simp only[WA,Nat.reduceEqDiff,r1]
   exact r2
  ·by_cases g2:u<6
   ·obtain ⟨H3,v',H4,m1,m2,y,e',H',r1,r2⟩:=step (120+u) ⟨by omega,by omega,.inl (by omega)⟩
    simp only[WA,Nat.reduceEqDiff,hlt,h1,h2,q3,q1,c1,st,←hH2,g1,g2,q4,m1,m2,hw2]
    rw[q0e]
    simp only[WA,Nat.reduceEqDiff,r1]
    exact r2
   ·obtain ⟨H3,v',H4,m1,m2,y,e',H',r1,r2⟩:=step x.sc ⟨hxo.1,by omega,.inl hxo.2⟩
    simp only[WA,Nat.reduceEqDiff,hlt,h1,h2,q3,q1,c1,st,←hH2,g1,g2,m1,m2,hw2]
    rw[q0e]
    simp only[WA,Nat.reduceEqDiff,r1]
    exact r2
end
theorem z5s {H:q0a} {a:Value} {l:List Int} {n:Nat} (ha:Nums H .u8 a l) (hc:Cut Tryz.prog H a 1):∃a' k,(if (n:Int)<(l.length:Int) then (n:Int) else (l.length:Int))=((k:Nat):Int)∧(∀kd:IntKind,q3t (P:=Tryz.prog) a none (some (.int kd k)) 1 H=some (a',H))∧Nums H .u8 a' (l.take n)∧(l.take n).length=k∧k≤n:=by
 obtain ⟨k,hk⟩:∃k:Nat,k=min l.length n:=⟨_,rfl⟩
 obtain ⟨a',h1,h2⟩:=z4W (P:=Tryz.prog) ha hc (show k≤l.length by omega)
 have e:l.take k=l.take n:=by
  rw[hk]
  rcases Nat.le_total l.length n with h|h
  ·rw[Nat.min_eq_left h,List.take_of_length_le h,List.take_length]
  ·rw[Nat.min_eq_right h]
 rw[e] at h2
 exact ⟨a',k,by split<;>omega,h1,h2,by rw[List.length_take];omega,by omega⟩
def ScP (H H':q0a) (v:Value):Prop:=Ext H H'∧∃m,m.length≤60∧(∀u∈m,okS u)∧Ints H' v m∧Cut Tryz.prog H' v 1∧From H.n v
theorem PSL.scp {B H':q0a} {n t K:Nat} {y:AEx} {e':Env} (h:PSL B n t K y e' H') (hn:n≤60):y=.exit t∧ScP B H' (eget e' K):=by
 obtain ⟨h1,m,h2,h3⟩:=h
 exact ⟨h1,h3.e,m,by omega,h3.k,h3.o.asI,h3.o.cutI,h3.f⟩
theorem ScP.of {A B H':q0a} {v:Value} (h:ScP B H' v) (hx:Ext A B):ScP A H' v:=by
 obtain ⟨h1,m,h2,h3,h4,h5,h6⟩:=h
 exact ⟨hx.trans h1,m,h2,h3,h4,h5,h6.mono hx.1⟩
section
variable {a:Value} {l:List Int} {H:q0a}
theorem q6P {l:List Int} {n:Nat} (h:bytes l):bytes (l.take n):=fun u hu=>h u (List.mem_of_mem_take hu)
theorem c_S18 (ha:Nums H .u8 a l) (hc:Cut Tryz.prog H a 1) (hb:bytes l):q0p (cw Tryz.prog (tabF tab) om1 55 [a] H) fun v H'=>ScP H H' v:=by
 rw[q0g (F:=q2e) rfl rfl rfl]
 unfold q2e q5b
 have hl0:=fun H2=>ha.len (H2:=H2)
 obtain ⟨a',k,hmin,s1,s2,hk,hk60⟩:=z5s (n:=60) ha hc
 obtain ⟨y,e',H',r1,r2⟩:=l_S18 (a:=a') (l:=l.take 60) (q6P hb) (by omega) s2 (l.take 60).length 0 H (.slice none 0 0) [] (by omega) rfl (SL.nil (Ext.refl H))
 obtain ⟨rfl,r3⟩:=r2.scp (by omega)
 have hl1:=fun H2=>Nums.len (H2:=H2) s2
 simp only[hk] at hl1
 rw[hk,show ((0:Nat):Int)=0 from rfl] at r1
 simp only[Int.cast_ofNat_Int] at hmin
 have s1':=s1 .i64
 simp only[WA,Nat.reduceEqDiff,reduceCtorEq,hl0,hmin,s1',hl1]
 rw[q0e]
 simp only[WA,Nat.reduceEqDiff,reduceCtorEq,r1]
 exact r3
theorem c_S17 (ha:Nums H .u8 a l) (hc:Cut Tryz.prog H a 1) (hb:bytes l):q0p (cw Tryz.prog (tabF tab) om1 54 [a] H) fun v H'=>ScP H H' v:=by
 rw[q0g (F:=q3a) rfl rfl rfl]
 unfold q3a q6k
 have hl0:=fun H2=>ha.len (H2:=H2)
 obtain ⟨H1,hH1⟩:∃H1,H1=H.push ⟨ints G17,3,.tip,0,[]⟩:=⟨_,rfl⟩
 have x1:Ext H H1:=by rw[hH1];exact Ext.push H _
 have s0:Ints H1 (.slice (some ⟨H.n,0,none⟩) 13 14) G17:=by rw[hH1];exact Sl.new (n:=13) (c:=14) q0b q0n rfl
 have c0:=v_G17 (H:=H)
 rw[←hH1] at c0
 obtain ⟨a',k,hmin,s1,s2,hk,hk60⟩:=z5s (n:=60) (ha.ext x1) (hc.ext x1)
 obtain ⟨y,e',H',r1,r2⟩:=l_S17 (a:=a') (l:=l.take 60) (q6P hb) (by omega) s2 s0 (l.take 60).length 0 H1 (.slice none 0 0) [] (by omega) rfl (SL.nil (Ext.refl H1))
 obtain ⟨rfl,r3⟩:=r2.scp (by omega)
 have hl1:=fun H2=>Nums.len (H2:=H2) s2
 simp only[hk] at hl1
 rw[hk,show ((0:Nat):Int)=0 from rfl] at r1
 simp only[Int.cast_ofNat_Int] at hmin
 have s1':=s1 .i64
 simp only[WA,Nat.reduceEqDiff,reduceCtorEq,c0,hl0,hmin,s1',hl1]
 rw[q0e]
 simp only[WA,Nat.reduceEqDiff,reduceCtorEq,r1]
 exact r3.of x1
theorem c_S10 (ha:Nums H .u8 a l) (hc:Cut Tryz.prog H a 1) (hb:bytes l):q0p (cw Tryz.prog (tabF tab) om1 53 [a] H) fun v H'=>ScP H H' v:=by
 rw[q0g (F:=q2Z) rfl rfl rfl]
 unfold q2Z q6j
 have hl0:=fun H2=>ha.len (H2:=H2)
 have c0:=j0F H
 obtain ⟨H0,hH0⟩:∃H0,H0=H.push ⟨ints MK,3,.tip,0,[]⟩:=⟨_,rfl⟩
 rw[←hH0] at c0
 have x0:Ext H H0:=by rw[hH0];exact Ext.push H _
 have s9:Ints H0 (.slice (some ⟨H.n,0,none⟩) 8 9) MK:=by rw[hH0];exact Sl.new (n:=8) (c:=9) q0b q0n rfl
 obtain ⟨H1,hH1⟩:∃H1,H1=H0.push ⟨[.complex .f64 4607182418800017408 0,.complex .f64 4611686018427387904 0,.complex .f64 4613937818241073152 0,.complex .f64 0 4607182418800017408,.complex .f64 0 4611686018427387904,.complex .f64 0 4613937818241073152,.complex .f64 0 4616189618054758400,.complex .f64 0 4617315517961601024],46,.tip,0,[]⟩:=⟨_,rfl⟩
 rw[←hH1] at c0
 have x01:Ext H0 H1:=by rw[hH1];exact Ext.push H0 _
 have x1:=x0.trans x01
 have s0:=s9.ext x01
 obtain ⟨a',k,hmin,s1,s2,hk,hk60⟩:=z5s (n:=60) (ha.ext x1) (hc.ext x1)
 obtain ⟨y,e',H',r1,r2⟩:=l_S10 (a:=a') (l:=l.take 60) (q6P hb) (by omega) s2 s0 (l.take 60).length 0 H1 (.slice none 0 0) [] (by omega) rfl (SL.nil (Ext.refl H1))
 obtain ⟨rfl,r3⟩:=r2.scp (by omega)
 have hl1:=fun H2=>Nums.len (H2:=H2) s2
 simp only[hk] at hl1
 rw[hk,show ((0:Nat):Int)=0 from rfl] at r1
 simp only[Int.cast_ofNat_Int] at hmin
 have s1':=s1 .i64
 simp only[WA,Nat.reduceEqDiff,reduceCtorEq,c0,hl0,hmin,s1',hl1]
 rw[q0e]
 simp only[WA,Nat.reduceEqDiff,reduceCtorEq,r1]
 exact r3.of x1
theorem c_LN (H:q0a):cw Tryz.prog (tabF tab) om1 52 [] H=some (.slice (some ⟨H.n,0,none⟩) 8 9,H.push ⟨nmL,9,.tip,0,[]⟩):=k8M 3 (by kernel_rfl)
theorem c_Sc {k:Nat} (hk8:k<8) (ha:Nums H .u8 a l) (hc:Cut Tryz.prog H a 1) (hb:bytes l):q0p (cw Tryz.prog (tabF tab) om1 31 [.int .i64 k,a] H) fun v H'=>ScP H H' v:=by
 rw[q0g (F:=q2d) rfl rfl rfl]
 unfold q2d q5a
 have c0:=c_LN H
 obtain ⟨H1,hH1⟩:∃H1,H1=H.push ⟨nmL,9,.tip,0,[]⟩:=⟨_,rfl⟩
 rw[←hH1] at c0
 have x1:Ext H H1:=by rw[hH1];exact Ext.push H _
 have hs:Sl H1 1 (.slice (some ⟨H.n,0,none⟩) 8 9) 8 nmL:=by rw[hH1];exact Sl.new (n:=8) (c:=9) q0b q0n rfl
 obtain ⟨i,o,a1,a2,_⟩:=Sl.at hs hk8
 have e2:=j1Z k hk8
 have e3:=j2a k hk8
 have e4:=e_vni k hk8
 have e6:=z9S k hk8
 have e7:=k3e k hk8
 have ha1:=ha.ext x1
 have hc1:=hc.ext x1
 obtain ⟨v10,H10,c10,p10⟩:=c_S10 ha1 hc1 hb
 obtain ⟨v17,H17,c17,p17⟩:=c_S17 ha1 hc1 hb
 obtain ⟨v18,H18,c18,p18⟩:=c_S18 ha1 hc1 hb
 have hl0:=fun H2=>ha.len (H2:=H2)
 obtain ⟨a',n,hmin,s1,s2,hn,hn60⟩:=z5s (n:=60) ha1 hc1
 obtain ⟨y,e',H',r1,r2⟩:=l_S19 (a:=a') (l:=l.take 60) (q6P hb) (by omega) s2 (l.take 60).length 0 H1 (.slice none 0 0) [] (by omega) rfl (SL.nil (Ext.refl H1))
 obtain ⟨rfl,r3⟩:=r2.scp (by omega)
 have hl1:=fun H2=>Nums.len (H2:=H2) s2
 simp only[hn] at hl1
 rw[hn,show ((0:Nat):Int)=0 from rfl] at r1
 simp only[Int.cast_ofNat_Int] at hmin
 have s1':=s1 .i64
 have ld:q0l (H1.get i) o none H1=some (.string (nm k),H1):=a2 0 _ (by omega) (by rw[Nat.mul_one,Nat.add_zero];exact k7W hk8)
 revert e2 e3 e4 e6 e7
 generalize Nat.beq k 2=b2
 generalize Nat.beq k 3=b3
 generalize Nat.beq k 4=b4
 generalize Nat.beq k 6=b6
 generalize Nat.beq k 7=b7
 intro e2 e3 e4 e6 e7
 cases b2 with
 | true=>
  simp only[WA,Nat.reduceEqDiff,reduceCtorEq,c0,a1,ld,q1I gS,e2,c10]
  exact p10.of x1
 | false=>
  cases b3 with
  | true=>
   simp only[WA,Nat.reduceEqDiff,reduceCtorEq,c0,a1,ld,q1I gS,e2,e3,c10]
   exact p10.of x1
  | false=>
   cases b4 with
   | true=>
    simp only[WA,Nat.reduceEqDiff,reduceCtorEq,c0,a1,ld,q1I gS,e2,e3,e4,c10]
    exact p10.of x1
   | false=>
    cases b6 with
    | true=>
     simp only[WA,Nat.reduceEqDiff,reduceCtorEq,c0,a1,ld,q1I gS,e2,e3,e4,e6,c17]
     exact p17.of x1
    | false=>
     cases b7 with
     | true=>
      simp only[WA,Nat.reduceEqDiff,reduceCtorEq,c0,a1,ld,q1I gS,e2,e3,e4,e6,e7,c18]
      exact p18.of x1
     | false=>
      simp only[WA,Nat.reduceEqDiff,reduceCtorEq,c0,a1,ld,q1I gS,e2,e3,e4,e6,e7,hl0,hmin,s1',hl1]
      rw[q0e]
      simp only[WA,Nat.reduceEqDiff,reduceCtorEq,r1]
      exact r3.of x1
end
def okY (l:List Int):Prop:=∀u∈l,0≤u∧u<256
def hd0 (l:List Int):Int:=l.headD 0
theorem j3p (s t:ByteArray):∃b,q9n .eql 9 (.string s) (.string t)=some (.bool b):=⟨s.toList==t.toList,rfl⟩
theorem l_T0 {s:ByteArray} {l b x:Value} {odd:Int} {H:q0a} (hx:Sl H 1 x 8 nmL):∀(c i k:Nat),i+c=8→k<8 →
  Out (run Tryz.prog (tabF tab) om1 (.loop [0,1,2,3,9,19,20,21] q2v) [(0,.string s),(1,l),(2,b),(3,.int .u8 odd),(9,.int .i64 k),(19,x),(20,.int .i64 8),(21,.int .i64 i)] H) fun y e' H'=>y=.exit 0∧eget e' 0=.string s∧eget e' 1=l∧eget e' 2=b∧eget e' 3=.int .u8 odd∧(∃k:Nat,k<8∧eget e' 9=.int .i64 k)∧H'=H:=by
 intro c
 induction c with
 | zero=>
  intro i k hi hk
  obtain rfl:i=8:=by omega
  have hlt:(((8:Nat):Int)<8)=False:=by simp
  rw[q0d q2v.eq_1]
  simp only[WA,Nat.reduceEqDiff,reduceCtorEq,Int.reduceLT,Int.cast_ofNat_Int]
  exact ⟨k,hk,rfl⟩
 | succ c ih=>
  intro i k hi hk
  have hi8:i<8:=by omega
  have hlt:((i:Int)<8)=True:=eq_true (by omega)
  have hw2:IntKind.i64.wrap ((i:Int)+1)=((i+1:Nat):Int):=by rw[q0k (by omega) (by omega)];omega
  obtain ⟨j,o,a1,a2,_⟩:=Sl.at hx hi8
  have ld:q0l (H.get j) o none H=some (.string (nm i),H):=a2 0 _ (by omega) (by rw[Nat.mul_one,Nat.add_zero];exact k7W hi8)
  obtain ⟨q,hq⟩:=j3p (nm i) s
  rw[q0d q2v.eq_1]
  cases q with
  | true=>
   obtain ⟨y,e',H',r1,r2⟩:=ih (i+1) i (by omega) hi8
   simp only[WA,Nat.reduceEqDiff,reduceCtorEq,hlt,a1,ld,q6w,hq,hw2]
   rw[q0e]
   simp only[WA,Nat.reduceEqDiff,reduceCtorEq,r1]
   exact r2
  | false=>
   obtain ⟨y,e',H',r1,r2⟩:=ih (i+1) k (by omega) hk
   simp only[WA,Nat.reduceEqDiff,reduceCtorEq,hlt,a1,ld,q6w,hq,hw2]
   rw[q0e]
   simp only[WA,Nat.reduceEqDiff,reduceCtorEq,r1]
   exact r2
structure TB (B H:q0a) (out:Value) (m:List Int):Prop where
 o:OwnB H out m
 f:From B.n out
 e:Ext B H
 k:okY m
theorem TB.more {B H:q0a} {out:Value} {m:List Int} {u:Int} (h:TB B H out m) (hu:0≤u∧u<256) (hl:m.length<1000):∃H1 v' H2,q0D 5 1 1 [.int .u8 0] [(0,1,.int .u8 u)] H=some (.slice (some ⟨H.n,0,none⟩) 1 2,H1)∧q0m H1 out (.slice (some ⟨H.n,0,none⟩) 1 2) 5 1 1=some (v',H2)∧TB B H2 v' (m++[u]):=by
 obtain ⟨H1,v1,x1,i1⟩:=v_u1 (H:=H) (a:=u)
 obtain ⟨v',H2,m1,m2,m3,m4,m5⟩:=OwnB.add (Own.ext x1 h.o) i1 (by simp) (by simp;omega)
 have xn:=h.e.1
 have x1n:=x1.1
 refine ⟨H1,v',H2,v1,m1,m2,m3.mono (by omega),⟨by omega,fun j hj=>by rw[m5 j (by omega) (q0i.of_from h.f hj),x1.2 j (by omega),h.e.2 j hj]⟩,fun y hy=>?_⟩
 rcases List.mem_append.1 hy with hy|hy
 ·exact h.k y hy
 ·rw[List.mem_singleton.1 hy];exact hu
theorem w8r (u:Int):0≤IntKind.u8.wrap u∧IntKind.u8.wrap u<256:=by
 have e:IntKind.u8.wrap u=u % 256:=rfl
 omega
def PTB (B:q0a) (n:Nat) (y:AEx) (e':Env) (H':q0a):Prop:=y=.exit 2∧∃m,m.length≤n∧TB B H' (eget e' 16) m
theorem l_T1 {B:q0a} {b x:Value} {bs us:List Int} {odd:Int} (ho:0≤odd∧odd<256) (hb:Nums B .u8 b bs) (hbb:okY bs) (hx:Ints B x us) (hul:us.length≤100):∀(c i:Nat) (H:q0a) (out:Value) (m:List Int),i+c=us.length→m.length≤2*i→TB B H out m →
  Out (run Tryz.prog (tabF tab) om1 (.loop [2,3,16,59,60,61] q2w) [(2,b),(3,.int .u8 odd),(16,out),(59,x),(60,.int .i64 us.length),(61,.int .i64 i)] H) (PTB B (2*us.length)):=by
 have hq:q2P .rem .u8 odd 3=some (.int .u8 (odd % 3)):=by rw[q4C (by decide),Int.tmod_eq_emod_of_nonneg (by omega)]
 have lb:=fun H9=>Nums.len (H2:=H9) hb
 intro c
 induction c with
 | zero=>
  intro i H out m hi hm h
  obtain rfl:i=us.length:=by omega
  have hlt:(((us.length:Nat):Int)<(us.length:Nat))=False:=by simp
  rw[q0d q2w.eq_1]
  simp only[WA,Nat.reduceEqDiff,hlt]
  exact ⟨rfl,m,hm,h⟩
 | succ c ih=>
  intro i H out m hi hm h
  have hlt:((i:Int)<(us.length:Nat))=True:=eq_true (by omega)
  obtain ⟨u,hu,hd⟩:=q0z (L:=us) (i:=i) (by omega)
  obtain ⟨i1,o1,h1,h2⟩:=(hx.ext h.e).at hu
  have hw2:IntKind.i64.wrap ((i:Int)+1)=((i+1:Nat):Int):=by rw[q0k (by omega) (by omega)];omega
  obtain ⟨H1,v1,H2,m1,m2,h3⟩:=h.more (w8r u) (by omega)
  have hl3:(m++[IntKind.u8.wrap u]).length=m.length+1:=by simp
  rw[q0d q2w.eq_1]
  by_cases g1:odd % 3=1
  ·by_cases g2:i<bs.length
   ·have g2':((i:Int)<(bs.length:Nat))=True:=eq_true (by omega)
    obtain ⟨d,hd2,_⟩:=q0z (L:=bs) (i:=i) g2
    obtain ⟨d0,d1⟩:=hbb d (List.mem_of_getElem? hd2)
    obtain ⟨i2,o2,h4,h5⟩:=(hb.ext h3.e).at hd2
    by_cases g3:d<20
    ·have hw:IntKind.u8.wrap (d*12)=d*12:=k1n (by omega) (by omega)
     obtain ⟨H4,v4,H5,m4,m5,h6⟩:=h3.more (u:=d*12) ⟨by omega,by omega⟩ (by omega)
     obtain ⟨y,e',H',r1,r2⟩:=ih (i+1) H5 v4 _ (by omega) (by rw[List.length_append,List.length_singleton];omega) h6
     simp only[WA,Nat.reduceEqDiff,hlt,h1,h2,m1,m2,hq,g1,lb,g2',h4,h5,g3,hw,m4,m5,hw2]
     rw[q0e]
     simp only[WA,Nat.reduceEqDiff,r1]
     exact r2
    ·obtain ⟨y,e',H',r1,r2⟩:=ih (i+1) H2 v1 _ (by omega) (by omega) h3
     simp only[WA,Nat.reduceEqDiff,hlt,h1,h2,m1,m2,hq,g1,lb,g2',h4,h5,g3,hw2]
     rw[q0e]
     simp only[WA,Nat.reduceEqDiff,r1]
     exact r2
   ·have g2':((i:Int)<(bs.length:Nat))=False:=eq_false (by omega)
    obtain ⟨y,e',H',r1,r2⟩:=ih (i+1) H2 v1 _ (by omega) (by omega) h3
    simp only[WA,Nat.reduceEqDiff,hlt,h1,h2,m1,m2,hq,g1,lb,g2',hw2]
    rw[q0e]
    simp only[WA,Nat.reduceEqDiff,r1]
    exact r2
  ·obtain ⟨y,e',H',r1,r2⟩:=ih (i+1) H2 v1 _ (by omega) (by omega) h3
   simp only[WA,Nat.reduceEqDiff,hlt,h1,h2,m1,m2,hq,g1,hw2]
   rw[q0e]
   simp only[WA,Nat.reduceEqDiff,r1]
   exact r2
theorem cutI {H:q0a} {a:Value} {l:List Int} {n:Nat} (ha:Ints H a l) (hc:Cut Tryz.prog H a 1):∃a' k,(if (n:Int)<(l.length:Int) then (n:Int) else (l.length:Int))=((k:Nat):Int)∧(∀kd:IntKind,q3t (P:=Tryz.prog) a none (some (.int kd k)) 1 H=some (a',H))∧Ints H a' (l.take n)∧(l.take n).length=k∧k≤n:=by
 obtain ⟨k,hk⟩:∃k:Nat,k=min l.length n:=⟨_,rfl⟩
 obtain ⟨a',h1,h2,_⟩:=Sl.take ha hc (show k≤l.length by omega)
 have e:l.take k=l.take n:=by
  rw[hk]
  rcases Nat.le_total l.length n with h|h
  ·rw[Nat.min_eq_left h,List.take_of_length_le h,List.take_length]
  ·rw[Nat.min_eq_right h]
 refine ⟨a',k,by split<;>omega,h1,?_,by rw[List.length_take];omega,by omega⟩
 rw[←e]
 unfold Ints
 rw[List.length_take,Nat.min_eq_left (by omega)]
 simpa[ints,List.map_take] using h2
def TxP (H H':q0a) (v:Value):Prop:=Ext H H'∧∃m,m.length≤200∧okY m∧Nums H' .u8 v m∧Cut Tryz.prog H' v 1
section
variable {τ:Type} {M:Value→Nat→q0a→τ→NS→NS→Prop} {ws:τ→Int→List Tok×τ} {wf:τ→List Tok×τ} {st0:τ}
theorem k9s {k:Nat} {H:q0a} {l b:Value} {ls bs:List Int} {odd:Int} (ho:0≤odd∧odd<256) (hm:∀v,Mc (M v) v ws wf okS 200000) (hg:∀v,Wg (M v) ws wf okS)
  (hp:∀v H st C D,M v 0 H st C D→(∃t p,v=.iface t p)∧∃K:NS,Mp (M v) v ws wf okS 200000 K∧∀j,K j→j<H.n)
  (hE:∀H,q0p (cw Tryz.prog (tabF tab) om1 30 [.string (nm k)] H) fun v H'=>∃wv C D,v=.tuple ⟨[wv,.int .i64 0]⟩∧one wv=true∧M wv 0 H' st0 C D∧NewM H H' C D)
  (hl:Nums H .u8 l ls) (hlc:Cut Tryz.prog H l 1) (hlb:okY ls) (hb:Nums H .u8 b bs) (hbc:Cut Tryz.prog H b 1) (hbb:okY bs) :
  q0p (cw Tryz.prog (tabF tab) om1 12 [.string (nm k),l,b,.int .u8 odd] H) fun v H'=>TxP H H' v:=by
 rw[q0g (F:=q2Y) rfl rfl rfl]
 unfold q2Y q6h
 obtain ⟨H1,hH1⟩:∃H1,H1=H.push ⟨nmL,9,.tip,0,[]⟩:=⟨_,rfl⟩
 have x1:Ext H H1:=by rw[hH1];exact Ext.push H _
 have c1:=k5Y H
 rw[←hH1] at c1
 have hs:Sl H1 1 (.slice (some ⟨H.n,0,none⟩) 8 9) 8 nmL:=by rw[hH1];exact Sl.new (n:=8) (c:=9) q0b q0n rfl
 have hls:=fun H9=>Sl.len (H2:=H9) hs
 have z8:((8:Nat):Int)=8:=rfl
 rw[z8] at hls
 obtain ⟨y,e',H9,r1,rfl,e0,e1,e2,e3,⟨k9,hk9,e9⟩,rfl⟩:=l_T0 (s:=nm k) (l:=l) (b:=b) (odd:=odd) hs 8 0 0 rfl (by decide)
 rw[show ((0:Nat):Int)=0 from rfl] at r1
 have hq:q2P .rem .u8 odd 3=some (.int .u8 (odd % 3)):=by rw[q4C (by decide),Int.tmod_eq_emod_of_nonneg (by omega)]
 have hb1:=hb.ext x1
 have lb:=fun H9=>Nums.len (H2:=H9) hb
 by_cases g:odd % 3=0
 ·obtain ⟨a',n,hmin,s1,s2,hn,hn60⟩:=z5s (n:=60) hb1 (hbc.ext x1)
  simp only[Int.cast_ofNat_Int] at hmin
  have s1':=s1 .i64
  have hcut:Cut Tryz.prog H9 a' 1:=by
   obtain ⟨v9,g1,_,g3⟩:=Sl.take (k:=n) hb1 (hbc.ext x1) (by rw[List.length_take] at hn;omega)
   have:=(g1 .i64).symm.trans s1'
   injection this with this
   injection this with this _
   rw[←this]
   exact g3
  simp only[WA,Nat.reduceEqDiff,reduceCtorEq,c1,hls]
  rw[q0e]
  simp only[WA,Nat.reduceEqDiff,reduceCtorEq,r1,e2,e3,hq,g,lb,hmin,s1']
  exact ⟨x1,_,by omega,q6P hbb,s2,hcut⟩
 ·obtain ⟨w,H2,c2,wv,C,D,rfl,_,hM,hN⟩:=hE H9
  obtain ⟨⟨t,p,hwv⟩,K,hK,hKn⟩:=hp _ _ _ _ _ hM
  have x2:=hN.ext
  have x12:=x1.trans x2
  obtain ⟨us,H3,c3,x3,m,m60,mok,mi,mc,mf⟩:=c_Sc hk9 (hl.ext x12) (hlc.ext x12) hlb
  have hM3:=(hm wv).keep hM x3.1 fun j hj=>x3.2 j ((hm wv).lt hM hj)
  obtain ⟨tv,H4,c4,x4,T,hT,hTl⟩:=c_MA (hm wv) hK (hg wv) mok (by omega) (by omega) (HB:=H9) hM3 mi (fun _=>⟨mc,fun j hj=>q0i.of_from mf (hKn j hj)⟩) (fun j hj=>by have:=hKn j hj;have:=x3.1;omega) (x2.trans x3) (fun j hj=>(hN.c j hj).1)
  obtain ⟨v5,H5,c5,x5,vo,pb,cb,rfl,o5,f5⟩:=c_UW hT (by omega) (by omega)
  obtain ⟨H6,hH6⟩:∃H6,H6=H5.push ⟨tokC pb cb (fstB tok0 T),36,.tip,1,[]⟩:=⟨_,rfl⟩
  have x6:Ext H5 H6:=by rw[hH6];exact Ext.push H5 _
  have o6:OwnI H6 vo (outs T):=Own.ext x6 o5
  have lo:=fun H9=>Sl.len (H2:=H9) o6.asI
  obtain ⟨a',n,hmin,s1,s2,hn,hn100⟩:=cutI (n:=100) o6.asI o6.cutI
  simp only[Int.cast_ofNat_Int] at hmin
  have s1':=s1 .i64
  have la:=fun H9=>Sl.len (H2:=H9) s2
  rw[hn] at la
  have x16:=x1.trans (x4.trans (x5.trans x6))
  obtain ⟨y,e7,H7,r7,rfl,mm,hmm,h7⟩:=l_T1 (B:=H6) (b:=b) (x:=a') ho (hb.ext x16) hbb s2 (by omega) ((outs T).take 100).length 0 H6 (.slice none 0 0) [] (by omega) (by simp) ⟨⟨rfl,.inl ⟨rfl,rfl⟩⟩,trivial,Ext.refl H6,fun _ h=>(by cases h)⟩
  rw[hn,show ((0:Nat):Int)=0 from rfl] at r7
  rw[hn] at hmm
  subst hwv
  have hnil:∀H9,k2I 3 false (.iface t p) H9=some (.bool false,H9):=fun _=>rfl
  simp only[WA,Nat.reduceEqDiff,reduceCtorEq,c1,hls]
  rw[q0e]
  simp only[WA,Nat.reduceEqDiff,reduceCtorEq,r1,e0,e1,e3,e9,hq,g,c2,hnil,c3,c4,c5,q1F,←hH6,lo,hmin,s1',la]
  rw[q0e]
  simp only[WA,Nat.reduceEqDiff,e2,e3,r7]
  exact ⟨x16.trans h7.e,mm,by omega,h7.k,h7.o.sl,Own.cut h7.o (by kernel_rfl)⟩
end
theorem j3q {k:Nat} (hk:k<8) {H:q0a} {l b:Value} {ls bs:List Int} {odd:Int} (ho:0≤odd∧odd<256) (hl:Nums H .u8 l ls) (hlc:Cut Tryz.prog H l 1) (hlb:okY ls) (hb:Nums H .u8 b bs) (hbc:Cut Tryz.prog H b 1) (hbb:okY bs) :
  q0p (cw Tryz.prog (tabF tab) om1 12 [.string (nm k),l,b,.int .u8 odd] H) fun v H'=>TxP H H' v:=by
 by_cases h0:k=0
 ·subst h0
  exact k9s (M:=WrM) ho (fun v=>mc_S) (fun v=>wg_S) (fun v H st C D h=>by
   obtain ⟨sc,ver,hv,hg,_⟩:=h
   refine ⟨⟨_,_,hv⟩,_,mp_S,fun j hj=>?_⟩
   rw[hv] at hj
   injection hj with _ hj
   injection hj with hj
   injection hj with hj
   injection hj with hj
   rw[←hj]
   exact q0a.lt_of_get hg) (fun H=>mk_S) hl hlc hlb hb hbc hbb
 by_cases h7:k=7
 ·subst h7
  exact k9s (M:=WrJ) ho (fun v=>mc_J) (fun v=>wg_J) (fun v H st C D h=>by
   obtain ⟨i,e,C0,D0,hv,_⟩:=h
   exact ⟨⟨_,_,hv⟩,_,mp_J,fun j hj=>absurd hj id⟩) (fun H=>mk_J) hl hlc hlb hb hbc hbb
 ·obtain ⟨hR,hok⟩:=k5Z k (by omega) (by omega)
  exact k9s (M:=WrT (rulK k)) ho (fun v=>mc_E (q6K hR)) (fun v=>wg_E (q6K hR) (z1k (j0s k (by omega) (by omega)))) (fun v H st C D h=>by
   obtain ⟨e,hv,_⟩:=h
   exact ⟨⟨_,_,hv⟩,_,mp_E (q6K hR),fun j hj=>absurd hj id⟩) (fun H=>mk_E (by omega) (by omega)) hl hlc hlb hb hbc hbb
theorem U8s.ext {H H':q0a} {v:Value} {L:List Int} (h:U8s H v L) (hx:Ext H H'):U8s H' v L:=⟨Nums.ext hx h.1,h.2.1.ext hx,h.2.2⟩
end Go.Proofs.YtleiinhaljdcoaaGreatDoor
