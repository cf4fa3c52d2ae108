/- What is proved here: what the program's functions come to, as far as the claimed statement asks. Conditions: those that each theorem names, and no others. -/
import Derived.Test.YtleiinhaljdcoaaGreatDoorP18
set_option linter.unusedSimpArgs false
set_option linter.unusedVariables false
namespace Go.Proofs.YtleiinhaljdcoaaGreatDoor
open Go Lon
set_option maxRecDepth 100000
theorem fl_new {H:AHeap} {z:FT}:∃ H1,H1=H.push ⟨[.int .i64 z.1,.int .i64 z.2.1,.int .i64 z.2.2],27,.tip,1,[]⟩∧Ext H H1∧H1.get H.n=some ⟨[.int .i64 z.1,.int .i64 z.2.1,.int .i64 z.2.2],27,.tip,1,[]⟩∧gotStore (some ⟨[.int .i64 0,.int .i64 0,.int .i64 0],27,.tip,0,[]⟩) H.n 0 (fvF z) 3 (H.push ⟨[.int .i64 0,.int .i64 0,.int .i64 0],27,.tip,0,[]⟩)=some (.tuple ⟨[]⟩,(H.push ⟨[.int .i64 0,.int .i64 0,.int .i64 0],27,.tip,0,[]⟩).upd H.n ⟨[.int .i64 z.1,.int .i64 z.2.1,.int .i64 z.2.2],27,.tip,1,[]⟩):=⟨_,rfl,Ext.push H _,get_push_self,fa_store'⟩
def bytes (l:List Int):Prop:=∀ u∈l,0≤u∧u<256
theorem op_u8s:Opener Tryz.prog 22 1 (List Int) (qSlice Tryz.prog 1 1 (qInt .u8)):=Opener.slice (Opener.int Tryz.underlying5) (qInt_mono _) Tryz.underlying22 (by kernel_rfl) (by kernel_rfl) (by decide) (by kernel_rfl)
abbrev qU8:AHeap→List Value→List Int→Prop:=qSlice Tryz.prog 1 1 (qInt .u8)
theorem bytes_of {L:List Int} (h:∀ n∈L,(Lit.int .u8 n).wf=true):bytes L:=fun u hu=>by
 have:=h u hu
 simp[Lit.wf,IntKind.min,IntKind.max,IntKind.signed,IntKind.bits] at this
 omega
theorem reach_lt {n b:Nat} (h:n*b≤reachBytes) (hb:0<b):n<4611686018427387904:=by
 have h1:n≤n*b:=Nat.le_mul_of_pos_right _ hb
 unfold reachBytes at h
 omega
def U8s (H:AHeap) (v:Value) (L:List Int):Prop:=Nums H .u8 v L∧Cut Tryz.prog H v 1∧bytes L∧tiny L
theorem u8s_of {H:AHeap} {acs:List Value} {L:List Int} (h:qU8 H acs L):∃ v,acs=[v]∧U8s H v L:=by
 obtain ⟨v,h1,h2,h3,h4,h5⟩:=qSlice_nums h
 exact ⟨v,h1,h2,h3,bytes_of h5,reach_lt h4 (by decide)⟩
theorem slice_cells {W:World} {b:Nat} {t e:TypeId} {v:Value} (ht:Tryz.prog.underlying t=some (.slice e)) (hv:Value.okWide Tryz.prog W .any b t v):v.cells.toList=[v]:=by
 unfold Value.okWide at hv
 rw[ht] at hv
 simp only at hv
 unfold Cell.okWide at hv
 rw[ht] at hv
 cases v <;> first | rfl | (simp[Cell.ok,ht] at hv)
structure SL (B H:AHeap) (out:Value) (m:List Int):Prop where
 o:OwnI H out m
 f:From B.n out
 e:Ext B H
 k:∀ u∈m,okS u
theorem SL.more {B H H':AHeap} {out:Value} {m:List Int} {u:Int} (h:SL B H out m) (hx:Ext H H') (hu:okS u) (hl:m.length<1000):∃ H1 v' H2,vBslice 3 1 1 [.int .i64 0] [(0,1,.int .i64 u)] H'=some (.slice (some ⟨H'.n,0,none⟩) 1 2,H1)∧appendA H1 out (.slice (some ⟨H'.n,0,none⟩) 1 2) 3 1 8=some (v',H2)∧SL B H2 v' (m++[u]):=by
 obtain ⟨H1,v',H2,q1,q2,q3,q4,q5,q6,_⟩:=OwnI.more (u:=u) (h.o.ext hx) (by omega)
 have x:=h.e.trans hx
 have xn:=x.1
 refine ⟨H1,v',H2,q1,q2,q3,q4.mono xn,⟨by omega,fun j hj=>by rw[q6 j (by omega) (NotAt.of_from h.f hj),x.2 j hj]⟩,fun y hy=>?_⟩
 rcases List.mem_append.1 hy with hy | hy
 ·exact h.k y hy
 ·rw[List.mem_singleton.1 hy];exact hu
theorem SL.nil {B H:AHeap} (h:Ext B H):SL B H (.slice none 0 0) []:=⟨OwnI.nil,trivial,h,fun _ h=>(by cases h)⟩
def PSL (B:AHeap) (n t K:Nat) (y:AEx) (e':Env) (H':AHeap):Prop:=y=.exit t∧∃ m,m.length=n∧SL B H' (eget e' K) m
def okMB (l:List Int):Bool:=l.all fun u=>decide (0≤u∧u<55296)
theorem okM_of {l:List Int} (h:okMB l=true):∀ u∈l,okS u:=fun u hu=>by
 have:=List.all_eq_true.1 h u hu
 rw[decide_eq_true_eq] at this
 exact ⟨this.1,by omega,.inl this.2⟩
theorem okM_at {l:List Int} (h:okMB l=true) {k:Nat} (hk:k<l.length):∃ s,l[k]?=some s∧okS s:=by
 refine ⟨l[k],List.getElem?_eq_getElem hk,okM_of h _ (List.getElem_mem hk)⟩
section
variable {B:AHeap} {a:Value} {l:List Int}
theorem l_S19 (hb:bytes l) (hl:l.length≤60) (ha:Nums B .u8 a l):∀ (c i:Nat) (H:AHeap) (out:Value) (m:List Int),i+c=l.length→m.length=i→SL B H out m →
  Out (run Tryz.prog (tabF tab) om1 (.loop [5,31,32,33] b_lontarlaw19_Scalars_0) [(5,out),(31,a),(32,.int .i64 l.length),(33,.int .i64 i)] H) (PSL B l.length 1 5):=by
 intro c
 induction c with
 | zero=>
  intro i H out m hi hm h
  obtain rfl:i=l.length:=by omega
  have hlt:(((l.length:Nat):Int)<(l.length:Nat))=False:=by simp
  rw[w_loop_b b_lontarlaw19_Scalars_0.eq_1]
  simp only[WA,Nat.reduceEqDiff,hlt]
  exact ⟨rfl,m,hm,h⟩
 | succ c ih=>
  intro i H out m hi hm h
  have hlt:((i:Int)<(l.length:Nat))=True:=eq_true (by omega)
  obtain ⟨u,hu,hd⟩:=drop_at (L:=l) (i:=i) (by omega)
  obtain ⟨u1,u2⟩:=hb u (List.mem_of_getElem? hu)
  obtain ⟨i1,o1,h1,h2⟩:=(ha.ext h.e).at hu
  have hw2:IntKind.i64.wrap ((i:Int)+1)=((i+1:Nat):Int):=by rw[wrap64 (by omega) (by omega)];omega
  have q1:intOp .rem .i64 u 96=some (.int .i64 (u % 96)):=by rw[int_rem (by decide),Int.tmod_eq_emod_of_nonneg (by omega)]
  have q3:IntKind.i64.wrap u=u:=wrap64 (by omega) (by omega)
  have q4:IntKind.i64.wrap (3584+u % 96)=3584+u % 96:=wrap64 (by omega) (by omega)
  have q5:IntKind.i64.wrap (u - 120)=u - 120:=wrap64 (by omega) (by omega)
  rw[w_loop_b b_lontarlaw19_Scalars_0.eq_1]
  by_cases hg:u>200
  ·obtain ⟨H1,v',H2,m1,m2,h9⟩:=h.more (Ext.refl H) (u:=u - 120) ⟨by omega,by omega,.inl (by omega)⟩ (by omega)
   obtain ⟨y,e',H',r1,r2⟩:=ih (i+1) H2 v' _ (by omega) (by rw[List.length_append,List.length_singleton,hm]) h9
   simp only[WA,Nat.reduceEqDiff,hlt,h1,h2,q1,q3,q4,q5,hg,m1,m2,hw2]
   rw[w_enter]
   simp only[WA,Nat.reduceEqDiff,r1]
   exact r2
  ·obtain ⟨H1,v',H2,m1,m2,h9⟩:=h.more (Ext.refl H) (u:=3584+u % 96) ⟨by omega,by omega,.inl (by omega)⟩ (by omega)
   obtain ⟨y,e',H',r1,r2⟩:=ih (i+1) H2 v' _ (by omega) (by rw[List.length_append,List.length_singleton,hm]) h9
   simp only[WA,Nat.reduceEqDiff,hlt,h1,h2,q1,q3,q4,hg,m1,m2,hw2]
   rw[w_enter]
   simp only[WA,Nat.reduceEqDiff,r1]
   exact r2
def T18:List Int:=[8204,8205,2404,97,2364,2381,2509,2492,2314,3349]
theorem v_T18 {H:AHeap}:vBslice 3 10 1 [.int .i64 0] [(0,1,.int .i64 8204),(1,1,.int .i64 8205),(2,1,.int .i64 2404),(3,1,.int .i64 97),(4,1,.int .i64 2364),(5,1,.int .i64 2381),(6,1,.int .i64 2509),(7,1,.int .i64 2492),(8,1,.int .i64 2314),(9,1,.int .i64 3349)] H=some (.slice (some ⟨H.n,0,none⟩) 10 11,H.push ⟨ints T18,3,.tip,0,[]⟩):=rfl
theorem l_S18 (hb:bytes l) (hl:l.length≤60) (ha:Nums B .u8 a l):∀ (c i:Nat) (H:AHeap) (out:Value) (m:List Int),i+c=l.length→m.length=i→SL B H out m →
  Out (run Tryz.prog (tabF tab) om1 (.loop [3,10,11,12] b_lontarlaw18_Scalars_0) [(3,out),(10,a),(11,.int .i64 l.length),(12,.int .i64 i)] H) (PSL B l.length 0 3):=by
 intro c
 induction c with
 | zero=>
  intro i H out m hi hm h
  obtain rfl:i=l.length:=by omega
  have hlt:(((l.length:Nat):Int)<(l.length:Nat))=False:=by simp
  rw[w_loop_b b_lontarlaw18_Scalars_0.eq_1]
  simp only[WA,Nat.reduceEqDiff,hlt]
  exact ⟨rfl,m,hm,h⟩
 | succ c ih=>
  intro i H out m hi hm h
  have hlt:((i:Int)<(l.length:Nat))=True:=eq_true (by omega)
  obtain ⟨u,hu,hd⟩:=drop_at (L:=l) (i:=i) (by omega)
  obtain ⟨u1,u2⟩:=hb u (List.mem_of_getElem? hu)
  obtain ⟨i1,o1,h1,h2⟩:=(ha.ext h.e).at hu
  have hw2:IntKind.i64.wrap ((i:Int)+1)=((i+1:Nat):Int):=by rw[wrap64 (by omega) (by omega)];omega
  have step:∀ s,okS s→∀ H9,Ext H H9→∃ H1 v' H2,vBslice 3 1 1 [.int .i64 0] [(0,1,.int .i64 s)] H9=some (.slice (some ⟨H9.n,0,none⟩) 1 2,H1)∧appendA H1 out (.slice (some ⟨H9.n,0,none⟩) 1 2) 3 1 8=some (v',H2)∧Out (run Tryz.prog (tabF tab) om1 (.loop [3,10,11,12] b_lontarlaw18_Scalars_0) [(3,v'),(10,a),(11,.int .i64 l.length),(12,.int .i64 ((i+1:Nat):Int))] H2) (PSL B l.length 0 3):=fun s hs H9 hx=>by
   obtain ⟨H1,v',H2,m1,m2,h9⟩:=h.more hx hs (by omega)
   exact ⟨H1,v',H2,m1,m2,ih (i+1) H2 v' _ (by omega) (by rw[List.length_append,List.length_singleton,hm]) h9⟩
  have q3:IntKind.i64.wrap u=u:=wrap64 (by omega) (by omega)
  have q1:intOp .rem .i64 u 128=some (.int .i64 (u % 128)):=by rw[int_rem (by decide),Int.tmod_eq_emod_of_nonneg (by omega)]
  rw[w_loop_b b_lontarlaw18_Scalars_0.eq_1]
  by_cases g1:u<30
  ·obtain ⟨k,hk⟩:∃ k:Nat,u % 10=k:=⟨(u % 10).toNat,by omega⟩
   have q2:intOp .rem .u8 u 10=some (.int .u8 k):=by rw[int_rem (by decide),Int.tmod_eq_emod_of_nonneg (by omega),hk]
   obtain ⟨s,hs,hok⟩:=okM_at (l:=T18) (by rfl) (k:=k) (by show k<10;omega)
   obtain ⟨H9,hH9⟩:∃ H9,H9=H.push ⟨ints T18,3,.tip,0,[]⟩:=⟨_,rfl⟩
   have x1:Ext H H9:=by rw[hH9];exact Ext.push H _
   have s1:Ints H9 (.slice (some ⟨H.n,0,none⟩) 10 11) T18:=by rw[hH9];exact Sl.new (n:=10) (c:=11) get_push_self mem_tip rfl
   have v9:=v_T18 (H:=H)
   rw[← hH9] at v9
   obtain ⟨i3,o3,h3,h4⟩:=s1.at hs
   obtain ⟨H1,v',H2,m1,m2,y,e',H',r1,r2⟩:=step s hok _ x1
   simp only[WA,Nat.reduceEqDiff,hlt,h1,h2,g1,q2,v9,h3,h4,m1,m2,hw2]
   rw[w_enter]
   simp only[WA,Nat.reduceEqDiff,r1]
   exact r2
  ·by_cases g2:u<140
   ·have q4:IntKind.i64.wrap (2304+u % 128)=2304+u % 128:=wrap64 (by omega) (by omega)
    obtain ⟨H1,v',H2,m1,m2,y,e',H',r1,r2⟩:=step (2304+u % 128) ⟨by omega,by omega,.inl (by omega)⟩ H (Ext.refl H)
    simp only[WA,Nat.reduceEqDiff,hlt,h1,h2,g1,g2,q1,q3,q4,m1,m2,hw2]
    rw[w_enter]
    simp only[WA,Nat.reduceEqDiff,r1]
    exact r2
   ·by_cases g3:u<220
    ·have q4:IntKind.i64.wrap (2432+u % 128)=2432+u % 128:=wrap64 (by omega) (by omega)
     obtain ⟨H1,v',H2,m1,m2,y,e',H',r1,r2⟩:=step (2432+u % 128) ⟨by omega,by omega,.inl (by omega)⟩ H (Ext.refl H)
     simp only[WA,Nat.reduceEqDiff,hlt,h1,h2,g1,g2,g3,q1,q3,q4,m1,m2,hw2]
     rw[w_enter]
     simp only[WA,Nat.reduceEqDiff,r1]
     exact r2
    ·have q2:intOp .rem .u8 u 9=some (.int .u8 (u % 9)):=by rw[int_rem (by decide),Int.tmod_eq_emod_of_nonneg (by omega)]
     have q4:IntKind.i64.wrap (u % 9)=u % 9:=wrap64 (by omega) (by omega)
     have q5:IntKind.i64.wrap (128*(u % 9))=128*(u % 9):=wrap64 (by omega) (by omega)
     have q6:IntKind.i64.wrap (2304+128*(u % 9))=2304+128*(u % 9):=wrap64 (by omega) (by omega)
     have q7:IntKind.i64.wrap (2304+128*(u % 9)+21)=2304+128*(u % 9)+21:=wrap64 (by omega) (by omega)
     obtain ⟨H1,v',H2,m1,m2,y,e',H',r1,r2⟩:=step (2304+128*(u % 9)+21) ⟨by omega,by omega,.inl (by omega)⟩ H (Ext.refl H)
     simp only[WA,Nat.reduceEqDiff,hlt,h1,h2,g1,g2,g3,q2,q4,q5,q6,q7,m1,m2,hw2]
     rw[w_enter]
     simp only[WA,Nat.reduceEqDiff,r1]
     exact r2
def G17:List Int:=[0xbc6,0xbc7,0xbc8,0xbcd,0xbbe,0xbbf,0xbc0,0xbd7,0xbca,0xbcb,0xbcc,0xb85,97]
def C17:List Int:=[2965,2969,2970,2974,2975,2979,2980,2984,2986,2990,2991,2992,2994,2997,2996,2995,2993,2985,2972,2999,3000,3001]
theorem c_L38 (H:AHeap):cw Tryz.prog (tabF tab) om1 78 [] H=some (.slice (some ⟨H.n,0,none⟩) 22 23,H.push ⟨ints C17,3,.tip,0,[]⟩):=cw_of 3 (by kernel_rfl)
theorem v_G17 {H:AHeap}:vBslice 3 13 1 [.int .i64 0] [(0,1,.int .i64 3014),(1,1,.int .i64 3015),(2,1,.int .i64 3016),(3,1,.int .i64 3021),(4,1,.int .i64 3006),(5,1,.int .i64 3007),(6,1,.int .i64 3008),(7,1,.int .i64 3031),(8,1,.int .i64 3018),(9,1,.int .i64 3019),(10,1,.int .i64 3020),(11,1,.int .i64 2949),(12,1,.int .i64 97)] H=some (.slice (some ⟨H.n,0,none⟩) 13 14,H.push ⟨ints G17,3,.tip,0,[]⟩):=rfl
theorem l_S17 (hb:bytes l) (hl:l.length≤60) (ha:Nums B .u8 a l) {g:Value} (hg:Ints B g G17):∀ (c i:Nat) (H:AHeap) (out:Value) (m:List Int),i+c=l.length→m.length=i→SL B H out m →
  Out (run Tryz.prog (tabF tab) om1 (.loop [3,4,13,14,15] b_lontarlaw17_Some_0) [(3,g),(4,out),(13,a),(14,.int .i64 l.length),(15,.int .i64 i)] H) (PSL B l.length 0 4):=by
 intro c
 induction c with
 | zero=>
  intro i H out m hi hm h
  obtain rfl:i=l.length:=by omega
  have hlt:(((l.length:Nat):Int)<(l.length:Nat))=False:=by simp
  rw[w_loop_b b_lontarlaw17_Some_0.eq_1]
  simp only[WA,Nat.reduceEqDiff,hlt]
  exact ⟨rfl,m,hm,h⟩
 | succ c ih=>
  intro i H out m hi hm h
  have hlt:((i:Int)<(l.length:Nat))=True:=eq_true (by omega)
  obtain ⟨u,hu,hd⟩:=drop_at (L:=l) (i:=i) (by omega)
  obtain ⟨u1,u2⟩:=hb u (List.mem_of_getElem? hu)
  obtain ⟨i1,o1,h1,h2⟩:=(ha.ext h.e).at hu
  have hw2:IntKind.i64.wrap ((i:Int)+1)=((i+1:Nat):Int):=by rw[wrap64 (by omega) (by omega)];omega
  obtain ⟨k,hk⟩:∃ k:Nat,u % 22=k:=⟨(u % 22).toNat,by omega⟩
  obtain ⟨n,hn⟩:∃ n:Nat,u % 13=n:=⟨(u % 13).toNat,by omega⟩
  have q1:intOp .rem .u8 u 22=some (.int .u8 k):=by rw[int_rem (by decide),Int.tmod_eq_emod_of_nonneg (by omega),hk]
  have q2:intOp .rem .i64 u 13=some (.int .i64 n):=by rw[int_rem (by decide),Int.tmod_eq_emod_of_nonneg (by omega),hn]
  have q3:IntKind.i64.wrap u=u:=wrap64 (by omega) (by omega)
  obtain ⟨H1,hH1⟩:∃ H1,H1=H.push ⟨ints C17,3,.tip,0,[]⟩:=⟨_,rfl⟩
  have x1:Ext H H1:=by rw[hH1];exact Ext.push H _
  have s1:Ints H1 (.slice (some ⟨H.n,0,none⟩) 22 23) C17:=by rw[hH1];exact Sl.new (n:=22) (c:=23) get_push_self mem_tip rfl
  obtain ⟨s,hs,hok⟩:=okM_at (l:=C17) (by rfl) (k:=k) (by show k<22;omega)
  obtain ⟨s2,hs2,hok2⟩:=okM_at (l:=G17) (by rfl) (k:=n) (by show n<13;omega)
  obtain ⟨i3,o3,h3,h4⟩:=s1.at hs
  obtain ⟨i5,o5,h5,h6⟩:=((hg.ext h.e).ext x1).at hs2
  have cc:=c_L38 H
  rw[← hH1] at cc
  have hlg:∀ H2,vLen false g H2=some (.int .i64 13,H2):=fun H2=>Sl.len (H2:=H2) hg
  rw[w_loop_b b_lontarlaw17_Some_0.eq_1]
  by_cases hg1:u>140
  ·obtain ⟨H2,v',H3,m1,m2,h9⟩:=h.more x1 hok2 (by omega)
   obtain ⟨y,e',H',r1,r2⟩:=ih (i+1) H3 v' _ (by omega) (by rw[List.length_append,List.length_singleton,hm]) h9
   simp only[WA,Nat.reduceEqDiff,hlt,h1,h2,q1,cc,h3,h4,hg1,q3,hlg,q2,h5,h6,m1,m2,hw2]
   rw[w_enter]
   simp only[WA,Nat.reduceEqDiff,r1]
   exact r2
  ·obtain ⟨H2,v',H3,m1,m2,h9⟩:=h.more x1 hok (by omega)
   obtain ⟨y,e',H',r1,r2⟩:=ih (i+1) H3 v' _ (by omega) (by rw[List.length_append,List.length_singleton,hm]) h9
   simp only[WA,Nat.reduceEqDiff,hlt,h1,h2,q1,cc,h3,h4,hg1,m1,m2,hw2]
   rw[w_enter]
   simp only[WA,Nat.reduceEqDiff,r1]
   exact r2
def MK:List Int:=[774,770,795,768,769,777,771,803]
theorem c_Marks (H:AHeap):cw Tryz.prog (tabF tab) om1 76 [] H=some (.tuple ⟨[.slice (some ⟨H.n,0,none⟩) 8 9,.slice (some ⟨H.n+1,0,none⟩) 8 9]⟩,(H.push ⟨ints MK,3,.tip,0,[]⟩).push ⟨[.complex .f64 4607182418800017408 0,.complex .f64 4611686018427387904 0,.complex .f64 4613937818241073152 0,.complex .f64 0 4607182418800017408,.complex .f64 0 4611686018427387904,.complex .f64 0 4613937818241073152,.complex .f64 0 4616189618054758400,.complex .f64 0 4617315517961601024],46,.tip,0,[]⟩):=cw_of 3 (by kernel_rfl)
theorem VL_ok:(VL.all fun x=>decide (0≤x.sc∧x.sc<55296))=true:=by kernel_rfl
theorem l_S10 (hb:bytes l) (hl:l.length≤60) (ha:Nums B .u8 a l) {g:Value} (hg:Ints B g MK):∀ (c i:Nat) (H:AHeap) (out:Value) (m:List Int),i+c=l.length→m.length=i→SL B H out m →
  Out (run Tryz.prog (tabF tab) om1 (.loop [3,5,19,20,21] b_lontarlaw10_Some_0) [(3,g),(5,out),(19,a),(20,.int .i64 l.length),(21,.int .i64 i)] H) (PSL B l.length 0 5):=by
 intro c
 induction c with
 | zero=>
  intro i H out m hi hm h
  obtain rfl:i=l.length:=by omega
  have hlt:(((l.length:Nat):Int)<(l.length:Nat))=False:=by simp
  rw[w_loop_b b_lontarlaw10_Some_0.eq_1]
  simp only[WA,Nat.reduceEqDiff,hlt]
  exact ⟨rfl,m,hm,h⟩
 | succ c ih=>
  intro i H out m hi hm h
  have hlt:((i:Int)<(l.length:Nat))=True:=eq_true (by omega)
  obtain ⟨u,hu,hd⟩:=drop_at (L:=l) (i:=i) (by omega)
  obtain ⟨u1,u2⟩:=hb u (List.mem_of_getElem? hu)
  obtain ⟨i1,o1,h1,h2⟩:=(ha.ext h.e).at hu
  have hw2:IntKind.i64.wrap ((i:Int)+1)=((i+1:Nat):Int):=by rw[wrap64 (by omega) (by omega)];omega
  obtain ⟨k,hk⟩:∃ k:Nat,u % 148=k:=⟨(u % 148).toNat,by omega⟩
  obtain ⟨n,hn⟩:∃ n:Nat,u % 8=n:=⟨(u % 8).toNat,by omega⟩
  have q1:intOp .rem .i64 u 148=some (.int .i64 k):=by rw[int_rem (by decide),Int.tmod_eq_emod_of_nonneg (by omega),hk]
  have q2:intOp .rem .u8 u 8=some (.int .u8 n):=by rw[int_rem (by decide),Int.tmod_eq_emod_of_nonneg (by omega),hn]
  have q3:IntKind.i64.wrap u=u:=wrap64 (by omega) (by omega)
  have q4:IntKind.i64.wrap (120+u)=120+u:=wrap64 (by omega) (by omega)
  have hk148:k<VL.length:=by rw[VL_len];omega
  obtain ⟨x,hx⟩:∃ x,VL[k]?=some x:=⟨_,List.getElem?_eq_getElem hk148⟩
  have hxo:=List.all_eq_true.1 VL_ok x (List.mem_of_getElem? hx)
  rw[decide_eq_true_eq] at hxo
  obtain ⟨v1,H1,c1,x1,rfl⟩:=c_Letter (n:=k) (H:=H)
  unfold ltV at c1
  rw[hx] at c1
  unfold ltC at c1
  have st:=st_let (H:=H1.push ⟨[.int .i64 0,.complex .f64 0 0],154,.tip,0,[]⟩) (i:=H1.n) (ver:=0) (el:=154) (a:=.int .i64 0) (b:=.complex .f64 0 0) (x:=.int .i64 x.base) (y:=.complex .f64 (fb x.mark) (fb x.tone)) rfl
  obtain ⟨H2,hH2⟩:∃ H2,H2=H1.push ⟨[.int .i64 x.base,.complex .f64 (fb x.mark) (fb x.tone)],154,.tip,1,[]⟩:=⟨_,rfl⟩
  have x2:Ext H H2:=x1.trans (by rw[hH2];exact Ext.push H1 _)
  obtain ⟨s2,hs2,hok2⟩:=okM_at (l:=MK) (by rfl) (k:=n) (by show n<8;omega)
  obtain ⟨i5,o5,h5,h6⟩:=((hg.ext h.e).ext x2).at hs2
  have step:∀ s,okS s→∃ H3 v' H4,vBslice 3 1 1 [.int .i64 0] [(0,1,.int .i64 s)] H2=some (.slice (some ⟨H2.n,0,none⟩) 1 2,H3)∧appendA H3 out (.slice (some ⟨H2.n,0,none⟩) 1 2) 3 1 8=some (v',H4)∧Out (run Tryz.prog (tabF tab) om1 (.loop [3,5,19,20,21] b_lontarlaw10_Some_0) [(3,g),(5,v'),(19,a),(20,.int .i64 l.length),(21,.int .i64 ((i+1:Nat):Int))] H4) (PSL B l.length 0 5):=fun s hs=>by
   obtain ⟨H3,v',H4,m1,m2,h9⟩:=h.more x2 hs (by omega)
   exact ⟨H3,v',H4,m1,m2,ih (i+1) H4 v' _ (by omega) (by rw[List.length_append,List.length_singleton,hm]) h9⟩
  simp only[Nat.zero_add] at st
  rw[w_loop_b b_lontarlaw10_Some_0.eq_1]
  by_cases g1:u>190
  ·have g2:¬ (u<6):=by omega
   obtain ⟨H3,v',H4,m1,m2,y,e',H',r1,r2⟩:=step s2 hok2
   simp only[WA,Nat.reduceEqDiff,hlt,h1,h2,q3,q1,c1,st,← hH2,g1,g2,q2,h5,h6,m1,m2,hw2]
   rw[w_enter]
   simp only[WA,Nat.reduceEqDiff,r1]
   exact r2
  ·by_cases g2:u<6
   ·obtain ⟨H3,v',H4,m1,m2,y,e',H',r1,r2⟩:=step (120+u) ⟨by omega,by omega,.inl (by omega)⟩
    simp only[WA,Nat.reduceEqDiff,hlt,h1,h2,q3,q1,c1,st,← hH2,g1,g2,q4,m1,m2,hw2]
    rw[w_enter]
    simp only[WA,Nat.reduceEqDiff,r1]
    exact r2
   ·obtain ⟨H3,v',H4,m1,m2,y,e',H',r1,r2⟩:=step x.sc ⟨hxo.1,by omega,.inl hxo.2⟩
    simp only[WA,Nat.reduceEqDiff,hlt,h1,h2,q3,q1,c1,st,← hH2,g1,g2,m1,m2,hw2]
    rw[w_enter]
    simp only[WA,Nat.reduceEqDiff,r1]
    exact r2
end
theorem cut60 {H:AHeap} {a:Value} {l:List Int} {n:Nat} (ha:Nums H .u8 a l) (hc:Cut Tryz.prog H a 1):∃ a' k,(if (n:Int)<(l.length:Int) then (n:Int) else (l.length:Int))=((k:Nat):Int)∧(∀ kd:IntKind,vSlice (P:=Tryz.prog) a none (some (.int kd k)) 1 H=some (a',H))∧Nums H .u8 a' (l.take n)∧(l.take n).length=k∧k≤n:=by
 obtain ⟨k,hk⟩:∃ k:Nat,k=min l.length n:=⟨_,rfl⟩
 obtain ⟨a',h1,h2⟩:=vI_take (P:=Tryz.prog) ha hc (show k≤l.length by omega)
 have e:l.take k=l.take n:=by
  rw[hk]
  rcases Nat.le_total l.length n with h | h
  ·rw[Nat.min_eq_left h,List.take_of_length_le h,List.take_length]
  ·rw[Nat.min_eq_right h]
 rw[e] at h2
 exact ⟨a',k,by split <;> omega,h1,h2,by rw[List.length_take];omega,by omega⟩
def ScP (H H':AHeap) (v:Value):Prop:=Ext H H'∧∃ m,m.length≤60∧(∀ u∈m,okS u)∧Ints H' v m∧Cut Tryz.prog H' v 1∧From H.n v
theorem PSL.scp {B H':AHeap} {n t K:Nat} {y:AEx} {e':Env} (h:PSL B n t K y e' H') (hn:n≤60):y=.exit t∧ScP B H' (eget e' K):=by
 obtain ⟨h1,m,h2,h3⟩:=h
 exact ⟨h1,h3.e,m,by omega,h3.k,h3.o.asI,h3.o.cutI,h3.f⟩
theorem ScP.of {A B H':AHeap} {v:Value} (h:ScP B H' v) (hx:Ext A B):ScP A H' v:=by
 obtain ⟨h1,m,h2,h3,h4,h5,h6⟩:=h
 exact ⟨hx.trans h1,m,h2,h3,h4,h5,h6.mono hx.1⟩
section
variable {a:Value} {l:List Int} {H:AHeap}
theorem bytes_take {l:List Int} {n:Nat} (h:bytes l):bytes (l.take n):=fun u hu=>h u (List.mem_of_mem_take hu)
theorem c_S18 (ha:Nums H .u8 a l) (hc:Cut Tryz.prog H a 1) (hb:bytes l):Gives (cw Tryz.prog (tabF tab) om1 55 [a] H) fun v H'=>ScP H H' v:=by
 rw[cw_run (F:=F_lontarlaw18_Scalars) rfl rfl rfl]
 unfold F_lontarlaw18_Scalars k_lontarlaw18_Scalars
 have hl0:=fun H2=>ha.len (H2:=H2)
 obtain ⟨a',k,hmin,s1,s2,hk,hk60⟩:=cut60 (n:=60) ha hc
 obtain ⟨y,e',H',r1,r2⟩:=l_S18 (a:=a') (l:=l.take 60) (bytes_take hb) (by omega) s2 (l.take 60).length 0 H (.slice none 0 0) [] (by omega) rfl (SL.nil (Ext.refl H))
 obtain ⟨rfl,r3⟩:=r2.scp (by omega)
 have hl1:=fun H2=>Nums.len (H2:=H2) s2
 simp only[hk] at hl1
 rw[hk,show ((0:Nat):Int)=0 from rfl] at r1
 simp only[Int.cast_ofNat_Int] at hmin
 have s1':=s1 .i64
 simp only[WA,Nat.reduceEqDiff,reduceCtorEq,hl0,hmin,s1',hl1]
 rw[w_enter]
 simp only[WA,Nat.reduceEqDiff,reduceCtorEq,r1]
 exact r3
theorem c_S17 (ha:Nums H .u8 a l) (hc:Cut Tryz.prog H a 1) (hb:bytes l):Gives (cw Tryz.prog (tabF tab) om1 54 [a] H) fun v H'=>ScP H H' v:=by
 rw[cw_run (F:=F_lontarlaw17_Some) rfl rfl rfl]
 unfold F_lontarlaw17_Some k_lontarlaw17_Some
 have hl0:=fun H2=>ha.len (H2:=H2)
 obtain ⟨H1,hH1⟩:∃ H1,H1=H.push ⟨ints G17,3,.tip,0,[]⟩:=⟨_,rfl⟩
 have x1:Ext H H1:=by rw[hH1];exact Ext.push H _
 have s0:Ints H1 (.slice (some ⟨H.n,0,none⟩) 13 14) G17:=by rw[hH1];exact Sl.new (n:=13) (c:=14) get_push_self mem_tip rfl
 have c0:=v_G17 (H:=H)
 rw[← hH1] at c0
 obtain ⟨a',k,hmin,s1,s2,hk,hk60⟩:=cut60 (n:=60) (ha.ext x1) (hc.ext x1)
 obtain ⟨y,e',H',r1,r2⟩:=l_S17 (a:=a') (l:=l.take 60) (bytes_take hb) (by omega) s2 s0 (l.take 60).length 0 H1 (.slice none 0 0) [] (by omega) rfl (SL.nil (Ext.refl H1))
 obtain ⟨rfl,r3⟩:=r2.scp (by omega)
 have hl1:=fun H2=>Nums.len (H2:=H2) s2
 simp only[hk] at hl1
 rw[hk,show ((0:Nat):Int)=0 from rfl] at r1
 simp only[Int.cast_ofNat_Int] at hmin
 have s1':=s1 .i64
 simp only[WA,Nat.reduceEqDiff,reduceCtorEq,c0,hl0,hmin,s1',hl1]
 rw[w_enter]
 simp only[WA,Nat.reduceEqDiff,reduceCtorEq,r1]
 exact r3.of x1
theorem c_S10 (ha:Nums H .u8 a l) (hc:Cut Tryz.prog H a 1) (hb:bytes l):Gives (cw Tryz.prog (tabF tab) om1 53 [a] H) fun v H'=>ScP H H' v:=by
 rw[cw_run (F:=F_lontarlaw10_Some) rfl rfl rfl]
 unfold F_lontarlaw10_Some k_lontarlaw10_Some
 have hl0:=fun H2=>ha.len (H2:=H2)
 have c0:=c_Marks H
 obtain ⟨H0,hH0⟩:∃ H0,H0=H.push ⟨ints MK,3,.tip,0,[]⟩:=⟨_,rfl⟩
 rw[← hH0] at c0
 have x0:Ext H H0:=by rw[hH0];exact Ext.push H _
 have s9:Ints H0 (.slice (some ⟨H.n,0,none⟩) 8 9) MK:=by rw[hH0];exact Sl.new (n:=8) (c:=9) get_push_self mem_tip rfl
 obtain ⟨H1,hH1⟩:∃ H1,H1=H0.push ⟨[.complex .f64 4607182418800017408 0,.complex .f64 4611686018427387904 0,.complex .f64 4613937818241073152 0,.complex .f64 0 4607182418800017408,.complex .f64 0 4611686018427387904,.complex .f64 0 4613937818241073152,.complex .f64 0 4616189618054758400,.complex .f64 0 4617315517961601024],46,.tip,0,[]⟩:=⟨_,rfl⟩
 rw[← hH1] at c0
 have x01:Ext H0 H1:=by rw[hH1];exact Ext.push H0 _
 have x1:=x0.trans x01
 have s0:=s9.ext x01
 obtain ⟨a',k,hmin,s1,s2,hk,hk60⟩:=cut60 (n:=60) (ha.ext x1) (hc.ext x1)
 obtain ⟨y,e',H',r1,r2⟩:=l_S10 (a:=a') (l:=l.take 60) (bytes_take hb) (by omega) s2 s0 (l.take 60).length 0 H1 (.slice none 0 0) [] (by omega) rfl (SL.nil (Ext.refl H1))
 obtain ⟨rfl,r3⟩:=r2.scp (by omega)
 have hl1:=fun H2=>Nums.len (H2:=H2) s2
 simp only[hk] at hl1
 rw[hk,show ((0:Nat):Int)=0 from rfl] at r1
 simp only[Int.cast_ofNat_Int] at hmin
 have s1':=s1 .i64
 simp only[WA,Nat.reduceEqDiff,reduceCtorEq,c0,hl0,hmin,s1',hl1]
 rw[w_enter]
 simp only[WA,Nat.reduceEqDiff,reduceCtorEq,r1]
 exact r3.of x1
theorem c_LN (H:AHeap):cw Tryz.prog (tabF tab) om1 52 [] H=some (.slice (some ⟨H.n,0,none⟩) 8 9,H.push ⟨nmL,9,.tip,0,[]⟩):=cw_of 3 (by kernel_rfl)
theorem c_Sc {k:Nat} (hk8:k<8) (ha:Nums H .u8 a l) (hc:Cut Tryz.prog H a 1) (hb:bytes l):Gives (cw Tryz.prog (tabF tab) om1 31 [.int .i64 k,a] H) fun v H'=>ScP H H' v:=by
 rw[cw_run (F:=F_lontarlaw19_Scalars) rfl rfl rfl]
 unfold F_lontarlaw19_Scalars k_lontarlaw19_Scalars
 have c0:=c_LN H
 obtain ⟨H1,hH1⟩:∃ H1,H1=H.push ⟨nmL,9,.tip,0,[]⟩:=⟨_,rfl⟩
 rw[← hH1] at c0
 have x1:Ext H H1:=by rw[hH1];exact Ext.push H _
 have hs:Sl H1 1 (.slice (some ⟨H.n,0,none⟩) 8 9) 8 nmL:=by rw[hH1];exact Sl.new (n:=8) (c:=9) get_push_self mem_tip rfl
 obtain ⟨i,o,a1,a2,_⟩:=Sl.at hs hk8
 have e2:=e_vis k hk8
 have e3:=e_tcvn k hk8
 have e4:=e_vni k hk8
 have e6:=e_tscii k hk8
 have e7:=e_iscii k hk8
 have ha1:=ha.ext x1
 have hc1:=hc.ext x1
 obtain ⟨v10,H10,c10,p10⟩:=c_S10 ha1 hc1 hb
 obtain ⟨v17,H17,c17,p17⟩:=c_S17 ha1 hc1 hb
 obtain ⟨v18,H18,c18,p18⟩:=c_S18 ha1 hc1 hb
 have hl0:=fun H2=>ha.len (H2:=H2)
 obtain ⟨a',n,hmin,s1,s2,hn,hn60⟩:=cut60 (n:=60) ha1 hc1
 obtain ⟨y,e',H',r1,r2⟩:=l_S19 (a:=a') (l:=l.take 60) (bytes_take hb) (by omega) s2 (l.take 60).length 0 H1 (.slice none 0 0) [] (by omega) rfl (SL.nil (Ext.refl H1))
 obtain ⟨rfl,r3⟩:=r2.scp (by omega)
 have hl1:=fun H2=>Nums.len (H2:=H2) s2
 simp only[hn] at hl1
 rw[hn,show ((0:Nat):Int)=0 from rfl] at r1
 simp only[Int.cast_ofNat_Int] at hmin
 have s1':=s1 .i64
 have ld:gotLoad (H1.get i) o none H1=some (.string (nm k),H1):=a2 0 _ (by omega) (by rw[Nat.mul_one,Nat.add_zero];exact nmL_at hk8)
 revert e2 e3 e4 e6 e7
 generalize Nat.beq k 2=b2
 generalize Nat.beq k 3=b3
 generalize Nat.beq k 4=b4
 generalize Nat.beq k 6=b6
 generalize Nat.beq k 7=b7
 intro e2 e3 e4 e6 e7
 cases b2 with
 | true=>
  simp only[WA,Nat.reduceEqDiff,reduceCtorEq,c0,a1,ld,st_bin gS,e2,c10]
  exact p10.of x1
 | false=>
  cases b3 with
  | true=>
   simp only[WA,Nat.reduceEqDiff,reduceCtorEq,c0,a1,ld,st_bin gS,e2,e3,c10]
   exact p10.of x1
  | false=>
   cases b4 with
   | true=>
    simp only[WA,Nat.reduceEqDiff,reduceCtorEq,c0,a1,ld,st_bin gS,e2,e3,e4,c10]
    exact p10.of x1
   | false=>
    cases b6 with
    | true=>
     simp only[WA,Nat.reduceEqDiff,reduceCtorEq,c0,a1,ld,st_bin gS,e2,e3,e4,e6,c17]
     exact p17.of x1
    | false=>
     cases b7 with
     | true=>
      simp only[WA,Nat.reduceEqDiff,reduceCtorEq,c0,a1,ld,st_bin gS,e2,e3,e4,e6,e7,c18]
      exact p18.of x1
     | false=>
      simp only[WA,Nat.reduceEqDiff,reduceCtorEq,c0,a1,ld,st_bin gS,e2,e3,e4,e6,e7,hl0,hmin,s1',hl1]
      rw[w_enter]
      simp only[WA,Nat.reduceEqDiff,reduceCtorEq,r1]
      exact r3.of x1
end
theorem mp_S {v:Value}:Mp (WrM v) v wrS wfS okS 200000 (fun j=>v=.iface 113 (.pointer (some ⟨j,0,none⟩))) where
 put:=by
  intro n H a C D u ⟨sc,ver,hv,hg,h0,h1,hC,hD⟩ hn hu
  subst hC hD
  obtain ⟨x,H',c,q1,q2,q3,q4,q5,q6⟩:=c_SPut hu hg ⟨h0,by omega⟩
  have ho:Only (fun j=>j=sc) H H':=⟨q4,fun j hj hc=>q5 j hj hc⟩
  have hr:=only_rd ho (fun j b hc hb he=>by
   have hc:j=sc:=hc
   subst hc
   rw[hg] at hb
   injection hb with hb
   subst hb
   revert he
   simp only
   decide)
  have hi : invA Tryz.prog (cw Tryz.prog (tabF tab) om1) v "Put" [.int .i64 u] H = some (x, H') := by
   rw[hv,inv_none me_SP];exact c
  exact ⟨x,H',hi,q6.ta,⟨fun y m hm g1 g2 g3=>hr.1 y m hm g1 g2 fun j hj=>g3 j (by rw[hv,show j=sc from hj]),hr.2⟩,ho,_,_,⟨sc,_,hv,q3,by unfold wrS;simp only;omega,by unfold wrS;simp only;omega,rfl,rfl⟩,fun j _ hj=>hj,fun j _ hj=>hj⟩
 fin:=by
  intro n H a C D ⟨sc,ver,hv,hg,h0,h1,hC,hD⟩ hn
  have hi : invA Tryz.prog (cw Tryz.prog (tabF tab) om1) v "End" [] H = some (.slice none 0 0, H) := by
   rw[hv,inv_none me_SE];exact c_SEnd
  exact ⟨_,H,hi,OwnRws.nil,⟨fun _ _ _ g1 g2 _=>⟨g1,g2⟩,fun _ _ h _=>h⟩,⟨Nat.le_refl _,fun _ _ _=>rfl⟩,_,_,⟨sc,ver,hv,hg,h0,h1,hC,hD⟩,fun j _ hj=>hj,fun j _ hj=>hj⟩
theorem mp_E {L:List Rl} (hR:Right (trn L [])) {okU:Int→Prop} {v:Value}:Mp (WrT L v) v (esS L) (efS L) okU 200000 (fun _=>False) where
 put:=by
  intro n H st C D u ⟨e,hv,h⟩ hn hu
  subst hv
  obtain ⟨x,H',c,h1,h2,h3,h4,C',D',h5,h6,h7⟩:=c_EPut (u:=u) hR h (by omega)
  rw[inv_none me_EP]
  exact ⟨x,H',c,h1.ta,h4,h3,C',D',⟨e,rfl,h5⟩,h6,h7⟩
 fin:=by
  intro n H st C D ⟨e,hv,h⟩ hn
  subst hv
  obtain ⟨x,H',c,h1,h2,h3,h4,C',D',h5,h6,h7⟩:=c_EEnd hR h (by omega)
  rw[inv_none me_EE]
  exact ⟨x,H',c,h1.ta,h4,h3,C',D',⟨e,rfl,h5⟩,h6,h7⟩
theorem mp_J {v:Value}:Mp (WrJ v) v jeS jeF okS 200000 (fun _=>False) where
 put:=by
  intro n H st C D u ⟨i,e,C0,D0,hv,hg,hE,di,hs,ha,hC,hD⟩ hn hu
  subst hv hC hD
  obtain ⟨x,H',c,C',D',J⟩:=c_IPut hu hg hE di hs (by omega) (by omega)
  rw[inv_none me_JjP]
  obtain ⟨q1,q2⟩:=jeS_st hu hs ha
  exact ⟨x,H',c,J.ho,J.rd,jp_only J,_,_,⟨i,e,C',D',rfl,J.hi,J.hE,J.di,q1,q2,rfl,rfl⟩,fun j hj hc=>hc.imp (J.c j hj) id,fun j hj hc=>hc.imp (J.d j hj) id⟩
 fin:=by
  intro n H st C D ⟨i,e,C0,D0,hv,⟨ver,hg⟩,hE,di,hs,ha,hC,hD⟩ hn
  subst hv hC hD
  obtain ⟨x,H',c,hP⟩:=c_EEnd Rind_trR hE (by omega)
  have J0:JP i e n H H (.slice none 0 0) [] st.1 st.2.1 st.2.2 C0 D0 C0 D0:=⟨⟨ver,hg⟩,hE,di,OwnRws.nil,trivial,Nat.le_refl _,fun _ _ _ _=>rfl,⟨fun x m _ h1 h2 _=>⟨h1,h2⟩,fun _ _ h _=>h⟩,fun _ _ h=>h,fun _ _ h=>h⟩
  obtain ⟨t1,f1,C',D',J⟩:=J0.ep hP
  rw[inv_none me_JjE]
  refine ⟨x,H',?_,t1.ta,J.rd,jp_only J,_,_,⟨i,e,C',D',rfl,J.hi,J.hE,J.di,hs,ha,rfl,rfl⟩,fun j hj hc=>hc.imp (J.c j hj) id,fun j hj hc=>hc.imp (J.d j hj) id⟩
  rw[cw_run (F:=F_iscii_Encoder__End) rfl rfl rfl]
  unfold F_iscii_Encoder__End k_iscii_Encoder__End
  simp only[WA,Nat.reduceEqDiff,reduceCtorEq,hg,c]
theorem mk_E {k:Nat} (h1:1≤k) (h6:k≤6) {H:AHeap}:Gives (cw Tryz.prog (tabF tab) om1 30 [.string (nm k)] H) fun v H'=>∃ wv C D,v=.tuple ⟨[wv,.int .i64 0]⟩∧one wv=true∧WrT (rulK k) wv 0 H' (([],0,0),[]) C D∧NewM H H' C D:=by
 rw[cw_run (F:=F_codec_Encode) rfl rfl rfl]
 unfold F_codec_Encode k_codec_Encode
 have hn:=c_Name (H:=H) (k:=k) (by omega)
 have e0:=e_utf k (by omega)
 have e7:=e_iscii k (by omega)
 have b0:Nat.beq k 0=false:=by rcases (by omega:k=1∨k=2∨k=3∨k=4∨k=5∨k=6) with rfl | rfl | rfl | rfl | rfl | rfl <;> rfl
 have b7:Nat.beq k 7=false:=by rcases (by omega:k=1∨k=2∨k=3∨k=4∨k=5∨k=6) with rfl | rfl | rfl | rfl | rfl | rfl <;> rfl
 rw[b0] at e0
 rw[b7] at e7
 obtain ⟨v1,H1,c1,x1,q,rfl,hT⟩:=c_TabK k h1 h6 H
 obtain ⟨v2,H2,c2,e,C,D,rfl,hE,x2,nc,nd⟩:=c_MEncode hT
 have z0:((0:Int)≠0)=False:=by simp
 have x1n:=x1.1
 simp only[WA,Nat.reduceEqDiff,reduceCtorEq,hn,z0,st_bin gS,e0,e7,c1,c2]
 exact ⟨_,C,D,rfl,rfl,⟨e,rfl,hE⟩,x1.trans x2,fun j hj=>⟨by have:=(nc j hj).1;omega,(nc j hj).2⟩,fun j hj hl b hb=>nd j hj (by omega) b hb⟩
theorem rulK_by:∀ k,1≤k→k≤6→byL (rulK k)=true
 | 1,_,_=>by kernel_rfl
 | 2,_,_=>by kernel_rfl
 | 3,_,_=>by kernel_rfl
 | 4,_,_=>by kernel_rfl
 | 5,_,_=>by kernel_rfl
 | 6,_,_=>by kernel_rfl
 | 0,h,_=>by omega
 | k+7,_,h=>by omega
section
variable {ρ τ:Type} {R:Value→Nat→AHeap→ρ→NS→NS→Prop} {M:Value→Nat→AHeap→τ→NS→NS→Prop} {rs:ρ→Int→List Tok × ρ} {rf:ρ→List Tok × ρ} {ws:τ→Int→List Tok × τ} {wf:τ→List Tok × τ} {okU:Int→Prop} {r0:ρ} {st0:τ}
theorem c_OnU {k:Nat} {H:AHeap} {x:Value} {xs:List Int} (hk:k<8) (hr:∀ v,Mc (R v) v rs rf (fun u=>0≤u∧u<256) 900) (hrg:∀ v,Rg (R v) rs rf 0 okU) (hm:∀ v,Mc (M v) v ws wf okU 200000) (hg:∀ v,Wg (M v) ws wf okU)
  (hD:∀ H,Gives (cw Tryz.prog (tabF tab) om1 18 [.string (nm k)] H) fun v H'=>∃ rv C D,v=.tuple ⟨[rv,.int .i64 0]⟩∧one rv=true∧R rv 0 H' r0 C D∧NewM H H' C D)
  (hE:∀ H,Gives (cw Tryz.prog (tabF tab) om1 30 [.string (nm k)] H) fun v H'=>∃ wv C D,v=.tuple ⟨[wv,.int .i64 0]⟩∧one wv=true∧M wv 0 H' st0 C D∧NewM H H' C D)
  (hx:Nums H .u8 x xs) (hxb:∀ u∈xs,0≤u∧u<256) (hxl:xs.length≤900) :
  Gives (cw Tryz.prog (tabF tab) om1 8 [.string (nm k),.string (nm k),.int .i64 0,x] H) fun v H'=>Ext H H'∧∃ ow,v=.tuple ⟨[ow,fvF (saF 0 rs rf ws wf xs r0 st0).2,.int .i64 0]⟩∧OwnB H' ow (saF 0 rs rf ws wf xs r0 st0).1∧From H.n ow:=by
 obtain ⟨v,H2,c2,rfl,rv,wv,C,D,C',D',hM⟩:=c_Open (f:=nm k) (t:=nm k) (pol:=0) (H:=H.push ⟨[.int .i64 0,.int .i64 0,.int .i64 0],27,.tip,0,[]⟩) (R:=R) (M:=M) hr hm (by omega) (fun H=>c_Name hk) (fun H=>c_Name hk) hD hE
 rw[AHeap.n_push] at c2 hM
 obtain ⟨v,H',c,h1,_,h3⟩:=c_SAll (hr rv) (hrg rv) (hm wv) (hg wv) (by omega) (by omega) (by omega) hx hxb c2 hM
 exact ⟨v,H',c,h1,h3⟩
end
def nF (k:Nat) (xs:List Int):List Int × FT:=if k=0 then saF 0 rbS rbF wrS wfS xs ([],0) 0 else if k=7 then saF 0 rsI rfI jeS jeF xs (([],0,0),0) ((([],0,0),[]),0,0) else saF 0 (rdS (rulK k)) (rdF (rulK k)) (esS (rulK k)) (efS (rulK k)) xs ([],0,0) (([],0,0),[])
theorem c_OnK {k:Nat} {H:AHeap} {x:Value} {xs:List Int} (hk:k<8) (hx:Nums H .u8 x xs) (hxb:∀ u∈xs,0≤u∧u<256) (hxl:xs.length≤900) :
  Gives (cw Tryz.prog (tabF tab) om1 8 [.string (nm k),.string (nm k),.int .i64 0,x] H) fun v H'=>Ext H H'∧∃ ow,v=.tuple ⟨[ow,fvF (nF k xs).2,.int .i64 0]⟩∧OwnB H' ow (nF k xs).1∧From H.n ow:=by
 unfold nF
 by_cases h0:k=0
 ·subst h0
  rw[if_pos rfl]
  exact c_OnU (R:=RdB) (M:=WrM) hk (fun v=>mc_B) (fun v=>rg_B) (fun v=>mc_S) (fun v=>wg_S) (fun H=>mk_B) (fun H=>mk_S) hx hxb hxl
 rw[if_neg h0]
 by_cases h7:k=7
 ·subst h7
  rw[if_pos rfl]
  exact c_OnU (R:=RdI) (M:=WrJ) hk (fun v=>mc_I) (fun v=>rg_I) (fun v=>mc_J) (fun v=>wg_J) (fun H=>mk_I) (fun H=>mk_J) hx hxb hxl
 ·rw[if_neg h7]
  obtain ⟨hR,hok⟩:=rulK_ok k (by omega) (by omega)
  exact c_OnU (R:=RdM (rulK k)) (M:=WrT (rulK k)) hk (fun v=>mc_T hR) (fun v=>rg_T hR hok) (fun v=>mc_E (trn_right hR)) (fun v=>wg_E (trn_right hR) (byL_of (rulK_by k (by omega) (by omega)))) (fun H=>mk_T hk h0 h7 fun H=>c_TabK k (by omega) (by omega) H) (fun H=>mk_E (by omega) (by omega)) hx hxb hxl
def okY (l:List Int):Prop:=∀ u∈l,0≤u∧u<256
theorem lp_utf:∀ (c:Nat) (w:List Int) (a:Int),okY w→whole (lpF c w a).1→w=ub (outs (lpF c w a).1)++(lpF c w a).2.1
 | 0,w,a,_,_=>by unfold lpF;rfl
 | c+1,w,a,hb,h=>by
  by_cases hne:w=[]
  ·have hL:lpF (c+1) w a=([],w,a):=by unfold lpF;rw[if_pos hne]
   rw[hL];rfl
  by_cases h2:(oneF w).2.2=2
  ·have hL:lpF (c+1) w a=([],w,a):=by unfold lpF;rw[if_neg hne,if_pos h2]
   rw[hL];rfl
  have hL:lpF (c+1) w a=(rtT a (oneF w).1 (oneF w).2.2 (oneF w).2.1.toNat :: (lpF c (w.drop (oneF w).2.1.toNat) (a+(oneF w).2.1)).1,(lpF c (w.drop (oneF w).2.1.toNat) (a+(oneF w).2.1)).2):=by
   conv=>lhs;unfold lpF
   rw[if_neg hne,if_neg h2]
  rw[hL] at h ⊢
  obtain ⟨e0,h3⟩:=whole_cons.1 h
  have e0:(oneF w).2.2=0:=e0
  obtain ⟨_,hs⟩:=one_sound hb e0
  have ih:=lp_utf c (w.drop (oneF w).2.1.toNat) (a+(oneF w).2.1) (fun u hu=>hb u (List.mem_of_mem_drop hu)) h3
  have eo:outs (rtT a (oneF w).1 (oneF w).2.2 (oneF w).2.1.toNat :: (lpF c (w.drop (oneF w).2.1.toNat) (a+(oneF w).2.1)).1)=(oneF w).1 :: outs (lpF c (w.drop (oneF w).2.1.toNat) (a+(oneF w).2.1)).1:=by
   unfold outs
   rw[List.flatMap_cons]
   unfold rtT
   simp only
   rw[if_pos e0]
   rfl
  simp only
  rw[eo,ub_cons,hs,List.append_assoc,← ih,List.take_append_drop]
theorem fd_utf:∀ (us:List Int) (st:BSt),okY st.1→okY us→whole (fdR rbS us st).1→st.1++us=ub (outs (fdR rbS us st).1)++(fdR rbS us st).2.1
 | [],st,_,_,_=>by rw[List.append_nil];rfl
 | u :: us,st,h1,h2,h=>by
  rw[fdR_cons] at h ⊢
  obtain ⟨w1,w2⟩:=whole_app.1 h
  have hw:okY (st.1++[u]):=fun x hx=>by
   rcases List.mem_append.1 hx with hx | hx
   ·exact h1 x hx
   ·rw[List.mem_singleton.1 hx];exact h2 u (List.mem_cons_self ..)
  have e1:=lp_utf (st.1.length+1) (st.1++[u]) st.2 hw w1
  obtain ⟨_,i2,_⟩:=lpF_inv (st.1.length+1) (st.1++[u]) st.2 (by simp) hw
  have e2:=fd_utf us (rbS st u).2 i2 (fun x hx=>h2 x (List.mem_cons_of_mem _ hx)) w2
  have e1:st.1++[u]=ub (outs (rbS st u).1)++(rbS st u).2.1:=e1
  simp only
  rw[outs_app,ub_app,List.append_assoc,← e2,← List.append_assoc,← e1,List.append_assoc]
  rfl
theorem dc_utf {xs:List Int} (hb:okY xs) (h:whole (dcT rbS rbF xs ([],0))):xs=ub (outs (dcT rbS rbF xs ([],0))):=by
 unfold dcT at h ⊢
 obtain ⟨w1,w2⟩:=whole_app.1 h
 have e:=fd_utf xs ([],0) (fun _ h=>(by cases h)) hb w1
 rw[List.nil_append] at e
 have hn:(fdR rbS xs ([],0)).2.1=[]:=by
  by_cases hn:(fdR rbS xs ([],0)).2.1=[]
  ·exact hn
  ·unfold rbF at w2
   rw[if_neg hn] at w2
   have:=w2 _ (List.mem_singleton.2 rfl)
   have e2:(2:Int)=0:=this
   exact absurd e2 (by decide)
 rw[hn,List.append_nil] at e
 unfold rbF
 rw[if_pos hn,List.append_nil]
 exact e
theorem fd_S:∀ (us:List Int) (a:Int),whole (fdR wrS us a).1∧outs (fdR wrS us a).1=ub us
 | [],a=>⟨whole_nil,rfl⟩
 | u :: us,a=>by
  obtain ⟨h1,h2⟩:=fd_S us (wrS a u).2
  rw[fdR_cons]
  refine ⟨whole_app.2 ⟨fun t ht=>?_,h1⟩,?_⟩
  ·rw[show (wrS a u).1=[⟨a,1,utfB u,0⟩] from rfl] at ht
   rw[List.mem_singleton.1 ht]
  ·simp only
   rw[outs_app,h2,ub_cons]
   unfold wrS outs
   rw[List.flatMap_cons,List.flatMap_nil,List.append_nil]
theorem dc_S (us:List Int):outs (dcT wrS wfS us 0)=ub us:=by
 unfold dcT wfS
 rw[List.append_nil]
 exact (fd_S us 0).2
theorem sF_whole:∀ {T:List Tok},whole T→sF T=(ub (outs T),(0,0,0))
 | [],_=>rfl
 | x :: T,h=>by
  obtain ⟨h1,h2⟩:=whole_cons.1 h
  have e:outs (x :: T)=x.out++outs T:=List.flatMap_cons ..
  rw[sF_ok h1,sF_whole h2,e,ub_app]
def hd0 (l:List Int):Int:=l.headD 0
def sglB (L:List Rl):Bool:=L.all fun r=>decide (r.1.length=1)&&decide (r.2.length=1)
def unqB (L:List Rl):Bool:=L.all fun r=>L.all fun q=>if hd0 q.2=hd0 r.2 then decide (hd0 q.1=hd0 r.1) else true
theorem sgl_back {L:List Rl} (h1:sglB L=true) (h2:unqB L=true):∀ {P Q:List Rl},(∀ x∈P,x∈L)→(∀ x∈Q,x∈L)→P.flatMap (·.2)=Q.flatMap (·.2)→P.flatMap (·.1)=Q.flatMap (·.1):=by
 have sg:∀ r∈L,∃ a b,r=([a],[b]):=fun r hr=>by
  have:=List.all_eq_true.1 h1 r hr
  rw[Bool.and_eq_true,decide_eq_true_eq,decide_eq_true_eq] at this
  obtain ⟨a,ha⟩:=List.length_eq_one_iff.1 this.1
  obtain ⟨b,hb⟩:=List.length_eq_one_iff.1 this.2
  exact ⟨a,b,Prod.ext ha hb⟩
 intro P
 induction P with
 | nil=>
  intro Q _ hQ e
  cases Q with
  | nil=>rfl
  | cons q Q=>
   obtain ⟨a,b,rfl⟩:=sg q (hQ q (List.mem_cons_self ..))
   rw[List.flatMap_cons] at e
   cases e
 | cons p P ih=>
  intro Q hP hQ e
  obtain ⟨a,b,rfl⟩:=sg p (hP p (List.mem_cons_self ..))
  cases Q with
  | nil=>
   rw[List.flatMap_cons] at e
   cases e
  | cons q Q=>
   obtain ⟨c,d,rfl⟩:=sg q (hQ q (List.mem_cons_self ..))
   rw[List.flatMap_cons,List.flatMap_cons] at e
   have e:b :: P.flatMap (·.2)=d :: Q.flatMap (·.2):=e
   injection e with e1 e2
   subst e1
   have hu:=List.all_eq_true.1 (List.all_eq_true.1 h2 _ (hP _ (List.mem_cons_self ..))) _ (hQ _ (List.mem_cons_self ..))
   unfold hd0 at hu
   simp only[List.headD_cons,if_true] at hu
   have hu:=of_decide_eq_true hu
   subst hu
   rw[List.flatMap_cons,List.flatMap_cons,ih (fun x hx=>hP x (List.mem_cons_of_mem _ hx)) (fun x hx=>hQ x (List.mem_cons_of_mem _ hx)) e2]
def len2B (L:List Rl):Bool:=L.all fun r=>decide (r.2.length≤2*r.1.length)&&decide (r.1.length≤2*r.2.length)
theorem len2 {L:List Rl} (h:len2B L=true):∀ {P:List Rl},(∀ x∈P,x∈L)→(P.flatMap (·.2)).length≤2*(P.flatMap (·.1)).length∧(P.flatMap (·.1)).length≤2*(P.flatMap (·.2)).length
 | [],_=>⟨Nat.le_refl _,Nat.le_refl _⟩
 | r :: P,hP=>by
  obtain ⟨a,b⟩:=len2 h (P:=P) fun x hx=>hP x (List.mem_cons_of_mem _ hx)
  have:=List.all_eq_true.1 h r (hP r (List.mem_cons_self ..))
  rw[Bool.and_eq_true,decide_eq_true_eq,decide_eq_true_eq] at this
  rw[List.flatMap_cons,List.flatMap_cons,List.length_append,List.length_append]
  omega
theorem okY_flat {L:List Rl} (h:byL L=true) {P:List Rl} (hP:∀ x∈P,x∈L):okY (P.flatMap (·.1)):=fun u hu=>by
 obtain ⟨r,hr,hu⟩:=List.mem_flatMap.1 hu
 exact byL_of h r (hP r hr) u hu
theorem rulK_len:∀ k,1≤k→k≤6→len2B (rulK k)=true
 | 1,_,_=>by kernel_rfl
 | 2,_,_=>by kernel_rfl
 | 3,_,_=>by kernel_rfl
 | 4,_,_=>by kernel_rfl
 | 5,_,_=>by kernel_rfl
 | 6,_,_=>by kernel_rfl
 | 0,h,_=>by omega
 | k+7,_,h=>by omega
theorem rulK_sgl:∀ k,1≤k→k≤6→(k=4∨k>5)∨(sglB (rulK k)=true∧unqB (rulK k)=true)
 | 1,_,_=>.inr ⟨by kernel_rfl,by kernel_rfl⟩
 | 2,_,_=>.inr ⟨by kernel_rfl,by kernel_rfl⟩
 | 3,_,_=>.inr ⟨by kernel_rfl,by kernel_rfl⟩
 | 4,_,_=>.inl (.inl rfl)
 | 5,_,_=>.inr ⟨by kernel_rfl,by kernel_rfl⟩
 | 6,_,_=>.inl (.inr (by omega))
 | 0,h,_=>by omega
 | k+7,_,h=>by omega
theorem rulK_cls:∀ k,1≤k→k≤6→clsF (rulK k) (rulK k)=true
 | 1,_,_=>ascR_cls
 | 2,_,_=>RVis_cls
 | 3,_,_=>Rtcvn_cls
 | 4,_,_=>Rvni_cls
 | 5,_,_=>Rtis_cls
 | 6,_,_=>Rtam_cls
 | 0,h,_=>by omega
 | k+7,_,h=>by omega
theorem Rind_le:(Rind.all fun r=>decide (r.2.length≤r.1.length)&&decide (r.1.length≤2*r.2.length))=true:=by kernel_rfl
theorem lenI:∀ {P:List Rl},(∀ x∈P,x∈Rind)→(P.flatMap (·.2)).length≤(P.flatMap (·.1)).length∧(P.flatMap (·.1)).length≤2*(P.flatMap (·.2)).length
 | [],_=>⟨Nat.le_refl _,Nat.le_refl _⟩
 | r :: P,hP=>by
  obtain ⟨a,b⟩:=lenI (P:=P) fun x hx=>hP x (List.mem_cons_of_mem _ hx)
  have:=List.all_eq_true.1 Rind_le r (hP r (List.mem_cons_self ..))
  rw[Bool.and_eq_true,decide_eq_true_eq,decide_eq_true_eq] at this
  rw[List.flatMap_cons,List.flatMap_cons,List.length_append,List.length_append]
  omega
theorem inn_len:∀ (us:List Int) (scr:Int),(innU scr us).length≤2*us.length
 | [],scr=>Nat.le_refl _
 | u :: us,scr=>by
  have h:=fun s=>inn_len us s
  unfold innU
  split
  ·have:=h ((u - 2304) / 128);simp only[List.length_cons];omega
  ·have:=h scr;simp only[List.length_cons];omega
theorem mnU_le:∀ (us:List Int) (scr:Int),(mnU scr [] us).1.length≤us.length
 | [],scr=>Nat.le_refl _
 | u :: us,scr=>by
  rw[mnU_cons]
  split
  ·rw[mnU_acc];have:=mnU_le us scr;simp only[List.length_append,List.length_cons,List.nil_append,List.length_nil];omega
  split
  ·have:=mnU_le us (u - 4096);simp only[List.length_cons];omega
  ·rw[mnU_acc];have:=mnU_le us scr;simp only[List.length_append,List.length_cons,List.nil_append,List.length_nil];omega
structure NL (k:Nat) (xs y:List Int):Prop where
 b:okY y
 l:y.length≤4*xs.length
 n:nF k y=(y,(0,0,0))
 g:gF 0 (dcK k y)=gF 0 (dcK k xs)
 z:(gF 0 (dcK k xs)).2.2.2=0
 s:(k=4∨k>5)∨y=xs
theorem core {ρ τ:Type} {rs:ρ→Int→List Tok × ρ} {rf:ρ→List Tok × ρ} {ws:τ→Int→List Tok × τ} {wf:τ→List Tok × τ} {xs y:List Int} {r:ρ} {st:τ} (hy:y=outs (dcT ws wf (outs (dcT rs rf xs r)) st)) (h1:whole (dcT rs rf xs r)) (h2:whole (dcT ws wf (outs (dcT rs rf xs r)) st)) (h3:whole (dcT rs rf y r)) (h4:outs (dcT rs rf y r)=outs (dcT rs rf xs r)):saF 0 rs rf ws wf xs r st=(y,(0,0,0))∧saF 0 rs rf ws wf y r st=(y,(0,0,0))∧sF (dcT rs rf y r)=sF (dcT rs rf xs r)∧(sF (dcT rs rf xs r)).2.2.2=0:=by
 refine ⟨by rw[(sa_0 xs r st).1 h1 h2,hy],?_,by rw[sF_whole h1,sF_whole h3,h4],by rw[sF_whole h1]⟩
 have e:=(sa_0 (ws:=ws) (wf:=wf) y r st).1 h3 (by rw[h4];exact h2)
 rw[e,h4,hy]
theorem nF_law {k:Nat} {xs:List Int} (hk:k<8) (hb:okY xs) (h:(nF k xs).2.2.2=0):NL k xs (nF k xs).1:=by
 have gk:∀ T,gF 0 T=sF T:=fun T=>by unfold gF;rw[if_pos rfl]
 by_cases h0:k=0
 ·have en:∀ zs,nF k zs=saF 0 rbS rbF wrS wfS zs ([],0) 0:=fun zs=>by unfold nF;rw[if_pos h0]
  have ed:∀ zs,dcK k zs=dcT rbS rbF zs ([],0):=fun zs=>by unfold dcK;rw[if_pos h0]
  rw[en] at h ⊢
  obtain ⟨w1,w2⟩:=(sa_0 xs ([],0) 0).2 h
  have hy:xs=outs (dcT wrS wfS (outs (dcT rbS rbF xs ([],0))) 0):=by rw[dc_S];exact dc_utf hb w1
  obtain ⟨c1,c2,c3,c4⟩:=core hy w1 w2 w1 rfl
  rw[c1]
  exact ⟨hb,by simp only;omega,by rw[en,c2],rfl,by rw[gk,ed];exact c4,.inr rfl⟩
 by_cases h7:k=7
 ·have en:∀ zs,nF k zs=saF 0 rsI rfI jeS jeF zs (([],0,0),0) ((([],0,0),[]),0,0):=fun zs=>by unfold nF;rw[if_neg h0,if_pos h7]
  have ed:∀ zs,dcK k zs=dcT rsI rfI zs (([],0,0),0):=fun zs=>by unfold dcK;rw[if_neg h0,if_pos h7]
  have hok:=fun x hx=>((dcK_ok hk hb).1 x hx).2.2.2
  rw[ed] at hok
  rw[en] at h ⊢
  obtain ⟨w1,w2⟩:=(sa_0 xs (([],0,0),0) ((([],0,0),[]),0,0)).2 h
  have hu:∀ u∈outs (dcT rsI rfI xs (([],0,0),0)),okS u:=fun u hu=>by
   obtain ⟨t,ht,hu⟩:=List.mem_flatMap.1 hu
   exact hok t ht (w1 t ht) u hu
  obtain ⟨b1,b2⟩:=back_I hu w2
  obtain ⟨P,p1,p2,p3,p4⟩:=isc_rules _ [] 0 0 0 0 w2
  have p3:P.flatMap (·.1)=outs (dcT jeS jeF (outs (dcT rsI rfI xs (([],0,0),0))) ((([],0,0),[]),0,0)):=p3
  rw[List.nil_append] at p4
  obtain ⟨c1,c2,c3,c4⟩:=core rfl w1 w2 b1 b2
  have l1:=(lenI p1).2
  rw[p3,p4] at l1
  have l2:=inn_len (outs (dcT rsI rfI xs (([],0,0),0))) 0
  have l3:(outs (dcT rsI rfI xs (([],0,0),0))).length≤xs.length:=by
   have w1':=w1
   rw[dc_I,mnT_whole] at w1'
   obtain ⟨Q,q1,q2,q3⟩:=whole_rules Rind_right xs.length xs 0 (Nat.le_refl _) w1'
   have e9:outs (allU Rind xs 0)=Q.flatMap (·.2):=by unfold outs;rw[List.flatMap_def,List.flatMap_def,q3]
   rw[dc_I,(mnT_outs _ _).1,e9]
   have:=mnU_le (Q.flatMap (·.2)) 0
   have:=(lenI q1).1
   rw[q2] at this
   omega
  rw[c1]
  exact ⟨by simp only;rw[← p3];exact okY_flat (show byL Rind=true from Rind_by) p1,by simp only;omega,by rw[en,c2],by rw[gk,gk,ed,ed];exact c3,by rw[gk,ed];exact c4,.inl (.inr (by omega))⟩
 ·have hk1:1≤k:=by omega
  have hk6:k≤6:=by omega
  obtain ⟨hR,_⟩:=rulK_ok k hk1 hk6
  have hl:=rulK_len k hk1 hk6
  have hby:=rulK_by k hk1 hk6
  have hs:=rulK_sgl k hk1 hk6
  have hc:=rulK_cls k hk1 hk6
  have en:∀ zs,nF k zs=saF 0 (rdS (rulK k)) (rdF (rulK k)) (esS (rulK k)) (efS (rulK k)) zs ([],0,0) (([],0,0),[]):=fun zs=>by unfold nF;rw[if_neg h0,if_neg h7]
  have ed:∀ zs,dcK k zs=dcT (rdS (rulK k)) (rdF (rulK k)) zs ([],0,0):=fun zs=>by unfold dcK;rw[if_neg h0,if_neg h7]
  revert hR hl hby hs hc en ed
  generalize rulK k=L
  intro hR hl hby hs hc en ed
  rw[en] at h ⊢
  obtain ⟨w1,w2⟩:=(sa_0 xs ([],0,0) (([],0,0),[])).2 h
  obtain ⟨b1,b2⟩:=back_T hR hc w2
  have w2':=w2
  rw[dc_E (trn_right hR)] at w2'
  obtain ⟨P,p1,p2,p3,p4⟩:=enc_rules hR w2'
  rw[← dc_E (trn_right hR) _ 0 0] at p3
  obtain ⟨c1,c2,c3,c4⟩:=core rfl w1 w2 b1 b2
  have w1':=w1
  rw[dc_R hR] at w1'
  obtain ⟨Q,q1,q2,q3⟩:=whole_rules hR xs.length xs 0 (Nat.le_refl _) w1'
  have e9:outs (dcT (rdS L) (rdF L) xs ([],0,0))=Q.flatMap (·.2):=by rw[dc_R hR];unfold outs;rw[List.flatMap_def,List.flatMap_def,q3]
  have l1:=(len2 hl p1).2
  have l2:=(len2 hl q1).1
  rw[c1]
  refine ⟨by simp only;rw[← p3];exact okY_flat hby p1,?_,by rw[en,c2],by rw[gk,gk,ed,ed];exact c3,by rw[gk,ed];exact c4,hs.imp id fun ⟨s1,s2⟩=>?_⟩
  ·simp only
   rw[p3,p4] at l1
   rw[q2] at l2
   have e9l:=congrArg List.length e9
   omega
  ·simp only
   rw[← p3,← q2]
   exact sgl_back s1 s2 p1 q1 (by rw[p4,e9])
theorem eq_any (s t:ByteArray):∃ b,binV2 .eql 9 (.string s) (.string t)=some (.bool b):=⟨s.toList == t.toList,rfl⟩
theorem l_T0 {s:ByteArray} {l b x:Value} {odd:Int} {H:AHeap} (hx:Sl H 1 x 8 nmL):∀ (c i k:Nat),i+c=8→k<8 →
  Out (run Tryz.prog (tabF tab) om1 (.loop [0,1,2,3,9,19,20,21] b_lontarlaw20_Text_0) [(0,.string s),(1,l),(2,b),(3,.int .u8 odd),(9,.int .i64 k),(19,x),(20,.int .i64 8),(21,.int .i64 i)] H) fun y e' H'=>y=.exit 0∧eget e' 0=.string s∧eget e' 1=l∧eget e' 2=b∧eget e' 3=.int .u8 odd∧(∃ k:Nat,k<8∧eget e' 9=.int .i64 k)∧H'=H:=by
 intro c
 induction c with
 | zero=>
  intro i k hi hk
  obtain rfl:i=8:=by omega
  have hlt:(((8:Nat):Int)<8)=False:=by simp
  rw[w_loop_b b_lontarlaw20_Text_0.eq_1]
  simp only[WA,Nat.reduceEqDiff,reduceCtorEq,Int.reduceLT,Int.cast_ofNat_Int]
  exact ⟨k,hk,rfl⟩
 | succ c ih=>
  intro i k hi hk
  have hi8:i<8:=by omega
  have hlt:((i:Int)<8)=True:=eq_true (by omega)
  have hw2:IntKind.i64.wrap ((i:Int)+1)=((i+1:Nat):Int):=by rw[wrap64 (by omega) (by omega)];omega
  obtain ⟨j,o,a1,a2,_⟩:=Sl.at hx hi8
  have ld:gotLoad (H.get j) o none H=some (.string (nm i),H):=a2 0 _ (by omega) (by rw[Nat.mul_one,Nat.add_zero];exact nmL_at hi8)
  obtain ⟨q,hq⟩:=eq_any (nm i) s
  rw[w_loop_b b_lontarlaw20_Text_0.eq_1]
  cases q with
  | true=>
   obtain ⟨y,e',H',r1,r2⟩:=ih (i+1) i (by omega) hi8
   simp only[WA,Nat.reduceEqDiff,reduceCtorEq,hlt,a1,ld,st_bin2,hq,hw2]
   rw[w_enter]
   simp only[WA,Nat.reduceEqDiff,reduceCtorEq,r1]
   exact r2
  | false=>
   obtain ⟨y,e',H',r1,r2⟩:=ih (i+1) k (by omega) hk
   simp only[WA,Nat.reduceEqDiff,reduceCtorEq,hlt,a1,ld,st_bin2,hq,hw2]
   rw[w_enter]
   simp only[WA,Nat.reduceEqDiff,reduceCtorEq,r1]
   exact r2
structure TB (B H:AHeap) (out:Value) (m:List Int):Prop where
 o:OwnB H out m
 f:From B.n out
 e:Ext B H
 k:okY m
theorem TB.more {B H:AHeap} {out:Value} {m:List Int} {u:Int} (h:TB B H out m) (hu:0≤u∧u<256) (hl:m.length<1000):∃ H1 v' H2,vBslice 5 1 1 [.int .u8 0] [(0,1,.int .u8 u)] H=some (.slice (some ⟨H.n,0,none⟩) 1 2,H1)∧appendA H1 out (.slice (some ⟨H.n,0,none⟩) 1 2) 5 1 1=some (v',H2)∧TB B H2 v' (m++[u]):=by
 obtain ⟨H1,v1,x1,i1⟩:=v_u1 (H:=H) (a:=u)
 obtain ⟨v',H2,m1,m2,m3,m4,m5⟩:=OwnB.add (Own.ext x1 h.o) i1 (by simp) (by simp;omega)
 have xn:=h.e.1
 have x1n:=x1.1
 refine ⟨H1,v',H2,v1,m1,m2,m3.mono (by omega),⟨by omega,fun j hj=>by rw[m5 j (by omega) (NotAt.of_from h.f hj),x1.2 j (by omega),h.e.2 j hj]⟩,fun y hy=>?_⟩
 rcases List.mem_append.1 hy with hy | hy
 ·exact h.k y hy
 ·rw[List.mem_singleton.1 hy];exact hu
theorem w8r (u:Int):0≤IntKind.u8.wrap u∧IntKind.u8.wrap u<256:=by
 have e:IntKind.u8.wrap u=u % 256:=rfl
 omega
def PTB (B:AHeap) (n:Nat) (y:AEx) (e':Env) (H':AHeap):Prop:=y=.exit 2∧∃ m,m.length≤n∧TB B H' (eget e' 16) m
theorem l_T1 {B:AHeap} {b x:Value} {bs us:List Int} {odd:Int} (ho:0≤odd∧odd<256) (hb:Nums B .u8 b bs) (hbb:okY bs) (hx:Ints B x us) (hul:us.length≤100):∀ (c i:Nat) (H:AHeap) (out:Value) (m:List Int),i+c=us.length→m.length≤2*i→TB B H out m →
  Out (run Tryz.prog (tabF tab) om1 (.loop [2,3,16,59,60,61] b_lontarlaw20_Text_1) [(2,b),(3,.int .u8 odd),(16,out),(59,x),(60,.int .i64 us.length),(61,.int .i64 i)] H) (PTB B (2*us.length)):=by
 have hq:intOp .rem .u8 odd 3=some (.int .u8 (odd % 3)):=by rw[int_rem (by decide),Int.tmod_eq_emod_of_nonneg (by omega)]
 have lb:=fun H9=>Nums.len (H2:=H9) hb
 intro c
 induction c with
 | zero=>
  intro i H out m hi hm h
  obtain rfl:i=us.length:=by omega
  have hlt:(((us.length:Nat):Int)<(us.length:Nat))=False:=by simp
  rw[w_loop_b b_lontarlaw20_Text_1.eq_1]
  simp only[WA,Nat.reduceEqDiff,hlt]
  exact ⟨rfl,m,hm,h⟩
 | succ c ih=>
  intro i H out m hi hm h
  have hlt:((i:Int)<(us.length:Nat))=True:=eq_true (by omega)
  obtain ⟨u,hu,hd⟩:=drop_at (L:=us) (i:=i) (by omega)
  obtain ⟨i1,o1,h1,h2⟩:=(hx.ext h.e).at hu
  have hw2:IntKind.i64.wrap ((i:Int)+1)=((i+1:Nat):Int):=by rw[wrap64 (by omega) (by omega)];omega
  obtain ⟨H1,v1,H2,m1,m2,h3⟩:=h.more (w8r u) (by omega)
  have hl3:(m++[IntKind.u8.wrap u]).length=m.length+1:=by simp
  rw[w_loop_b b_lontarlaw20_Text_1.eq_1]
  by_cases g1:odd % 3=1
  ·by_cases g2:i<bs.length
   ·have g2':((i:Int)<(bs.length:Nat))=True:=eq_true (by omega)
    obtain ⟨d,hd2,_⟩:=drop_at (L:=bs) (i:=i) g2
    obtain ⟨d0,d1⟩:=hbb d (List.mem_of_getElem? hd2)
    obtain ⟨i2,o2,h4,h5⟩:=(hb.ext h3.e).at hd2
    by_cases g3:d<20
    ·have hw:IntKind.u8.wrap (d*12)=d*12:=wrap8 (by omega) (by omega)
     obtain ⟨H4,v4,H5,m4,m5,h6⟩:=h3.more (u:=d*12) ⟨by omega,by omega⟩ (by omega)
     obtain ⟨y,e',H',r1,r2⟩:=ih (i+1) H5 v4 _ (by omega) (by rw[List.length_append,List.length_singleton];omega) h6
     simp only[WA,Nat.reduceEqDiff,hlt,h1,h2,m1,m2,hq,g1,lb,g2',h4,h5,g3,hw,m4,m5,hw2]
     rw[w_enter]
     simp only[WA,Nat.reduceEqDiff,r1]
     exact r2
    ·obtain ⟨y,e',H',r1,r2⟩:=ih (i+1) H2 v1 _ (by omega) (by omega) h3
     simp only[WA,Nat.reduceEqDiff,hlt,h1,h2,m1,m2,hq,g1,lb,g2',h4,h5,g3,hw2]
     rw[w_enter]
     simp only[WA,Nat.reduceEqDiff,r1]
     exact r2
   ·have g2':((i:Int)<(bs.length:Nat))=False:=eq_false (by omega)
    obtain ⟨y,e',H',r1,r2⟩:=ih (i+1) H2 v1 _ (by omega) (by omega) h3
    simp only[WA,Nat.reduceEqDiff,hlt,h1,h2,m1,m2,hq,g1,lb,g2',hw2]
    rw[w_enter]
    simp only[WA,Nat.reduceEqDiff,r1]
    exact r2
  ·obtain ⟨y,e',H',r1,r2⟩:=ih (i+1) H2 v1 _ (by omega) (by omega) h3
   simp only[WA,Nat.reduceEqDiff,hlt,h1,h2,m1,m2,hq,g1,hw2]
   rw[w_enter]
   simp only[WA,Nat.reduceEqDiff,r1]
   exact r2
theorem cutI {H:AHeap} {a:Value} {l:List Int} {n:Nat} (ha:Ints H a l) (hc:Cut Tryz.prog H a 1):∃ a' k,(if (n:Int)<(l.length:Int) then (n:Int) else (l.length:Int))=((k:Nat):Int)∧(∀ kd:IntKind,vSlice (P:=Tryz.prog) a none (some (.int kd k)) 1 H=some (a',H))∧Ints H a' (l.take n)∧(l.take n).length=k∧k≤n:=by
 obtain ⟨k,hk⟩:∃ k:Nat,k=min l.length n:=⟨_,rfl⟩
 obtain ⟨a',h1,h2,_⟩:=Sl.take ha hc (show k≤l.length by omega)
 have e:l.take k=l.take n:=by
  rw[hk]
  rcases Nat.le_total l.length n with h | h
  ·rw[Nat.min_eq_left h,List.take_of_length_le h,List.take_length]
  ·rw[Nat.min_eq_right h]
 refine ⟨a',k,by split <;> omega,h1,?_,by rw[List.length_take];omega,by omega⟩
 rw[← e]
 unfold Ints
 rw[List.length_take,Nat.min_eq_left (by omega)]
 simpa[ints,List.map_take] using h2
def TxP (H H':AHeap) (v:Value):Prop:=Ext H H'∧∃ m,m.length≤200∧okY m∧Nums H' .u8 v m∧Cut Tryz.prog H' v 1
section
variable {τ:Type} {M:Value→Nat→AHeap→τ→NS→NS→Prop} {ws:τ→Int→List Tok × τ} {wf:τ→List Tok × τ} {st0:τ}
theorem c_TextU {k:Nat} {H:AHeap} {l b:Value} {ls bs:List Int} {odd:Int} (ho:0≤odd∧odd<256) (hm:∀ v,Mc (M v) v ws wf okS 200000) (hg:∀ v,Wg (M v) ws wf okS)
  (hp:∀ v H st C D,M v 0 H st C D→(∃ t p,v=.iface t p)∧∃ K:NS,Mp (M v) v ws wf okS 200000 K∧∀ j,K j→j<H.n)
  (hE:∀ H,Gives (cw Tryz.prog (tabF tab) om1 30 [.string (nm k)] H) fun v H'=>∃ wv C D,v=.tuple ⟨[wv,.int .i64 0]⟩∧one wv=true∧M wv 0 H' st0 C D∧NewM H H' C D)
  (hl:Nums H .u8 l ls) (hlc:Cut Tryz.prog H l 1) (hlb:okY ls) (hb:Nums H .u8 b bs) (hbc:Cut Tryz.prog H b 1) (hbb:okY bs) :
  Gives (cw Tryz.prog (tabF tab) om1 12 [.string (nm k),l,b,.int .u8 odd] H) fun v H'=>TxP H H' v:=by
 rw[cw_run (F:=F_lontarlaw20_Text) rfl rfl rfl]
 unfold F_lontarlaw20_Text k_lontarlaw20_Text
 obtain ⟨H1,hH1⟩:∃ H1,H1=H.push ⟨nmL,9,.tip,0,[]⟩:=⟨_,rfl⟩
 have x1:Ext H H1:=by rw[hH1];exact Ext.push H _
 have c1:=c_Names H
 rw[← hH1] at c1
 have hs:Sl H1 1 (.slice (some ⟨H.n,0,none⟩) 8 9) 8 nmL:=by rw[hH1];exact Sl.new (n:=8) (c:=9) get_push_self mem_tip rfl
 have hls:=fun H9=>Sl.len (H2:=H9) hs
 have z8:((8:Nat):Int)=8:=rfl
 rw[z8] at hls
 obtain ⟨y,e',H9,r1,rfl,e0,e1,e2,e3,⟨k9,hk9,e9⟩,rfl⟩:=l_T0 (s:=nm k) (l:=l) (b:=b) (odd:=odd) hs 8 0 0 rfl (by decide)
 rw[show ((0:Nat):Int)=0 from rfl] at r1
 have hq:intOp .rem .u8 odd 3=some (.int .u8 (odd % 3)):=by rw[int_rem (by decide),Int.tmod_eq_emod_of_nonneg (by omega)]
 have hb1:=hb.ext x1
 have lb:=fun H9=>Nums.len (H2:=H9) hb
 by_cases g:odd % 3=0
 ·obtain ⟨a',n,hmin,s1,s2,hn,hn60⟩:=cut60 (n:=60) hb1 (hbc.ext x1)
  simp only[Int.cast_ofNat_Int] at hmin
  have s1':=s1 .i64
  have hcut:Cut Tryz.prog H9 a' 1:=by
   obtain ⟨v9,g1,_,g3⟩:=Sl.take (k:=n) hb1 (hbc.ext x1) (by rw[List.length_take] at hn;omega)
   have:=(g1 .i64).symm.trans s1'
   injection this with this
   injection this with this _
   rw[← this]
   exact g3
  simp only[WA,Nat.reduceEqDiff,reduceCtorEq,c1,hls]
  rw[w_enter]
  simp only[WA,Nat.reduceEqDiff,reduceCtorEq,r1,e2,e3,hq,g,lb,hmin,s1']
  exact ⟨x1,_,by omega,bytes_take hbb,s2,hcut⟩
 ·obtain ⟨w,H2,c2,wv,C,D,rfl,_,hM,hN⟩:=hE H9
  obtain ⟨⟨t,p,hwv⟩,K,hK,hKn⟩:=hp _ _ _ _ _ hM
  have x2:=hN.ext
  have x12:=x1.trans x2
  obtain ⟨us,H3,c3,x3,m,m60,mok,mi,mc,mf⟩:=c_Sc hk9 (hl.ext x12) (hlc.ext x12) hlb
  have hM3:=(hm wv).keep hM x3.1 fun j hj=>x3.2 j ((hm wv).lt hM hj)
  obtain ⟨tv,H4,c4,x4,T,hT,hTl⟩:=c_MA (hm wv) hK (hg wv) mok (by omega) (by omega) (HB:=H9) hM3 mi (fun _=>⟨mc,fun j hj=>NotAt.of_from mf (hKn j hj)⟩) (fun j hj=>by have:=hKn j hj;have:=x3.1;omega) (x2.trans x3) (fun j hj=>(hN.c j hj).1)
  obtain ⟨v5,H5,c5,x5,vo,pb,cb,rfl,o5,f5⟩:=c_UW hT (by omega) (by omega)
  obtain ⟨H6,hH6⟩:∃ H6,H6=H5.push ⟨tokC pb cb (fstB tok0 T),36,.tip,1,[]⟩:=⟨_,rfl⟩
  have x6:Ext H5 H6:=by rw[hH6];exact Ext.push H5 _
  have o6:OwnI H6 vo (outs T):=Own.ext x6 o5
  have lo:=fun H9=>Sl.len (H2:=H9) o6.asI
  obtain ⟨a',n,hmin,s1,s2,hn,hn100⟩:=cutI (n:=100) o6.asI o6.cutI
  simp only[Int.cast_ofNat_Int] at hmin
  have s1':=s1 .i64
  have la:=fun H9=>Sl.len (H2:=H9) s2
  rw[hn] at la
  have x16:=x1.trans (x4.trans (x5.trans x6))
  obtain ⟨y,e7,H7,r7,rfl,mm,hmm,h7⟩:=l_T1 (B:=H6) (b:=b) (x:=a') ho (hb.ext x16) hbb s2 (by omega) ((outs T).take 100).length 0 H6 (.slice none 0 0) [] (by omega) (by simp) ⟨⟨rfl,.inl ⟨rfl,rfl⟩⟩,trivial,Ext.refl H6,fun _ h=>(by cases h)⟩
  rw[hn,show ((0:Nat):Int)=0 from rfl] at r7
  rw[hn] at hmm
  subst hwv
  have hnil:∀ H9,vIsNil 3 false (.iface t p) H9=some (.bool false,H9):=fun _=>rfl
  simp only[WA,Nat.reduceEqDiff,reduceCtorEq,c1,hls]
  rw[w_enter]
  simp only[WA,Nat.reduceEqDiff,reduceCtorEq,r1,e0,e1,e3,e9,hq,g,c2,hnil,c3,c4,c5,got_tok,← hH6,lo,hmin,s1',la]
  rw[w_enter]
  simp only[WA,Nat.reduceEqDiff,e2,e3,r7]
  exact ⟨x16.trans h7.e,mm,by omega,h7.k,h7.o.sl,Own.cut h7.o (by kernel_rfl)⟩
end
theorem c_Text {k:Nat} (hk:k<8) {H:AHeap} {l b:Value} {ls bs:List Int} {odd:Int} (ho:0≤odd∧odd<256) (hl:Nums H .u8 l ls) (hlc:Cut Tryz.prog H l 1) (hlb:okY ls) (hb:Nums H .u8 b bs) (hbc:Cut Tryz.prog H b 1) (hbb:okY bs) :
  Gives (cw Tryz.prog (tabF tab) om1 12 [.string (nm k),l,b,.int .u8 odd] H) fun v H'=>TxP H H' v:=by
 by_cases h0:k=0
 ·subst h0
  exact c_TextU (M:=WrM) ho (fun v=>mc_S) (fun v=>wg_S) (fun v H st C D h=>by
   obtain ⟨sc,ver,hv,hg,_⟩:=h
   refine ⟨⟨_,_,hv⟩,_,mp_S,fun j hj=>?_⟩
   rw[hv] at hj
   injection hj with _ hj
   injection hj with hj
   injection hj with hj
   injection hj with hj
   rw[← hj]
   exact AHeap.lt_of_get hg) (fun H=>mk_S) hl hlc hlb hb hbc hbb
 by_cases h7:k=7
 ·subst h7
  exact c_TextU (M:=WrJ) ho (fun v=>mc_J) (fun v=>wg_J) (fun v H st C D h=>by
   obtain ⟨i,e,C0,D0,hv,_⟩:=h
   exact ⟨⟨_,_,hv⟩,_,mp_J,fun j hj=>absurd hj id⟩) (fun H=>mk_J) hl hlc hlb hb hbc hbb
 ·obtain ⟨hR,hok⟩:=rulK_ok k (by omega) (by omega)
  exact c_TextU (M:=WrT (rulK k)) ho (fun v=>mc_E (trn_right hR)) (fun v=>wg_E (trn_right hR) (byL_of (rulK_by k (by omega) (by omega)))) (fun v H st C D h=>by
   obtain ⟨e,hv,_⟩:=h
   exact ⟨⟨_,_,hv⟩,_,mp_E (trn_right hR),fun j hj=>absurd hj id⟩) (fun H=>mk_E (by omega) (by omega)) hl hlc hlb hb hbc hbb
theorem U8s.ext {H H':AHeap} {v:Value} {L:List Int} (h:U8s H v L) (hx:Ext H H'):U8s H' v L:=⟨Nums.ext hx h.1,h.2.1.ext hx,h.2.2⟩
set_option maxHeartbeats 1600000 in
theorem law_Normal {l b:Value} {ls bs:List Int} {n odd:Int} {H:AHeap} (hl:U8s H l ls) (hb:U8s H b bs) (hn:0≤n∧n<256) (ho:0≤odd∧odd<256):Gives (cw Tryz.prog (tabF tab) om1 4 [.int .u8 n,l,b,.int .u8 odd] H) fun v H'=>v=.bool true:=by
 rw[cw_run (F:=F_lontartop_TopNormal) rfl rfl rfl]
 unfold F_lontartop_TopNormal k_lontartop_TopNormal
 obtain ⟨hl1,hl2,hl3,_⟩:=hl
 obtain ⟨hb1,hb2,hb3,_⟩:=hb
 obtain ⟨K,hK⟩:∃ K,K=(n % 8).toNat:=⟨_,rfl⟩
 have hK8:K<8:=by omega
 have hq8:intOp .rem .u8 n 8=some (.int .u8 (n % 8)):=by rw[int_rem (by decide),Int.tmod_eq_emod_of_nonneg hn.1]
 obtain ⟨_,H1,c1,x1,rfl⟩:=c_awake (H:=H)
 obtain ⟨_,H2,c2,x2,rfl⟩:=c_nameT (H:=H1) hn
 rw[← hK] at c2
 have x12:=x1.trans x2
 obtain ⟨x,H3,c3,x3,xs,hxl,hxb,s3,_⟩:=c_Text hK8 ho (Nums.ext x12 hl1) (hl2.ext x12) hl3 (Nums.ext x12 hb1) (hb2.ext x12) hb3
 obtain ⟨_,H4,c4,x4,rfl⟩:=c_nameT (H:=H3) hn
 rw[← hK] at c4
 obtain ⟨_,H5,c5,x5,rfl⟩:=c_nameT (H:=H4) hn
 rw[← hK] at c5
 have x35:=x4.trans x5
 obtain ⟨_,H6,c6,x6,oy,rfl,hoy,_⟩:=c_OnK hK8 (Nums.ext x35 s3) hxb (by omega)
 have x36:=x35.trans x6
 have hlaw:=nF_law hK8 hxb
 obtain ⟨f,hf⟩:∃ f,(nF K xs).2=f:=⟨_,rfl⟩
 obtain ⟨y,hy⟩:∃ y,(nF K xs).1=y:=⟨_,rfl⟩
 rw[hf] at c6 hlaw
 rw[hy] at hoy hlaw
 obtain ⟨H7,hH7,x7,g7,st7⟩:=fl_new (H:=H6) (z:=f)
 have x37:=x36.trans x7
 by_cases hf0:f.2.2=0
 ·obtain ⟨yb,yl,yn,yg,yz,ys⟩:=hlaw hf0
  have zf:(f.2.2≠0)=False:=eq_false (fun h=>h hf0)
  have hoy7:=Own.ext x7 hoy
  obtain ⟨_,H8,c8,x8,rfl⟩:=c_nameT (H:=H7) hn
  rw[← hK] at c8
  obtain ⟨_,H9,c9,x9,rfl⟩:=c_nameT (H:=H8) hn
  rw[← hK] at c9
  have x79:=x8.trans x9
  obtain ⟨_,H10,c10,x10,oz,rfl,hoz,_⟩:=c_OnK hK8 (Nums.ext x79 hoy7.sl) yb (by omega)
  rw[yn] at c10 hoz
  obtain ⟨H11,hH11,x11,g11,st11⟩:=fl_new (H:=H10) (z:=(0,0,0))
  have x7b:=x79.trans (x10.trans x11)
  obtain ⟨_,H12,c12,x12',rfl⟩:=c_nameT (H:=H11) hn
  rw[← hK] at c12
  obtain ⟨_,H13,c13,x13,_,os,rfl,hos,_⟩:=c_ToK (pol:=0) hK8 (by omega) (Nums.ext (x37.trans (x7b.trans x12')) s3) hxb (by omega)
  obtain ⟨S,hS⟩:∃ S,gF 0 (dcK K xs)=S:=⟨_,rfl⟩
  rw[hS] at c13 hos yg yz
  have c13:cw Tryz.prog (tabF tab) om1 8 [.string (nm K),.string ⟨#[117,116,102,45,56]⟩,.int .i64 0,x] H12=some (.tuple ⟨[os,fvF S.2,.int .i64 0]⟩,H13):=c13
  obtain ⟨H14,hH14,x14,g14,st14⟩:=fl_new (H:=H13) (z:=S.2)
  have x7e:=x7b.trans (x12'.trans (x13.trans x14))
  obtain ⟨_,H15,c15,x15,rfl⟩:=c_nameT (H:=H14) hn
  rw[← hK] at c15
  obtain ⟨_,H16,c16,x16,_,ot,rfl,hot,_⟩:=c_ToK (pol:=0) hK8 (by omega) (Nums.ext (x7e.trans x15) hoy7.sl) yb (by omega)
  rw[yg] at c16 hot
  have c16:cw Tryz.prog (tabF tab) om1 8 [.string (nm K),.string ⟨#[117,116,102,45,56]⟩,.int .i64 0,oy] H15=some (.tuple ⟨[ot,fvF S.2,.int .i64 0]⟩,H16):=c16
  obtain ⟨H17,hH17,x17,g17,st17⟩:=fl_new (H:=H16) (z:=S.2)
  have xeh:=x15.trans (x16.trans x17)
  have xbh:=x12'.trans (x13.trans (x14.trans xeh))
  have q11:=xbh.get g11
  have zs:(S.2.2.2=0)=True:=eq_true yz
  obtain ⟨sy,hsy⟩:=txt_any y ByteArray.empty
  obtain ⟨ss,hss⟩:=txt_any S.1 ByteArray.empty
  have ty:=txt_num (Nums.ext (x7e.trans xeh) hoy7.sl) hsy
  have tz:=txt_num (Nums.ext (x11.trans xbh) hoz.sl) hsy
  have ts:=txt_num (Nums.ext (x14.trans xeh) hos.sl) hss
  have tt:=txt_num (Nums.ext x17 hot.sl) hss
  simp only[WA,Nat.reduceEqDiff,reduceCtorEq,c1,c2,c3,c4,c5,c6,st7,← hH7,g7,zf]
  simp only[WA,Nat.reduceEqDiff,reduceCtorEq,c8,c9,c10,st11,← hH11]
  simp only[WA,Nat.reduceEqDiff,reduceCtorEq,c12,c13,st14,← hH14]
  simp only[WA,Nat.reduceEqDiff,reduceCtorEq,c15,c16,st17,← hH17]
  by_cases h4:n % 8=4
  ·have z4:(n % 8=4)=True:=eq_true h4
   simp only[WA,Nat.reduceEqDiff,reduceCtorEq,q11,g17,zs,st_b2s,ty,tz,ts,tt,st_bin2,s_eql,hq8,z4]
  have z4:(n % 8=4)=False:=eq_false h4
  by_cases h5:n % 8>5
  ·have z5:(n % 8>5)=True:=eq_true h5
   simp only[WA,Nat.reduceEqDiff,reduceCtorEq,q11,g17,zs,st_b2s,ty,tz,ts,tt,st_bin2,s_eql,hq8,z4,z5]
  have z5:(n % 8>5)=False:=eq_false h5
  have hyx:y=xs:=by
   rcases ys with h | h
   ·omega
   ·exact h
  have tx:=txt_num (Nums.ext (x37.trans (x7e.trans xeh)) s3) (hyx▸hsy)
  simp only[WA,Nat.reduceEqDiff,reduceCtorEq,q11,g17,zs,st_b2s,ty,tz,ts,tt,tx,st_bin2,s_eql,hq8,z4,z5]
 ·have zf:(f.2.2≠0)=True:=eq_true hf0
  simp only[WA,Nat.reduceEqDiff,reduceCtorEq,c1,c2,c3,c4,c5,c6,st7,← hH7,g7,zf]
end Go.Proofs.YtleiinhaljdcoaaGreatDoor
