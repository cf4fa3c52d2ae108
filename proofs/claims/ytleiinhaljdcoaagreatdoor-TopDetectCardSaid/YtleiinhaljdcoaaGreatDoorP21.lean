/- What is proved here: what the program's functions come to, as far as the claimed statement asks. Conditions: those that each theorem names, and no others. -/
import Derived.Test.YtleiinhaljdcoaaGreatDoorP20
set_option linter.unusedSimpArgs false
set_option linter.unusedVariables false
namespace Go.Proofs.YtleiinhaljdcoaaGreatDoor
open Go Lon
set_option maxRecDepth 100000
theorem k4R {P:Program} {H H':q0a} {x v:Value} {lo hi:Option Value} {sz:Nat} (h:q3t (P:=P) x lo hi sz H=some (v,H)) (hx:Ext H H'):q3t (P:=P) x lo hi sz H'=some (v,H'):=by
 unfold q3t at h ⊢
 obtain ⟨u,h1,h2⟩:=Option.map_eq_some_iff.1 h
 injection h2 with h2 _
 subst h2
 rw[Option.map_eq_some_iff]
 refine ⟨u,?_,rfl⟩
 revert h1
 split
 ·rename_i i o n c
  cases hg:H.get i with
  | none=>
   intro h1
   exfalso
   revert h1
   simp only[Option.map_none]
   split
   ·rename_i e
    cases e
   ·intro h1;cases h1
  | some b=>
   rw[hx.get hg]
   exact id
 ·exact id
 ·exact id
 ·exact id
theorem j3r {P:Program} {H:q0a} {v:Value} {l:List Int} {k:Nat} (h:Nums H .u8 v l) (hc:Cut P H v 1) (hk:k≤l.length):∃v',(∀kd:IntKind,q3t (P:=P) v (some (.int kd k)) none 1 H=some (v',H))∧Nums H .u8 v' (l.drop k):=by
 obtain ⟨v',g1,g2,_⟩:=Sl.drop h hc hk
 refine ⟨v',g1,?_⟩
 unfold Nums
 rw[List.length_drop]
 simpa[List.map_drop] using g2
theorem j3s:∀(T:List Tok),(sF T).2.2.2=0↔wr T=0
 | []=>⟨fun _=>rfl,fun _=>rfl⟩
 | x::T=>by
  rw[z5d]
  by_cases h:x.err=0
  ·rw[j0m h,if_neg (fun h2=>h2 h),Nat.zero_add]
   exact j3s T
  ·rw[z4R h,if_pos h]
   exact ⟨fun h2=>absurd h2 h,fun h2=>by omega⟩
theorem j0G (k:Nat) (xs:List Int):(gF 0 (dcK k xs)).2.2.2=0↔(fitK k xs).1=0:=by
 unfold gF
 rw[if_pos rfl]
 exact j3s _
theorem j0H {xs:List Int} {j:Nat} {r:Sc1} (h:(best xs)[j]?=some r):r.1<8∧r.2=fitK r.1 xs:=by
 have:=z5j (P:=fun r=>r.1<8∧r.2=fitK r.1 xs) 7 1 (scs xs 8) (fun r hr=>by
  obtain ⟨k,hk⟩:=List.getElem?_of_mem hr
  obtain ⟨h1,rfl⟩:=z8F hk
  exact ⟨h1,rfl⟩)
 exact this r (List.mem_of_getElem? h)
theorem z7b {xs:List Int} {j:Nat} {r p:Sc1} (hj:j<7) (hr:(best xs)[j+1]?=some r) (hp:(best xs)[j]?=some p):p.2.1≤r.2.1:=by
 refine j0A fun hb=>?_
 exact z5m 7 1 (scs xs 8) (by decide) (fun k hk=>by omega) j (by omega) ⟨r,p,hr,hp,hb⟩
theorem j3t {H:q0a} {s:ByteArray} {z:Nat×Nat}:∃H1,H1=H.push ⟨[.string s,cv z],48,.tip,1,[]⟩∧Ext H H1∧H1.get H.n=some ⟨[.string s,cv z],48,.tip,1,[]⟩∧q0u (some ⟨[.string ⟨#[]⟩,.complex .f64 0 0],48,.tip,0,[]⟩) H.n 0 (.agg ⟨[.string s,cv z]⟩) 2 (H.push ⟨[.string ⟨#[]⟩,.complex .f64 0 0],48,.tip,0,[]⟩)=some (.tuple ⟨[]⟩,(H.push ⟨[.string ⟨#[]⟩,.complex .f64 0 0],48,.tip,0,[]⟩).upd H.n ⟨[.string s,cv z],48,.tip,1,[]⟩):=⟨_,rfl,Ext.push H _,q0b,by
 have:=q0x (H:=H.push ⟨[.string ⟨#[]⟩,.complex .f64 0 0],48,.tip,0,[]⟩) (cells:=[.string ⟨#[]⟩,.complex .f64 0 0]) (el:=48) (ver:=0) (anc:=[]) (i:=H.n) (o:=0) (n:=2) (v:=.agg ⟨[.string s,cv z]⟩) rfl rfl (by simp)
 rw[this]
 rfl⟩
theorem b_tt:((true:Bool)==true)=true:=rfl
theorem b_ff:((false:Bool)==false)=true:=rfl
theorem gF0:q0J (.float .f64 0)=true:=rfl
theorem blk2 {cs:List Value} {r:Sc1} {k:Nat} (h:(cs.drop (k*2)).take 2=srow r):cs[k*2]?=some (.string (nm r.1))∧cs[k*2+1]?=some (cv r.2):=by
 have h0:((cs.drop (k*2)).take 2)[0]?=some (.string (nm r.1)):=by rw[h];rfl
 have h1:((cs.drop (k*2)).take 2)[1]?=some (cv r.2):=by rw[h];rfl
 rw[List.getElem?_take,if_pos (by decide),List.getElem?_drop] at h0 h1
 exact ⟨h0,h1⟩
def PD0 (H0:q0a) (x v:Value) (y:AEx) (e':Env) (H':q0a):Prop:=y=.exit 0∧eget e' 11=x∧eget e' 14=v∧Ext H0 H'
theorem l_D0 {H0:q0a} {x v:Value} {xs:List Int} (hx:Nums H0 .u8 x xs) (hb:∀u∈xs,0≤u∧u<256) (hl:xs.length≤200) (ho:OwnS H0 v (best xs)):∀(r j:Nat) (H:q0a),j+r=8→Ext H0 H →
  Out (run Tryz.prog (tabF tab) om1 (.loop [11,14,55,56,57] q1C) [(11,x),(14,v),(55,v),(56,.int .i64 8),(57,.int .i64 j)] H) (PD0 H0 x v):=by
 have hbl:=k6b xs
 intro r
 induction r with
 | zero=>
  intro j H hj hxt
  obtain rfl:j=8:=by omega
  have zz:((8:Int)<8)=False:=by simp
  rw[q0d q1C.eq_1]
  simp only[WA,Nat.reduceEqDiff,Int.cast_ofNat_Int,zz]
  exact ⟨rfl,rfl,rfl,hxt⟩
 | succ r ih=>
  intro j H hj hxt
  have hlt:((j:Int)<8)=True:=eq_true (by omega)
  obtain ⟨s,hs,_⟩:=q0z (L:=best xs) (i:=j) (by omega)
  obtain ⟨hs8,hsf⟩:=j0H hs
  obtain ⟨f1,f2,f3,f4,_⟩:=q8h hs8 hb
  rw[←hsf] at f3 f4
  obtain ⟨b,ver,anc,cs,hv,hg0,hcl,hrow⟩:=ho.blk (by omega)
  rw[hbl] at hv hcl
  rw[show 8+1=9 from rfl] at hv
  have hg:=hxt.get hg0
  have i1:∀H9:q0a,q2E (.slice (some ⟨b,0,none⟩) 8 9) (.int .i64 (j:Int)) 2 H9=some (.pointer (some ⟨b,j*2,none⟩),H9):=fun H9=>by
   rw[q4z ⟨by omega,by omega⟩,Nat.zero_add,Int.toNat_natCast]
  have r1:∀H9:q0a,q0l (some ⟨cs,48,.tip,ver,anc⟩) (j*2) (some 2) H9=some (.agg ⟨[.string (nm s.1),cv s.2]⟩,H9):=fun H9=>by
   rw[q4e q0n (by omega),hrow _ _ hs]
   rfl
  obtain ⟨H1,hH1,x1,g1,st1⟩:=j3t (H:=H) (s:=nm s.1) (z:=s.2)
  obtain ⟨_,H2,c2,x2,_,ow,rfl,_,_⟩:=j2Q (pol:=0) hs8 (by omega) (Nums.ext (hxt.trans x1) hx) hb (by omega)
  obtain ⟨f,hf⟩:∃f,(gF 0 (dcK s.1 xs)).2=f:=⟨_,rfl⟩
  have hfe:=j0G s.1 xs
  rw[hf,←hsf] at hfe
  rw[hf] at c2
  have c2:cw Tryz.prog (tabF tab) om1 8 [.string (nm s.1),.string ⟨#[117,116,102,45,56]⟩,.int .i64 0,x] H1=some (.tuple ⟨[ow,fvF f,.int .i64 0]⟩,H2):=c2
  obtain ⟨H3,hH3,x3,g3,st3⟩:=j3n (H:=H2) (z:=f)
  have g13:=(x2.trans x3).get g1
  have hg3:=(x1.trans (x2.trans x3)).get hg
  have hxt3:=hxt.trans (x1.trans (x2.trans x3))
  have feq:=f_eq0 (a:=s.2.1) (by omega)
  have hw2:IntKind.i64.wrap ((j:Int)+1)=((j+1:Nat):Int):=by rw[q0k (by omega) (by omega)];omega
  obtain ⟨y,e',H',q1,q2⟩:=ih (j+1) H3 (by omega) hxt3
  subst hv
  rw[q0d q1C.eq_1]
  by_cases hz:s.2.1=0
  ·have zf:(f.2.2=0)=True:=eq_true (hfe.2 hz)
   rw[decide_eq_true hz] at feq
   by_cases hj0:j=0
   ·have zj:((j:Int)>0)=False:=eq_false (by omega)
    simp only[WA,Nat.reduceEqDiff,hlt,i1,hg,r1,st1,←hH1,g1,c2,st3,←hH3,g3,g13,b_tt,zf,z3T,z5c,q1I gF0,feq,zj,hw2]
    rw[q0e]
    simp only[WA,Nat.reduceEqDiff,q1]
    exact q2
   ·obtain ⟨i,rfl⟩:∃i,j=i+1:=⟨j-1,by omega⟩
    obtain ⟨p,hp,_⟩:=q0z (L:=best xs) (i:=i) (by omega)
    have hpl:=z7b (by omega) hs hp
    obtain ⟨_,hpc⟩:=blk2 (hrow _ _ hp)
    have hwi:IntKind.i64.wrap (((i+1:Nat):Int)-1)=(i:Int):=by rw[q0k (by omega) (by omega)];omega
    have zj:(((i+1:Nat):Int)>0)=True:=eq_true (by omega)
    have fgt:=f_gt0 (a:=p.2.1) (by omega)
    rw[decide_eq_false (by omega)] at fgt
    have i0:∀H9:q0a,q2E (.slice (some ⟨b,0,none⟩) 8 9) (.int .i64 (i:Int)) 2 H9=some (.pointer (some ⟨b,i*2,none⟩),H9):=fun H9=>by
     rw[q4z ⟨by omega,by omega⟩,Nat.zero_add,Int.toNat_natCast]
    have r0:∀H9:q0a,q0l (some ⟨cs,48,.tip,ver,anc⟩) (i*2+1) none H9=some (cv p.2,H9):=fun H9=>by
     rw[q3d q0n,hpc]
     rfl
    simp only[WA,Nat.reduceEqDiff,hlt,i1,hg,r1,st1,←hH1,g1,c2,st3,←hH3,g3,g13,b_tt,zf,z3T,z5c,q1I gF0,feq,zj,hwi,i0,hg3,r0,fgt,hw2]
    rw[q0e]
    simp only[WA,Nat.reduceEqDiff,q1]
    exact q2
  ·have zf:(f.2.2=0)=False:=eq_false (fun h=>hz (hfe.1 h))
   rw[decide_eq_false hz] at feq
   by_cases hj0:j=0
   ·have zj:((j:Int)>0)=False:=eq_false (by omega)
    simp only[WA,Nat.reduceEqDiff,hlt,i1,hg,r1,st1,←hH1,g1,c2,st3,←hH3,g3,g13,b_ff,zf,z3T,z5c,q1I gF0,feq,zj,hw2]
    rw[q0e]
    simp only[WA,Nat.reduceEqDiff,q1]
    exact q2
   ·have zj:((j:Int)>0)=True:=eq_true (by omega)
    simp only[WA,Nat.reduceEqDiff,hlt,i1,hg,r1,st1,←hH1,g1,c2,st3,←hH3,g3,g13,b_ff,zf,z3T,z5c,q1I gF0,feq,zj,hw2]
    rw[q0e]
    simp only[WA,Nat.reduceEqDiff,q1]
    exact q2
def PD1 (H0:q0a) (x v:Value) (a:Bool) (y:AEx) (e':Env) (H':q0a):Prop:=y=.exit 2∧H'=H0∧eget e' 11=x∧eget e' 14=v∧eget e' 20=.bool a
theorem l_D1 {x v:Value} {l:List Int} {H:q0a} (hx:Nums H .u8 x l) (hl:l.length<1000000):∀(r k:Nat) (a:Bool),k+r=l.length →
  Out (run Tryz.prog (tabF tab) om1 (.loop [11,14,20,98,99,100] q1D) [(11,x),(14,v),(20,.bool a),(98,x),(99,.int .i64 l.length),(100,.int .i64 k)] H) (PD1 H x v (a||anyH (l.drop k))):=by
 intro r
 induction r with
 | zero=>
  intro k a hk
  obtain rfl:k=l.length:=by omega
  have zz:(((l.length:Nat):Int)<(l.length:Nat))=False:=by simp
  have e:(a||anyH (l.drop l.length))=a:=by
   rw[List.drop_of_length_le (Nat.le_refl _)]
   exact Bool.or_false a
  rw[e,q0d q1D.eq_1]
  simp only[WA,Nat.reduceEqDiff,zz]
  exact ⟨rfl,rfl,rfl,rfl,rfl⟩
 | succ r ih=>
  intro k a hk
  have hlt:((k:Int)<(l.length:Nat))=True:=eq_true (by omega)
  obtain ⟨u,hu,hd⟩:=q0z (L:=l) (i:=k) (by omega)
  obtain ⟨i,o,a1,a2⟩:=Nums.at hx hu
  have hw2:IntKind.i64.wrap ((k:Int)+1)=((k+1:Nat):Int):=by rw[q0k (by omega) (by omega)];omega
  have e:(a||anyH (l.drop k))=((a||decide (u>127))||anyH (l.drop (k+1))):=by
   rw[hd]
   unfold anyH
   rw[List.any_cons,Bool.or_assoc]
  rw[e,q0d q1D.eq_1]
  cases a with
  | true=>
   obtain ⟨y,e',H',r1,r2⟩:=ih (k+1) (true||decide (u>127)) (by omega)
   rw[Bool.true_or] at r1 r2
   rw[Bool.true_or]
   simp only[WA,Nat.reduceEqDiff,hlt,a1,a2,hw2]
   rw[q0e]
   simp only[WA,Nat.reduceEqDiff,r1]
   exact r2
  | false=>
   obtain ⟨y,e',H',r1,r2⟩:=ih (k+1) (false||decide (u>127)) (by omega)
   rw[Bool.false_or] at r1 r2
   rw[Bool.false_or]
   simp only[WA,Nat.reduceEqDiff,hlt,a1,a2,hw2]
   rw[q0e]
   simp only[WA,Nat.reduceEqDiff,r1]
   exact r2
theorem z2b {a b c d e:Value}:q5C [a,b,c,d,e]=[(0,a),(1,b),(2,c),(3,d),(4,e)]:=rfl
theorem gA:q0J (.string ⟨#[97,115,99,105,105]⟩)=true:=rfl
theorem q_asc:binV .eql 9 (.string ⟨#[97,115,99,105,105]⟩) (.string ascN)=some (.bool true):=by kernel_rfl
set_option maxHeartbeats 1600000 in
theorem z2c {l b:Value} {ls bs:List Int} {n odd k:Int} {H:q0a} (hl:U8s H l ls) (hb:U8s H b bs) (hn:0≤n∧n<256) (ho:0≤odd∧odd<256) (hk:0≤k∧k<256):q0p (cw Tryz.prog (tabF tab) om1 5 [.int .u8 n,l,b,.int .u8 odd,.int .u8 k] H) fun v H'=>v=.bool true:=by
 rw[q0g (F:=q2c) rfl rfl rfl]
 unfold q2c q4Z
 obtain ⟨hl1,hl2,hl3,_⟩:=hl
 obtain ⟨hb1,hb2,hb3,_⟩:=hb
 obtain ⟨K,hK⟩:∃K,K=(n % 8).toNat:=⟨_,rfl⟩
 have hK8:K<8:=by omega
 obtain ⟨_,H1,c1,x1,rfl⟩:=j0E (H:=H)
 obtain ⟨_,H2,c2,x2,rfl⟩:=j0q (H:=H1) hn
 rw[←hK] at c2
 have x12:=x1.trans x2
 obtain ⟨x,H3,c3,x3,xs,hxl,hxb,s3,k3⟩:=j3q hK8 ho (Nums.ext x12 hl1) (hl2.ext x12) hl3 (Nums.ext x12 hb1) (hb2.ext x12) hb3
 obtain ⟨_,H4,c4,d,rv,Z,vr,vf,rfl,h4⟩:=j3d (HB:=H3)
 have x34:=h4.2
 obtain ⟨i,hi,him⟩:∃i:Nat,i≤xs.length∧k.tmod ((xs.length:Int)+1)=(i:Int):=by
  have h1:=Int.tmod_eq_emod_of_nonneg (b:=(xs.length:Int)+1) hk.1
  have h2:=Int.emod_nonneg k (b:=(xs.length:Int)+1) (by omega)
  have h3:=Int.emod_lt_of_pos k (b:=(xs.length:Int)+1) (by omega)
  exact ⟨(k % ((xs.length:Int)+1)).toNat,by omega,by omega⟩
 have hwk:IntKind.i64.wrap k=k:=q0k (by omega) (by omega)
 have hwl:IntKind.i64.wrap ((xs.length:Int)+1)=(xs.length:Int)+1:=q0k (by omega) (by omega)
 have hrem:q2P .rem .i64 k ((xs.length:Int)+1)=some (.int .i64 (i:Int)):=by rw[q4C (by omega),him]
 have lx:=fun H9=>Nums.len (H2:=H9) s3
 obtain ⟨xa,sa,na⟩:=z4W (P:=Tryz.prog) s3 k3 hi
 have sa4:=k4R (sa .i64) x34
 obtain ⟨xb,sb,nb⟩:=j3r (P:=Tryz.prog) s3 k3 hi
 obtain ⟨_,H5,c5,rfl,h5⟩:=z5g (xs:=[]) na (fun u hu=>by cases hu) (fun u hu=>hxb u (List.mem_of_mem_take hu)) (by rw[List.length_take];simp only[List.length_nil];omega) h4
 rw[List.nil_append] at h5
 have x35:=h5.2
 have sb5:=k4R (sb .i64) x35
 obtain ⟨_,H6,c6,rfl,h6⟩:=z5g (xs:=xs.take i) nb (fun u hu=>hxb u (List.mem_of_mem_take hu)) (fun u hu=>hxb u (List.mem_of_mem_drop hu)) (by rw[List.length_take,List.length_drop];omega) h5
 rw[List.take_append_drop] at h6
 obtain ⟨v,H7,c7,x37,o7⟩:=z8G hxb (by omega) h6
 have hbl:=k6b xs
 obtain ⟨bq,ver,anc,cs,hv,hg7,hcl,hrow⟩:=o7.blk (by omega)
 rw[hbl,show 8+1=9 from rfl] at hv
 have n7:=Nums.ext x37 s3
 obtain ⟨_,e8,H8,r8,rfl,s8,t8,x78⟩:=l_D0 n7 hxb hxl o7 8 0 H7 (by omega) (Ext.refl H7)
 rw[show ((0:Nat):Int)=0 from rfl] at r8
 have n8:=Nums.ext x78 n7
 have hg8:=x78.get hg7
 obtain ⟨y9,e9,H9,r9,hy9,hH9,s9,t9,u9⟩:=l_D1 (v:=v) n8 (by omega) xs.length 0 false (by omega)
 rw[show ((0:Nat):Int)=0 from rfl,hy9,hH9] at r9
 rw[List.drop_zero,Bool.false_or] at u9
 obtain ⟨_,H10,c10,x10,rfl⟩:=j3f n8 hxb (by omega)
 have hg10:=x10.get hg8
 obtain ⟨z,hz0⟩:=z8H xs
 obtain ⟨hc0,_⟩:=blk2 (hrow 0 _ hz0)
 rw[Nat.zero_mul] at hc0
 have i0:∀H9:q0a,q2E (.slice (some ⟨bq,0,none⟩) 8 9) (.int .i64 0) 2 H9=some (.pointer (some ⟨bq,0,none⟩),H9):=fun H9=>by
  rw[q4z ⟨by omega,by omega⟩]
  rfl
 have r0:∀H9:q0a,q0l (some ⟨cs,48,.tip,ver,anc⟩) 0 none H9=some (.string (nm (b0 xs)),H9):=fun H9=>by
  rw[q3d q0n,hc0]
  rfl
 subst hv
 have z8:((8:Int)≠8)=False:=by simp
 simp only[WA,Nat.reduceEqDiff,reduceCtorEq,z2b,c1,c2,c3,c4,j1Q]
 simp only[WA,Nat.reduceEqDiff,reduceCtorEq,Int.cast_ofNat_Int,hwk,lx,hwl,hrem,sa4,c5,sb5,c6,c7,z8]
 rw[q0e]
 simp only[WA,Nat.reduceEqDiff,reduceCtorEq,r8,s8,lx]
 rw[q0e]
 simp only[WA,q0M,q1b,q1w,q1y,Nat.reduceEqDiff,s8,t8,r9,u9]
 cases ha:anyH xs with
 | false=>
  rw[ha,if_neg (by decide)] at c10
  simp only[WA,q0M,q1b,q1w,q1y,Nat.reduceEqDiff,c10,q1I gA,q_asc,s9]
 | true=>
  rw[ha,if_pos rfl] at c10
  simp only[WA,q0M,q1b,q1w,q1y,Nat.reduceEqDiff,c10,hg8,hg10,i0,r0,q6w,s_eql,s9,t9,u9,ha]
end Go.Proofs.YtleiinhaljdcoaaGreatDoor
