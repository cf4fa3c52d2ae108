/- What is proved here: what the program's functions come to, as far as the claimed statement asks. Conditions: those that each theorem names, and no others. -/
import Derived.Test.YtleiinhaljdcoaaGreatDoorP9
set_option linter.unusedSimpArgs false
set_option linter.unusedVariables false
namespace Go.Proofs.YtleiinhaljdcoaaGreatDoor
open Go Lon
set_option maxRecDepth 100000
def okS (s:Int):Prop:=0≤s∧s≤1114111∧(s<55296∨s>57343)
theorem k5N {s:Int} {H:q0a} (h:okS s):cw Tryz.prog (tabF tab) om1 49 [.int .i64 s] H=some (.bool true,H):=by
 obtain ⟨h1,h2,h3⟩:=h
 rw[q0g (F:=q5W) rfl rfl rfl]
 unfold q5W k0R
 have z1:(s≥0)=True:=eq_true h1
 have z2:(s≤1114111)=True:=eq_true h2
 by_cases h4:s<55296
 ·have z3:(s<55296)=True:=eq_true h4
  simp only[WA,Nat.reduceEqDiff,reduceCtorEq,z1,z2,z3]
 ·have z3:(s<55296)=False:=eq_false h4
  have z4:(s>57343)=True:=eq_true (h3.resolve_left h4)
  simp only[WA,Nat.reduceEqDiff,reduceCtorEq,z1,z2,z3,z4]
def szF (s:Int):Int:=if s<128 then 1 else if s<2048 then 2 else if s<65536 then 3 else 4
theorem j2e {s:Int} {H:q0a} (h:okS s):cw Tryz.prog (tabF tab) om1 29 [.int .i64 s] H=some (.int .i64 (szF s),H):=by
 rw[q0g (F:=q8l) rfl rfl rfl]
 unfold q8l k3Y szF
 have c1:=k5N (H:=H) h
 by_cases h1:s<128
 ·have z1:(s<128)=True:=eq_true h1
  rw[if_pos h1];simp only[WA,Nat.reduceEqDiff,reduceCtorEq,c1,z1]
 have z1:(s<128)=False:=eq_false h1
 rw[if_neg h1]
 by_cases h2:s<2048
 ·have z2:(s<2048)=True:=eq_true h2
  rw[if_pos h2];simp only[WA,Nat.reduceEqDiff,reduceCtorEq,c1,z1,z2]
 have z2:(s<2048)=False:=eq_false h2
 rw[if_neg h2]
 by_cases h3:s<65536
 ·have z3:(s<65536)=True:=eq_true h3
  rw[if_pos h3];simp only[WA,Nat.reduceEqDiff,reduceCtorEq,c1,z1,z2,z3]
 have z3:(s<65536)=False:=eq_false h3
 rw[if_neg h3];simp only[WA,Nat.reduceEqDiff,reduceCtorEq,c1,z1,z2,z3]
noncomputable def binC (op:BinOp) (t:TypeId) (w u:Value):Option Value:=if q0J u=true then
  match q0C Tryz.prog (do eqGuard op t (.const w) (.tmp 0) w u;Next.value <$> binOp op t w u) with
  | some (.value v)=>if q0J v=true then some v else none
  | _=>none
 else none
theorem k9d {cf : q0F} {e : Env} {H : q0a} {i : Nat} {w : Value} {op : BinOp} {t u y : TypeId} (hw : q0J w = true) : q0o Tryz.prog cf e H (.gen ⟨none, (.binOp op t (.const w) (.tmp i) u), y, "", #[], none⟩) = (binC op t w (ev e (.tmp i))).map fun v => (v, H) := by
 simp[q0o,q0N,binC,execOp,Op.operands,ev,hw]
 rfl
theorem shr6 {s:Int}:binV .shr 3 (.int .u64 6) (.int .i64 s)=some (.int .i64 (s / 64)):=by
 have h0:binV .shr 3 (.int .u64 6) (.int .i64 s)=some (.int .i64 (s.fdiv (2^6))):=by rfl
 rw[h0,show (2:Int)^6=64 from rfl,Int.fdiv_eq_ediv_of_nonneg _ (by decide)]
theorem j2f {s:Int}:binV .shr 3 (.int .u64 12) (.int .i64 s)=some (.int .i64 (s / 4096)):=by
 have h0:binV .shr 3 (.int .u64 12) (.int .i64 s)=some (.int .i64 (s.fdiv (2^12))):=by rfl
 rw[h0,show (2:Int)^12=4096 from rfl,Int.fdiv_eq_ediv_of_nonneg _ (by decide)]
theorem shr18 {s:Int}:binV .shr 3 (.int .u64 18) (.int .i64 s)=some (.int .i64 (s / 262144)):=by
 have h0:binV .shr 3 (.int .u64 18) (.int .i64 s)=some (.int .i64 (s.fdiv (2^18))):=by rfl
 rw[h0,show (2:Int)^18=262144 from rfl,Int.fdiv_eq_ediv_of_nonneg _ (by decide)]
theorem andI {s:Int} (h:0≤s∧s<100000000):binV .and 3 (.int .i64 63) (.int .i64 s)=some (.int .i64 (s % 64)):=by
 obtain ⟨n,rfl⟩:∃n:Nat,s=n:=⟨s.toNat,by omega⟩
 have h0:binV .and 3 (.int .i64 63) (.int .i64 (n:Nat))=some (.int .i64 (IntKind.i64.wrap (((BitVec.ofInt 64 ((n:Nat):Int) &&& BitVec.ofInt 64 63).toNat:Nat):Int))):=by rfl
 have h1:(BitVec.ofInt 64 ((n:Nat):Int) &&& BitVec.ofInt 64 63).toNat=n % 64:=by
  rw[BitVec.toNat_and,BitVec.ofInt_natCast,BitVec.toNat_ofNat,Nat.mod_eq_of_lt (by omega),show (BitVec.ofInt 64 63).toNat=2^6-1 from rfl,Nat.and_two_pow_sub_one_eq_mod]
 rw[h0,h1,q0k (by omega) (by omega)]
 rfl
theorem orK {a i b:Nat} (hi:i≤8) (ha:2^i*a<300) (hb:b<2^i):binC .or 3 (.int .i64 ((2^i*a:Nat):Int)) (.int .i64 (b:Nat))=some (.int .i64 ((2^i*a+b:Nat):Int)):=by
 have h8:(2:Nat)^i≤2^8:=Nat.pow_le_pow_right (by omega) hi
 have h0:binC .or 3 (.int .i64 ((2^i*a:Nat):Int)) (.int .i64 (b:Nat))=some (.int .i64 (IntKind.i64.wrap (((BitVec.ofInt 64 ((2^i*a:Nat):Int) ||| BitVec.ofInt 64 (b:Nat)).toNat:Nat):Int))):=by rfl
 have h1:(BitVec.ofInt 64 ((2^i*a:Nat):Int) ||| BitVec.ofInt 64 (b:Nat)).toNat=2^i*a+b:=by
  rw[BitVec.toNat_or]
  have e1:(BitVec.ofInt 64 ((2^i*a:Nat):Int)).toNat=2^i*a:=by
   rw[BitVec.ofInt_natCast,BitVec.toNat_ofNat]
   omega
  have e2:(BitVec.ofInt 64 ((b:Nat):Int)).toNat=b:=by
   rw[BitVec.ofInt_natCast,BitVec.toNat_ofNat]
   omega
  rw[e1,e2,←Nat.two_pow_add_eq_or_of_lt hb]
 rw[h0,h1,q0k (by omega) (by omega)]
theorem z9V {x:Int} (h:0≤x∧x<64):binC .or 3 (.int .i64 128) (.int .i64 x)=some (.int .i64 (128+x)):=by
 obtain ⟨n,rfl⟩:∃n:Nat,x=n:=⟨x.toNat,by omega⟩
 have:=orK (a:=2) (i:=6) (b:=n) (by omega) (by decide) (by omega)
 rw[show ((2^6*2+n:Nat):Int)=128+(n:Int) by omega] at this
 exact this
theorem or192 {x:Int} (h:0≤x∧x<64):binC .or 3 (.int .i64 192) (.int .i64 x)=some (.int .i64 (192+x)):=by
 obtain ⟨n,rfl⟩:∃n:Nat,x=n:=⟨x.toNat,by omega⟩
 have:=orK (a:=3) (i:=6) (b:=n) (by omega) (by decide) (by omega)
 rw[show ((2^6*3+n:Nat):Int)=192+(n:Int) by omega] at this
 exact this
theorem or224 {x:Int} (h:0≤x∧x<32):binC .or 3 (.int .i64 224) (.int .i64 x)=some (.int .i64 (224+x)):=by
 obtain ⟨n,rfl⟩:∃n:Nat,x=n:=⟨x.toNat,by omega⟩
 have:=orK (a:=7) (i:=5) (b:=n) (by omega) (by decide) (by omega)
 rw[show ((2^5*7+n:Nat):Int)=224+(n:Int) by omega] at this
 exact this
theorem or240 {x:Int} (h:0≤x∧x<16):binC .or 3 (.int .i64 240) (.int .i64 x)=some (.int .i64 (240+x)):=by
 obtain ⟨n,rfl⟩:∃n:Nat,x=n:=⟨x.toNat,by omega⟩
 have:=orK (a:=15) (i:=4) (b:=n) (by omega) (by decide) (by omega)
 rw[show ((2^4*15+n:Nat):Int)=240+(n:Int) by omega] at this
 exact this
def utfB (s:Int):List Int:=if s<128 then [s] else if s<2048 then [192+s / 64,128+s % 64] else if s<65536 then [224+s / 4096,128+s / 64 % 64,128+s % 64] else [240+s / 262144,128+s / 4096 % 64,128+s / 64 % 64,128+s % 64]
def u8s (l:List Int):List Value:=l.map fun x=>.int .u8 x
abbrev OwnB (H:q0a) (v:Value) (l:List Int):Prop:=Own H 5 1 v l.length (u8s l)
theorem z9W (l:List Int):(u8s l).all one=true:=by
 unfold u8s
 rw[List.all_eq_true]
 intro x hx
 obtain ⟨n,_,rfl⟩:=List.mem_map.1 hx
 rfl
theorem OwnB.add {H:q0a} {v x:Value} {l m:List Int} (ho:OwnB H v l) (hi:Nums H .u8 x m) (hm:m≠[]) (hs:l.length+m.length<10000000000) :
  ∃v' H',q0m H v x 5 1 1=some (v',H')∧OwnB H' v' (l++m)∧From H.n v'∧H.n≤H'.n∧∀i,i<H.n→q0i v i→H'.get i=H.get i:=by
 obtain ⟨v2,H2,q1,q2,q3,q4,q5,q6⟩:=Own.append2 (bytes:=1) ho hi (List.length_pos_iff.2 hm) (z9W m) (by omega)
 refine ⟨v2,H2,q1,?_,q3,q5,q6⟩
 unfold OwnB
 rw[List.length_append]
 have:u8s l++u8s m=u8s (l++m):=by simp[u8s]
 rw[←this]
 exact q2
theorem v_u1 {H:q0a} {a:Int}:∃H1,q0D 5 1 1 [.int .u8 0] [(0,1,.int .u8 a)] H=some (.slice (some ⟨H.n,0,none⟩) 1 2,H1)∧Ext H H1∧Nums H1 .u8 (.slice (some ⟨H.n,0,none⟩) 1 2) [a]:=⟨_,rfl,Ext.push H _,Sl.new (n:=1) (c:=2) q0b q0n rfl⟩
theorem v_u2 {H:q0a} {a b:Int}:∃H1,q0D 5 2 1 [.int .u8 0] [(0,1,.int .u8 a),(1,1,.int .u8 b)] H=some (.slice (some ⟨H.n,0,none⟩) 2 3,H1)∧Ext H H1∧Nums H1 .u8 (.slice (some ⟨H.n,0,none⟩) 2 3) [a,b]:=⟨H.push ⟨[.int .u8 a,.int .u8 b],5,.tip,0,[]⟩,rfl,Ext.push H _,Sl.new (n:=2) (c:=3) q0b q0n rfl⟩
theorem v_u3 {H:q0a} {a b c:Int}:∃H1,q0D 5 3 1 [.int .u8 0] [(0,1,.int .u8 a),(1,1,.int .u8 b),(2,1,.int .u8 c)] H=some (.slice (some ⟨H.n,0,none⟩) 3 4,H1)∧Ext H H1∧Nums H1 .u8 (.slice (some ⟨H.n,0,none⟩) 3 4) [a,b,c]:=⟨H.push ⟨[.int .u8 a,.int .u8 b,.int .u8 c],5,.tip,0,[]⟩,rfl,Ext.push H _,Sl.new (n:=3) (c:=4) q0b q0n rfl⟩
theorem v_u4 {H:q0a} {a b c d:Int}:∃H1,q0D 5 4 1 [.int .u8 0] [(0,1,.int .u8 a),(1,1,.int .u8 b),(2,1,.int .u8 c),(3,1,.int .u8 d)] H=some (.slice (some ⟨H.n,0,none⟩) 4 5,H1)∧Ext H H1∧Nums H1 .u8 (.slice (some ⟨H.n,0,none⟩) 4 5) [a,b,c,d]:=⟨H.push ⟨[.int .u8 a,.int .u8 b,.int .u8 c,.int .u8 d],5,.tip,0,[]⟩,rfl,Ext.push H _,Sl.new (n:=4) (c:=5) q0b q0n rfl⟩
theorem j2g {s:Int} {v:Value} {l:List Int} {H:q0a} (h:okS s) (hv:OwnB H v l) (hl:l.length<1000000000):q0p (cw Tryz.prog (tabF tab) om1 11 [v,.int .i64 s] H) fun w H'=>OwnB H' w (l++utfB s)∧From H.n w∧H.n≤H'.n∧∀i,i<H.n→q0i v i→H'.get i=H.get i:=by
 rw[q0g (F:=q9z) rfl rfl rfl]
 unfold q9z k6E
 have c1:=j2e (H:=H) h
 obtain ⟨h1,h2,h3⟩:=h
 have g1:q0J (.int .u64 6)=true:=rfl
 have g2:q0J (.int .u64 12)=true:=rfl
 have g3:q0J (.int .u64 18)=true:=rfl
 have g4:q0J (.int .i64 63)=true:=rfl
 have g5:∀n:Int,q0J (.int .i64 n)=true:=fun _=>rfl
 have a0:=andI (s:=s) (by omega)
 have a1:=andI (s:=s / 64) (by omega)
 have a2:=andI (s:=s / 4096) (by omega)
 have o0:=z9V (x:=s % 64) (by omega)
 have o1:=z9V (x:=s / 64 % 64) (by omega)
 have o2:=z9V (x:=s / 4096 % 64) (by omega)
 have w0:IntKind.u8.wrap (128+s % 64)=128+s % 64:=k1n (by omega) (by omega)
 have w1:IntKind.u8.wrap (128+s / 64 % 64)=128+s / 64 % 64:=k1n (by omega) (by omega)
 have w2:IntKind.u8.wrap (128+s / 4096 % 64)=128+s / 4096 % 64:=k1n (by omega) (by omega)
 have fin:∀{H1 H2:q0a} {w:Value} {m:List Int},Ext H H1→OwnB H2 w (l++m)→From H1.n w→H1.n≤H2.n→(∀i,i<H1.n→q0i v i→H2.get i=H1.get i)→OwnB H2 w (l++m)∧From H.n w∧H.n≤H2.n∧∀i,i<H.n→q0i v i→H2.get i=H.get i:=fun {H1 H2 w m} hx q1 q2 q3 q4=>⟨q1,q2.mono hx.1,Nat.le_trans hx.1 q3,fun i hi hn=>by rw[q4 i (Nat.lt_of_lt_of_le hi hx.1) hn,hx.2 i hi]⟩
 unfold szF at c1
 unfold utfB
 have e1:((1:Int)=1)=True:=by simp
 by_cases k1:s<128
 ·rw[if_pos k1] at c1 ⊢
  have ww:IntKind.u8.wrap s=s:=k1n (by omega) (by omega)
  obtain ⟨H1,v1,x1,i1⟩:=v_u1 (H:=H) (a:=s)
  obtain ⟨w,H2,q1,q2,q3,q4,q5⟩:=OwnB.add (hv.ext x1) i1 (by simp) (by simp;omega)
  simp only[WA,Nat.reduceEqDiff,reduceCtorEq,c1,ww,v1,q1]
  exact fin x1 q2 q3 q4 q5
 rw[if_neg k1] at c1 ⊢
 by_cases k2:s<2048
 ·rw[if_pos k2] at c1 ⊢
  have oo:=or192 (x:=s / 64) (by omega)
  have ww:IntKind.u8.wrap (192+s / 64)=192+s / 64:=k1n (by omega) (by omega)
  obtain ⟨H1,v1,x1,i1⟩:=v_u2 (H:=H) (a:=192+s / 64) (b:=128+s % 64)
  obtain ⟨w,H2,q1,q2,q3,q4,q5⟩:=OwnB.add (hv.ext x1) i1 (by simp) (by simp;omega)
  have z1:((2:Int)=1)=False:=by simp
  have z2:((2:Int)=2)=True:=by simp
  simp only[WA,Nat.reduceEqDiff,reduceCtorEq,c1,z1,q1I g1,q1I g4,k9d (g5 _),shr6,a0,o0,oo,w0,ww,v1,q1]
  exact fin x1 q2 q3 q4 q5
 rw[if_neg k2] at c1 ⊢
 by_cases k3:s<65536
 ·rw[if_pos k3] at c1 ⊢
  have oo:=or224 (x:=s / 4096) (by omega)
  have ww:IntKind.u8.wrap (224+s / 4096)=224+s / 4096:=k1n (by omega) (by omega)
  obtain ⟨H1,v1,x1,i1⟩:=v_u3 (H:=H) (a:=224+s / 4096) (b:=128+s / 64 % 64) (c:=128+s % 64)
  obtain ⟨w,H2,q1,q2,q3,q4,q5⟩:=OwnB.add (hv.ext x1) i1 (by simp) (by simp;omega)
  have z1:((3:Int)=1)=False:=by simp
  have z2:((3:Int)=2)=False:=by simp
  have z3:((3:Int)=3)=True:=by simp
  simp only[WA,Nat.reduceEqDiff,reduceCtorEq,c1,z1,z2,q1I g1,q1I g2,q1I g4,k9d (g5 _),shr6,j2f,a0,a1,o0,o1,oo,w0,w1,ww,v1,q1]
  exact fin x1 q2 q3 q4 q5
 rw[if_neg k3] at c1 ⊢
 have oo:=or240 (x:=s / 262144) (by omega)
 have ww:IntKind.u8.wrap (240+s / 262144)=240+s / 262144:=k1n (by omega) (by omega)
 obtain ⟨H1,v1,x1,i1⟩:=v_u4 (H:=H) (a:=240+s / 262144) (b:=128+s / 4096 % 64) (c:=128+s / 64 % 64) (d:=128+s % 64)
 obtain ⟨w,H2,q1,q2,q3,q4,q5⟩:=OwnB.add (hv.ext x1) i1 (by simp) (by simp;omega)
 have z1:((4:Int)=1)=False:=by simp
 have z2:((4:Int)=2)=False:=by simp
 have z3:((4:Int)=3)=False:=by simp
 have z4:((4:Int)=4)=True:=by simp
 simp only[WA,Nat.reduceEqDiff,reduceCtorEq,c1,z1,z2,z3,q1I g1,q1I g2,q1I g3,q1I g4,k9d (g5 _),shr6,j2f,shr18,a0,a1,a2,o0,o1,o2,oo,w0,w1,w2,ww,v1,q1]
 exact fin x1 q2 q3 q4 q5
theorem k5O {H:q0a} {i ver:Nat} {el:TypeId} {a b c d u v x y:Value} (h1:[u,v,x,y].all one=true):q0u (some ⟨[a,b,c,d],el,.tip,ver,[]⟩) i 0 (.agg ⟨[u,v,x,y]⟩) 4 H=some (.tuple ⟨[]⟩,H.upd i ⟨[u,v,x,y],el,.tip,ver+1,[]⟩):=by
 have:=q0x (H:=H) (cells:=[a,b,c,d]) (el:=el) (ver:=ver) (anc:=[]) (i:=i) (o:=0) (n:=4) (v:=.agg ⟨[u,v,x,y]⟩) rfl h1 (Nat.le_refl 4)
 rw[this]
 rfl
theorem z4r {H:q0a} {i ver:Nat} {el:TypeId} {a b c d x:Value} (h1:one x=true):q0u (some ⟨[a,b,c,d],el,.tip,ver,[]⟩) i 2 x 1 H=some (.tuple ⟨[]⟩,H.upd i ⟨[a,b,x,d],el,.tip,ver+1,[]⟩):=by
 have hc:x.cells.toList=[x]:=by cases x<;>simp[one] at h1<;>rfl
 have:=q0x (H:=H) (cells:=[a,b,c,d]) (el:=el) (ver:=ver) (anc:=[]) (i:=i) (o:=2) (n:=1) (v:=x) (by rw[hc];rfl) (by rw[hc];simp[h1]) (by simp)
 rw[this,hc]
 rfl
theorem z9X {B:Nat} {H:q0a} {i ver:Nat} {anc:List Nat} {p:Option Addr} {c:Nat} {t:Tok} (hg:H.get i=some ⟨tokC p c t,36,.tip,ver,anc⟩) (hq:tokQ Tryz.prog H (tokC p c t) t) (hf:From B (.slice p t.out.length c)):q2R B H (.slice (some ⟨i,0,none⟩) 1 2) [t]:=by
 refine ⟨by simp,tokC p c t,⟨by simp[tokC],.inr ⟨i,ver,anc,rfl,by simp,hg⟩⟩,fun k r hr=>?_⟩
 cases k with
 | zero=>
  simp only[List.getElem?_cons_zero,Option.some.injEq] at hr
  subst hr
  exact k3c hq hf
 | succ k=>simp at hr
def PSP (q5 sc:Nat) (at_:Int) (l:List Int) (H0:q0a) (y:AEx) (e':Env) (H':q0a):Prop:=y=.exit 0∧eget e' 0=.pointer (some ⟨sc,0,none⟩)∧eget e' 5=.pointer (some ⟨q5,0,none⟩)∧Ext H0 H'∧∃p c ver,H'.get q5=some ⟨[.int .i64 at_,.int .i64 1,.slice p l.length c,.int .i64 0],36,.tip,ver,[]⟩∧OwnI H' (.slice p l.length c) l∧From H0.n (.slice p l.length c)
theorem l_sp {H0:q0a} {q5 sc:Nat} {at_:Int} {x:Value} {l:List Int} (hq:H0.n≤q5) (hb:∀u∈l,0≤u∧u<256) (hl:l.length<100):∀(c k ver:Nat) (H:q0a) (p:Option Addr) (cc:Nat),k+c=l.length→Ext H0 H→OwnB H x l→H.get q5=some ⟨[.int .i64 at_,.int .i64 1,.slice p (l.take k).length cc,.int .i64 0],36,.tip,ver,[]⟩→OwnI H (.slice p (l.take k).length cc) (l.take k)→From H0.n (.slice p (l.take k).length cc) →
  Out (run Tryz.prog (tabF tab) om1 (.loop [0,5,17,18,19] q1P) [(0,.pointer (some ⟨sc,0,none⟩)),(5,.pointer (some ⟨q5,0,none⟩)),(17,x),(18,.int .i64 l.length),(19,.int .i64 k)] H) (PSP q5 sc at_ l H0):=by
 intro c
 induction c with
 | zero=>
  intro k ver H p cc hk hx hi hg ho hf
  obtain rfl:k=l.length:=by omega
  have z:(((l.length:Nat):Int)<(l.length:Nat))=False:=by simp
  rw[q0d q1P.eq_1]
  simp only[WA,Nat.reduceEqDiff,reduceCtorEq,z]
  rw[List.take_of_length_le (Nat.le_refl _)] at hg ho
  exact ⟨rfl,rfl,rfl,hx,p,cc,ver,hg,ho,From.len hf⟩
 | succ c ih=>
  intro k ver H p cc hk hx hi hg ho hf
  have hlt:((k:Int)<(l.length:Nat))=True:=eq_true (by omega)
  obtain ⟨u,hu,_⟩:=q0z (L:=l) (i:=k) (by omega)
  obtain ⟨u0,u1⟩:=hb u (List.mem_of_getElem? hu)
  obtain ⟨i,o,a1,a2⟩:=Nums.at (H:=H) (kd:=.u8) (v:=x) (l:=l) hi.sl hu
  have hw:IntKind.i64.wrap u=u:=q0k (by omega) (by omega)
  have hw2:IntKind.i64.wrap ((k:Int)+1)=((k+1:Nat):Int):=by rw[q0k (by omega) (by omega)];omega
  obtain ⟨H1,v1,x1,i1,_⟩:=k3d (H:=H) (a:=u)
  have g1:=x1.get hg
  obtain ⟨w,H2,m1,m2,m3,m4,m5⟩:=OwnI.add2 (ho.ext x1) hf (hx.trans x1) i1 (by simp;omega)
  have g2:=m5 _ _ g1 (by simp only;decide)
  have ht:l.take k++[u]=l.take (k+1):=by rw[List.take_add_one,hu];rfl
  rw[ht] at m2
  have hw3:=m2.sl
  obtain ⟨⟨p2,c2,rfl⟩,_⟩:=hw3
  obtain ⟨H3,hH3⟩:∃H3,H3=H2.upd q5 ⟨[.int .i64 at_,.int .i64 1,.slice p2 (l.take (k+1)).length c2,.int .i64 0],36,.tip,ver+1,[]⟩:=⟨_,rfl⟩
  have g3:H3.get q5=some ⟨[.int .i64 at_,.int .i64 1,.slice p2 (l.take (k+1)).length c2,.int .i64 0],36,.tip,ver+1,[]⟩:=by rw[hH3];exact q0r g2
  have x3:Ext H0 H3:=by rw[hH3];exact Ext.upd m4 g2 hq
  have kk:∀i b,H2.get i=some b→b.elem≠36→H3.get i=some b:=fun i b hi he=>by
   rw[hH3,q0j g2 (fun e=>by subst e;rw[g2] at hi;injection hi with hi;subst hi;exact he rfl)]
   exact hi
  have o3:OwnI H3 (.slice p2 (l.take (k+1)).length c2) (l.take (k+1)):=m2.move fun i b hi he=>kk i b hi (by rw[he];decide)
  have i3:OwnB H3 x l:=(hi.ext x1).move fun i b hi he=>kk i b (m5 i b hi (by rw[he];decide)) (by rw[he];decide)
  have hst:=z4r (H:=H2) (i:=q5) (ver:=ver) (el:=36) (a:=.int .i64 at_) (b:=.int .i64 1) (c:=.slice p (l.take k).length cc) (d:=.int .i64 0) (x:=.slice p2 (l.take (k+1)).length c2) rfl
  rw[←hH3] at hst
  obtain ⟨y,e',H',r1,r2⟩:=ih (k+1) (ver+1) H3 p2 c2 (by omega) x3 i3 g3 o3 m3
  rw[q0d q1P.eq_1]
  simp only[WA,Nat.reduceEqDiff,reduceCtorEq,hlt,a1,a2,hw,hg,v1,m1,g2,hst,hw2]
  rw[q0e]
  simp only[WA,Nat.reduceEqDiff,reduceCtorEq,r1]
  exact r2
theorem z4s {s:Int} (h:okS s):(∀u∈utfB s,0≤u∧u<256)∧(utfB s).length<5∧utfB s≠[]:=by
 obtain ⟨h1,h2,h3⟩:=h
 unfold utfB
 split
 ·exact ⟨fun u hu=>by simp at hu;omega,by simp,by simp⟩
 split
 ·exact ⟨fun u hu=>by simp at hu;omega,by simp,by simp⟩
 split
 ·exact ⟨fun u hu=>by simp at hu;omega,by simp,by simp⟩
 ·exact ⟨fun u hu=>by simp at hu;omega,by simp,by simp⟩
theorem j2h {H:q0a} {a b c d:Value}:q0D 36 1 4 [.int .i64 0,.int .i64 0,.slice none 0 0,.int .i64 0] [(0,4,.agg ⟨[a,b,c,d]⟩)] H=some (.slice (some ⟨H.n,0,none⟩) 1 2,H.push ⟨[a,b,c,d],36,.tip,0,[]⟩):=rfl
theorem j2i {H:q0a} {n:Int}:q2l [.int .i64 0,.int .i64 0,.slice none 0 0,.int .i64 0] [(0,1,.int .i64 n),(1,1,.int .i64 1),(3,1,.int .i64 3)] H=some (.agg ⟨[.int .i64 n,.int .i64 1,.slice none 0 0,.int .i64 3]⟩,H):=rfl
theorem v_bl1 {H:q0a} {n:Int}:q2l [.int .i64 0] [] H=some (.agg ⟨[.int .i64 0]⟩,H):=rfl
theorem z8k {sc ver:Nat} {at_ u:Int} {H:q0a} (hs:okS u) (hg:H.get sc=some ⟨[.int .i64 at_],115,.tip,ver,[]⟩) (ha:0≤at_∧at_<1000000000):q0p (cw Tryz.prog (tabF tab) om1 172 [.pointer (some ⟨sc,0,none⟩),.int .i64 u] H) fun v H'=>k5E Tryz.prog H' 36 v [⟨at_,1,utfB u,0⟩]∧From H.n v∧H'.get sc=some ⟨[.int .i64 (at_+1)],115,.tip,ver+1,[]⟩∧H.n≤H'.n∧(∀j,j<H.n→j≠sc→H'.get j=H.get j)∧q2R H.n H' v [⟨at_,1,utfB u,0⟩]:=by
 rw[q0g (F:=q2s) rfl rfl rfl]
 unfold q2s q5j
 have hsl:=q0a.lt_of_get hg
 obtain ⟨ub,ul,un⟩:=z4s hs
 obtain ⟨H1,hH1⟩:∃H1,H1=H.push ⟨[.int .i64 at_,.int .i64 1,.slice none 0 0,.int .i64 3],36,.tip,1,[]⟩:=⟨_,rfl⟩
 have x1:Ext H H1:=by rw[hH1];exact Ext.push H _
 have g1:H1.get H.n=some ⟨[.int .i64 at_,.int .i64 1,.slice none 0 0,.int .i64 3],36,.tip,1,[]⟩:=by rw[hH1];exact q0b
 have hst:=k5O (H:=H.push ⟨[.int .i64 0,.int .i64 0,.slice none 0 0,.int .i64 0],36,.tip,0,[]⟩) (i:=H.n) (ver:=0) (el:=36) (a:=.int .i64 0) (b:=.int .i64 0) (c:=.slice none 0 0) (d:=.int .i64 0) (u:=.int .i64 at_) (v:=.int .i64 1) (x:=.slice none 0 0) (y:=.int .i64 3) rfl
 simp only[Nat.zero_add] at hst
 have cs:=k5N (H:=H1) hs
 obtain ⟨H2,hH2⟩:∃H2,H2=H1.upd H.n ⟨[.int .i64 at_,.int .i64 1,.slice none 0 0,.int .i64 0],36,.tip,1+1,[]⟩:=⟨_,rfl⟩
 have g2:H2.get H.n=some ⟨[.int .i64 at_,.int .i64 1,.slice none 0 0,.int .i64 0],36,.tip,1+1,[]⟩:=by rw[hH2];exact q0r g1
 have x2:Ext H H2:=by rw[hH2];exact Ext.upd x1 g1 (Nat.le_refl _)
 have hst3:q0u (some ⟨[.int .i64 at_,.int .i64 1,.slice none 0 0,.int .i64 3],36,.tip,1,[]⟩) H.n 3 (.int .i64 0) 1 H1=some (.tuple ⟨[]⟩,H2):=by
  have:=q0x (H:=H1) (cells:=[.int .i64 at_,.int .i64 1,.slice none 0 0,.int .i64 3]) (el:=36) (ver:=1) (anc:=[]) (i:=H.n) (o:=3) (n:=1) (v:=.int .i64 0) rfl rfl (by simp)
  rw[this,hH2]
  rfl
 obtain ⟨w,H3,c3,b3,f3,n3,k3⟩:=j2g (v:=.slice none 0 0) (l:=[]) (H:=H2) hs ⟨rfl,.inl ⟨rfl,rfl⟩⟩ (by simp)
 rw[List.nil_append] at b3
 have x23:Ext H2 H3:=⟨n3,fun i hi=>k3 i hi trivial⟩
 have hi3:Nums H3 .u8 w (utfB u):=b3.sl
 have hlw:=fun H9=>Nums.len (H2:=H9) hi3
 have g3:=x23.get g2
 obtain ⟨y,e',H4,p1,rfl,p2,p3,x4,p,cc,ver4,g4,o4,fF⟩:=l_sp (H0:=H) (q5:=H.n) (sc:=sc) (at_:=at_) (x:=w) (l:=utfB u) (Nat.le_refl _) ub (by omega) (utfB u).length 0 2 H3 none 0 (by omega) (x2.trans x23) b3 g3 OwnI.nil trivial
 have z0:((0:Nat):Int)=0:=rfl
 rw[z0] at p1
 have hsc4:=x4.get hg
 obtain ⟨H5,hH5⟩:∃H5,H5=H4.upd sc ⟨[.int .i64 (at_+1)],115,.tip,ver+1,[]⟩:=⟨_,rfl⟩
 have g5:H5.get sc=some ⟨[.int .i64 (at_+1)],115,.tip,ver+1,[]⟩:=by rw[hH5];exact q0r hsc4
 have k5:∀j,j≠sc→H5.get j=H4.get j:=fun j hj=>by rw[hH5];exact q0j hsc4 hj
 have hst5:q0u (some ⟨[.int .i64 at_],115,.tip,ver,[]⟩) sc 0 (.int .i64 (at_+1)) 1 H4=some (.tuple ⟨[]⟩,H5):=by
  have:=q0x (H:=H4) (cells:=[.int .i64 at_]) (el:=115) (ver:=ver) (anc:=[]) (i:=sc) (o:=0) (n:=1) (v:=.int .i64 (at_+1)) rfl rfl (by simp)
  rw[this,hH5]
  rfl
 have gt5:H5.get H.n=some ⟨[.int .i64 at_,.int .i64 1,.slice p (utfB u).length cc,.int .i64 0],36,.tip,ver4,[]⟩:=by rw[k5 _ (by omega)];exact g4
 have hwa:IntKind.i64.wrap (at_+1)=at_+1:=q0k (by omega) (by omega)
 have n5:H5.n=H4.n:=by rw[hH5];simp
 have o5:OwnI H5 (.slice p (utfB u).length cc) (utfB u):=o4.move fun i b hi he=>by
  rw[k5 i (fun e=>by subst e;rw[hsc4] at hi;injection hi with hi;subst hi;revert he;simp only;decide)]
  exact hi
 have hld:q0l (some ⟨[.int .i64 at_,.int .i64 1,.slice p (utfB u).length cc,.int .i64 0],36,.tip,ver4,[]⟩) 0 (some 4) H5=some (.agg ⟨[.int .i64 at_,.int .i64 1,.slice p (utfB u).length cc,.int .i64 0]⟩,H5):=by
  rw[q4e q0n (by simp)];rfl
 simp only[WA,Nat.reduceEqDiff,reduceCtorEq,hg,j2i,hst,←hH1,cs,g1,hst3,c3,hlw]
 rw[q0e]
 simp only[WA,Nat.reduceEqDiff,reduceCtorEq,p1,p2,p3,hsc4,hwa,hst5,gt5,hld,j2h]
 obtain ⟨H6,hH6⟩:∃H6,H6=H5.push ⟨[.int .i64 at_,.int .i64 1,.slice p (utfB u).length cc,.int .i64 0],36,.tip,0,[]⟩:=⟨_,rfl⟩
 have x6:Ext H5 H6:=by rw[hH6];exact Ext.push H5 _
 have g6:H6.get H5.n=some ⟨[.int .i64 at_,.int .i64 1,.slice p (utfB u).length cc,.int .i64 0],36,.tip,0,[]⟩:=by rw[hH6];exact q0b
 rw[←hH6]
 have x4n:=x4.1
 have o6:OwnI H6 (.slice p (utfB u).length cc) (utfB u):=Own.ext x6 o5
 have hT:q2R H.n H6 (.slice (some ⟨H5.n,0,none⟩) 1 2) [⟨at_,1,utfB u,0⟩]:=z9X (p:=p) (c:=cc) g6 ⟨p,cc,rfl,OwnI.asI o6,by unfold Lon.tiny;simp only;omega,OwnI.cutI o6⟩ fF
 refine ⟨hT.ot,?_,?_,?_,fun j hj hjs=>?_,hT⟩
 ·show H.n≤H5.n
  omega
 ·exact x6.get g5
 ·have:=x6.1;omega
 ·rw[x6.2 j (by omega),k5 j hjs,x4.2 j hj]
abbrev FT:=Int×Int×Int
structure SK where
 f:Value
 t:Value
 pol:Int
 rd:Value
 wr:Value
def SC (K:SK) (ow:Value) (z:FT):List Value:=[K.f,K.t,.int .i64 K.pol,K.rd,K.wr,ow,.int .i64 z.1,.int .i64 z.2.1,.int .i64 z.2.2,.bool false,.bool false]
section
variable {K:SK} {ow:Value} {z:FT}
theorem sc2:(SC K ow z)[2]?=some (.int .i64 K.pol):=rfl
theorem sc3:(SC K ow z)[3]?=some K.rd:=rfl
theorem sc4:(SC K ow z)[4]?=some K.wr:=rfl
theorem sc5:(SC K ow z)[5]?=some ow:=rfl
theorem sc8:(SC K ow z)[8]?=some (.int .i64 z.2.2):=rfl
theorem sc6r {H:q0a} {el:TypeId} {ver:Nat}:q0l (some ⟨SC K ow z,el,.tip,ver,[]⟩) 6 (some 3) H=some (.agg ⟨[.int .i64 z.1,.int .i64 z.2.1,.int .i64 z.2.2]⟩,H):=by
 rw[q4e q0n (by simp[SC])];rfl
theorem k9e {H:q0a} {i ver:Nat} {el:TypeId} {x:Value} (h1:one x=true):q0u (some ⟨SC K ow z,el,.tip,ver,[]⟩) i 5 x 1 H=some (.tuple ⟨[]⟩,H.upd i ⟨SC K x z,el,.tip,ver+1,[]⟩):=by
 have hc:x.cells.toList=[x]:=by cases x<;>simp[one] at h1<;>rfl
 have:=q0x (H:=H) (cells:=SC K ow z) (el:=el) (ver:=ver) (anc:=[]) (i:=i) (o:=5) (n:=1) (v:=x) (by rw[hc];rfl) (by rw[hc];simp[h1]) (by simp[SC])
 rw[this,hc]
 rfl
theorem k5P {H:q0a} {i ver:Nat} {el:TypeId} {a b c:Int}:q0u (some ⟨SC K ow z,el,.tip,ver,[]⟩) i 6 (.agg ⟨[.int .i64 a,.int .i64 b,.int .i64 c]⟩) 3 H=some (.tuple ⟨[]⟩,H.upd i ⟨SC K ow (a,b,c),el,.tip,ver+1,[]⟩):=by
 have:=q0x (H:=H) (cells:=SC K ow z) (el:=el) (ver:=ver) (anc:=[]) (i:=i) (o:=6) (n:=3) (v:=.agg ⟨[.int .i64 a,.int .i64 b,.int .i64 c]⟩) rfl rfl (by simp[SC])
 rw[this]
 rfl
end
structure SB (H:q0a) (s:Nat) (K:SK) (ow:Value) (l:List Int) (z:FT):Prop where
 hs:∃ver,H.get s=some ⟨SC K ow z,70,.tip,ver,[]⟩
 ho:OwnB H ow l
structure Fw (s:Nat) (ow0:Value) (H0 H:q0a) (ow:Value):Prop where
 n:H0.n≤H.n
 k:∀j,j<H0.n→j≠s→q0i ow0 j→H.get j=H0.get j
 o:∀j,j<H0.n→q0i ow0 j→q0i ow j
theorem Fw.refl (s:Nat) (ow:Value) (H:q0a):Fw s ow H H ow:=⟨Nat.le_refl _,fun _ _ _ _=>rfl,fun _ _ h=>h⟩
theorem Fw.trans {s:Nat} {o1 o2 o3:Value} {H1 H2 H3:q0a} (a:Fw s o1 H1 H2 o2) (b:Fw s o2 H2 H3 o3):Fw s o1 H1 H3 o3:=
 ⟨Nat.le_trans a.n b.n,fun j hj hs hn=>by rw[b.k j (Nat.lt_of_lt_of_le hj a.n) hs (a.o j hj hn),a.k j hj hs hn],fun j hj hn=>b.o j (Nat.lt_of_lt_of_le hj a.n) (a.o j hj hn)⟩
theorem Fw.ext {s:Nat} {o1 o2:Value} {H1 H2 H3:q0a} (a:Fw s o1 H1 H2 o2) (x:Ext H2 H3):Fw s o1 H1 H3 o2:=
 ⟨Nat.le_trans a.n x.1,fun j hj hs hn=>by rw[x.2 j (Nat.lt_of_lt_of_le hj a.n),a.k j hj hs hn],a.o⟩
theorem Fw.get {s:Nat} {K:SK} {z:FT} {o1 o2:Value} {l:List Int} {H1 H2:q0a} (h:SB H1 s K o1 l z) (a:Fw s o1 H1 H2 o2) {j:Nat} {b:ABlk} (hj:H1.get j=some b) (e1:b.elem≠70) (e2:b.elem=5→q0i o1 j):H2.get j=some b:=by
 obtain ⟨ver,hs⟩:=h.hs
 rw[a.k j (q0a.lt_of_get hj) (fun e=>by subst e;rw[hs] at hj;injection hj with hj;subst hj;exact e1 rfl) (by
  by_cases e:b.elem=5
  ·exact e2 e
  ·exact h.ho.notAt_elem hj e)]
 exact hj
theorem Ints.fw {s:Nat} {K:SK} {z:FT} {o1 o2:Value} {l:List Int} {H1 H2:q0a} (h:SB H1 s K o1 l z) (a:Fw s o1 H1 H2 o2) {x:Value} {m:List Int} (hi:Ints H1 x m) (hc:Cut Tryz.prog H1 x 1) (hm:m≠[]):Ints H2 x m∧Cut Tryz.prog H2 x 1:=by
 obtain ⟨⟨p,c,rfl⟩,h2⟩:=hi
 have hm0:¬(m.length=0):=fun e=>hm (List.length_eq_zero_iff.1 e)
 unfold cellsOf at h2
 split at h2
 ·rename_i hv
  injection hv with _ e2 _
  exact absurd e2 hm0
 ·rename_i i o n' c' hv
  injection hv with e1 e2 e3
  subst e1 e2 e3
  obtain ⟨b,hb1,hb2⟩:=hc
  rw[if_neg hm0,hb1] at h2
  simp only at h2
  split at h2
  case isFalse=>cases h2
  rename_i hmm
  injection h2 with h2
  have hget:H2.get i=some b:=by
   refine Fw.get h a hb1 (fun e=>?_) (fun e=>?_)
   ·rw[e] at hb2
    have h4:(Tryz.prog.info? 70).map (·.size)=some 11:=by kernel_rfl
    rw[h4] at hb2
    injection hb2 with hb2
    omega
   ·obtain ⟨_,⟨rfl,_⟩|⟨j,ver,anc,rfl,hn,hg⟩⟩:=h.ho
    ·trivial
    ·intro e3
     simp only at e3
     subst e3
     rw[hg] at hb1
     injection hb1 with hb1
     subst hb1
     obtain ⟨u,m',rfl⟩:=List.exists_cons_of_ne_nil hm
     have hmem:(Value.int .i64 u)∈((u8s l).drop o).take ((u::m').length*1):=by rw[h2];simp[ints]
     have hmem2:=List.mem_of_mem_drop (List.mem_of_mem_take hmem)
     unfold u8s at hmem2
     obtain ⟨q,_,hq⟩:=List.mem_map.1 hmem2
     injection hq with hq _
     cases hq
  refine ⟨⟨⟨_,_,rfl⟩,?_⟩,⟨b,hget,hb2⟩⟩
  unfold cellsOf
  simp only[hget]
  rw[if_neg hm0,if_pos hmm,h2]
 ·rename_i hv
  injection hv with _ e2 _
  exact absurd e2 hm0
 ·cases h2
def tokW (P:Program) (H:q0a) (cs:List Value) (t:Tok):Prop:=∃a c,cs=tokC a c t∧(t.out≠[]→Ints H (.slice a t.out.length c) t.out∧Cut P H (.slice a t.out.length c) 1)
theorem z4t {P:Program}:k7z (tokW P):=fun H H' cs t hk ⟨a,c,h1,h2⟩=>⟨a,c,h1,fun hn=>⟨(h2 hn).1.keeps hk.keeps,(h2 hn).2.ver hk.ver⟩⟩
abbrev k1o (H:q0a) (v:Value) (L:List Tok):Prop:=q0U 4 (tokW Tryz.prog) H 36 v L
theorem k1o.fw {s:Nat} {K:SK} {z:FT} {o1 o2:Value} {l:List Int} {H1 H2:q0a} (h:SB H1 s K o1 l z) (a:Fw s o1 H1 H2 o2) {v:Value} {L:List Tok} (ht:k1o H1 v L):k1o H2 v L:=by
 obtain ⟨q0,cs,q1,q2⟩:=ht
 refine ⟨q0,cs,q1.move fun i b hi he=>Fw.get h a hi (by rw[he];decide) (fun e=>absurd (he.symm.trans e) (by decide)),fun k r hr=>?_⟩
 obtain ⟨p,c,h1,h2⟩:=q2 k r hr
 exact ⟨p,c,h1,fun hn=>Ints.fw h a (h2 hn).1 (h2 hn).2 hn⟩
theorem k1o.at' {H:q0a} {v:Value} {L:List Tok} (h:k1o H v L) {k:Nat} {x:Tok} (hx:L[k]?=some x):∃i o p c,(∀(kd:IntKind) (H2:q0a),q2E v (.int kd k) 4 H2=some (.pointer (some ⟨i,o,none⟩),H2))∧q0l (H.get i) o (some 4) H=some (.agg ⟨tokC p c x⟩,H)∧(x.out≠[]→Ints H (.slice p x.out.length c) x.out∧Cut Tryz.prog H (.slice p x.out.length c) 1):=by
 obtain ⟨i,o,row,a1,_,_,a4,p,c,rfl,a5⟩:=h.rws.at hx
 exact ⟨i,o,p,c,a1,a4,a5⟩
theorem SB.ext {s:Nat} {K:SK} {z:FT} {ow:Value} {l:List Int} {H1 H2:q0a} (h:SB H1 s K ow l z) (x:Ext H1 H2):SB H2 s K ow l z:=by
 obtain ⟨ver,hs⟩:=h.hs
 exact ⟨⟨ver,x.get hs⟩,Own.ext x h.ho⟩
theorem SB.add {s:Nat} {K:SK} {z:FT} {ow:Value} {l:List Int} {u:Int} {H:q0a} (h:SB H s K ow l z) (hl:l.length<1000000000):∃ver H1 v' H2 H3,H.get s=some ⟨SC K ow z,70,.tip,ver,[]⟩∧q0D 5 1 1 [.int .u8 0] [(0,1,.int .u8 u)] H=some (.slice (some ⟨H.n,0,none⟩) 1 2,H1)∧q0m H1 ow (.slice (some ⟨H.n,0,none⟩) 1 2) 5 1 1=some (v',H2)∧H2.get s=some ⟨SC K ow z,70,.tip,ver,[]⟩∧one v'=true∧H3=H2.upd s ⟨SC K v' z,70,.tip,ver+1,[]⟩∧SB H3 s K v' (l++[u]) z∧Fw s ow H H3 v':=by
 obtain ⟨ver,hs⟩:=h.hs
 have hos:q0i ow s:=h.ho.notAt_elem hs (by simp only;decide)
 obtain ⟨H1,v1,x1,i1⟩:=v_u1 (H:=H) (a:=u)
 obtain ⟨v',H2,m1,m2,m3,m4,m5⟩:=OwnB.add (Own.ext x1 h.ho) i1 (by simp) (by simp;omega)
 have hsl:=q0a.lt_of_get hs
 have x1n:=x1.1
 have g2:H2.get s=some ⟨SC K ow z,70,.tip,ver,[]⟩:=by rw[m5 s (by omega) hos];exact x1.get hs
 have hone:one v'=true:=by
  obtain ⟨⟨a1,c1,rfl⟩,_⟩:=m2.sl
  rfl
 obtain ⟨H3,hH3⟩:∃H3,H3=H2.upd s ⟨SC K v' z,70,.tip,ver+1,[]⟩:=⟨_,rfl⟩
 refine ⟨ver,H1,v',H2,H3,hs,v1,m1,g2,hone,hH3,⟨⟨ver+1,by rw[hH3];exact q0r g2⟩,Own.move m2 fun i b hi he=>?_⟩,?_,fun j hj hjs hn=>?_,fun j hj _=>q0i.of_from m3 (by omega)⟩
 ·rw[hH3,q0j g2 (fun e=>by subst e;rw[g2] at hi;injection hi with hi;subst hi;revert he;simp only;decide)]
  exact hi
 ·have:H3.n=H2.n:=by rw[hH3];simp
  omega
 ·rw[hH3,q0j g2 hjs,m5 j (by omega) hn,x1.2 j hj]
theorem SB.flt {s:Nat} {K:SK} {z:FT} {ow:Value} {l:List Int} {H:q0a} (h:SB H s K ow l z) (y:FT):∃ver H1,H.get s=some ⟨SC K ow z,70,.tip,ver,[]⟩∧H1=H.upd s ⟨SC K ow y,70,.tip,ver+1,[]⟩∧H1.get s=some ⟨SC K ow y,70,.tip,ver+1,[]⟩∧SB H1 s K ow l y∧Fw s ow H H1 ow:=by
 obtain ⟨ver,hs⟩:=h.hs
 obtain ⟨H1,hH1⟩:∃H1,H1=H.upd s ⟨SC K ow y,70,.tip,ver+1,[]⟩:=⟨_,rfl⟩
 have g1:H1.get s=some ⟨SC K ow y,70,.tip,ver+1,[]⟩:=by rw[hH1];exact q0r hs
 refine ⟨ver,H1,hs,hH1,g1,⟨⟨_,g1⟩,Own.move h.ho fun i b hi he=>?_⟩,by rw[hH1];simp,fun j hj hjs hn=>by rw[hH1,q0j hs hjs],fun j _ hn=>hn⟩
 rw[hH1,q0j hs (fun e=>by subst e;rw[hs] at hi;injection hi with hi;subst hi;revert he;simp only;decide)]
 exact hi
theorem v_flt {H:q0a} {a b c:Int}:q2l [.int .i64 0,.int .i64 0,.int .i64 0] [(0,1,.int .i64 a),(1,1,.int .i64 b),(2,1,.int .i64 c)] H=some (.agg ⟨[.int .i64 a,.int .i64 b,.int .i64 c]⟩,H):=rfl
theorem k9f {s:Nat} {K:SK} {z:FT} {ow:Value} {l:List Int} {H:q0a} {side:Int} {p:Option Addr} {c:Nat} {x:Tok} (h:SB H s K ow l z):q0p (cw Tryz.prog (tabF tab) om1 46 [.pointer (some ⟨s,0,none⟩),.int .i64 side,.agg ⟨tokC p c x⟩] H) fun v H'=>v=.bool (decide (K.pol=0))∧SB H' s K ow l (if K.pol=0 then (side,x.at_,x.err) else z)∧Fw s ow H H' ow:=by
 rw[q0g (F:=q1N) rfl rfl rfl]
 unfold q1N q4o
 obtain ⟨H1,hH1⟩:∃H1,H1=H.push ⟨tokC p c x,36,.tip,0,[]⟩:=⟨_,rfl⟩
 have x1:Ext H H1:=by rw[hH1];exact Ext.push H _
 have g1:H1.get H.n=some ⟨tokC p c x,36,.tip,0,[]⟩:=by rw[hH1];exact q0b
 have hbx:vBox (.agg ⟨tokC p c x⟩) 36 H=some (.pointer (some ⟨H.n,0,none⟩),H1):=by rw[hH1];exact q8H rfl
 have h1:=h.ext x1
 obtain ⟨ver,H2,gs,hH2,gs2,h2,f2⟩:=h1.flt (side,x.at_,x.err)
 have f1:Fw s ow H H1 ow:=(Fw.refl s ow H).ext x1
 have st:=k5P (H:=H1) (i:=s) (ver:=ver) (el:=70) (K:=K) (ow:=ow) (z:=z) (a:=side) (b:=x.at_) (c:=x.err)
 rw[←hH2] at st
 by_cases hp:K.pol=0
 ·have zp:(K.pol=0)=True:=eq_true hp
  rw[if_pos hp]
  simp only[WA,Nat.reduceEqDiff,reduceCtorEq,hbx,gs,sc2,zp,g1,tk0,tk3,v_flt,st]
  exact ⟨h2,f1.trans f2⟩
 ·have zp:(K.pol=0)=False:=eq_false hp
  rw[if_neg hp]
  simp only[WA,Nat.reduceEqDiff,reduceCtorEq,hbx,gs,sc2,zp]
  exact ⟨h1,f1⟩
def wrF (pol:Int):List Tok→List Int×FT→List Int×FT
 | [],z=>z
 | x::T,z=>if z.2.2.2≠0 then z else if x.err=0 then wrF pol T (z.1++x.out,z.2) else if pol=0 then wrF pol T (z.1,(2,x.at_,x.err)) else if pol=1 then wrF pol T (z.1++[63],z.2) else wrF pol T z
def wl (T:List Tok):Nat:=(T.map fun x=>x.out.length+1).sum
def okW (T:List Tok):Prop:=∀x∈T,x.err=0→∀u∈x.out,0≤u∧u<256
def PW0 (s:Nat) (K:SK) (z:FT) (v8 v9 v10 ow0:Value) (l:List Int) (H0:q0a) (y:AEx) (e':Env) (H':q0a):Prop:=y=.exit 3∧eget e' 0=.pointer (some ⟨s,0,none⟩)∧eget e' 8=v8∧eget e' 9=v9∧eget e' 10=v10∧∃ow',SB H' s K ow' l z∧Fw s ow0 H0 H' ow'
theorem l_wr0 {s:Nat} {K:SK} {z:FT} {x v8 v9 v10 ow0:Value} {l m:List Int} {H0:q0a} (hb:∀u∈m,0≤u∧u<256) (hl:l.length+m.length<1000000000):∀(c k:Nat) (H:q0a) (ow:Value),k+c=m.length→SB H s K ow (l++m.take k) z→(m≠[]→Ints H x m∧Cut Tryz.prog H x 1)→Fw s ow0 H0 H ow →
  Out (run Tryz.prog (tabF tab) om1 (.loop [0,8,9,10,26,27,28] q1i) [(0,.pointer (some ⟨s,0,none⟩)),(8,v8),(9,v9),(10,v10),(26,x),(27,.int .i64 m.length),(28,.int .i64 k)] H) (PW0 s K z v8 v9 v10 ow0 (l++m) H0):=by
 intro c
 induction c with
 | zero=>
  intro k H ow hk h hi hf
  obtain rfl:k=m.length:=by omega
  have zz:(((m.length:Nat):Int)<(m.length:Nat))=False:=by simp
  rw[q0d q1i.eq_1]
  simp only[WA,Nat.reduceEqDiff,reduceCtorEq,zz]
  rw[List.take_of_length_le (Nat.le_refl _)] at h
  exact ⟨rfl,rfl,rfl,rfl,rfl,ow,h,hf⟩
 | succ c ih=>
  intro k H ow hk h hi hf
  have hlt:((k:Int)<(m.length:Nat))=True:=eq_true (by omega)
  obtain ⟨u,hu,_⟩:=q0z (L:=m) (i:=k) (by omega)
  obtain ⟨u0,u1⟩:=hb u (List.mem_of_getElem? hu)
  have hm:m≠[]:=fun e=>by subst e;simp at hu
  obtain ⟨hi1,hi2⟩:=hi hm
  obtain ⟨i,o,a1,a2⟩:=hi1.at hu
  have hw:IntKind.u8.wrap u=u:=k1n u0 u1
  have hw2:IntKind.i64.wrap ((k:Int)+1)=((k+1:Nat):Int):=by rw[q0k (by omega) (by omega)];omega
  obtain ⟨ver,H1,v',H2,H3,g0,v1,m1,g2,hone,hH3,h3,f3⟩:=SB.add (u:=u) h (by rw[List.length_append,List.length_take];omega)
  have ht:l++m.take k++[u]=l++m.take (k+1):=by rw[List.append_assoc,List.take_add_one,hu];rfl
  rw[ht] at h3
  obtain ⟨y,e',H',r1,r2⟩:=ih (k+1) H3 v' (by omega) h3 (fun hm=>Ints.fw h f3 hi1 hi2 hm) (hf.trans f3)
  have st:=k9e (H:=H2) (i:=s) (ver:=ver) (el:=70) (K:=K) (z:=z) (ow:=ow) (x:=v') hone
  rw[←hH3] at st
  rw[q0d q1i.eq_1]
  simp only[WA,Nat.reduceEqDiff,reduceCtorEq,hlt,a1,a2,g0,sc5,hw,v1,m1,g2,st,hw2]
  rw[q0e]
  simp only[WA,Nat.reduceEqDiff,reduceCtorEq,r1]
  exact r2
def PW1 (s:Nat) (K:SK) (ow0:Value) (r:List Int×FT) (H0:q0a) (y:AEx) (e':Env) (H':q0a):Prop:=(y=.exit 0∨y=.ret)∧∃ow',SB H' s K ow' r.1 r.2∧Fw s ow0 H0 H' ow'
theorem k5Q {x:Tok} {T:List Tok}:wl (x::T)=x.out.length+1+wl T:=by simp[wl]
theorem l_wr1 {s:Nat} {K:SK} {w ow0:Value} {T:List Tok} {H0:q0a} (hT:okW T):∀(c k:Nat) (H:q0a) (ow:Value) (l:List Int) (z:FT),k+c=T.length→l.length+wl (T.drop k)<1000000000→SB H s K ow l z→k1o H w T→Fw s ow0 H0 H ow →
  Out (run Tryz.prog (tabF tab) om1 (.loop [0,8,9,10] q0w) [(0,.pointer (some ⟨s,0,none⟩)),(8,w),(9,.int .i64 T.length),(10,.int .i64 k)] H) (PW1 s K ow0 (wrF K.pol (T.drop k) (l,z)) H0):=by
 intro c
 induction c with
 | zero=>
  intro k H ow l z hk hl h ht hf
  obtain rfl:k=T.length:=by omega
  have zz:(((T.length:Nat):Int)<(T.length:Nat))=False:=by simp
  rw[q0d q0w.eq_1]
  simp only[WA,Nat.reduceEqDiff,reduceCtorEq,zz]
  rw[List.drop_of_length_le (Nat.le_refl _)]
  exact ⟨.inl rfl,ow,h,hf⟩
 | succ c ih=>
  intro k H ow l z hk hl h ht hf
  have hTl:=ht.1
  have hlt:((k:Int)<(T.length:Nat))=True:=eq_true (by omega)
  obtain ⟨x,hxk,hdx⟩:=q0z (L:=T) (i:=k) (by omega)
  rw[hdx,k5Q] at hl
  obtain ⟨i,o,px,cx,a1,a6,a7⟩:=k1o.at' ht hxk
  obtain ⟨H1,hH1⟩:∃H1,H1=H.push ⟨tokC px cx x,36,.tip,1,[]⟩:=⟨_,rfl⟩
  have x1:Ext H H1:=by rw[hH1];exact Ext.push H _
  have g1:H1.get H.n=some ⟨tokC px cx x,36,.tip,1,[]⟩:=by rw[hH1];exact q0b
  have h1:=h.ext x1
  have ht1:=q0U.ext z4t x1 ht
  obtain ⟨ver,gs⟩:=h1.hs
  have hw2:IntKind.i64.wrap ((k:Int)+1)=((k+1:Nat):Int):=by rw[q0k (by omega) (by omega)];omega
  rw[hdx]
  by_cases hz:z.2.2≠0
  ·have z8:(z.2.2≠0)=True:=eq_true hz
   have hW:wrF K.pol (x::T.drop (k+1)) (l,z)=(l,z):=by unfold wrF;rw[if_pos hz]
   rw[hW,q0d q0w.eq_1]
   simp only[WA,Nat.reduceEqDiff,Nat.reduceAdd,reduceCtorEq,hlt,a1,a6,q1F,←hH1,gs,sc8,z8]
   exact ⟨.inr rfl,ow,h1,hf.ext x1⟩
  have z8:(z.2.2≠0)=False:=eq_false hz
  by_cases hx:x.err=0
  ·have z0:(x.err=0)=True:=eq_true hx
   have hW:wrF K.pol (x::T.drop (k+1)) (l,z)=wrF K.pol (T.drop (k+1)) (l++x.out,z):=by conv=>lhs;unfold wrF;rw[if_neg hz,if_pos hx]
   obtain ⟨y',e2,H3,p1,rfl,p2,p3,p4,p5,ow3,p6,p7⟩:=l_wr0 (s:=s) (K:=K) (z:=z) (x:=.slice px x.out.length cx) (v8:=w) (v9:=.int .i64 T.length) (v10:=.int .i64 k) (ow0:=ow) (l:=l) (m:=x.out) (H0:=H1) (hT x (List.mem_of_getElem? hxk) hx) (by omega) x.out.length 0 H1 ow (by omega) (by rw[List.take_zero,List.append_nil];exact h1) (fun hn=>⟨(a7 hn).1.ext x1,(a7 hn).2.ext x1⟩) (Fw.refl _ _ _)
   rw[show ((0:Nat):Int)=0 from rfl] at p1
   have ht3:=k1o.fw h1 p7 ht1
   obtain ⟨y,e',H4,r1,r2⟩:=ih (k+1) H3 ow3 (l++x.out) z (by omega) (by rw[List.length_append];omega) p6 ht3 ((hf.ext x1).trans p7)
   rw[hW,q0d q0w.eq_1]
   simp only[WA,Nat.reduceEqDiff,Nat.reduceAdd,reduceCtorEq,hlt,a1,a6,q1F,←hH1,g1,tk2,tk3,gs,sc8,z8,z0]
   rw[q0e]
   simp only[WA,Nat.reduceEqDiff,reduceCtorEq,p1,p5,hw2]
   rw[q0e]
   simp only[WA,Nat.reduceEqDiff,reduceCtorEq,p2,p3,p4,p5,r1]
   exact r2
  have z0:(x.err=0)=False:=eq_false hx
  obtain ⟨v2,H2,c2,rfl,h2,f2⟩:=k9f (side:=2) (p:=px) (c:=cx) (x:=x) h1
  have g2:=Fw.get h1 f2 g1 (by simp only;decide) (fun e=>absurd e (by simp only;decide))
  have ht2:=k1o.fw h1 f2 ht1
  have ld:q0l (H1.get H.n) 0 (some 4) H1=some (.agg ⟨tokC px cx x⟩,H1):=by
   rw[g1,q4e q0n (by simp[tokC])];rfl
  rw[g1] at ld
  by_cases hp0:K.pol=0
  ·have hd:decide (K.pol=0)=true:=by simp[hp0]
   rw[hd] at c2
   rw[if_pos hp0] at h2
   have hW:wrF K.pol (x::T.drop (k+1)) (l,z)=wrF K.pol (T.drop (k+1)) (l,(2,x.at_,x.err)):=by conv=>lhs;unfold wrF;rw[if_neg hz,if_neg hx,if_pos hp0]
   obtain ⟨y,e',H4,r1,r2⟩:=ih (k+1) H2 ow l (2,x.at_,x.err) (by omega) (by omega) h2 ht2 ((hf.ext x1).trans f2)
   rw[hW,q0d q0w.eq_1]
   simp only[WA,Nat.reduceEqDiff,Nat.reduceAdd,reduceCtorEq,hlt,a1,a6,q1F,←hH1,g1,tk3,gs,sc8,z8,z0,ld,c2,hw2]
   rw[q0e]
   simp only[WA,Nat.reduceEqDiff,reduceCtorEq,r1]
   exact r2
  have hd:decide (K.pol=0)=false:=by simp[hp0]
  rw[hd] at c2
  rw[if_neg hp0] at h2
  obtain ⟨ver2,gs2⟩:=h2.hs
  by_cases hp1:K.pol=1
  ·have zp:(K.pol=1)=True:=eq_true hp1
   have hW:wrF K.pol (x::T.drop (k+1)) (l,z)=wrF K.pol (T.drop (k+1)) (l++[63],z):=by conv=>lhs;unfold wrF;rw[if_neg hz,if_neg hx,if_neg hp0,if_pos hp1]
   obtain ⟨ver3,H3,v',H4,H5,g0,v1,m1,g4,hone,hH5,h5,f5⟩:=SB.add (u:=63) h2 (by omega)
   have ht5:=k1o.fw h2 f5 ht2
   obtain ⟨y,e',H6,r1,r2⟩:=ih (k+1) H5 v' (l++[63]) z (by omega) (by rw[List.length_append];simp;omega) h5 ht5 (((hf.ext x1).trans f2).trans f5)
   have st:=k9e (H:=H4) (i:=s) (ver:=ver3) (el:=70) (K:=K) (z:=z) (ow:=ow) (x:=v') hone
   rw[←hH5] at st
   rw[hW,q0d q0w.eq_1]
   simp only[WA,Nat.reduceEqDiff,Nat.reduceAdd,reduceCtorEq,hlt,a1,a6,q1F,←hH1,g1,tk3,gs,sc8,z8,z0,ld,c2,hw2,gs2,sc2,sc5,zp,v1,m1,g4,st]
   rw[q0e]
   simp only[WA,Nat.reduceEqDiff,reduceCtorEq,r1]
   exact r2
  ·have zp:(K.pol=1)=False:=eq_false hp1
   have hW:wrF K.pol (x::T.drop (k+1)) (l,z)=wrF K.pol (T.drop (k+1)) (l,z):=by conv=>lhs;unfold wrF;rw[if_neg hz,if_neg hx,if_neg hp0,if_neg hp1]
   obtain ⟨y,e',H6,r1,r2⟩:=ih (k+1) H2 ow l z (by omega) (by omega) h2 ht2 ((hf.ext x1).trans f2)
   rw[hW,q0d q0w.eq_1]
   simp only[WA,Nat.reduceEqDiff,Nat.reduceAdd,reduceCtorEq,hlt,a1,a6,q1F,←hH1,g1,tk3,gs,sc8,z8,z0,ld,c2,hw2,gs2,sc2,zp]
   rw[q0e]
   simp only[WA,Nat.reduceEqDiff,reduceCtorEq,r1]
   exact r2
theorem k3f {s:Nat} {K:SK} {z:FT} {w ow:Value} {l:List Int} {T:List Tok} {H:q0a} (hT:okW T) (hl:l.length+wl T<1000000000) (h:SB H s K ow l z) (ht:k1o H w T):q0p (cw Tryz.prog (tabF tab) om1 26 [.pointer (some ⟨s,0,none⟩),w] H) fun v H'=>∃ow',SB H' s K ow' (wrF K.pol T (l,z)).1 (wrF K.pol T (l,z)).2∧Fw s ow H H' ow':=by
 rw[q0g (F:=q1o) rfl rfl rfl]
 unfold q1o q3I
 have hw:=fun H9=>Rws.len (H2:=H9) ht.rws
 obtain ⟨y,e',H',r1,ry,ow',r2,r3⟩:=l_wr1 (ow0:=ow) (w:=w) (H0:=H) hT T.length 0 H ow l z (by omega) hl h ht (Fw.refl _ _ _)
 rw[show ((0:Nat):Int)=0 from rfl] at r1
 simp only[WA,Nat.reduceEqDiff,reduceCtorEq,hw]
 rw[q0e]
 rcases ry with rfl|rfl
 ·simp only[WA,Nat.reduceEqDiff,reduceCtorEq,r1]
  exact ⟨ow',r2,r3⟩
 ·simp only[WA,Nat.reduceEqDiff,reduceCtorEq,r1]
  exact ⟨ow',r2,r3⟩
theorem q8w {H:q0a} {i ver:Nat} {el:TypeId} {a b c u v x:Value} (h1:[u,v,x].all one=true):q0u (some ⟨[a,b,c],el,.tip,ver,[]⟩) i 0 (.agg ⟨[u,v,x]⟩) 3 H=some (.tuple ⟨[]⟩,H.upd i ⟨[u,v,x],el,.tip,ver+1,[]⟩):=by
 have:=q0x (H:=H) (cells:=[a,b,c]) (el:=el) (ver:=ver) (anc:=[]) (i:=i) (o:=0) (n:=3) (v:=.agg ⟨[u,v,x]⟩) rfl h1 (Nat.le_refl 3)
 rw[this]
 rfl
theorem z9Y {H:q0a} {ver:Nat} {el:TypeId} {a b c:Value}:q0l (some ⟨[a,b,c],el,.tip,ver,[]⟩) 0 (some 3) H=some (.agg ⟨[a,b,c]⟩,H):=by
 rw[q4e q0n (by simp)];rfl
end Go.Proofs.YtleiinhaljdcoaaGreatDoor
