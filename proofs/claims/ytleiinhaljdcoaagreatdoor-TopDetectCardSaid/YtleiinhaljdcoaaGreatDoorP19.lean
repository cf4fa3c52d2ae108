/- What is proved here: what the program's functions come to, as far as the claimed statement asks. Conditions: those that each theorem names, and no others. -/
import Derived.Test.YtleiinhaljdcoaaGreatDoorP18
set_option linter.unusedSimpArgs false
set_option linter.unusedVariables false
namespace Go.Proofs.YtleiinhaljdcoaaGreatDoor
open Go Lon
set_option maxRecDepth 100000
def txt1:List Int:=[84,105,170,110,103]
def out1:List Int:=[84,105,225,186,191,110,103]
def txt2:List Int:=[224,164,149,97,224,166,149]
def out2:List Int:=[179,97,239,67,179]
theorem run1:gF 0 (dcK 2 txt1)=(out1,(0,0,0)):=by kernel_rfl
theorem run2:saF 0 rbS rbF jeS jeF txt2 ([],0) ((([],0,0),[]),0,0)=(out2,(0,0,0)):=by kernel_rfl
theorem j3h {x:Value} {H:q0a} (hx:Nums H .u8 x txt1):q0p (cw Tryz.prog (tabF tab) om1 8 [.string (nm 2),.string (nm 0),.int .i64 0,x] H) fun v H'=>Ext H H'∧∃ow,v=.tuple ⟨[ow,.agg ⟨[.int .i64 0,.int .i64 0,.int .i64 0]⟩,.int .i64 0]⟩∧OwnB H' ow out1∧From H.n ow:=by
 obtain ⟨v,H',c,h1,_,h3⟩:=j2Q (k:=2) (pol:=0) (by omega) (by omega) hx (by decide) (by decide)
 rw[run1] at h3
 exact ⟨v,H',c,h1,h3⟩
theorem j3i {x:Value} {H:q0a} (hx:Nums H .u8 x txt2):q0p (cw Tryz.prog (tabF tab) om1 8 [.string (nm 0),.string (nm 7),.int .i64 0,x] H) fun v H'=>Ext H H'∧∃ow,v=.tuple ⟨[ow,.agg ⟨[.int .i64 0,.int .i64 0,.int .i64 0]⟩,.int .i64 0]⟩∧OwnB H' ow out2∧From H.n ow:=by
 obtain ⟨v,H2,c2,rfl,rv,wv,C,D,C',D',hM⟩:=z8n (f:=nm 0) (t:=nm 7) (pol:=0) (H:=H.push ⟨[.int .i64 0,.int .i64 0,.int .i64 0],27,.tip,0,[]⟩) (R:=RdB) (M:=WrJ) (fun v=>mc_B) (fun v=>mc_J) (by omega) (fun H=>q8W (by omega)) (fun H=>q8W (by omega)) (fun H=>mk_B) (fun H=>mk_J)
 rw[q0a.n_push] at c2 hM
 obtain ⟨v,H',c,h1,_,h3⟩:=z8m (mc_B (v:=rv)) rg_B (mc_J (v:=wv)) wg_J (by decide) (by decide) (by decide) hx (by decide) c2 hM
 have h3:∃ow,v=.tuple ⟨[ow,fvF (saF 0 rbS rbF jeS jeF txt2 ([],0) ((([],0,0),[]),0,0)).2,.int .i64 0]⟩∧OwnB H' ow (saF 0 rbS rbF jeS jeF txt2 ([],0) ((([],0,0),[]),0,0)).1∧From H.n ow:=h3
 rw[run2] at h3
 exact ⟨v,H',c,h1,h3⟩
theorem v_u5 {H:q0a} {a b c d e:Int}:∃H1,q0D 5 5 1 [.int .u8 0] [(0,1,.int .u8 a),(1,1,.int .u8 b),(2,1,.int .u8 c),(3,1,.int .u8 d),(4,1,.int .u8 e)] H=some (.slice (some ⟨H.n,0,none⟩) 5 6,H1)∧Ext H H1∧Nums H1 .u8 (.slice (some ⟨H.n,0,none⟩) 5 6) [a,b,c,d,e]:=⟨H.push ⟨[.int .u8 a,.int .u8 b,.int .u8 c,.int .u8 d,.int .u8 e],5,.tip,0,[]⟩,rfl,Ext.push H _,Sl.new (n:=5) (c:=6) q0b q0n rfl⟩
theorem v_u7 {H:q0a} {a b c d e f g:Int}:q0D 5 7 1 [.int .u8 0] [(0,1,.int .u8 a),(1,1,.int .u8 b),(2,1,.int .u8 c),(3,1,.int .u8 d),(4,1,.int .u8 e),(5,1,.int .u8 f),(6,1,.int .u8 g)] H=some (.slice (some ⟨H.n,0,none⟩) 7 8,H.push ⟨[.int .u8 a,.int .u8 b,.int .u8 c,.int .u8 d,.int .u8 e,.int .u8 f,.int .u8 g],5,.tip,0,[]⟩):=rfl
theorem j0D {H:q0a} {i n c ver:Nat} {cs:List Value} {el:TypeId} (hg:H.get i=some ⟨cs,el,.tip,ver,[]⟩) (hc:c≠0):fixA (.slice (some ⟨i,0,none⟩) n c) H=some (.slice (some ⟨i,0,none⟩) n c,H.upd i ⟨cs,el,.ret,ver,[]⟩):=by
 unfold fixA
 simp only[hg]
 rw[if_pos ⟨trivial,hc⟩]
theorem z5r {H:q0a} {v:Value} {l:List Int} {s:ByteArray} (h:OwnB H v l) (ht:txtB ByteArray.empty (u8s l)=some s):z8W v H=some (.string s,H):=by
 obtain ⟨_,h2⟩:=h.sl
 unfold z8W
 rw[h2]
 simp only
 rw[ht]
 rfl
theorem j3j:txtB ByteArray.empty (u8s out1)=some ⟨#[84,105,225,186,191,110,103]⟩:=by kernel_rfl
theorem j3k:txtB ByteArray.empty (u8s out2)=some ⟨#[179,97,239,67,179]⟩:=by kernel_rfl
theorem j3l:binV .eql 9 (.string ⟨#[84,105,225,186,191,110,103]⟩) (.string ⟨#[84,105,225,186,191,110,103]⟩)=some (.bool true):=by kernel_rfl
theorem j3m:binV .eql 9 (.string ⟨#[179,97,239,67,179]⟩) (.string ⟨#[179,97,239,67,179]⟩)=some (.bool true):=by kernel_rfl
theorem j0E {H:q0a}:q0p (cw Tryz.prog (tabF tab) om1 7 [] H) fun v H'=>Ext H H'∧v=.bool true:=by
 rw[q0g (F:=q3h) rfl rfl rfl]
 unfold q3h q6B
 obtain ⟨H1,v1,x1,i1⟩:=v_u5 (H:=H) (a:=84) (b:=105) (c:=170) (d:=110) (e:=103)
 obtain ⟨v2,H2,c2,x2,o2,rfl,ho2,hf2⟩:=j3h i1
 have c2:cw Tryz.prog (tabF tab) om1 8 [.string ⟨#[118,105,115,99,105,105]⟩,.string ⟨#[117,116,102,45,56]⟩,.int .i64 0,.slice (some ⟨H.n,0,none⟩) 5 6] H1=some (.tuple ⟨[o2,.agg ⟨[.int .i64 0,.int .i64 0,.int .i64 0]⟩,.int .i64 0]⟩,H2):=c2
 obtain ⟨H3,hH3⟩:∃H3,H3=H2.push ⟨[.int .i64 0,.int .i64 0,.int .i64 0],27,.tip,1,[]⟩:=⟨_,rfl⟩
 have x3:Ext H2 H3:=by rw[hH3];exact Ext.push H2 _
 have g3:H3.get H2.n=some ⟨[.int .i64 0,.int .i64 0,.int .i64 0],27,.tip,1,[]⟩:=by rw[hH3];exact q0b
 have st3:=q8w (H:=H2.push ⟨[.int .i64 0,.int .i64 0,.int .i64 0],27,.tip,0,[]⟩) (i:=H2.n) (ver:=0) (el:=27) (a:=.int .i64 0) (b:=.int .i64 0) (c:=.int .i64 0) (u:=.int .i64 0) (v:=.int .i64 0) (x:=.int .i64 0) rfl
 simp only[Nat.zero_add] at st3
 obtain ⟨H4,hH4⟩:∃H4,H4=H3.push ⟨[.int .u8 224,.int .u8 164,.int .u8 149,.int .u8 97,.int .u8 224,.int .u8 166,.int .u8 149],5,.tip,0,[]⟩:=⟨_,rfl⟩
 have x4:Ext H3 H4:=by rw[hH4];exact Ext.push H3 _
 have g4:H4.get H3.n=some ⟨[.int .u8 224,.int .u8 164,.int .u8 149,.int .u8 97,.int .u8 224,.int .u8 166,.int .u8 149],5,.tip,0,[]⟩:=by rw[hH4];exact q0b
 have f4:=j0D (n:=7) (c:=8) g4 (by decide)
 obtain ⟨H5,hH5⟩:∃H5,H5=H4.upd H3.n ⟨[.int .u8 224,.int .u8 164,.int .u8 149,.int .u8 97,.int .u8 224,.int .u8 166,.int .u8 149],5,.ret,0,[]⟩:=⟨_,rfl⟩
 rw[←hH5] at f4
 have x5:Ext H3 H5:=by rw[hH5];exact Ext.upd x4 g4 (Nat.le_refl _)
 have g5:H5.get H3.n=some ⟨[.int .u8 224,.int .u8 164,.int .u8 149,.int .u8 97,.int .u8 224,.int .u8 166,.int .u8 149],5,.ret,0,[]⟩:=by rw[hH5];exact q0r g4
 have i5:Nums H5 .u8 (.slice (some ⟨H3.n,0,none⟩) 7 8) txt2:=Sl.new (n:=7) (c:=8) g5 k5v rfl
 obtain ⟨v6,H6,c6,x6,o6,rfl,ho6,hf6⟩:=j3i i5
 have c6:cw Tryz.prog (tabF tab) om1 8 [.string ⟨#[117,116,102,45,56]⟩,.string ⟨#[105,115,99,105,105]⟩,.int .i64 0,.slice (some ⟨H3.n,0,none⟩) 7 8] H5=some (.tuple ⟨[o6,.agg ⟨[.int .i64 0,.int .i64 0,.int .i64 0]⟩,.int .i64 0]⟩,H6):=c6
 obtain ⟨H7,hH7⟩:∃H7,H7=H6.push ⟨[.int .i64 0,.int .i64 0,.int .i64 0],27,.tip,1,[]⟩:=⟨_,rfl⟩
 have x7:Ext H6 H7:=by rw[hH7];exact Ext.push H6 _
 have g7:H7.get H6.n=some ⟨[.int .i64 0,.int .i64 0,.int .i64 0],27,.tip,1,[]⟩:=by rw[hH7];exact q0b
 have st7:=q8w (H:=H6.push ⟨[.int .i64 0,.int .i64 0,.int .i64 0],27,.tip,0,[]⟩) (i:=H6.n) (ver:=0) (el:=27) (a:=.int .i64 0) (b:=.int .i64 0) (c:=.int .i64 0) (u:=.int .i64 0) (v:=.int .i64 0) (x:=.int .i64 0) rfl
 simp only[Nat.zero_add] at st7
 have x37:=(x5.trans x6).trans x7
 have g37:=x37.get g3
 have t2:=z5r (Own.ext (x3.trans x37) ho2) j3j
 have t6:=z5r (Own.ext x7 ho6) j3k
 have z0:((0:Int)=0)=True:=by simp
 simp only[WA,Nat.reduceEqDiff,reduceCtorEq,v1,c2,st3,←hH3,v_u7,←hH4,j0Y,f4,c6,st7,←hH7,g37,g7,j0X,t2,t6,q1I gS,j3l,j3m]
 exact (x1.trans (x2.trans (x3.trans x37)))
end Go.Proofs.YtleiinhaljdcoaaGreatDoor
