/- What is proved here: what the program's functions come to, as far as the claimed statement asks. Conditions: those that each theorem names, and no others. -/
import Derived.Test.YtleiinhaljdcoaaGreatDoorP6
set_option linter.unusedSimpArgs false
set_option linter.unusedVariables false
namespace Lon
open Go Go.RowKit
def shV (k:Nat) (v:Value):Value:=match v with
 | .slice (some ⟨i,o,none⟩) n c=>.slice (some ⟨k+i,o,none⟩) n c
 | .pointer (some ⟨i,o,none⟩)=>.pointer (some ⟨k+i,o,none⟩)
 | .slice (some ⟨i,o,some k⟩) 0 0=>.slice (some ⟨i,o,some k⟩) 0 0
 | v=>if atom v=true then v else poison
theorem k8X {σ σ':Sig} {k:Nat} (hs:∀i l,σ i=some l→σ' (k+i)=some l) {v u:Value} (h:VR σ v u):VR σ' (shV k v) u:=by
 unfold shV
 split
 ·cases h with
  | slice _ _ _ _ f' c' l hl h1 h2 h3 h4 h5=>exact .slice _ _ _ _ f' c' l (hs _ _ hl) h1 h2 h3 h4 h5
 ·cases h with
  | ptr _ _ l hl=>exact .ptr _ _ l (hs _ _ hl)
 ·cases h with
  | nilAt a=>exact .nilAt a
 ·split
  ·rename_i ha
   rw[VR.eq_atom ha h]
   exact VR.of_atom ha
  ·exact .poison _
def shB (k:Nat) (b:ABlk):ABlk:=⟨b.cells.map (shV k),b.elem,b.st,b.ver,b.anc.map (k+·)⟩
noncomputable def k5G (H H0:q0a):Nat→q0a
 | 0=>H
 | m+1=>match H0.get m with
  | some b=>(k5G H H0 m).push (shB H.n b)
  | none=>(k5G H H0 m).push ⟨[],0,.dead,0,[]⟩
noncomputable def q9o (H H0:q0a):q0a:=k5G H H0 H0.n
theorem k2U (H H0:q0a):∀m,(k5G H H0 m).n=H.n+m
 | 0=>rfl
 | m+1=>by
  unfold k5G
  split<;>rw[q0a.n_push,k2U H H0 m]<;>omega
theorem k7E (H H0:q0a):∀m,Ext H (k5G H H0 m)
 | 0=>Ext.refl _
 | m+1=>by
  unfold k5G
  split<;>exact (k7E H H0 m).trans (Ext.push _ _)
theorem q8e (H H0:q0a):Ext H (q9o H H0):=k7E _ _ _
theorem k7F {H H0:q0a}:∀{m j:Nat} {b:ABlk},j<m→H0.get j=some b→(k5G H H0 m).get (H.n+j)=some (shB H.n b)
 | m+1,j,b,hj,hg=>by
  unfold k5G
  by_cases e:j=m
  ·subst e
   rw[hg]
   simp only
   rw[q0a.get_push,k2U,if_pos rfl]
  ·have:=k7F (H:=H) (m:=m) (by omega) hg
   split<;>rw[q0a.get_push,k2U,if_neg (by omega),this]
theorem k2V {H H0:q0a} {j:Nat} {b:ABlk} (hg:H0.get j=some b):(q9o H H0).get (H.n+j)=some (shB H.n b):=k7F (q0a.lt_of_get hg) hg
noncomputable def okH (H0:q0a):Bool:=(List.range H0.n).all fun j=>match H0.get j with
 | some b=>(match b.st with|.ro=>false|_=>true)
 | none=>false
theorem z5Z {H0:q0a} (h:okH H0=true) {j:Nat} (hj:j<H0.n):∃b,H0.get j=some b∧b.st≠.ro:=by
 have:=List.all_eq_true.1 h j (List.mem_range.2 hj)
 split at this
 ·rename_i b hb
  refine ⟨b,hb,fun e=>?_⟩
  rw[e] at this
  cases this
 ·cases this
theorem q4B {H H0:q0a} (hok:okH H0=true) {i:Nat} {b:ABlk} (h:(q9o H H0).get i=some b):(i<H.n∧H.get i=some b)∨∃j b0,i=H.n+j∧H0.get j=some b0∧b0.st≠.ro∧b=shB H.n b0:=by
 by_cases hi:i<H.n
 ·exact .inl ⟨hi,by rw[←(q8e H H0).2 i hi];exact h⟩
 ·have hl:=q0a.lt_of_get h
  unfold q9o at hl
  rw[k2U] at hl
  obtain ⟨b0,h1,h2⟩:=z5Z hok (j:=i-H.n) (by omega)
  refine .inr ⟨i-H.n,b0,by omega,h1,h2,?_⟩
  have:=k2V (H:=H) h1
  rw[show H.n+(i-H.n)=i by omega,h] at this
  injection this
def k3G (n:Nat) (σ σ1:Sig):Sig:=fun i=>if i<n then σ i else σ1 (i-n)
theorem k0k {n i:Nat} {σ σ1:Sig} (h:i<n):k3G n σ σ1 i=σ i:=if_pos h
theorem k5H {n j:Nat} {σ σ1:Sig}:k3G n σ σ1 (n+j)=σ1 j:=by
 unfold k3G
 rw[if_neg (by omega),show n+j-n=j by omega]
section
variable {P:Program} {base:Nat}
theorem VRs.sh {σ σ':Sig} {k:Nat} (hs:∀i l,σ i=some l→σ' (k+i)=some l):∀{vs us:List Value},VRs σ vs us→VRs σ' (vs.map (shV k)) us
 | [],us,h=>by cases h;exact .nil
 | v::vs,us,h=>by
  cases h with
  | cons _ u _ us h1 h2=>exact .cons _ _ _ _ (k8X hs h1) (VRs.sh hs h2)
theorem HR.laid {σ σ1:Sig} {H H0:q0a} {w w':World} (hok:okH H0=true) (hb:base≤w.heap.size) (hh:HR P σ base H w) (h1:HR P σ1 w.heap.size H0 w') (hs:w.heap.size≤w'.heap.size) (hk:∀k,k<w.heap.size→w'.heap[k]?=w.heap[k]?) :
  HR P (k3G H.n σ σ1) base (q9o H H0) w':=by
 have hw:=hh.world hs hk
 have sA:∀{i},i<H.n→(k3G H.n σ σ1) i=σ i:=fun {i} hi=>k0k hi
 have sB:∀{j},(k3G H.n σ σ1) (H.n+j)=σ1 j:=fun {j}=>k5H
 have sub:Sub σ (k3G H.n σ σ1):=fun i l h=>by
  by_cases hi:i<H.n
  ·rw[k0k hi];exact h
  ·rw[hh.out i (by omega)] at h;cases h
 have low:∀{i b l},H.get i=some b→b.st≠.dead→σ i=some l→l.b<w.heap.size:=fun hg hd hl=>hh.lt hg hd hl
 have cs:∀{i b l},(q9o H H0).get i=some b→(k3G H.n σ σ1) i=some l→(i<H.n∧H.get i=some b∧σ i=some l)∨∃j b0,i=H.n+j∧H0.get j=some b0∧b0.st≠.ro∧b=shB H.n b0∧σ1 j=some l:=fun {i b l} hg hl=>by
  rcases q4B hok hg with ⟨hi,h⟩|⟨j,b0,rfl,h2,h3,h4⟩
  ·rw[sA hi] at hl;exact .inl ⟨hi,h,hl⟩
  ·rw[sB] at hl;exact .inr ⟨j,b0,rfl,h2,h3,h4,hl⟩
 have memM:∀{i j:Nat} {l:List Nat},H.n+i∈l.map (H.n+·)→i∈l:=fun {i j l} hm=>by
  obtain ⟨x,hx,e⟩:=List.mem_map.1 hm
  rw[show i=x by omega];exact hx
 constructor
 ·intro i b l hg hl
  rcases cs hg hl with ⟨_,h,h'⟩|⟨j,b0,rfl,h2,_,rfl,h'⟩
  ·exact hh.elem h h'
  ·exact h1.elem (blk:=b0) h2 h'
 ·intro i hi
  have:(q9o H H0).n=H.n+H0.n:=k2U _ _ _
  unfold k3G
  rw[if_neg (by omega)]
  exact h1.out _ (by omega)
 ·intro i b l hg hd hl
  rcases cs hg hl with ⟨_,h,h'⟩|⟨j,b0,rfl,h2,_,rfl,h'⟩
  ·exact hw.lt h hd h'
  ·exact h1.lt (blk:=b0) h2 hd h'
 ·intro i b l hg hm hl k v hv
  rcases cs hg hl with ⟨_,h,h'⟩|⟨j,b0,rfl,h2,_,rfl,h'⟩
  ·obtain ⟨v',q1,q2⟩:=hw.cells h hm h' hv
   exact ⟨v',q1,q2.mono sub⟩
  ·have hv':(b0.cells.map (shV H.n))[k]?=some v:=hv
   rw[List.getElem?_map] at hv'
   obtain ⟨v0,e1,rfl⟩:=Option.map_eq_some_iff.1 hv'
   obtain ⟨v',q1,q2⟩:=h1.cells (blk:=b0) h2 hm h' e1
   exact ⟨v',q1,k8X (fun i l hi=>by rw[sB];exact hi) q2⟩
 ·intro i b l hg hm hl
  rcases cs hg hl with ⟨_,h,h'⟩|⟨j,b0,rfl,h2,h3,rfl,h'⟩
  ·exact hw.ro h hm h'
  ·exact absurd hm h3
 ·intro i b l hg hm hl
  rcases cs hg hl with ⟨_,h,h'⟩|⟨j,b0,rfl,h2,h3,rfl,h'⟩
  ·exact hw.own h hm h'
  ·exact Nat.le_trans hb (h1.own (blk:=b0) h2 hm h')
 ·intro i b l hg hm hl
  rcases cs hg hl with ⟨_,h,h'⟩|⟨j,b0,rfl,h2,h3,rfl,h'⟩
  ·exact hw.row h hm h'
  ·exact h1.row (blk:=b0) h2 hm h'
 ·intro i b l hg hm hl
  rcases cs hg hl with ⟨_,h,h'⟩|⟨j,b0,rfl,h2,h3,rfl,h'⟩
  ·exact hw.fits h hm h'
  ·have:=h1.fits (blk:=b0) h2 hm h'
   simpa[shB] using this
 ·intro i b l hg hm hl
  rcases cs hg hl with ⟨_,h,h'⟩|⟨j,b0,rfl,h2,h3,rfl,h'⟩
  ·obtain ⟨es,cl,q1,q2⟩:=hw.map h hm h'
   exact ⟨es,cl,q1,q2.mono sub⟩
  ·obtain ⟨es,cl,q1,q2⟩:=h1.map (blk:=b0) h2 hm h'
   exact ⟨es,cl,q1,VRs.sh (fun i l hi=>by rw[sB];exact hi) q2⟩
 ·intro i j bi bj li lj hij hi hj si sj hli hlj he
  rcases cs hi hli with ⟨_,a1,a2⟩|⟨i0,b0,rfl,a1,a3,rfl,a2⟩
  ·rcases cs hj hlj with ⟨_,c1,c2⟩|⟨j0,b1,rfl,c1,c3,rfl,c2⟩
   ·exact hw.sep hij a1 c1 si sj a2 c2 he
   ·have p1:=low a1 (q0E si) a2
    have p2:=h1.own (blk:=b1) c1 sj c2
    omega
  ·rcases cs hj hlj with ⟨_,c1,c2⟩|⟨j0,b1,rfl,c1,c3,rfl,c2⟩
   ·have p1:=low c1 (q0E sj) c2
    have p2:=h1.own (blk:=b0) a1 si a2
    omega
   ·rcases h1.sep (bi:=b0) (bj:=b1) (fun e=>hij (by rw[e])) a1 c1 si sj a2 c2 he with h|h
    ·exact .inl (List.mem_map.2 ⟨_,h,rfl⟩)
    ·exact .inr (List.mem_map.2 ⟨_,h,rfl⟩)
 ·intro i j bi bj hi hj si sj hm
  rcases q4B hok hi with ⟨g1,a1⟩|⟨i0,b0,rfl,a1,a3,rfl⟩
  ·rcases q4B hok hj with ⟨g2,c1⟩|⟨j0,b1,rfl,c1,c3,rfl⟩
   ·exact hw.anc a1 c1 si sj hm
   ·obtain ⟨x,_,e⟩:=List.mem_map.1 (show i∈b1.anc.map (H.n+·) from hm)
    omega
  ·rcases q4B hok hj with ⟨g2,c1⟩|⟨j0,b1,rfl,c1,c3,rfl⟩
   ·have:=hw.ancJ c1 _ hm
    omega
   ·exact h1.anc (bi:=b0) (bj:=b1) a1 c1 si sj (memM (j:=0) hm)
 ·intro i j bi bj li lj hi hj si sj hm hli hlj he
  rcases cs hi hli with ⟨g1,a1,a2⟩|⟨i0,b0,rfl,a1,a3,rfl,a2⟩
  ·rcases cs hj hlj with ⟨g2,c1,c2⟩|⟨j0,b1,rfl,c1,c3,rfl,c2⟩
   ·exact hw.ends a1 c1 si sj hm a2 c2 he
   ·obtain ⟨x,_,e⟩:=List.mem_map.1 (show i∈b1.anc.map (H.n+·) from hm)
    omega
  ·rcases cs hj hlj with ⟨g2,c1,c2⟩|⟨j0,b1,rfl,c1,c3,rfl,c2⟩
   ·have:=hw.ancJ c1 _ hm
    omega
   ·have:=h1.ends (bi:=b0) (bj:=b1) a1 c1 si sj (memM (j:=0) hm) a2 c2 he
    simpa[shB] using this
 ·intro j bj hj i hm
  rcases q4B hok hj with ⟨g2,c1⟩|⟨j0,b1,rfl,c1,c3,rfl⟩
  ·exact hw.ancJ c1 i hm
  ·obtain ⟨x,hx,rfl⟩:=List.mem_map.1 (show i∈b1.anc.map (H.n+·) from hm)
   have:=h1.ancJ c1 x hx
   show H.n+x<H.n+j0
   omega
theorem z0W {g:FuncId} {args:List Value} {v:Value} {H0:q0a} (h:∀base,Sim P base g args q0a.empty v H0) (hg:args.all q0J=true) (hok:okH H0=true) (base:Nat) (H:q0a):Sim P base g args H (shV H.n v) (q9o H H0):=by
 refine ⟨(h 0).1,(q8e H H0).ver,fun σ w args' hargs hh hb=>?_⟩
 have:=VRs.eq_grounds hg hargs
 subst this
 refine ((h w.heap.size).2.2 sig0 w args' (VRs.of_grounds hg) (HR.empty _ _) (Nat.le_refl _)).mono fun e w' hq=>?_
 obtain ⟨σ1,v',rfl,q1,q2,q3⟩:=hq
 have hk:∀k,k<w.heap.size→w'.heap[k]?=w.heap[k]?:=fun k hk=>q3.keep k hk (fun i blk l hi _ _=>by rw[k1P] at hi;cases hi)
 refine ⟨k3G H.n σ σ1,v',rfl,k8X (fun i l hi=>?_) q1,HR.laid hok hb hh q2 q3.size hk,?_⟩
 ·rw[k5H]
  exact hi
 ·refine ⟨fun i l hl=>?_,fun i hi=>k0k hi,(q8e H H0).1,q3.os,q3.tape,q3.output,q3.size,fun k hk' _=>hk k hk',fun j blk l h1 h2 h3=>?_,fun i b hb=>⟨b,(q8e H H0).get hb,Nat.le_refl _,rfl,fun _=>⟨rfl,id,id⟩⟩⟩
  ·by_cases hi:i<H.n
   ·rw[k0k hi];exact hl
   ·rw[hh.out i (by omega)] at hl;cases hl
  ·rcases q4B hok h1 with ⟨hi,h⟩|⟨j0,b0,rfl,a1,a3,rfl⟩
   ·rw[k0k hi] at h3
    exact .inr ⟨j,blk,l,h,h2,h3,rfl⟩
   ·rw[k5H] at h3
    exact .inl (q2.own (blk:=b0) a1 (k8m h2) h3)
end
theorem z1R {H H0:q0a} {sz:Nat} {v:Value} {cs:List Value} (h:cellsOf H0 sz v=some cs):cellsOf (q9o H H0) sz (shV H.n v)=some (cs.map (shV H.n)):=by
 unfold cellsOf at h
 split at h
 ·injection h with h
  subst h
  rfl
 ·rename_i i o n c
  unfold shV cellsOf
  simp only
  split at h
  ·rename_i h0
   rw[if_pos h0]
   injection h with h
   subst h
   rfl
  ·rename_i h0
   rw[if_neg h0]
   split at h
   case h_2=>cases h
   rename_i b hb
   rw[k2V hb]
   simp only
   split at h
   case isFalse=>cases h
   rename_i hm
   injection h with h
   subst h
   have hl:(shB H.n b).cells.length=b.cells.length:=by simp[shB]
   rw[if_pos ⟨hm.1,by rw[hl];exact hm.2⟩]
   simp only[shB,List.map_take,List.map_drop]
   rfl
 ·rename_i i o k
  injection h with h
  subst h
  rfl
 ·cases h
theorem Sl.sh {H H0:q0a} {sz n:Nat} {v:Value} {cs:List Value} (h:Sl H0 sz v n cs):Sl (q9o H H0) sz (shV H.n v) n (cs.map (shV H.n)):=by
 obtain ⟨⟨a,c,rfl⟩,h2⟩:=h
 refine ⟨?_,z1R h2⟩
 unfold cellsOf at h2
 split at h2
 ·rename_i hv
  injection hv with e1 e2 e3
  subst e1 e2 e3
  exact ⟨none,0,rfl⟩
 ·rename_i i o n' c' hv
  injection hv with e1 e2 e3
  subst e1 e2 e3
  exact ⟨_,_,rfl⟩
 ·rename_i i o k hv
  injection hv with e1 e2 e3
  subst e1 e2 e3
  exact ⟨_,_,rfl⟩
 ·cases h2
theorem z9s {k:Nat} (l:List Int):(ints l).map (shV k)=ints l:=by
 unfold ints
 rw[List.map_map]
 rfl
theorem Ints.sh {H H0:q0a} {v:Value} {l:List Int} (h:Ints H0 v l):Ints (q9o H H0) (shV H.n v) l:=by
 have:=Sl.sh (H:=H) h
 rw[z9s] at this
 exact this
theorem q2g.sh {H H0:q0a} {v:Value} {L:List Rl} (h:q2g H0 v L):q2g (q9o H H0) (shV H.n v) L:=by
 obtain ⟨h0,cs,h1,h2⟩:=h
 refine ⟨h0,_,Sl.sh h1,fun k r hr=>?_⟩
 obtain ⟨⟨vi,vo,e1,e2,e3,e4⟩,t1,t2⟩:=h2 k r hr
 exact ⟨⟨shV H.n vi,shV H.n vo,by rw[List.getElem?_map,e1];rfl,by rw[List.getElem?_map,e2];rfl,Ints.sh e3,Ints.sh e4⟩,t1,t2⟩
noncomputable def z1S (r:Option (Value×q0a)) (H:q0a):Option (Value×q0a):=match r with
 | some (v,H0)=>if okH H0=true then some (shV H.n v,q9o H H0) else none
 | none=>none
theorem k7G {r:Option (Value×q0a)} {H H':q0a} {v:Value} (h:z1S r H=some (v,H')):∃v0 H0,r=some (v0,H0)∧okH H0=true∧v=shV H.n v0∧H'=q9o H H0:=by
 unfold z1S at h
 split at h
 ·rename_i v0 H0
  split at h
  ·rename_i ho
   injection h with h
   injection h with h1 h2
   exact ⟨v0,H0,rfl,ho,h1.symm,h2.symm⟩
  ·cases h
 ·cases h
end Lon
namespace Go.Proofs.YtleiinhaljdcoaaGreatDoor
open Go Lon
set_option maxRecDepth 100000
def visH:List Int:=[0x1ea0,0x1eae,0x1eb0,0x1eb6,0x1ea4,0x1ea6,0x1ea8,0x1eac,0x1ebc,0x1eb8,0x1ebe,0x1ec0,0x1ec2,0x1ec4,0x1ec6,0x1ed0,0x1ed2,0x1ed4,0x1ed6,0x1ed8,0x1ee2,0x1eda,0x1edc,0x1ede,0x1eca,0x1ece,0x1ecc,0x1ec8,0x1ee6,0x168,0x1ee4,0x1ef2,0xd5,0x1eaf,0x1eb1,0x1eb7,0x1ea5,0x1ea7,0x1ea9,0x1ead,0x1ebd,0x1eb9,0x1ebf,0x1ec1,0x1ec3,0x1ec5,0x1ec7,0x1ed1,0x1ed3,0x1ed5,0x1ed7,0x1ee0,0x1a0,0x1ed9,0x1edd,0x1edf,0x1ecb,0x1ef0,0x1ee8,0x1eea,0x1eec,0x1a1,0x1edb,0x1af,0xc0,0xc1,0xc2,0xc3,0x1ea2,0x102,0x1eb3,0x1eb5,0xc8,0xc9,0xca,0x1eba,0xcc,0xcd,0x128,0x1ef3,0x110,0x1ee9,0xd2,0xd3,0xd4,0x1ea1,0x1ef7,0x1eeb,0x1eed,0xd9,0xda,0x1ef9,0x1ef5,0xdd,0x1ee1,0x1b0,0xe0,0xe1,0xe2,0xe3,0x1ea3,0x103,0x1eef,0x1eab,0xe8,0xe9,0xea,0x1ebb,0xec,0xed,0x129,0x1ec9,0x111,0x1ef1,0xf2,0xf3,0xf4,0xf5,0x1ecf,0x1ecd,0x1ee5,0xf9,0xfa,0x169,0x1ee7,0xfd,0x1ee3,0x1eee]
def vis (c:Nat):Int:=if c=2 then 0x1eb2 else if c=5 then 0x1eb4 else if c=6 then 0x1eaa else if c=20 then 0x1ef6 else if c=25 then 0x1ef8 else if c=30 then 0x1ef4 else if c<128 then c else visH.getD (c-128) 0
def RVis (n:Nat):List Rl:=(List.range n).map fun (c:Nat)=>([(c:Int)],[vis c])
def ascR:List Rl:=(List.range 128).map fun (c:Nat)=>([(c:Int)],[(c:Int)])
def k7H:List Rl:=ascR++[([161],[258]),([162],[194]),([163],[202]),([164],[212]),([165],[416]),([166],[431]),([167],[272]),([168],[259]),([169],[226]),([170],[234]),([171],[244]),([172],[417]),([173],[432]),([174],[273]),([181],[224]),([182],[7843]),([183],[227]),([184],[225]),([185],[7841]),([187],[7857]),([188],[7859]),([189],[7861]),([190],[7855]),([198],[7863]),([199],[7847]),([200],[7849]),([201],[7851]),([202],[7845]),([203],[7853]),([204],[232]),([206],[7867]),([207],[7869]),([208],[233]),([209],[7865]),([210],[7873]),([211],[7875]),([212],[7877]),([213],[7871]),([214],[7879]),([215],[236]),([216],[7881]),([220],[297]),([221],[237]),([222],[7883]),([223],[242]),([225],[7887]),([226],[245]),([227],[243]),([228],[7885]),([229],[7891]),([230],[7893]),([231],[7895]),([232],[7889]),([233],[7897]),([234],[7901]),([235],[7903]),([236],[7905]),([237],[7899]),([238],[7907]),([239],[249]),([241],[7911]),([242],[361]),([243],[250]),([244],[7909]),([245],[7915]),([246],[7917]),([247],[7919]),([248],[7913]),([249],[7921]),([250],[7923]),([251],[7927]),([252],[7929]),([253],[253]),([254],[7925])]
def Rtis:List Rl:=ascR++((List.range 58).map fun (c:Nat)=>([((161+c:Nat):Int)],[((3585+c:Nat):Int)]))++((List.range 29).map fun (c:Nat)=>([((223+c:Nat):Int)],[((3647+c:Nat):Int)]))
def Rvni0:List Rl:=[([97],[97]),([97,248],[224]),([97,249],[225]),([97,251],[7843]),([97,245],[227]),([97,239],[7841]),([97,234],[259]),([97,232],[7857]),([97,233],[7855]),([97,250],[7859]),([97,252],[7861]),([97,235],[7863]),([97,226],[226]),([97,224],[7847]),([97,225],[7845]),([97,229],[7849]),([97,227],[7851]),([97,228],[7853]),([101],[101]),([101,248],[232]),([101,249],[233]),([101,251],[7867]),([101,245],[7869]),([101,239],[7865]),([101,226],[234]),([101,224],[7873]),([101,225],[7871]),([101,229],[7875]),([101,227],[7877]),([101,228],[7879]),([105],[105]),([236],[236]),([237],[237]),([230],[7881]),([243],[297]),([242],[7883]),([111],[111]),([111,248],[242]),([111,249],[243]),([111,251],[7887])]
def Rvni1:List Rl:=[([111,245],[245]),([111,239],[7885]),([111,226],[244]),([111,224],[7891]),([111,225],[7889]),([111,229],[7893]),([111,227],[7895]),([111,228],[7897]),([244],[417]),([244,248],[7901]),([244,249],[7899]),([244,251],[7903]),([244,245],[7905]),([244,239],[7907]),([117],[117]),([117,248],[249]),([117,249],[250]),([117,251],[7911]),([117,245],[361]),([117,239],[7909]),([246],[432]),([246,248],[7915]),([246,249],[7913]),([246,251],[7917]),([246,245],[7919]),([246,239],[7921]),([121],[121]),([121,248],[7923]),([121,249],[253]),([121,251],[7927]),([121,245],[7929]),([238],[7925]),([100],[100]),([241],[273]),([65],[65]),([65,216],[192]),([65,217],[193]),([65,219],[7842]),([65,213],[195]),([65,207],[7840])]
def Rvni2:List Rl:=[([65,202],[258]),([65,200],[7856]),([65,201],[7854]),([65,218],[7858]),([65,220],[7860]),([65,203],[7862]),([65,194],[194]),([65,192],[7846]),([65,193],[7844]),([65,197],[7848]),([65,195],[7850]),([65,196],[7852]),([69],[69]),([69,216],[200]),([69,217],[201]),([69,219],[7866]),([69,213],[7868]),([69,207],[7864]),([69,194],[202]),([69,192],[7872]),([69,193],[7870]),([69,197],[7874]),([69,195],[7876]),([69,196],[7878]),([73],[73]),([204],[204]),([205],[205]),([198],[7880]),([211],[296]),([210],[7882]),([79],[79]),([79,216],[210]),([79,217],[211]),([79,219],[7886]),([79,213],[213]),([79,207],[7884]),([79,194],[212]),([79,192],[7890]),([79,193],[7888]),([79,197],[7892])]
def Rvni3:List Rl:=[([79,195],[7894]),([79,196],[7896]),([212],[416]),([212,216],[7900]),([212,217],[7898]),([212,219],[7902]),([212,213],[7904]),([212,207],[7906]),([85],[85]),([85,216],[217]),([85,217],[218]),([85,219],[7910]),([85,213],[360]),([85,207],[7908]),([214],[431]),([214,216],[7914]),([214,217],[7912]),([214,219],[7916]),([214,213],[7918]),([214,207],[7920]),([89],[89]),([89,216],[7922]),([89,217],[221]),([89,219],[7926]),([89,213],[7928]),([206],[7924]),([68],[68]),([209],[272]),([0],[0]),([1],[1]),([2],[2]),([3],[3]),([4],[4]),([5],[5]),([6],[6]),([7],[7]),([8],[8]),([9],[9]),([10],[10]),([11],[11])]
def Rvni4:List Rl:=[([12],[12]),([13],[13]),([14],[14]),([15],[15]),([16],[16]),([17],[17]),([18],[18]),([19],[19]),([20],[20]),([21],[21]),([22],[22]),([23],[23]),([24],[24]),([25],[25]),([26],[26]),([27],[27]),([28],[28]),([29],[29]),([30],[30]),([31],[31]),([32],[32]),([33],[33]),([34],[34]),([35],[35]),([36],[36]),([37],[37]),([38],[38]),([39],[39]),([40],[40]),([41],[41]),([42],[42]),([43],[43]),([44],[44]),([45],[45]),([46],[46]),([47],[47]),([48],[48]),([49],[49]),([50],[50]),([51],[51])]
def Rvni5:List Rl:=[([52],[52]),([53],[53]),([54],[54]),([55],[55]),([56],[56]),([57],[57]),([58],[58]),([59],[59]),([60],[60]),([61],[61]),([62],[62]),([63],[63]),([64],[64]),([66],[66]),([67],[67]),([70],[70]),([71],[71]),([72],[72]),([74],[74]),([75],[75]),([76],[76]),([77],[77]),([78],[78]),([80],[80]),([81],[81]),([82],[82]),([83],[83]),([84],[84]),([86],[86]),([87],[87]),([88],[88]),([90],[90]),([91],[91]),([92],[92]),([93],[93]),([94],[94]),([95],[95]),([96],[96]),([98],[98]),([99],[99])]
def Rvni6:List Rl:=[([102],[102]),([103],[103]),([104],[104]),([106],[106]),([107],[107]),([108],[108]),([109],[109]),([110],[110]),([112],[112]),([113],[113]),([114],[114]),([115],[115]),([116],[116]),([118],[118]),([119],[119]),([120],[120]),([122],[122]),([123],[123]),([124],[124]),([125],[125]),([126],[126]),([127],[127])]
def Rvni:List Rl:=Rvni0++(Rvni1++(Rvni2++(Rvni3++(Rvni4++(Rvni5++(Rvni6))))))
def con8 (c s d:Int):List Rl:=[([c],[s]),([d],[s,0xbcd]),([0xa6,c],[s,0xbc6]),([0xa7,c],[s,0xbc7]),([0xa8,c],[s,0xbc8]),([0xa6,c,0xaa],[s,0xbca]),([0xa7,c,0xaa],[s,0xbcb]),([0xa6,c,0xaf],[s,0xbcc])]
def Rtam:List Rl:=ascR++([([145],[2949]),([146],[2950]),([147],[2951]),([148],[2952]),([149],[2953]),([150],[2954]),([151],[2958]),([152],[2959]),([153],[2960]),([154],[2962]),([155],[2963]),([156],[2964]),([157],[2947]),([166],[3014]),([167],[3015]),([168],[3016]),([169],[3021]),([170],[3006]),([171],[3007]),([172],[3008]),([173],[3009]),([174],[3010]),([175],[3031])]++([2965,2969,2970,2974,2975,2979,2980,2984,2986,2990,2991,2992,2994,2997,2996,2995,2993,2985,2972,2999,3000,3001]:List Int).zipIdx.flatMap fun p=>con8 ((0xb0+p.2:Nat):Int) p.1 ((0xd0+p.2:Nat):Int))
def Rind:List Rl:=((List.range 128).map fun (c:Nat)=>([(c:Int)],[((8192+c:Nat):Int)]))++[([161],[1]),([162],[2]),([163],[3]),([164],[5]),([165],[6]),([166],[7]),([167],[8]),([168],[9]),([169],[10]),([170],[11]),([171],[14]),([172],[15]),([173],[16]),([174],[13]),([175],[18]),([176],[19]),([177],[20]),([178],[17]),([179],[21]),([180],[22]),([181],[23]),([182],[24]),([183],[25]),([184],[26]),([185],[27]),([186],[28]),([187],[29]),([188],[30]),([189],[31]),([190],[32]),([191],[33]),([192],[34]),([193],[35]),([194],[36]),([195],[37]),([196],[38]),([197],[39]),([198],[40]),([199],[41]),([200],[42]),([201],[43]),([202],[44]),([203],[45]),([204],[46]),([205],[47]),([206],[95]),([207],[48]),([208],[49]),([209],[50]),([210],[51]),([211],[52]),([212],[53]),([213],[54]),([214],[55]),([215],[56]),([216],[57]),([218],[62]),([219],[63]),([220],[64]),([221],[65]),([222],[66]),([223],[67]),([224],[70]),([225],[71]),([226],[72]),([227],[69]),([228],[74]),([229],[75]),([230],[76]),([231],[73]),([232],[77]),([233],[60]),([241],[102]),([242],[103]),([243],[104]),([244],[105]),([245],[106]),([246],[107]),([247],[108]),([248],[109]),([249],[110]),([250],[111]),([161,233],[80]),([166,233],[12]),([167,233],[97]),([170,233],[96]),([179,233],[88]),([180,233],[89]),([181,233],[90]),([186,233],[91]),([191,233],[92]),([192,233],[93]),([201,233],[94]),([219,233],[98]),([220,233],[99]),([223,233],[68]),([239,66],[4096]),([239,67],[4097]),([239,75],[4098]),([239,74],[4099]),([239,71],[4100]),([239,68],[4101]),([239,69],[4102]),([239,72],[4103]),([239,73],[4104]),([217],[16397]),([234],[10596]),([234,233],[61]),([232,232],[77,16396]),([232,233],[77,16397]),([240,184],[82]),([240,191],[112])]
noncomputable def cutB (H:q0a) (v:Value) (el:Nat):Bool:=match v with
 | .slice (some ⟨i,_,none⟩) _ _=>(match H.get i with|some b=>Nat.beq b.elem el|none=>false)
 | _=>false
noncomputable def j1B (H:q0a) (v:Value):Bool:=match k2K H 2 v with
 | some cs=>cs.all fun x=>cutB H x 3
 | none=>false
noncomputable def chkR (x:Option (Value×q0a)) (R:List Rl):Bool:=match x with
 | some (v,H0)=>okH H0&&z3J H0 v R&&cutB H0 v 127&&j1B H0 v
 | none=>false
noncomputable def runR (s:ByteArray):Option (Value×q0a):=k3F Tryz.prog (tabB tab) omV 5000 39 [.string s] q0a.empty
noncomputable def runI:Option (Value×q0a):=k3F Tryz.prog (tabB tab) omV 5000 101 [] q0a.empty
def oneF (l:List Int):Int×Int×Int:=match l with
 | []=>(0,0,2)
 | c::_=>if (ldF c).1=0 then (0,1,1) else oneG l (ldF c).1.toNat ((ldF c).1.toNat-1) (ldF c).2.1 (ldF c).2.2.1 (ldF c).2.2.2 1
def oneV (l:List Int):Value:=.tuple ⟨[.int .i64 (oneF l).1,.int .i64 (oneF l).2.1,.int .i64 (oneF l).2.2]⟩
theorem z8e {c:Int} (h:0≤c∧c<256):(0≤(ldF c).1∧(ldF c).1<5)∧(0≤(ldF c).2.1∧(ldF c).2.1<128):=by
 unfold ldF
 repeat' split
 all_goals (simp only;omega)
theorem z9t {base:Nat} {H:q0a} {v:Value} {l:List Int} (hb:Nums H .u8 v l) (hby:∀u∈l,0≤u∧u<256):Sim Tryz.prog base 28 [v] H (oneV l) H:=by
 obtain ⟨e0,rA,h00⟩:∃e0,run Tryz.prog (tabF tab) omA q9m (q5C [v]) H=some (.normal,e0,H)∧eget e0 0=v:=by
  unfold q9m q5C
  simp only[WA,List.zipIdx]
  exact ⟨_,rfl,rfl⟩
 obtain ⟨f,hf⟩:∃f,f=forget [0] e0:=⟨_,rfl⟩
 have h0:eget f 0=v:=by rw[hf];exact q5P h00 (by simp)
 have hl:=fun H2=>Nums.len (H2:=H2) hb
 obtain ⟨e',q1,q2,q3,q4⟩:∃e',Goes Tryz.prog (tabF tab) omA Tryz.f28.ntmps q8V 5 q3e f H .ret e' H∧eget e' 2=.int .i64 (oneF l).1∧eget e' 3=.int .i64 (oneF l).2.1∧eget e' 4=.int .i64 (oneF l).2.2:=by
  cases l with
  | nil=>
   simp only[List.length_nil] at hl
   obtain ⟨x,e1,H1,r1,rfl,p2,rfl⟩:Out (run Tryz.prog (tabF tab) omA q3e f H) fun x e' H'=>x=.exit (0+1000000)∧eget e' 0=v∧H'=H:=by
    unfold q3e
    have z:(((0:Nat):Int)=0)=True:=by simp
    simp only[WA,Nat.reduceEqDiff,reduceCtorEq,Int.cast_ofNat_Int,h0,hl]
   obtain ⟨e',q1,q2,q3,q4⟩:=z3S (n:=4) (nt:=Tryz.f28.ntmps) (w_L0 (e:=forget [0] e1) (q5P p2 (by simp)) hb)
   exact ⟨e',.inr ⟨0,e1,_,q8d 0,[],q3M,[],[0],r1,z7X,z7Z,q1⟩,q2,q3,q4⟩
  | cons c t=>
   obtain ⟨hc0,hc1⟩:=hby c (List.mem_cons_self ..)
   obtain ⟨⟨k0,k1⟩,k2,k3⟩:=z8e ⟨hc0,hc1⟩
   obtain ⟨i,o,d1,d2⟩:=hb.at (k:=0) (x:=c) rfl
   rw[show ((0:Nat):Int)=0 from rfl] at d1
   have cl:=z9j (c:=c) (H:=H) ⟨hc0,hc1⟩
   unfold ldV at cl
   have z1:(((t.length+1:Nat):Int)=0)=False:=eq_false (by omega)
   by_cases hz:(ldF c).1=0
   ·have z2:((ldF c).1=0)=True:=eq_true hz
    have hF:oneF (c::t)=(0,1,1):=by
     show (if (ldF c).1=0 then _ else _)=_
     rw[if_pos hz]
    obtain ⟨x,e1,H1,r1,rfl,p2,p3,rfl⟩:Out (run Tryz.prog (tabF tab) omA q3e f H) fun x e' H'=>x=.exit (1+1000000)∧eget e' 0=v∧eget e' 5=.int .i64 1∧H'=H:=by
     unfold q3e
     simp only[WA,Nat.reduceEqDiff,Nat.reduceAdd,reduceCtorEq,h0,hl,z1,d1,d2,cl,z2]
    obtain ⟨e',q1,q2,q3,q4⟩:=z3S (n:=4) (nt:=Tryz.f28.ntmps) (w_L1 (e:=forget [0,5] e1) (H:=H1) (q5P p3 (by simp)))
    rw[hF]
    exact ⟨e',.inr ⟨1,e1,_,q8d 1,[],q3N,[],[0,5],r1,z7Y,z8a,q1⟩,q2,q3,q4⟩
   ·have z2:((ldF c).1=0)=False:=eq_false hz
    obtain ⟨n,hn⟩:∃n:Nat,(ldF c).1=n:=⟨(ldF c).1.toNat,by omega⟩
    obtain ⟨s,hs⟩:∃s:Nat,(ldF c).2.1=s:=⟨(ldF c).2.1.toNat,by omega⟩
    have hF:oneF (c::t)=oneG (c::t) n (n-1) s (ldF c).2.2.1 (ldF c).2.2.2 1:=by
     show (if (ldF c).1=0 then _ else _)=_
     rw[if_neg hz,hn,hs]
     rfl
    have h4:64^(n-1)≤64^3:=Nat.pow_le_pow_right (by omega) (by omega)
    have h5:(s+1)*64^(n-1)≤128*64^3:=Nat.mul_le_mul (by omega) h4
    obtain ⟨e1,E1,E2,E3,E4,E5,E6,E7⟩:∃e1,run Tryz.prog (tabF tab) omA q3e f H=run Tryz.prog (tabF tab) omA q0V e1 H∧eget e1 0=v∧eget e1 5=.int .i64 ((1:Nat):Int)∧eget e1 6=.int .i64 s∧eget e1 7=.int .i64 n∧eget e1 8=.int .u8 (ldF c).2.2.1∧eget e1 9=.int .u8 (ldF c).2.2.2:=by
     unfold q3e
     simp only[WA,Nat.reduceEqDiff,reduceCtorEq,Int.cast_ofNat_Int,h0,hl,z1,d1,d2,cl,z2]
     refine ⟨_,rfl,?_⟩
     simp only[WA,Nat.reduceEqDiff,reduceCtorEq,h0,hs,hn]
    obtain ⟨e',q1,q2,q3,q4⟩:=g_L2 hb hby (n-1) 1 s (ldF c).2.2.1 (ldF c).2.2.2 e1 (n:=n) (by omega) (by omega) (by omega) (by omega) (by simp) E2 E3 E4 E5 E6 E7
    rw[hF]
    have hG:Goes Tryz.prog (tabF tab) omA Tryz.f28.ntmps q8V 5 q0V e1 H .ret e' H:=z3N (by omega) q1
    refine ⟨e',?_,q2,q3,q4⟩
    exact z5S E1 hG
 rw[hf] at q1
 exact z3O (vs:=[.int .i64 (oneF l).1,.int .i64 (oneF l).2.1,.int .i64 (oneF l).2.2]) (by kernel_rfl) (fun g args H v H' h=>simA h) 5 [0] Tryz.func28 z5V rfl rfl (Nat.le_of_ble_eq_true (by kernel_rfl)) one_R one_A one_S rA q1 (.inr rfl) (by
  unfold k7B
  simp only[WA,q2,q3,q4])
def k4A:List Value→Option (List Int)
 | []=>some []
 | .int .u8 n::r=>if 0≤n∧n<256 then (k4A r).map (n::·) else none
 | _=>none
theorem k4B:∀{cs:List Value} {l:List Int},k4A cs=some l→cs=l.map (fun x=>.int .u8 x)∧∀u∈l,0≤u∧u<256
 | [],l,h=>by
  injection h with h
  subst h
  exact ⟨rfl,fun u hu=>by cases hu⟩
 | c::cs,l,h=>by
  unfold k4A at h
  split at h
  ·rename_i heq;cases heq
  ·rename_i n r heq
   injection heq with h1 h2
   subst h1 h2
   split at h
   case isFalse=>cases h
   rename_i hn
   rw[Option.map_eq_some_iff] at h
   obtain ⟨l',h1,h2⟩:=h
   subst h2
   obtain ⟨q1,q2⟩:=k4B h1
   refine ⟨by rw[q1];rfl,fun u hu=>?_⟩
   rcases List.mem_cons.1 hu with rfl|hu
   ·exact hn
   ·exact q2 u hu
  ·cases h
theorem k7I:∀{l:List Int},(∀u∈l,0≤u∧u<256)→k4A (l.map fun x=>.int .u8 x)=some l
 | [],_=>rfl
 | n::l,h=>by
  show (if 0≤n∧n<256 then (k4A (l.map fun x=>.int .u8 x)).map (n::·) else none)=_
  rw[if_pos (h n (List.mem_cons_self ..)),k7I fun u hu=>h u (List.mem_cons_of_mem _ hu)]
  rfl
noncomputable def om1:q0F:=fun g args H=>match g,args with
 | 48,[.int .u8 c]=>if 0≤c∧c<256 then some (ldV c,H) else none
 | 41,[.string s]=>if (List.range 8).any fun k=>decide (s.data.toList=(nm k).data.toList) then some (.tuple ⟨[.string s,.int .i64 0]⟩,H) else none
 | 28,[.slice a n c]=>match cellsOf H 1 (.slice a n c) with
  | some cs=>match k4A cs with
   | some l=>some (oneV l,H)
   | none=>none
  | none=>none
 | 39,[.string s]=>if s.data.toList=(nm 2).data.toList then none else z1S (runR s) H
 | 101,[]=>z1S runI H
 | _,_=>none
theorem omok {base:Nat}:∀g args H v H',om1 g args H=some (v,H')→Sim Tryz.prog base g args H v H':=by
 intro g args H v H' h
 unfold om1 at h
 split at h
 ·rename_i c
  exact z5U 48 [.int .u8 c] H v H' (by unfold omA;exact h)
 ·rename_i s
  exact z5U 41 [.string s] H v H' (by unfold omA;exact h)
 ·rename_i a n c
  split at h
  case h_2=>cases h
  rename_i cs hcs
  split at h
  case h_2=>cases h
  rename_i l hl
  injection h with h
  injection h with h1 h2
  subst h1 h2
  obtain ⟨q1,q2⟩:=k4B hl
  have hn:l.length=n:=by
   have:=Sl.length (H:=H) (sz:=1) (v:=.slice a n c) (n:=n) (cs:=cs) ⟨⟨a,c,rfl⟩,hcs⟩
   rw[q1,List.length_map] at this
   omega
  refine z9t (l:=l) ?_ q2
  unfold Nums
  rw[←q1,hn]
  exact ⟨⟨a,c,rfl⟩,hcs⟩
 ·rename_i s
  split at h
  ·cases h
  ·obtain ⟨v0,H0,h1,h2,rfl,rfl⟩:=k7G h
   exact z0W (fun base=>simV (q6m 5000 h1)) rfl h2 base _
 ·obtain ⟨v0,H0,h1,h2,rfl,rfl⟩:=k7G h
  exact z0W (fun base=>simV (q6m 5000 h1)) rfl h2 base _
 ·cases h
theorem q8W {k:Nat} {H:q0a} (hk:k<8):cw Tryz.prog (tabF tab) om1 41 [.string (nm k)] H=some (.tuple ⟨[.string (nm k),.int .i64 0]⟩,H):=q9v (by
 unfold om1
 simp only
 rw[if_pos (List.any_eq_true.2 ⟨k,List.mem_range.2 hk,by simp⟩)])
theorem c_One {v:Value} {l:List Int} {H:q0a} (hb:Nums H .u8 v l) (hby:∀u∈l,0≤u∧u<256):cw Tryz.prog (tabF tab) om1 28 [v] H=some (oneV l,H):=by
 obtain ⟨⟨a,c,rfl⟩,hc⟩:=hb
 refine q9v ?_
 unfold om1
 simp only[hc,k7I hby]
end Go.Proofs.YtleiinhaljdcoaaGreatDoor
namespace Go.Proofs.YtleiinhaljdcoaaGreatDoor
open Go Lon

theorem z9u {a b:Value} {la lb:List Int} {H:q0a} (ha:Ints H a la) (hb:Ints H b lb) (hl:la.length=lb.length) (hs:la.length<4611686018427387904):∀(k i:Nat),i+k=la.length →
  Out (run Tryz.prog (tabF tab) om1 (.loop [0,1,12,13] q1d) [(0,a),(1,b),(12,.int .i64 la.length),(13,.int .i64 i)] H) fun x e' H'=>H'=H ∧
   if la.drop i=lb.drop i then x=.exit 0 else x=.ret∧eget e' 4=.bool false:=by
 intro k
 induction k with
 | zero=>
  intro i hi
  have hlt:¬((i:Int)<la.length):=by omega
  rw[q0d q1d.eq_1,List.drop_of_length_le (by omega),List.drop_of_length_le (by omega)]
  simp only[WA,Nat.reduceEqDiff,reduceCtorEq,hlt]
 | succ k ih=>
  intro i hi
  have hlt:(i:Int)<la.length:=by omega
  obtain ⟨x,hx,hdx⟩:=q0z (L:=la) (i:=i) (by omega)
  obtain ⟨y,hy,hdy⟩:=q0z (L:=lb) (i:=i) (by omega)
  obtain ⟨i1,o1,h1,h2⟩:=ha.at hx
  obtain ⟨i2,o2,h3,h4⟩:=hb.at hy
  have hw2:IntKind.i64.wrap ((i:Int)+1)=((i+1:Nat):Int):=by rw[q0k (by omega) (by omega)];omega
  rw[q0d q1d.eq_1,hdx,hdy]
  by_cases hxy:x=y
  ·subst hxy
   obtain ⟨z,e',H',r1,r2,r3⟩:=ih (i+1) (by omega)
   have hne:(x≠x)=False:=by simp
   simp only[WA,q0M,q1b,q1w,q1y,Nat.reduceEqDiff,reduceCtorEq,hlt,h1,h2,h3,h4,hne,hw2]
   rw[q0e]
   simp only[WA,Nat.reduceEqDiff,reduceCtorEq,r1]
   refine ⟨r2,?_⟩
   simpa using r3
  ·have hne:(x≠y)=True:=by simp[hxy]
   simp only[WA,q0M,q1b,q1w,q1y,Nat.reduceEqDiff,reduceCtorEq,hlt,h1,h2,h3,h4,hne]
   simp[hxy]
theorem z9v {a b:Value} {la lb:List Int} {H:q0a} (ha:Ints H a la) (hb:Ints H b lb) (hs:la.length<4611686018427387904):cw Tryz.prog (tabF tab) om1 116 [a,b] H=some (.bool (decide (la=lb)),H):=by
 rw[q0g (F:=q1m) rfl rfl rfl]
 unfold q1m q3s
 by_cases hl:la.length=lb.length
 ·obtain ⟨x,e',H',r1,rfl,r3⟩:=z9u ha hb hl hs la.length 0 (by omega)
  have hne:(((la.length:Nat):Int)≠((lb.length:Nat):Int))=False:=by simp[hl]
  simp only[Int.cast_ofNat_Int] at r1
  simp only[WA,Nat.reduceEqDiff,reduceCtorEq,ha.len,hb.len,hne]
  rw[q0e]
  simp only[WA,Nat.reduceEqDiff,reduceCtorEq,r1]
  simp only[List.drop_zero] at r3
  split at r3
  ·rename_i h
   subst r3
   simp only[WA,h]
  ·rename_i h
   obtain ⟨rfl,r4⟩:=r3
   simp only[WA,r4,h]
 ·have hne:(((la.length:Nat):Int)≠((lb.length:Nat):Int))=True:=by simp;omega
  have hab:¬la=lb:=fun h=>hl (by rw[h])
  simp only[WA,Nat.reduceEqDiff,reduceCtorEq,ha.len,hb.len,hne,hab]
def bad (u:Int):Prop:=u<0∨u>1114111
instance (u:Int):Decidable (bad u):=by unfold bad;infer_instance
def bdx:List Int→Nat→Option Nat
 | [],_=>none
 | u::l,i=>if bad u then some i else bdx l (i+1)
def q6J (l:List Int):Bool:=decide (0<l.length)&&decide (l.length≤8)&&(bdx l 0).isNone
theorem z3W {u:Int} (H:q0a):cw Tryz.prog (tabF tab) om1 131 [.int .i64 u] H=some (.bool (decide (bad u)),H):=by
 rw[q0g (F:=q5x) rfl rfl rfl]
 unfold q5x q9S
 by_cases h1:u<0
 ·have hb:bad u:=.inl h1
  simp only[WA,Nat.reduceEqDiff,reduceCtorEq,h1,hb]
 ·by_cases h2:u>1114111
  ·have hb:bad u:=.inr h2
   simp only[WA,Nat.reduceEqDiff,reduceCtorEq,h1,h2,hb]
  ·have hb:¬bad u:=fun h=>by rcases h with h|h;exact h1 h;exact h2 h
   simp only[WA,Nat.reduceEqDiff,reduceCtorEq,h1,h2,hb]
theorem j1C {a:Value} {l:List Int} {H:q0a} (ha:Ints H a l) (hs:tiny l):∀(k i:Nat),i+k=l.length →
  Out (run Tryz.prog (tabF tab) om1 (.loop [0,1,7,8] q0R) [(0,a),(1,.func (.func 131) ⟨[]⟩ ⟨[]⟩),(7,.int .i64 l.length),(8,.int .i64 i)] H) fun x e' H'=>H'=H ∧
   match bdx (l.drop i) i with|some j=>x=.ret∧eget e' 4=.int .i64 j|none=>x=.exit 0:=by
 intro k
 have ht:=hs
 unfold tiny at ht
 induction k with
 | zero=>
  intro i hi
  have hlt:¬((i:Int)<l.length):=by omega
  rw[q0d q0R.eq_1,List.drop_of_length_le (by omega)]
  simp only[WA,Nat.reduceEqDiff,reduceCtorEq,hlt,bdx]
 | succ k ih=>
  intro i hi
  have hlt:(i:Int)<l.length:=by omega
  obtain ⟨x,hx,hdx⟩:=q0z (L:=l) (i:=i) (by omega)
  obtain ⟨i1,o1,h1,h2⟩:=ha.at hx
  have hw2:IntKind.i64.wrap ((i:Int)+1)=((i+1:Nat):Int):=by rw[q0k (by omega) (by omega)];omega
  rw[q0d q0R.eq_1,hdx]
  unfold bdx
  by_cases hb:bad x
  ·simp only[WA,Nat.reduceEqDiff,reduceCtorEq,hlt,h1,h2,z3W,hb]
  ·obtain ⟨z,e',H',r1,r2,r3⟩:=ih (i+1) (by omega)
   simp only[WA,Nat.reduceEqDiff,reduceCtorEq,hlt,h1,h2,z3W,hb,hw2]
   rw[q0e]
   simp only[WA,Nat.reduceEqDiff,reduceCtorEq,r1]
   exact ⟨r2,r3⟩
theorem j1D {a:Value} {l:List Int} {H:q0a} (ha:Ints H a l) (hs:tiny l):cw Tryz.prog (tabF tab) om1 138 [a,.func (.func 131) ⟨[]⟩ ⟨[]⟩] H=some (.int .i64 (match bdx l 0 with|some j=>(j:Int)|none=>-1),H):=by
 rw[q0g (F:=q0X) rfl rfl rfl]
 unfold q0X q2Q
 obtain ⟨x,e',H',r1,rfl,r3⟩:=j1C ha hs l.length 0 (by omega)
 simp only[Int.cast_ofNat_Int] at r1
 simp only[WA,Nat.reduceEqDiff,reduceCtorEq,ha.len]
 rw[q0e]
 simp only[WA,Nat.reduceEqDiff,reduceCtorEq,r1]
 rw[List.drop_zero] at r3
 cases hb:bdx l 0 with
 | none=>
  rw[hb] at r3
  subst r3
  simp only[WA]
 | some j=>
  rw[hb] at r3
  obtain ⟨rfl,r4⟩:=r3
  simp only[WA,r4]
theorem z1T {a:Value} {l:List Int} {H:q0a} (ha:Ints H a l) (hs:tiny l):cw Tryz.prog (tabF tab) om1 130 [a,.func (.func 131) ⟨[]⟩ ⟨[]⟩] H=some (.bool (bdx l 0).isSome,H):=by
 rw[q0g (F:=q0O) rfl rfl rfl]
 unfold q0O q2k
 have c:=j1D ha hs
 cases hb:bdx l 0 with
 | none=>
  rw[hb] at c
  have h0:¬(-1:Int)≥0:=by decide
  simp only[WA,Nat.reduceEqDiff,reduceCtorEq,c,h0,Option.isSome_none]
 | some j=>
  rw[hb] at c
  have h0:(j:Int)≥0:=by omega
  simp only[WA,Nat.reduceEqDiff,reduceCtorEq,c,h0,Option.isSome_some]
theorem z8f {a:Value} {l:List Int} {H:q0a} (ha:Ints H a l) (hs:tiny l):cw Tryz.prog (tabF tab) om1 113 [a] H=some (.bool (q6J l),H):=by
 rw[q0g (F:=q7g) rfl rfl rfl]
 unfold q7g k2u q6J
 have c:=z1T ha hs
 by_cases h1:0<l.length
 ·have h1':(l.length:Int)>0:=by omega
  by_cases h2:l.length≤8
  ·have h2':(l.length:Int)≤8:=by omega
   simp only[WA,Nat.reduceEqDiff,reduceCtorEq,ha.len,h1,h2,h1',h2',c]
   cases bdx l 0<;>rfl
  ·have h2':¬(l.length:Int)≤8:=by omega
   simp only[WA,Nat.reduceEqDiff,reduceCtorEq,ha.len,h1,h2,h1',h2',Bool.and_false,Bool.false_and]
 ·have h1':¬(l.length:Int)>0:=by omega
  simp only[WA,Nat.reduceEqDiff,reduceCtorEq,ha.len,h1,h1',Bool.false_and]
def fdx (x:List Int):List Rl→Nat→Option Nat
 | [],_=>none
 | r::L,i=>if r.1=x then some i else fdx x L (i+1)
def fnd (L:List Rl) (x:List Int):Int:=match fdx x L 0 with|some k=>(k:Int)|none=>-1
theorem z9w {ai ao:Option Addr} {ni ci no co q:Nat} {b:Value} {li x:List Int} {H:q0a} (hi:Ints H (.slice ai ni ci) li) (hb:Ints H b x) (hs:tiny li) (hq:H.get q=some ⟨[b],34,.tip,0,[]⟩) :
  q0p (cw Tryz.prog (tabF tab) om1 115 [.agg ⟨[.slice ai ni ci,.slice ao no co]⟩,.pointer (some ⟨q,0,none⟩)] H) fun v H'=>Ext H H'∧v=.bool (decide (li=x)):=by
 rw[q0g (F:=q5w) rfl rfl rfl]
 unfold q5w q9P
 have hx1:=Ext.push H ⟨[.slice ai ni ci,.slice ao no co],127,.tip,0,[]⟩
 have hbx:vBox (.agg ⟨[.slice ai ni ci,.slice ao no co]⟩) 127 H=some (.pointer (some ⟨H.n,0,none⟩),H.push ⟨[.slice ai ni ci,.slice ao no co],127,.tip,0,[]⟩):=q8H rfl
 have hq2:=hx1.get hq
 have c:=z9v (hi.ext hx1) (hb.ext hx1) hs
 simp only[WA,Nat.reduceEqDiff,reduceCtorEq,hbx,hq2,c]
 exact hx1
theorem j1E {a b:Value} {q:Nat} {L:List Rl} {x:List Int}:∀(k i:Nat) (H:q0a),i+k=L.length→q2g H a L→Ints H b x→H.get q=some ⟨[b],34,.tip,0,[]⟩ →
  Out (run Tryz.prog (tabF tab) om1 (.loop [0,1,7,8] q2H) [(0,a),(1,.func (.func 115) ⟨[]⟩ ⟨[.pointer (some ⟨q,0,none⟩)]⟩),(7,.int .i64 L.length),(8,.int .i64 i)] H) fun y e' H'=>Ext H H' ∧
   match fdx x (L.drop i) i with|some j=>y=.ret∧eget e' 4=.int .i64 j|none=>y=.exit 0:=by
 intro k
 induction k with
 | zero=>
  intro i H hi ha hb hq
  have hlt:¬((i:Int)<L.length):=by omega
  rw[q0d q2H.eq_1,List.drop_of_length_le (by omega)]
  simp only[WA,Nat.reduceEqDiff,reduceCtorEq,hlt,fdx]
  exact Ext.refl _
 | succ k ih=>
  intro i H hi ha hb hq
  have hL:=ha.1
  have hlt:(i:Int)<L.length:=by omega
  obtain ⟨r,hr,hdr⟩:=q0z (L:=L) (i:=i) (by omega)
  obtain ⟨i1,o1,vi,vo,h1,h2,h3,h4,h5,h6,h7,h8⟩:=ha.at hr
  have h5':=h5
  have h6':=h6
  obtain ⟨⟨ai,ci,rfl⟩,_⟩:=h5'
  obtain ⟨⟨ao,co,rfl⟩,_⟩:=h6'
  obtain ⟨v,H1,c1,c2,rfl⟩:=z9w (ao:=ao) (no:=r.2.length) (co:=co) h5 hb h7 hq
  have hw2:IntKind.i64.wrap ((i:Int)+1)=((i+1:Nat):Int):=by rw[q0k (by omega) (by omega)];omega
  rw[q0d q2H.eq_1,hdr]
  unfold fdx
  by_cases he:r.1=x
  ·simp only[he] at c1
   simp only[WA,Nat.reduceEqDiff,reduceCtorEq,hlt,h1,h4,k5D,c1,he]
   exact c2
  ·obtain ⟨z,e',H',r1,r2,r3⟩:=ih (i+1) H1 (by omega) (ha.ext c2) (hb.ext c2) (c2.get hq)
   simp only[he] at c1
   simp only[WA,Nat.reduceEqDiff,reduceCtorEq,hlt,h1,h4,k5D,c1,he,hw2]
   rw[q0e]
   simp only[WA,Nat.reduceEqDiff,reduceCtorEq,r1]
   exact ⟨c2.trans r2,r3⟩
theorem z3X {a b:Value} {L:List Rl} {x:List Int} {H:q0a} (ha:q2g H a L) (hb:Ints H b x):q0p (cw Tryz.prog (tabF tab) om1 91 [a,b] H) fun v H'=>Ext H H'∧v=.int .i64 (fnd L x):=by
 rw[q0g (F:=q7e) rfl rfl rfl]
 unfold q7e k2l
 have hb':=hb
 obtain ⟨⟨ab,cb,rfl⟩,_⟩:=hb'
 have hbx:vBox (.slice ab x.length cb) 34 H=some (.pointer (some ⟨H.n,0,none⟩),H.push ⟨[.slice ab x.length cb],34,.tip,0,[]⟩):=q8H rfl
 have hx1:=Ext.push H ⟨[.slice ab x.length cb],34,.tip,0,[]⟩
 have inner:q0p (cw Tryz.prog (tabF tab) om1 114 [a,.func (.func 115) ⟨[]⟩ ⟨[.pointer (some ⟨H.n,0,none⟩)]⟩] (H.push ⟨[.slice ab x.length cb],34,.tip,0,[]⟩)) fun v H'=>Ext (H.push ⟨[.slice ab x.length cb],34,.tip,0,[]⟩) H'∧v=.int .i64 (fnd L x):=by
  rw[q0g (F:=q4y) rfl rfl rfl]
  unfold q4y q9b
  obtain ⟨y,e',H',r1,r2,r3⟩:=j1E L.length 0 _ (by omega) (ha.ext hx1) (hb.ext hx1) q0b
  simp only[Int.cast_ofNat_Int] at r1
  simp only[WA,Nat.reduceEqDiff,reduceCtorEq,ha.len]
  rw[q0e]
  simp only[WA,Nat.reduceEqDiff,reduceCtorEq,r1]
  rw[List.drop_zero] at r3
  unfold fnd
  cases hf:fdx x L 0 with
  | none=>
   rw[hf] at r3
   subst r3
   simp only[WA]
   exact r2
  | some j=>
   rw[hf] at r3
   obtain ⟨rfl,r4⟩:=r3
   simp only[WA,r4]
   exact r2
 obtain ⟨v,H',c1,c2,rfl⟩:=inner
 simp only[WA,Nat.reduceEqDiff,reduceCtorEq,hbx,c1]
 exact hx1.trans c2
def lg:List Rl→Nat→Nat
 | [],n=>n
 | r::L,n=>lg L (max n r.1.length)
theorem z3Y {a:Value} {L:List Rl}:∀(k i n:Nat) (H:q0a),i+k=L.length→q2g H a L →
  Out (run Tryz.prog (tabF tab) om1 (.loop [3,6,7,8] q3A) [(3,.int .i64 n),(6,a),(7,.int .i64 L.length),(8,.int .i64 i)] H) fun y e' H'=>Ext H H'∧y=.exit 0∧eget e' 3=.int .i64 (lg (L.drop i) n):=by
 intro k
 induction k with
 | zero=>
  intro i n H hi ha
  have hlt:¬((i:Int)<L.length):=by omega
  rw[q0d q3A.eq_1,List.drop_of_length_le (by omega)]
  simp only[WA,Nat.reduceEqDiff,hlt,lg]
  exact Ext.refl _
 | succ k ih=>
  intro i n H hi ha
  have hL:=ha.1
  have hlt:(i:Int)<L.length:=by omega
  obtain ⟨r,hr,hdr⟩:=q0z (L:=L) (i:=i) (by omega)
  obtain ⟨i1,o1,vi,vo,h1,h2,h3,h4,h5,h6,h7,h8⟩:=ha.at hr
  have h5':=h5
  have h6':=h6
  obtain ⟨⟨ai,ci,rfl⟩,_⟩:=h5'
  obtain ⟨⟨ao,co,rfl⟩,_⟩:=h6'
  have hx1:=Ext.push H ⟨[.slice ai r.1.length ci,.slice ao r.2.length co],127,.tip,1,[]⟩
  obtain ⟨z,e',H',r1,r2,r3,r4⟩:=ih (i+1) (max n r.1.length) _ (by omega) (ha.ext hx1)
  have hw2:IntKind.i64.wrap ((i:Int)+1)=((i+1:Nat):Int):=by rw[q0k (by omega) (by omega)];omega
  have hm:(if (r.1.length:Int)>(n:Int) then (r.1.length:Int) else (n:Int))=((max n r.1.length:Nat):Int):=by
   by_cases h:(r.1.length:Int)>(n:Int)
   ·rw[if_pos h,Nat.max_eq_right (by omega)]
   ·rw[if_neg h,Nat.max_eq_left (by omega)]
  rw[q0d q3A.eq_1,hdr]
  unfold lg
  simp only[WA,Nat.reduceEqDiff,Nat.reduceAdd,hlt,h1,h4,h5.len,hm,hw2]
  rw[q0e]
  simp only[WA,Nat.reduceEqDiff,r1]
  exact ⟨hx1.trans r2,r3,r4⟩
theorem k7J {a:Value} {L:List Rl} {H:q0a} (ha:q2g H a L):q0p (cw Tryz.prog (tabF tab) om1 67 [a] H) fun v H'=>Ext H H'∧v=.int .i64 (lg L 0):=by
 rw[q0g (F:=q4K) rfl rfl rfl]
 unfold q4K q8N
 obtain ⟨y,e',H',r1,r2,rfl,r4⟩:=z3Y L.length 0 0 H (by omega) ha
 simp only[Int.cast_ofNat_Int] at r1
 simp only[WA,Nat.reduceEqDiff,reduceCtorEq,ha.len]
 rw[q0e]
 simp only[WA,Nat.reduceEqDiff,reduceCtorEq,r1,r4]
 exact r2
def chk (L:List Rl):List Rl→Nat→Int×Int
 | [],_=>(-1,0)
 | r::t,k=>if 512≤k then ((k:Int),7) else if (!q6J r.1||!q6J r.2)=true then ((k:Int),9) else if fnd (L.take k) r.1≥0 then ((k:Int),8) else chk L t (k+1)
theorem z9x {a:Value} {L:List Rl}:∀(k i:Nat) (H:q0a),i+k=L.length→q2g H a L→Cut Tryz.prog H a 2 →
  Out (run Tryz.prog (tabF tab) om1 (.loop [0,6,7,8] q4L) [(0,a),(6,a),(7,.int .i64 L.length),(8,.int .i64 i)] H) fun y e' H'=>Ext H H' ∧
   if chk L (L.drop i) i=(-1,0) then y=.exit 0 else y=.ret∧eget e' 2=.int .i64 (chk L (L.drop i) i).1∧eget e' 3=.int .i64 (chk L (L.drop i) i).2:=by
 intro k
 induction k with
 | zero=>
  intro i H hi ha hc
  have hlt:¬((i:Int)<L.length):=by omega
  rw[q0d q4L.eq_1,List.drop_of_length_le (by omega)]
  simp only[WA,Nat.reduceEqDiff,reduceCtorEq,hlt,chk]
  exact Ext.refl _
 | succ k ih=>
  intro i H hi ha hc
  have hL:=ha.1
  have hlt:(i:Int)<L.length:=by omega
  obtain ⟨r,hr,hdr⟩:=q0z (L:=L) (i:=i) (by omega)
  obtain ⟨i1,o1,vi,vo,h1,h2,h3,h4,h5,h6,h7,h8⟩:=ha.at hr
  have h5':=h5
  have h6':=h6
  obtain ⟨⟨ai,ci,rfl⟩,_⟩:=h5'
  obtain ⟨⟨ao,co,rfl⟩,_⟩:=h6'
  have hx1:=Ext.push H ⟨[.slice ai r.1.length ci,.slice ao r.2.length co],127,.tip,1,[]⟩
  have hw2:IntKind.i64.wrap ((i:Int)+1)=((i+1:Nat):Int):=by rw[q0k (by omega) (by omega)];omega
  rw[q0d q4L.eq_1,hdr]
  unfold chk
  have ne:∀x y:Int,((i:Int),x)≠((-1:Int),y):=fun x y h=>by injection h;omega
  by_cases g1:512≤i
  ·have g1':(i:Int)≥512:=by omega
   simp only[WA,Nat.reduceEqDiff,Nat.reduceAdd,reduceCtorEq,hlt,h1,h4,g1,g1',ne]
   exact hx1
  ·have g1':¬(i:Int)≥512:=by omega
   have s1:=z8f (h5.ext hx1) h7
   have s2:=z8f (h6.ext hx1) h8
   cases e1:q6J r.1 with
   | false=>
    rw[e1] at s1
    simp only[WA,Nat.reduceEqDiff,Nat.reduceAdd,reduceCtorEq,hlt,h1,h4,g1,g1',s1,ne,Bool.true_or]
    exact hx1
   | true=>
    rw[e1] at s1
    cases e2:q6J r.2 with
    | false=>
     rw[e2] at s2
     simp only[WA,Nat.reduceEqDiff,Nat.reduceAdd,reduceCtorEq,hlt,h1,h4,g1,g1',s1,s2,ne,Bool.or_true]
     exact hx1
    | true=>
     rw[e2] at s2
     obtain ⟨v',k1,k2,k3⟩:=(ha.ext hx1).take (hc.ext hx1) (show i≤L.length by omega)
     obtain ⟨v,H2,c1,c2,rfl⟩:=z3X k2 (h5.ext hx1)
     have hst:q7D H2 (q6I H.n (some ⟨[.slice ai r.1.length ci,.slice ao r.2.length co],127,.tip,1,[]⟩))=true:=by
      have:=z1N c2 (i:=H.n)
      rwa [q0b] at this
     have hst2:H2.get H.n=some ⟨[.slice ai r.1.length ci,.slice ao r.2.length co],127,.tip,1,[]⟩:=c2.get q0b
     by_cases g2:fnd (L.take i) r.1≥0
     ·simp only[WA,q0M,q1b,q1w,q1y,Nat.reduceEqDiff,Nat.reduceAdd,reduceCtorEq,hlt,h1,h4,g1,g1',s1,s2,ne,k1,c1,g2,hst2,Bool.or_self,Bool.false_eq_true]
      exact hx1.trans c2
     ·obtain ⟨z,e',H',r1,r2,r3⟩:=ih (i+1) H2 (by omega) ((ha.ext hx1).ext c2) ((hc.ext hx1).ext c2)
      simp only[WA,q0M,q1b,q1w,q1y,Nat.reduceEqDiff,Nat.reduceAdd,reduceCtorEq,hlt,h1,h4,g1,g1',s1,s2,k1,c1,g2,hst2,hw2,Bool.or_self,Bool.false_eq_true]
      rw[q0e]
      simp only[WA,Nat.reduceEqDiff,reduceCtorEq,r1]
      exact ⟨(hx1.trans c2).trans r2,r3⟩
theorem z9y {a:Value} {L:List Rl} {H:q0a} (ha:q2g H a L) (hc:Cut Tryz.prog H a 2):q0p (cw Tryz.prog (tabF tab) om1 89 [a] H) fun v H'=>Ext H H'∧v=.tuple ⟨[.int .i64 (chk L L 0).1,.int .i64 (chk L L 0).2]⟩:=by
 rw[q0g (F:=q6a) rfl rfl rfl]
 unfold q6a k0T
 obtain ⟨y,e',H',r1,r2,r3⟩:=z9x L.length 0 H (by omega) ha hc
 simp only[Int.cast_ofNat_Int] at r1
 simp only[WA,Nat.reduceEqDiff,reduceCtorEq,ha.len]
 rw[q0e]
 simp only[WA,Nat.reduceEqDiff,reduceCtorEq,r1]
 rw[List.drop_zero] at r3
 split at r3
 ·rename_i h
  subst r3
  simp only[WA,Nat.reduceEqDiff,h]
  exact r2
 ·obtain ⟨rfl,r4,r5⟩:=r3
  simp only[WA,r4,r5]
  exact r2
theorem z0X {x:List Int}:∀{L:List Rl} {i:Nat},(∀r∈L,r.1≠x)→fdx x L i=none
 | [],_,_=>rfl
 | r::L,i,h=>by
  unfold fdx
  rw[if_neg (h r (List.mem_cons_self ..))]
  exact z0X fun r hr=>h r (List.mem_cons_of_mem _ hr)
theorem z0Y {x:List Int}:∀{L:List Rl} {i j:Nat},fdx x L i=some j→∃r,L[j-i]?=some r∧r.1=x∧i≤j
 | [],_,_,h=>by cases h
 | r::L,i,j,h=>by
  unfold fdx at h
  split at h
  ·injection h with h
   subst h
   exact ⟨r,by simp,by assumption,Nat.le_refl _⟩
  ·obtain ⟨r',h1,h2,h3⟩:=z0Y h
   refine ⟨r',?_,h2,by omega⟩
   rw[show j-i=(j-(i+1))+1 by omega]
   simpa using h1
theorem z3Z {L:List Rl} {x:List Int}:fnd L x<0↔∀r∈L,r.1≠x:=by
 unfold fnd
 constructor
 ·intro h r hr hx
  cases hf:fdx x L 0 with
  | some k=>rw[hf] at h;simp at h;omega
  | none=>
   have key:∀{L:List Rl} {i:Nat},fdx x L i=none→∀r∈L,r.1≠x:=by
    intro L
    induction L with
    | nil=>intro i _ r hr;cases hr
    | cons a L ih=>
     intro i h r hr
     unfold fdx at h
     split at h
     ·cases h
     ·rcases List.mem_cons.1 hr with rfl|hr
      ·assumption
      ·exact ih h r hr
   exact key hf r hr hx
 ·intro h
  rw[z0X h]
  decide
structure Nd where
 unit:Int
 kid:Int
 brother:Int
 rule:Int
def nd (x:Nd):List Value:=[.int .i64 x.unit,.int .i64 x.kid,.int .i64 x.brother,.int .i64 x.rule]
def q8f (H:q0a) (t:Nat) (N:List Nd) (vr:Value):Prop:=∃vn st ver anc,H.get t=some ⟨[vn,vr],177,st,ver,anc⟩∧st.mem=true∧Sl H 4 vn N.length (N.flatMap nd)∧N.length<1000000000
structure z8g (H:q0a) (t:Nat) (N:List Nd) (vn vr:Value):Prop where
 nodes:q0l (H.get t) 0 none H=some (vn,H)
 rules:q0l (H.get t) (0+1) none H=some (vr,H)
 rules':q0l (H.get t) 1 none H=some (vr,H)
 len:∀H2:q0a,vLen false vn H2=some (.int .i64 N.length,H2)
 node:∀{k:Nat} {x:Nd},N[k]?=some x→∃i o,(∀(kd:IntKind) (H2:q0a),q2E vn (.int kd k) 4 H2=some (.pointer (some ⟨i,o,none⟩),H2))∧q0l (H.get i) o none H=some (.int .i64 x.unit,H)∧q0l (H.get i) (o+1) none H=some (.int .i64 x.kid,H)∧q0l (H.get i) (o+2) none H=some (.int .i64 x.brother,H)∧q0l (H.get i) (o+3) none H=some (.int .i64 x.rule,H)
 few:N.length<1000000000
theorem z4a {N:List Nd} {k f:Nat} {x:Nd} (hx:N[k]?=some x) (hf:f<4):(N.flatMap nd)[k*4+f]?=(nd x)[f]?:=by
 obtain ⟨h1,h2⟩:=z3i (f:=nd) (s:=4) (fun _=>rfl) hx
 rw[←h1,List.getElem?_take,if_pos hf,List.getElem?_drop]
theorem q8f.rd {H:q0a} {t:Nat} {N:List Nd} {vr:Value} (h:q8f H t N vr):∃vn,z8g H t N vn vr:=by
 obtain ⟨vn,st,ver,anc,h1,h2,h3,h4⟩:=h
 refine ⟨vn,⟨by rw[h1,q3d h2];rfl,by rw[h1,q3d h2];rfl,by rw[h1,q3d h2];rfl,fun H2=>h3.len,fun {k x} hk=>?_,h4⟩⟩
 obtain ⟨i,o,a1,a2,_⟩:=h3.at (List.getElem?_eq_some_iff.1 hk).1
 exact ⟨i,o,a1,a2 0 _ (by omega) (z4a hk (by omega)),a2 1 _ (by omega) (z4a hk (by omega)),a2 2 _ (by omega) (z4a hk (by omega)),a2 3 _ (by omega) (z4a hk (by omega))⟩
def k7K (N:List Nd):Int→List Nat→Prop
 | s,[]=>s≤0
 | s,j::r=>s=j∧0<j∧∃x,N[j]?=some x∧k7K N x.brother r
def k4C (N:List Nd) (j:Nat):Int:=match N[j]? with
 | some x=>x.unit
 | none=>0
def q8I (N:List Nd) (u:Int) (js:List Nat):Option Nat:=js.find? fun j=>decide (k4C N j=u)
theorem j1F {t:Nat} {N:List Nd} {vn vr:Value} {u:Int} {H:q0a} (hr:z8g H t N vn vr):∀(js:List Nat) (s:Int),k7K N s js →
  Out (run Tryz.prog (tabF tab) om1 (.loop [0,2,8] q2G) [(0,.pointer (some ⟨t,0,none⟩)),(2,.int .i64 u),(8,.int .i64 s)] H) fun y e' H'=>H'=H ∧
   match q8I N u js with|some j=>y=.ret∧eget e' 6=.int .i64 j∧eget e' 7=.bool true|none=>y=.exit 0:=by
 intro js
 induction js with
 | nil=>
  intro s hc
  have hs:¬s>0:=by have:s≤0:=hc;omega
  rw[q0d q2G.eq_1]
  simp only[WA,Nat.reduceEqDiff,reduceCtorEq,hs,q8I,List.find?_nil]
 | cons j js ih=>
  intro s hc
  obtain ⟨rfl,hj,x,hx,hc⟩:=hc
  have hs:(j:Int)>0:=by omega
  obtain ⟨i,o,a1,a2,a3,a4,a5⟩:=hr.node hx
  have hu:k4C N j=x.unit:=by unfold k4C;rw[hx]
  rw[q0d q2G.eq_1]
  unfold q8I
  rw[List.find?_cons,hu]
  by_cases he:x.unit=u
  ·have hd:decide (x.unit=u)=true:=decide_eq_true he
   simp only[WA,Nat.reduceEqDiff,reduceCtorEq,hs,hr.nodes,a1,a2,hd]
  ·have hd:decide (x.unit=u)=false:=decide_eq_false he
   obtain ⟨y,e',H',r1,r2,r3⟩:=ih x.brother hc
   simp only[WA,Nat.reduceEqDiff,reduceCtorEq,hs,hr.nodes,a1,a2,a4,hd]
   rw[q0e]
   simp only[WA,Nat.reduceEqDiff,reduceCtorEq,r1]
   exact ⟨r2,r3⟩
theorem z8h {t:Nat} {N:List Nd} {vr:Value} {k:Nat} {x:Nd} {u:Int} {H:q0a} {js:List Nat} (hr:q8f H t N vr) (hk:N[k]?=some x) (hc:k7K N x.kid js) :
  cw Tryz.prog (tabF tab) om1 90 [.pointer (some ⟨t,0,none⟩),.int .i64 (k:Int),.int .i64 u] H=some (.tuple ⟨match q8I N u js with|some j=>[.int .i64 j,.bool true]|none=>[.int .i64 0,.bool false]⟩,H):=by
 obtain ⟨vn,hr⟩:=hr.rd
 rw[q0g (F:=q3j) rfl rfl rfl]
 unfold q3j q6D
 have hkl:=(List.getElem?_eq_some_iff.1 hk).1
 have h1:¬(k:Int)<0:=by omega
 have h2:¬(k:Int)≥(N.length:Int):=by omega
 obtain ⟨i,o,a1,a2,a3,a4,a5⟩:=hr.node hk
 obtain ⟨y,e',H',r1,rfl,r3⟩:=j1F (u:=u) hr js x.kid hc
 have hl:=hr.len H'
 have hn:=hr.nodes
 simp only[WA,Nat.reduceEqDiff,reduceCtorEq,h1,hn,hl,h2,a1,a3]
 rw[q0e]
 simp only[WA,Nat.reduceEqDiff,reduceCtorEq,r1]
 cases hp:q8I N u js with
 | none=>
  rw[hp] at r3
  subst r3
  simp only[WA,Nat.reduceEqDiff]
 | some j=>
  rw[hp] at r3
  obtain ⟨rfl,r4,r5⟩:=r3
  simp only[WA,r4,r5]
theorem j1G {t:Nat} {N:List Nd} {vr:Value} {k:Nat} {x:Nd} {H:q0a} (hr:q8f H t N vr) (hk:N[k]?=some x) :
  cw Tryz.prog (tabF tab) om1 102 [.pointer (some ⟨t,0,none⟩),.int .i64 (k:Int)] H=some (.int .i64 x.rule,H):=by
 obtain ⟨vn,hr⟩:=hr.rd
 rw[q0g (F:=q1J) rfl rfl rfl]
 unfold q1J q4x
 have hkl:=(List.getElem?_eq_some_iff.1 hk).1
 have h1:¬(k:Int)<0:=by omega
 have h2:¬(k:Int)≥(N.length:Int):=by omega
 obtain ⟨i,o,a1,a2,a3,a4,a5⟩:=hr.node hk
 have hl:=hr.len H
 have hn:=hr.nodes
 simp only[WA,Nat.reduceEqDiff,reduceCtorEq,h1,hn,hl,h2,a1,a5]
theorem j1H {t:Nat} {N:List Nd} {vr:Value} {k:Nat} {x:Nd} {H:q0a} (hr:q8f H t N vr) (hk:N[k]?=some x) :
  cw Tryz.prog (tabF tab) om1 103 [.pointer (some ⟨t,0,none⟩),.int .i64 (k:Int)] H=some (.bool (decide (x.kid=0)),H):=by
 obtain ⟨vn,hr⟩:=hr.rd
 rw[q0g (F:=q3k) rfl rfl rfl]
 unfold q3k q6E
 have hkl:=(List.getElem?_eq_some_iff.1 hk).1
 have h1:¬(k:Int)<0:=by omega
 have h2:¬(k:Int)≥(N.length:Int):=by omega
 obtain ⟨i,o,a1,a2,a3,a4,a5⟩:=hr.node hk
 have hl:=hr.len H
 have hn:=hr.nodes
 simp only[WA,Nat.reduceEqDiff,reduceCtorEq,h1,hn,hl,h2,a1,a3]
def kidB (P:List (List Int)) (p:List Int) (j:Nat):Bool:=match P[j]? with
 | some q=>decide (q≠[])&&decide (q.dropLast=p)
 | none=>false
def q3f (P:List (List Int)) (p:List Int):List Nat:=((List.range P.length).filter (kidB P p)).reverse
structure Fits (P:List (List Int)) (N:List Nd):Prop where
 len:N.length=P.length
 root:P[0]?=some []
 nodup:P.Nodup
 chain:∀{j:Nat} {x:Nd} {p:List Int},N[j]?=some x→P[j]?=some p→k7K N x.kid (q3f P p)
 unit:∀{j:Nat} {x:Nd} {p:List Int} {u:Int},N[j]?=some x→P[j]?=some (p++[u])→x.unit=u
 closed:∀{p:List Int} {u:Int},p++[u]∈P→p∈P
 kid0:∀{j:Nat} {x:Nd},N[j]?=some x→0≤x.kid
theorem z4b {P:List (List Int)} (h:P.Nodup) {i j:Nat} {p:List Int} (hi:P[i]?=some p) (hj:P[j]?=some p):i=j:=by
 obtain ⟨h1,h2⟩:=List.getElem?_eq_some_iff.1 hi
 obtain ⟨h3,h4⟩:=List.getElem?_eq_some_iff.1 hj
 rcases Nat.lt_trichotomy i j with hlt|rfl|hlt
 ·exact absurd (h2.trans h4.symm) (List.pairwise_iff_getElem.1 h i j h1 h3 hlt)
 ·rfl
 ·exact absurd (h4.trans h2.symm) (List.pairwise_iff_getElem.1 h j i h3 h1 hlt)
theorem k8Y {P:List (List Int)} {p:List Int} {j:Nat}:kidB P p j=true↔∃u,P[j]?=some (p++[u]):=by
 unfold kidB
 constructor
 ·intro h
  split at h
  ·rename_i q hq
   simp only[Bool.and_eq_true,decide_eq_true_eq] at h
   obtain ⟨h1,rfl⟩:=h
   exact ⟨q.getLast h1,hq.trans (congrArg some (List.dropLast_concat_getLast h1).symm)⟩
  ·cases h
 ·rintro ⟨u,hu⟩
  rw[hu]
  simp
theorem k0l {P:List (List Int)} {p:List Int} {j:Nat}:j∈q3f P p↔∃u,P[j]?=some (p++[u]):=by
 unfold q3f
 rw[List.mem_reverse,List.mem_filter,k8Y,List.mem_range]
 constructor
 ·exact fun h=>h.2
 ·rintro ⟨u,hu⟩
  exact ⟨(List.getElem?_eq_some_iff.1 hu).1,u,hu⟩
theorem k0m {P:List (List Int)} {N:List Nd} (h:Fits P N) {p:List Int} {u:Int} {j:Nat}:q8I N u (q3f P p)=some j↔P[j]?=some (p++[u]):=by
 have key:∀{i:Nat},i∈q3f P p→k4C N i=u→P[i]?=some (p++[u]):=by
  intro i hi hu
  obtain ⟨v,hv⟩:=k0l.1 hi
  have hil:i<N.length:=by rw[h.len];exact (List.getElem?_eq_some_iff.1 hv).1
  have hx:=List.getElem?_eq_getElem hil
  have:=h.unit hx hv
  unfold k4C at hu
  rw[hx] at hu
  simp only at hu
  rw[hv,←hu,this]
 constructor
 ·intro hp
  unfold q8I at hp
  exact key (List.mem_of_find?_eq_some hp) (by simpa using List.find?_some hp)
 ·intro hj
  cases hp:q8I N u (q3f P p) with
  | some i=>
   have hi:P[i]?=some (p++[u]):=by
    unfold q8I at hp
    exact key (List.mem_of_find?_eq_some hp) (by simpa using List.find?_some hp)
   rw[z4b h.nodup hi hj]
  | none=>
   exfalso
   unfold q8I at hp
   rw[List.find?_eq_none] at hp
   have hjl:j<N.length:=by rw[h.len];exact (List.getElem?_eq_some_iff.1 hj).1
   have hx:=List.getElem?_eq_getElem hjl
   refine hp j (k0l.2 ⟨u,hj⟩) ?_
   unfold k4C
   rw[hx]
   simpa using h.unit hx hj
theorem k2W {P:List (List Int)} {N:List Nd} (h:Fits P N) {p:List Int} {u:Int}:q8I N u (q3f P p)=none↔p++[u]∉P:=by
 constructor
 ·intro hp hm
  obtain ⟨j,hj,hjp⟩:=List.getElem_of_mem hm
  have:=(k0m h (p:=p) (u:=u) (j:=j)).2 (by rw[List.getElem?_eq_getElem hj,hjp])
  rw[hp] at this
  cases this
 ·intro hm
  cases hp:q8I N u (q3f P p) with
  | none=>rfl
  | some j=>exact absurd (List.mem_of_getElem? ((k0m h).1 hp)) hm
theorem k7K.congr {N N':List Nd} (hb:∀(j:Nat) (x:Nd),N[j]?=some x→∃x',N'[j]?=some x'∧x'.brother=x.brother):∀{js:List Nat} {s:Int},k7K N s js→k7K N' s js
 | [],s,h=>h
 | j::js,s,⟨h1,h2,x,hx,h3⟩=>by
  obtain ⟨x',hx',e⟩:=hb j x hx
  exact ⟨h1,h2,x',hx',by rw[e];exact k7K.congr hb h3⟩
theorem Fits.setRule {P:List (List Int)} {N:List Nd} (h:Fits P N) {k:Nat} {x:Nd} (hx:N[k]?=some x) (r:Int):Fits P (N.set k ⟨x.unit,x.kid,x.brother,r⟩):=by
 have hk:=(List.getElem?_eq_some_iff.1 hx).1
 have get:∀{j:Nat} {y:Nd},(N.set k ⟨x.unit,x.kid,x.brother,r⟩)[j]?=some y→∃z:Nd,N[j]?=some z∧y.unit=z.unit∧y.kid=z.kid∧y.brother=z.brother:=by
  intro j y hy
  rw[List.getElem?_set] at hy
  split at hy
  ·rename_i e
   subst e
   injection hy with hy
   subst hy
   exact ⟨x,hx,rfl,rfl,rfl⟩
  ·exact ⟨y,hy,rfl,rfl,rfl⟩
 have hb:∀(j:Nat) (z:Nd),N[j]?=some z→∃z':Nd,(N.set k ⟨x.unit,x.kid,x.brother,r⟩)[j]?=some z'∧z'.brother=z.brother:=by
  intro j z hz
  rw[List.getElem?_set]
  split
  ·rename_i e
   subst e
   rw[hx] at hz
   injection hz with hz
   subst hz
   exact ⟨_,rfl,rfl⟩
  ·exact ⟨z,hz,rfl⟩
 refine ⟨by simp[h.len],h.root,h.nodup,fun hj hp=>?_,fun hj hp=>?_,h.closed,fun hj=>?_⟩
 ·obtain ⟨z,hz,_,e2,_⟩:=get hj
  rw[e2]
  exact (h.chain hz hp).congr hb
 ·obtain ⟨z,hz,e1,_,_⟩:=get hj
  rw[e1]
  exact h.unit hz hp
 ·obtain ⟨z,hz,_,e2,_⟩:=get hj
  rw[e2]
  exact h.kid0 hz
theorem Fits.snoc {P:List (List Int)} {N:List Nd} (h:Fits P N) {k:Nat} {x:Nd} {p:List Int} {u:Int} (hx:N[k]?=some x) (hp:P[k]?=some p) (hn:p++[u]∉P) :
  Fits (P++[p++[u]]) ((N++[Nd.mk u 0 x.kid (-1)]).set k ⟨x.unit,(N.length:Int),x.brother,x.rule⟩):=by
 have hk:=(List.getElem?_eq_some_iff.1 hx).1
 have hlen:=h.len
 have h0:0<P.length:=(List.getElem?_eq_some_iff.1 h.root).1
 have old:∀{j:Nat},j<N.length→j≠k→((N++[Nd.mk u 0 x.kid (-1)]).set k ⟨x.unit,(N.length:Int),x.brother,x.rule⟩)[j]?=N[j]?:=by
  intro j hj hne
  rw[List.getElem?_set,if_neg (fun e=>hne e.symm),List.getElem?_append_left hj]
 have atk:((N++[Nd.mk u 0 x.kid (-1)]).set k ⟨x.unit,(N.length:Int),x.brother,x.rule⟩)[k]?=some ⟨x.unit,(N.length:Int),x.brother,x.rule⟩:=by
  rw[List.getElem?_set,if_pos rfl,if_pos (by simp;omega)]
 have atn:((N++[Nd.mk u 0 x.kid (-1)]).set k ⟨x.unit,(N.length:Int),x.brother,x.rule⟩)[N.length]?=some ⟨u,0,x.kid,-1⟩:=by
  rw[List.getElem?_set,if_neg (by omega),List.getElem?_append_right (Nat.le_refl _),Nat.sub_self]
  rfl
 have hb:∀(j:Nat) (z:Nd),N[j]?=some z→∃z':Nd,((N++[Nd.mk u 0 x.kid (-1)]).set k ⟨x.unit,(N.length:Int),x.brother,x.rule⟩)[j]?=some z'∧z'.brother=z.brother:=by
  intro j z hz
  by_cases e:j=k
  ·subst e
   rw[hx] at hz
   injection hz with hz
   subst hz
   exact ⟨_,atk,rfl⟩
  ·exact ⟨z,by rw[old (List.getElem?_eq_some_iff.1 hz).1 e];exact hz,rfl⟩
 have kidsO:∀q,q≠p→q3f (P++[p++[u]]) q=q3f P q:=by
  intro q hq
  unfold q3f
  rw[List.length_append,List.length_singleton,List.range_succ,List.filter_append]
  have h1:[P.length].filter (kidB (P++[p++[u]]) q)=[]:=by
   rw[List.filter_eq_nil_iff]
   intro j hj
   simp at hj
   subst hj
   rw[k8Y]
   rintro ⟨v,hv⟩
   rw[List.getElem?_append_right (Nat.le_refl _),Nat.sub_self] at hv
   simp at hv
   exact hq hv.1.symm
  rw[h1,List.append_nil]
  congr 1
  refine List.filter_congr fun j hj=>?_
  unfold kidB
  rw[List.getElem?_append_left (List.mem_range.1 hj)]
 have kidsK:q3f (P++[p++[u]]) p=P.length::q3f P p:=by
  unfold q3f
  rw[List.length_append,List.length_singleton,List.range_succ,List.filter_append,List.reverse_append]
  have h1:[P.length].filter (kidB (P++[p++[u]]) p)=[P.length]:=by
   rw[List.filter_eq_self]
   intro j hj
   simp at hj
   subst hj
   rw[k8Y]
   exact ⟨u,by rw[List.getElem?_append_right (Nat.le_refl _),Nat.sub_self];rfl⟩
  rw[h1,List.reverse_singleton,List.singleton_append]
  congr 2
  refine List.filter_congr fun j hj=>?_
  unfold kidB
  rw[List.getElem?_append_left (List.mem_range.1 hj)]
 have kidsN:q3f P (p++[u])=[]:=by
  rw[List.eq_nil_iff_forall_not_mem]
  intro j hj
  obtain ⟨v,hv⟩:=k0l.1 hj
  exact hn (h.closed (List.mem_of_getElem? hv))
 have hne:p++[u]≠p:=fun e=>by have:=congrArg List.length e;simp at this
 refine ⟨by simp[hlen],by rw[List.getElem?_append_left h0];exact h.root,?_,?_,?_,?_,?_⟩
 ·rw[List.nodup_append]
  exact ⟨h.nodup,by simp,fun a ha b hb2=>by simp at hb2;subst hb2;intro e;subst e;exact hn ha⟩
 ·intro j y q hj hq
  by_cases e:j=k
  ·subst e
   rw[atk] at hj
   injection hj with hj
   subst hj
   rw[List.getElem?_append_left (by omega),hp] at hq
   injection hq with hq
   subst hq
   rw[kidsK]
   refine ⟨by show (N.length:Int)=_;rw[hlen],by omega,⟨u,0,x.kid,-1⟩,by rw[←hlen];exact atn,(h.chain hx hp).congr hb⟩
  ·rcases Nat.lt_or_ge j N.length with hl|hl
   ·rw[old hl e] at hj
    rw[List.getElem?_append_left (by omega)] at hq
    have hqp:q≠p:=fun e2=>e (z4b h.nodup (e2▸hq) hp)
    rw[kidsO q hqp]
    exact (h.chain hj hq).congr hb
   ·have hjn:j=N.length:=by
     have:=(List.getElem?_eq_some_iff.1 hj).1
     simp at this
     omega
    subst hjn
    rw[atn] at hj
    injection hj with hj
    subst hj
    rw[List.getElem?_append_right (by omega),hlen,Nat.sub_self] at hq
    simp at hq
    subst hq
    rw[kidsO _ hne,kidsN]
    exact Int.le_refl 0
 ·intro j y q v hj hq
  by_cases e:j=k
  ·subst e
   rw[atk] at hj
   injection hj with hj
   subst hj
   rw[List.getElem?_append_left (by omega)] at hq
   show x.unit=v
   exact h.unit hx hq
  ·rcases Nat.lt_or_ge j N.length with hl|hl
   ·rw[old hl e] at hj
    rw[List.getElem?_append_left (by omega)] at hq
    exact h.unit hj hq
   ·have hjn:j=N.length:=by
     have:=(List.getElem?_eq_some_iff.1 hj).1
     simp at this
     omega
    subst hjn
    rw[atn] at hj
    injection hj with hj
    subst hj
    rw[List.getElem?_append_right (by omega),hlen,Nat.sub_self] at hq
    simp at hq
    exact hq.2
 ·intro q v hm
  rcases List.mem_append.1 hm with hm|hm
  ·exact List.mem_append_left _ (h.closed hm)
  ·simp at hm
   obtain ⟨rfl,_⟩:=hm
   exact List.mem_append_left _ (List.mem_of_getElem? hp)
 ·intro j y hj
  by_cases e:j=k
  ·subst e
   rw[atk] at hj
   injection hj with hj
   subst hj
   show (0:Int)≤(N.length:Int)
   omega
  ·rcases Nat.lt_or_ge j N.length with hl|hl
   ·rw[old hl e] at hj
    exact h.kid0 hj
   ·have hjn:j=N.length:=by
     have:=(List.getElem?_eq_some_iff.1 hj).1
     simp at this
     omega
    subst hjn
    rw[atn] at hj
    injection hj with hj
    subst hj
    exact Int.le_refl 0
def KI (H H':q0a):Prop:=∀(j:Nat) (blk:ABlk),H.get j=some blk→blk.elem=3→H'.get j=some blk
theorem KI.trans {a b c:q0a} (h:KI a b) (k:KI b c):KI a c:=fun j x h1 h2=>k j x (h j x h1 h2) h2
theorem Ext.ki {H H':q0a} (h:Ext H H'):KI H H':=fun j x h1 _=>h.get h1
theorem KI.of {H H':q0a} (h:∀(j:Nat) (blk:ABlk),H.get j=some blk→blk.elem=3→H'.get j=H.get j):KI H H':=fun j x h1 h2=>(h j x h1 h2).trans h1
def k2X (H:q0a) (cs:List Value) (O:List (List Int)):Prop:=∀(k:Nat) (o:List Int),O[k]?=some o→tiny o∧∃q c ver anc,cs[k*2]?=some (.slice none 0 0)∧cs[k*2+1]?=some (.slice (some ⟨q,0,none⟩) o.length c)∧H.get q=some ⟨ints o,3,.tip,ver,anc⟩
theorem k2X.ki {H H':q0a} (hk:KI H H') {cs:List Value} {O:List (List Int)} (h:k2X H cs O):k2X H' cs O:=fun k o ho=>by
 obtain ⟨h0,q,c,ver,anc,h1,h2,h3⟩:=h k o ho
 exact ⟨h0,q,c,ver,anc,h1,h2,hk _ _ h3 rfl⟩
theorem k2X.snoc {H:q0a} {cs:List Value} {O:List (List Int)} {o:List Int} {q c ver:Nat} {anc:List Nat} (h:k2X H cs O) (hl:cs.length=O.length*2) (h0:tiny o) (hq:H.get q=some ⟨ints o,3,.tip,ver,anc⟩):k2X H (cs++[.slice none 0 0,.slice (some ⟨q,0,none⟩) o.length c]) (O++[o]):=fun k x hx=>by
 rcases Nat.lt_or_ge k O.length with hk|hk
 ·rw[List.getElem?_append_left hk] at hx
  obtain ⟨h0,q,c,ver,anc,h1,h2,h3⟩:=h k x hx
  exact ⟨h0,q,c,ver,anc,by rw[List.getElem?_append_left (by omega)];exact h1,by rw[List.getElem?_append_left (by omega)];exact h2,h3⟩
 ·have hk0:k=O.length:=by
   have:=(List.getElem?_eq_some_iff.1 hx).1
   simp at this
   omega
  subst hk0
  simp at hx
  subst hx
  exact ⟨h0,q,c,ver,anc,by rw[List.getElem?_append_right (by omega),hl,Nat.sub_self];rfl,by rw[List.getElem?_append_right (by omega),hl,Nat.add_sub_cancel_left];rfl,hq⟩
structure TS (B:Nat) (H:q0a) (t b:Nat) (vr:Value) (N:List Nd) (O:List (List Int)):Prop where
 tB:B≤t
 bB:B≤b
 ne:t≠b
 few:N.length<1000000
 pos:0<N.length
 ht:∃ver,H.get t=some ⟨[.slice (some ⟨b,0,none⟩) N.length (N.length+1),vr],177,.tip,ver,[]⟩
 hn:∃ver A,H.get b=some ⟨N.flatMap nd,174,.tip,ver,A⟩∧∀a∈A,B≤a∧a≠t∧a<b∧q0i vr a∧∃blk,H.get a=some blk∧blk.elem=174
 hv:∃cs,Own H 127 2 vr O.length cs∧k2X H cs O
 vB:From B vr
 vt:q0i vr t
 vn:q0i vr b
theorem k5I (N:List Nd):(N.flatMap nd).length=N.length*4:=by
 induction N with
 | nil=>rfl
 | cons x N ih=>rw[List.flatMap_cons,List.length_append,ih];simp[nd];omega
theorem TS.at {B t b:Nat} {O:List (List Int)} {H:q0a} {vr:Value} {N:List Nd} (h:TS B H t b vr N O):q8f H t N vr:=by
 obtain ⟨ver,ht⟩:=h.ht
 obtain ⟨ver2,A,hn,_⟩:=h.hn
 exact ⟨_,_,_,_,ht,q0n,Sl.new hn q0n (k5I N),by have:=h.few;omega⟩
theorem TS.rules {B t b:Nat} {O:List (List Int)} {H:q0a} {vr:Value} {N:List Nd} (h:TS B H t b vr N O) (hO:O.length<1000000):q2g H vr (O.map fun o=>([],o)):=by
 obtain ⟨cs,hv,ho⟩:=h.hv
 refine ⟨by rw[List.length_map];omega,cs,by rw[List.length_map];exact hv.sl,fun k r hr=>?_⟩
 rw[List.getElem?_map,Option.map_eq_some_iff] at hr
 obtain ⟨o,ho1,rfl⟩:=hr
 obtain ⟨h0,q,c,ver,anc,h1,h2,h3⟩:=ho k o ho1
 exact ⟨⟨_,_,h1,h2,Sl.nil H 1,Sl.new h3 q0n (by simp[ints])⟩,by unfold Lon.tiny;simp,h0⟩
theorem TS.ext {B t b:Nat} {O:List (List Int)} {H H':q0a} {vr:Value} {N:List Nd} (hx:Ext H H') (h:TS B H t b vr N O):TS B H' t b vr N O:=by
 obtain ⟨ver,ht⟩:=h.ht
 obtain ⟨ver2,A,hn,hA⟩:=h.hn
 obtain ⟨cs,hv,ho⟩:=h.hv
 refine ⟨h.tB,h.bB,h.ne,h.few,h.pos,⟨ver,hx.get ht⟩,⟨ver2,A,hx.get hn,fun a ha=>?_⟩,⟨cs,hv.ext hx,ho.ki (Ext.ki hx)⟩,h.vB,h.vt,h.vn⟩
 obtain ⟨a1,a2,a3,a4,blk,a5,a6⟩:=hA a ha
 exact ⟨a1,a2,a3,a4,blk,hx.get a5,a6⟩
def k1d (x:Nd) (f:Nat) (z:Int):Nd:=match f with
 | 0=>⟨z,x.kid,x.brother,x.rule⟩
 | 1=>⟨x.unit,z,x.brother,x.rule⟩
 | 2=>⟨x.unit,x.kid,z,x.rule⟩
 | _=>⟨x.unit,x.kid,x.brother,z⟩
theorem j1I {x:Nd} {f:Nat} {z:Int} (hf:f<4):nd (k1d x f z)=(nd x).set f (.int .i64 z):=by
 match f,hf with
 | 0,_=>rfl
 | 1,_=>rfl
 | 2,_=>rfl
 | 3,_=>rfl
theorem z4c {f:Nat} {z:Int} (hf:f<4):∀{N:List Nd} {k:Nat} {x:Nd},N[k]?=some x→(N.set k (k1d x f z)).flatMap nd=(N.flatMap nd).set (k*4+f) (.int .i64 z)
 | [],k,x,h=>by simp at h
 | y::N,0,x,h=>by
  simp at h
  subst h
  rw[List.set_cons_zero,List.flatMap_cons,List.flatMap_cons,j1I hf,List.set_append,if_pos (by simp[nd];omega)]
  simp
 | y::N,k+1,x,h=>by
  rw[List.set_cons_succ,List.flatMap_cons,List.flatMap_cons,z4c hf (by simpa using h),List.set_append,if_neg (by simp[nd];omega)]
  congr 2
  simp[nd]
  omega
theorem z4d {α:Type} {l:List α} {i:Nat} {a:α} (h:i<l.length):l.take i++[a]++l.drop (i+1)=l.set i a:=by
 rw[List.set_eq_take_append_cons_drop,if_pos h]
 simp
theorem k0n {H:q0a} {A:List Nat} {j:Nat} (h:j∉A):(killAll H A).get j=H.get j:=q0v A H j h
theorem z1U {H:q0a} {A:List Nat} {b:Nat} {blk:ABlk} {el:TypeId} {sz n:Nat} {v:Value} {cs:List Value} (hv:Own H el sz v n cs) (hA:∀a∈A,q0i v a) (hb:q0i v b) (hg:(killAll H A).get b=some blk) (c:ABlk):Own ((killAll H A).upd b c) el sz v n cs:=by
 obtain ⟨hl,h⟩:=hv
 refine ⟨hl,?_⟩
 rcases h with h|⟨q,ver,anc,rfl,h1,h2⟩
 ·exact .inl h
 ·have hq:q∉A:=fun hm=>hA q hm rfl
  have hqb:q≠b:=hb
  exact .inr ⟨q,ver,anc,rfl,h1,by rw[q0a.get_upd hg,if_neg hqb,k0n hq];exact h2⟩
theorem TS.store {B t b k f:Nat} {O:List (List Int)} {H:q0a} {vr:Value} {N:List Nd} {x:Nd} {z:Int} (h:TS B H t b vr N O) (hx:N[k]?=some x) (hf:f<4) :
  ∃H',k4k (.pointer (some ⟨b,k*4+f,none⟩)) (.int .i64 z) 1 H=some (.tuple ⟨[]⟩,H')∧TS B H' t b vr (N.set k (k1d x f z)) O∧H'.n=H.n∧(∀j,j<B→H'.get j=H.get j)∧KI H H':=by
 obtain ⟨ver,ht⟩:=h.ht
 obtain ⟨ver2,A,hn,hA⟩:=h.hn
 obtain ⟨cs,hv,ho⟩:=h.hv
 have hk:=(List.getElem?_eq_some_iff.1 hx).1
 have hlen:=k5I N
 have hi:k*4+f<(N.flatMap nd).length:=by omega
 have hbA:b∉A:=fun hm=>by have:=(hA b hm).2.2.1;omega
 have htA:t∉A:=fun hm=>(hA t hm).2.1 rfl
 have hgb:(killAll H A).get b=some ⟨N.flatMap nd,174,.tip,ver2,A⟩:=by rw[k0n hbA];exact hn
 have hcells:(N.flatMap nd).take (k*4+f)++(Value.int .i64 z).cells.toList++(N.flatMap nd).drop (k*4+f+1)=(N.set k (k1d x f z)).flatMap nd:=by
  rw[z4c hf hx]
  exact z4d hi
 have hki:KI H ((killAll H A).upd b ⟨(N.set k (k1d x f z)).flatMap nd,174,.tip,ver2+1,[]⟩):=KI.of fun j blk h1 h2=>by
  have hjb:j≠b:=fun e=>by
   subst e
   rw[hn] at h1
   injection h1 with h1
   subst h1
   exact absurd (show (174:TypeId)=3 from h2) (by decide)
  have hjA:j∉A:=fun hm=>by
   obtain ⟨_,_,_,_,b2,a5,a6⟩:=hA j hm
   rw[a5] at h1
   injection h1 with h1
   subst h1
   rw[a6] at h2
   exact absurd (show (174:TypeId)=3 from h2) (by decide)
  rw[q0a.get_upd hgb,if_neg hjb,k0n hjA]
 refine ⟨(killAll H A).upd b ⟨(N.set k (k1d x f z)).flatMap nd,174,.tip,ver2+1,[]⟩,?_,?_,by simp[q1v],?_,hki⟩
 ·have g:=q0x (el:=174) (ver:=ver2) (anc:=A) (i:=b) (o:=k*4+f) (n:=1) (v:=.int .i64 z) (H:=H) (cells:=N.flatMap nd) rfl rfl (by omega)
  rw[hcells] at g
  rw[q7n,hn]
  exact g
 ·refine ⟨h.tB,h.bB,h.ne,by simpa using h.few,by simpa using h.pos,⟨ver,?_⟩,⟨ver2+1,[],?_,fun a ha=>by cases ha⟩,⟨cs,z1U hv (fun a ha=>(hA a ha).2.2.2.1) h.vn hgb _,ho.ki hki⟩,h.vB,h.vt,h.vn⟩
  ·rw[q0a.get_upd hgb,if_neg h.ne,k0n htA,List.length_set]
   exact ht
  ·rw[q0a.get_upd hgb,if_pos rfl]
 ·intro j hj
  rw[q0a.get_upd hgb,if_neg (by have:=h.bB;omega),k0n (fun hm=>by have:=(hA j hm).1;omega)]
theorem TS.grow {B t b:Nat} {O:List (List Int)} {H:q0a} {vr:Value} {N:List Nd} {y:Nd} (h:TS B H t b vr N O) (hB:B≤H.n) (hfew:N.length+1<1000000) :
  ∃v' H2,q0m (H.push ⟨nd y,174,.tip,0,[]⟩) (.slice (some ⟨b,0,none⟩) N.length (N.length+1)) (.slice (some ⟨H.n,0,none⟩) 1 2) 174 4 32=some (v',H2)∧H2.get t=H.get t∧(∀blk:ABlk,H.get b=some blk→H2.get b=some ⟨blk.cells,blk.elem,.ret,blk.ver,blk.anc⟩) ∧
   ∃H3 b',k4k (.pointer (some ⟨t,0,none⟩)) v' 1 H2=some (.tuple ⟨[]⟩,H3)∧TS B H3 t b' vr (N++[y]) O∧H.n≤H3.n∧(∀j,j<B→H3.get j=H.get j)∧KI H H3:=by
 obtain ⟨ver,ht⟩:=h.ht
 obtain ⟨ver2,A,hn,hA⟩:=h.hn
 obtain ⟨cs,hv,ho⟩:=h.hv
 have hx1:=Ext.push H ⟨nd y,174,.tip,0,[]⟩
 have htl:=q0a.lt_of_get ht
 have hbl:=q0a.lt_of_get hn
 have hc1:cellsOf (H.push ⟨nd y,174,.tip,0,[]⟩) 4 (.slice (some ⟨b,0,none⟩) N.length (N.length+1))=some (N.flatMap nd):=(Sl.new (hx1.get hn) q0n (k5I N)).2
 have hc2:cellsOf (H.push ⟨nd y,174,.tip,0,[]⟩) 4 (.slice (some ⟨H.n,0,none⟩) 1 2)=some (nd y):=(Sl.new (n:=1) (c:=2) (q0b (H:=H) (b:=⟨nd y,174,.tip,0,[]⟩)) q0n rfl).2
 have hone:(nd y).all one=true:=rfl
 have hpos:=h.pos
 have hg1:=hx1.get hn
 refine ⟨.slice (some ⟨H.n+1,0,none⟩) (N.length+1) (N.length+1+1),((H.push ⟨nd y,174,.tip,0,[]⟩).upd b ⟨N.flatMap nd,174,.ret,ver2,A⟩).push ⟨N.flatMap nd++nd y,174,.tip,0,b::A⟩,?_,?_,?_,?_⟩
 ·unfold q0m
  simp only[hc1,hc2]
  rw[if_neg (by omega),if_pos ⟨by omega,hone⟩,if_neg (by omega),hg1]
  simp only
  rw[if_pos ⟨trivial,trivial⟩,if_pos ⟨hpos,by rw[k5I];omega⟩]
  simp
 ·rw[q0s (by simp;omega),q0a.get_upd hg1,if_neg h.ne,q0s htl]
 ·intro blk hblk
  rw[hn] at hblk
  injection hblk with hblk
  subst hblk
  rw[q0s (by simp;omega),q0a.get_upd hg1,if_pos rfl]
 ·have hg2:(((H.push ⟨nd y,174,.tip,0,[]⟩).upd b ⟨N.flatMap nd,174,.ret,ver2,A⟩).push ⟨N.flatMap nd++nd y,174,.tip,0,b::A⟩).get t=some ⟨[.slice (some ⟨b,0,none⟩) N.length (N.length+1),vr],177,.tip,ver,[]⟩:=by
   rw[q0s (by simp;omega),q0a.get_upd hg1,if_neg h.ne,q0s htl]
   exact ht
  have hnew:(((H.push ⟨nd y,174,.tip,0,[]⟩).upd b ⟨N.flatMap nd,174,.ret,ver2,A⟩).push ⟨N.flatMap nd++nd y,174,.tip,0,b::A⟩).get (H.n+1)=some ⟨N.flatMap nd++nd y,174,.tip,0,b::A⟩:=by
   have:=q0b (H:=(H.push ⟨nd y,174,.tip,0,[]⟩).upd b ⟨N.flatMap nd,174,.ret,ver2,A⟩) (b:=⟨N.flatMap nd++nd y,174,.tip,0,b::A⟩)
   simpa using this
  have hget:∀j,j<H.n→j≠t→j≠b→((((H.push ⟨nd y,174,.tip,0,[]⟩).upd b ⟨N.flatMap nd,174,.ret,ver2,A⟩).push ⟨N.flatMap nd++nd y,174,.tip,0,b::A⟩).upd t ⟨[.slice (some ⟨H.n+1,0,none⟩) (N.length+1) (N.length+1+1),vr],177,.tip,ver+1,[]⟩).get j=H.get j:=fun j h1 h2 h3=>by
   rw[q0a.get_upd hg2,if_neg h2,q0s (by simp;omega),q0a.get_upd hg1,if_neg h3,q0s h1]
  have hgb:((((H.push ⟨nd y,174,.tip,0,[]⟩).upd b ⟨N.flatMap nd,174,.ret,ver2,A⟩).push ⟨N.flatMap nd++nd y,174,.tip,0,b::A⟩).upd t ⟨[.slice (some ⟨H.n+1,0,none⟩) (N.length+1) (N.length+1+1),vr],177,.tip,ver+1,[]⟩).get b=some ⟨N.flatMap nd,174,.ret,ver2,A⟩:=by
   rw[q0a.get_upd hg2,if_neg (fun e=>h.ne e.symm),q0s (by simp;omega),q0a.get_upd hg1,if_pos rfl]
  have hki:KI H ((((H.push ⟨nd y,174,.tip,0,[]⟩).upd b ⟨N.flatMap nd,174,.ret,ver2,A⟩).push ⟨N.flatMap nd++nd y,174,.tip,0,b::A⟩).upd t ⟨[.slice (some ⟨H.n+1,0,none⟩) (N.length+1) (N.length+1+1),vr],177,.tip,ver+1,[]⟩):=KI.of fun j blk h1 h2=>by
   have hjb:j≠b:=fun e=>by
    subst e
    rw[hn] at h1
    injection h1 with h1
    subst h1
    exact absurd (show (174:TypeId)=3 from h2) (by decide)
   have hjt:j≠t:=fun e=>by
    subst e
    rw[ht] at h1
    injection h1 with h1
    subst h1
    exact absurd (show (177:TypeId)=3 from h2) (by decide)
   exact hget j (q0a.lt_of_get h1) hjt hjb
  refine ⟨(((H.push ⟨nd y,174,.tip,0,[]⟩).upd b ⟨N.flatMap nd,174,.ret,ver2,A⟩).push ⟨N.flatMap nd++nd y,174,.tip,0,b::A⟩).upd t ⟨[.slice (some ⟨H.n+1,0,none⟩) (N.length+1) (N.length+1+1),vr],177,.tip,ver+1,[]⟩,H.n+1,by rw[q7n,hg2];exact q0x (n:=1) rfl rfl (by simp),?_,by simp;omega,?_,hki⟩
  ·have hcat:N.flatMap nd++nd y=(N++[y]).flatMap nd:=by rw[List.flatMap_append];simp
   refine ⟨h.tB,by omega,by omega,by simpa using hfew,by simp,⟨ver+1,?_⟩,⟨0,b::A,?_,?_⟩,⟨cs,?_,ho.ki hki⟩,h.vB,h.vt,?_⟩
   ·rw[q0a.get_upd hg2,if_pos rfl]
    simp
   ·rw[q0a.get_upd hg2,if_neg (by omega),hnew,hcat]
   ·intro a ha
    rcases List.mem_cons.1 ha with rfl|ha
    ·exact ⟨h.bB,fun e=>h.ne e.symm,by omega,h.vn,_,hgb,rfl⟩
    ·obtain ⟨a1,a2,a3,a4,blk,a5,a6⟩:=hA a ha
     exact ⟨a1,a2,by omega,a4,blk,by rw[hget a (by omega) a2 (by omega)];exact a5,a6⟩
   ·obtain ⟨hl,ho⟩:=hv
    refine ⟨hl,?_⟩
    rcases ho with ho|⟨q,qv,qa,rfl,q1,q2⟩
    ·exact .inl ho
    ·have hql:=q0a.lt_of_get q2
     have hqt:q≠t:=h.vt
     have hqb:q≠b:=h.vn
     refine .inr ⟨q,qv,qa,rfl,q1,?_⟩
     rw[q0a.get_upd hg2,if_neg hqt,q0s (by simp;omega),q0a.get_upd hg1,if_neg hqb,q0s hql]
     exact q2
   ·obtain ⟨hl,ho⟩:=hv
    rcases ho with ⟨rfl,_⟩|⟨q,qv,qa,rfl,q1,q2⟩
    ·trivial
    ·have hql:=q0a.lt_of_get q2
     show q≠H.n+1
     omega
  ·intro j hj
   have:=h.tB
   have:=h.bB
   rw[q0a.get_upd hg2,if_neg (by omega),q0s (by simp;omega),q0a.get_upd hg1,if_neg (by omega),q0s (by omega)]
theorem TS.rule {B t b c qv q:Nat} {O:List (List Int)} {o:List Int} {qa:List Nat} {H:q0a} {vr:Value} {N:List Nd} (h:TS B H t b vr N O) (hB:B≤H.n) (hfew:O.length+1<1000000) (hq0:H.get q=some ⟨ints o,3,.tip,qv,qa⟩) (h0:tiny o) :
  ∃v' H2,q0m (H.push ⟨[.slice none 0 0,.slice (some ⟨q,0,none⟩) o.length c],127,.tip,0,[]⟩) vr (.slice (some ⟨H.n,0,none⟩) 1 2) 127 2 48=some (v',H2)∧H2.get t=H.get t∧(∀j,j<H.n→q0i vr j→H2.get j=H.get j) ∧
   ∃H3,(∀j,j≠t→H3.get j=H2.get j)∧k4k (.pointer (some ⟨t,1,none⟩)) v' 1 H2=some (.tuple ⟨[]⟩,H3)∧TS B H3 t b v' N (O++[o])∧H.n≤H3.n∧(∀j,j<B→H3.get j=H.get j)∧KI H H3:=by
 obtain ⟨ver,ht⟩:=h.ht
 obtain ⟨ver2,A,hn,hA⟩:=h.hn
 obtain ⟨cs,hv,hout⟩:=h.hv
 have hx1:=Ext.push H ⟨[.slice none 0 0,.slice (some ⟨q,0,none⟩) o.length c],127,.tip,0,[]⟩
 have htl:=q0a.lt_of_get ht
 have hbl:=q0a.lt_of_get hn
 obtain ⟨v',H2,m1,m2,m3,m4,m5,m6⟩:=Own.append2 (bytes:=48) (m:=1) (hv.ext hx1) (Sl.new (n:=1) (c:=2) (q0b (H:=H) (b:=⟨[.slice none 0 0,.slice (some ⟨q,0,none⟩) o.length c],127,.tip,0,[]⟩)) q0n rfl) (by omega) rfl (by omega)
 have n1:(H.push ⟨[.slice none 0 0,.slice (some ⟨q,0,none⟩) o.length c],127,.tip,0,[]⟩).n=H.n+1:=by simp
 rw[n1] at m3 m5 m6
 have hg2:H2.get t=some ⟨[.slice (some ⟨b,0,none⟩) N.length (N.length+1),vr],177,.tip,ver,[]⟩:=by
  rw[m6 t (by omega) h.vt,q0s htl];exact ht
 have hb2:H2.get b=some ⟨N.flatMap nd,174,.tip,ver2,A⟩:=by
  rw[m6 b (by omega) h.vn,q0s hbl];exact hn
 obtain ⟨⟨a',c',hsl⟩,_⟩:=m2.sl
 have hki:∀H3:q0a,(∀j,j≠t→H3.get j=H2.get j)→KI H H3:=fun H3 h3=>KI.of fun j blk h1 h2=>by
  have hjl:=q0a.lt_of_get h1
  have hjt:j≠t:=fun e=>by
   subst e
   rw[ht] at h1
   injection h1 with h1
   subst h1
   exact absurd (show (177:TypeId)=3 from h2) (by decide)
  have hjv:q0i vr j:=by
   obtain ⟨_,ho⟩:=hv
   rcases ho with ⟨rfl,_⟩|⟨q',_,_,rfl,_,q2⟩
   ·trivial
   ·show q'≠j
    intro e
    subst e
    rw[q2] at h1
    injection h1 with h1
    subst h1
    exact absurd (show (127:TypeId)=3 from h2) (by decide)
  rw[h3 j hjt,m6 j (by omega) hjv,q0s hjl]
 have hone:(v':Value).cells.toList.all one=true:=by rw[hsl];rfl
 have hlen:(v':Value).cells.toList.length=1:=by rw[hsl];rfl
 have hcl:(v':Value).cells.toList=[v']:=by rw[hsl];rfl
 refine ⟨v',H2,m1,by rw[hg2,ht],fun j hj hn=>by rw[m6 j (by omega) hn,q0s hj],H2.upd t ⟨[.slice (some ⟨b,0,none⟩) N.length (N.length+1),v'],177,.tip,ver+1,[]⟩,fun j hj=>by rw[q0a.get_upd hg2,if_neg hj],?_,?_,by simp;omega,?_,hki _ fun j hj=>by rw[q0a.get_upd hg2,if_neg hj]⟩
 ·rw[q7n,hg2,q0x hlen hone (by simp),hcl]
  rfl
 ·refine ⟨h.tB,h.bB,h.ne,h.few,h.pos,⟨ver+1,by rw[q0a.get_upd hg2,if_pos rfl]⟩,⟨ver2,A,by rw[q0a.get_upd hg2,if_neg (fun e=>h.ne e.symm)];exact hb2,fun a ha=>?_⟩,⟨cs++[.slice none 0 0,.slice (some ⟨q,0,none⟩) o.length c],?_,(hout.ki (hki _ fun j hj=>by rw[q0a.get_upd hg2,if_neg hj])).snoc hv.1 h0 (hki _ (fun j hj=>by rw[q0a.get_upd hg2,if_neg hj]) _ _ hq0 rfl)⟩,m3.mono (by omega),q0i.of_from m3 (by omega),q0i.of_from m3 (by omega)⟩
  ·obtain ⟨a1,a2,a3,a4,blk,a5,a6⟩:=hA a ha
   exact ⟨a1,a2,a3,q0i.of_from m3 (by omega),blk,by rw[q0a.get_upd hg2,if_neg a2,m6 a (by omega) a4,q0s (by omega)];exact a5,a6⟩
  ·obtain ⟨hl,ho⟩:=m2
   rw[List.length_append]
   refine ⟨hl,?_⟩
   rcases ho with ho|⟨q',qv',qa',rfl,q1,q2⟩
   ·exact .inl ho
   ·have hq:H.n+1≤q':=m3
    exact .inr ⟨q',qv',qa',rfl,q1,by rw[q0a.get_upd hg2,if_neg (by omega)];exact q2⟩
 ·intro j hj
  have:=h.tB
  rw[q0a.get_upd hg2,if_neg (by omega),m6 j (by omega) (q0i.of_from h.vB hj),q0s (by omega)]
def q7w:List (List Int)→List Int→List Int→List (List Int)
 | P,_,[]=>P
 | P,p,u::us=>q7w (if p++[u]∈P then P else P++[p++[u]]) (p++[u]) us
def RF (ρ:List Int→Int) (P:List (List Int)) (N:List Nd):Prop:=∀(j:Nat) (x:Nd) (p:List Int),N[j]?=some x→P[j]?=some p→x.rule=ρ p
theorem RF.snoc {ρ:List Int→Int} {P:List (List Int)} {N:List Nd} {k:Nat} {x:Nd} {q:List Int} {u c z:Int} (h:RF ρ P N) (hl:N.length=P.length) (hx:N[k]?=some x) (hq:ρ q=-1):RF ρ (P++[q]) ((N++[Nd.mk u 0 c (-1)]).set k ⟨x.unit,z,x.brother,x.rule⟩):=by
 have hk:=(List.getElem?_eq_some_iff.1 hx).1
 intro j y p hj hp
 rw[List.getElem?_set] at hj
 split at hj
 ·rename_i e
  subst e
  split at hj
  ·injection hj with hj
   subst hj
   rw[List.getElem?_append_left (by omega)] at hp
   exact h k x p hx hp
  ·cases hj
 ·rcases Nat.lt_or_ge j N.length with hlt|hge
  ·rw[List.getElem?_append_left hlt] at hj
   rw[List.getElem?_append_left (by omega)] at hp
   exact h j y p hj hp
  ·have hjn:j=N.length:=by
    have:=(List.getElem?_eq_some_iff.1 hj).1
    simp at this
    omega
   subst hjn
   rw[List.getElem?_append_right (Nat.le_refl _),Nat.sub_self] at hj
   rw[List.getElem?_append_right (by omega),hl,Nat.sub_self] at hp
   simp at hj hp
   subst hj hp
   exact hq.symm
theorem j1J {H:q0a} {u c:Int}:q2l [.int .i64 0,.int .i64 0,.int .i64 0,.int .i64 0] [(0,1,.int .i64 u),(2,1,.int .i64 c),(3,1,.int .i64 (-1))] H=some (.agg ⟨nd ⟨u,0,c,-1⟩⟩,H):=rfl
theorem z9z {H:q0a} {el:TypeId} {x:Nd}:q0D el 1 4 [.int .i64 0,.int .i64 0,.int .i64 0,.int .i64 0] [(0,4,.agg ⟨nd x⟩)] H=some (.slice (some ⟨H.n,0,none⟩) 1 2,H.push ⟨nd x,el,.tip,0,[]⟩):=rfl
theorem l_In {H0:q0a} {vi a:Value} {In:List Int} {t:Nat} {O:List (List Int)} {vr:Value} {ρ:List Int→Int} {c1 c2 c3:Int} (hI:Ints H0 vi In) (hs:In.length≤8):∀(k j:Nat) (H:q0a) (b:Nat) (N:List Nd) (P:List (List Int)) (m:Nat),j+k=In.length→Ext H0 H→TS H0.n H t b vr N O→Fits P N→P[m]?=some (In.take j)→RF ρ P N→(∀q,q∉P→ρ q=-1)→N.length+k<1000000 →
  Out (run Tryz.prog (tabF tab) om1 (.loop [6,7,9,26,27,28,47,48,49] q7a) [(6,.pointer (some ⟨t,0,none⟩)),(7,.int .i64 c1),(9,.int .i64 m),(26,a),(27,.int .i64 c2),(28,.int .i64 c3),(47,vi),(48,.int .i64 In.length),(49,.int .i64 j)] H) fun y e' H'=>y=.exit 2∧eget e' 6=.pointer (some ⟨t,0,none⟩)∧eget e' 7=.int .i64 c1∧eget e' 26=a∧eget e' 27=.int .i64 c2∧eget e' 28=.int .i64 c3∧Ext H0 H' ∧
   ∃(b' m':Nat) (N':List Nd),eget e' 9=.int .i64 m'∧TS H0.n H' t b' vr N' O∧KI H H'∧Fits (q7w P (In.take j) (In.drop j)) N'∧(q7w P (In.take j) (In.drop j))[m']?=some In∧RF ρ (q7w P (In.take j) (In.drop j)) N'∧(∀q,q∉q7w P (In.take j) (In.drop j)→ρ q=-1)∧N'.length≤N.length+k:=by
 intro k
 induction k with
 | zero=>
  intro j H b N P m hj hx hT hF hP hR hρ hN
  obtain rfl:j=In.length:=by omega
  have hlt:¬((In.length:Int)<In.length):=by omega
  rw[q0d q7a.eq_1]
  rw[List.take_length] at hP
  simp only[WA,Nat.reduceEqDiff,hlt]
  rw[List.drop_of_length_le (Nat.le_refl _),List.take_length]
  exact ⟨hx,b,m,N,rfl,hT,Ext.ki (Ext.refl _),hF,hP,hR,hρ,by omega⟩
 | succ k ih=>
  intro j H b N P m hj hx hT hF hP hR hρ hN
  have hlt:(j:Int)<In.length:=by omega
  obtain ⟨u,hu,hdu⟩:=q0z (L:=In) (i:=j) (by omega)
  have htk:In.take (j+1)=In.take j++[u]:=by rw[List.take_add_one,hu];rfl
  obtain ⟨i1,o1,h1,h2⟩:=(hI.ext hx).at hu
  have hw2:IntKind.i64.wrap ((j:Int)+1)=((j+1:Nat):Int):=by rw[q0k (by omega) (by omega)];omega
  have hml:m<N.length:=by rw[hF.len];exact (List.getElem?_eq_some_iff.1 hP).1
  obtain ⟨x,hxm⟩:∃x,N[m]?=some x:=⟨N[m],List.getElem?_eq_getElem hml⟩
  have cS:=z8h (u:=u) hT.at hxm (hF.chain hxm hP)
  rw[q0d q7a.eq_1,hdu]
  unfold q7w
  by_cases hin:In.take j++[u]∈P
  ·rw[if_pos hin,←htk]
   cases hpk:q8I N u (q3f P (In.take j)) with
   | none=>exact absurd hin ((k2W hF).1 hpk)
   | some m2=>
    have hP2:=(k0m hF).1 hpk
    rw[←htk] at hP2
    rw[hpk] at cS
    simp only at cS
    obtain ⟨y,e',H',r1,r2,r3,r4,r5,r6,r7,r8,b',m',N',q1,q2,qk,q3,q4,q5,q6,q7⟩:=ih (j+1) H b N P m2 (by omega) hx hT hF hP2 hR hρ (by omega)
    simp only[WA,Nat.reduceEqDiff,hlt,h1,h2,cS,hw2]
    rw[q0e]
    simp only[WA,Nat.reduceEqDiff,r1]
    exact ⟨r2,r3,r4,r5,r6,r7,r8,b',m',N',q1,q2,qk,q3,q4,q5,q6,by omega⟩
  ·rw[if_neg hin,←htk]
   have hpk:=(k2W hF (p:=In.take j) (u:=u)).2 hin
   rw[hpk] at cS
   simp only at cS
   obtain ⟨ver,ht⟩:=hT.ht
   obtain ⟨ver2,A,hn,hA⟩:=hT.hn
   have hkid:(N.flatMap nd)[m*4+1]?=some (.int .i64 x.kid):=z4a hxm (by omega)
   have h0m:(0:Int)≤m:=by omega
   have hml':(m:Int)<(N.length:Int):=by omega
   obtain ⟨v',H2,g1,g2,g3,H3,b',g4,g5,g6,g7,gk⟩:=hT.grow (y:=⟨u,0,x.kid,-1⟩) hx.1 (by omega)
   have g2t:=g2.trans ht
   have g2b:=g3 _ hn
   rw[q7n,g2t] at g4
   obtain ⟨ver3,ht3⟩:=g5.ht
   obtain ⟨ver4,A4,hn4,_⟩:=g5.hn
   have hxm3:(N++[Nd.mk u 0 x.kid (-1)])[m]?=some x:=by rw[List.getElem?_append_left hml];exact hxm
   obtain ⟨H4,s1,s2,s3,s4,sk⟩:=g5.store (z:=(N.length:Int)) hxm3 (show 1<4 by omega)
   rw[q7n,hn4] at s1
   have hl3:(m:Int)<(((N++[Nd.mk u 0 x.kid (-1)]).length:Nat):Int):=by simp;omega
   have hF4:=hF.snoc hxm hP hin
   have hR4:=hR.snoc (u:=u) (c:=x.kid) (z:=(N.length:Int)) hF.len hxm (hρ _ hin)
   have hx4:Ext H0 H4:=⟨by have:=hx.1;omega,fun q hq=>by rw[s4 q hq,g7 q hq,hx.2 q hq]⟩
   have hP4:(P++[In.take j++[u]])[N.length]?=some (In.take (j+1)):=by rw[htk,hF.len,List.getElem?_append_right (Nat.le_refl _),Nat.sub_self];rfl
   rw[←htk] at hF4 hR4 hP4
   obtain ⟨y,e',H',r1,r2,r3,r4,r5,r6,r7,r8,b'',m',N',q1,q2,qk,q3,q4,q5,q6,q7⟩:=ih (j+1) H4 b' _ _ N.length (by omega) hx4 s2 hF4 hP4 hR4 (fun q hq=>hρ q fun hm=>hq (List.mem_append_left _ hm)) (by simp;omega)
   have hl0:∀H:q0a,vLen false (.slice (some ⟨b,0,none⟩) N.length (N.length+1)) H=some (.int .i64 N.length,H):=fun _=>rfl
   simp only[WA,q0M,q1b,isK,q1w,q1y,Nat.reduceEqDiff,hlt,h1,h2,cS,ht,hl0,hn,h0m,hml',hkid,j1J,z9z,g1,g2t,g2b,g4,ht3,hn4,hl3,s1,hw2]
   rw[q0e]
   simp only[WA,Nat.reduceEqDiff,r1]
   exact ⟨r2,r3,r4,r5,r6,r7,r8,b'',m',N',q1,q2,(gk.trans sk).trans qk,q3,q4,q5,q6,by simp at q7;omega⟩
theorem z4e {H:q0a} {x:Value} {l:List Int} {el:TypeId} (hx:Ints H x l) (hb:l.length*8≤140737488355328) (h0:0<l.length) :
  ∃c,q0m H (.slice none 0 0) x el 1 8=some (.slice (some ⟨H.n,0,none⟩) l.length c,H.push ⟨ints l,el,.tip,0,[]⟩):=by
 obtain ⟨⟨a,c,rfl⟩,hc⟩:=hx
 have h1:cellsOf H 1 (.slice none 0 0)=some []:=rfl
 refine ⟨l.length+1,?_⟩
 unfold q0m
 simp only[h1,hc]
 rw[if_neg (by omega),if_pos ⟨by omega,q8c l⟩]
 simp
def q1z (L:List Rl):List (List Int):=L.foldl (fun P r=>q7w P [] r.1) [[]]
theorem v_out {H:q0a} {p:Option Addr} {m c:Nat}:q2l [.slice none 0 0,.slice none 0 0] [(1,1,.slice p m c)] H=some (.agg ⟨[.slice none 0 0,.slice p m c]⟩,H):=rfl
theorem z6a {H:q0a} {el:TypeId} {x y:Value}:q0D el 1 2 [.slice none 0 0,.slice none 0 0] [(0,2,.agg ⟨[x,y]⟩)] H=some (.slice (some ⟨H.n,0,none⟩) 1 2,H.push ⟨[x,y],el,.tip,0,[]⟩):=rfl
def q1a (T:List Rl):Prop:=(∀r∈T,q6J r.1=true∧q6J r.2=true)∧∀k r,T[k]?=some r→fnd (T.take k) r.1<0
theorem q4Q {l:List Int} (h:q6J l=true):0<l.length∧l.length≤8:=by
 unfold q6J at h
 simp only[Bool.and_eq_true,decide_eq_true_eq] at h
 exact h.1
theorem z0Z {q:List Int} {r:Rl}:∀{T:List Rl} {i:Nat},fdx q (T++[r]) i=match fdx q T i with|some k=>some k|none=>if r.1=q then some (i+T.length) else none
 | [],i=>by simp[fdx]
 | a::T,i=>by
  rw[List.cons_append]
  unfold fdx
  split
  ·rfl
  ·rw[z0Z]
   cases fdx q T (i+1) with
   | some k=>rfl
   | none=>simp only[List.length_cons];split<;>simp;omega
theorem q8s {q:List Int} {r:Rl} {T:List Rl} (h:fnd T r.1<0):fnd (T++[r]) q=if q=r.1 then (T.length:Int) else fnd T q:=by
 have e:∀x,fnd T x=match fdx x T 0 with|some k=>(k:Int)|none=>-1:=fun _=>rfl
 unfold fnd
 rw[z0Z]
 by_cases hq:q=r.1
 ·subst hq
  rw[if_pos rfl]
  rw[e] at h
  cases hf:fdx r.1 T 0 with
  | some k=>rw[hf] at h;simp at h;omega
  | none=>simp
 ·rw[if_neg hq]
  cases hf:fdx q T 0 with
  | some k=>rfl
  | none=>
   have hne:¬r.1=q:=fun e=>hq e.symm
   simp only[if_neg hne]
theorem k8Z {H H':q0a} (hx:Ext H H') {i o:Nat} {k:Option Nat} {v:Value} (h:q0l (H.get i) o k H=some (v,H)):q0l (H'.get i) o k H'=some (v,H'):=by
 cases hg:H.get i with
 | none=>rw[hg] at h;cases h
 | some b=>
  rw[hx.get hg]
  rw[hg] at h
  unfold q0l at h ⊢
  rw[Option.map_eq_some_iff] at h
  obtain ⟨u,h3,h4⟩:=h
  injection h4 with h4 _
  rw[h3,h4]
  rfl
theorem RF.set {T:List Rl} {r:Rl} {P:List (List Int)} {N:List Nd} {m:Nat} {x:Nd} (h:RF (fnd T) P N) (hF:Fits P N) (hn:fnd T r.1<0) (hm:P[m]?=some r.1) (hx:N[m]?=some x):RF (fnd (T++[r])) P (N.set m (k1d x 3 (T.length:Int))):=by
 have hl:=(List.getElem?_eq_some_iff.1 hx).1
 intro j y p hj hp
 rw[q8s hn]
 rw[List.getElem?_set] at hj
 split at hj
 ·rename_i e
  subst e
  injection hj with hj
  subst hj
  rw[hp] at hm
  injection hm with hm
  rw[if_pos hm]
  rfl
 ·rename_i hne
  have hpr:p≠r.1:=fun e=>hne (z4b hF.nodup hm (by rw[hp,e]))
  rw[if_neg hpr]
  exact h j y p hj hp
theorem l_Of {H0:q0a} {a:Value} {L:List Rl} {t:Nat} (ha:q2g H0 a L) (hR:q1a L) (hL:L.length≤512):∀(k i:Nat) (H:q0a) (b:Nat) (vr:Value) (N:List Nd),i+k=L.length→Ext H0 H→TS H0.n H t b vr N ((L.take i).map (·.2))→Fits (q1z (L.take i)) N→RF (fnd (L.take i)) (q1z (L.take i)) N→(∀q,q∉q1z (L.take i)→fnd (L.take i) q=-1)→N.length≤1+8*i →
  Out (run Tryz.prog (tabF tab) om1 (.loop [6,26,27,28] q7b) [(6,.pointer (some ⟨t,0,none⟩)),(26,a),(27,.int .i64 L.length),(28,.int .i64 i)] H) fun y e' H'=>y=.exit 0∧eget e' 6=.pointer (some ⟨t,0,none⟩)∧Ext H0 H' ∧
   ∃(b':Nat) (vr':Value) (N':List Nd),TS H0.n H' t b' vr' N' (L.map (·.2))∧Fits (q1z L) N'∧RF (fnd L) (q1z L) N'∧(∀q,q∉q1z L→fnd L q=-1)∧N'.length≤1+8*L.length:=by
 intro k
 induction k with
 | zero=>
  intro i H b vr N hi hx hT hF hRF hρ hN
  obtain rfl:i=L.length:=by omega
  have hlt:¬((L.length:Int)<L.length):=by omega
  rw[q0d q7b.eq_1]
  rw[List.take_length] at hRF hρ hF hT
  simp only[WA,Nat.reduceEqDiff,hlt]
  exact ⟨hx,b,vr,N,hT,hF,hRF,hρ,hN⟩
 | succ k ih=>
  intro i H b vr N hi hx hT hF hRF hρ hN
  have hlt:(i:Int)<L.length:=by omega
  obtain ⟨r,hr,hdr⟩:=q0z (L:=L) (i:=i) (by omega)
  have htk:L.take (i+1)=L.take i++[r]:=by rw[List.take_add_one,hr];rfl
  obtain ⟨sd1,sd2⟩:=hR.1 r (List.mem_of_getElem? hr)
  have hfn:=hR.2 i r hr
  have l1:=q4Q sd1
  have l2:=q4Q sd2
  obtain ⟨i1,o1,vi,vo,h1,_,_,h4,h5,h6,h7,h8⟩:=ha.at hr
  have h5':=h5
  have h6':=h6
  obtain ⟨⟨ai,ci,rfl⟩,_⟩:=h5'
  obtain ⟨⟨ao,co,rfl⟩,_⟩:=h6'
  have h4':=k8Z hx h4
  have hw2:IntKind.i64.wrap ((i:Int)+1)=((i+1:Nat):Int):=by rw[q0k (by omega) (by omega)];omega
  have hx1:=Ext.push H ⟨[.slice ai r.1.length ci,.slice ao r.2.length co],127,.tip,1,[]⟩
  obtain ⟨c,g0⟩:=z4e (el:=3) ((h6.ext hx).ext hx1) (by omega) l2.1
  have x2:=Ext.push (H.push ⟨[.slice ai r.1.length ci,.slice ao r.2.length co],127,.tip,1,[]⟩) ⟨ints r.2,3,.tip,0,[]⟩
  have hq0:=q0b (H:=H.push ⟨[.slice ai r.1.length ci,.slice ao r.2.length co],127,.tip,1,[]⟩) (b:=⟨ints r.2,3,.tip,0,[]⟩)
  obtain ⟨H2,hH2⟩:∃H2,H2=(H.push ⟨[.slice ai r.1.length ci,.slice ao r.2.length co],127,.tip,1,[]⟩).push ⟨ints r.2,3,.tip,0,[]⟩:=⟨_,rfl⟩
  obtain ⟨q,hqe⟩:∃q,q=(H.push ⟨[.slice ai r.1.length ci,.slice ao r.2.length co],127,.tip,1,[]⟩).n:=⟨_,rfl⟩
  rw[←hH2,←hqe] at g0 hq0
  rw[←hH2] at x2
  have hps:q7w (q1z (L.take i)) [] r.1=q1z (L.take (i+1)):=by unfold q1z;rw[htk,List.foldl_append];rfl
  have hos:(L.take i).map (·.2)++[r.2]=(L.take (i+1)).map (·.2):=by rw[htk,List.map_append];rfl
  have hT2:=hT.ext (hx1.trans x2)
  obtain ⟨ver,ht1⟩:=(hT.ext hx1).ht
  have ht2:=x2.get ht1
  have hn2:H0.n≤H2.n:=by have:=hx.1;have:=(hx1.trans x2).1;omega
  have hn12:H.n<H2.n:=by have:=x2.1;simp at this;omega
  obtain ⟨v',H3,g1,g2,g3,H4,g4,g5,g6,g7,g8,gk⟩:=hT2.rule (c:=c) hn2 (by rw[List.length_map,List.length_take];omega) hq0 (by unfold Lon.tiny;omega)
  have ht3:=g2.trans ht2
  have hqt:H.n≠t:=by
   obtain ⟨ver0,ht0⟩:=hT.ht
   have:=q0a.lt_of_get ht0
   omega
  have hvq:q0i vr H.n:=by
   obtain ⟨cs,⟨_,ho⟩,_⟩:=hT.hv
   rcases ho with ⟨rfl,_⟩|⟨q',_,_,rfl,_,hq⟩
   ·trivial
   ·have:=q0a.lt_of_get hq
    show q'≠H.n
    omega
  have hq2:H2.get H.n=some ⟨[.slice ai r.1.length ci,.slice ao r.2.length co],127,.tip,1,[]⟩:=x2.get q0b
  have hq3:=(g3 H.n hn12 hvq).trans hq2
  have hq4:=(g4 H.n hqt).trans hq3
  rw[q7n,ht3] at g5
  have hx4:Ext H0 H4:=⟨by omega,fun j hj=>by rw[g8 j hj,(hx.trans (hx1.trans x2)).2 j hj]⟩
  obtain ⟨y2,e2,H5,t1,rfl,t2,t3,t4,t5,t6,t7,b',m',N',q1,q2,qk,q3,q4,q5,q6,q7⟩:=l_In (a:=a) (ρ:=fnd (L.take i)) (c1:=(i:Int)) (c2:=(L.length:Int)) (c3:=(i:Int)) h5 l1.2 r.1.length 0 H4 b N _ 0 (by omega) hx4 g6 hF (by rw[List.take_zero];exact hF.root) hRF hρ (by omega)
  rw[List.take_zero,List.drop_zero,hps] at q3 q4 q5 q6
  rw[hos] at q2
  obtain ⟨ver5,ht5⟩:=q2.ht
  obtain ⟨ver6,A6,hn5,_⟩:=q2.hn
  have hm5:m'<N'.length:=by rw[q3.len];exact (List.getElem?_eq_some_iff.1 q4).1
  obtain ⟨x5,hx5⟩:∃x,N'[m']?=some x:=⟨N'[m'],List.getElem?_eq_getElem hm5⟩
  obtain ⟨H6,s1,s2,s3,s4,sk⟩:=q2.store (z:=(i:Int)) hx5 (show 3<4 by omega)
  rw[q7n,hn5] at s1
  have h05:(0:Int)≤m':=by omega
  have hm5':(m':Int)<(N'.length:Int):=by omega
  have hx6:Ext H0 H6:=⟨by have:=t7.1;omega,fun j hj=>by rw[s4 j hj,t7.2 j hj]⟩
  have hti:(L.take i).length=i:=by rw[List.length_take];omega
  have hRF6:=q5.set q3 hfn q4 hx5
  rw[hti,←htk] at hRF6
  have hF6:Fits (q1z (L.take (i+1))) (N'.set m' (k1d x5 3 (i:Int))):=q3.setRule hx5 (i:Int)
  have hρ6:∀q,q∉q1z (L.take (i+1))→fnd (L.take (i+1)) q=-1:=fun q hq=>by
   rw[htk,q8s hfn,if_neg (fun e=>hq (by rw[e];exact List.mem_of_getElem? q4))]
   exact q6 q hq
  obtain ⟨y,e',H',r1,r2,r3,r4,r5⟩:=ih (i+1) H6 b' v' _ (by omega) hx6 s2 hF6 hRF6 hρ6 (by simp;omega)
  simp only[Int.cast_ofNat_Int] at t1
  rw[q0d q7b.eq_1]
  simp only[WA,q0M,q1b,isK,q1w,q1y,Nat.reduceEqDiff,Nat.reduceAdd,hlt,h1,h4',ht1,g0,v_out,z6a,g1,ht3,hq3,g5,hq4,h5.len]
  rw[q0e]
  simp only[WA,Nat.reduceEqDiff,t1,t2,t3,t6,q1,ht5,hn5,h05,hm5',s1,hw2]
  rw[q0e]
  simp only[WA,Nat.reduceEqDiff,t2,t4,t5,r1]
  exact ⟨r2,r3,r4,r5⟩
theorem fits0:Fits [[]] [⟨0,0,0,-1⟩]:=by
 refine ⟨rfl,rfl,by simp,fun {j x p} hj hp=>?_,fun {j x p u} hj hp=>?_,fun {p u} h=>by simp at h,fun {j x} hj=>?_⟩
 ·have hj0:j=0:=by have:=(List.getElem?_eq_some_iff.1 hj).1;simp at this;exact this
  subst hj0
  simp at hj hp
  subst hj hp
  exact Int.le_refl 0
 ·have hj0:j=0:=by have:=(List.getElem?_eq_some_iff.1 hj).1;simp at this;exact this
  subst hj0
  simp at hp
 ·have hj0:j=0:=by have:=(List.getElem?_eq_some_iff.1 hj).1;simp at this;exact this
  subst hj0
  simp at hj
  subst hj
  exact Int.le_refl 0
theorem j1K {H:q0a}:q2l [.int .i64 0,.int .i64 0,.int .i64 0,.int .i64 0] [(3,1,.int .i64 (-1))] H=some (.agg ⟨nd ⟨0,0,0,-1⟩⟩,H):=rfl
theorem z9A {H:q0a} {el:TypeId} {x:Nd}:q0D el 1 4 [.int .i64 0,.int .i64 0,.int .i64 0,.int .i64 0] [(0,4,.agg ⟨nd x⟩)] H=some (.slice (some ⟨H.n,0,none⟩) 1 2,H.push ⟨nd x,el,.tip,0,[]⟩):=rfl
theorem j1L {H:q0a} {p:Option Addr} {m c:Nat}:q2l [.slice none 0 0,.slice none 0 0] [(0,1,.slice p m c)] H=some (.agg ⟨[.slice p m c,.slice none 0 0]⟩,H):=rfl
theorem z4f {T:List Rl} (h:q1a T) (hl:T.length≤512):∀(j i:Nat),i+j=T.length→chk T (T.drop i) i=(-1,0):=by
 intro j
 induction j with
 | zero=>intro i hi;rw[List.drop_of_length_le (by omega)];rfl
 | succ j ih=>
  intro i hi
  obtain ⟨r,hr,hdr⟩:=q0z (L:=T) (i:=i) (by omega)
  have hs:=h.1 r (List.mem_of_getElem? hr)
  have hf:=h.2 i r hr
  rw[hdr]
  unfold chk
  rw[if_neg (by omega),hs.1,hs.2]
  simp only[Bool.not_true,Bool.or_self,Bool.false_eq_true,if_false]
  rw[if_neg (by omega)]
  exact ih (i+1) (by omega)
theorem c_Of {a:Value} {L:List Rl} {H:q0a} (ha:q2g H a L) (hC:Cut Tryz.prog H a 2) (hR:q1a L) (hL:L.length≤512):q0p (cw Tryz.prog (tabF tab) om1 64 [a] H) fun v H'=>Ext H H'∧∃(t b:Nat) (vr:Value) (N:List Nd),v=.tuple ⟨[.pointer (some ⟨t,0,none⟩),.int .i64 0]⟩∧TS H.n H' t b vr N (L.map (·.2))∧Fits (q1z L) N∧RF (fnd L) (q1z L) N∧(∀q,q∉q1z L→fnd L q=-1):=by
 rw[q0g (F:=q9H) rfl rfl rfl]
 unfold q9H k6I
 obtain ⟨v,H1,c1,x1,rfl⟩:=z9y ha hC
 have hk:=z4f hR hL L.length 0 (by omega)
 rw[List.drop_zero] at hk
 rw[hk] at c1
 have hx2:=Ext.push H1 ⟨nd ⟨0,0,0,-1⟩,174,.tip,0,[]⟩
 have hx3:=Ext.push (H1.push ⟨nd ⟨0,0,0,-1⟩,174,.tip,0,[]⟩) ⟨[.slice (some ⟨H1.n,0,none⟩) 1 2,.slice none 0 0],177,.tip,0,[]⟩
 have hbx:vBox (.agg ⟨[.slice (some ⟨H1.n,0,none⟩) 1 2,.slice none 0 0]⟩) 177 (H1.push ⟨nd ⟨0,0,0,-1⟩,174,.tip,0,[]⟩)=some (.pointer (some ⟨H1.n+1,0,none⟩),(H1.push ⟨nd ⟨0,0,0,-1⟩,174,.tip,0,[]⟩).push ⟨[.slice (some ⟨H1.n,0,none⟩) 1 2,.slice none 0 0],177,.tip,0,[]⟩):=by
  have:=q8H (H:=H1.push ⟨nd ⟨0,0,0,-1⟩,174,.tip,0,[]⟩) (v:=.agg ⟨[.slice (some ⟨H1.n,0,none⟩) 1 2,.slice none 0 0]⟩) (el:=177) rfl
  rw[q0a.n_push] at this
  exact this
 have hnn:=x1.1
 have hT:TS H.n ((H1.push ⟨nd ⟨0,0,0,-1⟩,174,.tip,0,[]⟩).push ⟨[.slice (some ⟨H1.n,0,none⟩) 1 2,.slice none 0 0],177,.tip,0,[]⟩) (H1.n+1) H1.n (.slice none 0 0) [⟨0,0,0,-1⟩] []:=by
  refine ⟨by omega,by omega,by omega,by decide,by decide,⟨0,?_⟩,⟨0,[],?_,fun a ha=>by cases ha⟩,⟨[],⟨rfl,.inl ⟨rfl,rfl⟩⟩,fun k o ho=>by simp at ho⟩,trivial,trivial,trivial⟩
  ·have:=q0b (H:=H1.push ⟨nd ⟨0,0,0,-1⟩,174,.tip,0,[]⟩) (b:=⟨[.slice (some ⟨H1.n,0,none⟩) 1 2,.slice none 0 0],177,.tip,0,[]⟩)
   rw[q0a.n_push] at this
   exact this
  ·exact hx3.get q0b
 obtain ⟨y,e',H',r1,rfl,r3,r4,b',vr',N',q1,q2,q3,q4,q5⟩:=l_Of ha hR hL L.length 0 _ _ _ _ (by omega) ((x1.trans hx2).trans hx3) hT fits0 (fun j x p hj hp=>by
  have hj0:j=0:=by have:=(List.getElem?_eq_some_iff.1 hj).1;simp at this;exact this
  subst hj0
  simp[q1z] at hj hp
  subst hj hp
  rfl) (fun q _=>rfl) (by simp)
 have z:((0:Int)≠0)=False:=by simp
 simp only[Int.cast_ofNat_Int] at r1
 have hl:=ha.len (H2:=(H1.push ⟨nd ⟨0,0,0,-1⟩,174,.tip,0,[]⟩).push ⟨[.slice (some ⟨H1.n,0,none⟩) 1 2,.slice none 0 0],177,.tip,0,[]⟩)
 simp only[WA,Nat.reduceEqDiff,reduceCtorEq,c1,z,j1K,z9A,j1L,hbx,hl]
 rw[q0e]
 simp only[WA,Nat.reduceEqDiff,reduceCtorEq,r1,r3]
 exact ⟨r4,_,b',vr',N',rfl,q1,q2,q3,q4⟩
def z6b (N:List Nd) (m:Nat):Int:=match N[m]? with|some x=>x.kid|none=>0
def k4D (N:List Nd) (m:Nat):Int:=match N[m]? with|some x=>x.rule|none=>-1
def lonF (N:List Nd) (P:List (List Int)):List Int→Nat→Int→Nat→List Int→Nat→Int×Nat×Bool
  | [], _, k, n, _, m=>(k, n, !decide (z6b N m=0))
  | u::us, i, k, n, p, m=>match q8I N u (q3f P p) with
    | none=>(k, n, false)
    | some j=>if k4D N j≥0 then lonF N P us (i+1) (k4D N j) (i+1) (p++[u]) j else lonF N P us (i+1) k n (p++[u]) j
theorem j1M {t : Nat} {N : List Nd} {vr b : Value} {P : List (List Int)} {us : List Int} {H : q0a} (hT : q8f H t N vr) (hF : Fits P N) (hb : Ints H b us) (hs : tiny us) : ∀ (c i : Nat) (k : Int) (n : Nat) (p : List Int) (m : Nat), i + c = us.length → P[m]? = some p →
    Out (run Tryz.prog (tabF tab) om1 (.loop [0, 7, 8, 9, 15, 16, 17] q1O) [(0, .pointer (some ⟨t, 0, none⟩)), (7, .int .i64 k), (8, .int .i64 n), (9, .int .i64 m), (15, b), (16, .int .i64 us.length), (17, .int .i64 i)] H) fun y e' H'=>H'=H ∧
      ((y=.ret∧eget e' 4=.int .i64 (lonF N P (us.drop i) i k n p m).1∧eget e' 5=.int .i64 (lonF N P (us.drop i) i k n p m).2.1∧(lonF N P (us.drop i) i k n p m).2.2=false∧eget e' 6=.bool false) ∨
       (y=.exit 0∧∃(m':Nat) (x:Nd), N[m']?=some x∧eget e' 0=.pointer (some ⟨t, 0, none⟩)∧eget e' 7=.int .i64 (lonF N P (us.drop i) i k n p m).1∧eget e' 8=.int .i64 (lonF N P (us.drop i) i k n p m).2.1∧eget e' 9=.int .i64 m'∧(lonF N P (us.drop i) i k n p m).2.2=!decide (x.kid=0))):=by
  intro c
  unfold tiny at hs
  induction c with
  | zero=>
    intro i k n p m hi hp
    have hlt:¬((i:Int)<us.length):=by omega
    have hml:m<N.length:=by rw[hF.len];exact (List.getElem?_eq_some_iff.1 hp).1
    rw[q0d q1O.eq_1, List.drop_of_length_le (by omega)]
    simp only[WA, Nat.reduceEqDiff, reduceCtorEq, hlt, lonF]
    refine .inr ⟨m, N[m], List.getElem?_eq_getElem hml, rfl, ?_⟩
    simp[z6b, List.getElem?_eq_getElem hml]
  | succ c ih=>
    intro i k n p m hi hp
    have hlt:(i:Int)<us.length:=by omega
    obtain ⟨u, hu, hdu⟩:=q0z (L:=us) (i:=i) (by omega)
    obtain ⟨i1, o1, h1, h2⟩:=hb.at hu
    have hw2:IntKind.i64.wrap ((i:Int)+1)=((i+1:Nat):Int):=by rw[q0k (by omega) (by omega)];omega
    have hml:m<N.length:=by rw[hF.len];exact (List.getElem?_eq_some_iff.1 hp).1
    have hxm:=List.getElem?_eq_getElem hml
    have cS:=z8h (u:=u) hT hxm (hF.chain hxm hp)
    rw[q0d q1O.eq_1, hdu]
    unfold lonF
    cases hpk:q8I N u (q3f P p) with
    | none=>
      rw[hpk] at cS
      simp only at cS
      simp only[WA, Nat.reduceEqDiff, reduceCtorEq, hlt, h1, h2, cS]
      first|done|simp
    | some j=>
      rw[hpk] at cS
      simp only at cS
      have hpj:=(k0m hF).1 hpk
      have hjl:j<N.length:=by rw[hF.len];exact (List.getElem?_eq_some_iff.1 hpj).1
      have hxj:=List.getElem?_eq_getElem hjl
      have cR:=j1G hT hxj
      have hrj:k4D N j=N[j].rule:=by unfold k4D;rw[hxj]
      simp only[hrj]
      by_cases hr:N[j].rule≥0
      · rw[if_pos hr]
        obtain ⟨y, e', H', r1, r2, r3⟩:=ih (i+1) N[j].rule (i+1) (p++[u]) j (by omega) hpj
        simp only[WA, Nat.reduceEqDiff, reduceCtorEq, hlt, h1, h2, cS, cR, hr, hw2]
        rw[q0e]
        simp only[WA, Nat.reduceEqDiff, reduceCtorEq, r1]
        exact ⟨r2, r3⟩
      · rw[if_neg hr]
        obtain ⟨y, e', H', r1, r2, r3⟩:=ih (i+1) k n (p++[u]) j (by omega) hpj
        simp only[WA, Nat.reduceEqDiff, reduceCtorEq, hlt, h1, h2, cS, cR, hr, hw2]
        rw[q0e]
        simp only[WA, Nat.reduceEqDiff, reduceCtorEq, r1]
        exact ⟨r2, r3⟩
def lon (N:List Nd) (P:List (List Int)) (us:List Int):Int×Nat×Bool:=lonF N P us 0 (-1) 0 [] 0
theorem j1N {t : Nat} {N : List Nd} {vr b : Value} {P : List (List Int)} {us : List Int} {H : q0a} (hT : q8f H t N vr) (hF : Fits P N) (hb : Ints H b us) (hs : tiny us) :
    cw Tryz.prog (tabF tab) om1 73 [.pointer (some ⟨t, 0, none⟩), b] H=some (.tuple ⟨[.int .i64 (lon N P us).1, .int .i64 (lon N P us).2.1, .bool (lon N P us).2.2]⟩, H):=by
  rw[q0g (F:=q2m) rfl rfl rfl]
  unfold q2m q5d
  obtain ⟨y, e', H', r1, rfl, r3⟩:=j1M hT hF hb hs us.length 0 (-1) 0 [] 0 (by omega) hF.root
  have hl:=hb.len (H2:=H')
  simp only[Int.cast_ofNat_Int] at r1
  simp only[WA, Nat.reduceEqDiff, reduceCtorEq, hl]
  rw[q0e]
  simp only[WA, Nat.reduceEqDiff, reduceCtorEq, r1]
  rw[List.drop_zero] at r3
  unfold lon
  rcases r3 with ⟨rfl, r4, r5, r6, r7⟩|⟨rfl, m', x, hx, r0, r4, r5, r6, r7⟩
  · simp only[WA, r4, r5, r6, r7]
  · have cL:=j1H hT hx
    simp only[WA, Nat.reduceEqDiff, reduceCtorEq, r0, r4, r5, r6, cL, r7]
theorem k4E:∀{us p:List Int} {P:List (List Int)} {q:List Int},q∈q7w P p us↔q∈P∨∃a,a≠[]∧a <+: us∧q=p++a
 | [],p,P,q=>by
  unfold q7w
  constructor
  ·exact .inl
  ·rintro (h|⟨a,h1,h2,_⟩)
   ·exact h
   ·exact absurd (List.prefix_nil.1 h2) h1
 | u::us,p,P,q=>by
  unfold q7w
  rw[k4E]
  constructor
  ·rintro (h|⟨a,h1,h2,rfl⟩)
   ·split at h
    ·exact .inl h
    ·rcases List.mem_append.1 h with h|h
     ·exact .inl h
     ·exact .inr ⟨[u],by simp,⟨us,rfl⟩,by simpa using h⟩
   ·exact .inr ⟨u::a,by simp,List.cons_prefix_cons.2 ⟨rfl,h2⟩,by simp⟩
  ·rintro (h|⟨a,h1,h2,rfl⟩)
   ·left
    split
    ·exact h
    ·exact List.mem_append_left _ h
   ·cases a with
    | nil=>exact absurd rfl h1
    | cons v a=>
     obtain ⟨rfl,h3⟩:=List.cons_prefix_cons.1 h2
     cases a with
     | nil=>
      left
      split
      ·assumption
      ·simp
     | cons w a=>exact .inr ⟨w::a,by simp,h3,by simp⟩
theorem k4F:∀{L:List Rl} {P:List (List Int)} {q:List Int},q∈L.foldl (fun P r=>q7w P [] r.1) P↔q∈P∨∃r∈L,q≠[]∧q <+: r.1
 | [],P,q=>by simp
 | r::L,P,q=>by
  rw[List.foldl_cons,k4F,k4E]
  constructor
  ·rintro ((h|⟨a,h1,h2,rfl⟩)|⟨x,h1,h2⟩)
   ·exact .inl h
   ·exact .inr ⟨r,List.mem_cons_self ..,by simpa using h1,by simpa using h2⟩
   ·exact .inr ⟨x,List.mem_cons_of_mem _ h1,h2⟩
  ·rintro (h|⟨x,h1,h2,h3⟩)
   ·exact .inl (.inl h)
   ·rcases List.mem_cons.1 h1 with rfl|h1
    ·exact .inl (.inr ⟨q,h2,h3,rfl⟩)
    ·exact .inr ⟨x,h1,h2,h3⟩
theorem k2Y {L:List Rl} {q:List Int}:q∈q1z L↔q=[]∨∃r∈L,q≠[]∧q <+: r.1:=by
 unfold q1z
 rw[k4F,List.mem_singleton]
theorem k7L {L:List Rl} {p s:List Int} (h:p++s∈q1z L):p∈q1z L:=by
 rw[k2Y] at h ⊢
 by_cases hp:p=[]
 ·exact .inl hp
 ·rcases h with h|⟨r,h1,h2,h3⟩
  ·exact absurd (List.append_eq_nil_iff.1 h).1 hp
  ·exact .inr ⟨r,h1,hp,(List.prefix_append p s).trans h3⟩
theorem z1V {L:List Rl} {q:List Int}:(∃u,q++[u]∈q1z L)↔∃r∈L,q.length<r.1.length∧q <+: r.1:=by
 constructor
 ·rintro ⟨u,h⟩
  rcases k2Y.1 h with h|⟨r,h1,h2,h3⟩
  ·simp at h
  ·refine ⟨r,h1,?_,(List.prefix_append q [u]).trans h3⟩
   have:=h3.length_le
   simp at this
   omega
 ·rintro ⟨r,h1,h2,t,h3⟩
  cases t with
  | nil=>rw[←h3] at h2;simp at h2
  | cons u t=>exact ⟨u,k2Y.2 (.inr ⟨r,h1,by simp,t,by rw[←h3];simp⟩)⟩
def Pre (L:List Rl) (q:List Int) (k:Int) (n:Nat):Prop:=n≤q.length∧(n=0→k=-1)∧(0<n→k=fnd L (q.take n)∧0≤k)∧∀m,n<m→m≤q.length→fnd L (q.take m)<0
theorem Pre.uniq {L:List Rl} {q:List Int} {k k':Int} {n n':Nat} (h:Pre L q k n) (h':Pre L q k' n'):k=k'∧n=n':=by
 obtain ⟨a1,a2,a3,a4⟩:=h
 obtain ⟨b1,b2,b3,b4⟩:=h'
 rcases Nat.lt_trichotomy n n' with hlt|rfl|hlt
 ·have h1:=a4 n' hlt b1
  obtain ⟨h2,h3⟩:=b3 (by omega)
  omega
 ·refine ⟨?_,rfl⟩
  rcases Nat.eq_zero_or_pos n with h0|h0
  ·rw[a2 h0,b2 h0]
  ·rw[(a3 h0).1,(b3 h0).1]
 ·have h1:=b4 n hlt a1
  obtain ⟨h2,h3⟩:=a3 (by omega)
  omega
theorem z9B {L:List Rl} {N:List Nd} (hF:Fits (q1z L) N) (hRF:RF (fnd L) (q1z L) N) (hρ:∀q,q∉q1z L→fnd L q=-1):∀(us p:List Int) (k:Int) (n m:Nat),(q1z L)[m]?=some p→Pre L p k n →
  Pre L (p++us) (lonF N (q1z L) us p.length k n p m).1 (lonF N (q1z L) us p.length k n p m).2.1∧((lonF N (q1z L) us p.length k n p m).2.2=true↔∃u,p++us++[u]∈q1z L):=by
 intro us
 induction us with
 | nil=>
  intro p k n m hp hpre
  unfold lonF
  rw[List.append_nil]
  refine ⟨hpre,?_⟩
  have hml:m<N.length:=by rw[hF.len];exact (List.getElem?_eq_some_iff.1 hp).1
  have hx:=List.getElem?_eq_getElem hml
  have hc:=hF.chain hx hp
  have h0:=hF.kid0 hx
  have hk:z6b N m=N[m].kid:=by unfold z6b;rw[hx]
  simp only[hk,Bool.not_eq_true',decide_eq_false_iff_not]
  constructor
  ·intro hne
   cases hkk:q3f (q1z L) p with
   | nil=>
    rw[hkk] at hc
    have:N[m].kid≤0:=hc
    omega
   | cons j r=>
    obtain ⟨u,hu⟩:=k0l.1 (show j∈q3f (q1z L) p by rw[hkk];exact List.mem_cons_self ..)
    exact ⟨u,List.mem_of_getElem? hu⟩
  ·rintro ⟨u,hu⟩
   obtain ⟨j,hj,hju⟩:=List.getElem_of_mem hu
   have hm:j∈q3f (q1z L) p:=k0l.2 ⟨u,by rw[List.getElem?_eq_getElem hj,hju]⟩
   cases hkk:q3f (q1z L) p with
   | nil=>rw[hkk] at hm;cases hm
   | cons j r=>
    rw[hkk] at hc
    obtain ⟨h1,h2,_⟩:=hc
    omega
 | cons u us ih=>
  intro p k n m hp hpre
  unfold lonF
  have happ:p++u::us=p++[u]++us:=by simp
  cases hpk:q8I N u (q3f (q1z L) p) with
  | none=>
   have hno:=(k2W hF).1 hpk
   obtain ⟨a1,a2,a3,a4⟩:=hpre
   refine ⟨⟨by simp;omega,a2,fun h=>?_,fun m' h1 h2=>?_⟩,?_⟩
   ·rw[List.take_append_of_le_length a1]
    exact a3 h
   ·rcases Nat.lt_or_ge p.length m' with hl|hl
    ·have:(p++u::us).take m'=p++[u]++us.take (m'-p.length-1):=by
      rw[List.take_append,List.take_of_length_le (by omega)]
      obtain ⟨d,hd⟩:∃d,m'-p.length=d+1:=⟨m'-p.length-1,by omega⟩
      rw[hd]
      simp
     rw[this,hρ _ (fun hm=>hno (k7L hm))]
     decide
    ·rw[List.take_append_of_le_length hl]
     exact a4 m' h1 hl
   ·simp only[Bool.false_eq_true,false_iff]
    rintro ⟨v,hv⟩
    rw[happ,List.append_assoc] at hv
    exact hno (k7L hv)
  | some j=>
   have hpj:=(k0m hF).1 hpk
   have hjl:j<N.length:=by rw[hF.len];exact (List.getElem?_eq_some_iff.1 hpj).1
   have hxj:=List.getElem?_eq_getElem hjl
   have hrj:k4D N j=fnd L (p++[u]):=by unfold k4D;rw[hxj];exact hRF _ _ _ hxj hpj
   obtain ⟨a1,a2,a3,a4⟩:=hpre
   have hlen:(p++[u]).length=p.length+1:=by simp
   rw[happ]
   simp only
   rw[hrj]
   by_cases h0:fnd L (p++[u])≥0
   ·rw[if_pos h0]
    have:=ih (p++[u]) (fnd L (p++[u])) (p.length+1) j hpj ⟨by omega,fun h=>by omega,fun _=>⟨by rw[List.take_of_length_le (by omega)],h0⟩,fun m' h1 h2=>by omega⟩
    rw[hlen] at this
    exact this
   ·rw[if_neg h0]
    have:=ih (p++[u]) k n j hpj ⟨by omega,a2,fun h=>by rw[List.take_append_of_le_length a1];exact a3 h,fun m' h1 h2=>by
     rcases Nat.lt_or_ge p.length m' with hl|hl
     ·rw[List.take_of_length_le (by omega)];omega
     ·rw[List.take_append_of_le_length hl];exact a4 m' h1 hl⟩
    rw[hlen] at this
    exact this
theorem j1O {L:List Rl} {N:List Nd} (hF:Fits (q1z L) N) (hRF:RF (fnd L) (q1z L) N) (hρ:∀q,q∉q1z L→fnd L q=-1) (us:List Int) :
  Pre L us (lon N (q1z L) us).1 (lon N (q1z L) us).2.1∧((lon N (q1z L) us).2.2=true↔∃r∈L,us.length<r.1.length∧us <+: r.1):=by
 have:=z9B hF hRF hρ us [] (-1) 0 0 hF.root ⟨Nat.le_refl _,fun _=>rfl,fun h=>by omega,fun m h1 h2=>by simp at h2;omega⟩
 rw[List.nil_append,z1V] at this
 exact this
def docF (us:List Int):List Rl→Nat→Int→Nat→Bool→Int×Nat×Bool
 | [],_,k,n,o=>(k,n,o)
 | r::L,i,k,n,o=>
  if r.1.length≤us.length∧r.1=us.take r.1.length∧n<r.1.length then docF us L (i+1) i r.1.length (o||(decide (us.length<r.1.length)&&decide (r.1.take us.length=us)))
  else docF us L (i+1) k n (o||(decide (us.length<r.1.length)&&decide (r.1.take us.length=us)))
theorem z6c {a b:List Int}:a <+: b↔b.take a.length=a:=by
 constructor
 ·rintro ⟨t,rfl⟩;simp
 ·intro h;exact ⟨b.drop a.length,by have:=List.take_append_drop a.length b;rw[h] at this;exact this⟩
theorem k5J {us:List Int}:∀(R T:List Rl) (k:Int) (n:Nat) (o:Bool),(∀j r,(T++R)[j]?=some r→fnd ((T++R).take j) r.1<0)→Pre T us k n→(o=true↔∃r∈T,us.length<r.1.length∧us <+: r.1) →
  Pre (T++R) us (docF us R T.length k n o).1 (docF us R T.length k n o).2.1∧((docF us R T.length k n o).2.2=true↔∃r∈T++R,us.length<r.1.length∧us <+: r.1)
 | [],T,k,n,o,hR,hp,ho=>by
  rw[List.append_nil]
  exact ⟨hp,ho⟩
 | r::R,T,k,n,o,hR,hp,ho=>by
  have happ:T++r::R=T++[r]++R:=by simp
  have hn:fnd T r.1<0:=by
   have:=hR T.length r (by rw[List.getElem?_append_right (Nat.le_refl _),Nat.sub_self];rfl)
   rwa [List.take_left] at this
  have hl:(T++[r]).length=T.length+1:=by simp
  obtain ⟨a1,a2,a3,a4⟩:=hp
  have ho':(o||(decide (us.length<r.1.length)&&decide (r.1.take us.length=us)))=true↔∃x∈T++[r],us.length<x.1.length∧us <+: x.1:=by
   rw[Bool.or_eq_true,Bool.and_eq_true,decide_eq_true_eq,decide_eq_true_eq,←z6c,ho]
   constructor
   ·rintro (⟨x,h1,h2⟩|h)
    ·exact ⟨x,List.mem_append_left _ h1,h2⟩
    ·exact ⟨r,by simp,h⟩
   ·rintro ⟨x,h1,h2⟩
    rcases List.mem_append.1 h1 with h1|h1
    ·exact .inl ⟨x,h1,h2⟩
    ·simp at h1
     subst h1
     exact .inr h2
  rw[happ] at hR ⊢
  unfold docF
  split
  ·rename_i hc
   obtain ⟨c1,c2,c3⟩:=hc
   have:=k5J R (T++[r]) T.length r.1.length _ hR ⟨c1,fun h=>by omega,fun _=>⟨by rw[q8s hn,if_pos c2.symm],by omega⟩,fun m h1 h2=>by
    rw[q8s hn,if_neg (fun e=>by have:=congrArg List.length e;rw[List.length_take] at this;omega)]
    exact a4 m (by omega) h2⟩ ho'
   rw[hl] at this
   exact this
  ·rename_i hc
   have:=k5J R (T++[r]) k n _ hR ⟨a1,a2,fun h=>by
    obtain ⟨b1,b2⟩:=a3 h
    rw[q8s hn,if_neg (fun e=>by rw[e] at b1;omega)]
    exact ⟨b1,b2⟩,fun m h1 h2=>by
    rw[q8s hn,if_neg (fun e=>hc (by
     have hm:r.1.length=m:=by rw[←e,List.length_take];omega
     exact ⟨by omega,by rw[hm];exact e.symm,by omega⟩))]
    exact a4 m h1 h2⟩ ho'
   rw[hl] at this
   exact this
theorem z9C {L:List Rl} {N:List Nd} (hR:q1a L) (hF:Fits (q1z L) N) (hRF:RF (fnd L) (q1z L) N) (hρ:∀q,q∉q1z L→fnd L q=-1) (us:List Int):lon N (q1z L) us=docF us L 0 (-1) 0 false:=by
 obtain ⟨h1,h2⟩:=j1O hF hRF hρ us
 have h0:∀(q:List Int),fnd [] q=-1:=fun _=>rfl
 obtain ⟨h3,h4⟩:=k5J (us:=us) L [] (-1) 0 false (by simpa using hR.2) ⟨Nat.zero_le _,fun _=>rfl,fun h=>by omega,fun m _ _=>by rw[h0];decide⟩ (by simp)
 rw[List.nil_append] at h3 h4
 obtain ⟨e1,e2⟩:=h1.uniq h3
 have e3:(lon N (q1z L) us).2.2=(docF us L 0 (-1) 0 false).2.2:=by
  rw[Bool.eq_iff_iff]
  exact h2.trans h4.symm
 exact Prod.ext e1 (Prod.ext e2 e3)
theorem c_RuleNo {t:Nat} {N:List Nd} {vr:Value} {a:Int} {H:q0a} (hr:q8f H t N vr) (ha:a<0∨a≥N.length):cw Tryz.prog (tabF tab) om1 102 [.pointer (some ⟨t,0,none⟩),.int .i64 a] H=some (.int .i64 (-1),H):=by
 obtain ⟨vn,hr⟩:=hr.rd
 rw[q0g (F:=q1J) rfl rfl rfl]
 unfold q1J q4x
 have hl:=hr.len H
 have hn:=hr.nodes
 by_cases h1:a<0
 ·simp only[WA,Nat.reduceEqDiff,reduceCtorEq,h1]
 ·have h2:a≥(N.length:Int):=by omega
  simp only[WA,Nat.reduceEqDiff,reduceCtorEq,h1,hn,hl,h2]
theorem z6d {H:q0a} {x:Value} {l:List Int} {el:TypeId} (hx:Ints H x l) (hb:l.length*8≤140737488355328) :
  ∃v H',q0m H (.slice none 0 0) x el 1 8=some (v,H')∧Ext H H'∧Ints H' v l∧From H.n v∧((Tryz.prog.info? el).map (·.size)=some 1→Cut Tryz.prog H' v 1):=by
 by_cases hl:0<l.length
 ·obtain ⟨c,h⟩:=z4e (el:=el) hx hb hl
  exact ⟨_,_,h,Ext.push _ _,Sl.new q0b q0n (by simp[ints]),Nat.le_refl _,fun he=>Cut.new q0b he⟩
 ·have h0:l.length=0:=by omega
  have h1:l=[]:=List.length_eq_zero_iff.1 h0
  subst h1
  refine ⟨.slice none 0 0,H,?_,Ext.refl _,Sl.nil H 1,trivial,fun _=>trivial⟩
  obtain ⟨⟨a,c,rfl⟩,hc⟩:=hx
  have h2:cellsOf H 1 (.slice none 0 0)=some []:=rfl
  unfold q0m
  simp only[h2,hc]
  exact if_pos List.length_nil
theorem c_Out {t i:Nat} {N:List Nd} {vr:Value} {O:List (List Int)} {o:List Int} {H:q0a} (hr:q8f H t N vr) (hO:q2g H vr (O.map fun o=>([],o))) (ho:O[i]?=some o) (hb:o.length*8≤140737488355328) :
  q0p (cw Tryz.prog (tabF tab) om1 74 [.pointer (some ⟨t,0,none⟩),.int .i64 (i:Int)] H) fun v H'=>Ext H H'∧Ints H' v o∧From H.n v∧Cut Tryz.prog H' v 1:=by
 obtain ⟨vn,hr⟩:=hr.rd
 rw[q0g (F:=q3B) rfl rfl rfl]
 unfold q3B q7v
 have hl:=hO.len (H2:=H)
 rw[List.length_map] at hl
 have hk:=(List.getElem?_eq_some_iff.1 ho).1
 have hn:=hr.rules
 have hn':=hr.rules'
 have h1:¬(i:Int)<0:=by omega
 have h2:¬(i:Int)≥(O.length:Int):=by omega
 obtain ⟨i1,o1,vi,vo,a1,a2,a3,a4,a5,a6,_⟩:=hO.at (show (O.map fun o=>(([],o):Rl))[i]?=some ([],o) by rw[List.getElem?_map,ho];rfl)
 obtain ⟨v,H',g1,g2,g3,g4,g5⟩:=z6d (el:=3) a6 hb
 simp only[WA,Nat.reduceEqDiff,reduceCtorEq,h1,hn,hl,h2,a1,a3,g1]
 exact ⟨g2,g3,g4,g5 (by kernel_rfl)⟩
def isT (e:TypeId):Bool:=Nat.beq e 177||(Nat.beq e 174||(Nat.beq e 127||Nat.beq e 3))
def KT (H H':q0a):Prop:=∀j blk,H.get j=some blk→isT blk.elem=true→H'.get j=some blk
theorem Ext.kt {H H':q0a} (h:Ext H H'):KT H H':=fun j b hj _=>h.get hj
theorem TS.keep {B t b:Nat} {O:List (List Int)} {H H':q0a} {vr:Value} {N:List Nd} (hk:KT H H') (h:TS B H t b vr N O):TS B H' t b vr N O:=by
 obtain ⟨ver,ht⟩:=h.ht
 obtain ⟨ver2,A,hn,hA⟩:=h.hn
 obtain ⟨cs,hv,ho⟩:=h.hv
 refine ⟨h.tB,h.bB,h.ne,h.few,h.pos,⟨ver,hk _ _ ht (by rfl)⟩,⟨ver2,A,hk _ _ hn (by rfl),fun a ha=>?_⟩,⟨cs,hv.move fun i x hx he=>hk i x hx (by rw[he];rfl),ho.ki fun i x hx he=>hk i x hx (by rw[he];rfl)⟩,h.vB,h.vt,h.vn⟩
 obtain ⟨a1,a2,a3,a4,blk,a5,a6⟩:=hA a ha
 exact ⟨a1,a2,a3,a4,blk,hk _ _ a5 (by rw[a6];rfl),a6⟩
structure q3O (H:q0a) (t:Nat) (L:List Rl):Prop where
 right:q1a L
 few:L.length≤512
 ts:∃B b N vr,TS B H t b vr N (L.map (·.2))∧Fits (q1z L) N∧RF (fnd L) (q1z L) N∧∀q,q∉q1z L→fnd L q=-1
theorem q3O.rest {H:q0a} {t:Nat} {L:List Rl} (h:q3O H t L):∃N vr,q8f H t N vr∧q2g H vr ((L.map (·.2)).map fun o=>([],o))∧Fits (q1z L) N∧RF (fnd L) (q1z L) N∧∀q,q∉q1z L→fnd L q=-1:=by
 obtain ⟨B,b,N,vr,h1,h2⟩:=h.ts
 have:=h.few
 exact ⟨N,vr,h1.at,h1.rules (by rw[List.length_map];omega),h2⟩
theorem q3O.keep {H H':q0a} (hk:KT H H') {t:Nat} {L:List Rl} (h:q3O H t L):q3O H' t L:=by
 obtain ⟨B,b,N,vr,h1,h2⟩:=h.ts
 exact ⟨h.right,h.few,B,b,N,vr,h1.keep hk,h2⟩
theorem q3O.ext {H H':q0a} (hx:Ext H H') {t:Nat} {L:List Rl} (h:q3O H t L):q3O H' t L:=h.keep (Ext.kt hx)
def lgs (L:List Rl) (us:List Int):Int×Nat×Bool:=docF us L 0 (-1) 0 false
theorem z4g {t:Nat} {L:List Rl} {b:Value} {us:List Int} {H:q0a} (hT:q3O H t L) (hb:Ints H b us) (hs:tiny us) :
  cw Tryz.prog (tabF tab) om1 73 [.pointer (some ⟨t,0,none⟩),b] H=some (.tuple ⟨[.int .i64 (lgs L us).1,.int .i64 (lgs L us).2.1,.bool (lgs L us).2.2]⟩,H):=by
 obtain ⟨N,vr,h1,h2,h3,h4,h5⟩:=hT.rest
 have:=j1N h1 h3 hb hs
 rw[z9C hT.right h3 h4 h5] at this
 exact this
theorem j1P {t i:Nat} {L:List Rl} {r:Rl} {H:q0a} (hT:q3O H t L) (hr:L[i]?=some r) :
  q0p (cw Tryz.prog (tabF tab) om1 74 [.pointer (some ⟨t,0,none⟩),.int .i64 (i:Int)] H) fun v H'=>Ext H H'∧Ints H' v r.2∧From H.n v∧Cut Tryz.prog H' v 1:=by
 obtain ⟨N,vr,h1,h2,_⟩:=hT.rest
 have h8:=q4Q ((hT.right.1 r (List.mem_of_getElem? hr)).2)
 exact c_Out h1 h2 (by rw[List.getElem?_map,hr];rfl) (by omega)
theorem c_OfT {a:Value} {L:List Rl} {H:q0a} (ha:q2g H a L) (hC:Cut Tryz.prog H a 2) (hR:q1a L) (hL:L.length≤512) :
  q0p (cw Tryz.prog (tabF tab) om1 64 [a] H) fun v H'=>Ext H H'∧∃t,v=.tuple ⟨[.pointer (some ⟨t,0,none⟩),.int .i64 0]⟩∧q3O H' t L:=by
 obtain ⟨v,H',c,x,t,b,vr,N,rfl,hT,h3,h4,h5⟩:=c_Of ha hC hR hL
 exact ⟨_,H',c,x,t,rfl,hR,hL,_,b,N,vr,hT,h3,h4,h5⟩
theorem k2Z {L:List Rl} (hR:q1a L) (us:List Int):Pre L us (lgs L us).1 (lgs L us).2.1∧((lgs L us).2.2=true↔∃r∈L,us.length<r.1.length∧us <+: r.1):=by
 have:=k5J (us:=us) L [] (-1) 0 false (by simpa using hR.2) ⟨Nat.zero_le _,fun _=>rfl,fun h=>by omega,fun m _ _=>by have:fnd [] (us.take m)=-1:=rfl;rw[this];decide⟩ (by simp)
 rw[List.nil_append] at this
 exact this
theorem z1a {L:List Rl} {x:List Int} (h:0≤fnd L x):∃r,L[(fnd L x).toNat]?=some r∧r.1=x:=by
 unfold fnd at h ⊢
 split at h
 ·rename_i k hk
  obtain ⟨r,h1,h2,_⟩:=z0Y hk
  exact ⟨r,by simpa[hk] using h1,h2⟩
 ·omega
theorem z9D {L:List Rl} (hR:q1a L) {us:List Int} (h:(lgs L us).1<0):(lgs L us).2.1=0:=by
 obtain ⟨h1,h2,h3,h4⟩:=(k2Z hR us).1
 rcases Nat.eq_zero_or_pos (lgs L us).2.1 with h0|h0
 ·exact h0
 ·have:=(h3 h0).2;omega
theorem k9a {L:List Rl} (hR:q1a L) {us:List Int} (h:¬(lgs L us).1<0):0<(lgs L us).2.1∧(lgs L us).2.1≤us.length∧∃r,L[(lgs L us).1.toNat]?=some r∧r.1=us.take (lgs L us).2.1∧0≤(lgs L us).1:=by
 obtain ⟨h1,h2,h3,h4⟩:=(k2Z hR us).1
 rcases Nat.eq_zero_or_pos (lgs L us).2.1 with h0|h0
 ·have:=h2 h0;omega
 ·obtain ⟨a1,a2⟩:=h3 h0
  rw[a1] at a2 ⊢
  obtain ⟨r,b1,b2⟩:=z1a a2
  exact ⟨h0,h1,r,b1,b2,a2⟩
def oneT (L:List Rl) (us:List Int) (a:Int):Tok:=if (lgs L us).1<0 then ⟨a,1,[],3⟩ else ⟨a,(lgs L us).2.1,(match L[(lgs L us).1.toNat]? with|some r=>r.2|none=>[]),0⟩
theorem q6o {L:List Rl} (hR:q1a L) {us:List Int} (hn:us≠[]) (a:Int):∃n:Nat,(oneT L us a).len=n∧0<n∧n≤us.length:=by
 have hp:=List.length_pos_iff.2 hn
 unfold oneT
 split
 ·exact ⟨1,rfl,by decide,hp⟩
 ·rename_i h
  obtain ⟨h1,h2,_⟩:=k9a hR h
  exact ⟨_,rfl,h1,h2⟩
def allT (L:List Rl):Nat→List Int→Int→List Tok
 | 0,_,_=>[]
 | c+1,us,a=>if us=[] then [] else oneT L us a::allT L c (us.drop (oneT L us a).len.toNat) (a+(oneT L us a).len)
theorem z4h {L:List Rl} {c:Nat} {us:List Int} {a:Int}:allT L (c+1) us a=if us=[] then [] else oneT L us a::allT L c (us.drop (oneT L us a).len.toNat) (a+(oneT L us a).len):=rfl
theorem k1B {L:List Rl} {c:Nat} {a:Int}:allT L c [] a=[]:=by cases c<;>simp[allT]
theorem z4i {L:List Rl} (hR:q1a L):∀{c d:Nat} {us:List Int} {a:Int},us.length≤c→us.length≤d→allT L c us a=allT L d us a:=by
 intro c
 induction c with
 | zero=>
  intro d us a h1 h2
  have:us=[]:=List.length_eq_zero_iff.1 (by omega)
  subst this
  rw[k1B,k1B]
 | succ c ih=>
  intro d us a h1 h2
  by_cases hn:us=[]
  ·subst hn;rw[k1B,k1B]
  ·obtain ⟨n,e,n1,n2⟩:=q6o hR hn a
   cases d with
   | zero=>exact absurd (List.length_eq_zero_iff.1 (by omega)) hn
   | succ d=>
    unfold allT
    rw[if_neg hn,if_neg hn,e]
    congr 1
    refine ih ?_ ?_<;>rw[List.length_drop,Int.toNat_natCast]<;>omega
def allU (L:List Rl) (us:List Int) (a:Int):List Tok:=allT L us.length us a
theorem k5K {L:List Rl} {a:Int}:allU L [] a=[]:=rfl
theorem k3a {L:List Rl} (hR:q1a L) {us:List Int} (hn:us≠[]) (a:Int):allU L us a=oneT L us a::allU L (us.drop (oneT L us a).len.toNat) (a+(oneT L us a).len):=by
 obtain ⟨n,e,n1,n2⟩:=q6o hR hn a
 unfold allU
 obtain ⟨c,hc⟩:∃c,us.length=c+1:=⟨us.length-1,by omega⟩
 rw[hc,z4h,if_neg hn,e]
 congr 1
 refine z4i hR ?_ (Nat.le_refl _)
 rw[List.length_drop,Int.toNat_natCast]
 omega
theorem z1b {L:List Rl} (hR:q1a L):∀(c:Nat) (us:List Int) (a:Int),us.length≤c→(allU L us a).length≤us.length:=by
 intro c
 induction c with
 | zero=>
  intro us a h
  have:us=[]:=List.length_eq_zero_iff.1 (by omega)
  subst this
  rw[k5K];exact Nat.le_refl _
 | succ c ih=>
  intro us a h
  by_cases hn:us=[]
  ·subst hn;rw[k5K];exact Nat.le_refl _
  ·obtain ⟨n,e,n1,n2⟩:=q6o hR hn a
   rw[k3a hR hn,e,List.length_cons]
   have:=ih (us.drop n) (a+n) (by rw[List.length_drop];omega)
   rw[List.length_drop] at this
   show (allU L (us.drop n) (a+n)).length+1≤us.length
   omega
theorem z6e {L:List Rl} (hR:q1a L) {us:List Int} {a:Int}:(oneT L us a).out.length≤8:=by
 unfold oneT
 split
 ·exact Nat.zero_le _
 ·rename_i h
  obtain ⟨_,_,r,h1,_⟩:=k9a hR h
  simp only[h1]
  exact (q4Q (hR.1 r (List.mem_of_getElem? h1)).2).2
end Go.Proofs.YtleiinhaljdcoaaGreatDoor
namespace Go.Proofs.YtleiinhaljdcoaaGreatDoor
open Go Lon
set_option maxRecDepth 100000
theorem q2h {P:Program} {e:Env} {H:q0a} {t:Nat} {k:Option Nat} {r:List ARes}:q5R P e H (.cell t k::r)=(match (q6q P e H (.load (.tmp t) k)),q5R P e H r with|some v,some vs=>some (v::vs)|_,_=>none):=rfl
theorem q4f {P:Program} {e:Env} {H:q0a} {x:Operand} {k:Option Nat}:q6q P e H (.load x k)=(z2U (ev e x) k H).map (·.1):=by
 have:=k0C (P:=P) (cf:=fun _ _ _=>none) (e:=e) (H:=H) (x:=x) (k:=k)
 rw[←this]
 simp only[q0o]
 cases q6q P e H (.load x k)<;>rfl
def tokC (a:Option Addr) (c:Nat) (t:Tok):List Value:=[.int .i64 t.at_,.int .i64 t.len,.slice a t.out.length c,.int .i64 t.err]
theorem k5L {p:Option Addr} {c:Nat} {t:Tok}:(tokC p c t).all one=true:=rfl
theorem q1F {H:q0a} {i ver c:Nat} {el:TypeId} {p:Option Addr} {t:Tok} {a1 a2 a3 a4:Value}:q0u (some ⟨[a1,a2,a3,a4],el,.tip,ver,[]⟩) i 0 (.agg ⟨tokC p c t⟩) 4 H=some (.tuple ⟨[]⟩,H.upd i ⟨tokC p c t,el,.tip,ver+1,[]⟩):=by
 have:=q0x (H:=H) (cells:=[a1,a2,a3,a4]) (el:=el) (ver:=ver) (anc:=[]) (i:=i) (o:=0) (n:=4) (v:=.agg ⟨tokC p c t⟩) rfl rfl (Nat.le_refl 4)
 rw[this]
 rfl
theorem k1e {H:q0a} {el:TypeId} {ver c:Nat} {anc:List Nat} {p:Option Addr} {t:Tok}:q0l (some ⟨tokC p c t,el,.tip,ver,anc⟩) 0 (some 4) H=some (.agg ⟨tokC p c t⟩,H):=rfl
theorem Ints.upd' {H:q0a} {i B:Nat} {v:Value} {l:List Int} {b c:ABlk} (h:Ints H v l) (hg:H.get i=some b) (hf:From B v) (hi:i<B):Ints (H.upd i c) v l:=Sl.upd h hg (q0i.of_from hf hi)
theorem tk0 {c:Nat} {p:Option Addr} {t:Tok}:(tokC p c t)[0]?=some (.int .i64 t.at_):=rfl
theorem tk1 {c:Nat} {p:Option Addr} {t:Tok}:(tokC p c t)[1]?=some (.int .i64 t.len):=rfl
theorem tk2 {c:Nat} {p:Option Addr} {t:Tok}:(tokC p c t)[2]?=some (.slice p t.out.length c):=rfl
theorem tk3 {c:Nat} {p:Option Addr} {t:Tok}:(tokC p c t)[3]?=some (.int .i64 t.err):=rfl
theorem k3b {L:List Rl} (hR:q1a L) {us:List Int} (hn:us≠[]) (a:Int):(oneT L us a=⟨a,1,[],3⟩∧(lgs L us).1<0)∨∃(k n:Nat) (r:Rl),(lgs L us).1=k∧(lgs L us).2.1=n∧0<n∧n≤us.length∧L[k]?=some r∧r.1=us.take n∧0<r.2.length∧r.2.length≤8∧oneT L us a=⟨a,n,r.2,0⟩:=by
 by_cases h0:(lgs L us).1<0
 ·left
  exact ⟨by unfold oneT;rw[if_pos h0],h0⟩
 ·right
  obtain ⟨p1,p2,r,p3,p4,p5⟩:=k9a hR h0
  obtain ⟨k,hk⟩:∃k:Nat,(lgs L us).1=k:=⟨(lgs L us).1.toNat,by omega⟩
  rw[hk] at p3
  have p3':L[k]?=some r:=p3
  obtain ⟨q1,q2⟩:=q4Q ((hR.1 r (List.mem_of_getElem? p3')).2)
  refine ⟨k,_,r,hk,rfl,p1,p2,p3',p4,q1,q2,?_⟩
  unfold oneT
  rw[if_neg h0,hk]
  simp only[Int.toNat_natCast,p3']
abbrev OwnI (H:q0a) (v:Value) (l:List Int):Prop:=Own H 3 1 v l.length (ints l)
theorem OwnI.nil {H:q0a}:OwnI H (.slice none 0 0) []:=⟨rfl,.inl ⟨rfl,rfl⟩⟩
theorem OwnI.asI {H:q0a} {v:Value} {l:List Int} (h:OwnI H v l):Ints H v l:=h.sl
theorem OwnI.cutI {H:q0a} {v:Value} {l:List Int} (h:OwnI H v l):Cut Tryz.prog H v 1:=Own.cut h (by kernel_rfl)
def outs (T:List Tok):List Int:=T.flatMap (·.out)
def fstB:Tok→List Tok→Tok
 | u,[]=>u
 | u,t::T=>fstB (if t.err≠0∧u.err=0 then t else u) T
def tok0:Tok:=⟨0,0,[],0⟩
theorem OwnI.add2 {H0 H:q0a} {v x:Value} {l m:List Int} (ho:OwnI H v l) (hf:From H0.n v) (hx:Ext H0 H) (hi:Ints H x m) (hs:l.length+m.length<10000000000) :
  ∃v' H',q0m H v x 3 1 8=some (v',H')∧OwnI H' v' (l++m)∧From H0.n v'∧Ext H0 H'∧∀j b,H.get j=some b→b.elem≠3→H'.get j=some b:=by
 by_cases hm:m=[]
 ·subst hm
  refine ⟨v,H,?_,by rw[List.append_nil];exact ho,hf,hx,fun j b h _=>h⟩
  obtain ⟨⟨b1,b2,rfl⟩,hbc⟩:=hi
  obtain ⟨⟨d1,d2,rfl⟩,hdc⟩:=ho.sl
  unfold q0m
  simp only[hbc,hdc]
  exact if_pos List.length_nil
 ·obtain ⟨v2,H2,q1,q2,q3,q4,q5,q6⟩:=Own.append2 (bytes:=8) ho hi (List.length_pos_iff.2 hm) (q8c m) (by omega)
  refine ⟨v2,H2,q1,?_,q3.mono hx.1,Ext.grow hx q5 q6 hf,fun j b hj he=>by rw[q6 j (q0a.lt_of_get hj) (Own.notAt_elem ho hj he)];exact hj⟩
  unfold OwnI
  rw[List.length_append]
  have:ints l++ints m=ints (l++m):=by simp[Lon.ints]
  rw[←this]
  exact q2
theorem z1c {H:q0a} {i ver c c2:Nat} {el:TypeId} {p p2:Option Addr} {t u:Tok}:q0u (some ⟨tokC p2 c2 u,el,.tip,ver,[]⟩) i 0 (.agg ⟨tokC p c t⟩) 4 H=some (.tuple ⟨[]⟩,H.upd i ⟨tokC p c t,el,.tip,ver+1,[]⟩):=q1F
end Go.Proofs.YtleiinhaljdcoaaGreatDoor
namespace Go.Proofs.YtleiinhaljdcoaaGreatDoor
open Go Lon
def z1W (l:List Int):Prop:=l.length*8≤140737488355328
def trn:List Rl→List Rl→List Rl
 | [],T=>T
 | r::L,T=>if fnd T r.2<0 then trn L (T++[(r.2,r.1)]) else trn L T
def z4j (L:List Rl):Prop:=L.length<1000000000∧∀r∈L,z1W r.1∧z1W r.2
def CutR (H:q0a) (v:Value):Prop:=∃n cs,Sl H 2 v n cs∧∀x∈cs,Cut Tryz.prog H x 1
theorem CutR.nil (H:q0a):CutR H (.slice none 0 0):=⟨0,[],Sl.nil H 2,fun x hx=>by cases hx⟩
theorem CutR.ext {H H':q0a} (hx:Ext H H') {v:Value} (h:CutR H v):CutR H' v:=by
 obtain ⟨n,cs,h1,h2⟩:=h
 exact ⟨n,cs,h1.ext hx,fun x hm=>(h2 x hm).ext hx⟩
theorem CutR.go {H H':q0a} (hk:k1m H H') (hv:q0B H H') {v:Value} (h:CutR H v):CutR H' v:=by
 obtain ⟨n,cs,h1,h2⟩:=h
 exact ⟨n,cs,h1.keeps hk,fun x hm=>(h2 x hm).ver hv⟩
theorem q1f.appendC {H:q0a} {el:TypeId} {bytes:Nat} {v x vi vo:Value} {L:List Rl} {r:Rl} (h:q1f H el v L) (hc:CutR H v) (hx:Sl H 2 x 1 [vi,vo]) (hi:Ints H vi r.1) (ho:Ints H vo r.2) (t1:tiny r.1) (t2:tiny r.2)
  (ci:Cut Tryz.prog H vi 1) (co:Cut Tryz.prog H vo 1) (hb:(L.length+1)*bytes≤140737488355328) :
  ∃v' H',q0m H v x el 2 bytes=some (v',H')∧q1f H' el v' (L++[r])∧From H.n v'∧k1m H H'∧H.n≤H'.n∧(∀i,i<H.n→q0i v i→H'.get i=H.get i)∧CutR H' v'∧q0B H H':=by
 obtain ⟨v',H',m1,m2,m3,m4,m5,m6⟩:=h.append2 hx hi ho t1 t2 hb
 have hone:([vi,vo]:List Value).all one=true:=by
  obtain ⟨⟨a,c,rfl⟩,_⟩:=hi
  obtain ⟨⟨a',c',rfl⟩,_⟩:=ho
  rfl
 refine ⟨v',H',m1,m2,m3,m4,m5,m6,?_,q1l m1⟩
 obtain ⟨cs,h1,_⟩:=h
 obtain ⟨v2,H2,q1,q2,_⟩:=h1.append2 hx (by omega) hone hb
 rw[m1] at q1
 injection q1 with q1
 injection q1 with e1 e2
 subst e1 e2
 refine ⟨_,_,q2.sl,fun y hy=>?_⟩
 obtain ⟨n,cs',g1,g2⟩:=hc
 have hcs:cs'=cs:=Option.some.inj (g1.2.symm.trans h1.sl.2)
 subst hcs
 rcases List.mem_append.1 hy with hy|hy
 ·exact (g2 y hy).ver (q1l m1)
 ·simp at hy
  rcases hy with rfl|rfl
  ·exact ci.ver (q1l m1)
  ·exact co.ver (q1l m1)
theorem q2g.atC {H:q0a} {v:Value} {L:List Rl} (h:q2g H v L) (hc:CutR H v) {k:Nat} {r:Rl} (hr:L[k]?=some r) :
  ∃i o vi vo,(∀(kd:IntKind) (H2:q0a),q2E v (.int kd k) 2 H2=some (.pointer (some ⟨i,o,none⟩),H2))∧q0l (H.get i) o none H=some (vi,H)∧q0l (H.get i) (o+1) none H=some (vo,H) ∧
   q0l (H.get i) o (some 2) H=some (.agg ⟨[vi,vo]⟩,H)∧Ints H vi r.1∧Ints H vo r.2∧tiny r.1∧tiny r.2∧Cut Tryz.prog H vi 1∧Cut Tryz.prog H vo 1:=by
 obtain ⟨h0,cs,h1,h2⟩:=h
 obtain ⟨n,cs',g1,g2⟩:=hc
 have hcs:cs'=cs:=Option.some.inj (g1.2.symm.trans h1.2)
 subst hcs
 obtain ⟨⟨vi,vo,h3,h4,h5,h6⟩,h7,h8⟩:=h2 k r hr
 obtain ⟨i,o,a1,a2,a3⟩:=h1.at (List.getElem?_eq_some_iff.1 hr).1
 refine ⟨i,o,vi,vo,a1,a2 0 vi (by omega) h3,a2 1 vo (by omega) h4,?_,h5,h6,h7,h8,g2 _ (List.mem_of_getElem? h3),g2 _ (List.mem_of_getElem? h4)⟩
 rw[a3]
 have:(cs'.drop (k*2)).take 2=[vi,vo]:=by
  apply List.ext_getElem?
  intro j
  rw[List.getElem?_take]
  rcases j with _|_|j
  ·simp[List.getElem?_drop,h3]
  ·simp[List.getElem?_drop,h4]
  ·simp;omega
 rw[this]
end Go.Proofs.YtleiinhaljdcoaaGreatDoor
