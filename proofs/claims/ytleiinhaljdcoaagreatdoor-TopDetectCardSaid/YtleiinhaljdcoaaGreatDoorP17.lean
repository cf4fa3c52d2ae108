/- What is proved here: what the program's functions come to, as far as the claimed statement asks. Conditions: those that each theorem names, and no others. -/
import Derived.Test.YtleiinhaljdcoaaGreatDoorP16
set_option linter.unusedSimpArgs false
set_option linter.unusedVariables false
namespace Go.Proofs.YtleiinhaljdcoaaGreatDoor
open Go Lon
set_option maxRecDepth 100000
structure DS (B a m:Nat) (H:q0a) (d:Nat) (rv:Nat→Value) (C D:Nat→NS) (Z:NS) (X:Nat→List Int) (F:Nat→Nat×Nat) (vr vf:Value):Prop where
 hd:∃ver,H.get d=some ⟨[vr,vf],83,.tip,ver,[]⟩
 gr:Gr Z H 55 1 vr m ((List.range m).map rv)
 gf:Gr Z H 46 1 vf m ((List.range m).map fun k=>cv (F k))
 zd:Z d
 zn:∀j,Z j→B≤j∧j<H.n
 zD:∀k,a≤k→k<m→∀j,D k j→¬Z j
 cd:∀i k,a≤i→i<m→a≤k→k<m→i≠k→∀j,C i j→¬D k j
 cb:∀k,a≤k→k<m→∀j,C k j→B≤j
 ma:∀k,a≤k→k<m→RK k (rv k) (X k).length H (X k) (C k) (D k)
def up1 {α:Type} (f:Nat→α) (k:Nat) (x:α):Nat→α:=fun i=>if i=k then x else f i
theorem q5c {α:Type} {f:Nat→α} {k:Nat} {x:α}:up1 f k x k=x:=if_pos rfl
theorem q3P {α:Type} {f:Nat→α} {k i:Nat} {x:α} (h:i≠k):up1 f k x i=f i:=if_neg h
theorem j0z {f:Nat→Value} {g:Nat→Value} {m k:Nat} (hg:g k=g k) (h:∀i,i≠k→g i=f i):((List.range m).map f).set k (g k)=(List.range m).map g:=by
 apply List.ext_getElem?
 intro i
 rw[List.getElem?_set]
 by_cases e:k=i
 ·subst e
  rw[if_pos rfl,List.length_map,List.length_range,List.getElem?_map]
  by_cases hk:k<m
  ·rw[if_pos hk,List.getElem?_range hk]
   rfl
  ·rw[if_neg hk,List.getElem?_eq_none (by rw[List.length_range];omega)]
   rfl
 ·rw[if_neg e,List.getElem?_map,List.getElem?_map]
  by_cases hk:i<m
  ·rw[List.getElem?_range hk]
   show some (f i)=some (g i)
   rw[h i (fun h=>e h.symm)]
  ·rw[List.getElem?_eq_none (by rw[List.length_range];omega)]
   rfl
theorem k8c {f:Nat→Value} {m k:Nat} (hk:k<m):((List.range m).map f)[k]?=some (f k):=by
 rw[List.getElem?_map,List.getElem?_range hk]
 rfl
section
variable {B a m d:Nat} {H H':q0a} {rv:Nat→Value} {C D:Nat→NS} {Z:NS} {X:Nat→List Int} {F:Nat→Nat×Nat} {vr vf:Value}
theorem DS.bn (h:DS B a m H d rv C D Z X F vr vf):B<H.n:=by have:=h.zn d h.zd;omega
theorem DS.step {k a':Nat} {Ck Dk:NS} {xs:List Int} {z:Nat×Nat} {H1 H2:q0a} (hm8:m≤8) (h:DS B a m H d rv C D Z X F vr vf) (hak:a≤k) (hkm:k<m) (ho:Only (C k) H H1) (hx:Ext H1 H2) (hc:∀j,j<H.n→Ck j→C k j) (hd:∀j,j<H.n→Dk j→D k j) (haa:a≤a') (hrk:a'≤k→RK k (rv k) xs.length H1 xs Ck Dk) :
  ∃b ver anc,vf=.slice (some ⟨b,0,none⟩) m (m+1)∧H.get b=some ⟨(List.range m).map fun k=>cv (F k),46,.tip,ver,anc⟩∧H2.get b=H.get b∧H2.get d=H.get d ∧
   ∃H3,q0u (some ⟨(List.range m).map fun k=>cv (F k),46,.tip,ver,anc⟩) b k (cv z) 1 H2=some (.tuple ⟨[]⟩,H3)∧DS B a' m H3 d rv (up1 C k Ck) (up1 D k Dk) Z (up1 X k xs) (up1 F k z) vr vf∧H.n≤H3.n∧(∀j,j<B→H3.get j=H.get j)∧∀j,Z j→∀blk,H.get j=some blk→blk.elem≠46→H3.get j=some blk:=by
 have hs:∀i,a≤i→i<m→∀j,C i j→D i j:=fun i h1 h2 j hj=>(mkK (by omega) (rv i)).sub (h.ma i h1 h2) hj
 have hl:∀i,a≤i→i<m→∀j,D i j→j<H.n:=fun i h1 h2 j hj=>(mkK (by omega) (rv i)).lt (h.ma i h1 h2) hj
 have hZC:∀j,Z j→¬C k j:=fun j hj hcj=>h.zD k hak hkm j (hs k hak hkm j hcj) hj
 have hZ2:∀j,Z j→H2.get j=H.get j:=fun j hj=>by
  have hjn:=(h.zn j hj).2
  have:=ho.1
  rw[hx.2 j (by omega),ho.2 j hjn (hZC j hj)]
 have n12:=hx.1
 have n01:=ho.1
 have gf2:Gr Z H2 46 1 vf m ((List.range m).map fun k=>cv (F k)):=h.gf.keep fun j hj b hb _=>by rw[hZ2 j hj];exact hb
 obtain ⟨b,ver,anc,e1,e2,e3,H3,e4,e5,e6,e7,e8⟩:=gf2.store (k:=k) (u:=cv z) hkm rfl rfl
 refine ⟨b,ver,anc,e1,by rw[←hZ2 b e3];exact e2,hZ2 b e3,hZ2 d h.zd,H3,e4,?_,by omega,fun j hj=>?_,fun j hj blk hb he=>e8 _ _ (by rw[hZ2 j hj];exact hb) he⟩
 ·obtain ⟨verd,hdg⟩:=h.hd
  have hmap:((List.range m).map fun k=>cv (F k)).set k (cv z)=(List.range m).map fun i=>cv (up1 F k z i):=by
   have:=j0z (f:=fun i=>cv (F i)) (g:=fun i=>cv (up1 F k z i)) (m:=m) (k:=k) rfl (fun i hi=>by rw[q3P hi])
   simp only[q5c] at this
   exact this
  rw[hmap] at e5
  refine ⟨⟨verd,e8 _ _ (by rw[hZ2 d h.zd];exact hdg) (by simp only;decide)⟩,?_,e5,h.zd,fun j hj=>⟨(h.zn j hj).1,by have:=(h.zn j hj).2;omega⟩,fun i h1 h2 j hj=>?_,fun i l h1 h2 h3 h4 h5 j hj=>?_,fun i h1 h2 j hj=>?_,fun i h1 h2=>?_⟩
  ·refine h.gr.keep fun j hj blk hb he=>?_
   exact e8 _ _ (by rw[hZ2 j hj];exact hb) (by rw[he];decide)
  ·by_cases e:i=k
   ·subst e
    rw[q5c] at hj
    by_cases hjn:j<H.n
    ·exact h.zD i hak hkm j (hd j hjn hj)
    ·intro hz
     have:=(h.zn j hz).2
     omega
   ·rw[q3P e] at hj
    exact h.zD i (by omega) h2 j hj
  ·by_cases e:i=k
   ·subst e
    rw[q5c] at hj
    rw[q3P (fun e=>h5 e.symm)]
    by_cases hjn:j<H.n
    ·exact h.cd i l hak hkm (by omega) h4 h5 j (hc j hjn hj)
    ·intro hz
     have:=hl l (by omega) h4 j hz
     omega
   ·rw[q3P e] at hj
    by_cases e':l=k
    ·subst e'
     rw[q5c]
     intro hz
     have:=hl i (by omega) h2 j (hs i (by omega) h2 j hj)
     exact h.cd i l (by omega) h2 hak hkm h5 j hj (hd j this hz)
    ·rw[q3P e']
     exact h.cd i l (by omega) h2 (by omega) h4 h5 j hj
  ·by_cases e:i=k
   ·subst e
    rw[q5c] at hj
    by_cases hjn:j<H.n
    ·exact h.cb i hak hkm j (hc j hjn hj)
    ·have:=h.bn
     omega
   ·rw[q3P e] at hj
    exact h.cb i (by omega) h2 j hj
  ·by_cases e:i=k
   ·subst e
    rw[q5c,q5c,q5c]
    have hr:=hrk h1
    refine (mkK (by omega) (rv i)).keep hr (by omega) fun j hj=>?_
    have hj1:=(mkK (by omega) (rv i)).lt hr hj
    have hz:¬Z j:=fun hz=>by
     by_cases hjn:j<H.n
     ·exact h.zD i hak hkm j (hd j hjn hj) hz
     ·have:=(h.zn j hz).2
      omega
    rw[e7 j hz,hx.2 j hj1]
   ·rw[q3P e,q3P e,q3P e]
    refine (mkK (by omega) (rv i)).keep (h.ma i (by omega) h2) (by omega) fun j hj=>?_
    have hj1:=hl i (by omega) h2 j hj
    rw[e7 j (h.zD i (by omega) h2 j hj),hx.2 j (by omega),ho.2 j hj1 (fun hcj=>h.cd k i hak hkm (by omega) h2 (fun e'=>e e'.symm) j hcj hj)]
 ·have hz:¬Z j:=fun hz=>by have:=(h.zn j hz).1;omega
  have hbn:=h.bn
  rw[e7 j hz,hx.2 j (by omega),ho.2 j (by omega) (fun hcj=>by have:=h.cb k hak hkm j hcj;omega)]
def Stp (B a m d : Nat) (H : q0a) (rv : Nat → Value) (Z : NS) (F : Nat → Nat × Nat) (vr vf : Value) (k a' : Nat) (X' : Nat → List Int) (z : Nat × Nat) (H2 : q0a) : Prop := ∃ b ver anc,vf = .slice (some ⟨b,0,none⟩) m (m + 1) ∧ H.get b = some ⟨(List.range m).map fun k => cv (F k),46,.tip,ver,anc⟩ ∧ H2.get b = H.get b ∧ H2.get d = H.get d ∧
   ∃H3,q0u (some ⟨(List.range m).map fun k=>cv (F k),46,.tip,ver,anc⟩) b k (cv z) 1 H2=some (.tuple ⟨[]⟩,H3)∧(∃C' D',DS B a' m H3 d rv C' D' Z X' (up1 F k z) vr vf)∧H.n≤H3.n∧(∀j,j<B→H3.get j=H.get j)∧∀j,Z j→∀blk,H.get j=some blk→blk.elem≠46→H3.get j=some blk
theorem DS.put {k:Nat} {c:Int} (hm8:m≤8) (h:DS B a m H d rv C D Z X F vr vf) (hak:a≤k) (hkm:k<m) (hb:∀u∈X k,0≤u∧u<256) (hl:(X k).length<800) (hF:F k=fpK k (X k)) (hc:0≤c∧c<256) :
  ∃ tv H1 z H2, invA Tryz.prog (cw Tryz.prog (tabF tab) om1) (rv k) "Put" [.int .i64 c] H = some (tv, H1) ∧ cw Tryz.prog (tabF tab) om1 32 [tv] H1 = some (cv z, H2) ∧ q9n .add 46 (cv (F k)) (cv z) = some (cv (fpK k (X k ++ [c]))) ∧ Stp B a m d H rv Z F vr vf k a (up1 X k (X k ++ [c])) (fpK k (X k ++ [c])) H2 := by
 have hk8:k<8:=by omega
 obtain ⟨tv,H1,c1,T,hT,hO,hon,C',D',hR,hC,hD⟩:=(mkK hk8 (rv k)).put (h.ma k hak hkm) (by omega) hc
 have hb':∀u∈X k++[c],0≤u∧u<256:=fun u hu=>by
  rcases List.mem_append.1 hu with hu|hu
  ·exact hb u hu
  ·rw[List.mem_singleton.1 hu];exact hc
 obtain ⟨f1,f2,_,_,f5,f6⟩:=q8h hk8 hb'
 obtain ⟨_,_,_,_,g5,g6⟩:=q8h hk8 hb
 rw[k8b,hT] at f1 f2
 rw[List.length_append,List.length_append,List.length_append,List.length_singleton] at f2
 have hTm:∀x∈T,x.out.length≤8:=fun x hx=>f1 x (List.mem_append_left _ (List.mem_append_right _ hx))
 obtain ⟨_,H2,c2,x2,rfl⟩:=z5f hO (by omega) fun x hx=>by have:=hTm x hx;omega
 have e:fpK k (X k++[c])=((F k).1+wr T,(F k).2+hiT T):=by
  rw[hF]
  unfold fpK
  rw[hT,z5e,k9p]
 have hw:=j0w T
 have hh:=k3j hTm
 rw[List.length_append,List.length_singleton] at f5 f6
 refine ⟨tv,H1,(wr T,hiT T),H2,c1,c2,?_,?_⟩
 ·rw[e]
  exact z8D (by rw[hF];omega) (by rw[hF];omega) (by simp only;omega) (by simp only;omega)
 ·obtain ⟨b,ver,anc,q1,q2,q3,q4,H3,q5,q6,q7⟩:=h.step (k:=k) (a':=a) (Ck:=C') (Dk:=D') (xs:=X k++[c]) (z:=fpK k (X k++[c])) hm8 hak hkm hon x2 hC hD (Nat.le_refl _) (fun _=>by rw[List.length_append,List.length_singleton];exact hR)
  exact ⟨b,ver,anc,q1,q2,q3,q4,H3,q5,⟨_,_,q6⟩,q7⟩
theorem DS.fin {k:Nat} (hm8:m≤8) (h:DS B a m H d rv C D Z X F vr vf) (hak:a≤k) (hkm:k<m) (hb:∀u∈X k,0≤u∧u<256) (hl:(X k).length<800) (hF:F k=fpK k (X k)) :
  ∃ tv H1 z H2, invA Tryz.prog (cw Tryz.prog (tabF tab) om1) (rv k) "End" [] H = some (tv, H1) ∧ cw Tryz.prog (tabF tab) om1 32 [tv] H1 = some (cv z, H2) ∧ q9n .add 46 (cv (F k)) (cv z) = some (cv (fitK k (X k))) ∧ Stp B a m d H rv Z F vr vf k (k + 1) (up1 X k []) (fitK k (X k)) H2 := by
 have hk8:k<8:=by omega
 obtain ⟨tv,H1,c1,hO,hon⟩:=(mkK hk8 (rv k)).fin (h.ma k hak hkm) (by omega)
 obtain ⟨f1,f2,f3,f4,f5,f6⟩:=q8h hk8 hb
 have hTm:∀x∈teK k (X k),x.out.length≤8:=fun x hx=>f1 x (by rw[k8b];exact List.mem_append_right _ hx)
 rw[k8b,List.length_append] at f2
 obtain ⟨_,H2,c2,x2,rfl⟩:=z5f hO (by omega) fun x hx=>by have:=hTm x hx;omega
 have e:fitK k (X k)=((F k).1+wr (teK k (X k)),(F k).2+hiT (teK k (X k))):=by
  rw[hF]
  unfold fitK fpK
  rw[k8b,z5e,k9p]
 have hw:=j0w (teK k (X k))
 have hh:=k3j hTm
 refine ⟨tv,H1,(wr (teK k (X k)),hiT (teK k (X k))),H2,c1,c2,?_,?_⟩
 ·rw[e]
  exact z8D (by rw[hF];omega) (by rw[hF];omega) (by simp only;omega) (by simp only;omega)
 ·obtain ⟨b,ver,anc,q1,q2,q3,q4,H3,q5,q6,q7⟩:=h.step (k:=k) (a':=k+1) (Ck:=fun _=>False) (Dk:=fun _=>False) (xs:=[]) (z:=fitK k (X k)) hm8 hak hkm hon x2 (fun _ _ hf=>hf.elim) (fun _ _ hf=>hf.elim) (by omega) (fun hf=>by omega)
  exact ⟨b,ver,anc,q1,q2,q3,q4,H3,q5,⟨_,_,q6⟩,q7⟩
end
theorem DS.congr {B a m d:Nat} {H:q0a} {rv:Nat→Value} {C D:Nat→NS} {Z:NS} {X X':Nat→List Int} {F F':Nat→Nat×Nat} {vr vf:Value} (h:DS B a m H d rv C D Z X F vr vf) (hX:∀i,i<m→X i=X' i) (hF:∀i,i<m→F i=F' i):DS B a m H d rv C D Z X' F' vr vf:=by
 have e:((List.range m).map fun k=>cv (F k))=(List.range m).map fun k=>cv (F' k):=by
  apply List.map_congr_left
  intro i hi
  rw[hF i (List.mem_range.1 hi)]
 refine ⟨h.hd,h.gr,?_,h.zd,h.zn,h.zD,h.cd,h.cb,fun k h1 h2=>?_⟩
 ·rw[←e];exact h.gf
 ·rw[←hX k h2];exact h.ma k h1 h2
def XK (xs:List Int) (c:Int) (k:Nat):Nat→List Int:=fun i=>if i<k then xs++[c] else xs
theorem j3a {xs:List Int} {c:Int} {k:Nat}:up1 (XK xs c k) k (XK xs c k k++[c])=XK xs c (k+1):=by
 funext i
 unfold up1 XK
 by_cases e:i=k
 ·subst e
  rw[if_pos rfl,if_neg (Nat.lt_irrefl _),if_pos (Nat.lt_succ_self _)]
 ·rw[if_neg e]
  by_cases hi:i<k
  ·rw[if_pos hi,if_pos (by omega)]
  ·rw[if_neg hi,if_neg (by omega)]
theorem up1_F {X:Nat→List Int} {k:Nat} {ys:List Int}:up1 (fun k=>fpK k (X k)) k (fpK k ys)=fun i=>fpK i (up1 X k ys i):=by
 funext i
 unfold up1
 by_cases e:i=k
 ·subst e
  rw[if_pos rfl,if_pos rfl]
 ·rw[if_neg e,if_neg e]
def DX (HB:q0a) (d:Nat) (rv:Nat→Value) (Z:NS) (X:Nat→List Int) (vr vf:Value) (H:q0a):Prop:=(∃C D,DS HB.n 0 8 H d rv C D Z X (fun k=>fpK k (X k)) vr vf)∧Ext HB H
def PP0 (HB:q0a) (d:Nat) (v8 v9 v10:Value) (rv:Nat→Value) (Z:NS) (X:Nat→List Int) (vr vf:Value) (y:AEx) (e':Env) (H':q0a):Prop:=y=.exit 2∧eget e' 0=.pointer (some ⟨d,0,none⟩)∧eget e' 8=v8∧eget e' 9=v9∧eget e' 10=v10∧DX HB d rv Z X vr vf H'
theorem l_P0 {HB:q0a} {d:Nat} {v8 v9 v10:Value} {rv:Nat→Value} {Z:NS} {xs:List Int} {c:Int} {vr vf:Value} (hb:∀u∈xs,0≤u∧u<256) (hl:xs.length<700) (hc:0≤c∧c<256):∀(r k:Nat) (H:q0a),k+r=8→DX HB d rv Z (XK xs c k) vr vf H →
  Out (run Tryz.prog (tabF tab) om1 (.loop [0,5,8,9,10,17,18,19] q1q) [(0,.pointer (some ⟨d,0,none⟩)),(5,.int .u8 c),(8,v8),(9,v9),(10,v10),(17,vr),(18,.int .i64 8),(19,.int .i64 k)] H) (PP0 HB d v8 v9 v10 rv Z (fun _=>xs++[c]) vr vf):=by
 intro r
 induction r with
 | zero=>
  intro k H hk h
  obtain rfl:k=8:=by omega
  have zz:((8:Int)<8)=False:=by simp
  rw[q0d q1q.eq_1]
  simp only[WA,Nat.reduceEqDiff,reduceCtorEq,Int.cast_ofNat_Int,zz]
  obtain ⟨⟨C,D,h1⟩,h2⟩:=h
  refine ⟨rfl,rfl,rfl,rfl,rfl,⟨C,D,h1.congr (fun i hi=>?_) fun i hi=>?_⟩,h2⟩
  ·unfold XK;rw[if_pos hi]
  ·unfold XK;rw[if_pos hi]
 | succ r ih=>
  intro k H hk h
  obtain ⟨⟨C,D,h1⟩,hx⟩:=h
  have hlt:((k:Int)<8)=True:=eq_true (by omega)
  have hXk:XK xs c k k=xs:=by unfold XK;rw[if_neg (Nat.lt_irrefl _)]
  obtain ⟨tv,H1,z,H2,c1,c2,ca,b,ver,anc,e1,e2,e3,e4,H3,e5,⟨C',D',h3⟩,n3,l3,_⟩:=h1.put (k:=k) (c:=c) (Nat.le_refl _) (Nat.zero_le _) (by omega) (by rw[hXk];exact hb) (by rw[hXk];omega) rfl hc
  obtain ⟨rb,verr,ancr,er,hgr,_⟩:=h1.gr.blk (by decide)
  obtain ⟨verd,hgd⟩:=h1.hd
  rw[show 8+1=9 from rfl] at e1 er
  subst e1 er
  rw[e2] at e3
  rw[hgd] at e4
  rw[j3a,up1_F,j3a] at h3
  have x3:Ext HB H3:=⟨by have:=hx.1;omega,fun j hj=>by rw[l3 j hj,hx.2 j hj]⟩
  have ir:∀(i:Nat) (H9:q0a),q2E (.slice (some ⟨i,0,none⟩) 8 9) (.int .i64 (k:Int)) 1 H9=some (.pointer (some ⟨i,k,none⟩),H9):=fun i H9=>by
   rw[q4z ⟨by omega,by omega⟩,Nat.zero_add,Int.toNat_natCast,Nat.mul_one]
  have lr:∀H9:q0a,q0l (some ⟨(List.range 8).map rv,55,.tip,verr,ancr⟩) k none H9=some (rv k,H9):=fun H9=>by
   rw[q3d q0n,k8c (by omega)]
   rfl
  have lf:∀H9:q0a,q0l (some ⟨(List.range 8).map fun k'=>cv (fpK k' (XK xs c k k')),46,.tip,ver,anc⟩) k none H9=some (cv (fpK k (XK xs c k k)),H9):=fun H9=>by
   rw[q3d q0n,k8c (by omega)]
   rfl
  have hwc:IntKind.i64.wrap c=c:=q0k (by omega) (by omega)
  have hw2:IntKind.i64.wrap ((k:Int)+1)=((k+1:Nat):Int):=by rw[q0k (by omega) (by omega)];omega
  obtain ⟨y,e',H',r1,r2⟩:=ih (k+1) H3 (by omega) ⟨⟨C',D',h3⟩,x3⟩
  rw[q0d q1q.eq_1]
  simp only[WA,q0M,q1b,q1w,q1y,Nat.reduceEqDiff,reduceCtorEq,hlt,ir,hgr,lr,hgd,e2,lf,hwc,q6H,c1,c2,q6w,ca,e3,e4,e5,hw2]
  rw[q0e]
  simp only[WA,Nat.reduceEqDiff,reduceCtorEq,r1]
  exact r2
def PP1 (HB:q0a) (d:Nat) (rv:Nat→Value) (Z:NS) (xs:List Int) (vr vf:Value) (y:AEx) (e':Env) (H':q0a):Prop:=y=.exit 0∧DX HB d rv Z (fun _=>xs) vr vf H'
theorem l_P1 {HB:q0a} {d:Nat} {x:Value} {rv:Nat→Value} {Z:NS} {xs l:List Int} {vr vf:Value} (hx:Nums HB .u8 x l) (hb:∀u∈xs,0≤u∧u<256) (hbl:∀u∈l,0≤u∧u<256) (hl:xs.length+l.length<700):∀(r k:Nat) (H:q0a),k+r=l.length→DX HB d rv Z (fun _=>xs++l.take k) vr vf H →
  Out (run Tryz.prog (tabF tab) om1 (.loop [0,8,9,10] q1r) [(0,.pointer (some ⟨d,0,none⟩)),(8,x),(9,.int .i64 l.length),(10,.int .i64 k)] H) (PP1 HB d rv Z (xs++l) vr vf):=by
 intro r
 induction r with
 | zero=>
  intro k H hk h
  obtain rfl:k=l.length:=by omega
  have zz:(((l.length:Nat):Int)<(l.length:Nat))=False:=by simp
  rw[q0d q1r.eq_1]
  simp only[WA,Nat.reduceEqDiff,reduceCtorEq,zz]
  rw[List.take_length] at h
  exact ⟨rfl,h⟩
 | succ r ih=>
  intro k H hk h
  have hlt:((k:Int)<(l.length:Nat))=True:=eq_true (by omega)
  obtain ⟨c,hc,_⟩:=q0z (L:=l) (i:=k) (by omega)
  have hcb:=hbl c (List.mem_of_getElem? hc)
  obtain ⟨i,o,a1,a2⟩:=Nums.at (Nums.ext h.2 hx) hc
  have hD:=h
  obtain ⟨⟨C,D,h1⟩,_⟩:=hD
  obtain ⟨verd,hgd⟩:=h1.hd
  obtain ⟨rb,verr,ancr,er,_,_⟩:=h1.gr.blk (by decide)
  rw[show 8+1=9 from rfl] at er
  have hbk:∀u∈xs++l.take k,0≤u∧u<256:=fun u hu=>by
   rcases List.mem_append.1 hu with hu|hu
   ·exact hb u hu
   ·exact hbl u (List.mem_of_mem_take hu)
  have h0:DX HB d rv Z (XK (xs++l.take k) c 0) vr vf H:=by
   have e:XK (xs++l.take k) c 0=fun _=>xs++l.take k:=by funext i;unfold XK;rw[if_neg (Nat.not_lt_zero i)]
   rw[e]
   exact h
  obtain ⟨y0,e0,H1,r1,rfl,s0,s8,s9,s10,h2⟩:=l_P0 (v8:=x) (v9:=.int .i64 l.length) (v10:=.int .i64 k) hbk (by rw[List.length_append,List.length_take];omega) hcb 8 0 H (by omega) h0
  have e3:xs++l.take k++[c]=xs++l.take (k+1):=by rw[List.append_assoc,List.take_add_one,hc];rfl
  rw[e3] at h2
  rw[show ((0:Nat):Int)=0 from rfl] at r1
  have hw2:IntKind.i64.wrap ((k:Int)+1)=((k+1:Nat):Int):=by rw[q0k (by omega) (by omega)];omega
  obtain ⟨y,e',H',r2,q2⟩:=ih (k+1) H1 (by omega) h2
  subst er
  rw[q0d q1r.eq_1]
  simp only[WA,Nat.reduceEqDiff,reduceCtorEq,Int.cast_ofNat_Int,hlt,a1,a2,hgd]
  rw[q0e]
  simp only[WA,Nat.reduceEqDiff,reduceCtorEq,r1,s10,hw2]
  rw[q0e]
  simp only[WA,Nat.reduceEqDiff,reduceCtorEq,s0,s8,s9,s10,r2]
  exact q2
theorem z5g {HB H:q0a} {d:Nat} {x:Value} {rv:Nat→Value} {Z:NS} {xs l:List Int} {vr vf:Value} (hx:Nums HB .u8 x l) (hb:∀u∈xs,0≤u∧u<256) (hbl:∀u∈l,0≤u∧u<256) (hl:xs.length+l.length<700) (h:DX HB d rv Z (fun _=>xs) vr vf H):q0p (cw Tryz.prog (tabF tab) om1 14 [.pointer (some ⟨d,0,none⟩),x] H) fun v H'=>v=.tuple ⟨[]⟩∧DX HB d rv Z (fun _=>xs++l) vr vf H':=by
 rw[q0g (F:=q1S) rfl rfl rfl]
 unfold q1S q4r
 have lx:=fun H9=>Nums.len (H2:=H9) hx
 obtain ⟨y,e',H',r1,rfl,q⟩:=l_P1 hx hb hbl hl l.length 0 H (by omega) (by rw[List.take_zero,List.append_nil];exact h)
 rw[show ((0:Nat):Int)=0 from rfl] at r1
 simp only[WA,Nat.reduceEqDiff,reduceCtorEq,lx]
 rw[q0e]
 simp only[WA,Nat.reduceEqDiff,reduceCtorEq,r1]
 exact q
abbrev Sc1:=Nat×(Nat×Nat)
def qS (_:q0a) (cs:List Value) (r:Sc1):Prop:=cs=[.string (nm r.1),cv r.2]
theorem z5h:k7z qS:=fun _ _ _ _ _ h=>h
abbrev OwnS (H:q0a) (v:Value) (L:List Sc1):Prop:=q0U 2 qS H 48 v L
def inZ:Nat→List Sc1→List Sc1
 | 0,L=>L
 | j+1,L=>match L[j+1]?,L[j]? with
  | some x,some p=>if cmpS x.2 p.2<0 then inZ j ((L.set (j+1) p).set j x) else L
  | _,_=>L
def srt:Nat→Nat→List Sc1→List Sc1
 | _,0,L=>L
 | i,c+1,L=>srt (i+1) c (inZ i L)
theorem k9q:∀(j:Nat) (L:List Sc1),(inZ j L).length=L.length
 | 0,L=>rfl
 | j+1,L=>by
  unfold inZ
  split
  ·split
   ·rw[k9q j,List.length_set,List.length_set]
   ·rfl
  ·rfl
theorem k9r {P:Sc1→Prop}:∀(j:Nat) (L:List Sc1),(∀r∈L,P r)→∀r∈inZ j L,P r
 | 0,L,h=>h
 | j+1,L,h=>by
  unfold inZ
  split
  ·rename_i x p hx hp
   split
   ·refine k9r j _ fun r hr=>?_
    rcases List.mem_or_eq_of_mem_set hr with hr|rfl
    ·rcases List.mem_or_eq_of_mem_set hr with hr|rfl
     ·exact h r hr
     ·exact h _ (List.mem_of_getElem? hp)
    ·exact h _ (List.mem_of_getElem? hx)
   ·exact h
  ·exact h
theorem z5i:∀(c i:Nat) (L:List Sc1),(srt i c L).length=L.length
 | 0,i,L=>rfl
 | c+1,i,L=>by unfold srt;rw[z5i c,k9q]
theorem z5j {P:Sc1→Prop}:∀(c i:Nat) (L:List Sc1),(∀r∈L,P r)→∀r∈srt i c L,P r
 | 0,i,L,h=>h
 | c+1,i,L,h=>by unfold srt;exact z5j c _ _ (k9r i L h)
theorem z5k {a b:Nat×Nat} (h:cmpS a b<0):¬cmpS b a<0:=by
 unfold cmpS cmpN at *
 repeat (first|split at h|split)
 all_goals omega
theorem j0A {a b:Nat×Nat} (h:¬cmpS a b<0):b.1≤a.1:=by
 unfold cmpS cmpN at *
 repeat (first|split at h|split)
 all_goals omega
def Bad (L:List Sc1) (k:Nat):Prop:=∃x p,L[k+1]?=some x∧L[k]?=some p∧cmpS x.2 p.2<0
theorem z5l {i:Nat}:∀(j:Nat) (L:List Sc1),(∀k,k<i→k+1≠j→¬Bad L k)→(∀x p,0<j→j<i→L[j+1]?=some x→L[j-1]?=some p→¬cmpS x.2 p.2<0)→∀k,k<i→¬Bad (inZ j L) k
 | 0,L,h1,h2,k,hk=>h1 k hk (by omega)
 | j+1,L,h1,h2,k,hk=>by
  unfold inZ
  split
  ·rename_i x p hx hp
   have l1:=(List.getElem?_eq_some_iff.1 hx).1
   by_cases hc:cmpS x.2 p.2<0
   ·rw[if_pos hc]
    obtain ⟨M,hM⟩:∃M,M=(L.set (j+1) p).set j x:=⟨_,rfl⟩
    have m0:M[j]?=some x:=by rw[hM,List.getElem?_set,if_pos rfl,List.length_set,if_pos (by omega)]
    have m1:M[j+1]?=some p:=by rw[hM,List.getElem?_set,if_neg (by omega),List.getElem?_set,if_pos rfl,if_pos l1]
    have mo:∀q,q≠j→q≠j+1→M[q]?=L[q]?:=fun q h3 h4=>by rw[hM,List.getElem?_set,if_neg (fun e=>h3 e.symm),List.getElem?_set,if_neg (fun e=>h4 e.symm)]
    rw[←hM]
    refine z5l j M (fun q hq hqj=>?_) (fun y r h3 h4 hy hr=>?_) k hk
    ·rintro ⟨y,r,hy,hr,hb⟩
     by_cases e1:q=j
     ·subst e1
      rw[m1] at hy
      rw[m0] at hr
      injection hy with hy
      injection hr with hr
      subst hy hr
      exact z5k hc hb
     by_cases e2:q=j+1
     ·subst e2
      rw[m1] at hr
      injection hr with hr
      subst hr
      rw[mo _ (by omega) (by omega)] at hy
      exact h2 y p (by omega) hq hy hp hb
     ·rw[mo _ (by omega) (by omega)] at hy hr
      exact h1 q hq (by omega) ⟨y,r,hy,hr,hb⟩
    ·rw[m1] at hy
     injection hy with hy
     subst hy
     rw[mo _ (by omega) (by omega)] at hr
     intro hb
     exact h1 (j-1) (by omega) (by omega) ⟨p,r,by rw[show j-1+1=j by omega];exact hp,hr,hb⟩
   ·rw[if_neg hc]
    by_cases e:k=j
    ·subst e
     rintro ⟨y,r,hy,hr,hb⟩
     rw[hx] at hy
     rw[hp] at hr
     injection hy with hy
     injection hr with hr
     subst hy hr
     exact hc hb
    ·exact h1 k hk (by omega)
  ·rename_i hn
   rintro ⟨y,r,hy,hr,hb⟩
   by_cases e:k=j
   ·subst e
    exact hn y r hy hr
   ·exact h1 k hk (by omega) ⟨y,r,hy,hr,hb⟩
theorem z5m:∀(c i:Nat) (L:List Sc1),0<i→(∀k,k+1<i→¬Bad L k)→∀k,k+1<i+c→¬Bad (srt i c L) k
 | 0,i,L,h0,h,k,hk=>h k hk
 | c+1,i,L,h0,h,k,hk=>by
  unfold srt
  exact z5m c (i+1) (inZ i L) (by omega) (fun q hq=>z5l (i:=i) i L (fun q hq hqi=>h q (by omega)) (fun x p h3 h4=>by omega) q (by omega)) k (by omega)
def srow (r:Sc1):List Value:=[.string (nm r.1),cv r.2]
theorem OwnS.blk {H:q0a} {v:Value} {L:List Sc1} (h:OwnS H v L) (h0:0<L.length):∃b ver anc cs,v=.slice (some ⟨b,0,none⟩) L.length (L.length+1)∧H.get b=some ⟨cs,48,.tip,ver,anc⟩∧cs.length=L.length*2∧∀k r,L[k]?=some r→(cs.drop (k*2)).take 2=srow r:=by
 obtain ⟨_,cs,⟨h1,⟨_,h2⟩|⟨b,ver,anc,h2,_,h3⟩⟩,h4⟩:=h
 ·omega
 ·exact ⟨b,ver,anc,cs,h2,h3,h1,h4⟩
abbrev fnC:Value:=.func (.func 34) ⟨[]⟩ ⟨[]⟩
def PI (HB:q0a) (v:Value) (n i:Nat) (L':List Sc1) (y:AEx) (e':Env) (H':q0a):Prop:=y=.exit 2∧eget e' 0=v∧eget e' 1=.int .i64 0∧eget e' 2=.int .i64 n∧eget e' 3=fnC∧eget e' 8=.int .i64 i∧Ext HB H'∧OwnS H' v L'∧AncB HB.n H' 48 v
theorem l_I {HB:q0a} {v:Value} {n i:Nat} (hf:From HB.n v):∀(j:Nat) (L:List Sc1) (H:q0a),j<L.length→L.length<1000→(∀r∈L,Sm r.2)→OwnS H v L→AncB HB.n H 48 v→Ext HB H →
  Out (run Tryz.prog (tabF tab) om1 (.loop [0,1,2,3,8,9] k1u) [(0,v),(1,.int .i64 0),(2,.int .i64 n),(3,fnC),(8,.int .i64 i),(9,.int .i64 j)] H) (PI HB v n i (inZ j L)):=by
 intro j
 induction j with
 | zero=>
  intro L H hj hl hS ho ha hx
  have z:((0:Int)>0)=False:=by simp
  rw[q0d k1u.eq_1]
  simp only[WA,q0M,q1b,q1w,q1y,Nat.reduceEqDiff,reduceCtorEq,Int.cast_ofNat_Int,z]
  exact ⟨rfl,rfl,rfl,rfl,rfl,rfl,hx,ho,ha⟩
 | succ j ih=>
  intro L H hj hl hS ho ha hx
  obtain ⟨x,hxj,_⟩:=q0z (L:=L) (i:=j+1) hj
  obtain ⟨p,hpj,_⟩:=q0z (L:=L) (i:=j) (by omega)
  have z:(((j+1:Nat):Int)>0)=True:=eq_true (by omega)
  have hw:IntKind.i64.wrap (((j+1:Nat):Int)-1)=(j:Int):=by rw[q0k (by omega) (by omega)];omega
  obtain ⟨b,ver,anc,cs,rfl,hg,hcl,hrow⟩:=ho.blk (by omega)
  have i1:∀H9:q0a,q2E (.slice (some ⟨b,0,none⟩) L.length (L.length+1)) (.int .i64 ((j+1:Nat):Int)) 2 H9=some (.pointer (some ⟨b,(j+1)*2,none⟩),H9):=fun H9=>by
   rw[q4z ⟨by omega,by omega⟩,Nat.zero_add,Int.toNat_natCast]
  have i0:∀H9:q0a,q2E (.slice (some ⟨b,0,none⟩) L.length (L.length+1)) (.int .i64 (j:Int)) 2 H9=some (.pointer (some ⟨b,j*2,none⟩),H9):=fun H9=>by
   rw[q4z ⟨by omega,by omega⟩,Nat.zero_add,Int.toNat_natCast]
  have r1:∀H9:q0a,q0l (some ⟨cs,48,.tip,ver,anc⟩) ((j+1)*2) (some 2) H9=some (.agg ⟨srow x⟩,H9):=fun H9=>by rw[q4e q0n (by omega),hrow _ _ hxj]
  have r0:∀H9:q0a,q0l (some ⟨cs,48,.tip,ver,anc⟩) (j*2) (some 2) H9=some (.agg ⟨srow p⟩,H9):=fun H9=>by rw[q4e q0n (by omega),hrow _ _ hpj]
  obtain ⟨_,H1,c1,x1,rfl⟩:=c_Cmp (s:=nm x.1) (t:=nm p.1) (H:=H) (hS x (List.mem_of_getElem? hxj)) (hS p (List.mem_of_getElem? hpj))
  have c1:cw Tryz.prog (tabF tab) om1 34 [.agg ⟨srow x⟩,.agg ⟨srow p⟩] H=some (.int .i64 (cmpS x.2 p.2),H1):=c1
  have hg1:=x1.get hg
  rw[q0d k1u.eq_1]
  unfold inZ
  simp only[hxj,hpj]
  by_cases hc:cmpS x.2 p.2<0
  ·have q:(cmpS x.2 p.2<0)=True:=eq_true hc
   rw[if_pos hc]
   obtain ⟨b1,ia,H2,gs,n2,low2,_,_,anc2,_,_,own2⟩:=q0U.storeRow (B:=HB.n) (new:=srow p) (q0U.ext z5h x1 ho) hf (ha.ext x1) hxj (by decide) rfl rfl (fun _ _ _ _ h=>h)
   obtain rfl:b=b1:=by
    have e:=(i1 H).symm.trans (ia .i64 H)
    simp at e
    exact e
   have ho2:OwnS H2 (.slice (some ⟨b,0,none⟩) L.length (L.length+1)) (L.set (j+1) p):=own2 p rfl
   obtain ⟨b2,ver2,an2,cs2,hb2,hg2,_,_⟩:=ho2.blk (by rw[List.length_set];omega)
   obtain rfl:b=b2:=by
    simp at hb2
    exact hb2
   have hp2:(L.set (j+1) p)[j]?=some p:=by rw[List.getElem?_set,if_neg (by omega)];exact hpj
   obtain ⟨b3,ib,H3,gt,n3,low3,_,_,anc3,_,_,own3⟩:=q0U.storeRow (B:=HB.n) (new:=srow x) ho2 hf anc2 hp2 (by decide) rfl rfl (fun _ _ _ _ h=>h)
   obtain rfl:b=b3:=by
    have e:=(i0 H).symm.trans (ib .i64 H)
    simp at e
    exact e
   have ho3:OwnS H3 (.slice (some ⟨b,0,none⟩) L.length (L.length+1)) ((L.set (j+1) p).set j x):=own3 x rfl
   have x3:Ext HB H3:=⟨by have:=hx.1;have:=x1.1;omega,fun k hk=>by rw[low3 k hk,low2 k hk,(hx.trans x1).2 k hk]⟩
   rw[hg1] at gs
   rw[hg2] at gt
   obtain ⟨y,e',H',s1,s2⟩:=ih ((L.set (j+1) p).set j x) H3 (by rw[List.length_set,List.length_set];omega) (by rw[List.length_set,List.length_set];omega) (fun r hr=>by
    rcases List.mem_or_eq_of_mem_set hr with hr|rfl
    ·rcases List.mem_or_eq_of_mem_set hr with hr|rfl
     ·exact hS r hr
     ·exact hS _ (List.mem_of_getElem? hpj)
    ·exact hS _ (List.mem_of_getElem? hxj)) ho3 anc3 x3
   simp only[WA,q0M,q1b,q1w,q1y,Nat.reduceEqDiff,reduceCtorEq,z,i1,hg,r1,hw,i0,r0,c1,q,hg1,gs,hg2,gt]
   rw[q0e]
   simp only[WA,Nat.reduceEqDiff,reduceCtorEq,s1]
   exact s2
  ·have q:(cmpS x.2 p.2<0)=False:=eq_false hc
   rw[if_neg hc]
   simp only[WA,q0M,q1b,q1w,q1y,Nat.reduceEqDiff,reduceCtorEq,z,i1,hg,r1,hw,i0,r0,c1,q,hg1]
   exact ⟨rfl,rfl,rfl,rfl,rfl,rfl,hx.trans x1,q0U.ext z5h x1 ho,ha.ext x1⟩
def PSJ (HB:q0a) (v:Value) (L':List Sc1) (y:AEx) (e':Env) (H':q0a):Prop:=y=.exit 0∧Ext HB H'∧OwnS H' v L'∧AncB HB.n H' 48 v
theorem l_J {HB:q0a} {v:Value} {n:Nat} (hn:n<1000) (hf:From HB.n v):∀(c i:Nat) (L:List Sc1) (H:q0a),i+c=n→L.length=n→(∀r∈L,Sm r.2)→OwnS H v L→AncB HB.n H 48 v→Ext HB H →
  Out (run Tryz.prog (tabF tab) om1 (.loop [0,1,2,3,8] k1v) [(0,v),(1,.int .i64 0),(2,.int .i64 n),(3,fnC),(8,.int .i64 i)] H) (PSJ HB v (srt i c L)):=by
 intro c
 induction c with
 | zero=>
  intro i L H hi hl hS ho ha hx
  obtain rfl:i=n:=by omega
  have z:((i:Int)<(i:Nat))=False:=by simp
  rw[q0d k1v.eq_1]
  simp only[WA,Nat.reduceEqDiff,reduceCtorEq,z]
  exact ⟨rfl,hx,ho,ha⟩
 | succ c ih=>
  intro i L H hi hl hS ho ha hx
  have z:((i:Int)<(n:Nat))=True:=eq_true (by omega)
  have hw:IntKind.i64.wrap ((i:Int)+1)=((i+1:Nat):Int):=by rw[q0k (by omega) (by omega)];omega
  obtain ⟨_,e1,H1,r1,rfl,s0,s1,s2,s3,s8,x1,ho1,ha1⟩:=l_I (n:=n) (i:=i) hf i L H (by omega) (by omega) hS ho ha hx
  obtain ⟨y,e',H',r2,q2⟩:=ih (i+1) (inZ i L) H1 (by omega) (by rw[k9q];exact hl) (k9r i L hS) ho1 ha1 x1
  rw[q0d k1v.eq_1]
  simp only[WA,Nat.reduceEqDiff,reduceCtorEq,z]
  rw[q0e]
  simp only[WA,Nat.reduceEqDiff,reduceCtorEq,r1,s8,hw]
  rw[q0e]
  simp only[WA,Nat.reduceEqDiff,reduceCtorEq,s0,s1,s2,s3,s8,r2]
  exact q2
theorem c_Ins {HB H:q0a} {v:Value} {L:List Sc1} (h0:1≤L.length) (hl:L.length<1000) (hS:∀r∈L,Sm r.2) (hf:From HB.n v) (ho:OwnS H v L) (ha:AncB HB.n H 48 v) (hx:Ext HB H):q0p (cw Tryz.prog (tabF tab) om1 79 [v,.int .i64 0,.int .i64 L.length,fnC] H) fun v' H'=>v'=.tuple ⟨[]⟩∧Ext HB H'∧OwnS H' v (srt 1 (L.length-1) L)∧AncB HB.n H' 48 v:=by
 rw[q0g (F:=k9K) rfl rfl rfl]
 unfold k9K z7e
 obtain ⟨y,e',H',r1,rfl,q⟩:=l_J (n:=L.length) (by omega) hf (L.length-1) 1 L H (by omega) rfl hS ho ha hx
 have hw:IntKind.i64.wrap ((0:Int)+1)=((1:Nat):Int):=by decide
 simp only[WA,Nat.reduceEqDiff,reduceCtorEq,Int.cast_ofNat_Int,hw]
 rw[q0e]
 rw[show ((1:Nat):Int)=1 from rfl] at r1
 simp only[WA,Nat.reduceEqDiff,reduceCtorEq,r1]
 exact q
theorem c_Stb {HB H:q0a} {v:Value} {L:List Sc1} (h0:1≤L.length) (hl:L.length<20) (hS:∀r∈L,Sm r.2) (hf:From HB.n v) (ho:OwnS H v L) (ha:AncB HB.n H 48 v) (hx:Ext HB H):q0p (cw Tryz.prog (tabF tab) om1 56 [v,.int .i64 L.length,fnC] H) fun v' H'=>v'=.tuple ⟨[]⟩∧Ext HB H'∧OwnS H' v (srt 1 (L.length-1) L)∧AncB HB.n H' 48 v:=by
 rw[q0g (F:=k9J) rfl rfl rfl]
 unfold k9J z7d
 obtain ⟨_,H',c1,rfl,q⟩:=c_Ins h0 (by omega) hS hf ho ha hx
 have z1:((20:Int)≤(L.length:Nat))=False:=eq_false (by omega)
 have z2:((20:Int)<(L.length:Nat))=False:=eq_false (by omega)
 simp only[WA,Nat.reduceEqDiff,reduceCtorEq]
 rw[q0e]
 simp only[WA,Nat.reduceEqDiff,reduceCtorEq]
 rw[q0d k9H.eq_1]
 simp only[WA,Nat.reduceEqDiff,reduceCtorEq,z1,c1]
 rw[q0e]
 simp only[WA,Nat.reduceEqDiff,reduceCtorEq]
 rw[q0d k9I.eq_1]
 simp only[WA,Nat.reduceEqDiff,reduceCtorEq,z2]
 exact q
theorem j3b {HB H:q0a} {v:Value} {L:List Sc1} (h0:1≤L.length) (hl:L.length<20) (hS:∀r∈L,Sm r.2) (hf:From HB.n v) (ho:OwnS H v L) (ha:AncB HB.n H 48 v) (hx:Ext HB H):q0p (cw Tryz.prog (tabF tab) om1 33 [v,fnC] H) fun v' H'=>v'=.tuple ⟨[]⟩∧Ext HB H'∧OwnS H' v (srt 1 (L.length-1) L)∧AncB HB.n H' 48 v:=by
 rw[q0g (F:=k9G) rfl rfl rfl]
 unfold k9G z7c
 obtain ⟨_,H',c1,rfl,q⟩:=c_Stb h0 hl hS hf ho ha hx
 have lv:=fun H9=>Rws.len (H2:=H9) ho.rws
 simp only[WA,Nat.reduceEqDiff,reduceCtorEq,lv,c1]
 exact q
theorem DS.congr2 {B a m d:Nat} {H:q0a} {rv:Nat→Value} {C D:Nat→NS} {Z:NS} {X X':Nat→List Int} {F:Nat→Nat×Nat} {vr vf:Value} (h:DS B a m H d rv C D Z X F vr vf) (hX:∀i,a≤i→i<m→X i=X' i):DS B a m H d rv C D Z X' F vr vf:=
 ⟨h.hd,h.gr,h.gf,h.zd,h.zn,h.zD,h.cd,h.cb,fun k h1 h2=>by rw[←hX k h1 h2];exact h.ma k h1 h2⟩
theorem DS.more {B a m d:Nat} {H H2 H':q0a} {rv:Nat→Value} {C D:Nat→NS} {Z:NS} {X:Nat→List Int} {F:Nat→Nat×Nat} {vr vf:Value} (hm8:m≤8) (h:DS B a m H d rv C D Z X F vr vf) (hx:Ext H H2) (hn:H'.n=H2.n+1) (h1:∀j,j<H2.n→¬Z j→H'.get j=H2.get j) (h2:∀j blk,H2.get j=some blk→blk.elem≠48→H'.get j=some blk):DS B a m H' d rv C D (fun j=>Z j∨j=H2.n) X F vr vf:=by
 have hb:=h.bn
 have hxn:=hx.1
 obtain ⟨ver,hg⟩:=h.hd
 refine ⟨⟨ver,h2 _ _ (hx.get hg) (by simp only;decide)⟩,(h.gr.keep fun j _ b hj he=>h2 _ _ (hx.get hj) (by rw[he];decide)).mono fun _=>.inl,(h.gf.keep fun j _ b hj he=>h2 _ _ (hx.get hj) (by rw[he];decide)).mono fun _=>.inl,.inl h.zd,fun j hj=>?_,fun k g1 g2 j hj hz=>?_,h.cd,h.cb,fun k g1 g2=>?_⟩
 ·rcases hj with hj|hj
  ·have:=h.zn j hj
   omega
  ·omega
 ·rcases hz with hz|hz
  ·exact h.zD k g1 g2 j hj hz
  ·have:=(mkK (by omega) (rv k)).lt (h.ma k g1 g2) hj
   omega
 ·refine (mkK (by omega) (rv k)).keep (h.ma k g1 g2) (by omega) fun j hj=>?_
  have hl:=(mkK (by omega) (rv k)).lt (h.ma k g1 g2) hj
  rw[h1 j (by omega) (h.zD k g1 g2 j hj),hx.2 j hl]
def FE (xs:List Int) (k:Nat):Nat→Nat×Nat:=fun i=>if i<k then fitK i xs else fpK i xs
theorem FE_up {xs:List Int} {k:Nat}:up1 (FE xs k) k (fitK k xs)=FE xs (k+1):=by
 funext i
 unfold up1 FE
 by_cases e:i=k
 ·subst e
  rw[if_pos rfl,if_pos (Nat.lt_succ_self _)]
 ·rw[if_neg e]
  by_cases hi:i<k
  ·rw[if_pos hi,if_pos (by omega)]
  ·rw[if_neg hi,if_neg (by omega)]
def scs (xs:List Int) (k:Nat):List Sc1:=(List.range k).map fun i=>(i,fitK i xs)
theorem z5n (xs:List Int) (k:Nat):(scs xs k).length=k:=by unfold scs;rw[List.length_map,List.length_range]
theorem z6W (xs:List Int) (k:Nat):(scs xs (k+1)).flatMap srow=(scs xs k).flatMap srow++srow (k,fitK k xs):=by
 unfold scs
 rw[List.range_succ,List.map_append,List.flatMap_append]
 congr 1
theorem v_scB {H:q0a} {s:ByteArray} {z:Nat×Nat}:q2l [.string ⟨#[]⟩,.complex .f64 0 0] [(0,1,.string s),(1,1,cv z)] H=some (.agg ⟨[.string s,cv z]⟩,H):=rfl
theorem v_scS {H:q0a} {s:ByteArray} {z:Nat×Nat}:q0D 48 1 2 [.string ⟨#[]⟩,.complex .f64 0 0] [(0,2,.agg ⟨[.string s,cv z]⟩)] H=some (.slice (some ⟨H.n,0,none⟩) 1 2,H.push ⟨[.string s,cv z],48,.tip,0,[]⟩):=rfl
def PE0 (HB:q0a) (xs:List Int) (y:AEx) (e':Env) (H':q0a):Prop:=y=.exit 0∧∃Z v,eget e' 3=v∧Gr Z H' 48 2 v 8 ((scs xs 8).flatMap srow)∧(∀j,Z j→HB.n≤j)∧Ext HB H'
theorem l_E0 {HB:q0a} {d:Nat} {rv:Nat→Value} {xs:List Int} {vr vf:Value} (hb:∀u∈xs,0≤u∧u<256) (hl:xs.length<700):∀(r k:Nat) (H:q0a) (Z:NS) (C D:Nat→NS) (vo:Value),k+r=8→DS HB.n k 8 H d rv C D Z (fun _=>xs) (FE xs k) vr vf→Ext HB H→Gr Z H 48 2 vo k ((scs xs k).flatMap srow) →
  Out (run Tryz.prog (tabF tab) om1 (.loop [0,3,9,10,11] q1s) [(0,.pointer (some ⟨d,0,none⟩)),(3,vo),(9,vr),(10,.int .i64 8),(11,.int .i64 k)] H) (PE0 HB xs):=by
 intro r
 induction r with
 | zero=>
  intro k H Z C D vo hk h hx ho
  obtain rfl:k=8:=by omega
  have zz:((8:Int)<8)=False:=by simp
  rw[q0d q1s.eq_1]
  simp only[WA,Nat.reduceEqDiff,reduceCtorEq,Int.cast_ofNat_Int,zz]
  exact ⟨rfl,Z,vo,rfl,ho,fun j hj=>(h.zn j hj).1,hx⟩
 | succ r ih=>
  intro k H Z C D vo hk h1 hx ho
  have hlt:((k:Int)<8)=True:=eq_true (by omega)
  have hF:FE xs k k=fpK k xs:=by unfold FE;rw[if_neg (Nat.lt_irrefl _)]
  obtain ⟨tv,H1,z,H2,c1,c2,ca,b,ver,anc,e1,e2,e3,e4,H3,e5,⟨C',D',h3⟩,n3,l3,k3⟩:=h1.fin (k:=k) (Nat.le_refl _) (Nat.le_refl _) (by omega) hb (by omega) hF
  rw[FE_up] at h3
  have h3:=h3.congr2 (X':=fun _=>xs) fun i g1 g2=>q3P (by omega)
  have ho3:Gr Z H3 48 2 vo k ((scs xs k).flatMap srow):=ho.keep fun j hj blk hg he=>k3 j hj blk hg (by rw[he];decide)
  obtain ⟨rb,verr,ancr,er,hgr,_⟩:=h1.gr.blk (by decide)
  obtain ⟨verd,hgd⟩:=h1.hd
  rw[show 8+1=9 from rfl] at e1 er
  subst e1 er
  rw[e2] at e3
  rw[hgd] at e4
  obtain ⟨verd3,hgd3⟩:=h3.hd
  obtain ⟨b3,ver3,anc3,eb3,hgf3,_⟩:=h3.gf.blk (by decide)
  obtain rfl:b=b3:=by
   simp at eb3
   exact eb3
  have x3:Ext HB H3:=⟨by have:=hx.1;omega,fun j hj=>by rw[l3 j hj,hx.2 j hj]⟩
  have cn:=k5Y H3
  obtain ⟨H4,hH4⟩:∃H4,H4=H3.push ⟨nmL,9,.tip,0,[]⟩:=⟨_,rfl⟩
  have x4:Ext H3 H4:=by rw[hH4];exact Ext.push H3 _
  have g4:H4.get H3.n=some ⟨nmL,9,.tip,0,[]⟩:=by rw[hH4];exact q0b
  rw[←hH4] at cn
  obtain ⟨H5,hH5⟩:∃H5,H5=H4.push ⟨[.string (nm k),cv (fitK k xs)],48,.tip,0,[]⟩:=⟨_,rfl⟩
  have x5:Ext H4 H5:=by rw[hH5];exact Ext.push H4 _
  have g5:H5.get H4.n=some ⟨[.string (nm k),cv (fitK k xs)],48,.tip,0,[]⟩:=by rw[hH5];exact q0b
  have x35:=x4.trans x5
  have n4:=x4.1
  have n5:=x5.1
  obtain ⟨vo',H6,m1,m2,m3,m4,m5,_⟩:=Gr.app (bytes:=32) (c:=2) (ho3.keep fun j _ blk hg _=>x35.get hg) (fun j hj=>by have:=(h3.zn j hj).2;omega) g5 rfl rfl (by omega)
  have h6:=h3.more (Nat.le_refl _) x35 m3 m4 m5
  have hE:(scs xs k).flatMap srow++[.string (nm k),cv (fitK k xs)]=(scs xs (k+1)).flatMap srow:=by rw[z6W];rfl
  rw[hE] at m2
  have x6:Ext HB H6:=⟨by have:=x3.1;omega,fun j hj=>by
   have:=x3.1
   rw[m4 j (by omega) (fun hz=>by have:=(h3.zn j hz).1;omega),x35.2 j (by omega),x3.2 j hj]⟩
  have g6d:=m5 _ _ (x35.get hgd3) (by simp only;decide)
  have g6f:=m5 _ _ (x35.get hgf3) (by simp only;decide)
  have g6n:=m5 _ _ (x5.get g4) (by simp only;decide)
  have ir:∀(i:Nat) (H9:q0a),q2E (.slice (some ⟨i,0,none⟩) 8 9) (.int .i64 (k:Int)) 1 H9=some (.pointer (some ⟨i,k,none⟩),H9):=fun i H9=>by
   rw[q4z ⟨by omega,by omega⟩,Nat.zero_add,Int.toNat_natCast,Nat.mul_one]
  have lr:∀H9:q0a,q0l (some ⟨(List.range 8).map rv,55,.tip,verr,ancr⟩) k none H9=some (rv k,H9):=fun H9=>by
   rw[q3d q0n,k8c (by omega)]
   rfl
  have lf:∀H9:q0a,q0l (some ⟨(List.range 8).map fun k'=>cv (FE xs k k'),46,.tip,ver,anc⟩) k none H9=some (cv (FE xs k k),H9):=fun H9=>by
   rw[q3d q0n,k8c (by omega)]
   rfl
  have hF3:FE xs (k+1) k=fitK k xs:=by unfold FE;rw[if_pos (Nat.lt_succ_self _)]
  have lf3:∀H9:q0a,q0l (some ⟨(List.range 8).map fun k'=>cv (FE xs (k+1) k'),46,.tip,ver3,anc3⟩) k none H9=some (cv (fitK k xs),H9):=fun H9=>by
   rw[q3d q0n,k8c (by omega),hF3]
   rfl
  have ln:∀H9:q0a,q0l (some ⟨nmL,9,.tip,0,[]⟩) k none H9=some (.string (nm k),H9):=fun H9=>by
   rw[q3d q0n,k7W (by omega)]
   rfl
  have hw2:IntKind.i64.wrap ((k:Int)+1)=((k+1:Nat):Int):=by rw[q0k (by omega) (by omega)];omega
  obtain ⟨y,e',H',r1,r2⟩:=ih (k+1) H6 _ C' D' vo' (by omega) h6 x6 m2
  rw[q0d q1s.eq_1]
  simp only[WA,q0M,q1b,isK,q1w,q1y,Nat.reduceEqDiff,reduceCtorEq,hlt,ir,hgr,lr,hgd,e2,lf,q6H,c1,c2,q6w,ca,e3,e4,e5,hgd3,hgf3,lf3,cn,g4,ln,v_scB,v_scS,←hH5,m1,g6d,g6f,g6n,hw2]
  rw[q0e]
  simp only[WA,Nat.reduceEqDiff,reduceCtorEq,r1]
  exact r2
theorem z8F {xs:List Int} {k m:Nat} {r:Sc1} (h:(scs xs m)[k]?=some r):k<m∧r=(k,fitK k xs):=by
 unfold scs at h
 rw[List.getElem?_map] at h
 by_cases hk:k<m
 ·rw[List.getElem?_range hk] at h
  exact ⟨hk,(Option.some.inj h).symm⟩
 ·rw[List.getElem?_eq_none (by rw[List.length_range];omega)] at h
  cases h
def best (xs:List Int):List Sc1:=srt 1 7 (scs xs 8)
theorem z8G {HB H:q0a} {d:Nat} {rv:Nat→Value} {Z:NS} {xs:List Int} {vr vf:Value} (hb:∀u∈xs,0≤u∧u<256) (hl:xs.length<700) (h:DX HB d rv Z (fun _=>xs) vr vf H):q0p (cw Tryz.prog (tabF tab) om1 15 [.pointer (some ⟨d,0,none⟩)] H) fun v H'=>Ext HB H'∧OwnS H' v (best xs):=by
 rw[q0g (F:=q1T) rfl rfl rfl]
 unfold q1T q4s
 obtain ⟨⟨C,D,h1⟩,hx⟩:=h
 obtain ⟨rb,verr,ancr,er,_,_⟩:=h1.gr.blk (by decide)
 obtain ⟨verd,hgd⟩:=h1.hd
 rw[show 8+1=9 from rfl] at er
 subst er
 have h0:DS HB.n 0 8 H d rv C D Z (fun _=>xs) (FE xs 0) (.slice (some ⟨rb,0,none⟩) 8 9) vf:=h1.congr (fun _ _=>rfl) fun i _=>by unfold FE;rw[if_neg (Nat.not_lt_zero i)]
 obtain ⟨y,e',H1,r1,rfl,Z',v,s3,ho,hz,x1⟩:=l_E0 hb hl 8 0 H Z C D (.slice none 0 0) (by omega) h0 hx Gr.nil
 rw[show ((0:Nat):Int)=0 from rfl] at r1
 have hL:(scs xs 8).length=8:=z5n xs 8
 obtain ⟨b,ver,anc,rfl,_,g1,g2,g3⟩:∃b ver anc,v=.slice (some ⟨b,0,none⟩) 8 (8+1)∧0<8∧H1.get b=some ⟨(scs xs 8).flatMap srow,48,.tip,ver,anc⟩∧Z' b∧∀x∈anc,Z' x∧x<b∧∃b',H1.get x=some b'∧b'.elem=48:=by
  obtain ⟨_,⟨_,h9⟩|h9⟩:=ho
  ·cases h9
  ·exact h9
 have hf:From HB.n (.slice (some ⟨b,0,none⟩) 8 (8+1)):=hz b g2
 have ha:AncB HB.n H1 48 (.slice (some ⟨b,0,none⟩) 8 (8+1)):=⟨_,g1,fun x hx=>⟨hz x (g3 x hx).1,(g3 x hx).2⟩⟩
 have hS:OwnS H1 (.slice (some ⟨b,0,none⟩) 8 (8+1)) (scs xs 8):=by
  refine ⟨by rw[hL];decide,(scs xs 8).flatMap srow,?_,fun k r hr=>?_⟩
  ·rw[hL]
   exact ⟨ho.1,.inr ⟨b,ver,anc,rfl,by decide,g1⟩⟩
  ·exact (z3i (f:=srow) (s:=2) (fun _=>rfl) hr).1
 obtain ⟨_,H2,c2,rfl,x2,o2,_⟩:=j3b (by rw[hL];decide) (by rw[hL];decide) (fun r hr=>by
  obtain ⟨k,hk⟩:=List.getElem?_of_mem hr
  obtain ⟨hk8,rfl⟩:=z8F hk
  obtain ⟨_,_,f3,f4,_⟩:=q8h hk8 hb
  exact ⟨by simp only;omega,by simp only;omega⟩) hf hS ha x1
 rw[hL] at o2
 simp only[WA,Nat.reduceEqDiff,reduceCtorEq,Int.cast_ofNat_Int,hgd]
 rw[q0e]
 simp only[WA,Nat.reduceEqDiff,Nat.reduceAdd,reduceCtorEq,r1,s3,c2]
 exact ⟨x2,o2⟩
structure NI (HB:q0a) (m:Nat) (H:q0a) (d nb:Nat) (rv:Nat→Value) (C D:Nat→NS) (Z:NS) (vr vf:Value):Prop where
 ds:DS HB.n 0 m H d rv C D Z (fun _=>[]) (fun _=>(0,0)) vr vf
 ze:∀j,Z j→∃b,H.get j=some b∧isF b.elem=false
 ce:∀k,k<m→∀j,C k j→∃b,H.get j=some b∧isF b.elem=false
 nb:H.get nb=some ⟨nmL,9,.tip,0,[]⟩∧¬Z nb
 ext:Ext HB H
theorem z6X {f:Nat→Value} {m:Nat} {x:Value}:(List.range (m+1)).map (up1 f m x)=(List.range m).map f++[x]:=by
 rw[List.range_succ,List.map_append]
 congr 1
 ·apply List.map_congr_left
  intro i hi
  exact q3P (by have:=List.mem_range.1 hi;omega)
 ·show [up1 f m x m]=[x]
  rw[q5c]
theorem NI.step {HB:q0a} {m d nb:Nat} {H H1:q0a} {rv:Nat→Value} {C D:Nat→NS} {Z:NS} {vr vf r:Value} {Cm Dm:NS} (hm:m<8) (h:NI HB m H d nb rv C D Z vr vf) (hr:RK m r 0 H1 [] Cm Dm) (hN:NewM H H1 Cm Dm) (hone:one r=true) :
  ∃ver vr' vf' H2 H3 H4 H5 H6 H7,H2=H1.push ⟨[r],55,.tip,0,[]⟩∧H3=H2.push ⟨[.complex .f64 0 0],46,.tip,0,[]⟩∧H1.get d=some ⟨[vr,vf],83,.tip,ver,[]⟩∧H3.get d=H1.get d∧H5.get d=H1.get d ∧
   q0m H3 vr (.slice (some ⟨H1.n,0,none⟩) 1 2) 55 1 16=some (vr',H4)∧H4.get H1.n=some ⟨[r],55,.tip,0,[]⟩∧H4.get H2.n=some ⟨[.complex .f64 0 0],46,.tip,0,[]⟩ ∧
   q0m H4 vf (.slice (some ⟨H2.n,0,none⟩) 1 2) 46 1 16=some (vf',H5)∧H5.get H1.n=some ⟨[r],55,.tip,0,[]⟩∧H5.get H2.n=some ⟨[.complex .f64 0 0],46,.tip,0,[]⟩ ∧
   q0u (some ⟨[vr,vf],83,.tip,ver,[]⟩) d 0 vr' 1 H5=some (.tuple ⟨[]⟩,H6)∧H6.get d=some ⟨[vr',vf],83,.tip,ver+1,[]⟩∧q0u (some ⟨[vr',vf],83,.tip,ver+1,[]⟩) d 1 vf' 1 H6=some (.tuple ⟨[]⟩,H7) ∧
   NI HB (m+1) H7 d nb (up1 rv m r) (up1 C m Cm) (up1 D m Dm) (fun j=>(Z j∨j=H3.n)∨j=H4.n) vr' vf':=by
 obtain ⟨ver,hg⟩:=h.ds.hd
 have x1:=hN.ext
 obtain ⟨H2,hH2⟩:∃H2,H2=H1.push ⟨[r],55,.tip,0,[]⟩:=⟨_,rfl⟩
 obtain ⟨H3,hH3⟩:∃H3,H3=H2.push ⟨[.complex .f64 0 0],46,.tip,0,[]⟩:=⟨_,rfl⟩
 have x2:Ext H1 H2:=by rw[hH2];exact Ext.push H1 _
 have x3:Ext H2 H3:=by rw[hH3];exact Ext.push H2 _
 have n1:H.n≤H1.n:=x1.1
 have n2:H2.n=H1.n+1:=by rw[hH2];simp
 have n3:H3.n=H2.n+1:=by rw[hH3];simp
 have g2:H2.get H1.n=some ⟨[r],55,.tip,0,[]⟩:=by rw[hH2];exact q0b
 have g3:H3.get H2.n=some ⟨[.complex .f64 0 0],46,.tip,0,[]⟩:=by rw[hH3];exact q0b
 have g3r:=x3.get g2
 have x03:=x1.trans (x2.trans x3)
 have zl:∀j,Z j→j<H.n:=fun j hj=>(h.ds.zn j hj).2
 have zb:∀j,Z j→HB.n≤j:=fun j hj=>(h.ds.zn j hj).1
 have hbn:=h.ds.bn
 have hdl:=zl d h.ds.zd
 obtain ⟨vr',H4,a1,a2,a3,a4,a5,b4,a6,a7⟩:=Gr.app (bytes:=16) (c:=2) (h.ds.gr.keep fun j _ b hj _=>x03.get hj) (fun j hj=>by have:=zl j hj;omega) g3r rfl (by simp[hone]) (by omega)
 have g4r:=a4 H1.n (by omega) (fun hz=>by have:=zl _ hz;omega)
 rw[g3r] at g4r
 have g4c:=a5 _ _ g3 (by simp only;decide)
 have gf4:Gr (fun j=>Z j∨j=H3.n) H4 46 1 vf m ((List.range m).map fun _=>cv (0,0)):=(h.ds.gf.keep fun j _ b hj he=>a5 _ _ (x03.get hj) (by rw[he];decide)).mono fun _=>.inl
 obtain ⟨vf',H5,c1,c2,c3,c4,c5,b5,c6,c7⟩:=Gr.app (bytes:=16) (c:=2) (new:=[.complex .f64 0 0]) gf4 (fun j hj=>hj.elim (fun hz=>by have:=zl j hz;omega) (fun hz=>by omega)) g4c rfl rfl (by omega)
 have g5r:=c5 _ _ g4r (by simp only;decide)
 have g5c:=c4 H2.n (by omega) (fun hz=>hz.elim (fun hz=>by have:=zl _ hz;omega) (fun hz=>by omega))
 rw[g4c] at g5c
 have g1d:=x1.get hg
 have g3d:=x03.get hg
 have g4d:=a5 _ _ g3d (by simp only;decide)
 have g5d:=c5 _ _ g4d (by simp only;decide)
 obtain ⟨H6,hH6⟩:∃H6,H6=H5.upd d ⟨[vr',vf],83,.tip,ver+1,[]⟩:=⟨_,rfl⟩
 have s6:=j2Y (H:=H5) (i:=d) (ver:=ver) (el:=83) (x:=vr) (y:=vf) (u:=vr') (Gr.one a2)
 rw[←hH6] at s6
 have g6:H6.get d=some ⟨[vr',vf],83,.tip,ver+1,[]⟩:=by rw[hH6];exact q0r g5d
 obtain ⟨H7,hH7⟩:∃H7,H7=H6.upd d ⟨[vr',vf'],83,.tip,ver+1+1,[]⟩:=⟨_,rfl⟩
 have s7:=j2Z (H:=H6) (i:=d) (ver:=ver+1) (el:=83) (x:=vr') (y:=vf) (u:=vf') (Gr.one c2)
 rw[←hH7] at s7
 have g7:H7.get d=some ⟨[vr',vf'],83,.tip,ver+1+1,[]⟩:=by rw[hH7];exact q0r g6
 have n7:H7.n=H5.n:=by rw[hH7,hH6];simp
 have k7:∀j,j≠d→H7.get j=H5.get j:=fun j hj=>by rw[hH7,q0j g6 hj,hH6,q0j g5d hj]
 have keep:∀j,j<H3.n→¬Z j→H7.get j=H3.get j:=fun j hj hz=>by
  have hd:j≠d:=fun e=>hz (by rw[e];exact h.ds.zd)
  rw[k7 j hd,c4 j (by omega) (fun q=>q.elim hz (fun q=>by omega)),a4 j hj hz]
 have old:∀k,k<m→∀j,D k j→j<H.n∧¬Z j:=fun k hk j hj=>⟨(mkK (by omega) (rv k)).lt (h.ds.ma k (Nat.zero_le _) hk) hj,h.ds.zD k (Nat.zero_le _) hk j hj⟩
 have sub:∀k,k<m→∀j,C k j→D k j:=fun k hk j hj=>(mkK (by omega) (rv k)).sub (h.ds.ma k (Nat.zero_le _) hk) hj
 have newD:∀j,Dm j→j<H1.n∧¬Z j:=fun j hj=>⟨(mkK (by omega) r).lt hr hj,fun hz=>by
  obtain ⟨b,hb,hbF⟩:=h.ze j hz
  have:=hN.d j hj (zl j hz) b (x1.get hb)
  rw[this] at hbF
  cases hbF⟩
 have subm:∀j,Cm j→Dm j:=fun j hj=>(mkK (by omega) r).sub hr hj
 refine ⟨ver,vr',vf',H2,H3,H4,H5,H6,H7,hH2,hH3,g1d,by rw[g3d,g1d],by rw[g5d,g1d],a1,g4r,g4c,c1,g5r,g5c,s6,g6,s7,⟨⟨⟨_,g7⟩,?_,?_,.inl (.inl h.ds.zd),fun j hj=>?_,fun k _ hk j hj=>?_,fun i k _ hi _ hk hik j hj=>?_,fun k _ hk j hj=>?_,fun k _ hk=>?_⟩,fun j hj=>?_,fun k hk j hj=>?_,⟨?_,fun hz=>?_⟩,⟨by have:=h.ext.1;omega,fun j hj=>?_⟩⟩⟩
 ·rw[z6X]
  refine (a2.keep fun j hj b hb he=>?_).mono fun _=>.inl
  rw[k7 j (fun e=>by subst e;rw[g4d] at hb;injection hb with hb;subst hb;revert he;simp only;decide)]
  exact c5 _ _ hb (by rw[he];decide)
 ·have e:((List.range (m+1)).map fun _=>cv (0,0))=((List.range m).map fun _=>cv (0,0))++[.complex .f64 0 0]:=by
   rw[List.range_succ,List.map_append]
   rfl
  rw[e]
  refine c2.keep fun j hj b hb he=>?_
  rw[k7 j (fun e=>by subst e;rw[g5d] at hb;injection hb with hb;subst hb;revert he;simp only;decide)]
  exact hb
 ·rcases hj with (hj|hj)|hj
  ·have:=zl j hj
   have:=zb j hj
   omega
  ·omega
  ·omega
 ·by_cases e:k=m
  ·subst e
   rw[q5c] at hj
   obtain ⟨q1,q2⟩:=newD j hj
   rintro ((hz|hz)|hz)
   ·exact q2 hz
   ·omega
   ·omega
  ·rw[q3P e] at hj
   obtain ⟨q1,q2⟩:=old k (by omega) j hj
   rintro ((hz|hz)|hz)
   ·exact q2 hz
   ·omega
   ·omega
 ·by_cases e:i=m
  ·subst e
   rw[q5c] at hj
   rw[q3P (fun e=>hik e.symm)]
   intro hd
   have:=(hN.c j hj).1
   have:=(old k (by omega) j hd).1
   omega
  ·rw[q3P e] at hj
   by_cases e':k=m
   ·subst e'
    rw[q5c]
    intro hd
    have hjn:=(old i (by omega) j (sub i (by omega) j hj)).1
    obtain ⟨b,hb,hbF⟩:=h.ce i (by omega) j hj
    have:=hN.d j hd hjn b (x1.get hb)
    rw[this] at hbF
    cases hbF
   ·rw[q3P e']
    exact h.ds.cd i k (Nat.zero_le _) (by omega) (Nat.zero_le _) (by omega) hik j hj
 ·by_cases e:k=m
  ·subst e
   rw[q5c] at hj
   have:=(hN.c j hj).1
   omega
  ·rw[q3P e] at hj
   exact h.ds.cb k (Nat.zero_le _) (by omega) j hj
 ·by_cases e:k=m
  ·subst e
   rw[q5c,q5c,q5c]
   refine (mkK (by omega) r).keep hr (by omega) fun j hj=>?_
   obtain ⟨q1,q2⟩:=newD j hj
   rw[keep j (by omega) q2,(x2.trans x3).2 j q1]
  ·rw[q3P e,q3P e,q3P e]
   refine (mkK (by omega) (rv k)).keep (h.ds.ma k (Nat.zero_le _) (by omega)) (by omega) fun j hj=>?_
   obtain ⟨q1,q2⟩:=old k (by omega) j hj
   rw[keep j (by omega) q2,x03.2 j q1]
 ·by_cases e:j=d
  ·subst e
   exact ⟨_,g7,rfl⟩
  rw[k7 j e]
  rcases hj with (hj|hj)|hj
  ·obtain ⟨b,hb,hbF⟩:=h.ze j hj
   obtain ⟨b',p1,_,p2,_⟩:=((q1l a1).trans (q1l c1)).2 j b (x03.get hb)
   exact ⟨b',p1,by rw[p2];exact hbF⟩
  ·subst hj
   obtain ⟨b',p1,_,p2,_⟩:=(q1l c1).2 _ _ a6
   exact ⟨b',p1,by rw[p2,a7];decide⟩
  ·subst hj
   exact ⟨_,c6,by rw[c7];decide⟩
 ·by_cases e:k=m
  ·subst e
   rw[q5c] at hj
   obtain ⟨q0,b,hb,hbF⟩:=hN.c j hj
   obtain ⟨q1,q2⟩:=newD j (subm j hj)
   exact ⟨b,by rw[keep j (by omega) q2,(x2.trans x3).2 j q1];exact hb,hbF⟩
  ·rw[q3P e] at hj
   obtain ⟨b,hb,hbF⟩:=h.ce k (by omega) j hj
   obtain ⟨q1,q2⟩:=old k (by omega) j (sub k (by omega) j hj)
   exact ⟨b,by rw[keep j (by omega) q2,x03.2 j q1];exact hb,hbF⟩
 ·have hl:=q0a.lt_of_get h.nb.1
  rw[keep nb (by omega) h.nb.2,x03.2 nb hl]
  exact h.nb.1
 ·have hl:=q0a.lt_of_get h.nb.1
  rcases hz with (hz|hz)|hz
  ·exact h.nb.2 hz
  ·omega
  ·omega
 ·have:=h.ext.1
  rw[keep j (by omega) (fun hz=>by have:=zb j hz;omega),x03.2 j (by omega),h.ext.2 j hj]
theorem v_mc2 {H:q0a} {r:Value} (h1:one r=true):q0D 55 1 1 [.nilIface] [(0,1,r)] H=some (.slice (some ⟨H.n,0,none⟩) 1 2,H.push ⟨[r],55,.tip,0,[]⟩):=by
 have hc:r.cells.toList=[r]:=by cases r<;>simp[one] at h1<;>rfl
 rw[z5I (by simp[q3S,hc];cases r<;>simp[one] at h1<;>rfl)]
 simp[lay,q3T,hc]
theorem v_cp1 {H:q0a}:q0D 46 1 1 [.complex .f64 0 0] [(0,1,.complex .f64 0 0)] H=some (.slice (some ⟨H.n,0,none⟩) 1 2,H.push ⟨[.complex .f64 0 0],46,.tip,0,[]⟩):=rfl
theorem v_det {H:q0a}:q2l [.slice none 0 0,.slice none 0 0] [] H=some (.agg ⟨[.slice none 0 0,.slice none 0 0]⟩,H):=rfl
theorem j3c {H:q0a}:vBox (.agg ⟨[.slice none 0 0,.slice none 0 0]⟩) 83 H=some (.pointer (some ⟨H.n,0,none⟩),H.push ⟨[.slice none 0 0,.slice none 0 0],83,.tip,0,[]⟩):=rfl
def PNw (HB:q0a) (d:Nat) (y:AEx) (e':Env) (H':q0a):Prop:=y=.exit 0∧eget e' 1=.pointer (some ⟨d,0,none⟩)∧∃rv Z vr vf,DX HB d rv Z (fun _=>[]) vr vf H'
theorem l_N0 {HB:q0a} {d nb:Nat}:∀(r k:Nat) (H:q0a) (rv:Nat→Value) (C D:Nat→NS) (Z:NS) (vr vf:Value),k+r=8→NI HB k H d nb rv C D Z vr vf →
  Out (run Tryz.prog (tabF tab) om1 (.loop [1,8,9,10] q4O) [(1,.pointer (some ⟨d,0,none⟩)),(8,.slice (some ⟨nb,0,none⟩) 8 9),(9,.int .i64 8),(10,.int .i64 k)] H) (PNw HB d):=by
 intro r
 induction r with
 | zero=>
  intro k H rv C D Z vr vf hk h
  obtain rfl:k=8:=by omega
  have zz:((8:Int)<8)=False:=by simp
  rw[q0d q4O.eq_1]
  simp only[WA,Nat.reduceEqDiff,Int.cast_ofNat_Int,zz]
  refine ⟨rfl,rfl,rv,Z,vr,vf,⟨C,D,h.ds.congr (fun _ _=>rfl) fun i _=>?_⟩,h.ext⟩
  unfold fpK
  rw[j0x]
  first|done|rfl
 | succ r ih=>
  intro k H rv C D Z vr vf hk h
  have hlt:((k:Int)<8)=True:=eq_true (by omega)
  have hnb:=h.nb.1
  obtain ⟨_,H1,c1,q,Cm,Dm,rfl,hone,hr,hN⟩:=mkD (k:=k) (by omega) H
  obtain ⟨ver,vr',vf',H2,H3,H4,H5,H6,H7,hH2,hH3,g1,g3,g5,a1,g4r,g4c,a2,g5r,g5c,s6,g6,s7,h7⟩:=h.step (by omega) hr hN hone
  rw[g1] at g3 g5
  have ir:∀(H9:q0a),q2E (.slice (some ⟨nb,0,none⟩) 8 9) (.int .i64 (k:Int)) 1 H9=some (.pointer (some ⟨nb,k,none⟩),H9):=fun H9=>by
   rw[q4z ⟨by omega,by omega⟩,Nat.zero_add,Int.toNat_natCast,Nat.mul_one]
  have ln:∀H9:q0a,q0l (some ⟨nmL,9,.tip,0,[]⟩) k none H9=some (.string (nm k),H9):=fun H9=>by
   rw[q3d q0n,k7W (by omega)]
   rfl
  have vm:=v_mc2 (H:=H1) hone
  rw[←hH2] at vm
  have hw2:IntKind.i64.wrap ((k:Int)+1)=((k+1:Nat):Int):=by rw[q0k (by omega) (by omega)];omega
  obtain ⟨y,e',H',r1,r2⟩:=ih (k+1) H7 _ _ _ _ vr' vf' (by omega) h7
  rw[q0d q4O.eq_1]
  simp only[WA,q0M,q1b,isK,q1w,q1y,Nat.reduceEqDiff,hlt,ir,hnb,ln,c1,g1,vm,v_cp1,←hH3,a1,g4r,g4c,a2,g5r,g5c,g5,s6,g6,s7,hw2]
  rw[q0e]
  simp only[WA,Nat.reduceEqDiff,r1]
  exact r2
theorem j3d {HB:q0a}:q0p (cw Tryz.prog (tabF tab) om1 13 [] HB) fun v H'=>∃d rv Z vr vf,v=.pointer (some ⟨d,0,none⟩)∧DX HB d rv Z (fun _=>[]) vr vf H':=by
 rw[q0g (F:=q6i) rfl rfl rfl]
 unfold q6i k0Y
 obtain ⟨H1,hH1⟩:∃H1,H1=HB.push ⟨[.slice none 0 0,.slice none 0 0],83,.tip,0,[]⟩:=⟨_,rfl⟩
 have x1:Ext HB H1:=by rw[hH1];exact Ext.push HB _
 have g1:H1.get HB.n=some ⟨[.slice none 0 0,.slice none 0 0],83,.tip,0,[]⟩:=by rw[hH1];exact q0b
 have cn:=k5Y H1
 obtain ⟨H2,hH2⟩:∃H2,H2=H1.push ⟨nmL,9,.tip,0,[]⟩:=⟨_,rfl⟩
 have x2:Ext H1 H2:=by rw[hH2];exact Ext.push H1 _
 have g2:H2.get H1.n=some ⟨nmL,9,.tip,0,[]⟩:=by rw[hH2];exact q0b
 rw[←hH2] at cn
 have g12:=x2.get g1
 have n1:H1.n=HB.n+1:=by rw[hH1];simp
 have hbl:=q0a.lt_of_get g12
 have h0:NI HB 0 H2 HB.n H1.n (fun _=>.nilIface) (fun _ _=>False) (fun _ _=>False) (fun j=>j=HB.n) (.slice none 0 0) (.slice none 0 0):=by
  refine ⟨⟨⟨0,g12⟩,Gr.nil,Gr.nil,rfl,fun j hj=>?_,fun k _ hk=>by omega,fun i k _ hi=>by omega,fun k _ hk=>by omega,fun k _ hk=>by omega⟩,fun j hj=>?_,fun k hk=>by omega,⟨g2,by omega⟩,x1.trans x2⟩
  ·subst hj
   exact ⟨Nat.le_refl _,hbl⟩
  ·subst hj
   exact ⟨_,g12,rfl⟩
 obtain ⟨y,e',H',r1,rfl,s1,rv,Z,vr,vf,q⟩:=l_N0 8 0 H2 _ _ _ _ _ _ (by omega) h0
 rw[show ((0:Nat):Int)=0 from rfl] at r1
 simp only[WA,Nat.reduceEqDiff,reduceCtorEq,Int.cast_ofNat_Int,v_det,j3c,←hH1,cn]
 rw[q0e]
 simp only[WA,Nat.reduceEqDiff,reduceCtorEq,r1,s1]
 exact ⟨_,rv,Z,vr,vf,rfl,q⟩
theorem c_B1 {c:Int} {H:q0a}:cw Tryz.prog (tabF tab) om1 38 [.int .u8 c] H=some (.bool (decide (c>127)),H):=by
 rw[q0g (F:=q4d) rfl rfl rfl]
 unfold q4d q7T
 simp only[WA,Nat.reduceEqDiff,reduceCtorEq]
def anyH (l:List Int):Bool:=l.any fun u=>decide (u>127)
def PIF (l:List Int) (H0:q0a) (y:AEx) (e':Env) (H':q0a):Prop:=H'=H0∧((y=.exit 0∧anyH l=false)∨(y=.ret∧anyH l=true∧∃i:Nat,eget e' 4=.int .i64 i))
theorem l_IF {x:Value} {l:List Int} {H:q0a} (hx:Nums H .u8 x l) (hl:l.length<1000000):∀(r k:Nat),k+r=l.length →
  Out (run Tryz.prog (tabF tab) om1 (.loop [0,1,7,8] q0L) [(0,x),(1,.func (.func 38) ⟨[]⟩ ⟨[]⟩),(7,.int .i64 l.length),(8,.int .i64 k)] H) (PIF (l.drop k) H):=by
 intro r
 induction r with
 | zero=>
  intro k hk
  obtain rfl:k=l.length:=by omega
  have zz:(((l.length:Nat):Int)<(l.length:Nat))=False:=by simp
  rw[q0d q0L.eq_1]
  simp only[WA,Nat.reduceEqDiff,reduceCtorEq,zz]
  exact ⟨rfl,.inl ⟨rfl,by rw[List.drop_of_length_le (Nat.le_refl _)];rfl⟩⟩
 | succ r ih=>
  intro k hk
  have hlt:((k:Int)<(l.length:Nat))=True:=eq_true (by omega)
  obtain ⟨u,hu,hd⟩:=q0z (L:=l) (i:=k) (by omega)
  obtain ⟨i,o,a1,a2⟩:=Nums.at hx hu
  have hw2:IntKind.i64.wrap ((k:Int)+1)=((k+1:Nat):Int):=by rw[q0k (by omega) (by omega)];omega
  rw[q0d q0L.eq_1,hd]
  by_cases hu7:u>127
  ·have c1:=c_B1 (c:=u) (H:=H)
   rw[decide_eq_true hu7] at c1
   simp only[WA,Nat.reduceEqDiff,reduceCtorEq,hlt,a1,a2,c1]
   refine ⟨rfl,.inr ⟨rfl,?_,k,rfl⟩⟩
   unfold anyH
   rw[List.any_cons,decide_eq_true hu7]
   rfl
  ·have c1:=c_B1 (c:=u) (H:=H)
   rw[decide_eq_false hu7] at c1
   obtain ⟨y,e',H',r1,r2⟩:=ih (k+1) (by omega)
   have e:anyH (u::l.drop (k+1))=anyH (l.drop (k+1)):=by
    unfold anyH
    rw[List.any_cons,decide_eq_false hu7]
    rfl
   simp only[WA,Nat.reduceEqDiff,reduceCtorEq,hlt,a1,a2,c1,hw2]
   rw[q0e]
   simp only[WA,Nat.reduceEqDiff,reduceCtorEq,r1]
   unfold PIF
   rw[e]
   exact r2
theorem j3e {x:Value} {l:List Int} {H:q0a} (hx:Nums H .u8 x l) (hl:l.length<1000000):cw Tryz.prog (tabF tab) om1 37 [x,.func (.func 38) ⟨[]⟩ ⟨[]⟩] H=some (.bool (anyH l),H):=by
 have hI:∃i:Int,cw Tryz.prog (tabF tab) om1 58 [x,.func (.func 38) ⟨[]⟩ ⟨[]⟩] H=some (.int .i64 i,H)∧decide (i≥0)=anyH l:=by
  rw[q0g (F:=q0T) rfl rfl rfl]
  unfold q0T q2B
  have lx:=fun H9=>Nums.len (H2:=H9) hx
  obtain ⟨y,e',H',r1,rfl,h⟩:=l_IF hx hl l.length 0 (by omega)
  rw[show ((0:Nat):Int)=0 from rfl] at r1
  rw[List.drop_zero] at h
  rcases h with ⟨rfl,h⟩|⟨rfl,h,i,hi⟩
  ·refine ⟨-1,?_,by rw[h];rfl⟩
   simp only[WA,Nat.reduceEqDiff,reduceCtorEq,lx]
   rw[q0e]
   simp only[WA,Nat.reduceEqDiff,reduceCtorEq,r1]
  ·refine ⟨i,?_,by rw[h];exact decide_eq_true (by omega)⟩
   simp only[WA,Nat.reduceEqDiff,reduceCtorEq,lx]
   rw[q0e]
   simp only[WA,Nat.reduceEqDiff,reduceCtorEq,r1,hi]
 obtain ⟨i,c1,hi⟩:=hI
 rw[q0g (F:=q0H) rfl rfl rfl]
 unfold q0H q1Z
 simp only[WA,Nat.reduceEqDiff,reduceCtorEq,c1,hi]
def b0 (xs:List Int):Nat:=((best xs).headD (0,(0,0))).1
theorem k6b (xs:List Int):(best xs).length=8:=by unfold best;rw[z5i,z5n]
theorem z8H (xs:List Int):∃z,(best xs)[0]?=some (b0 xs,z):=by
 have h:=k6b xs
 unfold b0
 cases hb:best xs with
 | nil=>rw[hb] at h;cases h
 | cons r R=>exact ⟨r.2,rfl⟩
def ascN:ByteArray:=⟨#[97,115,99,105,105]⟩
theorem j3f {x:Value} {l:List Int} {H:q0a} (hx:Nums H .u8 x l) (hb:∀u∈l,0≤u∧u<256) (hl:l.length<700):q0p (cw Tryz.prog (tabF tab) om1 16 [x] H) fun v H'=>Ext H H'∧v=.string (if anyH l=true then nm (b0 l) else ascN):=by
 rw[q0g (F:=q5y) rfl rfl rfl]
 unfold q5y q9T
 have cc:=j3e hx (by omega)
 cases ha:anyH l with
 | false=>
  rw[ha] at cc
  rw[if_neg (by decide)]
  simp only[WA,Nat.reduceEqDiff,reduceCtorEq,cc]
  exact ⟨Ext.refl H,rfl⟩
 | true=>
  rw[ha] at cc
  rw[if_pos rfl]
  obtain ⟨_,H1,c1,d,rv,Z,vr,vf,rfl,h1⟩:=j3d (HB:=H)
  obtain ⟨_,H2,c2,rfl,h2⟩:=z5g (xs:=[]) hx (fun u hu=>by cases hu) hb (by simpa using hl) h1
  rw[List.nil_append] at h2
  obtain ⟨v,H3,c3,x3,o3⟩:=z8G hb hl h2
  obtain ⟨z,hz⟩:=z8H l
  obtain ⟨i,o,row,a1,a2,_,_,hq⟩:=o3.rws.at hz
  have hq:row=[.string (nm (b0 l)),cv z]:=hq
  subst hq
  have a2:=a2 _ rfl
  have a1:=a1 .i64
  rw[show ((0:Nat):Int)=0 from rfl] at a1
  simp only[WA,Nat.reduceEqDiff,reduceCtorEq,cc,c1,c2,c3,a1,a2]
  exact x3
end Go.Proofs.YtleiinhaljdcoaaGreatDoor
