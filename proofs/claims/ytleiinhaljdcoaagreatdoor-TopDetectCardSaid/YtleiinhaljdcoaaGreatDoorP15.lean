/- What is proved here: what the program's functions come to, as far as the claimed statement asks. Conditions: those that each theorem names, and no others. -/
import Derived.Test.YtleiinhaljdcoaaGreatDoorP14
set_option linter.unusedSimpArgs false
set_option linter.unusedVariables false
namespace Go.Proofs.YtleiinhaljdcoaaGreatDoor
open Go Lon
set_option maxRecDepth 100000
theorem z8r {H:q0a} {i ver:Nat} {el:TypeId} {a b c x:Value} (h1:one x=true):q0u (some ⟨[a,b,c],el,.tip,ver,[]⟩) i 2 x 1 H=some (.tuple ⟨[]⟩,H.upd i ⟨[a,b,x],el,.tip,ver+1,[]⟩):=by
 have hc:=k9g h1
 have:=q0x (H:=H) (cells:=[a,b,c]) (el:=el) (ver:=ver) (anc:=[]) (i:=i) (o:=2) (n:=1) (v:=x) (by rw[hc];rfl) (by rw[hc];simp[h1]) (by simp)
 rw[this,hc]
 rfl
theorem z4K {L:List Rl} {ah:List Int} {x:Tok} (h:(joinT L ah x).err=0):joinT L ah x=x:=by
 unfold joinT at h ⊢
 split at h
 ·cases h
 ·rename_i hc
  rw[if_neg hc]
def jnF (L:List Rl):List Int→List Tok→List Tok×List Int
 | ah,[]=>([],ah)
 | ah,x::T=>(joinT L ah x::(jnF L (if (joinT L ah x).err=0 then x.out else ah) T).1,(jnF L (if (joinT L ah x).err=0 then x.out else ah) T).2)
theorem k9h {L:List Rl}:∀(T:List Tok) (ah:List Int),(jnF L ah T).1.length=T.length
 | [],ah=>rfl
 | x::T,ah=>by unfold jnF;simp[k9h T]
theorem k1D {L:List Rl} {ah:List Int} {x:Tok} {T:List Tok}:jnF L ah (x::T)=(joinT L ah x::(jnF L (if (joinT L ah x).err=0 then x.out else ah) T).1,(jnF L (if (joinT L ah x).err=0 then x.out else ah) T).2):=rfl
theorem z1j {L:List Rl}:∀(T:List Tok) (ah:List Int) (x:Tok),jnF L ah (T++[x])=((jnF L ah T).1++[joinT L (jnF L ah T).2 x],if (joinT L (jnF L ah T).2 x).err=0 then x.out else (jnF L ah T).2)
 | [],ah,x=>rfl
 | y::T,ah,x=>by
  rw[List.cons_append,k1D,k1D,z1j T]
  rfl
theorem z4L {L:List Rl} {n:Nat}:∀(T:List Tok) (ah:List Int),ah.length≤n→(∀x∈T,x.out.length≤n)→(jnF L ah T).2.length≤n
 | [],ah,h,_=>h
 | x::T,ah,h,hT=>by
  rw[k1D]
  refine z4L T _ ?_ fun y hy=>hT y (List.mem_cons_of_mem _ hy)
  split
  ·exact hT x (List.mem_cons_self ..)
  ·exact h
def VA (H:q0a) (va:Value) (ah:List Int):Prop:=(ah=[]∧va=.slice none 0 0)∨(ah≠[]∧Ints H va ah∧Cut Tryz.prog H va 1)
theorem VA.ints {H:q0a} {va:Value} {ah:List Int} (h:VA H va ah):Ints H va ah:=by
 rcases h with ⟨rfl,rfl⟩|⟨_,h,_⟩
 ·exact Sl.nil _ 1
 ·exact h
theorem VA.move {H H':q0a} {va:Value} {ah:List Int} (h:VA H va ah) (f:Ints H va ah→Cut Tryz.prog H va 1→Ints H' va ah∧Cut Tryz.prog H' va 1):VA H' va ah:=by
 rcases h with h|⟨h0,h1,h2⟩
 ·exact .inl h
 ·exact .inr ⟨h0,(f h1 h2).1,(f h1 h2).2⟩
structure JT (e B m q:Nat) (v:Value) (H0 H:q0a) (T:List Tok) (va0:Value) (ah:List Int):Prop where
 he:∃va ver,H.get e=some ⟨[.pointer (some ⟨m,0,none⟩),.pointer (some ⟨q,0,none⟩),va],150,.tip,ver,[]⟩∧VA H va ah∧(va=va0∨From B va)
 ht:q2R B H v T
 ha:AncB B H 36 v
 hn:H0.n≤H.n
 hl:∀j,j<B→j≠e→H.get j=H0.get j
 hk:∀j b,H0.get j=some b→b.elem≠36→j≠e→H.get j=some b
def PJN (e B m q:Nat) (v:Value) (H0:q0a) (va0:Value) (z:List Tok×List Int) (y:AEx) (e':Env) (H':q0a):Prop:=y=.exit 0∧eget e' 1=v∧JT e B m q v H0 H' z.1 va0 z.2
theorem j2G {e B m q:Nat} {L:List Rl} {v va0:Value} {H0:q0a} {T:List Tok} {ah0:List Int} (hTb:q1K H0 q L) (hf:From B v) (heB:e<B) (hBn:B≤H0.n) (hTl:T.length<1000000) (hge:∃b,H0.get e=some b∧b.elem=150) (hah:ah0.length≤8) (hT8:∀x∈T,x.out.length≤8) (hTn:∀x∈T,x.err=0→x.out≠[]):∀(c k:Nat) (H:q0a),k+c=T.length→JT e B m q v H0 H ((jnF L ah0 (T.take k)).1++T.drop k) va0 (jnF L ah0 (T.take k)).2 →
  Out (run Tryz.prog (tabF tab) om1 (.loop [0,1,7,8,9] q0W) [(0,.pointer (some ⟨e,0,none⟩)),(1,v),(7,v),(8,.int .i64 T.length),(9,.int .i64 k)] H) (PJN e B m q v H0 va0 (jnF L ah0 T)):=by
 intro c
 induction c with
 | zero=>
  intro k H hk h
  obtain rfl:k=T.length:=by omega
  have zz:(((T.length:Nat):Int)<(T.length:Nat))=False:=by simp
  rw[List.take_of_length_le (Nat.le_refl _),List.drop_of_length_le (Nat.le_refl _),List.append_nil] at h
  rw[q0d q0W.eq_1]
  simp only[WA,Nat.reduceEqDiff,reduceCtorEq,zz]
  exact ⟨rfl,rfl,h⟩
 | succ c ih=>
  intro k H hk h
  have hlt:((k:Int)<(T.length:Nat))=True:=eq_true (by omega)
  obtain ⟨x,hxk,hdx⟩:=q0z (L:=T) (i:=k) (by omega)
  have hx8:=hT8 x (List.mem_of_getElem? hxk)
  obtain ⟨ah,hah'⟩:∃ah,(jnF L ah0 (T.take k)).2=ah:=⟨_,rfl⟩
  obtain ⟨D,hD⟩:∃D,(jnF L ah0 (T.take k)).1=D:=⟨_,rfl⟩
  have hDl:D.length=k:=by rw[←hD,k9h,List.length_take];omega
  have ha8:ah.length≤8:=by rw[←hah'];exact z4L _ _ hah fun y hy=>hT8 y (List.mem_of_mem_take hy)
  have ht1:T.take (k+1)=T.take k++[x]:=by rw[List.take_add_one,hxk];rfl
  have hj1:jnF L ah0 (T.take (k+1))=(D++[joinT L ah x],if (joinT L ah x).err=0 then x.out else ah):=by rw[ht1,z1j,hah',hD]
  rw[hah',hD,hdx] at h
  obtain ⟨⟨va,ver,ge,iva,fva⟩,ht,hA,hn,hl,hkk⟩:=h
  have hxn:=hTn x (List.mem_of_getElem? hxk)
  have hgk:(D++x::T.drop (k+1))[k]?=some x:=by rw[List.getElem?_append_right (by omega),hDl,Nat.sub_self];rfl
  obtain ⟨i1,o1,row,a1,_,_,a6,⟨p,cc,hrow,a7,a8,a9⟩,a10⟩:=ht.rws.at hgk
  have hrow:row=tokC p cc x:=hrow
  subst hrow
  obtain ⟨H1,hH1⟩:∃H1,H1=H.push ⟨tokC p cc x,36,.tip,1,[]⟩:=⟨_,rfl⟩
  have x1:Ext H H1:=by rw[hH1];exact Ext.push H _
  have g1:H1.get H.n=some ⟨tokC p cc x,36,.tip,1,[]⟩:=by rw[hH1];exact q0b
  have ge1:=x1.get ge
  have hnE:∀j b,H0.get j=some b→isF b.elem=true→H.get j=some b:=fun j b hj hb=>hkk j b hj (fun e9=>by rw[e9] at hb;exact absurd hb (by decide)) (fun e9=>by
   subst e9
   obtain ⟨b',hb',he'⟩:=hge
   rw[hj] at hb'
   injection hb' with hb'
   subst hb'
   rw[he'] at hb
   exact absurd hb (by decide))
  have hTH:q1K H q L:=hTb.keep (fun j b hj he=>hnE j b hj (by unfold isF;rw[he];rfl)) fun j b hj he=>hnE j b hj (by rw[he];decide)
  obtain ⟨v2,H2,c2,x2,p',c',rfl,f2,t2⟩:=z9K (hTH.ext x1) (iva.ints.ext x1) ⟨p,cc,rfl,a7.ext x1,a8,a9.ext x1⟩ (by omega) (by omega)
  have x12:=x1.trans x2
  have g2:=x2.get g1
  have ge2:=x2.get ge1
  obtain ⟨b,b1,H3,b2,b3,b4,b5,b6,b7,b8,b9,b10⟩:=(ht.ext q3g x12).storeRow hf (hA.ext x12) hgk (by decide) (new:=tokC p' c' (joinT L ah x)) rfl k5L (z4F B H2)
  have hq:=b10 (joinT L ah x) (z4F B H2 H3 _ _ b5 (k3c t2 (f2 B (a10 p _ cc rfl))))
  have hset:(D++x::T.drop (k+1)).set k (joinT L ah x)=(D++[joinT L ah x])++T.drop (k+1):=by
   rw[List.set_append_right _ _ (by omega),hDl,Nat.sub_self,List.append_assoc]
   rfl
  rw[hset] at hq
  have hsame:=(a1 .i64 H).symm.trans (b1 .i64 H)
  injection hsame with hsame
  injection hsame with hsame _
  injection hsame with hsame
  injection hsame with hsame
  injection hsame with hs1 hs2 _
  subst hs1 hs2
  have g3:H3.get H.n=some ⟨tokC p cc x,36,.tip,1,[]⟩:=by rw[b6 H.n H.n ht.upto (Nat.le_refl _)];exact g2
  have ge3:H3.get e=some ⟨[.pointer (some ⟨m,0,none⟩),.pointer (some ⟨q,0,none⟩),va],150,.tip,ver,[]⟩:=b5 _ _ ge2 (by simp only;decide)
  have b9':=b9 3 _ tk3
  have hw2:IntKind.i64.wrap ((k:Int)+1)=((k+1:Nat):Int):=by rw[q0k (by omega) (by omega)];omega
  have hel4:(Tryz.prog.info? 36).map (·.size)=some 4:=by kernel_rfl
  have x12n:=x12.1
  have hl3:∀j,j<B→j≠e→H3.get j=H0.get j:=fun j hj hje=>by rw[b4 j hj,x12.2 j (by omega),hl j hj hje]
  have hk3:∀j b,H0.get j=some b→b.elem≠36→j≠e→H3.get j=some b:=fun j b hj he hje=>b5 j b (x12.get (hkk j b hj he hje)) he
  by_cases hz:(joinT L ah x).err=0
  ·have zz:((joinT L ah x).err=0)=True:=eq_true hz
   have st4:=z8r (H:=H3) (i:=e) (ver:=ver) (el:=150) (a:=.pointer (some ⟨m,0,none⟩)) (b:=.pointer (some ⟨q,0,none⟩)) (c:=va) (x:=.slice p x.out.length cc) rfl
   obtain ⟨H4,hH4⟩:∃H4,H4=H3.upd e ⟨[.pointer (some ⟨m,0,none⟩),.pointer (some ⟨q,0,none⟩),.slice p x.out.length cc],150,.tip,ver+1,[]⟩:=⟨_,rfl⟩
   rw[←hH4] at st4
   have g4:H4.get e=some ⟨[.pointer (some ⟨m,0,none⟩),.pointer (some ⟨q,0,none⟩),.slice p x.out.length cc],150,.tip,ver+1,[]⟩:=by rw[hH4];exact q0r ge3
   have k4:∀j b,H3.get j=some b→b.elem≠150→H4.get j=some b:=fun j b hj he=>by
    rw[hH4,q0j ge3 (fun e1=>by subst e1;rw[ge3] at hj;injection hj with hj;subst hj;exact he rfl)]
    exact hj
   have n4:H4.n=H3.n:=by rw[hH4];simp
   have helE:(Tryz.prog.info? 150).map (·.size)=some 3:=by kernel_rfl
   obtain ⟨u3,u4⟩:=(a7.ext x12).elem (P:=Tryz.prog) (a9.ext x12) hel4 (by decide) b5
   obtain ⟨u5,u6⟩:=u3.elem (P:=Tryz.prog) u4 helE (by decide) k4
   have hq4:q2R B H4 v ((D++[joinT L ah x])++T.drop (k+1)):=by
    obtain ⟨q0,cs,q1,q2⟩:=hq
    exact ⟨q0,cs,q1.move fun i b hi he=>k4 i b hi (by rw[he];decide),fun k r hr=>q6M helE (by decide) k4 (q2 k r hr)⟩
   have hA4:AncB B H4 36 v:=b7.move (by rw[hH4];exact q0B.upd ge3 (Nat.le_succ _) rfl (fun e=>by simp only at e;omega)) fun i b hi hna=>by
    obtain ⟨_,cs,q1,_⟩:=hq
    obtain ⟨b',hb',he⟩:=q3E q1 hna
    rw[hi] at hb'
    injection hb' with hb'
    subst hb'
    exact k4 i b hi (by rw[he];decide)
   obtain ⟨y,e',H',r1,r2⟩:=ih (k+1) H4 (by omega) (by
    rw[hj1,if_pos hz]
    exact ⟨⟨_,_,g4,.inr ⟨hxn (by rw[←z4K hz];exact hz),u5,u6⟩,.inr (a10 p _ cc rfl)⟩,hq4,hA4,by omega,fun j hj hje=>by rw[hH4,q0j ge3 hje,hl3 j hj hje],fun j b hj he hje=>by rw[hH4,q0j ge3 hje];exact hk3 j b hj he hje⟩)
   rw[q0d q0W.eq_1]
   simp only[WA,q0M,q1b,q1w,q1y,Nat.reduceEqDiff,reduceCtorEq,hlt,a1,a6,q1F,←hH1,g1,ge1,k1e,c2,b2,b9',zz,g2,ge2,g3,tk2,ge3,st4,hw2]
   rw[q0e]
   simp only[WA,Nat.reduceEqDiff,reduceCtorEq,r1]
   exact r2
  ·have zz:((joinT L ah x).err=0)=False:=eq_false hz
   have v1:=iva.move fun h1 h2=>(h1.ext x12).elem (P:=Tryz.prog) (h2.ext x12) hel4 (by decide) b5
   obtain ⟨y,e',H',r1,r2⟩:=ih (k+1) H3 (by omega) (by
    rw[hj1,if_neg hz]
    exact ⟨⟨va,ver,ge3,v1,fva⟩,hq,b7,by omega,hl3,hk3⟩)
   rw[q0d q0W.eq_1]
   simp only[WA,q0M,q1b,q1w,q1y,Nat.reduceEqDiff,reduceCtorEq,hlt,a1,a6,q1F,←hH1,g1,ge1,k1e,c2,b2,b9',zz,g2,ge2,hw2]
   rw[q0e]
   simp only[WA,Nat.reduceEqDiff,reduceCtorEq,r1]
   exact r2
theorem j2H {e B m q ver:Nat} {L:List Rl} {v va:Value} {H:q0a} {T:List Tok} {ah:List Int} (hTb:q1K H q L) (hf:From B v) (heB:e<B) (hBn:B≤H.n) (hTl:T.length<1000000) (hg:H.get e=some ⟨[.pointer (some ⟨m,0,none⟩),.pointer (some ⟨q,0,none⟩),va],150,.tip,ver,[]⟩) (hva:VA H va ah) (hah:ah.length≤8) (hT8:∀x∈T,x.out.length≤8) (hTn:∀x∈T,x.err=0→x.out≠[]) (ht:q2R B H v T) (ha:AncB B H 36 v) :
  q0p (cw Tryz.prog (tabF tab) om1 181 [.pointer (some ⟨e,0,none⟩),v] H) fun w H'=>w=v∧JT e B m q v H H' (jnF L ah T).1 va (jnF L ah T).2:=by
 rw[q0g (F:=q1B) rfl rfl rfl]
 unfold q1B q4b
 have hw:=fun H9=>Rws.len (H2:=H9) ht.rws
 obtain ⟨y,e',H',r1,rfl,r2,r3⟩:=j2G (H0:=H) (T:=T) (ah0:=ah) (va0:=va) hTb hf heB hBn hTl ⟨_,hg,rfl⟩ hah hT8 hTn T.length 0 H (by omega) ⟨⟨va,ver,hg,hva,.inl rfl⟩,ht,ha,Nat.le_refl _,fun _ _ _=>rfl,fun j b hj _ _=>hj⟩
 rw[show ((0:Nat):Int)=0 from rfl] at r1
 simp only[WA,Nat.reduceEqDiff,reduceCtorEq,hw]
 rw[q0e]
 simp only[WA,Nat.reduceEqDiff,reduceCtorEq,r1,r2]
 exact r3
theorem z6M {k m t i:Nat} {Hs H H1 H2:q0a} {C0 D0:NS} {L:List Rl} {w w':List Int} {a s a' s':Int} (hX:MX k Hs H m t L w a s C0 D0) (hfr:∀j,D0 j→∃b,H.get j=some b∧b.elem≠36) (r1:MS (cutN H k) H1 m t w' a' s') (r4:Kx H H1) (r5:k7M m H H1) (di:¬D0 i) (hil:i<H.n) (n2:H1.n≤H2.n) (k2:∀j b,H1.get j=some b→b.elem≠36→j≠i→H2.get j=some b) :
  MX k Hs H2 m t L w' a' s' (fun j=>C0 j∨¬NW H1 m j) (fun j=>D0 j∨¬NW H1 m j)∧(∀j,(D0 j∨¬NW H1 m j)→∃b,H2.get j=some b∧b.elem≠36)∧¬(D0 i∨¬NW H1 m i)∧(∀j,¬NW H1 m j→j<H.n→C0 j)∧(∀j,D0 j→¬C0 j→H2.get j=H.get j)∧H1.get i=H.get i:=by
 have hon1:=hX.only r5 r4.1
 have hM1:=hX.of r1 r5 r4.1
 have ci:¬C0 i:=fun h=>di (hX.cd i h)
 have hold:∀j,¬NW H1 m j→j<H.n→C0 j:=fun j hj hl=>hX.old r5 j hl hj
 have D1i:¬(D0 i∨¬NW H1 m i):=fun h=>h.elim di fun h=>ci (hold i h hil)
 have tokf:∀j,(D0 j∨¬NW H1 m j)→∃b,H1.get j=some b∧b.elem≠36:=fun j hj=>by
  rcases hj with hj|hj
  ·obtain ⟨b0,hb0,he0⟩:=hfr j hj
   by_cases hjm:j=m
   ·subst hjm
    obtain ⟨vw,ver9,q1,_⟩:=hM1.hm
    exact ⟨_,q1,by simp only;decide⟩
   ·by_cases hnw:NW H m j
    ·exact ⟨b0,by rw[r5.k j (q0a.lt_of_get hb0) hjm hnw];exact hb0,he0⟩
    ·obtain ⟨vw,ver9,q1,q2,_⟩:=hX.hm
     obtain ⟨b',hb',he⟩:=q3E q2 (fun hx=>hnw (NW.of q1 hx))
     rw[hb0] at hb'
     injection hb' with hb'
     subst hb'
     obtain ⟨_,b1,hb1,he1,_⟩:=r4.2 j b0 hb0 (by rw[he];decide)
     exact ⟨b1,hb1,by rw[he1];exact he0⟩
  ·obtain ⟨vw,ver9,q1,q2,q3⟩:=hM1.hm
   have hj2:¬q0i vw j:=fun hx=>hj (NW.of q1 hx)
   obtain ⟨b',hb',he⟩:=q3E q2 hj2
   exact ⟨b',hb',by rw[he];decide⟩
 have hkeep:∀j,(D0 j∨¬NW H1 m j)→H2.get j=H1.get j:=fun j hj=>by
  have hji:j≠i:=fun e=>D1i (e▸hj)
  obtain ⟨b,hb,he⟩:=tokf j hj
  rw[hb]
  exact k2 j b hb he hji
 exact ⟨hM1.keep n2 hkeep,fun j hj=>by rw[hkeep j hj];exact tokf j hj,D1i,hold,fun j hj hc=>by rw[hkeep j (.inl hj),hon1.2 j (hX.dl j hj) hc],hon1.2 i hil ci⟩
theorem k7P {H:q0a} {x:Value} {m:List Int} (h:Ints H x m) (hm:m≠[]):∃i o c,x=.slice (some ⟨i,o,none⟩) m.length c:=by
 obtain ⟨⟨p,c,rfl⟩,h2⟩:=h
 have hm0:¬(m.length=0):=fun e=>hm (List.length_eq_zero_iff.1 e)
 unfold cellsOf at h2
 split at h2
 ·rename_i hv
  injection hv with _ e2 _
  exact absurd e2 hm0
 ·rename_i i o n' c' hv
  injection hv with e1 e2 e3
  subst e1 e2
  exact ⟨i,o,c,rfl⟩
 ·rename_i hv
  injection hv with _ e2 _
  exact absurd e2 hm0
 ·cases h2
theorem q6O {H H':q0a} {x:Value} {m:List Int} (h:Ints H x m) (hm:m≠[]) (hc:Cut Tryz.prog H x 1) (hk:∀j b,¬q0i x j→H.get j=some b→(Tryz.prog.info? b.elem).map (·.size)=some 1→H'.get j=some b):Ints H' x m∧Cut Tryz.prog H' x 1:=by
 obtain ⟨i,o,c,rfl⟩:=k7P h hm
 obtain ⟨b,hb,hs⟩:=hc
 have hb':=hk i b (fun h=>h rfl) hb hs
 have hm0:¬(m.length=0):=fun e=>hm (List.length_eq_zero_iff.1 e)
 have h4':(if m.length=0 then some [] else match H.get i with
  | some blk=>if blk.st.mem∧o+m.length*1≤blk.cells.length then some ((blk.cells.drop o).take (m.length*1)) else none
  | none=>none)=some (ints m):=h.2
 refine ⟨⟨⟨_,_,rfl⟩,?_⟩,b,hb',hs⟩
 show (if m.length=0 then some [] else match H'.get i with
  | some blk=>if blk.st.mem∧o+m.length*1≤blk.cells.length then some ((blk.cells.drop o).take (m.length*1)) else none
  | none=>none)=some (ints m)
 rw[if_neg hm0] at h4' ⊢
 rw[hb] at h4'
 rw[hb']
 exact h4'
theorem k7Q {e:TypeId} (h:(Tryz.prog.info? e).map (·.size)=some 1):e≠36∧e≠150∧e≠148:=by
 have k1:(Tryz.prog.info? 36).map (·.size)=some 4:=by kernel_rfl
 have k2:(Tryz.prog.info? 150).map (·.size)=some 3:=by kernel_rfl
 have k3:(Tryz.prog.info? 148).map (·.size)=some 4:=by kernel_rfl
 refine ⟨?_,?_,?_⟩<;>intro e1<;>subst e1
 ·rw[k1] at h;cases h
 ·rw[k2] at h;cases h
 ·rw[k3] at h;cases h
abbrev ESt:=MSt×List Int
def REd (L:List Rl) (e n:Nat) (H:q0a) (st:ESt) (C D:NS):Prop:=∃k m q t va ver Hs C0 D0,H.get e=some ⟨[.pointer (some ⟨m,0,none⟩),.pointer (some ⟨q,0,none⟩),va],150,.tip,ver,[]⟩∧MX k Hs H m t (trn L []) st.1.1 st.1.2.1 st.1.2.2 C0 D0∧q1K (cutN Hs k) q L∧(∀j b,j<k→Hs.get j=some b→isF b.elem=true→D0 j∧H.get j=some b)∧VA H va st.2∧(∀j,¬q0i va j→D0 j)∧st.2.length≤8∧Mi (trn L []) n st.1∧¬D0 e∧k≤e∧(∀j,D0 j→∃b,H.get j=some b∧b.elem≠36)∧C=(fun j=>C0 j∨j=e)∧D=fun j=>D0 j∨j=e
section
variable {L:List Rl} {e n:Nat} {H:q0a} {st:ESt} {C D:NS}
theorem REd.keep {H':q0a} (h:REd L e n H st C D) (hn:H.n≤H'.n) (hk:∀j,D j→H'.get j=H.get j):REd L e n H' st C D:=by
 obtain ⟨k,m,q,t,va,ver,Hs,C0,D0,ge,hX,hT,hsn,hva,hvd,h8,hMi,de,ke,hfr,hC,hD⟩:=h
 subst hD
 refine ⟨k,m,q,t,va,ver,Hs,C0,D0,by rw[hk e (.inr rfl)];exact ge,hX.keep hn fun j hj=>hk j (.inl hj),hT,fun j b hj hb he=>⟨(hsn j b hj hb he).1,by rw[hk j (.inl (hsn j b hj hb he).1)];exact (hsn j b hj hb he).2⟩,hva.move fun h1 h2=>?_,hvd,h8,hMi,de,ke,fun j hj=>by rw[hk j (.inl hj)];exact hfr j hj,hC,rfl⟩
 rcases hva with ⟨h3,h4⟩|⟨h3,_⟩
 ·rw[h4,h3]
  exact ⟨Sl.nil _ 1,trivial⟩
 ·exact q6O h1 h3 h2 fun j b hj hb _=>by rw[hk j (.inl (hvd j hj))];exact hb
theorem REd.lt {j:Nat} (h:REd L e n H st C D) (hj:D j):j<H.n:=by
 obtain ⟨k,m,q,t,va,ver,Hs,C0,D0,ge,hX,hT,hsn,hva,hvd,h8,hMi,de,ke,hfr,hC,hD⟩:=h
 subst hD
 rcases hj with hj|rfl
 ·exact hX.dl j hj
 ·exact q0a.lt_of_get ge
theorem REd.sub {j:Nat} (h:REd L e n H st C D) (hj:C j):D j:=by
 obtain ⟨k,m,q,t,va,ver,Hs,C0,D0,ge,hX,hT,hsn,hva,hvd,h8,hMi,de,ke,hfr,hC,hD⟩:=h
 subst hC hD
 exact hj.imp (hX.cd j) id
theorem REd.mono {n':Nat} (h:REd L e n H st C D) (hn:n≤n'):REd L e n' H st C D:=by
 obtain ⟨k,m,q,t,va,ver,Hs,C0,D0,ge,hX,hT,hsn,hva,hvd,h8,hMi,de,ke,hfr,hC,hD⟩:=h
 exact ⟨k,m,q,t,va,ver,Hs,C0,D0,ge,hX,hT,hsn,hva,hvd,h8,hMi.mono hn,de,ke,hfr,hC,hD⟩
theorem REd.tok (h:REd L e n H st C D):∀j b,D j→H.get j=some b→b.elem≠36:=by
 obtain ⟨k,m,q,t,va,ver,Hs,C0,D0,ge,hX,hT,hsn,hva,hvd,h8,hMi,de,ke,hfr,hC,hD⟩:=h
 subst hD
 intro j b hj hb
 rcases hj with hj|rfl
 ·obtain ⟨b',hb',he⟩:=hfr j hj
  rw[hb] at hb'
  injection hb' with hb'
  subst hb'
  exact he
 ·rw[ge] at hb
  injection hb with hb
  subst hb
  simp only
  decide
structure EP (L:List Rl) (e n':Nat) (H H':q0a) (v:Value) (T:List Tok) (st':ESt) (C D:NS):Prop where
 ht:q2R H.n H' v T
 hf:From H.n v
 on:Only C H H'
 rd:Rd (fun _=>False) H H'
 all:∃C' D',REd L e n' H' st' C' D'∧(∀j,j<H.n→C' j→C j)∧∀j,j<H.n→D' j→D j
end
theorem z6N {L:List Rl} (hR:q1a L) {e:Bool} {w:List Int} {a s:Int}:∀x∈(q0G L e w a s).1,x.err=0→x.out≠[]:=fun x hx he hx0=>by
 rcases q4g hR w.length w a s x hx with ⟨h,_⟩|⟨_,_,r,hr,h⟩
 ·rw[he] at h;cases h
 ·have:=(q4Q (hR.1 r hr).2).1
  rw[←h,hx0] at this
  simp at this
theorem z4M {L:List Rl} {e n' k m q t ver:Nat} {va:Value} {Hs H H1:q0a} {C0 D0:NS} {st:ESt} {b:Bool} {w:List Int} {a s:Int} {x:Value} (hR:q1a (trn L [])) (ge:H.get e=some ⟨[.pointer (some ⟨m,0,none⟩),.pointer (some ⟨q,0,none⟩),va],150,.tip,ver,[]⟩) (hX:MX k Hs H m t (trn L []) st.1.1 st.1.2.1 st.1.2.2 C0 D0) (hT:q1K (cutN Hs k) q L) (hsn:∀j b,j<k→Hs.get j=some b→isF b.elem=true→D0 j∧H.get j=some b) (hva:VA H va st.2) (hvd:∀j,¬q0i va j→D0 j) (h8:st.2.length≤8) (de:¬D0 e) (ke:k≤e) (hfr:∀j,D0 j→∃b,H.get j=some b∧b.elem≠36)
  (hw:w.length≤8) (r1:MS (cutN H k) H1 m t (q0G (trn L []) b w a s).2.1 (q0G (trn L []) b w a s).2.2.1 (q0G (trn L []) b w a s).2.2.2) (r3:From H.n x) (r4:Kx H H1) (ra:AncB H.n H1 36 x) (r5:k7M m H H1) (r6:q2R H.n H1 x (q0G (trn L []) b w a s).1) (hMi:Mi (trn L []) n' (q0G (trn L []) b w a s).2) :
  ∃H',cw Tryz.prog (tabF tab) om1 181 [.pointer (some ⟨e,0,none⟩),x] H1=some (x,H')∧H1.get e=some ⟨[.pointer (some ⟨m,0,none⟩),.pointer (some ⟨q,0,none⟩),va],150,.tip,ver,[]⟩∧EP L e n' H H' x (jnF L st.2 (q0G (trn L []) b w a s).1).1 ((q0G (trn L []) b w a s).2,(jnF L st.2 (q0G (trn L []) b w a s).1).2) (fun j=>C0 j∨j=e) (fun j=>D0 j∨j=e):=by
 have hel:=q0a.lt_of_get ge
 have r4n:=r4.1
 have hon1:=hX.only r5 r4.1
 have hTl:(q0G (trn L []) b w a s).1.length≤w.length:=by
  obtain ⟨n,n1,_,_,_,_,n6,_⟩:=q6p hR (e:=b) w.length w a s
  have:(q0G (trn L []) b w a s).1.length≤n:=n6
  omega
 have hT8:∀y∈(q0G (trn L []) b w a s).1,y.out.length≤8:=fun y hy=>by
  rcases q4g hR w.length w a s y hy with ⟨_,h⟩|⟨_,h,_⟩
  ·rw[h];simp
  ·exact h
 have ge1:H1.get e=some ⟨[.pointer (some ⟨m,0,none⟩),.pointer (some ⟨q,0,none⟩),va],150,.tip,ver,[]⟩:=by rw[hon1.2 e hel (fun h=>de (hX.cd e h))];exact ge
 have hlow:∀j b,j<k→Hs.get j=some b→isF b.elem=true→H1.get j=some b:=fun j b hj hb he=>by
  obtain ⟨g1,g2⟩:=hsn j b hj hb he
  rw[hon1.2 j (hX.dl j g1) (fun hc=>by have:=hX.ck j hc;omega)]
  exact g2
 have hTb:q1K H1 q L:=hT.keep (fun j b hj he=>hlow j b (k0H hj) (by rw[q4R hX.ks (k0H hj)] at hj;exact hj) (z6s he)) fun j b hj he=>hlow j b (k0H hj) (by rw[q4R hX.ks (k0H hj)] at hj;exact hj) (by rw[he];decide)
 have hva1:VA H1 va st.2:=hva.move fun h1 h2=>Ints.kx r4 h1 h2
 obtain ⟨v2,H2,c2,rfl,hJ⟩:=j2H (B:=H.n) (T:=(q0G (trn L []) b w a s).1) hTb r3 hel r4.1 (by omega) ge1 hva1 h8 hT8 (z6N hR) r6 ra
 obtain ⟨⟨va',ver',ge2,hva2,hvf⟩,ht2,_,n2,l2,k2⟩:=hJ
 obtain ⟨hM2,hfr2,D1e,hold,hk2,_⟩:=z6M hX hfr r1 r4 r5 de hel n2 k2
 have hon:Only (fun j=>C0 j∨j=e) H H2:=⟨by omega,fun j hj hc=>by rw[l2 j hj (fun h=>hc (.inr h)),hon1.2 j hj (fun h=>hc (.inl h))]⟩
 have hvn:∀j,¬q0i va' j→(∃b,H2.get j=some b∧b.elem≠36∧b.elem≠150):=fun j hj=>by
  rcases hva2 with ⟨_,h⟩|⟨_,h1,h2⟩
  ·rw[h] at hj;exact absurd trivial hj
  ·rename_i h0
   obtain ⟨i9,o9,c9,e9⟩:=k7P h1 h0
   rw[e9] at hj h2
   have hij:i9=j:=Classical.byContradiction fun h=>hj h
   subst hij
   obtain ⟨b9,hb9,hs9⟩:=h2
   exact ⟨b9,hb9,(k7Q hs9).1,(k7Q hs9).2.1⟩
 have hvo:∀j,j<H.n→¬q0i va' j→D0 j:=fun j hj hn=>by
  rcases hvf with rfl|hvf
  ·exact hvd j hn
  ·exact absurd (q0i.of_from hvf hj) hn
 have hM3:=hM2.wide (C':=fun j=>C0 j∨¬NW H1 m j) (D':=fun j=>(D0 j∨¬NW H1 m j)∨¬q0i va' j) (fun _ h=>h) (fun _ h=>.inl h) hM2.ck (fun j h=>.inl (hM2.cd j h)) (fun j h=>h.elim (hM2.dl j) fun h=>by obtain ⟨b9,hb9,_⟩:=hvn j h;exact q0a.lt_of_get hb9)
 have hrd:Rd (fun _=>False) H H2:=⟨fun y m' hm h1 h2 _=>by
  obtain ⟨g1,g2⟩:=(Kx.rd (C:=fun _=>False) r4).1 y m' hm h1 h2 (fun _ h=>absurd h id)
  exact q6O g1 hm g2 fun j b9 _ hb hs=>k2 j b9 hb (k7Q hs).1 (fun h=>by
   subst h
   rw[ge1] at hb
   injection hb with hb
   subst hb
   exact (k7Q hs).2.1 rfl),fun j b9 hj he=>by
  rw[l2 j (q0a.lt_of_get hj) (fun h=>by
   subst h
   rw[ge] at hj
   injection hj with hj
   subst hj
   revert he
   simp only
   decide)]
  exact (Kx.rd (C:=fun _=>False) r4).2 j b9 hj he⟩
 refine ⟨H2,c2,ge1,ht2,r3,hon,hrd,_,_,⟨k,m,q,t,va',ver',Hs,_,_,ge2,hM3,hT,fun j b9 hj hb he=>⟨.inl (.inl (hsn j b9 hj hb he).1),k2 j b9 (hlow j b9 hj hb he) (fun h=>by rw[h] at he;exact absurd he (by decide)) (by omega)⟩,hva2,fun j hj=>.inr hj,z4L _ _ h8 hT8,hMi,fun h=>h.elim D1e fun h=>?_,ke,fun j hj=>?_,rfl,rfl⟩,fun j hj hc=>?_,fun j hj hc=>?_⟩
 ·obtain ⟨b9,hb9,_,hne⟩:=hvn e h
  rw[ge2] at hb9
  injection hb9 with hb9
  subst hb9
  exact hne rfl
 ·rcases hj with hj|hj
  ·exact hfr2 j hj
  ·obtain ⟨b9,hb9,h9,_⟩:=hvn j hj
   exact ⟨b9,hb9,h9⟩
 ·rcases hc with (hc|hc)|hc
  ·exact .inl hc
  ·exact .inl (hold j hc hj)
  ·exact .inr hc
 ·rcases hc with ((hc|hc)|hc)|hc
  ·exact .inl hc
  ·exact .inl (hX.cd j (hold j hc hj))
  ·exact .inl (hvo j hj hc)
  ·exact .inr hc
def esS (L:List Rl) (st:ESt) (u:Int):List Tok×ESt:=((jnF L st.2 (rdS (trn L []) st.1 u).1).1,((rdS (trn L []) st.1 u).2,(jnF L st.2 (rdS (trn L []) st.1 u).1).2))
def efS (L:List Rl) (st:ESt):List Tok×ESt:=((jnF L st.2 (rdF (trn L []) st.1).1).1,((rdF (trn L []) st.1).2,(jnF L st.2 (rdF (trn L []) st.1).1).2))
theorem z4N {L:List Rl} {e n:Nat} {H:q0a} {st:ESt} {C D:NS} {u:Int} (hR:q1a (trn L [])) (h:REd L e n H st C D) (hn:n<300000):q0p (cw Tryz.prog (tabF tab) om1 180 [.pointer (some ⟨e,0,none⟩),.int .i64 u] H) fun v H'=>EP L e (n+1) H H' v (esS L st u).1 (esS L st u).2 C D:=by
 obtain ⟨k,m,q,t,va,ver,Hs,C0,D0,ge,hX,hT,hsn,hva,hvd,h8,hMi,de,ke,hfr,hC,hD⟩:=h
 subst hC hD
 have hl:=hMi.wt.len hR
 have h2:=hMi.a0
 have h3:=hMi.an
 have h4:=hMi.s0
 have h5:=hMi.sn
 have hsq:((st.1.1.length:Int)+1)*((st.1.1.length:Int)+1)≤8*8:=Int.mul_le_mul (by omega) (by omega) (by omega) (by omega)
 obtain ⟨x,H1,c1,r1,r2,r3,r4,ra,r5,r6⟩:=z9O (u:=u) hX.md.trie hX.md.ms (by omega) (by omega) (by omega)
 obtain ⟨H2,c2,ge1,hE⟩:=z4M (n':=n+1) (w:=st.1.1++[u]) hR ge hX hT hsn hva hvd h8 de ke hfr (by rw[List.length_append,List.length_singleton];omega) r1 r3 r4 ra r5 r6 (Mi.put hR (u:=u) hMi)
 refine ⟨x,H2,?_,hE⟩
 rw[q0g (F:=q1R) rfl rfl rfl]
 unfold q1R q4q
 simp only[WA,Nat.reduceEqDiff,reduceCtorEq,ge,c1,c2]
theorem k7R {L:List Rl} {e n:Nat} {H:q0a} {st:ESt} {C D:NS} (hR:q1a (trn L [])) (h:REd L e n H st C D) (hn:n≤300000):q0p (cw Tryz.prog (tabF tab) om1 176 [.pointer (some ⟨e,0,none⟩)] H) fun v H'=>EP L e n H H' v (efS L st).1 (efS L st).2 C D:=by
 obtain ⟨k,m,q,t,va,ver,Hs,C0,D0,ge,hX,hT,hsn,hva,hvd,h8,hMi,de,ke,hfr,hC,hD⟩:=h
 subst hC hD
 have hl:=hMi.wt.len hR
 have h2:=hMi.a0
 have h3:=hMi.an
 have h4:=hMi.s0
 have h5:=hMi.sn
 have hsq:(st.1.1.length:Int)*(st.1.1.length:Int)≤8*8:=Int.mul_le_mul (by omega) (by omega) (by omega) (by omega)
 obtain ⟨x,H1,c1,r1,r2,r3,r4,ra,r5,r6⟩:=z9N hX.md.trie hX.md.ms (by omega) (by omega) (by omega)
 obtain ⟨H2,c2,ge1,hE⟩:=z4M (n':=n) (w:=st.1.1) hR ge hX hT hsn hva hvd h8 de ke hfr (by omega) r1 r3 r4 ra r5 r6 (Mi.fin hR hMi)
 refine ⟨x,H2,?_,hE⟩
 rw[q0g (F:=q1Q) rfl rfl rfl]
 unfold q1Q q4p
 simp only[WA,Nat.reduceEqDiff,reduceCtorEq,ge,c1,c2]
theorem z6O {L:List Rl} {e n:Nat} {H:q0a} {st:ESt} {C D:NS} (h:REd L e n H st C D):q0p (cw Tryz.prog (tabF tab) om1 179 [.pointer (some ⟨e,0,none⟩)] H) fun v H'=>REd L e n H' (st.1,[]) C D∧H'.n=H.n∧∀j,j≠e→H'.get j=H.get j:=by
 obtain ⟨k,m,q,t,va,ver,Hs,C0,D0,ge,hX,hT,hsn,hva,hvd,h8,hMi,de,ke,hfr,hC,hD⟩:=h
 rw[q0g (F:=q1p) rfl rfl rfl]
 unfold q1p q3J
 have st2:=z8r (H:=H) (i:=e) (ver:=ver) (el:=150) (a:=.pointer (some ⟨m,0,none⟩)) (b:=.pointer (some ⟨q,0,none⟩)) (c:=va) (x:=.slice none 0 0) rfl
 obtain ⟨H2,hH2⟩:∃H2,H2=H.upd e ⟨[.pointer (some ⟨m,0,none⟩),.pointer (some ⟨q,0,none⟩),.slice none 0 0],150,.tip,ver+1,[]⟩:=⟨_,rfl⟩
 rw[←hH2] at st2
 have g2:H2.get e=some ⟨[.pointer (some ⟨m,0,none⟩),.pointer (some ⟨q,0,none⟩),.slice none 0 0],150,.tip,ver+1,[]⟩:=by rw[hH2];exact q0r ge
 have k2:∀j,j≠e→H2.get j=H.get j:=fun j hj=>by rw[hH2];exact q0j ge hj
 have n2:H2.n=H.n:=by rw[hH2];simp
 have kD:∀j,D0 j→H2.get j=H.get j:=fun j hj=>k2 j (fun h=>de (h▸hj))
 simp only[WA,Nat.reduceEqDiff,reduceCtorEq,ge,st2]
 exact ⟨⟨k,m,q,t,.slice none 0 0,ver+1,Hs,C0,D0,g2,hX.keep (by omega) kD,hT,fun j b hj hb he=>⟨(hsn j b hj hb he).1,by rw[kD j (hsn j b hj hb he).1];exact (hsn j b hj hb he).2⟩,.inl ⟨rfl,rfl⟩,fun j hj=>absurd trivial hj,by simp,hMi,de,ke,fun j hj=>by rw[kD j hj];exact hfr j hj,hC,hD⟩,n2,k2⟩
def WrT (L:List Rl) (v:Value) (n:Nat) (H:q0a) (st:ESt) (C D:NS):Prop:=∃e,v=.iface 118 (.pointer (some ⟨e,0,none⟩))∧REd L e n H st C D
theorem j2I : q6Q Tryz.prog 118 "Put" = some (180, none) := by kernel_rfl
theorem j2J : q6Q Tryz.prog 118 "End" = some (176, none) := by kernel_rfl
theorem Rd.any {C:NS} {H H':q0a} (h:Rd (fun _=>False) H H'):Rd C H H':=⟨fun x m hm h1 h2 _=>h.1 x m hm h1 h2 fun _ h=>absurd h id,h.2⟩
theorem mc_E {L:List Rl} (hR:q1a (trn L [])) {okU:Int→Prop} {v:Value}:Mc (WrT L v) v (esS L) (efS L) okU 200000 where
 put:=by
  intro n H st C D u ⟨e,hv,h⟩ hn hu
  subst hv
  obtain ⟨x,H',c,h1,h2,h3,h4,C',D',h5,h6,h7⟩:=z4N (u:=u) hR h (by omega)
  rw[q2N j2I]
  exact ⟨x,H',c,h1.ta,h4.any,h3,C',D',⟨e,rfl,h5⟩,h6,h7⟩
 fin:=by
  intro n H st C D ⟨e,hv,h⟩ hn
  subst hv
  obtain ⟨x,H',c,h1,h2,h3,h4,C',D',h5,h6,h7⟩:=k7R hR h (by omega)
  rw[q2N j2J]
  exact ⟨x,H',c,h1.ta,h4.any,h3,C',D',⟨e,rfl,h5⟩,h6,h7⟩
 keep:=by
  intro n H H' st C D ⟨e,hv,h⟩ hn hk
  exact ⟨e,hv,h.keep hn hk⟩
 lt:=by
  intro n H st C D j ⟨e,hv,h⟩ hj
  exact h.lt hj
 sub:=by
  intro n H st C D j ⟨e,hv,h⟩ hj
  exact h.sub hj
 mono:=by
  intro n m H st C D ⟨e,hv,h⟩ hn
  exact ⟨e,hv,h.mono hn⟩
theorem k3i {Z:NS} {P:Program}:k7z (tokA Z P):=fun H H' cs t hk ⟨a,c,h1,h2⟩=>⟨a,c,h1,fun hn=>⟨(h2 hn).1.keeps hk.keeps,(h2 hn).2.1.ver hk.ver,(h2 hn).2.2⟩⟩
theorem Rd.same {Z:NS} {H H':q0a} (h:Rd (fun _=>False) H H'):Rt Z H Z H':=⟨fun x m hm h1 h2 h3=>⟨(h.1 x m hm h1 h2 fun _ h=>absurd h id).1,(h.1 x m hm h1 h2 fun _ h=>absurd h id).2,h3⟩,h.2⟩
theorem Ext.rd0 {H H':q0a} (h:Ext H H'):Rd (fun _=>False) H H':=⟨fun x m _ h1 h2 _=>⟨h1.ext h,h2.ext h⟩,fun j b hj _=>h.get hj⟩
theorem Rd.tr0 {a b c:q0a} (h:Rd (fun _=>False) a b) (k:Rd (fun _=>False) b c):Rd (fun _=>False) a c:=⟨fun x m hm h1 h2 h3=>k.1 x m hm (h.1 x m hm h1 h2 h3).1 (h.1 x m hm h1 h2 h3).2 h3,fun j x hj he=>k.2 j x (h.2 j x hj he) he⟩
theorem j2K {H:q0a} {i ver:Nat} {el:TypeId} {a b c d x:Value} (h1:one x=true):q0u (some ⟨[a,b,c,d],el,.tip,ver,[]⟩) i 1 x 1 H=some (.tuple ⟨[]⟩,H.upd i ⟨[a,x,c,d],el,.tip,ver+1,[]⟩):=by
 have hc:=k9g h1
 have:=q0x (H:=H) (cells:=[a,b,c,d]) (el:=el) (ver:=ver) (anc:=[]) (i:=i) (o:=1) (n:=1) (v:=x) (by rw[hc];rfl) (by rw[hc];simp[h1]) (by simp)
 rw[this,hc]
 rfl
theorem j2L {H:q0a} {i ver:Nat} {el:TypeId} {a b c d x:Value} (h1:one x=true):q0u (some ⟨[a,b,c,d],el,.tip,ver,[]⟩) i 2 x 1 H=some (.tuple ⟨[]⟩,H.upd i ⟨[a,b,x,d],el,.tip,ver+1,[]⟩):=by
 have hc:=k9g h1
 have:=q0x (H:=H) (cells:=[a,b,c,d]) (el:=el) (ver:=ver) (anc:=[]) (i:=i) (o:=2) (n:=1) (v:=x) (by rw[hc];rfl) (by rw[hc];simp[h1]) (by simp)
 rw[this,hc]
 rfl
theorem v_i2 {H:q0a} {a b:Int}:∃H4,q0D 3 2 1 [.int .i64 0] [(0,1,.int .i64 a),(1,1,.int .i64 b)] H=some (.slice (some ⟨H.n,0,none⟩) 2 3,H4)∧Ext H H4∧Ints H4 (.slice (some ⟨H.n,0,none⟩) 2 3) [a,b]∧Cut Tryz.prog H4 (.slice (some ⟨H.n,0,none⟩) 2 3) 1:=⟨H.push ⟨[.int .i64 a,.int .i64 b],3,.tip,0,[]⟩,rfl,Ext.push H _,Sl.new (n:=2) (c:=3) q0b q0n rfl,Cut.new q0b (by kernel_rfl)⟩
theorem v_tkI {H:q0a} {a:Int} {p:Option Addr} {n c:Nat}:q2l [.int .i64 0,.int .i64 0,.slice none 0 0,.int .i64 0] [(0,1,.int .i64 a),(2,1,.slice p n c)] H=some (.agg ⟨[.int .i64 a,.int .i64 0,.slice p n c,.int .i64 0]⟩,H):=rfl
structure JP (i e n:Nat) (H0 H:q0a) (vo:Value) (To:List Tok) (es:ESt) (scr at_:Int) (C0 D0 C D:NS):Prop where
 hi:∃ver,H.get i=some ⟨[.pointer (some ⟨e,0,none⟩),.int .i64 scr,.int .i64 at_,.int .i64 0],148,.tip,ver,[]⟩
 hE:REd Rind e n H es C D
 di:¬D i
 ho:q2C (fun j=>j<H0.n) H vo To
 hf:From H0.n vo
 hn:H0.n≤H.n
 on:∀j,j<H0.n→¬C0 j→j≠i→H.get j=H0.get j
 rd:Rd (fun _=>False) H0 H
 c:∀j,j<H0.n→C j→C0 j
 d:∀j,j<H0.n→D j→D0 j
section
variable {i e n:Nat} {H0 H:q0a} {vo:Value} {To:List Tok} {es:ESt} {scr at_:Int} {C0 D0 C D:NS}
theorem JP.set (h:JP i e n H0 H vo To es scr at_ C0 D0 C D) {ver:Nat} (hg:H.get i=some ⟨[.pointer (some ⟨e,0,none⟩),.int .i64 scr,.int .i64 at_,.int .i64 0],148,.tip,ver,[]⟩) (scr' at':Int):JP i e n H0 (H.upd i ⟨[.pointer (some ⟨e,0,none⟩),.int .i64 scr',.int .i64 at',.int .i64 0],148,.tip,ver+1,[]⟩) vo To es scr' at' C0 D0 C D:=by
 obtain ⟨H1,hH1⟩:∃H1,H1=H.upd i ⟨[.pointer (some ⟨e,0,none⟩),.int .i64 scr',.int .i64 at',.int .i64 0],148,.tip,ver+1,[]⟩:=⟨_,rfl⟩
 rw[←hH1]
 have n1:H1.n=H.n:=by rw[hH1];simp
 have k1:∀j,j≠i→H1.get j=H.get j:=fun j hj=>by rw[hH1];exact q0j hg hj
 have hr:Rd (fun _=>False) H H1:=⟨fun x m hm h1 h2 _=>q6O h1 hm h2 fun j b _ hb hs=>by
  rw[k1 j (fun e1=>by subst e1;rw[hg] at hb;injection hb with hb;subst hb;exact (k7Q hs).2.2 rfl)]
  exact hb,fun j b hj he=>by
  rw[k1 j (fun e1=>by subst e1;rw[hg] at hj;injection hj with hj;subst hj;revert he;simp only;decide)]
  exact hj⟩
 have hn:=h.hn
 exact ⟨⟨ver+1,by rw[hH1];exact q0r hg⟩,h.hE.keep (by omega) fun j hj=>k1 j (fun e1=>h.di (e1▸hj)),h.di,q2C.rt hr.same h.ho,h.hf,by omega,fun j hj hc hji=>by rw[k1 j hji,h.on j hj hc hji],h.rd.tr0 hr,h.c,h.d⟩
theorem JP.ep (h:JP i e n H0 H vo To es scr at_ C0 D0 C D) {n':Nat} {H':q0a} {v:Value} {T:List Tok} {es':ESt} (hE:EP Rind e n' H H' v T es' C D):q2R H0.n H' v T∧From H0.n v∧∃C' D',JP i e n' H0 H' vo To es' scr at_ C0 D0 C' D':=by
 obtain ⟨h1,h2,h3,h4,C',D',h5,h6,h7⟩:=hE
 obtain ⟨ver,hi⟩:=h.hi
 have hil:=q0a.lt_of_get hi
 have hn:=h.hn
 have h3n:=h3.1
 have ci:¬C i:=fun hc=>h.di (h.hE.sub hc)
 refine ⟨h1.mono hn,h2.mono hn,C',D',⟨ver,by rw[h3.2 i hil ci];exact hi⟩,h5,fun hd=>h.di (h7 i hil hd),q2C.rt h4.same h.ho,h.hf,by omega,fun j hj hc hji=>?_,h.rd.tr0 h4,fun j hj hc=>h.c j hj (h6 j (by omega) hc),fun j hj hd=>h.d j hj (h7 j (by omega) hd)⟩
 rw[h3.2 j (by omega) (fun hc'=>hc (h.c j hj hc')),h.on j hj hc hji]
theorem JP.app (h:JP i e n H0 H vo To es scr at_ C0 D0 C D) {v:Value} {T:List Tok} (hv:q2R H0.n H v T) (hl:To.length+T.length<1000000):∃vr H',q0m H vo v 36 4 48=some (vr,H')∧JP i e n H0 H' vr (To++T) es scr at_ C0 D0 C D:=by
 have hva:q2C (fun j=>j<H0.n) H v T:=hv.ta
 obtain ⟨vr,H',m1,m2,m3,m4,m5,m6⟩:=q0U.append (bytes:=48) k3i h.ho hva.rws (fun _ cs hs=>Rws.ones hv.ot.rws cs hs) (by omega) (by omega)
 have hno:∀j b,H.get j=some b→b.elem≠36→H'.get j=some b:=fun j b hb hbe=>by
  obtain ⟨_,cs,q1,_⟩:=h.ho
  rw[m6 j (q0a.lt_of_get hb) (q1.notAt_elem hb hbe)]
  exact hb
 obtain ⟨ver,hi⟩:=h.hi
 have hn:=h.hn
 have hkD:∀j,D j→H'.get j=H.get j:=fun j hj=>by
  have hjl:=h.hE.lt hj
  refine m6 j hjl ?_
  obtain ⟨_,cs,q1,_⟩:=h.ho
  by_cases hna:q0i vo j
  ·exact hna
  ·obtain ⟨b,hb,he⟩:=q3E q1 hna
   exact absurd he (h.hE.tok j b hj hb)
 refine ⟨vr,H',m1,⟨ver,hno _ _ hi (by simp only;decide)⟩,h.hE.keep m5 hkD,h.di,m2,?_,by omega,fun j hj hc hji=>by rw[m6 j (by omega) (q0i.of_from h.hf hj),h.on j hj hc hji],⟨fun x m hm h1 h2 h3=>?_,fun j b hj he=>?_⟩,h.c,h.d⟩
 ·rcases m3 with h9|rfl
  ·exact h9.mono (by omega)
  ·exact h.hf
 ·obtain ⟨g1,g2⟩:=h.rd.1 x m hm h1 h2 h3
  exact q6O g1 hm g2 fun j b _ hb hs=>hno j b hb (k7Q hs).1
 ·rw[m6 j (by have:=q0a.lt_of_get hj;omega) (q0i.of_from h.hf (q0a.lt_of_get hj))]
  exact h.rd.2 j b hj he
theorem JP.ext (h:JP i e n H0 H vo To es scr at_ C0 D0 C D) {H':q0a} (hx:Ext H H'):JP i e n H0 H' vo To es scr at_ C0 D0 C D:=by
 obtain ⟨ver,hi⟩:=h.hi
 have hn:=h.hn
 exact ⟨⟨ver,hx.get hi⟩,h.hE.keep hx.1 fun j hj=>hx.2 j (h.hE.lt hj),h.di,h.ho.ext k3i hx,h.hf,by have:=hx.1;omega,fun j hj hc hji=>by rw[hx.2 j (by omega),h.on j hj hc hji],h.rd.tr0 (Ext.rd0 hx),h.c,h.d⟩
end
abbrev JSt:=ESt×Int×Int
def q5Q (u:Int):Int:=if inS u then u % 128 else 8192+u
def swI (scr u:Int):Bool:=decide (inS u)&&!decide ((u-2304) / 128=scr)
def jeS (st:JSt) (u:Int):List Tok×JSt:=
 if swI st.2.1 u=true then ((efS Rind st.1).1++[⟨st.2.2,0,[239,C14.getD ((u-2304) / 128).toNat 0],0⟩]++(esS Rind ((efS Rind st.1).2.1,[]) (q5Q u)).1,((esS Rind ((efS Rind st.1).2.1,[]) (q5Q u)).2,(u-2304) / 128,st.2.2+1))
 else ((esS Rind st.1 (q5Q u)).1,((esS Rind st.1 (q5Q u)).2,st.2.1,st.2.2+1))
def jeF (st:JSt):List Tok×JSt:=((efS Rind st.1).1,((efS Rind st.1).2,st.2))
theorem q3b:q1a (trn Rind []):=q6K q1h
section
variable {i e n:Nat} {H0 H:q0a} {vo:Value} {To:List Tok} {es:ESt} {scr at_:Int} {C0 D0 C D:NS}
theorem REd.ce {L:List Rl} {st:ESt} (h:REd L e n H st C D):C e∧∃b,H.get e=some b∧b.elem=150:=by
 obtain ⟨k,m,q,t,va,ver,Hs,C0,D0,ge,hX,hT,hsn,hva,hvd,h8,hMi,de,ke,hfr,hC,hD⟩:=h
 subst hC
 exact ⟨.inr rfl,_,ge,rfl⟩
theorem JP.with (h:JP i e n H0 H vo To es scr at_ C0 D0 C D) {v:Value} {T:List Tok} (hv:q2R H0.n H v T) (hf:From H0.n v):JP i e n H0 H v T es scr at_ C0 D0 C D:={h with ho:=hv.ta,hf:=hf}
theorem JP.apart (h:JP i e n H0 H vo To es scr at_ C0 D0 C D) {H':q0a} {es':ESt} (hE:REd Rind e n H' es' C D) (hn:H'.n=H.n) (hk:∀j,j≠e→H'.get j=H.get j):JP i e n H0 H' vo To es' scr at_ C0 D0 C D:=by
 obtain ⟨ce,b9,hb9,he9⟩:=h.hE.ce
 obtain ⟨ver,hi⟩:=h.hi
 have hie:i≠e:=fun h9=>h.di (h9▸h.hE.sub ce)
 have hr:Rd (fun _=>False) H H':=⟨fun x m hm h1 h2 _=>q6O h1 hm h2 fun j b _ hb hs=>by
  rw[hk j (fun e1=>by subst e1;rw[hb9] at hb;injection hb with hb;subst hb;exact (k7Q hs).2.1 he9)]
  exact hb,fun j b hj he=>by
  rw[hk j (fun e1=>by subst e1;rw[hb9] at hj;injection hj with hj;subst hj;rw[he9] at he;exact absurd he (by decide))]
  exact hj⟩
 have hn0:=h.hn
 exact ⟨⟨ver,by rw[hk i hie];exact hi⟩,hE,h.di,q2C.rt hr.same h.ho,h.hf,by omega,fun j hj hc hji=>by rw[hk j (fun e1=>by subst e1;exact hc (h.c j hj ce)),h.on j hj hc hji],h.rd.tr0 hr,h.c,h.d⟩
end
def WrJ (v:Value) (n:Nat) (H:q0a) (st:JSt) (C D:NS):Prop:=∃i e C0 D0,v=.iface 116 (.pointer (some ⟨i,0,none⟩))∧(∃ver,H.get i=some ⟨[.pointer (some ⟨e,0,none⟩),.int .i64 st.2.1,.int .i64 st.2.2,.int .i64 0],148,.tip,ver,[]⟩)∧REd Rind e n H st.1 C0 D0∧¬D0 i∧(0≤st.2.1∧st.2.1<9)∧(0≤st.2.2∧st.2.2≤n)∧C=(fun j=>C0 j∨j=i)∧D=fun j=>D0 j∨j=i
theorem k9i {L:List Rl} {b:Bool} {w:List Int} {a s:Int} {ah:List Int} (hR:q1a L) (hw:w.length≤8) {L2:List Rl}:(jnF L2 ah (q0G L b w a s).1).1.length≤8:=by
 rw[k9h]
 obtain ⟨n,n1,_,_,_,_,n6,_⟩:=q6p hR (e:=b) w.length w a s
 have:(q0G L b w a s).1.length≤n:=n6
 omega
theorem REd.few {L:List Rl} {e n:Nat} {H:q0a} {st:ESt} {C D:NS} (hR:q1a (trn L [])) (h:REd L e n H st C D) (u:Int):(esS L st u).1.length≤8∧(efS L st).1.length≤8:=by
 obtain ⟨k,m,q,t,va,ver,Hs,C0,D0,ge,hX,hT,hsn,hva,hvd,h8,hMi,de,ke,hfr,hC,hD⟩:=h
 have hl:=hMi.wt.len hR
 exact ⟨k9i hR (by rw[List.length_append,List.length_singleton];omega),k9i hR (by omega)⟩
theorem z8s : q6Q Tryz.prog 116 "Put" = some (175, none) := by kernel_rfl
theorem z8t : q6Q Tryz.prog 116 "End" = some (173, none) := by kernel_rfl
theorem z8u {i e n:Nat} {st:JSt} {u:Int} {H:q0a} {C D:NS} (hu:okS u) (hg:∃ver,H.get i=some ⟨[.pointer (some ⟨e,0,none⟩),.int .i64 st.2.1,.int .i64 st.2.2,.int .i64 0],148,.tip,ver,[]⟩) (hE:REd Rind e n H st.1 C D) (di:¬D i) (hs:0≤st.2.1∧st.2.1<9) (ha:0≤st.2.2∧st.2.2<1000000) (hn:n<300000) :
  q0p (cw Tryz.prog (tabF tab) om1 175 [.pointer (some ⟨i,0,none⟩),.int .i64 u] H) fun v H'=>∃C' D',JP i e (n+1) H H' v (jeS st u).1 (jeS st u).2.1 (jeS st u).2.2.1 (jeS st u).2.2.2 C D C' D':=by
 obtain ⟨es,scr,at_⟩:=st
 simp only at hg hE hs ha
 have J0:JP i e n H H (.slice none 0 0) [] es scr at_ C D C D:=⟨hg,hE,di,q0U.nil,trivial,Nat.le_refl _,fun _ _ _ _=>rfl,⟨fun x m _ h1 h2 _=>⟨h1,h2⟩,fun _ _ h _=>h⟩,fun _ _ h=>h,fun _ _ h=>h⟩
 obtain ⟨ver,hg⟩:=hg
 have c0:=c_IOf (x:=u) H
 have cS:=k5N (H:=H) (s:=u) hu
 have hwa:IntKind.i64.wrap (at_+1)=at_+1:=q0k (by omega) (by omega)
 have tail:∀{H1:q0a} {vo:Value} {To:List Tok} {es1:ESt} {scr1:Int} {C1 D1:NS} {ver1:Nat},JP i e n H H1 vo To es1 scr1 at_ C D C1 D1→H1.get i=some ⟨[.pointer (some ⟨e,0,none⟩),.int .i64 scr1,.int .i64 at_,.int .i64 0],148,.tip,ver1,[]⟩→To.length<100→∃H2 v H3 vr H4 ver2,q0u (some ⟨[.pointer (some ⟨e,0,none⟩),.int .i64 scr1,.int .i64 at_,.int .i64 0],148,.tip,ver1,[]⟩) i 2 (.int .i64 (at_+1)) 1 H1=some (.tuple ⟨[]⟩,H2)∧H2.get i=some ⟨[.pointer (some ⟨e,0,none⟩),.int .i64 scr1,.int .i64 (at_+1),.int .i64 0],148,.tip,ver2,[]⟩∧cw Tryz.prog (tabF tab) om1 180 [.pointer (some ⟨e,0,none⟩),.int .i64 (q5Q u)] H2=some (v,H3)∧q0m H3 vo v 36 4 48=some (vr,H4)∧∃C' D',JP i e (n+1) H H4 vr (To++(esS Rind es1 (q5Q u)).1) (esS Rind es1 (q5Q u)).2 scr1 (at_+1) C D C' D':=fun {H1 vo To es1 scr1 C1 D1 ver1} J hg1 hTo=>by
  have J2:=J.set hg1 scr1 (at_+1)
  have st:=j2L (H:=H1) (i:=i) (ver:=ver1) (el:=148) (a:=.pointer (some ⟨e,0,none⟩)) (b:=.int .i64 scr1) (c:=.int .i64 at_) (d:=.int .i64 0) (x:=.int .i64 (at_+1)) rfl
  obtain ⟨H2,hH2⟩:∃H2,H2=H1.upd i ⟨[.pointer (some ⟨e,0,none⟩),.int .i64 scr1,.int .i64 (at_+1),.int .i64 0],148,.tip,ver1+1,[]⟩:=⟨_,rfl⟩
  rw[←hH2] at st J2
  obtain ⟨v,H3,c3,hP⟩:=z4N (u:=q5Q u) q3b J2.hE (by omega)
  obtain ⟨h1,h2,C3,D3,J3⟩:=J2.ep hP
  have hf:=(J2.hE.few q3b (q5Q u)).1
  obtain ⟨vr,H4,m1,J4⟩:=J3.app h1 (by omega)
  exact ⟨H2,v,H3,vr,H4,_,st,by rw[hH2];exact q0r hg1,c3,m1,C3,D3,J4⟩
 rw[q0g (F:=q2t) rfl rfl rfl]
 unfold q2t q5k
 by_cases hin:inS u
 ·have hun:q5Q u=u % 128:=by unfold q5Q;rw[if_pos hin]
  unfold ofS at c0
  rw[if_pos hin] at c0
  by_cases hsc:(u-2304) / 128=scr
  ·have hs0:swI scr u=false:=by unfold swI;simp[hsc]
   have hz:((u-2304) / 128≠scr)=False:=by simp[hsc]
   have hR:jeS (es,scr,at_) u=((esS Rind es (q5Q u)).1,((esS Rind es (q5Q u)).2,scr,at_+1)):=by
    unfold jeS
    simp only[hs0]
    rfl
   rw[hR]
   obtain ⟨H2,v,H3,vr,H4,ver2,st,g2,c3,m1,C',D',J4⟩:=tail J0 hg (by simp)
   rw[List.nil_append] at J4
   rw[hun] at c3
   simp only[WA,Nat.reduceEqDiff,reduceCtorEq,c0,cS,hg,hz,hwa,st,g2,c3,m1]
   exact ⟨C',D',J4⟩
  ·have hs1:swI scr u=true:=by unfold swI;simp[hsc,hin]
   have hz:((u-2304) / 128≠scr)=True:=by simp[hsc]
   obtain ⟨k,hk⟩:∃k:Nat,(u-2304) / 128=k:=⟨((u-2304) / 128).toNat,by have:=hin.1;omega⟩
   have hk9:k<9:=by have:=hin.2.1;omega
   have hR:jeS (es,scr,at_) u=((efS Rind es).1++[⟨at_,0,[239,C14.getD k 0],0⟩]++(esS Rind ((efS Rind es).2.1,[]) (q5Q u)).1,((esS Rind ((efS Rind es).2.1,[]) (q5Q u)).2,(u-2304) / 128,at_+1)):=by
    unfold jeS
    simp only[hs1,if_true]
    rw[hk,Int.toNat_natCast]
   rw[hR]
   obtain ⟨v1,H1,c1,hP1⟩:=k7R q3b hE (by omega)
   have hf1:=(hE.few q3b 0).2
   obtain ⟨t1,f1,C1,D1,J1⟩:=J0.ep hP1
   have J1:=J1.with t1 f1
   obtain ⟨ver1,g1⟩:=J1.hi
   have cC:=j2v (H:=H1) hk9
   rw[←hk] at cC
   have J2:=J1.set g1 ((u-2304) / 128) at_
   have st2:=j2K (H:=H1) (i:=i) (ver:=ver1) (el:=148) (a:=.pointer (some ⟨e,0,none⟩)) (b:=.int .i64 scr) (c:=.int .i64 at_) (d:=.int .i64 0) (x:=.int .i64 ((u-2304) / 128)) rfl
   obtain ⟨H2,hH2⟩:∃H2,H2=H1.upd i ⟨[.pointer (some ⟨e,0,none⟩),.int .i64 ((u-2304) / 128),.int .i64 at_,.int .i64 0],148,.tip,ver1+1,[]⟩:=⟨_,rfl⟩
   rw[←hH2] at st2 J2
   have g2:H2.get i=some ⟨[.pointer (some ⟨e,0,none⟩),.int .i64 ((u-2304) / 128),.int .i64 at_,.int .i64 0],148,.tip,ver1+1,[]⟩:=by rw[hH2];exact q0r g1
   obtain ⟨v3,H3,c3,hE3,n3,k3⟩:=z6O J2.hE
   have J3:=J2.apart hE3 n3 k3
   obtain ⟨ver3,g3⟩:=J3.hi
   obtain ⟨H4,v4,x4,i4,k4⟩:=v_i2 (H:=H3) (a:=239) (b:=C14.getD k 0)
   obtain ⟨H5,hH5⟩:∃H5,H5=H4.push ⟨[.int .i64 at_,.int .i64 0,.slice (some ⟨H3.n,0,none⟩) 2 3,.int .i64 0],36,.tip,0,[]⟩:=⟨_,rfl⟩
   have x5:Ext H4 H5:=by rw[hH5];exact Ext.push H4 _
   have g5:H5.get H4.n=some ⟨tokC (some ⟨H3.n,0,none⟩) 3 ⟨at_,0,[239,C14.getD k 0],0⟩,36,.tip,0,[]⟩:=by rw[hH5];exact q0b
   have J5:=J3.ext (x4.trans x5)
   have hJ3n:=J3.hn
   have t5:q2R H.n H5 (.slice (some ⟨H4.n,0,none⟩) 1 2) [⟨at_,0,[239,C14.getD k 0],0⟩]:=z9X g5 ⟨_,_,rfl,i4.ext x5,by unfold Lon.tiny;simp,k4.ext x5⟩ hJ3n
   obtain ⟨v6,H6,p1,J6⟩:=J5.app t5 (by simp;omega)
   obtain ⟨ver6,g6⟩:=J6.hi
   obtain ⟨H7,v,H8,vr,H9,ver7,st,g7,c7,m1,C',D',J9⟩:=tail J6 g6 (by rw[List.length_append,List.length_singleton];omega)
   rw[hun] at c7
   simp only[WA,Nat.reduceEqDiff,reduceCtorEq,c0,cS,hg,hz,hwa,c1,cC,g1,st2,g2,c3,g3,v4,v_tkI,z9L,←hH5,p1,g6,st,g7,c7,m1]
   exact ⟨C',D',J9⟩
 ·have hun:q5Q u=8192+u:=by unfold q5Q;rw[if_neg hin]
  unfold ofS at c0
  rw[if_neg hin] at c0
  have hs0:swI scr u=false:=by unfold swI;simp[hin]
  have hwu:IntKind.i64.wrap (8192+u)=8192+u:=by have:=hu.1;have:=hu.2.1;exact q0k (by omega) (by omega)
  have hR:jeS (es,scr,at_) u=((esS Rind es (q5Q u)).1,((esS Rind es (q5Q u)).2,scr,at_+1)):=by
   unfold jeS
   simp only[hs0]
   rfl
  rw[hR]
  obtain ⟨H2,v,H3,vr,H4,ver2,st,g2,c3,m1,C',D',J4⟩:=tail J0 hg (by simp)
  rw[List.nil_append] at J4
  rw[hun] at c3
  simp only[WA,Nat.reduceEqDiff,reduceCtorEq,c0,cS,hwu,hg,hwa,st,g2,c3,m1]
  exact ⟨C',D',J4⟩
theorem z8v {st:JSt} {u:Int} {n:Nat} (hu:okS u) (hs:0≤st.2.1∧st.2.1<9) (ha:0≤st.2.2∧st.2.2≤n):(0≤(jeS st u).2.2.1∧(jeS st u).2.2.1<9)∧0≤(jeS st u).2.2.2∧(jeS st u).2.2.2≤(n+1:Nat):=by
 unfold jeS
 split
 ·rename_i h
  have hin:inS u:=by
   unfold swI at h
   simp only[Bool.and_eq_true,decide_eq_true_eq] at h
   exact h.1
  obtain ⟨h1,h2,_⟩:=hin
  exact ⟨⟨by simp only;omega,by simp only;omega⟩,by simp only;omega,by simp only;push_cast;omega⟩
 ·exact ⟨hs,by simp only;omega,by simp only;push_cast;omega⟩
theorem k5X {i e n:Nat} {H0 H:q0a} {vo:Value} {To:List Tok} {es:ESt} {scr at_:Int} {C0 D0 C D:NS} (h:JP i e n H0 H vo To es scr at_ C0 D0 C D):Only (fun j=>C0 j∨j=i) H0 H:=⟨h.hn,fun j hj hc=>h.on j hj (fun h=>hc (.inl h)) (fun h=>hc (.inr h))⟩
theorem mc_J {v:Value}:Mc (WrJ v) v jeS jeF okS 200000 where
 put:=by
  intro n H st C D u ⟨i,e,C0,D0,hv,hg,hE,di,hs,ha,hC,hD⟩ hn hu
  subst hv hC hD
  obtain ⟨x,H',c,C',D',J⟩:=z8u hu hg hE di hs (by omega) (by omega)
  rw[q2N z8s]
  obtain ⟨q1,q2⟩:=z8v hu hs ha
  exact ⟨x,H',c,J.ho,J.rd.any,k5X J,_,_,⟨i,e,C',D',rfl,J.hi,J.hE,J.di,q1,q2,rfl,rfl⟩,fun j hj hc=>hc.imp (J.c j hj) id,fun j hj hc=>hc.imp (J.d j hj) id⟩
 fin:=by
  intro n H st C D ⟨i,e,C0,D0,hv,⟨ver,hg⟩,hE,di,hs,ha,hC,hD⟩ hn
  subst hv hC hD
  obtain ⟨x,H',c,hP⟩:=k7R q3b hE (by omega)
  have J0:JP i e n H H (.slice none 0 0) [] st.1 st.2.1 st.2.2 C0 D0 C0 D0:=⟨⟨ver,hg⟩,hE,di,q0U.nil,trivial,Nat.le_refl _,fun _ _ _ _=>rfl,⟨fun x m _ h1 h2 _=>⟨h1,h2⟩,fun _ _ h _=>h⟩,fun _ _ h=>h,fun _ _ h=>h⟩
  obtain ⟨t1,f1,C',D',J⟩:=J0.ep hP
  rw[q2N z8t]
  refine ⟨x,H',?_,t1.ta,J.rd.any,k5X J,_,_,⟨i,e,C',D',rfl,J.hi,J.hE,J.di,hs,ha,rfl,rfl⟩,fun j hj hc=>hc.imp (J.c j hj) id,fun j hj hc=>hc.imp (J.d j hj) id⟩
  rw[q0g (F:=q1g) rfl rfl rfl]
  unfold q1g q3n
  simp only[WA,Nat.reduceEqDiff,reduceCtorEq,hg,c]
 keep:=by
  intro n H H' st C D ⟨i,e,C0,D0,hv,⟨ver,hg⟩,hE,di,hs,ha,hC,hD⟩ hn hk
  subst hD
  exact ⟨i,e,C0,D0,hv,⟨ver,by rw[hk i (.inr rfl)];exact hg⟩,hE.keep hn fun j hj=>hk j (.inl hj),di,hs,ha,hC,rfl⟩
 lt:=by
  intro n H st C D j ⟨i,e,C0,D0,hv,⟨ver,hg⟩,hE,di,hs,ha,hC,hD⟩ hj
  subst hD
  rcases hj with hj|rfl
  ·exact hE.lt hj
  ·exact q0a.lt_of_get hg
 sub:=by
  intro n H st C D j ⟨i,e,C0,D0,hv,hg,hE,di,hs,ha,hC,hD⟩ hj
  subst hC hD
  exact hj.imp hE.sub id
 mono:=by
  intro n m H st C D ⟨i,e,C0,D0,hv,hg,hE,di,hs,ha,hC,hD⟩ hn
  exact ⟨i,e,C0,D0,hv,hg,hE.mono hn,di,hs,by omega,hC,hD⟩
theorem j2M:∀(T:List Tok),(∀x∈T,x.out.length≤8)→wl T≤9*T.length
 | [],_=>by simp[wl]
 | x::T,h=>by
  rw[k5Q,List.length_cons]
  have h1:=h x (List.mem_cons_self ..)
  have h2:=j2M T fun y hy=>h y (List.mem_cons_of_mem _ hy)
  omega
def okC (x:Tok):Prop:=(x.err=0→∀u∈x.out,0≤u∧u<256)∧x.out.length≤8
theorem k9j {L:List Rl}:∀(T:List Tok) (ah:List Int),(∀x∈T,okC x)→∀x∈(jnF L ah T).1,okC x
 | [],ah,_,x,hx=>absurd hx (by unfold jnF;simp)
 | y::T,ah,h,x,hx=>by
  rw[k1D] at hx
  rcases List.mem_cons.1 hx with rfl|hx
  ·unfold joinT
   split
   ·exact ⟨fun h=>(by cases h),by simp⟩
   ·exact h y (List.mem_cons_self ..)
  ·exact k9j T _ (fun z hz=>h z (List.mem_cons_of_mem _ hz)) x hx
theorem z8w {L:List Rl} (hR:q1a (trn L [])) (hb:∀r∈L,∀u∈r.1,0≤u∧u<256) {e:Bool} {w:List Int} {a s:Int}:∀x∈(q0G (trn L []) e w a s).1,okC x:=fun x hx=>by
 rcases q4g hR w.length w a s x hx with ⟨h,h2⟩|⟨h,h2,r,hr,h3⟩
 ·exact ⟨fun h9=>(by rw[h9] at h;cases h),by rw[h2];simp⟩
 ·refine ⟨fun _ u hu=>?_,h2⟩
  rw[h3] at hu
  rcases k9b hr with hr|hr
  ·exact absurd hr (by simp)
  ·exact hb _ hr u hu
theorem k7S {L:List Rl} (hR:q1a (trn L [])) (hb:∀r∈L,∀u∈r.1,0≤u∧u<256) (st:ESt) (u:Int):(∀x∈(esS L st u).1,okC x)∧∀x∈(efS L st).1,okC x:=⟨k9j _ _ (z8w hR hb),k9j _ _ (z8w hR hb)⟩
theorem k7T {T:List Tok} (h:∀x∈T,okC x) (hl:T.length≤40):okW T∧wl T≤400:=⟨fun x hx he=>(h x hx).1 he,by have:=j2M T fun x hx=>(h x hx).2;omega⟩
theorem wg_E {L:List Rl} (hR:q1a (trn L [])) (hb:∀r∈L,∀u∈r.1,0≤u∧u<256) {okU:Int→Prop} {v:Value}:Wg (WrT L v) (esS L) (efS L) okU where
 good:=by
  intro n H st C D u ⟨e,hv,h⟩ hu
  have:=(h.few hR u).1
  exact k7T (k7S hR hb st u).1 (by omega)
 goodf:=by
  intro n H st C D ⟨e,hv,h⟩
  have:=(h.few hR 0).2
  exact k7T (k7S hR hb st 0).2 (by omega)
def byL (L:List Rl):Bool:=L.all fun r=>r.1.all fun u=>decide (0≤u∧u<256)
theorem z1k {L:List Rl} (h:byL L=true):∀r∈L,∀u∈r.1,0≤u∧u<256:=fun r hr u hu=>by
 have:=List.all_eq_true.1 (List.all_eq_true.1 h r hr) u hu
 rwa [decide_eq_true_eq] at this
theorem k9k:byL Rind=true:=by kernel_rfl
theorem j2N {w:List Int} {a s:Int} {ah:List Int} {b:Bool} (hw:w.length≤8):(jnF Rind ah (q0G (trn Rind []) b w a s).1).1.length≤8:=k9i q3b hw
theorem wg_J {v:Value}:Wg (WrJ v) jeS jeF okS where
 good:=by
  intro n H st C D u ⟨i,e,C0,D0,hv,hg,hE,di,hs,ha,hC,hD⟩ hu
  have hl:st.1.1.1.length≤7:=by
   obtain ⟨k,m,q,t,va,ver,Hs,C0,D0,ge,hX,hT,hsn,hva,hvd,h8,hMi,de,ke,hfr,hC,hD⟩:=hE
   exact hMi.wt.len q3b
  have hf:=hE.few q3b (q5Q u)
  have k1:=k7S q3b (z1k k9k) st.1 (q5Q u)
  have k2:=k7S q3b (z1k k9k) ((efS Rind st.1).2.1,[]) (q5Q u)
  have hz:(efS Rind st.1).2.1.1=[]:=by
   unfold efS rdF
   exact (z4n q3b).2.1
  have hf2:(esS Rind ((efS Rind st.1).2.1,[]) (q5Q u)).1.length≤8:=j2N (by rw[hz];simp)
  unfold jeS
  by_cases hsw:swI st.2.1 u=true
  ·have hin:inS u:=by
    unfold swI at hsw
    simp only[Bool.and_eq_true,decide_eq_true_eq] at hsw
    exact hsw.1
   rw[if_pos hsw]
   refine k7T (fun x hx=>?_) (by simp only[List.length_append,List.length_singleton];omega)
   rcases List.mem_append.1 hx with hx|hx
   ·rcases List.mem_append.1 hx with hx|hx
    ·exact k1.2 x hx
    ·rw[List.mem_singleton.1 hx]
     refine ⟨fun _ y hy=>?_,by simp⟩
     rcases List.mem_cons.1 hy with rfl|hy
     ·omega
     ·rw[List.mem_singleton.1 hy]
      have h9:((u-2304) / 128).toNat<9:=by
       have:=hin.1
       have:=hin.2.1
       omega
      obtain ⟨k,hk⟩:∃k,((u-2304) / 128).toNat=k:=⟨_,rfl⟩
      rw[hk] at h9 ⊢
      match k,h9 with
      | 0,_|1,_|2,_|3,_|4,_|5,_|6,_|7,_|8,_=>decide
   ·exact k2.1 x hx
  ·rw[if_neg hsw]
   exact k7T k1.1 (by simp only;omega)
 goodf:=by
  intro n H st C D ⟨i,e,C0,D0,hv,hg,hE,di,hs,ha,hC,hD⟩
  have:=(hE.few q3b 0).2
  exact k7T (k7S q3b (z1k k9k) st.1 0).2 (by unfold jeF;simp only;omega)
theorem v_enc {H:q0a} {m q:Nat}:q2l [.pointer none,.pointer none,.slice none 0 0] [(0,1,.pointer (some ⟨m,0,none⟩)),(1,1,.pointer (some ⟨q,0,none⟩))] H=some (.agg ⟨[.pointer (some ⟨m,0,none⟩),.pointer (some ⟨q,0,none⟩),.slice none 0 0]⟩,H):=rfl
theorem k7U {q:Nat} {L:List Rl} {H:q0a} (hT:q1K H q L):q0p (cw Tryz.prog (tabF tab) om1 51 [.pointer (some ⟨q,0,none⟩)] H) fun v H'=>∃e C D,v=.pointer (some ⟨e,0,none⟩)∧REd L e 0 H' (([],0,0),[]) C D∧Ext H H'∧(∀j,C j→H.n≤j∧∃b,H'.get j=some b∧isF b.elem=false)∧∀j,D j→j<H.n→∀b,H'.get j=some b→isF b.elem=true:=by
 rw[q0g (F:=q3w) rfl rfl rfl]
 unfold q3w q7u
 obtain ⟨ver,t1,t2,hg,hT1,hT2⟩:=hT.rest
 have c1:=z9U hg
 obtain ⟨v2,H2,c2,x2,m,rfl,hMD⟩:=MD.new hT2
 obtain ⟨H3,hH3⟩:∃H3,H3=H2.push ⟨[.pointer (some ⟨m,0,none⟩),.pointer (some ⟨q,0,none⟩),.slice none 0 0],150,.tip,0,[]⟩:=⟨_,rfl⟩
 have x3:Ext H2 H3:=by rw[hH3];exact Ext.push H2 _
 have g3:H3.get H2.n=some ⟨[.pointer (some ⟨m,0,none⟩),.pointer (some ⟨q,0,none⟩),.slice none 0 0],150,.tip,0,[]⟩:=by rw[hH3];exact q0b
 have hbx:vBox (.agg ⟨[.pointer (some ⟨m,0,none⟩),.pointer (some ⟨q,0,none⟩),.slice none 0 0]⟩) 150 H2=some (.pointer (some ⟨H2.n,0,none⟩),H3):=by rw[hH3];exact q8H rfl
 obtain ⟨vw,ver2,gm,q2,q3⟩:=hMD.hm
 have hv:vw=.slice none 0 0:=by
  obtain ⟨_,⟨h,_⟩|⟨b,ver,anc,_,h,_⟩⟩:=q2
  ·exact h
  ·exact absurd h (by simp)
 subst hv
 have hml:=q0a.lt_of_get gm
 have hkm:=hMD.km
 have hkn:=hMD.kn
 have hTc:q1K (cutN H2 H.n) q L:=by
  refine hT.keep (fun j blk hj _=>?_) fun j blk hj _=>?_ <;>
  ·rw[q4R x2.1 (q0a.lt_of_get hj)];exact x2.get hj
 have hX:MX H.n H2 H2 m t2 (trn L []) [] 0 0 (fun j=>j=m) (fun j=>j=m∨(j<H.n∧∃b,H2.get j=some b∧isF b.elem=true)):=⟨hkn,hkn,hkm,hMD.trie,⟨_,ver2,gm,q2,q3⟩,fun j b hj hb he=>⟨.inr ⟨hj,b,hb,z6s he⟩,hb⟩,rfl,fun j hj=>absurd (NW.of gm (vw:=.slice none 0 0) trivial) hj,fun j hj=>by have hj:j=m:=hj;omega,fun j hj=>.inl hj,fun j hj=>by
  rcases hj with rfl|⟨hj,_⟩
  ·exact hml
  ·omega⟩
 have hX3:=hX.keep x3.1 fun j hj=>x3.2 j (hX.dl j hj)
 simp only[WA,Nat.reduceEqDiff,reduceCtorEq,c1,c2,v_enc,hbx]
 refine ⟨H2.n,_,_,rfl,⟨H.n,m,q,t2,.slice none 0 0,0,H2,_,_,g3,hX3,hTc,fun j b hj hb he=>⟨.inr ⟨hj,b,hb,he⟩,x3.get hb⟩,.inl ⟨rfl,rfl⟩,fun j hj=>absurd trivial hj,by simp,⟨⟨.inl rfl⟩,by decide,by decide,by decide,by decide⟩,fun h=>by have:=hX.dl _ h;omega,x2.1,fun j hj=>?_,rfl,rfl⟩,x2.trans x3,fun j hj=>?_,fun j hj hl b hb=>?_⟩
 ·rcases hj with rfl|⟨hj,b,hb,ht⟩
  ·exact ⟨_,x3.get gm,by simp only;decide⟩
  ·exact ⟨b,x3.get hb,fun e=>by rw[e] at ht;exact absurd ht (by decide)⟩
 ·rcases hj with hj|rfl
  ·have hj:j=m:=hj
   subst hj
   exact ⟨by omega,_,x3.get gm,by simp only;decide⟩
  ·exact ⟨x2.1,_,g3,by simp only;decide⟩
 ·have x2n:=x2.1
  rcases hj with (rfl|⟨_,b',hb',ht⟩)|rfl
  ·omega
  ·rw[x3.get hb'] at hb
   injection hb with hb
   subst hb
   exact ht
  ·omega
theorem v_isc {H:q0a} {e:Nat}:q2l [.pointer none,.int .i64 0,.int .i64 0,.int .i64 0] [(0,1,.pointer (some ⟨e,0,none⟩))] H=some (.agg ⟨[.pointer (some ⟨e,0,none⟩),.int .i64 0,.int .i64 0,.int .i64 0]⟩,H):=rfl
theorem z4O {H:q0a}:q0p (cw Tryz.prog (tabF tab) om1 50 [] H) fun v H'=>∃i C D,v=.pointer (some ⟨i,0,none⟩)∧WrJ (.iface 116 (.pointer (some ⟨i,0,none⟩))) 0 H' ((([],0,0),[]),0,0) C D∧NewM H H' C D:=by
 rw[q0g (F:=q4H) rfl rfl rfl]
 unfold q4H q8K
 obtain ⟨v1,H1,c1,x1,q,rfl,hT⟩:=z8q (H:=H)
 obtain ⟨v2,H2,c2,e,C0,D0,rfl,hE,x2,nc,nd⟩:=k7U hT
 obtain ⟨H3,hH3⟩:∃H3,H3=H2.push ⟨[.pointer (some ⟨e,0,none⟩),.int .i64 0,.int .i64 0,.int .i64 0],148,.tip,0,[]⟩:=⟨_,rfl⟩
 have x3:Ext H2 H3:=by rw[hH3];exact Ext.push H2 _
 have g3:H3.get H2.n=some ⟨[.pointer (some ⟨e,0,none⟩),.int .i64 0,.int .i64 0,.int .i64 0],148,.tip,0,[]⟩:=by rw[hH3];exact q0b
 have hbx:vBox (.agg ⟨[.pointer (some ⟨e,0,none⟩),.int .i64 0,.int .i64 0,.int .i64 0]⟩) 148 H2=some (.pointer (some ⟨H2.n,0,none⟩),H3):=by rw[hH3];exact q8H rfl
 simp only[WA,Nat.reduceEqDiff,reduceCtorEq,c1,c2,v_isc,hbx]
 have x1n:=x1.1
 have x2n:=x2.1
 refine ⟨H2.n,_,_,rfl,⟨H2.n,e,C0,D0,rfl,⟨0,g3⟩,hE.keep x3.1 fun j hj=>x3.2 j (hE.lt hj),fun h=>by have:=hE.lt h;omega,by decide,by decide,rfl,rfl⟩,(x1.trans x2).trans x3,fun j hj=>?_,fun j hj hl b hb=>?_⟩
 ·rcases hj with hj|rfl
  ·obtain ⟨h1,b,hb,hf⟩:=nc j hj
   exact ⟨by omega,b,x3.get hb,hf⟩
  ·exact ⟨by omega,_,g3,by simp only;decide⟩
 ·rcases hj with hj|rfl
  ·rw[x3.2 j (hE.lt hj)] at hb
   exact nd j hj (by omega) b hb
  ·omega
theorem mk_J {H:q0a}:q0p (cw Tryz.prog (tabF tab) om1 30 [.string (nm 7)] H) fun v H'=>∃wv C D,v=.tuple ⟨[wv,.int .i64 0]⟩∧one wv=true∧WrJ wv 0 H' ((([],0,0),[]),0,0) C D∧NewM H H' C D:=by
 rw[q0g (F:=q1H) rfl rfl rfl]
 unfold q1H q4F
 have hn:=q8W (H:=H) (k:=7) (by omega)
 have e0:=z1Z 7 (by omega)
 have e7:=k3e 7 (by omega)
 rw[show Nat.beq 7 0=false from rfl] at e0
 rw[show Nat.beq 7 7=true from rfl] at e7
 obtain ⟨v1,H1,c1,i,C,D,rfl,q1,q2⟩:=z4O (H:=H)
 have z0:((0:Int)≠0)=False:=by simp
 simp only[WA,Nat.reduceEqDiff,reduceCtorEq,hn,z0,q1I gS,e0,e7,c1]
 exact ⟨_,C,D,rfl,rfl,q1,q2⟩
theorem og_at {l:List Int} {n r k:Nat} {s lo hi u:Int} (h:l[k]?=some u) (h1:lo≤u) (h2:u≤hi):oneG l n (r+1) s lo hi k=oneG l n r (s*64+u % 64) 128 191 (k+1):=by
 conv=>lhs;unfold oneG
 rw[h]
 simp only
 rw[if_neg (by omega)]
theorem k4O {l:List Int} {n r k:Nat} {s lo hi:Int} (h:(oneG l n (r+1) s lo hi k).2.2=0):∃u,l[k]?=some u∧lo≤u∧u≤hi∧oneG l n (r+1) s lo hi k=oneG l n r (s*64+u % 64) 128 191 (k+1):=by
 cases hu:l[k]? with
 | none=>
  unfold oneG at h
  rw[hu] at h
  cases h
 | some u=>
  by_cases hc:u<lo∨u>hi
  ·unfold oneG at h
   rw[hu] at h
   simp only at h
   rw[if_pos hc] at h
   cases h
  ·exact ⟨u,rfl,by omega,by omega,og_at hu (by omega) (by omega)⟩
theorem z6P {c:Int} {l:List Int} {n:Nat} {s lo hi:Int} (h:ldF c=(((n+1:Nat):Int),s,lo,hi)):oneF (c::l)=oneG (c::l) (n+1) n s lo hi 1:=by
 unfold oneF
 simp only[h]
 rw[if_neg (by omega),Int.toNat_natCast]
 rfl
theorem z4P {w:List Int} (hb:∀u∈w,0≤u∧u<256) (h:(oneF w).2.2=0):okS (oneF w).1∧utfB (oneF w).1=w.take (oneF w).2.1.toNat:=by
 cases w with
 | nil=>cases h
 | cons c l=>
  obtain ⟨c0,c1⟩:=hb c (List.mem_cons_self ..)
  have one:∀{s lo hi:Int},ldF c=(((0+1:Nat):Int),s,lo,hi)→oneF (c::l)=(s,((1:Nat):Int),0):=fun {s lo hi} e=>by rw[z6P (n:=0) e];rfl
  have two:∀{s lo hi:Int},ldF c=(((1+1:Nat):Int),s,lo,hi)→∃u,l[0]?=some u∧lo≤u∧u≤hi∧oneF (c::l)=(s*64+u % 64,((2:Nat):Int),0):=fun {s lo hi} e=>by
   rw[z6P (n:=1) e] at h ⊢
   obtain ⟨u,a1,a2,a3,a4⟩:=k4O h
   exact ⟨u,a1,a2,a3,a4⟩
  have three:∀{s lo hi:Int},ldF c=(((2+1:Nat):Int),s,lo,hi)→∃u v,l[0]?=some u∧l[1]?=some v∧lo≤u∧u≤hi∧128≤v∧v≤191∧oneF (c::l)=((s*64+u % 64)*64+v % 64,((3:Nat):Int),0):=fun {s lo hi} e=>by
   rw[z6P (n:=2) e] at h ⊢
   obtain ⟨u,a1,a2,a3,a4⟩:=k4O h
   rw[a4] at h ⊢
   obtain ⟨v,b1,b2,b3,b4⟩:=k4O h
   exact ⟨u,v,a1,b1,a2,a3,b2,b3,b4⟩
  have four:∀{s lo hi:Int},ldF c=(((3+1:Nat):Int),s,lo,hi)→∃u v x,l[0]?=some u∧l[1]?=some v∧l[2]?=some x∧lo≤u∧u≤hi∧128≤v∧v≤191∧128≤x∧x≤191∧oneF (c::l)=(((s*64+u % 64)*64+v % 64)*64+x % 64,((4:Nat):Int),0):=fun {s lo hi} e=>by
   rw[z6P (n:=3) e] at h ⊢
   obtain ⟨u,a1,a2,a3,a4⟩:=k4O h
   rw[a4] at h ⊢
   obtain ⟨v,b1,b2,b3,b4⟩:=k4O h
   rw[b4] at h ⊢
   obtain ⟨x,d1,d2,d3,d4⟩:=k4O h
   exact ⟨u,v,x,a1,b1,d1,a2,a3,b2,b3,d2,d3,d4⟩
  have t2:∀{u:Int},l[0]?=some u→(c::l).take 2=[c,u]:=fun {u} e=>by
   cases l with
   | nil=>cases e
   | cons a l=>injection e with e;subst e;rfl
  have t3:∀{u v:Int},l[0]?=some u→l[1]?=some v→(c::l).take 3=[c,u,v]:=fun {u v} e e2=>by
   cases l with
   | nil=>cases e
   | cons a l=>
    injection e with e
    subst e
    cases l with
    | nil=>cases e2
    | cons b l=>injection e2 with e2;subst e2;rfl
  have t4:∀{u v x:Int},l[0]?=some u→l[1]?=some v→l[2]?=some x→(c::l).take 4=[c,u,v,x]:=fun {u v x} e e2 e3=>by
   cases l with
   | nil=>cases e
   | cons a l=>
    injection e with e
    subst e
    cases l with
    | nil=>cases e2
    | cons b l=>
     injection e2 with e2
     subst e2
     cases l with
     | nil=>cases e3
     | cons d l=>injection e3 with e3;subst e3;rfl
  by_cases q1:c<128
  ·rw[one (s:=c) (lo:=128) (hi:=191) (by unfold ldF;rw[if_pos q1];rfl)]
   refine ⟨⟨c0,by simp only;omega,.inl (by simp only;omega)⟩,?_⟩
   unfold utfB
   rw[if_pos q1]
   rfl
  by_cases q2:c<194∨c>244
  ·exfalso
   have:ldF c=(0,0,128,191):=by unfold ldF;rw[if_neg q1,if_pos q2]
   have h9:oneF (c::l)=(0,1,1):=by
    unfold oneF
    simp only[this]
    rfl
   rw[h9] at h
   cases h
  by_cases q3:c<224
  ·obtain ⟨u,e1,e2,e3,e4⟩:=two (s:=c % 32) (lo:=128) (hi:=191) (by unfold ldF;rw[if_neg q1,if_neg q2,if_pos q3];rfl)
   rw[e4]
   refine ⟨⟨by simp only;omega,by simp only;omega,.inl (by simp only;omega)⟩,?_⟩
   simp only[Int.toNat_natCast]
   rw[t2 e1]
   unfold utfB
   rw[if_neg (by omega),if_pos (by omega)]
   congr 1
   ·omega
   ·congr 1
    omega
  have tri:∀{s lo hi:Int},ldF c=(((2+1:Nat):Int),s,lo,hi)→c=224+s→0≤s∧s<16→128≤lo→hi≤191→(s=0→160≤lo)→(s=13→hi≤159)→okS (oneF (c::l)).1∧utfB (oneF (c::l)).1=(c::l).take (oneF (c::l)).2.1.toNat:=fun {s lo hi} e hc hs h1 h2 h3 h4=>by
   obtain ⟨u,v,e1,e2,e3,e4,e5,e6,e7⟩:=three e
   rw[e7]
   have g0:(s*64+u % 64)*64+v % 64=s*4096+(u-128)*64+(v-128):=by omega
   have g1:2048≤s*4096+(u-128)*64+(v-128):=by
    by_cases hs0:s=0
    ·have:=h3 hs0;omega
    ·omega
   have g2:s*4096+(u-128)*64+(v-128)<55296∨s*4096+(u-128)*64+(v-128)>57343:=by
    by_cases hs0:s=13
    ·have:=h4 hs0;omega
    ·omega
   refine ⟨⟨by simp only;omega,by simp only;omega,by simp only;omega⟩,?_⟩
   simp only[Int.toNat_natCast]
   rw[t3 e1 e2,g0]
   unfold utfB
   rw[if_neg (by omega),if_neg (by omega),if_pos (by omega)]
   congr 1
   ·omega
   ·congr 1
    ·omega
    ·congr 1
     omega
  have qua:∀{s lo hi:Int},ldF c=(((3+1:Nat):Int),s,lo,hi)→c=240+s→0≤s∧s<5→128≤lo→hi≤191→(s=0→144≤lo)→(s=4→hi≤143)→okS (oneF (c::l)).1∧utfB (oneF (c::l)).1=(c::l).take (oneF (c::l)).2.1.toNat:=fun {s lo hi} e hc hs h1 h2 h3 h4=>by
   obtain ⟨u,v,x,e1,e2,e8,e3,e4,e5,e6,e9,e10,e7⟩:=four e
   rw[e7]
   have g0:((s*64+u % 64)*64+v % 64)*64+x % 64=s*262144+(u-128)*4096+(v-128)*64+(x-128):=by omega
   have g1:65536≤s*262144+(u-128)*4096+(v-128)*64+(x-128):=by
    by_cases hs0:s=0
    ·have:=h3 hs0;omega
    ·omega
   have g2:s*262144+(u-128)*4096+(v-128)*64+(x-128)≤1114111:=by
    by_cases hs0:s=4
    ·have:=h4 hs0;omega
    ·omega
   refine ⟨⟨by simp only;omega,by simp only;omega,by simp only;omega⟩,?_⟩
   simp only[Int.toNat_natCast]
   rw[t4 e1 e2 e8,g0]
   unfold utfB
   rw[if_neg (by omega),if_neg (by omega),if_neg (by omega)]
   congr 1
   ·omega
   ·congr 1
    ·omega
    ·congr 1
     ·omega
     ·congr 1
      omega
  by_cases q4:c=224
  ·exact tri (s:=0) (lo:=160) (hi:=191) (by unfold ldF;rw[if_neg q1,if_neg q2,if_neg q3,if_pos q4];rfl) (by omega) (by omega) (by omega) (by omega) (fun _=>by omega) (fun h=>by omega)
  by_cases q5:c=237
  ·exact tri (s:=13) (lo:=128) (hi:=159) (by unfold ldF;rw[if_neg q1,if_neg q2,if_neg q3,if_neg q4,if_pos q5];rfl) (by omega) (by omega) (by omega) (by omega) (fun _=>by omega) (fun h=>by omega)
  by_cases q6:c<240
  ·exact tri (s:=c % 16) (lo:=128) (hi:=191) (by unfold ldF;rw[if_neg q1,if_neg q2,if_neg q3,if_neg q4,if_neg q5,if_pos q6];rfl) (by omega) (by omega) (by omega) (by omega) (fun h=>by omega) (fun h=>by omega)
  by_cases q7:c=240
  ·exact qua (s:=0) (lo:=144) (hi:=191) (by unfold ldF;rw[if_neg q1,if_neg q2,if_neg q3,if_neg q4,if_neg q5,if_neg q6,if_pos q7];rfl) (by omega) (by omega) (by omega) (by omega) (fun _=>by omega) (fun h=>by omega)
  by_cases q8:c=244
  ·exact qua (s:=4) (lo:=128) (hi:=143) (by unfold ldF;rw[if_neg q1,if_neg q2,if_neg q3,if_neg q4,if_neg q5,if_neg q6,if_neg q7,if_pos q8];rfl) (by omega) (by omega) (by omega) (by omega) (fun h=>by omega) (fun _=>by omega)
  ·exact qua (s:=c % 8) (lo:=128) (hi:=191) (by unfold ldF;rw[if_neg q1,if_neg q2,if_neg q3,if_neg q4,if_neg q5,if_neg q6,if_neg q7,if_neg q8];rfl) (by omega) (by omega) (by omega) (by omega) (fun h=>by omega) (fun h=>by omega)
def ub (us:List Int):List Int:=us.flatMap utfB
theorem z4Q {a b:List Int}:ub (a++b)=ub a++ub b:=List.flatMap_append ..
theorem j0l {u:Int} {us:List Int}:ub (u::us)=utfB u++ub us:=List.flatMap_cons ..
def sF:List Tok→List Int×FT
 | []=>([],(0,0,0))
 | x::T=>if x.err≠0 then ([],(1,x.at_,x.err)) else (ub x.out++(sF T).1,(sF T).2)
theorem j0m {x:Tok} {T:List Tok} (h:x.err=0):sF (x::T)=(ub x.out++(sF T).1,(sF T).2):=by conv=>lhs;unfold sF;rw[if_neg (fun h2=>h2 h)]
theorem z4R {x:Tok} {T:List Tok} (h:x.err≠0):sF (x::T)=([],(1,x.at_,x.err)):=by unfold sF;rw[if_pos h]
def oT (pol:Int) (T:List Tok):List Int:=T.flatMap (q3l pol)
def gF (pol:Int) (T:List Tok):List Int×FT:=if pol=0 then sF T else (ub (oT pol T),(0,0,0))
theorem wr_S {pol a u:Int} {y:List Int×FT} (h:y.2.2.2=0):wrF pol (wrS a u).1 y=(y.1++utfB u,y.2):=by
 unfold wrS wrF
 rw[if_neg (fun h2=>h2 h),if_pos rfl]
 rfl
theorem pt_S {pol:Int}:∀(us:List Int) (a:Int) (y:List Int×FT),y.2.2.2=0→ptF pol wrS us (a,y)=(a+us.length,(y.1++ub us,y.2))
 | [],a,y,h=>by
  unfold ptF ub
  simp
 | u::us,a,y,h=>by
  unfold ptF
  rw[if_pos h]
  show ptF pol wrS us (a+1,wrF pol (wrS a u).1 y)=_
  rw[wr_S h,pt_S us (a+1) (y.1++utfB u,y.2) h,j0l,List.append_assoc,List.length_cons]
  congr 1
  push_cast
  omega
theorem tk_S {pol:Int} (hp:pol≠0):∀(T:List Tok) (a:Int) (y:List Int×FT),y.2.2.2=0→∃a',tkF pol wrS wfS T (a,y)=(a',(y.1++ub (oT pol T),y.2))
 | [],a,y,h=>⟨a,by unfold tkF oT ub;simp⟩
 | x::T,a,y,h=>by
  unfold tkF
  rw[if_neg (fun h2=>hp h2.2.2),pt_S _ _ _ h]
  obtain ⟨a',e⟩:=tk_S hp T (a+((q3l pol x).length:Nat)) (y.1++ub (q3l pol x),y.2) h
  refine ⟨a',?_⟩
  rw[e]
  unfold oT
  rw[List.flatMap_cons,z4Q,List.append_assoc]
theorem j0n:∀(T:List Tok) (a:Int) (l:List Int),∃a',tkF 0 wrS wfS T (a,(l,(0,0,0)))=(a',(l++(sF T).1,(sF T).2))
 | [],a,l=>⟨a,by unfold tkF sF;simp⟩
 | x::T,a,l=>by
  unfold tkF sF
  rw[pt_S _ _ _ rfl]
  by_cases hx:x.err=0
  ·rw[if_neg (fun h2=>h2.1 hx),if_neg (fun h2=>h2 hx)]
   have ho:q3l 0 x=x.out:=by unfold q3l;rw[if_pos hx]
   rw[ho]
   obtain ⟨a',e⟩:=j0n T (a+(x.out.length:Nat)) (l++ub x.out)
   refine ⟨a',?_⟩
   rw[e,List.append_assoc]
  ·have ho:q3l 0 x=[]:=by unfold q3l;rw[if_neg hx,if_neg (by decide)]
   rw[ho,if_pos ⟨hx,rfl,rfl⟩,if_pos hx]
   refine ⟨a,?_⟩
   unfold lfF wfS wrF ub
   simp
theorem z4S:∀(T:List Tok),(sF T).2.2.2=0→(sF T).2=(0,0,0)
 | [],_=>rfl
 | x::T,h=>by
  unfold sF at h ⊢
  by_cases hx:x.err=0
  ·rw[if_neg (fun h2=>h2 hx)] at h ⊢
   exact z4S T h
  ·rw[if_pos hx] at h
   exact absurd h hx
theorem z4T:∀(S T:List Tok),sF (S++T)=if (sF S).2.2.2=0 then ((sF S).1++(sF T).1,(sF T).2) else sF S
 | [],T=>by simp[sF]
 | x::S,T=>by
  rw[List.cons_append]
  by_cases hx:x.err=0
  ·rw[j0m hx,j0m hx,z4T S T]
   by_cases hz:(sF S).2.2.2=0
   ·rw[if_pos hz,if_pos hz,List.append_assoc]
   ·rw[if_neg hz,if_neg hz]
  ·rw[z4R hx,z4R hx,if_neg hx]
section
variable {ρ:Type} {rs:ρ→Int→List Tok×ρ} {rf:ρ→List Tok×ρ}
def fdR (rs:ρ→Int→List Tok×ρ):List Int→ρ→List Tok×ρ
 | [],r=>([],r)
 | u::us,r=>((rs r u).1++(fdR rs us (rs r u).2).1,(fdR rs us (rs r u).2).2)
theorem q5A {u:Int} {us:List Int} {r:ρ}:fdR rs (u::us) r=((rs r u).1++(fdR rs us (rs r u).2).1,(fdR rs us (rs r u).2).2):=rfl
def dcT (rs:ρ→Int→List Tok×ρ) (rf:ρ→List Tok×ρ) (xs:List Int) (r:ρ):List Tok:=(fdR rs xs r).1++(rf (fdR rs xs r).2).1
theorem al_S {pol:Int} (hp:pol≠0):∀(xs:List Int) (r:ρ) (a:Int) (l:List Int),∃a',alF pol rs wrS wfS xs r (a,(l,(0,0,0)))=((fdR rs xs r).2,(a',(l++ub (oT pol (fdR rs xs r).1),(0,0,0))))
 | [],r,a,l=>⟨a,by unfold alF fdR oT ub;simp⟩
 | u::us,r,a,l=>by
  obtain ⟨a1,e1⟩:=tk_S hp (rs r u).1 a (l,(0,0,0)) rfl
  unfold alF
  rw[e1,if_neg (fun h=>h rfl)]
  obtain ⟨a2,e2⟩:=al_S hp us (rs r u).2 a1 (l++ub (oT pol (rs r u).1))
  refine ⟨a2,?_⟩
  simp only
  rw[e2,q5A]
  unfold oT
  rw[List.flatMap_append,z4Q,List.append_assoc]
theorem j2O:∀(xs:List Int) (r:ρ) (a:Int) (l:List Int),∃a' r',alF 0 rs wrS wfS xs r (a,(l,(0,0,0)))=(r',(a',(l++(sF (fdR rs xs r).1).1,(sF (fdR rs xs r).1).2)))∧((sF (fdR rs xs r).1).2.2.2=0→r'=(fdR rs xs r).2)
 | [],r,a,l=>⟨a,r,by unfold alF fdR sF;simp,fun _=>rfl⟩
 | u::us,r,a,l=>by
  obtain ⟨a1,e1⟩:=j0n (rs r u).1 a l
  rw[q5A]
  unfold alF
  rw[e1]
  simp only
  rw[z4T]
  by_cases hz:(sF (rs r u).1).2.2.2=0
  ·rw[if_neg (fun h=>h hz),if_pos hz]
   have hz2:=z4S _ hz
   rw[hz2]
   obtain ⟨a2,r2,e2,e3⟩:=j2O us (rs r u).2 a1 (l++(sF (rs r u).1).1)
   refine ⟨a2,r2,?_,e3⟩
   rw[e2,List.append_assoc]
  ·rw[if_pos hz,if_neg hz]
   exact ⟨a1,_,rfl,fun h=>absurd h hz⟩
theorem sa_S {pol:Int} {xs:List Int} {r:ρ}:saF pol rs rf wrS wfS xs r 0=gF pol (dcT rs rf xs r):=by
 unfold saF gF dcT
 by_cases hp:pol=0
 ·subst hp
  rw[if_pos rfl]
  obtain ⟨a,r',e,e2⟩:=j2O (rs:=rs) xs r 0 []
  rw[e,z4T]
  simp only[List.nil_append]
  by_cases hz:(sF (fdR rs xs r).1).2.2.2=0
  ·rw[if_neg (fun h=>h hz),if_pos hz,e2 hz,z4S _ hz]
   unfold enF
   obtain ⟨a2,e3⟩:=j0n (rf (fdR rs xs r).2).1 a (sF (fdR rs xs r).1).1
   simp only
   rw[e3]
   simp only
   split
   ·unfold wfS wrF
    rfl
   ·rfl
  ·rw[if_pos hz,if_neg hz]
 ·rw[if_neg hp]
  obtain ⟨a,e⟩:=al_S (rs:=rs) hp xs r 0 []
  rw[e]
  simp only[List.nil_append]
  rw[if_neg (fun h=>h rfl)]
  unfold enF
  obtain ⟨a2,e3⟩:=tk_S hp (rf (fdR rs xs r).2).1 a (ub (oT pol (fdR rs xs r).1),(0,0,0)) rfl
  simp only
  rw[e3]
  simp only
  rw[if_pos trivial]
  unfold wfS wrF oT
  rw[List.flatMap_append,z4Q]
end
theorem j0o:okS 65533:=⟨by decide,by decide,.inr (by decide)⟩
theorem z6Q {pol:Int} {x:Tok} (h:x.err=0→∀u∈x.out,okS u):∀u∈q3l pol x,okS u:=fun u hu=>by
 unfold q3l at hu
 split at hu
 ·rename_i he
  exact h he u hu
 ·split at hu
  ·rw[List.mem_singleton.1 hu];exact j0o
  ·exact absurd hu (by simp)
theorem z4U {pol:Int} {x:Tok} (h:x.out.length≤8):(q3l pol x).length≤8:=by
 unfold q3l
 split
 ·exact h
 ·split<;>simp
theorem z8x {pol:Int}:∀(T:List Tok),(∀x∈T,x.out.length≤8)→cnt pol T≤8*T.length
 | [],_=>by simp[cnt]
 | x::T,h=>by
  rw[k5R,List.length_cons]
  have h1:=z4U (pol:=pol) (h x (List.mem_cons_self ..))
  have h2:=z8x (pol:=pol) T fun y hy=>h y (List.mem_cons_of_mem _ hy)
  omega
theorem z2a {pol:Int} {T:List Tok} (h1:∀x∈T,x.err=0→∀u∈x.out,okS u) (h2:∀x∈T,x.out.length≤8) (h3:T.length≤8):(∀x∈T,∀v∈q3l pol x,okS v)∧(∀x∈T,x.out.length<1000)∧cnt pol T≤100:=by
 have:=z8x (pol:=pol) T h2
 exact ⟨fun x hx=>z6Q (h1 x hx),fun x hx=>by have:=h2 x hx;omega,by omega⟩
theorem k7V {L:List Rl} (hR:q1a L) {e:Bool} {w:List Int} {a st:Int} (hok:∀r∈L,∀u∈r.2,okS u):(∀x∈(q0G L e w a st).1,x.err=0→∀u∈x.out,okS u)∧(∀x∈(q0G L e w a st).1,x.out.length≤8)∧(q0G L e w a st).1.length≤w.length:=by
 obtain ⟨n,n1,_,_,_,_,n6,_⟩:=q6p hR (e:=e) w.length w a st
 refine ⟨fun x hx he u hu=>?_,fun x hx=>?_,Nat.le_trans n6 n1⟩
 ·rcases q4g hR w.length w a st x hx with ⟨h,_⟩|⟨_,_,r,hr,h⟩
  ·rw[he] at h;cases h
  ·rw[h] at hu;exact hok r hr u hu
 ·rcases q4g hR w.length w a st x hx with ⟨_,h⟩|⟨_,h,_⟩
  ·rw[h];simp
  ·exact h
theorem rg_T {L:List Rl} (hR:q1a L) (hok:∀r∈L,∀u∈r.2,okS u) {pol:Int} {v:Value}:Rg (RdM L v) (rdS L) (rdF L) pol okS where
 good:=by
  intro n H r C D u ⟨k,d,m,t,ver,Hs,hv,dd,cd,gd,hX,hi⟩ hu
  have hl:=hi.wt.len hR
  obtain ⟨h1,h2,h3⟩:=k7V hR (e:=false) (w:=r.1++[u]) (a:=r.2.1) (st:=r.2.2) hok
  rw[List.length_append,List.length_singleton] at h3
  exact z2a h1 h2 (by show (q0G L false (r.1++[u]) r.2.1 r.2.2).1.length≤8;omega)
 goodf:=by
  intro n H r C D ⟨k,d,m,t,ver,Hs,hv,dd,cd,gd,hX,hi⟩
  have hl:=hi.wt.len hR
  obtain ⟨h1,h2,h3⟩:=k7V hR (e:=true) (w:=r.1) (a:=r.2.1) (st:=r.2.2) hok
  exact z2a h1 h2 (by show (q0G L true r.1 r.2.1 r.2.2).1.length≤8;omega)
theorem z4V:∀(c:Nat) (w:List Int) (a:Int),(∀u∈w,0≤u∧u<256)→∀x∈(lpF c w a).1,x.err=0→∀u∈x.out,okS u
 | 0,w,a,hb,x,hx=>absurd hx (by unfold lpF;simp)
 | c+1,w,a,hb,x,hx=>by
  unfold lpF at hx
  by_cases hne:w=[]
  ·rw[if_pos hne] at hx
   exact absurd hx (by simp)
  rw[if_neg hne] at hx
  by_cases h2:(oneF w).2.2=2
  ·rw[if_pos h2] at hx
   exact absurd hx (by simp)
  rw[if_neg h2] at hx
  rcases List.mem_cons.1 hx with rfl|hx
  ·intro he u hu
   have he:(oneF w).2.2=0:=he
   unfold rtT at hu
   simp only at hu
   rw[if_pos he] at hu
   rw[List.mem_singleton.1 hu]
   exact (z4P hb he).1
  ·exact z4V c _ _ (fun u hu=>hb u (List.mem_of_mem_drop hu)) x hx
theorem rg_B {pol:Int} {v:Value}:Rg (RdB v) rbS rbF pol okS where
 good:=by
  intro n H st C D u ⟨r,vw,hv,h,hi,hC,hD⟩ hu
  have hl:=hi.len
  have hb:∀x∈st.1++[u],0≤x∧x<256:=fun x hx=>by
   rcases List.mem_append.1 hx with hx|hx
   ·exact hi.by_ x hx
   ·rw[List.mem_singleton.1 hx];exact hu
  obtain ⟨_,_,_,_,i5,i6⟩:=k5T (st.1.length+1) (st.1++[u]) st.2 (by simp) hb
  rw[List.length_append,List.length_singleton] at i5
  exact z2a (z4V _ _ _ hb) (fun x hx=>by have:=i6 x hx;omega) (by show (lpF (st.1.length+1) (st.1++[u]) st.2).1.length≤8;omega)
 goodf:=by
  intro n H st C D ⟨r,vw,hv,h,hi,hC,hD⟩
  unfold rbF
  split
  ·exact z2a (fun x hx=>absurd hx (by simp)) (fun x hx=>absurd hx (by simp)) (by simp)
  ·refine z2a (fun x hx he=>?_) (fun x hx=>?_) (by simp)
   ·rw[List.mem_singleton.1 hx] at he
    cases he
   ·rw[List.mem_singleton.1 hx]
    unfold rtT
    simp
theorem k9l:∀(T:List Tok) (scr:Int),(∀x∈T,x.out.length≤8)→∀x∈(mnT scr T).1,x.out.length≤8
 | [],scr,_,x,hx=>absurd hx (by unfold mnT;simp)
 | y::T,scr,h,x,hx=>by
  unfold mnT at hx
  rcases List.mem_cons.1 hx with rfl|hx
  ·have:=k3h y.out scr []
   have:=h y (List.mem_cons_self ..)
   simp only[List.length_nil] at *
   omega
  ·exact k9l T _ (fun z hz=>h z (List.mem_cons_of_mem _ hz)) x hx
theorem rg_J {pol:Int} {scr:Int} {e:Bool} {w:List Int} {a st:Int} (hw:w.length≤8) (hs:0≤scr∧scr<9):(∀x∈(mnT scr (q0G Rind e w a st).1).1,∀v∈q3l pol x,okS v)∧(∀x∈(mnT scr (q0G Rind e w a st).1).1,x.out.length<1000)∧cnt pol (mnT scr (q0G Rind e w a st).1).1≤100:=by
 obtain ⟨n,n1,_,_,_,_,n6,_⟩:=q6p q1h (e:=e) w.length w a st
 have n6:(q0G Rind e w a st).1.length≤n:=n6
 refine z2a (fun x hx _=>(k5W _ scr (fun y hy=>z4H y hy) hs).2 x hx) (k9l _ scr fun x hx=>?_) (by rw[q9q];omega)
 rcases q4g q1h w.length w a st x hx with ⟨_,h⟩|⟨_,h,_⟩
 ·rw[h];simp
 ·exact h
theorem rg_I {pol:Int} {v:Value}:Rg (RdI v) rsI rfI pol okS where
 good:=by
  intro n H st C D u ⟨k,d,i,m,t,ver,ver2,Hs,C0,D0,hv,hi,dd,cd,di,gd,hX,hMi,hs,hfr,hC,hD⟩ hu
  have hl:=hMi.wt.len q1h
  exact rg_J (e:=false) (w:=st.1.1++[u]) (by rw[List.length_append,List.length_singleton];omega) hs
 goodf:=by
  intro n H st C D ⟨k,d,i,m,t,ver,ver2,Hs,C0,D0,hv,hi,dd,cd,di,gd,hX,hMi,hs,hfr,hC,hD⟩
  have hl:=hMi.wt.len q1h
  exact rg_J (e:=true) (w:=st.1.1) (by omega) hs
theorem j0p {ρ:Type} {R:Value→Nat→q0a→ρ→NS→NS→Prop} {rs:ρ→Int→List Tok×ρ} {rf:ρ→List Tok×ρ} {r0:ρ} {k:Nat} {pol:Int} {H:q0a} {x:Value} {xs:List Int} (hk:k<8) (hp:0≤pol∧pol<3) (hr:∀v,Mc (R v) v rs rf (fun u=>0≤u∧u<256) 900) (hrg:∀v,Rg (R v) rs rf pol okS)
  (hD:∀H,q0p (cw Tryz.prog (tabF tab) om1 18 [.string (nm k)] H) fun v H'=>∃rv C D,v=.tuple ⟨[rv,.int .i64 0]⟩∧one rv=true∧R rv 0 H' r0 C D∧NewM H H' C D)
  (hx:Nums H .u8 x xs) (hxb:∀u∈xs,0≤u∧u<256) (hxl:xs.length≤900) :
  q0p (cw Tryz.prog (tabF tab) om1 8 [.string (nm k),.string (nm 0),.int .i64 pol,x] H) fun v H'=>Ext H H'∧(gF pol (dcT rs rf xs r0)).1.length<100000000∧∃ow,v=.tuple ⟨[ow,fvF (gF pol (dcT rs rf xs r0)).2,.int .i64 0]⟩∧OwnB H' ow (gF pol (dcT rs rf xs r0)).1∧From H.n ow:=by
 obtain ⟨v,H2,c2,rfl,rv,wv,C,D,C',D',hM⟩:=z8n (f:=nm k) (t:=nm 0) (H:=H.push ⟨[.int .i64 0,.int .i64 0,.int .i64 0],27,.tip,0,[]⟩) (R:=R) (M:=WrM) hr (fun v=>mc_S (v:=v)) hp (fun H=>q8W hk) (fun H=>q8W (by omega)) hD (fun H=>mk_S)
 rw[q0a.n_push] at c2 hM
 have:=z8m (hr rv) (hrg rv) (mc_S (v:=wv)) (wg_S (v:=wv)) (by omega) hxl (by omega) hx hxb c2 hM
 rw[←sa_S]
 exact this
def nmL:List Value:=(List.range 8).map fun k=>.string (nm k)
theorem k5Y (H:q0a):cw Tryz.prog (tabF tab) om1 27 [] H=some (.slice (some ⟨H.n,0,none⟩) 8 9,H.push ⟨nmL,9,.tip,0,[]⟩):=k8M 3 (by kernel_rfl)
theorem k7W {k:Nat} (hk:k<8):nmL[k]?=some (.string (nm k)):=by
 unfold nmL
 rw[List.getElem?_map,List.getElem?_range hk]
 rfl
theorem j0q {n:Int} {H:q0a} (hn:0≤n∧n<256):q0p (cw Tryz.prog (tabF tab) om1 9 [.int .u8 n] H) fun v H'=>Ext H H'∧v=.string (nm (n % 8).toNat):=by
 rw[q0g (F:=q3u) rfl rfl rfl]
 unfold q3u q7s
 have x1:=Ext.push H ⟨nmL,9,.tip,0,[]⟩
 have g1:=q0b (H:=H) (b:=⟨nmL,9,.tip,0,[]⟩)
 have hs:Sl (H.push ⟨nmL,9,.tip,0,[]⟩) 1 (.slice (some ⟨H.n,0,none⟩) 8 9) 8 nmL:=Sl.new (n:=8) (c:=9) g1 q0n rfl
 have hk:(n % 8).toNat<8:=by omega
 obtain ⟨i,o,a1,a2,_⟩:=Sl.at hs hk
 have a3:q0l ((H.push ⟨nmL,9,.tip,0,[]⟩).get i) o none (H.push ⟨nmL,9,.tip,0,[]⟩)=some (.string (nm (n % 8).toNat),H.push ⟨nmL,9,.tip,0,[]⟩):=a2 0 _ (by omega) (by rw[Nat.mul_one,Nat.add_zero];exact k7W hk)
 have hl:=fun H9=>Sl.len (H2:=H9) hs
 have hw:IntKind.i64.wrap n=n:=q0k (by omega) (by omega)
 have hq:q2P .rem .i64 n 8=some (.int .i64 (((n % 8).toNat:Nat):Int)):=by rw[q4C (by decide),Int.tmod_eq_emod_of_nonneg hn.1];congr 2;omega
 have z:((8:Int)=0)=False:=by simp
 have z8:((8:Nat):Int)=8:=rfl
 rw[z8] at hl
 simp only[WA,Nat.reduceEqDiff,reduceCtorEq,k5Y,hl,z,hw,hq,a1,a3]
 exact x1
theorem z4W {P:Program} {H:q0a} {v:Value} {l:List Int} {k:Nat} (h:Nums H .u8 v l) (hc:Cut P H v 1) (hk:k≤l.length):∃v',(∀kd:IntKind,q3t (P:=P) v none (some (.int kd k)) 1 H=some (v',H))∧Nums H .u8 v' (l.take k):=by
 obtain ⟨v',g1,g2,_⟩:=Sl.take h hc hk
 refine ⟨v',g1,?_⟩
 unfold Nums
 rw[List.length_take,Nat.min_eq_left hk]
 simpa[List.map_take] using g2
def rulK:Nat→List Rl
 | 1=>ascR
 | 2=>RVis 256
 | 3=>k7H
 | 4=>Rvni
 | 5=>Rtis
 | _=>Rtam
theorem z4X:∀k,1≤k→k≤6→∀H,q0p (cw Tryz.prog (tabF tab) om1 17 [.string (nm k)] H) fun v H'=>Ext H H'∧∃q,v=.pointer (some ⟨q,0,none⟩)∧q1K H' q (rulK k)
 | 1,_,_,H=>q8v (fun H=>z6v) (by decide) k4K (Nat.le_of_ble_eq_true z6B) z6G
 | 2,_,_,H=>q8v (fun H=>z6m) (by show (RVis 256).length≠0;rw[q7p];omega) k4H (by show (RVis 256).length≤512;rw[q7p];omega) z6l
 | 3,_,_,H=>q8v (fun H=>z6w) (by decide) k3g (Nat.le_of_ble_eq_true z4C) z4D
 | 4,_,_,H=>q8v (fun H=>z6x) (by decide) k4L (Nat.le_of_ble_eq_true z6C) z6I
 | 5,_,_,H=>q8v (fun H=>z6y) (by decide) k4M (Nat.le_of_ble_eq_true z6D) z6H
 | 6,_,_,H=>q8v (fun H=>z6z) (by decide) k4N (Nat.le_of_ble_eq_true z6E) z6J
 | 0,h,_,_=>by omega
 | k+7,_,h,_=>by omega
theorem z4Y {L:List Rl}:∀(us:List Int) (T:List Tok) (r:MSt),feed L us (T,r)=(T++(fdR (rdS L) us r).1,(fdR (rdS L) us r).2)
 | [],T,r=>by unfold feed fdR;simp
 | u::us,T,r=>by
  rw[z4o,q5A]
  have h:=z4Y (L:=L) us (T++(rdS L r u).1) (rdS L r u).2
  rw[List.append_assoc] at h
  exact h
theorem dc_T {L:List Rl} (hR:q1a L) (us:List Int):dcT (rdS L) (rdF L) us ([],0,0)=allU L us 0:=by
 obtain ⟨h1,_,_⟩:=z1f hR us ([],[],0,0) ⟨.inl rfl⟩
 have h2:=z4Y (L:=L) us [] ([],0,0)
 rw[h2] at h1
 simp only[List.nil_append] at h1
 rw[←h1]
 unfold dcT rdF
 rw[(z4n hR).1]
theorem z4Z {L:List Rl} (hR:q1a L):∀(c:Nat) (us:List Int) (a:Int),us.length≤c→∀x∈allU L us a,a≤x.at_∧x.at_<a+us.length∧x.out.length≤8∧((x.err=3∧x.out=[])∨(x.err=0∧∃r∈L,x.out=r.2)):=by
 intro c
 induction c with
 | zero=>
  intro us a h x hx
  have:us=[]:=List.length_eq_zero_iff.1 (by omega)
  subst this
  cases hx
 | succ c ih=>
  intro us a h x hx
  by_cases hn:us=[]
  ·subst hn;cases hx
  ·obtain ⟨n,e,n1,n2⟩:=q6o hR hn a
   rw[k3a hR hn,e] at hx
   have hpos:=List.length_pos_iff.2 hn
   rcases List.mem_cons.1 hx with rfl|hx
   ·refine ⟨?_,?_,z6e hR,?_⟩
    ·rcases k3b hR hn a with ⟨q1,_⟩|⟨k,n,r,_,_,_,_,_,_,_,_,q9⟩
     ·rw[q1];exact Int.le_refl _
     ·rw[q9];exact Int.le_refl _
    ·rcases k3b hR hn a with ⟨q1,_⟩|⟨k,n,r,_,_,_,_,_,_,_,_,q9⟩
     ·rw[q1];simp only;omega
     ·rw[q9];simp only;omega
    ·rcases k3b hR hn a with ⟨q1,_⟩|⟨k,n,r,_,_,_,_,q5,_,_,_,q9⟩
     ·rw[q1];exact .inl ⟨rfl,rfl⟩
     ·rw[q9];exact .inr ⟨rfl,r,List.mem_of_getElem? q5,rfl⟩
   ·rw[Int.toNat_natCast] at hx
    obtain ⟨i1,i2,i3⟩:=ih _ _ (by rw[List.length_drop];omega) x hx
    rw[List.length_drop] at i2
    exact ⟨by omega,by omega,i3⟩
theorem z1l {x:Tok} {T:List Tok} {scr:Int}:mnT scr (x::T)=(⟨x.at_,x.len,(mnU scr [] x.out).1,x.err⟩::(mnT (mnU scr [] x.out).2 T).1,(mnT (mnU scr [] x.out).2 T).2):=rfl
theorem k9m:∀(S T:List Tok) (scr:Int),mnT scr (S++T)=((mnT scr S).1++(mnT (mnT scr S).2 T).1,(mnT (mnT scr S).2 T).2)
 | [],T,scr=>rfl
 | x::S,T,scr=>by
  rw[List.cons_append,z1l,z1l,k9m S T]
  rfl
theorem fd_I:∀(us:List Int) (r:MSt) (scr:Int),fdR rsI us (r,scr)=((mnT scr (fdR (rdS Rind) us r).1).1,((fdR (rdS Rind) us r).2,(mnT scr (fdR (rdS Rind) us r).1).2))
 | [],r,scr=>rfl
 | u::us,r,scr=>by
  rw[q5A,q5A,k9m]
  have h:=fd_I us (rdS Rind r u).2 (mnT scr (rdS Rind r u).1).2
  show ((mnT scr (rdS Rind r u).1).1++(fdR rsI us ((rdS Rind r u).2,(mnT scr (rdS Rind r u).1).2)).1,(fdR rsI us ((rdS Rind r u).2,(mnT scr (rdS Rind r u).1).2)).2)=_
  rw[h]
theorem dc_I (us:List Int):dcT rsI rfI us (([],0,0),0)=(mnT 0 (allU Rind us 0)).1:=by
 rw[←dc_T q1h us]
 unfold dcT
 rw[fd_I,k9m]
 rfl
theorem z5a:∀(T:List Tok) (scr:Int),∀x∈(mnT scr T).1,∃y∈T,x.at_=y.at_∧x.err=y.err
 | [],scr,x,hx=>absurd hx (by unfold mnT;simp)
 | y::T,scr,x,hx=>by
  unfold mnT at hx
  rcases List.mem_cons.1 hx with rfl|hx
  ·exact ⟨y,List.mem_cons_self ..,rfl,rfl⟩
  ·obtain ⟨z,h1,h2⟩:=z5a T _ x hx
   exact ⟨z,List.mem_cons_of_mem _ h1,h2⟩
theorem z8y:∀(c:Nat) (w:List Int) (a:Int),w.length≤c→(∀u∈w,0≤u∧u<256)→((lpF c w a).1.length:Int)+a≤(lpF c w a).2.2∧∀x∈(lpF c w a).1,a≤x.at_∧x.at_<a+w.length
 | 0,w,a,hc,hb=>by
  unfold lpF
  exact ⟨by simp,fun x hx=>absurd hx (by simp)⟩
 | c+1,w,a,hc,hb=>by
  by_cases hne:w=[]
  ·have hL:lpF (c+1) w a=([],w,a):=by unfold lpF;rw[if_pos hne]
   rw[hL]
   exact ⟨by simp,fun x hx=>absurd hx (by simp)⟩
  rcases k5S hne hb with ⟨e2,_⟩|⟨e01,n,en,n1,n2⟩
  ·have hL:lpF (c+1) w a=([],w,a):=by unfold lpF;rw[if_neg hne,if_pos e2]
   rw[hL]
   exact ⟨by simp,fun x hx=>absurd hx (by simp)⟩
  ·have ene:¬(oneF w).2.2=2:=by rcases e01 with h|h<;>rw[h]<;>decide
   have hL:lpF (c+1) w a=(rtT a (oneF w).1 (oneF w).2.2 n::(lpF c (w.drop n) (a+n)).1,(lpF c (w.drop n) (a+n)).2):=by
    conv=>lhs;unfold lpF
    rw[if_neg hne,if_neg ene,en,Int.toNat_natCast]
   obtain ⟨i1,i2⟩:=z8y c (w.drop n) (a+n) (by rw[List.length_drop];omega) fun u hu=>hb u (List.mem_of_mem_drop hu)
   rw[List.length_drop] at i2
   rw[hL]
   refine ⟨by simp only[List.length_cons];push_cast;omega,fun x hx=>?_⟩
   rcases List.mem_cons.1 hx with rfl|hx
   ·unfold rtT
    simp only
    omega
   ·have:=i2 x hx
    omega
theorem fd_B:∀(us:List Int) (st:BSt) (n:Nat),Bi n st→(∀u∈us,0≤u∧u<256)→(∀x∈(fdR rbS us st).1,st.2≤x.at_∧x.at_<st.2+st.1.length+us.length∧x.out.length≤8∧(x.err=0→∀u∈x.out,okS u))∧Bi (n+us.length) (fdR rbS us st).2∧(fdR rbS us st).2.2+(fdR rbS us st).2.1.length=st.2+st.1.length+us.length∧st.2≤(fdR rbS us st).2.2∧((fdR rbS us st).1.length:Int)+st.2≤(fdR rbS us st).2.2
 | [],st,n,hi,hb=>⟨fun x hx=>absurd hx (by unfold fdR;simp),hi,by simp[fdR],Int.le_refl _,by simp[fdR]⟩
 | u::us,st,n,hi,hb=>by
  have hu:=hb u (List.mem_cons_self ..)
  have hbw:∀x∈st.1++[u],0≤x∧x<256:=fun x hx=>by
   rcases List.mem_append.1 hx with hx|hx
   ·exact hi.by_ x hx
   ·rw[List.mem_singleton.1 hx];exact hu
  obtain ⟨_,_,i3,i4,i5,i6⟩:=k5T (st.1.length+1) (st.1++[u]) st.2 (by simp) hbw
  obtain ⟨j1,j2⟩:=z8y (st.1.length+1) (st.1++[u]) st.2 (by simp) hbw
  have j3:=z4V (st.1.length+1) (st.1++[u]) st.2 hbw
  rw[List.length_append,List.length_singleton] at i4 j2
  obtain ⟨q,hq⟩:∃q,lpF (st.1.length+1) (st.1++[u]) st.2=q:=⟨_,rfl⟩
  have hr:rbS st u=q:=hq
  rw[hq] at i3 i4 i5 i6 j1 j2 j3
  have hi2:Bi (n+1) q.2:=by rw[←hr];exact hi.put hu
  obtain ⟨h1,h2,h3,h4,h5⟩:=fd_B us q.2 (n+1) hi2 fun v hv=>hb v (List.mem_cons_of_mem _ hv)
  rw[q5A,hr,List.length_cons]
  refine ⟨fun x hx=>?_,by rw[show n+(us.length+1)=n+1+us.length by omega];exact h2,by rw[h3];push_cast;omega,by simp only;omega,by rw[List.length_append];push_cast;omega⟩
  rcases List.mem_append.1 hx with hx|hx
  ·have a1:=j2 x hx
   have a2:=i6 x hx
   exact ⟨a1.1,by push_cast;omega,by omega,j3 x hx⟩
  ·obtain ⟨b1,b2,b3⟩:=h1 x hx
   exact ⟨by omega,by push_cast;omega,b3⟩
def dcK (k:Nat) (xs:List Int):List Tok:=if k=0 then dcT rbS rbF xs ([],0) else if k=7 then dcT rsI rfI xs (([],0,0),0) else dcT (rdS (rulK k)) (rdF (rulK k)) xs ([],0,0)
def okLB (L:List Rl):Bool:=L.all fun r=>r.2.all fun u=>decide (0≤u∧u<55296)
theorem k4P {L:List Rl} (h:okLB L=true):∀r∈L,∀u∈r.2,okS u:=fun r hr u hu=>by
 have:=List.all_eq_true.1 (List.all_eq_true.1 h r hr) u hu
 rw[decide_eq_true_eq] at this
 exact ⟨this.1,by omega,.inl this.2⟩
theorem k5Z:∀k,1≤k→k≤6→q1a (rulK k)∧∀r∈rulK k,∀u∈r.2,okS u
 | 1,_,_=>⟨k4K,k4P (by kernel_rfl)⟩
 | 2,_,_=>⟨k4H,k4P (by kernel_rfl)⟩
 | 3,_,_=>⟨k3g,k4P (by kernel_rfl)⟩
 | 4,_,_=>⟨k4L,k4P (by kernel_rfl)⟩
 | 5,_,_=>⟨k4M,k4P (by kernel_rfl)⟩
 | 6,_,_=>⟨k4N,k4P (by kernel_rfl)⟩
 | 0,h,_=>by omega
 | k+7,_,h=>by omega
theorem j2P {k:Nat} (hk:k<8) {xs:List Int} (hb:∀u∈xs,0≤u∧u<256):(∀x∈dcK k xs,0≤x.at_∧x.at_<xs.length∧x.out.length≤8∧(x.err=0→∀u∈x.out,okS u))∧(dcK k xs).length≤xs.length:=by
 unfold dcK
 by_cases h0:k=0
 ·rw[if_pos h0]
  obtain ⟨h1,h2,h3,h4,h5⟩:=fd_B xs ([],0) 0 ⟨.inl rfl,fun u hu=>absurd hu (by simp),by decide,by decide⟩ hb
  simp only[List.length_nil] at h1 h3 h4 h5
  unfold dcT
  obtain ⟨q,hq⟩:∃q,(fdR rbS xs ([],0)).2=q:=⟨_,rfl⟩
  rw[hq] at h2 h3 h4 h5 ⊢
  have hf:(∀x∈(rbF q).1,0≤x.at_∧x.at_<xs.length∧x.out.length≤8∧(x.err=0→∀u∈x.out,okS u))∧(rbF q).1.length≤q.1.length:=by
   unfold rbF
   split
   ·exact ⟨fun x hx=>absurd hx (by simp),by simp⟩
   ·rename_i hne
    have:=List.length_pos_iff.2 hne
    refine ⟨fun x hx=>?_,by simp only[List.length_singleton];omega⟩
    rw[List.mem_singleton.1 hx]
    unfold rtT
    simp only
    exact ⟨h4,by omega,by simp,fun h=>by cases h⟩
  refine ⟨fun x hx=>?_,by rw[List.length_append];have:=hf.2;omega⟩
  rcases List.mem_append.1 hx with hx|hx
  ·obtain ⟨b1,b2,b3⟩:=h1 x hx
   exact ⟨b1,by omega,b3⟩
  ·exact hf.1 x hx
 rw[if_neg h0]
 by_cases h7:k=7
 ·rw[if_pos h7,dc_I]
  have hok:=fun x hx=>z4Z q1h xs.length xs 0 (Nat.le_refl _) x hx
  have hp:∀x∈allU Rind xs 0,okP x.out:=fun x hx=>by
   rcases (hok x hx).2.2.2 with ⟨_,h⟩|⟨_,r,hr,h⟩
   ·rw[h];exact fun u hu=>absurd hu (by simp)
   ·rw[h];exact z8p (List.all_eq_true.1 z1i r hr)
  refine ⟨fun x hx=>?_,by rw[q9q];exact z1b q1h xs.length xs 0 (Nat.le_refl _)⟩
  obtain ⟨y,hy,ha,he⟩:=z5a _ 0 x hx
  obtain ⟨a1,a2,a3,_⟩:=hok y hy
  exact ⟨by omega,by omega,k9l _ 0 (fun z hz=>(hok z hz).2.2.1) x hx,fun _=>(k5W _ 0 hp (by decide)).2 x hx⟩
 ·rw[if_neg h7]
  obtain ⟨hR,hok⟩:=k5Z k (by omega) (by omega)
  rw[dc_T hR]
  refine ⟨fun x hx=>?_,z1b hR xs.length xs 0 (Nat.le_refl _)⟩
  obtain ⟨a1,a2,a3,a4⟩:=z4Z hR xs.length xs 0 (Nat.le_refl _) x hx
  refine ⟨a1,by omega,a3,fun he u hu=>?_⟩
  rcases a4 with ⟨h,_⟩|⟨_,r,hr,h⟩
  ·rw[he] at h;cases h
  ·rw[h] at hu;exact hok r hr u hu
theorem j2Q {k:Nat} {pol:Int} {H:q0a} {x:Value} {xs:List Int} (hk:k<8) (hp:0≤pol∧pol<3) (hx:Nums H .u8 x xs) (hxb:∀u∈xs,0≤u∧u<256) (hxl:xs.length≤900) :
  q0p (cw Tryz.prog (tabF tab) om1 8 [.string (nm k),.string (nm 0),.int .i64 pol,x] H) fun v H'=>Ext H H'∧(gF pol (dcK k xs)).1.length<100000000∧∃ow,v=.tuple ⟨[ow,fvF (gF pol (dcK k xs)).2,.int .i64 0]⟩∧OwnB H' ow (gF pol (dcK k xs)).1∧From H.n ow:=by
 unfold dcK
 by_cases h0:k=0
 ·subst h0
  rw[if_pos rfl]
  exact j0p (R:=RdB) hk hp (fun v=>mc_B) (fun v=>rg_B) (fun H=>mk_B) hx hxb hxl
 rw[if_neg h0]
 by_cases h7:k=7
 ·subst h7
  rw[if_pos rfl]
  exact j0p (R:=RdI) hk hp (fun v=>mc_I) (fun v=>rg_I) (fun H=>mk_I) hx hxb hxl
 ·rw[if_neg h7]
  obtain ⟨hR,hok⟩:=k5Z k (by omega) (by omega)
  exact j0p (R:=RdM (rulK k)) hk hp (fun v=>mc_T hR) (fun v=>rg_T hR hok) (fun H=>mk_T hk h0 h7 fun H=>z4X k (by omega) (by omega) H) hx hxb hxl
end Go.Proofs.YtleiinhaljdcoaaGreatDoor
