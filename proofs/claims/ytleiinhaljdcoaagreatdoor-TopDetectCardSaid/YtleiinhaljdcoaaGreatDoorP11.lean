/- What is proved here: what the program's functions come to, as far as the claimed statement asks. Conditions: those that each theorem names, and no others. -/
import Derived.Test.YtleiinhaljdcoaaGreatDoorP10
set_option linter.unusedSimpArgs false
set_option linter.unusedVariables false
namespace Go.Proofs.YtleiinhaljdcoaaGreatDoor
open Go Lon
set_option maxRecDepth 100000
abbrev NS:=Nat→Prop
def Rd (C:NS) (H H':q0a):Prop:=(∀x m,m≠[]→Ints H x m→Cut Tryz.prog H x 1→(∀j,C j→q0i x j)→Ints H' x m∧Cut Tryz.prog H' x 1)∧∀j b,H.get j=some b→b.elem=36→H'.get j=some b
def Rt (C:NS) (H:q0a) (C':NS) (H':q0a):Prop:=(∀x m,m≠[]→Ints H x m→Cut Tryz.prog H x 1→(∀j,C j→q0i x j)→Ints H' x m∧Cut Tryz.prog H' x 1∧∀j,C' j→q0i x j)∧∀j b,H.get j=some b→b.elem=36→H'.get j=some b
theorem Rt.trans {A B C:NS} {a b c:q0a} (h:Rt A a B b) (k:Rt B b C c):Rt A a C c:=⟨fun x m hm h1 h2 h3=>by
 obtain ⟨g1,g2,g3⟩:=h.1 x m hm h1 h2 h3
 exact k.1 x m hm g1 g2 g3,fun j x hj he=>k.2 j x (h.2 j x hj he) he⟩
theorem Ext.rt {C:NS} {a b:q0a} (h:Ext a b):Rt C a C b:=⟨fun x m _ h1 h2 h3=>⟨h1.ext h,h2.ext h,h3⟩,fun j x hj _=>h.get hj⟩
theorem z9Z {H:q0a} {x:Value} {m:List Int} {j:Nat} (h:Ints H x m) (hm:m≠[]) (hj:H.n≤j):q0i x j:=by
 obtain ⟨⟨p,c,rfl⟩,h2⟩:=h
 have hm0:¬(m.length=0):=fun e=>hm (List.length_eq_zero_iff.1 e)
 cases p with
 | none=>trivial
 | some a=>
  obtain ⟨i,o,s⟩:=a
  intro e
  have e:i=j:=e
  subst e
  unfold cellsOf at h2
  split at h2
  ·rename_i hv
   injection hv with _ e2 _
   exact absurd e2 hm0
  ·rename_i i o n' c' hv
   injection hv with e1 e2 e3
   injection e1 with e1
   injection e1 with e1 _ _
   subst e1 e2
   rw[if_neg hm0] at h2
   split at h2
   ·rename_i blk hg
    have:=q0a.lt_of_get hg
    omega
   ·cases h2
  ·rename_i hv
   injection hv with _ e2 _
   exact absurd e2 hm0
  ·cases h2
theorem Rd.rt {C C':NS} {H H':q0a} (h:Rd C H H') (hc:∀j,j<H.n→C' j→C j):Rt C H C' H':=⟨fun x m hm h1 h2 h3=>by
 obtain ⟨g1,g2⟩:=h.1 x m hm h1 h2 h3
 refine ⟨g1,g2,fun j hj=>?_⟩
 by_cases hl:j<H.n
 ·exact h3 j (hc j hl hj)
 ·exact z9Z h1 hm (by omega),h.2⟩
theorem z4u {H H':q0a} {a:Option Addr} {c:Nat} (h:Ints H (.slice a 0 c) []):Ints H' (.slice a 0 c) []:=⟨⟨_,_,rfl⟩,by
 have h2:cellsOf H 1 (.slice a 0 c)=some []:=h.2
 show cellsOf H' 1 (.slice a 0 c)=some []
 cases a with
 | none=>
  cases c with
  | zero=>rfl
  | succ c=>
   have h3:(none:Option (List Value))=some []:=h2
   cases h3
 | some a=>
  obtain ⟨i,o,s⟩:=a
  cases s with
  | none=>rfl
  | some s=>
   cases c with
   | zero=>rfl
   | succ c=>
    have h3:(none:Option (List Value))=some []:=h2
    cases h3⟩
def tokA (Z:NS) (P:Program) (H:q0a) (cs:List Value) (t:Tok):Prop:=∃a c,(cs=tokC a c t∧(t.out=[]→∀H',Ints H' (.slice a 0 c) []))∧(t.out≠[]→Ints H (.slice a t.out.length c) t.out∧Cut P H (.slice a t.out.length c) 1∧∀j,Z j→q0i (.slice a t.out.length c) j)
abbrev q2C (Z:NS) (H:q0a) (v:Value) (L:List Tok):Prop:=q0U 4 (tokA Z Tryz.prog) H 36 v L
theorem q2C.tw {Z:NS} {H:q0a} {v:Value} {L:List Tok} (h:q2C Z H v L):k1o H v L:=by
 obtain ⟨h0,cs,h1,h2⟩:=h
 exact ⟨h0,cs,h1,fun k r hr=>by obtain ⟨a,c,g1,g2⟩:=h2 k r hr;exact ⟨a,c,g1.1,fun hn=>⟨(g2 hn).1,(g2 hn).2.1⟩⟩⟩
theorem q2C.mono {Z Z':NS} (hz:∀j,Z' j→Z j) {H:q0a} {v:Value} {L:List Tok} (h:q2C Z H v L):q2C Z' H v L:=by
 obtain ⟨h0,cs,h1,h2⟩:=h
 exact ⟨h0,cs,h1,fun k r hr=>by obtain ⟨a,c,g1,g2⟩:=h2 k r hr;exact ⟨a,c,g1,fun hn=>⟨(g2 hn).1,(g2 hn).2.1,fun j hj=>(g2 hn).2.2 j (hz j hj)⟩⟩⟩
theorem q2R.ta {B:Nat} {H:q0a} {v:Value} {L:List Tok} (h:q2R B H v L):q2C (fun j=>j<B) H v L:=by
 obtain ⟨h0,cs,h1,h2⟩:=h
 refine ⟨h0,cs,h1,fun k r hr=>?_⟩
 obtain ⟨⟨a,c,g1,g2,_,g4⟩,g5⟩:=h2 k r hr
 exact ⟨a,c,⟨g1,fun e _=>by rw[e] at g2;exact z4u g2⟩,fun _=>⟨g2,g4,fun j hj=>q0i.of_from (g5 a _ c (by rw[g1];rfl)) hj⟩⟩
theorem q2C.rt {C C':NS} {H H':q0a} (hk:Rt C H C' H') {v:Value} {L:List Tok} (ht:q2C C H v L):q2C C' H' v L:=by
 obtain ⟨q0,cs,q1,q2⟩:=ht
 refine ⟨q0,cs,q1.move fun i b hi he=>hk.2 i b hi he,fun k r hr=>?_⟩
 obtain ⟨p,c,h1,h2⟩:=q2 k r hr
 exact ⟨p,c,h1,fun hn=>hk.1 _ _ hn (h2 hn).1 (h2 hn).2.1 (h2 hn).2.2⟩
theorem q2C.at' {Z:NS} {H:q0a} {v:Value} {L:List Tok} (h:q2C Z H v L) {k:Nat} {x:Tok} (hx:L[k]?=some x):∃i o p c,(∀(kd:IntKind) (H2:q0a),q2E v (.int kd k) 4 H2=some (.pointer (some ⟨i,o,none⟩),H2))∧q0l (H.get i) o (some 4) H=some (.agg ⟨tokC p c x⟩,H)∧(x.out≠[]→Ints H (.slice p x.out.length c) x.out∧Cut Tryz.prog H (.slice p x.out.length c) 1∧∀j,Z j→q0i (.slice p x.out.length c) j):=by
 obtain ⟨i,o,row,a1,_,_,a4,p,c,⟨rfl,_⟩,a5⟩:=h.rws.at hx
 exact ⟨i,o,p,c,a1,a4,a5⟩
theorem q2C.at0 {Z:NS} {H:q0a} {v:Value} {L:List Tok} (h:q2C Z H v L) {k:Nat} {x:Tok} (hx:L[k]?=some x):∃i o p c,(∀(kd:IntKind) (H2:q0a),q2E v (.int kd k) 4 H2=some (.pointer (some ⟨i,o,none⟩),H2))∧q0l (H.get i) o (some 4) H=some (.agg ⟨tokC p c x⟩,H)∧Ints H (.slice p x.out.length c) x.out:=by
 obtain ⟨i,o,row,a1,_,_,a4,p,c,⟨rfl,a9⟩,a5⟩:=h.rws.at hx
 refine ⟨i,o,p,c,a1,a4,?_⟩
 by_cases h:x.out=[]
 ·rw[h];exact a9 h H
 ·exact (a5 h).1
theorem Fw.rt {C:NS} {s:Nat} {K:SK} {z:FT} {o1 o2:Value} {l:List Int} {H1 H2:q0a} (h:SB H1 s K o1 l z) (a:Fw s o1 H1 H2 o2):Rt C H1 C H2:=⟨fun x m hm h1 h2 h3=>by
 obtain ⟨g1,g2⟩:=Ints.fw h a h1 h2 hm
 exact ⟨g1,g2,h3⟩,fun j b hj he=>Fw.get h a hj (by rw[he];decide) (fun e=>absurd (he.symm.trans e) (by decide))⟩
def Only (C:NS) (H H':q0a):Prop:=H.n≤H'.n∧∀j,j<H.n→¬C j→H'.get j=H.get j
structure Mc {τ:Type} (M:Nat→q0a→τ→NS→NS→Prop) (mv:Value) (ws:τ→Int→List Tok×τ) (wf:τ→List Tok×τ) (okU:Int→Prop) (N:Nat):Prop where
 put : ∀ {n H st C D u}, M n H st C D → n < N → okU u → q0p (invA Tryz.prog (cw Tryz.prog (tabF tab) om1) mv "Put" [.int .i64 u] H) fun v H' => q2C (fun j => j < H.n) H' v (ws st u).1 ∧ Rd C H H' ∧ Only C H H' ∧ ∃ C' D', M (n + 1) H' (ws st u).2 C' D' ∧ (∀ j, j < H.n → C' j → C j) ∧ ∀ j, j < H.n → D' j → D j
 fin : ∀ {n H st C D}, M n H st C D → n ≤ N → q0p (invA Tryz.prog (cw Tryz.prog (tabF tab) om1) mv "End" [] H) fun v H' => q2C (fun j => j < H.n) H' v (wf st).1 ∧ Rd C H H' ∧ Only C H H' ∧ ∃ C' D', M n H' (wf st).2 C' D' ∧ (∀ j, j < H.n → C' j → C j) ∧ ∀ j, j < H.n → D' j → D j
 keep:∀{n H H' st C D},M n H st C D→H.n≤H'.n→(∀j,D j→H'.get j=H.get j)→M n H' st C D
 lt:∀{n H st C D j},M n H st C D→D j→j<H.n
 sub:∀{n H st C D j},M n H st C D→C j→D j
 mono:∀{n m H st C D},M n H st C D→n≤m→M m H st C D
structure Wg {τ:Type} (M:Nat→q0a→τ→NS→NS→Prop) (ws:τ→Int→List Tok×τ) (wf:τ→List Tok×τ) (okU:Int→Prop):Prop where
 good:∀{n H st C D u},M n H st C D→okU u→okW (ws st u).1∧wl (ws st u).1≤400
 goodf:∀{n H st C D},M n H st C D→okW (wf st).1∧wl (wf st).1≤400
structure Fx (s:Nat) (ow:Value) (C D:NS) (H:q0a) (ow':Value) (C' D':NS) (H':q0a):Prop where
 n:H.n≤H'.n
 k:∀j,j<H.n→j≠s→q0i ow j→¬C j→H'.get j=H.get j
 o:∀j,j<H.n→q0i ow j→q0i ow' j
 c:∀j,j<H.n→C' j→C j
 d:∀j,j<H.n→D' j→D j
theorem Fx.refl (s:Nat) (ow:Value) (C D:NS) (H:q0a):Fx s ow C D H ow C D H:=⟨Nat.le_refl _,fun _ _ _ _ _=>rfl,fun _ _ h=>h,fun _ _ h=>h,fun _ _ h=>h⟩
theorem Fx.trans {s:Nat} {o1 o2 o3:Value} {C1 D1 C2 D2 C3 D3:NS} {H1 H2 H3:q0a} (a:Fx s o1 C1 D1 H1 o2 C2 D2 H2) (b:Fx s o2 C2 D2 H2 o3 C3 D3 H3):Fx s o1 C1 D1 H1 o3 C3 D3 H3:=by
 have an:=a.n
 exact ⟨Nat.le_trans a.n b.n,fun j hj hs hn hc=>by rw[b.k j (by omega) hs (a.o j hj hn) (fun h=>hc (a.c j hj h)),a.k j hj hs hn hc],fun j hj hn=>b.o j (by omega) (a.o j hj hn),fun j hj h=>a.c j hj (b.c j (by omega) h),fun j hj h=>a.d j hj (b.d j (by omega) h)⟩
theorem Ext.fx {s:Nat} {ow:Value} {C D:NS} {H H':q0a} (h:Ext H H'):Fx s ow C D H ow C D H':=⟨h.1,fun j hj _ _ _=>h.2 j hj,fun _ _ h=>h,fun _ _ h=>h,fun _ _ h=>h⟩
theorem Fw.fx {s:Nat} {o1 o2:Value} {C D:NS} {H H':q0a} (h:Fw s o1 H H' o2):Fx s o1 C D H o2 C D H':=⟨h.n,fun j hj hs hn _=>h.k j hj hs hn,h.o,fun _ _ h=>h,fun _ _ h=>h⟩
theorem Only.fx {s:Nat} {ow:Value} {C D C' D':NS} {H H':q0a} (h:Only C H H') (h1:∀j,j<H.n→C' j→C j) (h2:∀j,j<H.n→D' j→D j):Fx s ow C D H ow C' D' H':=⟨h.1,fun j hj _ _ hc=>h.2 j hj hc,fun _ _ h=>h,h1,h2⟩
structure SM {τ:Type} (M:Nat→q0a→τ→NS→NS→Prop) (s:Nat) (K:SK) (n:Nat) (H:q0a) (ow:Value) (C D:NS) (q:τ×List Int×FT):Prop where
 sb:SB H s K ow q.2.1 q.2.2
 m:M n H q.1 C D
 ds:¬D s
 dn:∀j,D j→q0i ow j
section
variable {τ:Type} {M:Nat→q0a→τ→NS→NS→Prop} {ws:τ→Int→List Tok×τ} {wf:τ→List Tok×τ} {okU:Int→Prop} {N s:Nat} {K:SK}
theorem SB.only {C:NS} {H H':q0a} {ow:Value} {l:List Int} {z:FT} (h:SB H s K ow l z) (ho:Only C H H') (hs:¬C s) (hn:∀j,C j→q0i ow j):SB H' s K ow l z:=by
 obtain ⟨ver,hg⟩:=h.hs
 have hget:∀j b,H.get j=some b→¬C j→H'.get j=some b:=fun j b hj hc=>by rw[ho.2 j (q0a.lt_of_get hj) hc];exact hj
 refine ⟨⟨ver,hget _ _ hg hs⟩,?_⟩
 obtain ⟨h1,h2⟩:=h.ho
 refine ⟨h1,?_⟩
 rcases h2 with h2|⟨j,ver,anc,rfl,hn2,hg2⟩
 ·exact .inl h2
 ·exact .inr ⟨j,ver,anc,rfl,hn2,hget _ _ hg2 (fun hc=>hn j hc rfl)⟩
theorem SB.lt {H:q0a} {ow:Value} {l:List Int} {z:FT} (h:SB H s K ow l z):s<H.n:=by
 obtain ⟨ver,hg⟩:=h.hs
 exact q0a.lt_of_get hg
theorem k0o {H:q0a} {ow:Value} {l:List Int} {j:Nat} (h:OwnB H ow l) (hj:H.n≤j):q0i ow j:=by
 obtain ⟨_,⟨rfl,_⟩|⟨i,ver,anc,rfl,hn,hg⟩⟩:=h
 ·trivial
 ·intro e
  simp only at e
  subst e
  have:=q0a.lt_of_get hg
  omega
theorem SM.ran {n n':Nat} {H H':q0a} {ow:Value} {C D C' D':NS} {q:τ×List Int×FT} {st:τ} (hm:Mc M K.wr ws wf okU N) (h:SM M s K n H ow C D q) (ho:Only C H H') (hM:M n' H' st C' D') (hc:∀j,j<H.n→C' j→C j) (hd:∀j,j<H.n→D' j→D j):SM M s K n' H' ow C' D' (st,q.2):=by
 have hsl:=h.sb.lt
 refine ⟨h.sb.only ho (fun hc=>h.ds (hm.sub h.m hc)) (fun j hj=>h.dn j (hm.sub h.m hj)),hM,fun hs=>h.ds (hd s hsl hs),fun j hj=>?_⟩
 by_cases hl:j<H.n
 ·exact h.dn j (hd j hl hj)
 ·exact k0o h.sb.ho (by omega)
theorem SM.owed {n:Nat} {H H':q0a} {ow ow':Value} {C D:NS} {q:τ×List Int×FT} {y:List Int×FT} (hm:Mc M K.wr ws wf okU N) (h:SM M s K n H ow C D q) (hS:SB H' s K ow' y.1 y.2) (hf:Fw s ow H H' ow'):SM M s K n H' ow' C D (q.1,y):=
 ⟨hS,hm.keep h.m hf.n fun j hj=>hf.k j (hm.lt h.m hj) (fun e=>h.ds (e▸hj)) (h.dn j hj),h.ds,fun j hj=>hf.o j (hm.lt h.m hj) (h.dn j hj)⟩
theorem SM.ext {n:Nat} {H H':q0a} {ow:Value} {C D:NS} {q:τ×List Int×FT} (hm:Mc M K.wr ws wf okU N) (h:SM M s K n H ow C D q) (hx:Ext H H'):SM M s K n H' ow C D q:=⟨h.sb.ext hx,hm.keep h.m hx.1 fun j hj=>hx.2 j (hm.lt h.m hj),h.ds,h.dn⟩
def ptF (pol:Int) (ws:τ→Int→List Tok×τ):List Int→τ×List Int×FT→τ×List Int×FT
 | [],q=>q
 | u::us,q=>if q.2.2.2.2=0 then ptF pol ws us ((ws q.1 u).2,wrF pol (ws q.1 u).1 q.2) else ptF pol ws us q
theorem q9p (pol:Int):∀(T:List Tok) (y:List Int×FT),(wrF pol T y).1.length≤y.1.length+wl T
 | [],y=>by simp[wrF,wl]
 | x::T,y=>by
  unfold wrF
  rw[k5Q]
  split
  ·omega
  split
  ·have:=q9p pol T (y.1++x.out,y.2)
   rw[List.length_append] at this
   omega
  split
  ·have:=q9p pol T (y.1,(2,x.at_,x.err))
   simp only at this
   omega
  split
  ·have:=q9p pol T (y.1++[63],y.2)
   rw[List.length_append] at this
   simp only[List.length_singleton] at this
   omega
  ·have:=q9p pol T y
   omega
def PT0 (M:Nat→q0a→τ→NS→NS→Prop) (s:Nat) (K:SK) (bd:Nat) (t5 v9 v10 v11:Value) (n:Nat) (ow:Value) (C D:NS) (H:q0a) (q:τ×List Int×FT) (y:AEx) (e':Env) (H':q0a):Prop:=y=.exit 2∧eget e' 0=.pointer (some ⟨s,0,none⟩)∧eget e' 5=t5∧eget e' 9=v9∧eget e' 10=v10∧eget e' 11=v11∧q.2.1.length≤bd∧∃ow' C' D',SM M s K n H' ow' C' D' q∧Fx s ow C D H ow' C' D' H'∧Rt C H C' H'
theorem j0a (hm:Mc M K.wr ws wf okU N) (hg:Wg M ws wf okU) {t5 v9 v10 v11 x ow0:Value} {C0 D0:NS} {H0:q0a} {m:List Int} {bd:Nat} (hbd:bd<500000000) (hU:∀u∈m,okU u):∀(c k n:Nat) (H:q0a) (ow:Value) (C D:NS) (q:τ×List Int×FT),k+c=m.length→m.length<1000→n+c≤N→q.2.1.length+400*c≤bd→SM M s K n H ow C D q→(k<m.length→Ints H x m∧Cut Tryz.prog H x 1∧∀j,C j→q0i x j)→Fx s ow0 C0 D0 H0 ow C D H→Rt C0 H0 C H →
  Out (run Tryz.prog (tabF tab) om1 (.loop [0,5,9,10,11,26,27,28] q0Y) [(0,.pointer (some ⟨s,0,none⟩)),(5,t5),(9,v9),(10,v10),(11,v11),(26,x),(27,.int .i64 m.length),(28,.int .i64 k)] H) (PT0 M s K bd t5 v9 v10 v11 (n+c) ow0 C0 D0 H0 (ptF K.pol ws (m.drop k) q)):=by
 intro c
 induction c with
 | zero=>
  intro k n H ow C D q hk hml hn hl h hi hf hr
  obtain rfl:k=m.length:=by omega
  have zz:(((m.length:Nat):Int)<(m.length:Nat))=False:=by simp
  rw[q0d q0Y.eq_1]
  simp only[WA,Nat.reduceEqDiff,reduceCtorEq,zz]
  rw[List.drop_of_length_le (Nat.le_refl _)]
  exact ⟨rfl,rfl,rfl,rfl,rfl,rfl,by simp only[ptF];omega,ow,C,D,h,hf,hr⟩
 | succ c ih=>
  intro k n H ow C D q hk hml hn hl h hi hf hr
  have hlt:((k:Int)<(m.length:Nat))=True:=eq_true (by omega)
  obtain ⟨u,hu,hdx⟩:=q0z (L:=m) (i:=k) (by omega)
  have hou:=hU u (List.mem_of_getElem? hu)
  obtain ⟨hi1,hi2,hi3⟩:=hi (by omega)
  obtain ⟨i,o,a1,a2⟩:=hi1.at hu
  have hw2:IntKind.i64.wrap ((k:Int)+1)=((k+1:Nat):Int):=by rw[q0k (by omega) (by omega)];omega
  obtain ⟨ver,gs⟩:=h.sb.hs
  have hmne:m≠[]:=fun e=>by subst e;simp at hu
  rw[hdx]
  by_cases hz:q.2.2.2.2=0
  ·have z8:(q.2.2.2.2=0)=True:=eq_true hz
   obtain ⟨tv,H2,c2,t2,rd2,on2,C2,D2,m2,hc2,hd2⟩:=hm.put h.m (by omega) hou
   have h2:=h.ran hm on2 m2 hc2 hd2
   obtain ⟨g1,g2⟩:=hg.good h.m hou
   have hlen:=q9p K.pol (ws q.1 u).1 q.2
   obtain ⟨vw,H3,c3,ow3,s3,f3⟩:=k3f (T:=(ws q.1 u).1) g1 (by simp only;omega) h2.sb t2.tw
   have h3:=h2.owed hm s3 f3
   have f03:=hf.trans ((on2.fx hc2 hd2).trans f3.fx)
   have r23:=(rd2.rt hc2).trans (Fw.rt h2.sb f3)
   have r03:=hr.trans r23
   obtain ⟨y,e',H',r1,r2⟩:=ih (k+1) (n+1) H3 ow3 C2 D2 ((ws q.1 u).2,wrF K.pol (ws q.1 u).1 q.2) (by omega) hml (by omega) (by simp only;omega) h3 (fun _=>r23.1 x m hmne hi1 hi2 hi3) f03 r03
   have hP:ptF K.pol ws (u::m.drop (k+1)) q=ptF K.pol ws (m.drop (k+1)) ((ws q.1 u).2,wrF K.pol (ws q.1 u).1 q.2):=by conv=>lhs;unfold ptF;rw[if_pos hz]
   rw[hP,show n+(c+1)=n+1+c by omega]
   rw[q0d q0Y.eq_1]
   simp only[WA,Nat.reduceEqDiff,Nat.reduceAdd,reduceCtorEq,hlt,a1,a2,gs,sc8,sc4,z8,q6H,c2,c3,hw2]
   rw[q0e]
   simp only[WA,Nat.reduceEqDiff,reduceCtorEq,r1]
   exact r2
  ·have z8:(q.2.2.2.2=0)=False:=eq_false hz
   obtain ⟨y,e',H',r1,r2⟩:=ih (k+1) (n+1) H ow C D q (by omega) hml (by omega) (by omega) ⟨h.sb,hm.mono h.m (by omega),h.ds,h.dn⟩ (fun _=>⟨hi1,hi2,hi3⟩) hf hr
   have hP:ptF K.pol ws (u::m.drop (k+1)) q=ptF K.pol ws (m.drop (k+1)) q:=by conv=>lhs;unfold ptF;rw[if_neg hz]
   rw[hP,show n+(c+1)=n+1+c by omega]
   rw[q0d q0Y.eq_1]
   simp only[WA,Nat.reduceEqDiff,Nat.reduceAdd,reduceCtorEq,hlt,a1,a2,gs,sc8,z8,hw2]
   rw[q0e]
   simp only[WA,Nat.reduceEqDiff,reduceCtorEq,r1]
   exact r2
theorem SM.upd {n j:Nat} {H:q0a} {ow:Value} {C D:NS} {q:τ×List Int×FT} {b c:ABlk} (hm:Mc M K.wr ws wf okU N) (h:SM M s K n H ow C D q) (hg:H.get j=some b) (hs:j≠s) (hn:q0i ow j) (hd:¬D j):SM M s K n (H.upd j c) ow C D q:=by
 refine ⟨?_,hm.keep h.m (by simp) fun i hi=>q0j hg (fun e=>by subst e;exact hd hi),h.ds,h.dn⟩
 exact h.sb.only (C:=fun i=>i=j) ⟨by simp,fun i hi hc=>q0j hg hc⟩ (fun e=>hs e.symm) (fun i e=>by subst e;exact hn)
theorem Rt.upd {C:NS} {j ver:Nat} {cs:List Value} {H:q0a} {el:TypeId} {c:ABlk} {sz:Nat} (hg:H.get j=some ⟨cs,el,.tip,ver,[]⟩) (h1:(Tryz.prog.info? el).map (·.size)=some sz) (h2:sz≠1) (h3:el≠36):Rt C H C (H.upd j c):=by
 have hk:∀i b,H.get i=some b→b.elem≠el→(H.upd j c).get i=some b:=fun i b hi he=>by
  rw[q0j hg (fun e=>by subst e;rw[hg] at hi;injection hi with hi;subst hi;exact he rfl)]
  exact hi
 exact ⟨fun x m hm i1 i2 i3=>by
  obtain ⟨g1,g2⟩:=i1.elem (P:=Tryz.prog) i2 h1 h2 hk
  exact ⟨g1,g2,i3⟩,fun i b hi he=>hk i b hi (fun e=>h3 (e.symm.trans he))⟩
theorem Fx.upd {j:Nat} {s:Nat} {ow ow':Value} {C D C' D':NS} {H H':q0a} {b c:ABlk} (h:Fx s ow C D H ow' C' D' H') (hg:H'.get j=some b) (hj:H.n≤j):Fx s ow C D H ow' C' D' (H'.upd j c):=⟨by simp;exact h.n,fun i hi h1 h2 h3=>by rw[q0j hg (by omega)];exact h.k i hi h1 h2 h3,h.o,h.c,h.d⟩
theorem Fx.at {s j:Nat} {ow ow':Value} {C D C' D':NS} {H0 H H':q0a} {b:ABlk} (h:Fx s ow C D H ow' C' D' H') (hg:H.get j=some b) (hj:H0.n≤j) (hs:s<H0.n) (hC:∀i,C i→i<H0.n) (ho:q0i ow j):H'.get j=some b:=by
 rw[h.k j (q0a.lt_of_get hg) (by omega) ho (fun hc=>by have:=hC j hc;omega)]
 exact hg
def fvF (f:FT):Value:=.agg ⟨[.int .i64 f.1,.int .i64 f.2.1,.int .i64 f.2.2]⟩
theorem z6p {H:q0a} {i ver:Nat} {el:TypeId} {ow:Value} {z f:FT}:q0u (some ⟨SC K ow z,el,.tip,ver,[]⟩) i 6 (fvF f) 3 H=some (.tuple ⟨[]⟩,H.upd i ⟨SC K ow f,el,.tip,ver+1,[]⟩):=k5P
def lfF (pol:Int) (wf:τ→List Tok×τ) (q:τ×List Int×FT):List Int×FT:=wrF pol (wf q.1).1 (q.2.1,(0,0,0))
theorem z8l {H:q0a}:q2l [.int .i64 0,.int .i64 0,.int .i64 0] [] H=some (.agg ⟨[.int .i64 0,.int .i64 0,.int .i64 0]⟩,H):=rfl
theorem j2j (hm:Mc M K.wr ws wf okU N) (hg:Wg M ws wf okU) {n:Nat} {H:q0a} {ow:Value} {C D:NS} {q:τ×List Int×FT} (h:SM M s K n H ow C D q) (hn:n≤N) (hl:q.2.1.length<500000000) :
  q0p (cw Tryz.prog (tabF tab) om1 47 [.pointer (some ⟨s,0,none⟩)] H) fun v H'=>v=fvF (if (lfF K.pol wf q).2.2.2≠0 then (lfF K.pol wf q).2 else q.2.2)∧∃ow' C' D',SM M s K n H' ow' C' D' ((wf q.1).2,lfF K.pol wf q)∧Fx s ow C D H ow' C' D' H'∧Rt C H C' H':=by
 rw[q0g (F:=q2a) rfl rfl rfl]
 unfold q2a q4V
 have hsl:=h.sb.lt
 have hCl:∀i,C i→i<H.n:=fun i hi=>hm.lt h.m (hm.sub h.m hi)
 obtain ⟨H1,hH1⟩:∃H1,H1=H.push ⟨[.int .i64 0,.int .i64 0,.int .i64 0],27,.tip,0,[]⟩:=⟨_,rfl⟩
 have x1:Ext H H1:=by rw[hH1];exact Ext.push H _
 have g1:H1.get H.n=some ⟨[.int .i64 0,.int .i64 0,.int .i64 0],27,.tip,0,[]⟩:=by rw[hH1];exact q0b
 have n1:H1.n=H.n+1:=by rw[hH1,q0a.n_push]
 obtain ⟨H2,hH2⟩:∃H2,H2=H1.push ⟨[.int .i64 q.2.2.1,.int .i64 q.2.2.2.1,.int .i64 q.2.2.2.2],27,.tip,1,[]⟩:=⟨_,rfl⟩
 have x2:Ext H1 H2:=by rw[hH2];exact Ext.push H1 _
 have g2:H2.get H1.n=some ⟨[.int .i64 q.2.2.1,.int .i64 q.2.2.2.1,.int .i64 q.2.2.2.2],27,.tip,1,[]⟩:=by rw[hH2];exact q0b
 have st2:=q8w (H:=H1.push ⟨[.int .i64 0,.int .i64 0,.int .i64 0],27,.tip,0,[]⟩) (i:=H1.n) (ver:=0) (el:=27) (a:=.int .i64 0) (b:=.int .i64 0) (c:=.int .i64 0) (u:=.int .i64 q.2.2.1) (v:=.int .i64 q.2.2.2.1) (x:=.int .i64 q.2.2.2.2) rfl
 simp only[Nat.zero_add] at st2
 have h1:=h.ext hm x1
 have h2:=h1.ext hm x2
 obtain ⟨ver1,gs1⟩:=h1.sb.hs
 obtain ⟨ver,H3,gs,hH3,gs3,s3,f3⟩:=h2.sb.flt (0,0,0)
 have st3:=k5P (H:=H2) (i:=s) (ver:=ver) (el:=70) (K:=K) (ow:=ow) (z:=q.2.2) (a:=0) (b:=0) (c:=0)
 rw[←hH3] at st3
 have h3:=h2.owed hm (y:=(q.2.1,(0,0,0))) s3 f3
 obtain ⟨tv,H4,c4,t4,rd4,on4,C4,D4,m4,hc4,hd4⟩:=hm.fin h3.m hn
 have h4:=h3.ran hm on4 m4 hc4 hd4
 obtain ⟨gg1,gg2⟩:=hg.goodf h3.m
 have gg2:wl (wf q.1).1≤400:=gg2
 obtain ⟨vw,H5,c5,ow5,s5,f5⟩:=k3f (T:=(wf q.1).1) gg1 (by simp only;omega) h4.sb t4.tw
 have h5:SM M s K n H5 ow5 C4 D4 ((wf q.1).2,lfF K.pol wf q):=h4.owed hm s5 f5
 obtain ⟨ver5,gs5⟩:=h5.sb.hs
 have f25:Fx s ow C D H2 ow5 C4 D4 H5:=(f3.fx).trans ((on4.fx hc4 hd4).trans f5.fx)
 have rd25:Rt C H2 C4 H5:=(Fw.rt h2.sb f3).trans ((rd4.rt hc4).trans (Fw.rt h4.sb f5))
 have x12:Ext H H2:=x1.trans x2
 have f05:Fx s ow C D H ow5 C4 D4 H5:=(Ext.fx x12).trans f25
 have na1:q0i ow H.n:=k0o h.sb.ho (Nat.le_refl _)
 have na2:q0i ow H1.n:=k0o h.sb.ho (by omega)
 have g15:=f25.at (x2.get g1) (Nat.le_refl _) hsl hCl na1
 have g25:=f25.at (H0:=H) g2 (by omega) hsl hCl na2
 have ld2:q0l (some ⟨[.int .i64 q.2.2.1,.int .i64 q.2.2.2.1,.int .i64 q.2.2.2.2],27,.tip,1,[]⟩) 0 (some 3) H5=some (.agg ⟨[.int .i64 q.2.2.1,.int .i64 q.2.2.2.1,.int .i64 q.2.2.2.2]⟩,H5):=z9Y
 have hsz:(Tryz.prog.info? 27).map (·.size)=some 3:=by kernel_rfl
 have nd5:¬D4 H.n:=fun hd=>by
  have:=hm.lt h.m (hd4 H.n (by have:=x2.1;have:=f3.n;omega) hd)
  omega
 by_cases hz:(lfF K.pol wf q).2.2.2=0
 ·have z8:((lfF K.pol wf q).2.2.2≠0)=False:=eq_false (fun h=>h hz)
  have st6:=q8w (H:=H5) (i:=H.n) (ver:=0) (el:=27) (a:=.int .i64 0) (b:=.int .i64 0) (c:=.int .i64 0) (u:=.int .i64 q.2.2.1) (v:=.int .i64 q.2.2.2.1) (x:=.int .i64 q.2.2.2.2) rfl
  obtain ⟨H6,hH6⟩:∃H6,H6=H5.upd H.n ⟨[.int .i64 q.2.2.1,.int .i64 q.2.2.2.1,.int .i64 q.2.2.2.2],27,.tip,0+1,[]⟩:=⟨_,rfl⟩
  rw[←hH6] at st6
  have g6:H6.get H.n=some ⟨[.int .i64 q.2.2.1,.int .i64 q.2.2.2.1,.int .i64 q.2.2.2.2],27,.tip,0+1,[]⟩:=by rw[hH6];exact q0r g15
  simp only[WA,Nat.reduceEqDiff,Nat.reduceAdd,reduceCtorEq,←hH1,gs1,sc6r,st2,←hH2,z8l,gs,st3,gs3,sc4,q6H,c4,c5,gs5,sc8,z8,g25,ld2,g15,st6,q2h,q4f,g6]
  exact ⟨rfl,ow5,C4,D4,by rw[hH6];exact h5.upd hm g15 (by omega) (f25.o H.n (by have:=x2.1;omega) na1) nd5,by rw[hH6];exact f05.upd g15 (Nat.le_refl _),(Ext.rt x12).trans (rd25.trans (by rw[hH6];exact Rt.upd g15 hsz (by decide) (by decide)))⟩
 ·have z8:((lfF K.pol wf q).2.2.2≠0)=True:=eq_true hz
  have st6:=q8w (H:=H5) (i:=H.n) (ver:=0) (el:=27) (a:=.int .i64 0) (b:=.int .i64 0) (c:=.int .i64 0) (u:=.int .i64 (lfF K.pol wf q).2.1) (v:=.int .i64 (lfF K.pol wf q).2.2.1) (x:=.int .i64 (lfF K.pol wf q).2.2.2) rfl
  obtain ⟨H6,hH6⟩:∃H6,H6=H5.upd H.n ⟨[.int .i64 (lfF K.pol wf q).2.1,.int .i64 (lfF K.pol wf q).2.2.1,.int .i64 (lfF K.pol wf q).2.2.2],27,.tip,0+1,[]⟩:=⟨_,rfl⟩
  rw[←hH6] at st6
  have g6:H6.get H.n=some ⟨[.int .i64 (lfF K.pol wf q).2.1,.int .i64 (lfF K.pol wf q).2.2.1,.int .i64 (lfF K.pol wf q).2.2.2],27,.tip,0+1,[]⟩:=by rw[hH6];exact q0r g15
  simp only[WA,Nat.reduceEqDiff,Nat.reduceAdd,reduceCtorEq,←hH1,gs1,sc6r,st2,←hH2,z8l,gs,st3,gs3,sc4,q6H,c4,c5,gs5,sc8,z8,g15,st6,q2h,q4f,g6]
  exact ⟨rfl,ow5,C4,D4,by rw[hH6];exact h5.upd hm g15 (by omega) (f25.o H.n (by have:=x2.1;omega) na1) nd5,by rw[hH6];exact f05.upd g15 (Nat.le_refl _),(Ext.rt x12).trans (rd25.trans (by rw[hH6];exact Rt.upd g15 hsz (by decide) (by decide)))⟩
end
def q3l (pol:Int) (x:Tok):List Int:=if x.err=0 then x.out else if pol=1 then [65533] else []
def cnt (pol:Int) (T:List Tok):Nat:=(T.map fun x=>(q3l pol x).length).sum
theorem k5R {pol:Int} {x:Tok} {T:List Tok}:cnt pol (x::T)=(q3l pol x).length+cnt pol T:=by simp[cnt]
section
variable {τ:Type} {M:Nat→q0a→τ→NS→NS→Prop} {ws:τ→Int→List Tok×τ} {wf:τ→List Tok×τ} {okU:Int→Prop} {N s:Nat} {K:SK}
def tkF (pol:Int) (ws:τ→Int→List Tok×τ) (wf:τ→List Tok×τ):List Tok→τ×List Int×FT→τ×List Int×FT
 | [],q=>q
 | x::T,q=>if x.err≠0∧(ptF pol ws (q3l pol x) q).2.2.2.2=0∧pol=0 then
   ((wf (ptF pol ws (q3l pol x) q).1).2,(lfF pol wf (ptF pol ws (q3l pol x) q)).1,if (lfF pol wf (ptF pol ws (q3l pol x) q)).2.2.2≠0 then (lfF pol wf (ptF pol ws (q3l pol x) q)).2 else (1,x.at_,x.err))
  else tkF pol ws wf T (ptF pol ws (q3l pol x) q)
def PTK (M:Nat→q0a→τ→NS→NS→Prop) (s:Nat) (K:SK) (bd n:Nat) (ow:Value) (C D:NS) (H:q0a) (q:τ×List Int×FT) (y:AEx) (e':Env) (H':q0a):Prop:=(y=.exit 0∨y=.ret)∧q.2.1.length≤bd+400∧∃ow' C' D',SM M s K n H' ow' C' D' q∧Fx s ow C D H ow' C' D' H'∧Rt C H C' H'
theorem SM.mono {n m:Nat} {H:q0a} {ow:Value} {C D:NS} {q:τ×List Int×FT} (hm:Mc M K.wr ws wf okU N) (h:SM M s K n H ow C D q) (hn:n≤m):SM M s K m H ow C D q:=⟨h.sb,hm.mono h.m hn,h.ds,h.dn⟩
theorem v_bad {H:q0a}:∃H1,q0D 3 1 1 [.int .i64 0] [(0,1,.int .i64 65533)] H=some (.slice (some ⟨H.n,0,none⟩) 1 2,H1)∧Ext H H1∧Ints H1 (.slice (some ⟨H.n,0,none⟩) 1 2) [65533]∧Cut Tryz.prog H1 (.slice (some ⟨H.n,0,none⟩) 1 2) 1:=⟨_,rfl,Ext.push H _,Sl.new (n:=1) (c:=2) q0b q0n rfl,⟨_,q0b,by kernel_rfl⟩⟩
theorem l_tk1 (hm:Mc M K.wr ws wf okU N) (hg:Wg M ws wf okU) {bd:Nat} (hbd:bd<400000000) {w ow0:Value} {C0 D0:NS} {H0:q0a} {T:List Tok} (hU:∀x∈T,∀u∈q3l K.pol x,okU u) (hL:∀x∈T,x.out.length<1000):∀(c k n:Nat) (H:q0a) (ow:Value) (C D:NS) (q:τ×List Int×FT),k+c=T.length→n+cnt K.pol (T.drop k)≤N→q.2.1.length+400*cnt K.pol (T.drop k)≤bd→SM M s K n H ow C D q→q2C C H w T→Fx s ow0 C0 D0 H0 ow C D H→Rt C0 H0 C H →
  Out (run Tryz.prog (tabF tab) om1 (.loop [0,9,10,11] q0q) [(0,.pointer (some ⟨s,0,none⟩)),(9,w),(10,.int .i64 T.length),(11,.int .i64 k)] H) (PTK M s K bd (n+cnt K.pol (T.drop k)) ow0 C0 D0 H0 (tkF K.pol ws wf (T.drop k) q)):=by
 intro c
 induction c with
 | zero=>
  intro k n H ow C D q hk hn hl h ht hf hr
  obtain rfl:k=T.length:=by omega
  have zz:(((T.length:Nat):Int)<(T.length:Nat))=False:=by simp
  rw[q0d q0q.eq_1]
  simp only[WA,Nat.reduceEqDiff,reduceCtorEq,zz]
  rw[List.drop_of_length_le (Nat.le_refl _)]
  exact ⟨.inl rfl,by simp only[tkF];omega,ow,C,D,h.mono hm (by omega),hf,hr⟩
 | succ c ih=>
  intro k n H ow C D q hk hn hl h ht hf hr
  have hTl:=ht.1
  have hlt:((k:Int)<(T.length:Nat))=True:=eq_true (by omega)
  obtain ⟨x,hxk,hdx⟩:=q0z (L:=T) (i:=k) (by omega)
  have hxm:=List.mem_of_getElem? hxk
  have hxl:=hL x hxm
  rw[hdx,k5R] at hn hl
  obtain ⟨i,o,px,cx,a1,a6,a7⟩:=q2C.at' ht hxk
  obtain ⟨H1,hH1⟩:∃H1,H1=H.push ⟨tokC px cx x,36,.tip,1,[]⟩:=⟨_,rfl⟩
  have x1:Ext H H1:=by rw[hH1];exact Ext.push H _
  have g1:H1.get H.n=some ⟨tokC px cx x,36,.tip,1,[]⟩:=by rw[hH1];exact q0b
  have h1:=h.ext hm x1
  have f1:=hf.trans (Ext.fx x1)
  have r1':=hr.trans (Ext.rt x1)
  have hw2:IntKind.i64.wrap ((k:Int)+1)=((k+1:Nat):Int):=by rw[q0k (by omega) (by omega)];omega
  rw[hdx,k5R]
  obtain ⟨qq,hqq⟩:∃qq,qq=ptF K.pol ws (q3l K.pol x) q:=⟨_,rfl⟩
  have hT0:tkF K.pol ws wf (x::T.drop (k+1)) q=if x.err≠0∧qq.2.2.2.2=0∧K.pol=0 then ((wf qq.1).2,(lfF K.pol wf qq).1,if (lfF K.pol wf qq).2.2.2≠0 then (lfF K.pol wf qq).2 else (1,x.at_,x.err)) else tkF K.pol ws wf (T.drop (k+1)) qq:=by rw[hqq];rfl
  rw[hT0]
  have tail:∀(H3:q0a) (ow3:Value) (C3 D3:NS),qq.2.1.length+400*cnt K.pol (T.drop (k+1))≤bd→SM M s K (n+(q3l K.pol x).length) H3 ow3 C3 D3 qq→Fx s ow C D H1 ow3 C3 D3 H3→Rt C H1 C3 H3 →
    Out (run Tryz.prog (tabF tab) om1 (.loop [0,9,10,11] q0q) [(0,.pointer (some ⟨s,0,none⟩)),(9,w),(10,.int .i64 T.length),(11,.int .i64 (k+1:Nat))] H3) (PTK M s K bd (n+((q3l K.pol x).length+cnt K.pol (T.drop (k+1)))) ow0 C0 D0 H0 (tkF K.pol ws wf (T.drop (k+1)) qq)):=fun H3 ow3 C3 D3 hb h3 f3 r3=>by
   rw[←Nat.add_assoc]
   exact ih (k+1) _ H3 ow3 C3 D3 qq (by omega) (by omega) (by omega) h3 (q2C.rt ((Ext.rt x1).trans r3) ht) (f1.trans f3) (r1'.trans r3)
  by_cases hx:x.err=0
  ·have ho:q3l K.pol x=x.out:=by unfold q3l;rw[if_pos hx]
   rw[ho] at tail hqq hn hl ⊢
   have hU2:=hU x hxm
   rw[ho] at hU2
   have z8:(x.err≠0)=False:=eq_false (fun h=>h hx)
   rw[if_neg (fun h=>h.1 hx)]
   obtain ⟨y',e2,H3,p1,rfl,p2,p3,p4,p5,p6,pl,ow3,C3,D3,p7,p8,p9⟩:=j0a hm hg (bd:=bd-400*cnt K.pol (T.drop (k+1))) (by omega) (t5:=.pointer (some ⟨H.n,0,none⟩)) (v9:=w) (v10:=.int .i64 T.length) (v11:=.int .i64 k) (x:=.slice px x.out.length cx) (m:=x.out) (ow0:=ow) (C0:=C) (D0:=D) (H0:=H1) hU2 x.out.length 0 n H1 ow C D q (by omega) hxl (by omega) (by omega) h1 (fun hn0=>⟨(a7 (fun e=>by rw[e] at hn0;simp at hn0)).1.ext x1,(a7 (fun e=>by rw[e] at hn0;simp at hn0)).2.1.ext x1,(a7 (fun e=>by rw[e] at hn0;simp at hn0)).2.2⟩) (Fx.refl _ _ _ _ _) (Ext.rt (Ext.refl H1))
   rw[List.drop_zero,←hqq] at p7 pl
   obtain ⟨y,e',H',r1,r2⟩:=tail H3 ow3 C3 D3 (by omega) p7 p8 p9
   have g3:=p9.2 _ _ g1 rfl
   rw[show ((0:Nat):Int)=0 from rfl] at p1
   rw[q0d q0q.eq_1]
   simp only[WA,Nat.reduceEqDiff,reduceCtorEq,hlt,a1,a6,q1F,←hH1,g1,tk2,tk3,z8]
   rw[q0e]
   simp only[WA,Nat.reduceEqDiff,reduceCtorEq,p1,p3,p6,g3,tk3,z8,hw2]
   rw[q0e]
   simp only[WA,Nat.reduceEqDiff,reduceCtorEq,p2,p4,p5,p6,r1]
   exact r2
  ·have z8:(x.err≠0)=True:=eq_true hx
   by_cases hp1:K.pol=1
   ·have ho:q3l K.pol x=[65533]:=by unfold q3l;rw[if_neg hx,if_pos hp1]
    rw[ho] at tail hqq hn hl ⊢
    have hU2:=hU x hxm
    rw[ho] at hU2
    have zp:(K.pol=1)=True:=eq_true hp1
    rw[if_neg (fun h=>by have:=h.2.2;omega)]
    obtain ⟨H2,v2,x2,i2,k2⟩:=v_bad (H:=H1)
    obtain ⟨y',e2,H3,p1,rfl,p2,p3,p4,p5,p6,pl,ow3,C3,D3,p7,p8,p9⟩:=j0a hm hg (bd:=bd-400*cnt K.pol (T.drop (k+1))) (by omega) (t5:=.pointer (some ⟨H.n,0,none⟩)) (v9:=w) (v10:=.int .i64 T.length) (v11:=.int .i64 k) (x:=.slice (some ⟨H1.n,0,none⟩) 1 2) (m:=[65533]) (ow0:=ow) (C0:=C) (D0:=D) (H0:=H1) hU2 1 0 n H2 ow C D q (by simp) (by simp) (by simp at hn;omega) (by simp at hl;omega) (h1.ext hm x2) (fun _=>⟨i2,k2,fun j hj=>fun e=>by have:H1.n=j:=e;have:=hm.lt h1.m (hm.sub h1.m hj);omega⟩) (Ext.fx x2) (Ext.rt x2)
    rw[List.drop_zero,←hqq] at p7 pl
    have g3:=p9.2 _ _ g1 rfl
    obtain ⟨ver1,gs1⟩:=h1.sb.hs
    obtain ⟨ver3,gs3⟩:=p7.sb.hs
    rw[show ((0:Nat):Int)=0 from rfl,show (([65533]:List Int).length:Int)=1 from rfl] at p1
    by_cases hq0:qq.2.2.2.2=0
    ·have zq:(qq.2.2.2.2=0)=True:=eq_true hq0
     have ld:q0l (some ⟨tokC px cx x,36,.tip,1,[]⟩) 0 (some 4) H3=some (.agg ⟨tokC px cx x⟩,H3):=by rw[q4e q0n (by simp[tokC])];rfl
     obtain ⟨vw,H4,c4,rfl,s4,f4⟩:=k9f (side:=1) (p:=px) (c:=cx) (x:=x) p7.sb
     have hd:decide (K.pol=0)=false:=by simp[hp1]
     rw[hd] at c4
     rw[if_neg (by omega)] at s4
     have h4:=p7.owed hm (y:=qq.2) s4 f4
     obtain ⟨y,e',H',r1,r2⟩:=tail H4 ow3 C3 D3 (by omega) h4 (p8.trans f4.fx) (p9.trans (Fw.rt p7.sb f4))
     rw[q0d q0q.eq_1]
     simp only[WA,Nat.reduceEqDiff,reduceCtorEq,Int.cast_ofNat_Int,hlt,a1,a6,q1F,←hH1,g1,tk2,tk3,z8,gs1,sc2,zp,v2]
     rw[q0e]
     simp only[WA,Nat.reduceEqDiff,Nat.reduceAdd,reduceCtorEq,p1,p2,p3,p6,g3,tk3,z8,gs3,sc8,zq,ld,c4,hw2]
     rw[q0e]
     simp only[WA,Nat.reduceEqDiff,reduceCtorEq,p2,p4,p5,p6,r1]
     exact r2
    ·have zq:(qq.2.2.2.2=0)=False:=eq_false hq0
     obtain ⟨y,e',H',r1,r2⟩:=tail H3 ow3 C3 D3 (by omega) p7 p8 p9
     rw[q0d q0q.eq_1]
     simp only[WA,Nat.reduceEqDiff,reduceCtorEq,Int.cast_ofNat_Int,hlt,a1,a6,q1F,←hH1,g1,tk2,tk3,z8,gs1,sc2,zp,v2]
     rw[q0e]
     simp only[WA,Nat.reduceEqDiff,Nat.reduceAdd,reduceCtorEq,p1,p2,p3,p6,g3,tk3,z8,gs3,sc8,zq,hw2]
     rw[q0e]
     simp only[WA,Nat.reduceEqDiff,reduceCtorEq,p2,p4,p5,p6,r1]
     exact r2
   ·have ho:q3l K.pol x=[]:=by unfold q3l;rw[if_neg hx,if_neg hp1]
    rw[ho] at tail hqq hn hl ⊢
    simp only[List.length_nil,Nat.zero_add,Nat.add_zero] at tail hn hl ⊢
    have hU2:=hU x hxm
    rw[ho] at hU2
    have zp:(K.pol=1)=False:=eq_false hp1
    obtain ⟨y',e2,H3,p1,rfl,p2,p3,p4,p5,p6,pl,ow3,C3,D3,p7,p8,p9⟩:=j0a hm hg (bd:=bd-400*cnt K.pol (T.drop (k+1))) (by omega) (t5:=.pointer (some ⟨H.n,0,none⟩)) (v9:=w) (v10:=.int .i64 T.length) (v11:=.int .i64 k) (x:=.slice none 0 0) (m:=[]) (ow0:=ow) (C0:=C) (D0:=D) (H0:=H1) hU2 0 0 n H1 ow C D q (by simp) (by simp) (by omega) (by omega) h1 (fun h0=>by simp at h0) (Fx.refl _ _ _ _ _) (Ext.rt (Ext.refl H1))
    rw[List.drop_zero,←hqq] at p7 pl
    have g3:=p9.2 _ _ g1 rfl
    obtain ⟨ver1,gs1⟩:=h1.sb.hs
    obtain ⟨ver3,gs3⟩:=p7.sb.hs
    rw[show ((0:Nat):Int)=0 from rfl,show (([]:List Int).length:Int)=0 from rfl] at p1
    by_cases hq0:qq.2.2.2.2=0
    ·have zq:(qq.2.2.2.2=0)=True:=eq_true hq0
     have ld:q0l (some ⟨tokC px cx x,36,.tip,1,[]⟩) 0 (some 4) H3=some (.agg ⟨tokC px cx x⟩,H3):=by rw[q4e q0n (by simp[tokC])];rfl
     obtain ⟨vw,H4,c4,rfl,s4,f4⟩:=k9f (side:=1) (p:=px) (c:=cx) (x:=x) p7.sb
     by_cases hp0:K.pol=0
     ·rw[if_pos ⟨hx,hq0,hp0⟩]
      have hd:decide (K.pol=0)=true:=by simp[hp0]
      rw[hd] at c4
      rw[if_pos hp0] at s4
      have h4:=p7.owed hm (y:=(qq.2.1,(1,x.at_,x.err))) s4 f4
      obtain ⟨v5,H5,c5,rfl,ow5,C5,D5,h5,f5,rd5⟩:=j2j hm hg h4 (by omega) (by simp only;omega)
      obtain ⟨ver6,H6,gs5,hH6,gs6,s6,f6⟩:=h5.sb.flt (if (lfF K.pol wf (qq.1,(qq.2.1,(1,x.at_,x.err)))).2.2.2≠0 then (lfF K.pol wf (qq.1,(qq.2.1,(1,x.at_,x.err)))).2 else (1,x.at_,x.err))
      have st6:=z6p (H:=H5) (i:=s) (ver:=ver6) (el:=70) (K:=K) (ow:=ow5) (z:=(lfF K.pol wf (qq.1,(qq.2.1,(1,x.at_,x.err)))).2) (f:=if (lfF K.pol wf (qq.1,(qq.2.1,(1,x.at_,x.err)))).2.2.2≠0 then (lfF K.pol wf (qq.1,(qq.2.1,(1,x.at_,x.err)))).2 else (1,x.at_,x.err))
      rw[←hH6] at st6
      have h6:=h5.owed hm (y:=((lfF K.pol wf (qq.1,(qq.2.1,(1,x.at_,x.err)))).1,if (lfF K.pol wf (qq.1,(qq.2.1,(1,x.at_,x.err)))).2.2.2≠0 then (lfF K.pol wf (qq.1,(qq.2.1,(1,x.at_,x.err)))).2 else (1,x.at_,x.err))) s6 f6
      rw[q0d q0q.eq_1]
      simp only[WA,Nat.reduceEqDiff,reduceCtorEq,Int.cast_ofNat_Int,hlt,a1,a6,q1F,←hH1,g1,tk2,tk3,z8,gs1,sc2,zp]
      rw[q0e]
      simp only[WA,Nat.reduceEqDiff,Nat.reduceAdd,reduceCtorEq,p1,p2,p3,g3,tk3,z8,gs3,sc8,zq,ld,c4,c5,gs5,st6]
      exact ⟨.inr rfl,by have:=q9p K.pol (wf qq.1).1 (qq.2.1,(0,0,0));have:=(hg.goodf h4.m).2;simp only[lfF] at *;omega,ow5,C5,D5,h6.mono hm (by omega),f1.trans (p8.trans (f4.fx.trans (f5.trans f6.fx))),r1'.trans (p9.trans ((Fw.rt p7.sb f4).trans (rd5.trans (Fw.rt h5.sb f6))))⟩
     ·rw[if_neg (fun h=>hp0 h.2.2)]
      have hd:decide (K.pol=0)=false:=by simp[hp0]
      rw[hd] at c4
      rw[if_neg hp0] at s4
      have h4:=p7.owed hm (y:=qq.2) s4 f4
      obtain ⟨y,e',H',r1,r2⟩:=tail H4 ow3 C3 D3 (by omega) h4 (p8.trans f4.fx) (p9.trans (Fw.rt p7.sb f4))
      rw[q0d q0q.eq_1]
      simp only[WA,Nat.reduceEqDiff,reduceCtorEq,Int.cast_ofNat_Int,hlt,a1,a6,q1F,←hH1,g1,tk2,tk3,z8,gs1,sc2,zp]
      rw[q0e]
      simp only[WA,Nat.reduceEqDiff,Nat.reduceAdd,reduceCtorEq,p1,p2,p3,p6,g3,tk3,z8,gs3,sc8,zq,ld,c4,hw2]
      rw[q0e]
      simp only[WA,Nat.reduceEqDiff,reduceCtorEq,p2,p4,p5,p6,r1]
      exact r2
    ·have zq:(qq.2.2.2.2=0)=False:=eq_false hq0
     rw[if_neg (fun h=>hq0 h.2.1)]
     obtain ⟨y,e',H',r1,r2⟩:=tail H3 ow3 C3 D3 (by omega) p7 p8 p9
     rw[q0d q0q.eq_1]
     simp only[WA,Nat.reduceEqDiff,reduceCtorEq,Int.cast_ofNat_Int,hlt,a1,a6,q1F,←hH1,g1,tk2,tk3,z8,gs1,sc2,zp]
     rw[q0e]
     simp only[WA,Nat.reduceEqDiff,Nat.reduceAdd,reduceCtorEq,p1,p2,p3,p6,g3,tk3,z8,gs3,sc8,zq,hw2]
     rw[q0e]
     simp only[WA,Nat.reduceEqDiff,reduceCtorEq,p2,p4,p5,p6,r1]
     exact r2
theorem z4v (hm:Mc M K.wr ws wf okU N) (hg:Wg M ws wf okU) {w ow:Value} {C D:NS} {H:q0a} {T:List Tok} {n:Nat} {q:τ×List Int×FT} (hU:∀x∈T,∀u∈q3l K.pol x,okU u) (hL:∀x∈T,x.out.length<1000) (hn:n+cnt K.pol T≤N) (hl:q.2.1.length+400*cnt K.pol T<400000000) (h:SM M s K n H ow C D q) (ht:q2C C H w T) :
  q0p (cw Tryz.prog (tabF tab) om1 25 [.pointer (some ⟨s,0,none⟩),w] H) fun v H'=>(tkF K.pol ws wf T q).2.1.length≤q.2.1.length+400*cnt K.pol T+400∧∃ow' C' D',SM M s K (n+cnt K.pol T) H' ow' C' D' (tkF K.pol ws wf T q)∧Fx s ow C D H ow' C' D' H'∧Rt C H C' H':=by
 rw[q0g (F:=q1L) rfl rfl rfl]
 unfold q1L q4m
 have hw:=fun H9=>Rws.len (H2:=H9) ht.rws
 obtain ⟨y,e',H',r1,ry,r2⟩:=l_tk1 hm hg hl (w:=w) hU hL T.length 0 n H ow C D q (by omega) (by rw[List.drop_zero];exact hn) (by rw[List.drop_zero];exact Nat.le_refl _) h ht (Fx.refl _ _ _ _ _) (Ext.rt (Ext.refl H))
 rw[show ((0:Nat):Int)=0 from rfl] at r1
 rw[List.drop_zero] at r2
 simp only[WA,Nat.reduceEqDiff,reduceCtorEq,hw]
 rw[q0e]
 rcases ry with rfl|rfl
 ·simp only[WA,Nat.reduceEqDiff,reduceCtorEq,r1]
  exact r2
 ·simp only[WA,Nat.reduceEqDiff,reduceCtorEq,r1]
  exact r2
end
structure Rg {ρ:Type} (R:Nat→q0a→ρ→NS→NS→Prop) (rs:ρ→Int→List Tok×ρ) (rf:ρ→List Tok×ρ) (pol:Int) (okU:Int→Prop):Prop where
 good:∀{n H r C D u},R n H r C D→0≤u∧u<256→(∀x∈(rs r u).1,∀v∈q3l pol x,okU v)∧(∀x∈(rs r u).1,x.out.length<1000)∧cnt pol (rs r u).1≤100
 goodf:∀{n H r C D},R n H r C D→(∀x∈(rf r).1,∀v∈q3l pol x,okU v)∧(∀x∈(rf r).1,x.out.length<1000)∧cnt pol (rf r).1≤100
structure RM {ρ τ:Type} (R:Nat→q0a→ρ→NS→NS→Prop) (M:Nat→q0a→τ→NS→NS→Prop) (B s:Nat) (K:SK) (H0:q0a) (i n:Nat) (H:q0a) (ow:Value) (r:ρ) (q:τ×List Int×FT) (C D C' D':NS):Prop where
 r:R i H r C D
 m:SM M s K n H ow C' D' q
 ds:¬D s
 dn:∀j,D j→q0i ow j
 cd:∀j,C j→¬D' j
 dc:∀j,C' j→¬D j
 bl:∀j,C j∨C' j→B≤j
 sl:B≤s
 ol:∀j,j<B→q0i ow j
 hl:∀j,j<B→H.get j=H0.get j
 bn:B≤H.n
section
variable {ρ τ:Type} {R:Nat→q0a→ρ→NS→NS→Prop} {M:Nat→q0a→τ→NS→NS→Prop} {rs:ρ→Int→List Tok×ρ} {rf:ρ→List Tok×ρ} {ws:τ→Int→List Tok×τ} {wf:τ→List Tok×τ} {okU:Int→Prop} {N I B s:Nat} {K:SK} {H0:q0a}
theorem RM.read (hr:Mc R K.rd rs rf (fun u=>0≤u∧u<256) I) (hm:Mc M K.wr ws wf okU N) {i i' n:Nat} {H H':q0a} {ow:Value} {r r':ρ} {q:τ×List Int×FT} {C D C' D' C2 D2:NS} (h:RM R M B s K H0 i n H ow r q C D C' D') (ho:Only C H H') (hR:R i' H' r' C2 D2) (hc:∀j,j<H.n→C2 j→C j) (hd:∀j,j<H.n→D2 j→D j):RM R M B s K H0 i' n H' ow r' q C2 D2 C' D':=by
 have hsl:=h.m.sb.lt
 have hbn:=h.bn
 have hon:=ho.1
 refine ⟨hR,⟨h.m.sb.only ho (fun hc=>h.ds (hr.sub h.r hc)) (fun j hj=>h.dn j (hr.sub h.r hj)),hm.keep h.m.m ho.1 fun j hj=>ho.2 j (hm.lt h.m.m hj) (fun hc=>h.cd j hc hj),h.m.ds,h.m.dn⟩,fun hs=>h.ds (hd s hsl hs),fun j hj=>?_,fun j hj hj'=>?_,fun j hj hj'=>?_,fun j hj=>?_,h.sl,h.ol,fun j hj=>?_,by omega⟩
 ·by_cases hl:j<H.n
  ·exact h.dn j (hd j hl hj)
  ·exact k0o h.m.sb.ho (by omega)
 ·exact h.cd j (hc j (hm.lt h.m.m hj') hj) hj'
 ·exact h.dc j hj (hd j (hm.lt h.m.m (hm.sub h.m.m hj)) hj')
 ·rcases hj with hj|hj
  ·by_cases hl:j<H.n
   ·exact h.bl j (.inl (hc j hl hj))
   ·omega
  ·exact h.bl j (.inr hj)
 ·rw[ho.2 j (by omega) (fun hc=>by have:=h.bl j (.inl hc);omega),h.hl j hj]
theorem RM.took (hr:Mc R K.rd rs rf (fun u=>0≤u∧u<256) I) (hm:Mc M K.wr ws wf okU N) {i n n':Nat} {H H':q0a} {ow ow':Value} {r:ρ} {q q':τ×List Int×FT} {C D C' D' C2 D2:NS} (h:RM R M B s K H0 i n H ow r q C D C' D') (hS:SM M s K n' H' ow' C2 D2 q') (hf:Fx s ow C' D' H ow' C2 D2 H'):RM R M B s K H0 i n' H' ow' r q' C D C2 D2:=by
 have hbn:=h.bn
 have hfn:=hf.n
 have hsl:=h.sl
 have hlt:∀j,D j→j<H.n:=fun j hj=>hr.lt h.r hj
 refine ⟨hr.keep h.r hf.n fun j hj=>hf.k j (hlt j hj) (fun e=>h.ds (e▸hj)) (h.dn j hj) (fun hc=>h.dc j hc hj),hS,h.ds,fun j hj=>hf.o j (hlt j hj) (h.dn j hj),fun j hj hj'=>h.cd j hj (hf.d j (hlt j (hr.sub h.r hj)) hj'),fun j hj hj'=>h.dc j (hf.c j (hlt j hj') hj) hj',fun j hj=>?_,h.sl,fun j hj=>hf.o j (by omega) (h.ol j hj),fun j hj=>?_,by omega⟩
 ·rcases hj with hj|hj
  ·exact h.bl j (.inl hj)
  ·by_cases hl:j<H.n
   ·exact h.bl j (.inr (hf.c j hl hj))
   ·omega
 ·rw[hf.k j (by omega) (by omega) (h.ol j hj) (fun hc=>by have:=h.bl j (.inr hc);omega),h.hl j hj]
def alF (pol:Int) (rs:ρ→Int→List Tok×ρ) (ws:τ→Int→List Tok×τ) (wf:τ→List Tok×τ):List Int→ρ→τ×List Int×FT→ρ×(τ×List Int×FT)
 | [],r,q=>(r,q)
 | u::us,r,q=>if (tkF pol ws wf (rs r u).1 q).2.2.2.2≠0 then ((rs r u).2,tkF pol ws wf (rs r u).1 q) else alF pol rs ws wf us (rs r u).2 (tkF pol ws wf (rs r u).1 q)
theorem z4w {ow:Value} {z:FT} {H:q0a} {el:TypeId} {ver:Nat}:q0l (some ⟨SC K ow z,el,.tip,ver,[]⟩) 6 (some 3) H=some (fvF z,H):=sc6r
theorem k0p {H:q0a} {i ver:Nat} {el:TypeId} {a b c:Value} {z:FT}:q0u (some ⟨[a,b,c],el,.tip,ver,[]⟩) i 0 (fvF z) 3 H=some (.tuple ⟨[]⟩,H.upd i ⟨[.int .i64 z.1,.int .i64 z.2.1,.int .i64 z.2.2],el,.tip,ver+1,[]⟩):=q8w rfl
def RetA (B s q9:Nat) (K:SK) (H0:q0a) (l:List Int) (z:FT) (ow:Value) (H':q0a):Prop:=∃H2,SB H2 s K ow l z∧(∀j,j<B→H2.get j=H0.get j∧q0i ow j)∧B≤H2.n∧B≤s∧H'=H2.upd q9 ⟨[.int .i64 z.1,.int .i64 z.2.1,.int .i64 z.2.2],27,.tip,0+1,[]⟩
theorem RM.ret {i n q9:Nat} {H:q0a} {ow:Value} {r:ρ} {q:τ×List Int×FT} {C D C' D':NS} (h:RM R M B s K H0 i n H ow r q C D C' D'):RetA B s q9 K H0 q.2.1 q.2.2 ow (H.upd q9 ⟨[.int .i64 q.2.2.1,.int .i64 q.2.2.2.1,.int .i64 q.2.2.2.2],27,.tip,0+1,[]⟩):=⟨H,h.m.sb,fun j hj=>⟨h.hl j hj,h.ol j hj⟩,h.bn,h.sl,rfl⟩
def PAL (R:Nat→q0a→ρ→NS→NS→Prop) (M:Nat→q0a→τ→NS→NS→Prop) (B s q9:Nat) (K:SK) (H0:q0a) (nn ii bd:Nat) (z:ρ×(τ×List Int×FT)) (y:AEx) (e':Env) (H':q0a):Prop:=z.2.2.1.length≤bd∧((z.2.2.2.2.2=0∧y=.exit 0∧eget e' 9=.pointer (some ⟨q9,0,none⟩)∧eget e' 11=.pointer (some ⟨s,0,none⟩)∧∃ow' C D C' D',RM R M B s K H0 ii nn H' ow' z.1 z.2 C D C' D')∨(z.2.2.2.2.2≠0∧y=.ret∧eget e' 9=.pointer (some ⟨q9,0,none⟩)∧eget e' 10=.int .i64 0∧RetA B s q9 K H0 z.2.2.1 z.2.2.2 (eget e' 8) H'))
theorem l_All (hr:Mc R K.rd rs rf (fun u=>0≤u∧u<256) I) (hrg:Rg R rs rf K.pol okU) (hm:Mc M K.wr ws wf okU N) (hg:Wg M ws wf okU) {q9:Nat} {x:Value} {xs:List Int} (hN:100*(xs.length+1)≤N) (hI:xs.length≤I) (hxl:xs.length<1000) (hB:B=H0.n) (hx:Nums H0 .u8 x xs) (hxb:∀u∈xs,0≤u∧u<256) (g9:H0.get q9=some ⟨[.int .i64 0,.int .i64 0,.int .i64 0],27,.tip,0,[]⟩) :
  ∀(c k:Nat) (H:q0a) (r:ρ) (q:τ×List Int×FT) (ow:Value) (C D C' D':NS),k+c=xs.length→q.2.2.2.2=0→q.2.1.length≤40400*k→RM R M B s K H0 k (100*k) H ow r q C D C' D' →
  Out (run Tryz.prog (tabF tab) om1 (.loop [9,11,26,27,28] q3r) [(9,.pointer (some ⟨q9,0,none⟩)),(11,.pointer (some ⟨s,0,none⟩)),(26,x),(27,.int .i64 xs.length),(28,.int .i64 k)] H) (PAL R M B s q9 K H0 (100*xs.length) xs.length (40400*xs.length) (alF K.pol rs ws wf (xs.drop k) r q)):=by
 have hq9:=q0a.lt_of_get g9
 intro c
 induction c with
 | zero=>
  intro k H r q ow C D C' D' hk hq hl h
  obtain rfl:k=xs.length:=by omega
  have zz:(((xs.length:Nat):Int)<(xs.length:Nat))=False:=by simp
  rw[q0d q3r.eq_1]
  rw[List.drop_of_length_le (Nat.le_refl _)]
  simp only[WA,Nat.reduceEqDiff,zz]
  exact ⟨hl,.inl ⟨hq,rfl,rfl,rfl,ow,C,D,C',D',h⟩⟩
 | succ c ih=>
  intro k H r q ow C D C' D' hk hq hl h
  have hlt:((k:Int)<(xs.length:Nat))=True:=eq_true (by omega)
  obtain ⟨u,hu,hdx⟩:=q0z (L:=xs) (i:=k) (by omega)
  obtain ⟨u0,u1⟩:=hxb u (List.mem_of_getElem? hu)
  have hbn:=h.bn
  have hxe:Ext H0 H:=⟨by omega,fun j hj=>h.hl j (by omega)⟩
  obtain ⟨i,o,a1,a2⟩:=(hx.ext hxe).at hu
  have hwr:IntKind.i64.wrap u=u:=q0k (by omega) (by omega)
  have hw2:IntKind.i64.wrap ((k:Int)+1)=((k+1:Nat):Int):=by rw[q0k (by omega) (by omega)];omega
  obtain ⟨ver,gs⟩:=h.m.sb.hs
  obtain ⟨tv,H1,c1,t1,rd1,on1,C2,D2,r1,hc2,hd2⟩:=hr.put h.r (by omega) ⟨u0,u1⟩
  have h1:=h.read hr hm on1 r1 hc2 hd2
  obtain ⟨gU,gL,gc⟩:=hrg.good (u:=u) h.r ⟨u0,u1⟩
  obtain ⟨v2,H2,c2,tl,ow2,C3,D3,m2,f2,rd2⟩:=z4v hm hg gU gL (by omega) (by omega) h1.m (t1.mono fun j hj=>hm.lt h.m.m (hm.sub h.m.m hj))
  have h2:=h1.took hr hm (m2.mono hm (by omega:100*k+cnt K.pol (rs r u).1≤100*(k+1))) f2
  have hlen:(tkF K.pol ws wf (rs r u).1 q).2.1.length≤40400*(k+1):=by omega
  obtain ⟨ver2,gs2⟩:=h2.m.sb.hs
  rw[hdx]
  by_cases hz:(tkF K.pol ws wf (rs r u).1 q).2.2.2.2=0
  ·have z8:((tkF K.pol ws wf (rs r u).1 q).2.2.2.2≠0)=False:=eq_false (fun h=>h hz)
   have hA:alF K.pol rs ws wf (u::xs.drop (k+1)) r q=alF K.pol rs ws wf (xs.drop (k+1)) (rs r u).2 (tkF K.pol ws wf (rs r u).1 q):=by conv=>lhs;unfold alF;rw[if_neg (fun h=>h hz)]
   obtain ⟨y,e',H',p1,p2⟩:=ih (k+1) H2 _ _ ow2 _ _ _ _ (by omega) hz hlen h2
   rw[hA,q0d q3r.eq_1]
   simp only[WA,Nat.reduceEqDiff,Nat.reduceAdd,hlt,a1,a2,gs,sc3,hwr,q6H,c1,c2,gs2,sc8,z8,hw2]
   rw[q0e]
   simp only[WA,Nat.reduceEqDiff,p1]
   exact p2
  ·have z8:((tkF K.pol ws wf (rs r u).1 q).2.2.2.2≠0)=True:=eq_true hz
   have hA:alF K.pol rs ws wf (u::xs.drop (k+1)) r q=((rs r u).2,tkF K.pol ws wf (rs r u).1 q):=by conv=>lhs;unfold alF;rw[if_pos hz]
   have g92:H2.get q9=some ⟨[.int .i64 0,.int .i64 0,.int .i64 0],27,.tip,0,[]⟩:=by rw[h2.hl q9 (by omega)];exact g9
   have st:=k0p (H:=H2) (i:=q9) (ver:=0) (el:=27) (a:=.int .i64 0) (b:=.int .i64 0) (c:=.int .i64 0) (z:=(tkF K.pol ws wf (rs r u).1 q).2.2)
   obtain ⟨H3,hH3⟩:∃H3,H3=H2.upd q9 ⟨[.int .i64 (tkF K.pol ws wf (rs r u).1 q).2.2.1,.int .i64 (tkF K.pol ws wf (rs r u).1 q).2.2.2.1,.int .i64 (tkF K.pol ws wf (rs r u).1 q).2.2.2.2],27,.tip,0+1,[]⟩:=⟨_,rfl⟩
   rw[←hH3] at st
   have hsl:=h2.sl
   have gs3:H3.get s=some ⟨SC K ow2 (tkF K.pol ws wf (rs r u).1 q).2.2,70,.tip,ver2,[]⟩:=by rw[hH3,q0j g92 (by omega)];exact gs2
   rw[hA,q0d q3r.eq_1]
   simp only[WA,q0M,q1b,q1w,q1y,Nat.reduceEqDiff,Nat.reduceAdd,hlt,a1,a2,gs,sc3,hwr,q6H,c1,c2,gs2,sc8,z8,sc5,z4w,g92,st]
   exact ⟨by simp only;omega,.inr ⟨hz,rfl,rfl,rfl,by rw[hH3];exact h2.ret⟩⟩
def enF (pol:Int) (rf:ρ→List Tok×ρ) (ws:τ→Int→List Tok×τ) (wf:τ→List Tok×τ) (z:ρ×(τ×List Int×FT)):List Int×FT:=
 if (tkF pol ws wf (rf z.1).1 z.2).2.2.2.2=0 then wrF pol (wf (tkF pol ws wf (rf z.1).1 z.2).1).1 (tkF pol ws wf (rf z.1).1 z.2).2 else (tkF pol ws wf (rf z.1).1 z.2).2
def saF (pol:Int) (rs:ρ→Int→List Tok×ρ) (rf:ρ→List Tok×ρ) (ws:τ→Int→List Tok×τ) (wf:τ→List Tok×τ) (xs:List Int) (r:ρ) (st:τ):List Int×FT:=
 if (alF pol rs ws wf xs r (st,[],(0,0,0))).2.2.2.2.2≠0 then (alF pol rs ws wf xs r (st,[],(0,0,0))).2.2 else enF pol rf ws wf (alF pol rs ws wf xs r (st,[],(0,0,0)))
theorem RetA.done {H H':q0a} {l:List Int} {z:FT} {ow:Value} (h:RetA (H.n+1) s H.n K (H.push ⟨[.int .i64 0,.int .i64 0,.int .i64 0],27,.tip,0,[]⟩) l z ow H'):Ext H H'∧OwnB H' ow l∧From H.n ow∧H'.get H.n=some ⟨[.int .i64 z.1,.int .i64 z.2.1,.int .i64 z.2.2],27,.tip,0+1,[]⟩:=by
 obtain ⟨H2,h2,low,hn,hs,rfl⟩:=h
 have g9:H2.get H.n=some ⟨[.int .i64 0,.int .i64 0,.int .i64 0],27,.tip,0,[]⟩:=by rw[(low H.n (by omega)).1];exact q0b
 refine ⟨⟨by simp;omega,fun j hj=>?_⟩,Own.move h2.ho fun i b hi he=>?_,?_,q0r g9⟩
 ·rw[q0j g9 (by omega),(low j (by omega)).1,(Ext.push H _).2 j hj]
 ·rw[q0j g9 (fun e=>by subst e;rw[g9] at hi;injection hi with hi;subst hi;revert he;simp only;decide)]
  exact hi
 ·obtain ⟨_,⟨rfl,_⟩|⟨j,ver,anc,rfl,hn2,hg⟩⟩:=h2.ho
  ·trivial
  ·show H.n≤j
   by_cases hjj:j<H.n+1
   ·exact absurd rfl ((low j hjj).2)
   ·omega
theorem z8m (hr:Mc R K.rd rs rf (fun u=>0≤u∧u<256) I) (hrg:Rg R rs rf K.pol okU) (hm:Mc M K.wr ws wf okU N) (hg:Wg M ws wf okU) {H H2:q0a} {x:Value} {xs:List Int} {r0:ρ} {st0:τ} {C D C' D':NS} (hN:100*(xs.length+1)≤N) (hI:xs.length≤I) (hxl:xs.length<1000) (hx:Nums H .u8 x xs) (hxb:∀u∈xs,0≤u∧u<256)
  (hO:cw Tryz.prog (tabF tab) om1 24 [K.f,K.t,.int .i64 K.pol] (H.push ⟨[.int .i64 0,.int .i64 0,.int .i64 0],27,.tip,0,[]⟩)=some (.tuple ⟨[.pointer (some ⟨s,0,none⟩),.int .i64 0]⟩,H2))
  (h2:RM R M (H.n+1) s K (H.push ⟨[.int .i64 0,.int .i64 0,.int .i64 0],27,.tip,0,[]⟩) 0 0 H2 (.slice none 0 0) r0 (st0,[],(0,0,0)) C D C' D') :
  q0p (cw Tryz.prog (tabF tab) om1 8 [K.f,K.t,.int .i64 K.pol,x] H) fun v H'=>Ext H H'∧(saF K.pol rs rf ws wf xs r0 st0).1.length<100000000∧∃ow,v=.tuple ⟨[ow,fvF (saF K.pol rs rf ws wf xs r0 st0).2,.int .i64 0]⟩∧OwnB H' ow (saF K.pol rs rf ws wf xs r0 st0).1∧From H.n ow:=by
 rw[q0g (F:=q5V) rfl rfl rfl]
 unfold q5V k0P
 obtain ⟨H1,hH1⟩:∃H1,H1=H.push ⟨[.int .i64 0,.int .i64 0,.int .i64 0],27,.tip,0,[]⟩:=⟨_,rfl⟩
 have x1:Ext H H1:=by rw[hH1];exact Ext.push H _
 have g1:H1.get H.n=some ⟨[.int .i64 0,.int .i64 0,.int .i64 0],27,.tip,0,[]⟩:=by rw[hH1];exact q0b
 have n1:H1.n=H.n+1:=by rw[hH1,q0a.n_push]
 have hl:=fun H9=>Nums.len (H2:=H9) hx
 have z8:((0:Int)≠0)=False:=by simp
 obtain ⟨z,hz⟩:∃z,alF K.pol rs ws wf xs r0 (st0,[],(0,0,0))=z:=⟨_,rfl⟩
 obtain ⟨y,e',H3,p1,hzl,hy⟩:=l_All (q9:=H.n) (H0:=H1) (B:=H.n+1) hr hrg hm hg hN hI hxl n1.symm (hx.ext x1) hxb g1 xs.length 0 H2 r0 (st0,[],(0,0,0)) (.slice none 0 0) C D C' D' (by omega) rfl (by simp) (by rw[hH1];exact h2)
 rw[List.drop_zero,hz] at hzl hy
 rw[show ((0:Nat):Int)=0 from rfl] at p1
 rw[←hH1] at hO
 have hsa:saF K.pol rs rf ws wf xs r0 st0=if z.2.2.2.2.2≠0 then z.2.2 else enF K.pol rf ws wf z:=by unfold saF;rw[hz]
 rw[hsa]
 rcases hy with ⟨hz0,rfl,p2,p3,ow3,C3,D3,C3',D3',h3⟩|⟨hz0,rfl,p2,p3,ret⟩
 ·rw[if_neg (fun h=>h hz0)]
  obtain ⟨ver3,gs3⟩:=h3.m.sb.hs
  obtain ⟨tv,H4,c4,t4,rd4,on4,C4,D4,r4,hc4,hd4⟩:=hr.fin h3.r (by omega)
  have h4:=h3.read (i':=xs.length) hr hm on4 r4 hc4 hd4
  obtain ⟨gU,gL,gc⟩:=hrg.goodf h3.r
  obtain ⟨v5,H5,c5,tl,ow5,C5,D5,m5,f5,rd5⟩:=z4v hm hg gU gL (by omega) (by omega) h4.m (t4.mono fun j hj=>hm.lt h3.m.m (hm.sub h3.m.m hj))
  have h5:=h4.took hr hm m5 f5
  obtain ⟨ver5,gs5⟩:=h5.m.sb.hs
  obtain ⟨q1,hq1⟩:∃q1,tkF K.pol ws wf (rf z.1).1 z.2=q1:=⟨_,rfl⟩
  rw[hq1] at m5 h5 gs5 tl
  have hen:enF K.pol rf ws wf z=if q1.2.2.2.2=0 then wrF K.pol (wf q1.1).1 q1.2 else q1.2:=by unfold enF;rw[hq1]
  rw[hen]
  by_cases hq:q1.2.2.2.2=0
  ·have z0:(q1.2.2.2.2=0)=True:=eq_true hq
   rw[if_pos hq]
   obtain ⟨tv6,H6,c6,t6,rd6,on6,C6,D6,m6,hc6,hd6⟩:=hm.fin h5.m.m (by omega)
   have h6:=h5.took hr hm (h5.m.ran hm on6 m6 hc6 hd6) (on6.fx hc6 hd6)
   obtain ⟨gg1,gg2⟩:=hg.goodf h5.m.m
   have gg2:wl (wf q1.1).1≤400:=gg2
   have hlen:=q9p K.pol (wf q1.1).1 q1.2
   obtain ⟨v7,H7,c7,ow7,s7,f7⟩:=k3f (T:=(wf q1.1).1) gg1 (by simp only;omega) h6.m.sb t6.tw
   have h7:=h6.took hr hm (h6.m.owed hm (y:=wrF K.pol (wf q1.1).1 q1.2) s7 f7) f7.fx
   obtain ⟨ver7,gs7⟩:=h7.m.sb.hs
   obtain ⟨yy,hyy⟩:∃yy,wrF K.pol (wf q1.1).1 q1.2=yy:=⟨_,rfl⟩
   simp only[hyy] at h7 gs7 hlen
   rw[hyy]
   have g9:H7.get H.n=some ⟨[.int .i64 0,.int .i64 0,.int .i64 0],27,.tip,0,[]⟩:=by rw[h7.hl H.n (by omega)];exact g1
   have st:=k0p (H:=H7) (i:=H.n) (ver:=0) (el:=27) (a:=.int .i64 0) (b:=.int .i64 0) (c:=.int .i64 0) (z:=yy.2)
   obtain ⟨H8,hH8⟩:∃H8,H8=H7.upd H.n ⟨[.int .i64 yy.2.1,.int .i64 yy.2.2.1,.int .i64 yy.2.2.2],27,.tip,0+1,[]⟩:=⟨_,rfl⟩
   rw[←hH8] at st
   have hsl:=h7.sl
   have g8s:H8.get s=some ⟨SC K ow7 yy.2,70,.tip,ver7,[]⟩:=by rw[hH8,q0j g9 (by omega)];exact gs7
   have ret:=h7.ret (q9:=H.n)
   rw[show (((wf q1.1).2,yy):τ×List Int×FT).2=yy from rfl,←hH8,hH1] at ret
   obtain ⟨xx,oo,ff,gg⟩:=RetA.done ret
   simp only[WA,Nat.reduceEqDiff,reduceCtorEq,←hH1,hO,z8,hl]
   rw[q0e]
   simp only[WA,q0M,q1b,q1w,q1y,Nat.reduceEqDiff,Nat.reduceAdd,reduceCtorEq,p1,p2,p3,gs3,sc3,q6H,c4,c5,gs5,sc8,z0,sc4,c6,c7,gs7,sc5,z4w,g9,st,q2h,q4f,gg]
   exact ⟨xx,by omega,_,rfl,oo,ff⟩
  ·have z0:(q1.2.2.2.2=0)=False:=eq_false hq
   rw[if_neg hq]
   have g9:H5.get H.n=some ⟨[.int .i64 0,.int .i64 0,.int .i64 0],27,.tip,0,[]⟩:=by rw[h5.hl H.n (by omega)];exact g1
   have st:=k0p (H:=H5) (i:=H.n) (ver:=0) (el:=27) (a:=.int .i64 0) (b:=.int .i64 0) (c:=.int .i64 0) (z:=q1.2.2)
   obtain ⟨H8,hH8⟩:∃H8,H8=H5.upd H.n ⟨[.int .i64 q1.2.2.1,.int .i64 q1.2.2.2.1,.int .i64 q1.2.2.2.2],27,.tip,0+1,[]⟩:=⟨_,rfl⟩
   rw[←hH8] at st
   have hsl:=h5.sl
   have g8s:H8.get s=some ⟨SC K ow5 q1.2.2,70,.tip,ver5,[]⟩:=by rw[hH8,q0j g9 (by omega)];exact gs5
   have ret:=h5.ret (q9:=H.n)
   rw[show (q1:τ×List Int×FT).2=q1.2 from rfl,←hH8,hH1] at ret
   obtain ⟨xx,oo,ff,gg⟩:=RetA.done ret
   simp only[WA,Nat.reduceEqDiff,reduceCtorEq,←hH1,hO,z8,hl]
   rw[q0e]
   simp only[WA,q0M,q1b,q1w,q1y,Nat.reduceEqDiff,Nat.reduceAdd,reduceCtorEq,p1,p2,p3,gs3,sc3,q6H,c4,c5,gs5,sc8,z0,sc5,z4w,g9,st,q2h,q4f,gg]
   exact ⟨xx,by omega,_,rfl,oo,ff⟩
 ·rw[if_pos hz0]
  rw[hH1] at ret
  obtain ⟨xx,oo,ff,gg⟩:=RetA.done ret
  simp only[WA,Nat.reduceEqDiff,reduceCtorEq,←hH1,hO,z8,hl]
  rw[q0e]
  simp only[WA,Nat.reduceEqDiff,Nat.reduceAdd,reduceCtorEq,p1,p2,p3,q2h,q4f,gg]
  exact ⟨xx,by omega,_,rfl,oo,ff⟩
end
theorem k9g {x:Value} (h1:one x=true):x.cells.toList=[x]:=by cases x<;>simp[one] at h1<;>rfl
section
variable {f t rd wr x:Value} {pol:Int} {H:q0a} {i ver:Nat} {el:TypeId}
abbrev SZ (f t:Value) (pol:Int) (rd wr:Value):List Value:=SC ⟨f,t,pol,rd,wr⟩ (.slice none 0 0) (0,0,0)
theorem sz0:(SZ f t pol rd wr)[0]?=some f:=rfl
theorem sz1:(SZ f t pol rd wr)[1]?=some t:=rfl
theorem j0b (h1:one x=true):q0u (some ⟨SZ f t pol rd wr,el,.tip,ver,[]⟩) i 3 x 1 H=some (.tuple ⟨[]⟩,H.upd i ⟨SZ f t pol x wr,el,.tip,ver+1,[]⟩):=by
 have hc:=k9g h1
 have:=q0x (H:=H) (cells:=SZ f t pol rd wr) (el:=el) (ver:=ver) (anc:=[]) (i:=i) (o:=3) (n:=1) (v:=x) (by rw[hc];rfl) (by rw[hc];simp[h1]) (by simp[SC])
 rw[this,hc]
 rfl
theorem j0c (h1:one x=true):q0u (some ⟨SZ f t pol rd wr,el,.tip,ver,[]⟩) i 4 x 1 H=some (.tuple ⟨[]⟩,H.upd i ⟨SZ f t pol rd x,el,.tip,ver+1,[]⟩):=by
 have hc:=k9g h1
 have:=q0x (H:=H) (cells:=SZ f t pol rd wr) (el:=el) (ver:=ver) (anc:=[]) (i:=i) (o:=4) (n:=1) (v:=x) (by rw[hc];rfl) (by rw[hc];simp[h1]) (by simp[SC])
 rw[this,hc]
 rfl
theorem j0d:q0u (some ⟨SZ f t pol rd wr,el,.tip,ver,[]⟩) i 5 (.slice none 0 0) 1 H=some (.tuple ⟨[]⟩,H.upd i ⟨SZ f t pol rd wr,el,.tip,ver+1,[]⟩):=k9e rfl
theorem j0e:q0u (some ⟨SZ f t pol rd wr,el,.tip,ver,[]⟩) i 6 (.agg ⟨[.int .i64 0,.int .i64 0,.int .i64 0]⟩) 3 H=some (.tuple ⟨[]⟩,H.upd i ⟨SZ f t pol rd wr,el,.tip,ver+1,[]⟩):=k5P
theorem j0f:q0u (some ⟨SZ f t pol rd wr,el,.tip,ver,[]⟩) i 9 (.bool false) 1 H=some (.tuple ⟨[]⟩,H.upd i ⟨SZ f t pol rd wr,el,.tip,ver+1,[]⟩):=by
 have:=q0x (H:=H) (cells:=SZ f t pol rd wr) (el:=el) (ver:=ver) (anc:=[]) (i:=i) (o:=9) (n:=1) (v:=.bool false) rfl rfl (by simp[SC])
 rw[this]
 rfl
theorem z6q:q0u (some ⟨SZ f t pol rd wr,el,.tip,ver,[]⟩) i 10 (.bool false) 1 H=some (.tuple ⟨[]⟩,H.upd i ⟨SZ f t pol rd wr,el,.tip,ver+1,[]⟩):=by
 have:=q0x (H:=H) (cells:=SZ f t pol rd wr) (el:=el) (ver:=ver) (anc:=[]) (i:=i) (o:=10) (n:=1) (v:=.bool false) rfl rfl (by simp[SC])
 rw[this]
 rfl
end
theorem z6r {H:q0a} {f t:ByteArray} {p:Int}:q2l [.string ⟨#[]⟩,.string ⟨#[]⟩,.int .i64 0,.nilIface,.nilIface,.slice none 0 0,.int .i64 0,.int .i64 0,.int .i64 0,.bool false,.bool false] [(0,1,.string f),(1,1,.string t),(2,1,.int .i64 p)] H=some (.agg ⟨SZ (.string f) (.string t) p .nilIface .nilIface⟩,H):=rfl
def isF (e:TypeId):Bool:=isT e||Nat.beq e 107
structure NewM (H H':q0a) (C D:NS):Prop where
 ext:Ext H H'
 c:∀j,C j→H.n≤j∧∃b,H'.get j=some b∧isF b.elem=false
 d:∀j,D j→j<H.n→∀b,H'.get j=some b→isF b.elem=true
section
variable {ρ τ:Type} {R:Value→Nat→q0a→ρ→NS→NS→Prop} {M:Value→Nat→q0a→τ→NS→NS→Prop} {rs:ρ→Int→List Tok×ρ} {rf:ρ→List Tok×ρ} {ws:τ→Int→List Tok×τ} {wf:τ→List Tok×τ} {okB okU:Int→Prop} {N I:Nat} {r0:ρ} {st0:τ}
theorem j0g (hr:∀v,Mc (R v) v rs rf okB I) (hm:∀v,Mc (M v) v ws wf okU N) {s ver:Nat} {f t rd wr:Value} {pol:Int} {H:q0a} (hg:H.get s=some ⟨SZ f t pol rd wr,70,.tip,ver,[]⟩)
  (hD:∀H,q0p (cw Tryz.prog (tabF tab) om1 18 [f] H) fun v H'=>∃rv C D,v=.tuple ⟨[rv,.int .i64 0]⟩∧one rv=true∧R rv 0 H' r0 C D∧NewM H H' C D)
  (hE:∀H,q0p (cw Tryz.prog (tabF tab) om1 30 [t] H) fun v H'=>∃wv C D,v=.tuple ⟨[wv,.int .i64 0]⟩∧one wv=true∧M wv 0 H' st0 C D∧NewM H H' C D) :
  q0p (cw Tryz.prog (tabF tab) om1 45 [.pointer (some ⟨s,0,none⟩)] H) fun v H'=>∃rv wv C D C' D',RM (R rv) (M wv) s s ⟨f,t,pol,rv,wv⟩ H 0 0 H' (.slice none 0 0) r0 (st0,[],(0,0,0)) C D C' D':=by
 rw[q0g (F:=q1M) rfl rfl rfl]
 unfold q1M q4n
 have hsl:=q0a.lt_of_get hg
 obtain ⟨v1,H1,c1,rv,C,D,rfl,o1,r1,x1,nc,nd⟩:=hD H
 have g1:=x1.get hg
 have s1:=j0b (H:=H1) (i:=s) (ver:=ver) (el:=70) (f:=f) (t:=t) (pol:=pol) (rd:=rd) (wr:=wr) (x:=rv) o1
 obtain ⟨H2,hH2⟩:∃H2,H2=H1.upd s ⟨SZ f t pol rv wr,70,.tip,ver+1,[]⟩:=⟨_,rfl⟩
 rw[←hH2] at s1
 have g2:H2.get s=some ⟨SZ f t pol rv wr,70,.tip,ver+1,[]⟩:=by rw[hH2];exact q0r g1
 have n2:H2.n=H1.n:=by rw[hH2];simp
 obtain ⟨v3,H3,c3,wv,C',D',rfl,o3,w3,x3,nc',nd'⟩:=hE H2
 have g3:=x3.get g2
 have s3:=j0c (H:=H3) (i:=s) (ver:=ver+1) (el:=70) (f:=f) (t:=t) (pol:=pol) (rd:=rv) (wr:=wr) (x:=wv) o3
 obtain ⟨H4,hH4⟩:∃H4,H4=H3.upd s ⟨SZ f t pol rv wv,70,.tip,ver+1+1,[]⟩:=⟨_,rfl⟩
 rw[←hH4] at s3
 have g4:H4.get s=some ⟨SZ f t pol rv wv,70,.tip,ver+1+1,[]⟩:=by rw[hH4];exact q0r g3
 obtain ⟨H5,hH5⟩:∃H5,H5=H4.upd s ⟨SZ f t pol rv wv,70,.tip,ver+1+1+1,[]⟩:=⟨_,rfl⟩
 have g5:H5.get s=some ⟨SZ f t pol rv wv,70,.tip,ver+1+1+1,[]⟩:=by rw[hH5];exact q0r g4
 obtain ⟨H6,hH6⟩:∃H6,H6=H5.upd s ⟨SZ f t pol rv wv,70,.tip,ver+1+1+1+1,[]⟩:=⟨_,rfl⟩
 have g6:H6.get s=some ⟨SZ f t pol rv wv,70,.tip,ver+1+1+1+1,[]⟩:=by rw[hH6];exact q0r g5
 obtain ⟨H7,hH7⟩:∃H7,H7=H6.upd s ⟨SZ f t pol rv wv,70,.tip,ver+1+1+1+1+1,[]⟩:=⟨_,rfl⟩
 have g7:H7.get s=some ⟨SZ f t pol rv wv,70,.tip,ver+1+1+1+1+1,[]⟩:=by rw[hH7];exact q0r g6
 obtain ⟨H8,hH8⟩:∃H8,H8=H7.upd s ⟨SZ f t pol rv wv,70,.tip,ver+1+1+1+1+1+1,[]⟩:=⟨_,rfl⟩
 have g8:H8.get s=some ⟨SZ f t pol rv wv,70,.tip,ver+1+1+1+1+1+1,[]⟩:=by rw[hH8];exact q0r g7
 have hb:∀H,q2l [.int .i64 0,.int .i64 0,.int .i64 0] [] H=some (.agg ⟨[.int .i64 0,.int .i64 0,.int .i64 0]⟩,H):=fun H=>rfl
 simp only[WA,Nat.reduceEqDiff,Nat.reduceAdd,reduceCtorEq,hg,sz0,c1,g1,s1,g2,sz1,c3,g3,s3,hb,g4,j0d,←hH5,g5,j0e,←hH6,g6,j0f,←hH7,g7,z6q,←hH8]
 have n8:H8.n=H3.n:=by rw[hH8,hH7,hH6,hH5,hH4];simp
 have k8:∀j,j≠s→H8.get j=H3.get j:=fun j hj=>by rw[hH8,q0j g7 hj,hH7,q0j g6 hj,hH6,q0j g5 hj,hH5,q0j g4 hj,hH4,q0j g3 hj]
 have x1n:=x1.1
 have x3n:=x3.1
 have sF:isF 70=false:=by decide
 have hDs:¬D s:=fun hd=>by
  have:=nd s hd hsl _ g1
  rw[sF] at this
  cases this
 have hDs':¬D' s:=fun hd=>by
  have:=nd' s hd (by omega) _ g3
  rw[sF] at this
  cases this
 have r2:=(hr rv).keep r1 (by omega:H1.n≤H2.n) fun j hj=>by rw[hH2,q0j g1 (fun e=>hDs (e▸hj))]
 have r3:=(hr rv).keep r2 x3.1 fun j hj=>x3.2 j ((hr rv).lt r2 hj)
 have r8:=(hr rv).keep r3 (by omega:H3.n≤H8.n) fun j hj=>k8 j (fun e=>hDs (e▸hj))
 have w8:=(hm wv).keep w3 (by omega:H3.n≤H8.n) fun j hj=>k8 j (fun e=>hDs' (e▸hj))
 refine ⟨rv,wv,C,D,C',D',r8,⟨⟨⟨_,g8⟩,⟨rfl,.inl ⟨rfl,rfl⟩⟩⟩,w8,hDs',fun _ _=>trivial⟩,hDs,fun _ _=>trivial,fun j hj hj'=>?_,fun j hj hj'=>?_,fun j hj=>?_,Nat.le_refl _,fun _ _=>trivial,fun j hj=>?_,by omega⟩
 ·obtain ⟨h1,h2⟩:=nc j hj
  have hjl:=(hr rv).lt r2 ((hr rv).sub r2 hj)
  have hjs:j≠s:=fun e=>by omega
  have hjl1:=(hr rv).lt r1 ((hr rv).sub r1 hj)
  obtain ⟨b,hb,e1⟩:=h2
  have h3:H3.get j=some b:=by rw[x3.2 j hjl,hH2,q0j g1 hjs];exact hb
  have e2:=nd' j hj' hjl b h3
  rw[e1] at e2
  cases e2
 ·have:=(nc' j hj).1
  have:=(hr rv).lt r2 hj'
  omega
 ·rcases hj with hj|hj
  ·have:=(nc j hj).1
   omega
  ·have:=(nc' j hj).1
   omega
 ·rw[k8 j (by omega),x3.2 j (by omega),hH2,q0j g1 (by omega),x1.2 j (by omega)]
theorem z8n (hr:∀v,Mc (R v) v rs rf okB I) (hm:∀v,Mc (M v) v ws wf okU N) {f t:ByteArray} {pol:Int} {H:q0a} (hp:0≤pol∧pol<3)
  (hf:∀H,cw Tryz.prog (tabF tab) om1 41 [.string f] H=some (.tuple ⟨[.string f,.int .i64 0]⟩,H)) (ht:∀H,cw Tryz.prog (tabF tab) om1 41 [.string t] H=some (.tuple ⟨[.string t,.int .i64 0]⟩,H))
  (hD:∀H,q0p (cw Tryz.prog (tabF tab) om1 18 [.string f] H) fun v H'=>∃rv C D,v=.tuple ⟨[rv,.int .i64 0]⟩∧one rv=true∧R rv 0 H' r0 C D∧NewM H H' C D)
  (hE:∀H,q0p (cw Tryz.prog (tabF tab) om1 30 [.string t] H) fun v H'=>∃wv C D,v=.tuple ⟨[wv,.int .i64 0]⟩∧one wv=true∧M wv 0 H' st0 C D∧NewM H H' C D) :
  q0p (cw Tryz.prog (tabF tab) om1 24 [.string f,.string t,.int .i64 pol] H) fun v H'=>v=.tuple ⟨[.pointer (some ⟨H.n,0,none⟩),.int .i64 0]⟩∧∃rv wv C D C' D',RM (R rv) (M wv) H.n H.n ⟨.string f,.string t,pol,rv,wv⟩ H 0 0 H' (.slice none 0 0) r0 (st0,[],(0,0,0)) C D C' D':=by
 rw[q0g (F:=q5r) rfl rfl rfl]
 unfold q5r q9C
 obtain ⟨H1,hH1⟩:∃H1,H1=H.push ⟨SZ (.string f) (.string t) pol .nilIface .nilIface,70,.tip,0,[]⟩:=⟨_,rfl⟩
 have x1:Ext H H1:=by rw[hH1];exact Ext.push H _
 have g1:H1.get H.n=some ⟨SZ (.string f) (.string t) pol .nilIface .nilIface,70,.tip,0,[]⟩:=by rw[hH1];exact q0b
 have hbx:vBox (.agg ⟨SZ (.string f) (.string t) pol .nilIface .nilIface⟩) 70 H=some (.pointer (some ⟨H.n,0,none⟩),H1):=by rw[hH1];exact q8H rfl
 obtain ⟨v,H2,c2,rv,wv,C,D,C',D',h2⟩:=j0g hr hm g1 hD hE
 have z0:((0:Int)≠0)=False:=by simp
 have z1:(pol<0)=False:=eq_false (by omega)
 have z2:(pol≥3)=False:=eq_false (by omega)
 simp only[WA,Nat.reduceEqDiff,reduceCtorEq,hf,ht,z0,z1,z2,z6r,hbx,c2]
 obtain ⟨a1,a2,a3,a4,a5,a6,a7,a8,a9,a10,a11⟩:=h2
 exact ⟨rv,wv,C,D,C',D',⟨a1,a2,a3,a4,a5,a6,a7,a8,a9,fun j hj=>by rw[a10 j hj,x1.2 j hj],a11⟩⟩
end
theorem MDec.one {k:Nat} {H:q0a} {v:Value} {L:List Rl} {w:List Int} {a st:Int} (h:MDec k H v L w a st):one v=true:=by
 obtain ⟨d,m,t,ver,rfl,_⟩:=h.md
 rfl
theorem j2k {k:Nat} {L:List Rl} {H:q0a} (hk:k<8) (h0:k≠0) (h7:k≠7) (hT:∀H,q0p (cw Tryz.prog (tabF tab) om1 17 [.string (nm k)] H) fun v H'=>Ext H H'∧∃q,v=.pointer (some ⟨q,0,none⟩)∧q1K H' q L) :
  q0p (cw Tryz.prog (tabF tab) om1 18 [.string (nm k)] H) fun v H'=>Ext H H'∧∃rv,v=.tuple ⟨[rv,.int .i64 0]⟩∧one rv=true∧∃k,H.n≤k∧MDec k H' rv L [] 0 0:=by
 rw[q0g (F:=q1G) rfl rfl rfl]
 unfold q1G q4E
 obtain ⟨v1,H1,c1,x1,q,rfl,hT1⟩:=hT H
 obtain ⟨v2,H2,c2,x2,hM⟩:=k7O hT1
 have hn:=q8W (H:=H) hk
 have e0:=z1Z k hk
 have e7:=k3e k hk
 have b0:Nat.beq k 0=false:=by cases h:Nat.beq k 0 with|false=>rfl|true=>exact absurd (Nat.eq_of_beq_eq_true h) h0
 have b7:Nat.beq k 7=false:=by cases h:Nat.beq k 7 with|false=>rfl|true=>exact absurd (Nat.eq_of_beq_eq_true h) h7
 rw[b0] at e0
 rw[b7] at e7
 have z0:((0:Int)≠0)=False:=by simp
 simp only[WA,Nat.reduceEqDiff,reduceCtorEq,hn,z0,q1I gS,e0,e7,c1,c2]
 exact ⟨x1.trans x2,_,rfl,hM.one,H1.n,x1.1,hM⟩
theorem j2l {H:q0a}:q0p (cw Tryz.prog (tabF tab) om1 30 [.string (nm 0)] H) fun v H'=>Ext H H'∧∃rv,v=.tuple ⟨[rv,.int .i64 0]⟩∧one rv=true∧rv=.iface 113 (.pointer (some ⟨H.n,0,none⟩))∧H'.get H.n=some ⟨[.int .i64 0],115,.tip,0,[]⟩:=by
 rw[q0g (F:=q1H) rfl rfl rfl]
 unfold q1H q4F
 have hn:=q8W (H:=H) (k:=0) (by omega)
 have e0:=z1Z 0 (by omega)
 rw[show Nat.beq 0 0=true from rfl] at e0
 have hbx:vBox (.agg ⟨[.int .i64 0]⟩) 115 H=some (.pointer (some ⟨H.n,0,none⟩),H.push ⟨[.int .i64 0],115,.tip,0,[]⟩):=q8H rfl
 have z0:((0:Int)≠0)=False:=by simp
 simp only[WA,Nat.reduceEqDiff,reduceCtorEq,hn,z0,q1I gS,e0,v_bl1,hbx]
 exact ⟨Ext.push H _,_,rfl,rfl,rfl⟩
theorem j0h {H:q0a}:q2l [.slice none 0 0,.int .i64 0] [] H=some (.agg ⟨[.slice none 0 0,.int .i64 0]⟩,H):=rfl
theorem j2m {H:q0a}:q0p (cw Tryz.prog (tabF tab) om1 18 [.string (nm 0)] H) fun v H'=>Ext H H'∧∃rv,v=.tuple ⟨[rv,.int .i64 0]⟩∧one rv=true∧rv=.iface 97 (.pointer (some ⟨H.n,0,none⟩))∧H'.get H.n=some ⟨[.slice none 0 0,.int .i64 0],101,.tip,0,[]⟩:=by
 rw[q0g (F:=q1G) rfl rfl rfl]
 unfold q1G q4E
 have hn:=q8W (H:=H) (k:=0) (by omega)
 have e0:=z1Z 0 (by omega)
 rw[show Nat.beq 0 0=true from rfl] at e0
 have hbx:vBox (.agg ⟨[.slice none 0 0,.int .i64 0]⟩) 101 H=some (.pointer (some ⟨H.n,0,none⟩),H.push ⟨[.slice none 0 0,.int .i64 0],101,.tip,0,[]⟩):=q8H rfl
 have z0:((0:Int)≠0)=False:=by simp
 simp only[WA,Nat.reduceEqDiff,reduceCtorEq,hn,z0,q1I gS,e0,j0h,hbx]
 exact ⟨Ext.push H _,_,rfl,rfl,rfl⟩
theorem z1g {H H':q0a} {el:TypeId} {sz n:Nat} {v:Value} {cs:List Value} (h:Own H el sz v n cs) (hk:∀j,¬q0i v j→H'.get j=H.get j):Own H' el sz v n cs:=by
 obtain ⟨h1,h2|⟨b,ver,anc,rfl,h3,h4⟩⟩:=h
 ·exact ⟨h1,.inl h2⟩
 ·exact ⟨h1,.inr ⟨b,ver,anc,rfl,h3,by rw[hk b (fun h=>h rfl)];exact h4⟩⟩
theorem q3E {H:q0a} {el:TypeId} {sz n j:Nat} {v:Value} {cs:List Value} (h:Own H el sz v n cs) (hj:¬q0i v j):∃b,H.get j=some b∧b.elem=el:=by
 obtain ⟨h1,⟨rfl,_⟩|⟨b,ver,anc,rfl,h3,h4⟩⟩:=h
 ·exact absurd trivial hj
 ·by_cases e:b=j
  ·subst e
   exact ⟨_,h4,rfl⟩
  ·exact absurd (fun h=>e h) hj
structure MX (k:Nat) (Hs H:q0a) (m t:Nat) (L:List Rl) (w:List Int) (a st:Int) (C D:NS):Prop where
 ks:k≤Hs.n
 kn:k≤H.n
 km:k≤m
 trie:q3O (cutN Hs k) t L
 hm:∃vw ver,H.get m=some ⟨[.pointer (some ⟨t,0,none⟩),vw,.int .i64 a,.int .i64 st],197,.tip,ver,[]⟩∧Own H 3 1 vw w.length (ints w)∧From k vw
 sn:∀j b,j<k→Hs.get j=some b→isT b.elem=true→D j∧H.get j=some b
 cm:C m
 cw:∀j,¬NW H m j→C j
 ck:∀j,C j→k≤j
 cd:∀j,C j→D j
 dl:∀j,D j→j<H.n
section
variable {k:Nat} {Hs H:q0a} {m t:Nat} {L:List Rl} {w:List Int} {a st:Int} {C D:NS}
theorem MX.md (h:MX k Hs H m t L w a st C D):MD k H m t L w a st:=by
 refine ⟨h.kn,h.km,h.trie.keep fun j b hj he=>?_,h.hm⟩
 have hl:=k0H hj
 rw[q4R h.ks hl] at hj
 rw[q4R h.kn hl]
 exact (h.sn j b hl hj he).2
theorem MX.of (h:MX k Hs H m t L w a st C D) {H':q0a} {w':List Int} {a' st':Int} (h':MS (cutN H k) H' m t w' a' st') (ho:k7M m H H') (hn:H.n≤H'.n):MX k Hs H' m t L w' a' st' (fun j=>C j∨¬NW H' m j) (fun j=>D j∨¬NW H' m j):=by
 obtain ⟨vw,ver,q1,q2,q3,_⟩:=h'.hm
 have hfar:∀j,¬NW H' m j→k≤j∧j<H'.n:=fun j hj=>by
  have hj2:¬q0i vw j:=fun hx=>hj (NW.of q1 hx)
  obtain ⟨b,hb,_⟩:=q3E q2 hj2
  refine ⟨?_,q0a.lt_of_get hb⟩
  by_cases hk:k≤j
  ·exact hk
  ·exact absurd (q0i.of_from q3 (show j<k by omega)) hj2
 refine ⟨h.ks,by have:=h.kn;omega,h.km,h.trie,⟨vw,ver,q1,q2,q3⟩,fun j b hj hb he=>?_,.inl h.cm,fun j hj=>.inr hj,fun j hj=>?_,fun j hj=>?_,fun j hj=>?_⟩
 ·obtain ⟨g1,g2⟩:=h.sn j b hj hb he
  refine ⟨.inl g1,?_⟩
  have:=h'.ext.2 j hj
  rw[this,q4R h.kn hj]
  exact g2
 ·rcases hj with hj|hj
  ·exact h.ck j hj
  ·exact (hfar j hj).1
 ·exact hj.imp (h.cd j) id
 ·rcases hj with hj|hj
  ·exact Nat.lt_of_lt_of_le (h.dl j hj) hn
  ·exact (hfar j hj).2
theorem MX.only (h:MX k Hs H m t L w a st C D) {H':q0a} (ho:k7M m H H') (hn:H.n≤H'.n):Only C H H':=⟨hn,fun j hj hc=>ho.k j hj (fun e=>hc (e▸h.cm)) (by
 by_cases hx:NW H m j
 ·exact hx
 ·exact absurd (h.cw j hx) hc)⟩
theorem MX.old (h:MX k Hs H m t L w a st C D) {H':q0a} (ho:k7M m H H'):∀j,j<H.n→¬NW H' m j→C j:=fun j hj hx=>by
 by_cases h2:NW H m j
 ·exact absurd (ho.w j hj h2) hx
 ·exact h.cw j h2
theorem MX.keep (h:MX k Hs H m t L w a st C D) {H':q0a} (hn:H.n≤H'.n) (hk:∀j,D j→H'.get j=H.get j):MX k Hs H' m t L w a st C D:=by
 obtain ⟨vw,ver,q1,q2,q3⟩:=h.hm
 have gm:=hk m (h.cd m h.cm)
 have hnw:∀j,NW H' m j↔NW H m j:=fun j=>by unfold NW;rw[gm]
 refine ⟨h.ks,by have:=h.kn;omega,h.km,h.trie,⟨vw,ver,by rw[gm];exact q1,z1g q2 fun j hj=>hk j (h.cd j (h.cw j fun hx=>hj (hx.at q1))),q3⟩,fun j b hj hb he=>?_,h.cm,fun j hj=>h.cw j fun hx=>hj ((hnw j).2 hx),h.ck,h.cd,fun j hj=>Nat.lt_of_lt_of_le (h.dl j hj) hn⟩
 obtain ⟨g1,g2⟩:=h.sn j b hj hb he
 exact ⟨g1,by rw[hk j g1];exact g2⟩
theorem MX.wide (h:MX k Hs H m t L w a st C D) {C' D':NS} (h1:∀j,C j→C' j) (h2:∀j,D j→D' j) (h3:∀j,C' j→k≤j) (h4:∀j,C' j→D' j) (h5:∀j,D' j→j<H.n):MX k Hs H m t L w a st C' D':=⟨h.ks,h.kn,h.km,h.trie,h.hm,fun j b hj hb he=>⟨h2 j (h.sn j b hj hb he).1,(h.sn j b hj hb he).2⟩,h1 m h.cm,fun j hj=>h1 j (h.cw j hj),h3,h4,h5⟩
end
theorem Kx.rd {C:NS} {H H':q0a} (h:Kx H H'):Rd C H H':=⟨fun x m _ h1 h2 _=>Ints.kx h h1 h2,fun j b hj he=>(h.2 j b hj (by rw[he];decide)).1 (by rw[he];decide)⟩
abbrev MSt:=List Int×Int×Int
def rdS (L:List Rl) (r:MSt) (u:Int):List Tok×MSt:=q0G L false (r.1++[u]) r.2.1 r.2.2
def rdF (L:List Rl) (r:MSt):List Tok×MSt:=q0G L true r.1 r.2.1 r.2.2
structure Mi (L:List Rl) (n:Nat) (r:MSt):Prop where
 wt:Wt L r.1
 a0:0≤r.2.1
 an:r.2.1+r.1.length≤n
 s0:0≤r.2.2
 sn:r.2.2≤8*r.2.1+8*n
theorem Mi.put {L:List Rl} (hR:q1a L) {n:Nat} {r:MSt} {u:Int} (h:Mi L n r):Mi L (n+1) (rdS L r u).2:=by
 obtain ⟨w,a,st⟩:=r
 obtain ⟨h1,h2,h3,h4,h5⟩:=h
 simp only at h1 h2 h3 h4 h5
 obtain ⟨b1,b2,b3,b4,b5⟩:=z8j hR (u:=u) (a:=a) (st:=st) h1
 exact ⟨Wt.put hR,by unfold rdS;simp only;omega,by unfold rdS;simp only;omega,by unfold rdS;simp only;omega,by unfold rdS;simp only;omega⟩
theorem Mi.fin {L:List Rl} (hR:q1a L) {n:Nat} {r:MSt} (h:Mi L n r):Mi L n (rdF L r).2:=by
 obtain ⟨w,a,st⟩:=r
 obtain ⟨h1,h2,h3,h4,h5⟩:=h
 simp only at h1 h2 h3 h4 h5
 obtain ⟨e1,e2,e3⟩:=z4n hR (w:=w) (a:=a) (st:=st)
 obtain ⟨k,n1,n2,n3,n4,n5,n6,n7⟩:=q6p hR (e:=true) w.length w a st
 have hl:=h1.len hR
 have hsq:(w.length:Int)*(w.length:Int)≤7*w.length:=Int.mul_le_mul_of_nonneg_right (by omega) (by omega)
 refine ⟨⟨.inl e2⟩,?_,?_,?_,?_⟩
 ·show 0≤(q0G L true w a st).2.2.1
  omega
 ·show (q0G L true w a st).2.2.1+(q0G L true w a st).2.1.length≤n
  rw[e2];simp only[List.length_nil];omega
 ·show 0≤(q3o L true w.length w a st).2.2.2
  omega
 ·show (q3o L true w.length w a st).2.2.2≤8*(q0G L true w a st).2.2.1+8*n
  omega
theorem Mi.mono {L:List Rl} {n m:Nat} {r:MSt} (h:Mi L n r) (hn:n≤m):Mi L m r:=⟨h.wt,h.a0,by have:=h.an;omega,h.s0,by have:=h.sn;omega⟩
def RdM (L:List Rl) (v:Value) (n:Nat) (H:q0a) (r:MSt) (C D:NS):Prop:=∃k d m t ver Hs,v=.iface 139 (.pointer (some ⟨d,0,none⟩))∧D d∧¬C d∧H.get d=some ⟨[.pointer (some ⟨m,0,none⟩)],143,.tip,ver,[]⟩∧MX k Hs H m t L r.1 r.2.1 r.2.2 C D∧Mi L n r
theorem mc_T {L:List Rl} (hR:q1a L) {okU:Int→Prop} {v:Value}:Mc (RdM L v) v (rdS L) (rdF L) okU 900 where
 put:=by
  intro n H r C D u ⟨k,d,m,t,ver,Hs,hv,dd,cd,gd,hX,hi⟩ hn hu
  subst hv
  have hl:=hi.wt.len hR
  obtain ⟨w,a,st⟩:=r
  obtain ⟨h1,h2,h3,h4,h5⟩:=hi
  simp only at h1 h2 h3 h4 h5 hl
  have hsq:((w.length:Int)+1)*((w.length:Int)+1)≤8*8:=Int.mul_le_mul (by omega) (by omega) (by omega) (by omega)
  obtain ⟨x,H',c,r1,r2,r3,r4,_,r5,r6⟩:=z9O (u:=u) hX.md.trie hX.md.ms (by simp only;omega) (by simp only;omega) (by simp only;omega)
  rw[k1C j2b gd]
  have hM:=hX.of r1 r5 r4.1
  refine ⟨x,H',c,r6.ta,r4.rd,hX.only r5 r4.1,_,_,⟨k,d,m,t,ver,Hs,rfl,.inl dd,fun hc=>?_,?_,hM,Mi.put hR ⟨h1,h2,h3,h4,h5⟩⟩,fun j hj hc=>?_,fun j hj hc=>?_⟩
  ·rcases hc with hc|hc
   ·exact cd hc
   ·exact cd (hX.old r5 d (hX.dl d dd) hc)
  ·have:=(hX.only r5 r4.1).2 d (hX.dl d dd) cd
   rw[this]
   exact gd
  ·rcases hc with hc|hc
   ·exact hc
   ·exact hX.old r5 j hj hc
  ·rcases hc with hc|hc
   ·exact hc
   ·exact hX.cd j (hX.old r5 j hj hc)
 fin:=by
  intro n H r C D ⟨k,d,m,t,ver,Hs,hv,dd,cd,gd,hX,hi⟩ hn
  subst hv
  have hl:=hi.wt.len hR
  obtain ⟨w,a,st⟩:=r
  obtain ⟨h1,h2,h3,h4,h5⟩:=hi
  simp only at h1 h2 h3 h4 h5 hl
  have hsq:(w.length:Int)*(w.length:Int)≤8*8:=Int.mul_le_mul (by omega) (by omega) (by omega) (by omega)
  obtain ⟨x,H',c,r1,r2,r3,r4,_,r5,r6⟩:=z9N hX.md.trie hX.md.ms (by simp only;omega) (by simp only;omega) (by simp only;omega)
  rw[k1C j2c gd]
  have hM:=hX.of r1 r5 r4.1
  refine ⟨x,H',c,r6.ta,r4.rd,hX.only r5 r4.1,_,_,⟨k,d,m,t,ver,Hs,rfl,.inl dd,fun hc=>?_,?_,hM,Mi.fin hR ⟨h1,h2,h3,h4,h5⟩⟩,fun j hj hc=>?_,fun j hj hc=>?_⟩
  ·rcases hc with hc|hc
   ·exact cd hc
   ·exact cd (hX.old r5 d (hX.dl d dd) hc)
  ·have:=(hX.only r5 r4.1).2 d (hX.dl d dd) cd
   rw[this]
   exact gd
  ·rcases hc with hc|hc
   ·exact hc
   ·exact hX.old r5 j hj hc
  ·rcases hc with hc|hc
   ·exact hc
   ·exact hX.cd j (hX.old r5 j hj hc)
 keep:=by
  intro n H H' r C D ⟨k,d,m,t,ver,Hs,hv,dd,cd,gd,hX,hi⟩ hn hk
  exact ⟨k,d,m,t,ver,Hs,hv,dd,cd,by rw[hk d dd];exact gd,hX.keep hn hk,hi⟩
 lt:=by
  intro n H r C D j ⟨k,d,m,t,ver,Hs,hv,dd,cd,gd,hX,hi⟩ hj
  exact hX.dl j hj
 sub:=by
  intro n H r C D j ⟨k,d,m,t,ver,Hs,hv,dd,cd,gd,hX,hi⟩ hj
  exact hX.cd j hj
 mono:=by
  intro n m' H r C D ⟨k,d,m,t,ver,Hs,hv,dd,cd,gd,hX,hi⟩ hn
  exact ⟨k,d,m,t,ver,Hs,hv,dd,cd,gd,hX,hi.mono hn⟩
theorem z6s {e:TypeId} (h:isT e=true):isF e=true:=by unfold isF;rw[h];rfl
theorem mk_T {k:Nat} {L:List Rl} {H:q0a} (hk:k<8) (h0:k≠0) (h7:k≠7) (hT:∀H,q0p (cw Tryz.prog (tabF tab) om1 17 [.string (nm k)] H) fun v H'=>Ext H H'∧∃q,v=.pointer (some ⟨q,0,none⟩)∧q1K H' q L) :
  q0p (cw Tryz.prog (tabF tab) om1 18 [.string (nm k)] H) fun v H'=>∃rv C D,v=.tuple ⟨[rv,.int .i64 0]⟩∧one rv=true∧RdM L rv 0 H' ([],0,0) C D∧NewM H H' C D:=by
 obtain ⟨v,H',c,x,rv,rfl,o,kk,hkk,hM⟩:=j2k (H:=H) hk h0 h7 hT
 obtain ⟨d,m,t,ver,rfl,hd,gd,hMD⟩:=hM.md
 obtain ⟨vw,ver2,gm,q2,q3⟩:=hMD.hm
 have hv:vw=.slice none 0 0:=by
  obtain ⟨_,⟨h,_⟩|⟨b,ver,anc,_,h,_⟩⟩:=q2
  ·exact h
  ·exact absurd h (by simp)
 subst hv
 have hdm:d≠m:=fun e=>by
  rw[e,gm] at gd
  injection gd with gd
  injection gd with _ gd
  exact absurd gd (by decide)
 have hkm:=hMD.km
 have hkn:=hMD.kn
 refine ⟨_,H',c,_,fun j=>j=m,fun j=>j=d∨j=m∨(j<kk∧∃b,H'.get j=some b∧isT b.elem=true),rfl,o,⟨kk,d,m,t,ver,H',rfl,.inl rfl,hdm,gd,⟨hkn,hkn,hkm,hMD.trie,⟨_,ver2,gm,q2,q3⟩,fun j b hj hb he=>⟨.inr (.inr ⟨hj,b,hb,he⟩),hb⟩,rfl,fun j hj=>absurd (NW.of gm (vw:=.slice none 0 0) trivial) hj,fun j hj=>?_,fun j hj=>.inr (.inl hj),fun j hj=>?_⟩,⟨⟨.inl rfl⟩,by decide,by decide,by decide,by decide⟩⟩,x,fun j hj=>?_,fun j hj hl b hb=>?_⟩
 ·have hj:j=m:=hj
  omega
 ·rcases hj with rfl|rfl|⟨hj,_⟩
  ·exact q0a.lt_of_get gd
  ·exact q0a.lt_of_get gm
  ·omega
 ·have hj:j=m:=hj
  subst hj
  exact ⟨by omega,_,gm,by simp only;decide⟩
 ·rcases hj with rfl|rfl|⟨_,b',hb',ht⟩
  ·omega
  ·omega
  ·rw[hb] at hb'
   injection hb' with hb'
   subst hb'
   exact z6s ht
def wrS (a:Int) (u:Int):List Tok×Int:=([⟨a,1,utfB u,0⟩],a+1)
def wfS (a:Int):List Tok×Int:=([],a)
def WrM (v:Value) (n:Nat) (H:q0a) (a:Int) (C D:NS):Prop:=∃sc ver,v=.iface 113 (.pointer (some ⟨sc,0,none⟩))∧H.get sc=some ⟨[.int .i64 a],115,.tip,ver,[]⟩∧0≤a∧a≤n∧C=(fun j=>j=sc)∧D=fun j=>j=sc
theorem j2n : q6Q Tryz.prog 113 "Put" = some (172, none) := by kernel_rfl
theorem j2o : q6Q Tryz.prog 113 "End" = some (170, none) := by kernel_rfl
theorem z8o {v:Value} {H:q0a}:cw Tryz.prog (tabF tab) om1 170 [v] H=some (.slice none 0 0,H):=by
 rw[q0g (F:=q2r) rfl rfl rfl]
 unfold q2r q5i
 simp only[WA,reduceCtorEq]
theorem k0I {C:NS} {H H':q0a} (h:Only C H H') (hC:∀j b,C j→H.get j=some b→b.elem≠36):Rd C H H':=by
 have hget:∀j b,H.get j=some b→¬C j→H'.get j=some b:=fun j b hj hc=>by rw[h.2 j (q0a.lt_of_get hj) hc];exact hj
 refine ⟨fun x m hm h1 h2 h3=>?_,fun j b hj he=>hget j b hj fun hc=>hC j b hc hj he⟩
 obtain ⟨⟨p,c,rfl⟩,h4⟩:=h1
 have hm0:¬(m.length=0):=fun e=>hm (List.length_eq_zero_iff.1 e)
 cases p with
 | none=>exact ⟨⟨⟨_,_,rfl⟩,by unfold cellsOf at h4 ⊢;split at h4<;>simp_all⟩,trivial⟩
 | some a=>
  obtain ⟨i,o,s⟩:=a
  cases s with
  | some s=>exact ⟨⟨⟨_,_,rfl⟩,by unfold cellsOf at h4 ⊢;split at h4<;>simp_all⟩,trivial⟩
  | none=>
   have hi:¬C i:=fun hc=>h3 i hc rfl
   obtain ⟨b,hb,hs⟩:=h2
   have hb':=hget i b hb hi
   refine ⟨⟨⟨_,_,rfl⟩,?_⟩,b,hb',hs⟩
   have h4':(if m.length=0 then some [] else match H.get i with
    | some blk=>if blk.st.mem∧o+m.length*1≤blk.cells.length then some ((blk.cells.drop o).take (m.length*1)) else none
    | none=>none)=some (ints m):=h4
   show (if m.length=0 then some [] else match H'.get i with
    | some blk=>if blk.st.mem∧o+m.length*1≤blk.cells.length then some ((blk.cells.drop o).take (m.length*1)) else none
    | none=>none)=some (ints m)
   rw[if_neg hm0] at h4' ⊢
   rw[hb]at h4'
   rw[hb']
   exact h4'
theorem mc_S {v:Value}:Mc (WrM v) v wrS wfS okS 200000 where
 put:=by
  intro n H a C D u ⟨sc,ver,hv,hg,h0,h1,hC,hD⟩ hn hu
  subst hv hC hD
  obtain ⟨x,H',c,q1,q2,q3,q4,q5,q6⟩:=z8k hu hg ⟨h0,by omega⟩
  rw[q2N j2n]
  have ho:Only (fun j=>j=sc) H H':=⟨q4,fun j hj hc=>q5 j hj hc⟩
  refine ⟨x,H',c,q6.ta,k0I ho (fun j b hc hb he=>?_),ho,_,_,⟨sc,_,rfl,q3,by unfold wrS;simp only;omega,by unfold wrS;simp only;omega,rfl,rfl⟩,fun j _ hj=>hj,fun j _ hj=>hj⟩
  ·have hc:j=sc:=hc
   subst hc
   rw[hg] at hb
   injection hb with hb
   subst hb
   revert he
   simp only
   decide
 fin:=by
  intro n H a C D ⟨sc,ver,hv,hg,h0,h1,hC,hD⟩ hn
  subst hv hC hD
  rw[q2N j2o]
  exact ⟨_,H,z8o,q0U.nil,⟨fun _ _ _ g1 g2 _=>⟨g1,g2⟩,fun _ _ h _=>h⟩,⟨Nat.le_refl _,fun _ _ _=>rfl⟩,_,_,⟨sc,ver,rfl,hg,h0,h1,rfl,rfl⟩,fun j _ hj=>hj,fun j _ hj=>hj⟩
 keep:=by
  intro n H H' a C D ⟨sc,ver,hv,hg,h0,h1,hC,hD⟩ hn hk
  exact ⟨sc,ver,hv,by rw[hk sc (by rw[hD])];exact hg,h0,h1,hC,hD⟩
 lt:=by
  intro n H a C D j ⟨sc,ver,hv,hg,h0,h1,hC,hD⟩ hj
  subst hD
  have hj:j=sc:=hj
  subst hj
  exact q0a.lt_of_get hg
 sub:=by
  intro n H a C D j ⟨sc,ver,hv,hg,h0,h1,hC,hD⟩ hj
  subst hC hD
  exact hj
 mono:=by
  intro n m H a C D ⟨sc,ver,hv,hg,h0,h1,hC,hD⟩ hn
  exact ⟨sc,ver,hv,hg,h0,by omega,hC,hD⟩
theorem wg_S {v:Value}:Wg (WrM v) wrS wfS okS where
 good:=by
  intro n H a C D u _ hu
  obtain ⟨h1,h2,h3⟩:=z4s hu
  refine ⟨fun x hx _=>?_,?_⟩
  ·unfold wrS at hx
   simp only[List.mem_singleton] at hx
   subst hx
   exact h1
  ·unfold wrS wl
   simp only[List.map_cons,List.map_nil,List.sum_cons,List.sum_nil]
   omega
 goodf:=by
  intro n H a C D _
  exact ⟨fun x hx=>absurd hx (by unfold wfS;simp),by unfold wfS wl;simp⟩
theorem mk_S {H:q0a}:q0p (cw Tryz.prog (tabF tab) om1 30 [.string (nm 0)] H) fun v H'=>∃wv C D,v=.tuple ⟨[wv,.int .i64 0]⟩∧one wv=true∧WrM wv 0 H' 0 C D∧NewM H H' C D:=by
 obtain ⟨v,H',c,x,rv,rfl,o,rfl,hg⟩:=j2l (H:=H)
 refine ⟨_,H',c,_,fun j=>j=H.n,fun j=>j=H.n,rfl,o,⟨H.n,0,rfl,hg,by decide,by decide,rfl,rfl⟩,x,fun j hj=>?_,fun j hj hl=>?_⟩
 ·have hj:j=H.n:=hj
  subst hj
  exact ⟨Nat.le_refl _,_,hg,by simp only;decide⟩
 ·have hj:j=H.n:=hj
  omega
theorem z6t {H:q0a} {x:Value} {el:TypeId} {sz by_:Nat} (h:Sl H sz x 0 []):q0m H (.slice none 0 0) x el sz by_=some (.slice none 0 0,H):=by
 obtain ⟨⟨a,c,rfl⟩,h2⟩:=h
 unfold q0m
 simp only[h2]
 rfl
theorem z4x {H:q0a} {i ver:Nat} {el:TypeId} {a b x:Value} (h1:one x=true):q0u (some ⟨[a,b],el,.tip,ver,[]⟩) i 0 x 1 H=some (.tuple ⟨[]⟩,H.upd i ⟨[x,b],el,.tip,ver+1,[]⟩):=by
 have hc:=k9g h1
 have:=q0x (H:=H) (cells:=[a,b]) (el:=el) (ver:=ver) (anc:=[]) (i:=i) (o:=0) (n:=1) (v:=x) (by rw[hc];rfl) (by rw[hc];simp[h1]) (by simp)
 rw[this,hc]
 rfl
theorem z4y {H:q0a} {i ver:Nat} {el:TypeId} {a b x:Value} (h1:one x=true):q0u (some ⟨[a,b],el,.tip,ver,[]⟩) i 1 x 1 H=some (.tuple ⟨[]⟩,H.upd i ⟨[a,x],el,.tip,ver+1,[]⟩):=by
 have hc:=k9g h1
 have:=q0x (H:=H) (cells:=[a,b]) (el:=el) (ver:=ver) (anc:=[]) (i:=i) (o:=1) (n:=1) (v:=x) (by rw[hc];rfl) (by rw[hc];simp[h1]) (by simp)
 rw[this,hc]
 rfl
theorem app_B {H:q0a} {x:Value} {l:List Int} (hx:Nums H .u8 x l) (hl:l.length<1000000):∃v' H',q0m H (.slice none 0 0) x 5 1 1=some (v',H')∧Ext H H'∧OwnB H' v' l∧From H.n v':=by
 by_cases h:l=[]
 ·subst h
  exact ⟨_,H,z6t hx,Ext.refl H,⟨rfl,.inl ⟨rfl,rfl⟩⟩,trivial⟩
 ·obtain ⟨v',H',m1,m2,m3,m4,m5⟩:=OwnB.add (l:=[]) (v:=.slice none 0 0) ⟨rfl,.inl ⟨rfl,rfl⟩⟩ hx h (by simp;omega)
  exact ⟨v',H',m1,⟨m4,fun j hj=>m5 j hj trivial⟩,m2,m3⟩
theorem z6u {l:List Int} {n:Nat}:(u8s l).drop (n*1)=u8s (l.drop n):=by unfold u8s;rw[Nat.mul_one,List.map_drop]
def rtT (a s e:Int) (n:Nat):Tok:=⟨a,n,if e=0 then [s] else [],e⟩
theorem j2p {a s e:Int} {n:Nat} {H:q0a}:∃H1 H2 H4 p c ver,H1=H.push ⟨[.int .i64 0,.int .i64 0,.slice none 0 0,.int .i64 0],36,.tip,0,[]⟩∧H1.n=H.n+1∧H2=H1.push ⟨[.int .i64 a,.int .i64 n,.slice none 0 0,.int .i64 e],36,.tip,1,[]⟩∧Ext H H4∧H4.get H.n=some ⟨[.int .i64 0,.int .i64 0,.slice none 0 0,.int .i64 0],36,.tip,0,[]⟩∧H4.get H1.n=some ⟨tokC p c (rtT a s e n),36,.tip,ver,[]⟩∧tokQ Tryz.prog H4 (tokC p c (rtT a s e n)) (rtT a s e n)∧From (H.n+2) (.slice p (rtT a s e n).out.length c) ∧
  (if e=0 then ∃H3,q0D 3 1 1 [.int .i64 0] [(0,1,.int .i64 s)] H2=some (.slice p 1 c,H3)∧H3.get H1.n=some ⟨[.int .i64 a,.int .i64 n,.slice none 0 0,.int .i64 e],36,.tip,1,[]⟩∧q0u (some ⟨[.int .i64 a,.int .i64 n,.slice none 0 0,.int .i64 e],36,.tip,1,[]⟩) H1.n 2 (.slice p 1 c) 1 H3=some (.tuple ⟨[]⟩,H4) else H4=H2):=by
 obtain ⟨H1,hH1⟩:∃H1,H1=H.push ⟨[.int .i64 0,.int .i64 0,.slice none 0 0,.int .i64 0],36,.tip,0,[]⟩:=⟨_,rfl⟩
 have x1:Ext H H1:=by rw[hH1];exact Ext.push H _
 have g1:H1.get H.n=some ⟨[.int .i64 0,.int .i64 0,.slice none 0 0,.int .i64 0],36,.tip,0,[]⟩:=by rw[hH1];exact q0b
 have n1:H1.n=H.n+1:=by rw[hH1,q0a.n_push]
 obtain ⟨H2,hH2⟩:∃H2,H2=H1.push ⟨[.int .i64 a,.int .i64 n,.slice none 0 0,.int .i64 e],36,.tip,1,[]⟩:=⟨_,rfl⟩
 have x2:Ext H1 H2:=by rw[hH2];exact Ext.push H1 _
 have g2:H2.get H1.n=some ⟨[.int .i64 a,.int .i64 n,.slice none 0 0,.int .i64 e],36,.tip,1,[]⟩:=by rw[hH2];exact q0b
 have n2:H2.n=H.n+2:=by rw[hH2,q0a.n_push,n1]
 by_cases he:e=0
 ·obtain ⟨H3,v3,x3,i3,k3⟩:=k3d (H:=H2) (a:=s)
  have g3:=x3.get g2
  have hst3:=z4r (H:=H3) (i:=H1.n) (ver:=1) (el:=36) (a:=.int .i64 a) (b:=.int .i64 n) (c:=.slice none 0 0) (d:=.int .i64 e) (x:=.slice (some ⟨H2.n,0,none⟩) 1 2) rfl
  obtain ⟨H4,hH4⟩:∃H4,H4=H3.upd H1.n ⟨[.int .i64 a,.int .i64 n,.slice (some ⟨H2.n,0,none⟩) 1 2,.int .i64 e],36,.tip,1+1,[]⟩:=⟨_,rfl⟩
  rw[←hH4] at hst3
  have hr:rtT a s e n=⟨a,n,[s],e⟩:=by unfold rtT;rw[if_pos he]
  rw[hr]
  refine ⟨H1,H2,H4,some ⟨H2.n,0,none⟩,2,1+1,hH1,n1,hH2,by rw[hH4];exact Ext.upd (x1.trans (x2.trans x3)) g3 (by omega),by rw[hH4,q0j g3 (by omega)];exact x3.get (x2.get g1),by rw[hH4];exact q0r g3,⟨_,_,rfl,?_,by unfold Lon.tiny;simp,?_⟩,?_,?_⟩
  ·rw[hH4];exact Sl.upd i3 g3 (fun e=>by have:H2.n=H1.n:=e;omega)
  ·rw[hH4];exact Cut.upd k3 g3 rfl
  ·show H.n+2≤H2.n
   omega
  ·rw[if_pos he]
   exact ⟨H3,v3,g3,hst3⟩
 ·have hr:rtT a s e n=⟨a,n,[],e⟩:=by unfold rtT;rw[if_neg he]
  rw[hr]
  refine ⟨H1,H2,H2,none,0,1,hH1,n1,hH2,x1.trans x2,x2.get g1,g2,⟨_,_,rfl,Sl.nil _ 1,by unfold Lon.tiny;simp,trivial⟩,trivial,?_⟩
  rw[if_neg he]
theorem j2q {H:q0a} {a n e:Int}:q2l [.int .i64 0,.int .i64 0,.slice none 0 0,.int .i64 0] [(0,1,.int .i64 a),(1,1,.int .i64 n),(3,1,.int .i64 e)] H=some (.agg ⟨[.int .i64 a,.int .i64 n,.slice none 0 0,.int .i64 e]⟩,H):=rfl
theorem z4z {r ver:Nat} {a s e:Int} {n:Nat} {w:List Int} {vw:Value} {H:q0a} (hg:H.get r=some ⟨[vw,.int .i64 a],101,.tip,ver,[]⟩) (ho:OwnB H vw w) (ha:0≤a∧a<100000000) (hw:w.length<1000) (hn:n≤w.length) :
  q0p (cw Tryz.prog (tabF tab) om1 163 [.pointer (some ⟨r,0,none⟩),.int .i64 s,.int .i64 n,.int .i64 e] H) fun v H'=>H.n≤H'.n∧(∀j,j<H.n→j≠r→H'.get j=H.get j)∧(∃ver vw',H'.get r=some ⟨[vw',.int .i64 (a+n)],101,.tip,ver,[]⟩∧OwnB H' vw' (w.drop n)∧From H.n vw')∧∃p c,v=.agg ⟨tokC p c (rtT a s e n)⟩∧tokQ Tryz.prog H' (tokC p c (rtT a s e n)) (rtT a s e n)∧From H.n (.slice p (rtT a s e n).out.length c):=by
 have hrl:=q0a.lt_of_get hg
 obtain ⟨H1,H2,H4,p,c,ver4,hH1,n1,hH2,x4,g1',g4,t4,f4,mid⟩:=j2p (a:=a) (s:=s) (e:=e) (n:=n) (H:=H)
 have hst:=k5O (H:=H1.push ⟨[.int .i64 0,.int .i64 0,.slice none 0 0,.int .i64 0],36,.tip,0,[]⟩) (i:=H1.n) (ver:=0) (el:=36) (a:=.int .i64 0) (b:=.int .i64 0) (c:=.slice none 0 0) (d:=.int .i64 0) (u:=.int .i64 a) (v:=.int .i64 n) (x:=.slice none 0 0) (y:=.int .i64 e) rfl
 simp only[Nat.zero_add] at hst
 have gr4:=x4.get hg
 have o4:=Own.ext x4 ho
 obtain ⟨v5,s5,s5',_⟩:=Sl.drop (P:=Tryz.prog) (j:=n) o4.sl (o4.cut (by kernel_rfl)) hn
 have hi5:Nums H4 .u8 v5 (w.drop n):=by
  have:=s5'
  rw[z6u] at this
  unfold Nums
  rw[List.length_drop]
  exact this
 obtain ⟨vw',H5,a5,x5,o5,f5⟩:=app_B hi5 (by rw[List.length_drop];omega)
 have hone:one vw'=true:=by
  obtain ⟨⟨a1,c1,rfl⟩,_⟩:=o5.sl
  rfl
 have gr5:=x5.get gr4
 have st5:=z4x (H:=H5) (i:=r) (ver:=ver) (el:=101) (a:=vw) (b:=.int .i64 a) (x:=vw') hone
 obtain ⟨H6,hH6⟩:∃H6,H6=H5.upd r ⟨[vw',.int .i64 a],101,.tip,ver+1,[]⟩:=⟨_,rfl⟩
 rw[←hH6] at st5
 have g6:H6.get r=some ⟨[vw',.int .i64 a],101,.tip,ver+1,[]⟩:=by rw[hH6];exact q0r gr5
 have hwa:IntKind.i64.wrap (a+n)=a+n:=q0k (by omega) (by omega)
 have st6:=z4y (H:=H6) (i:=r) (ver:=ver+1) (el:=101) (a:=vw') (b:=.int .i64 a) (x:=.int .i64 (a+n)) rfl
 obtain ⟨H7,hH7⟩:∃H7,H7=H6.upd r ⟨[vw',.int .i64 (a+n)],101,.tip,ver+1+1,[]⟩:=⟨_,rfl⟩
 rw[←hH7] at st6
 have g7:H7.get r=some ⟨[vw',.int .i64 (a+n)],101,.tip,ver+1+1,[]⟩:=by rw[hH7];exact q0r g6
 have k7:∀j,j≠r→H7.get j=H5.get j:=fun j hj=>by rw[hH7,q0j g6 hj,hH6,q0j gr5 hj]
 have n7:H7.n=H5.n:=by rw[hH7,hH6];simp
 have hb7:∀j b,H5.get j=some b→b.elem≠101→H7.get j=some b:=fun j b hj he=>by
  rw[k7 j (fun e=>by subst e;rw[gr5] at hj;injection hj with hj;subst hj;exact he rfl)]
  exact hj
 have gt7:H7.get H1.n=some ⟨tokC p c (rtT a s e n),36,.tip,ver4,[]⟩:=hb7 _ _ (x5.get g4) (by simp only;decide)
 have g17:H7.get H.n=some ⟨[.int .i64 0,.int .i64 0,.slice none 0 0,.int .i64 0],36,.tip,0,[]⟩:=hb7 _ _ (x5.get g1') (by simp only;decide)
 have ld7:q0l (some ⟨tokC p c (rtT a s e n),36,.tip,ver4,[]⟩) 0 (some 4) H7=some (.agg ⟨tokC p c (rtT a s e n)⟩,H7):=by
  rw[q4e q0n (by simp[tokC])];rfl
 have st8:=k5O (H:=H7) (i:=H.n) (ver:=0) (el:=36) (a:=.int .i64 0) (b:=.int .i64 0) (c:=.slice none 0 0) (d:=.int .i64 0) (u:=.int .i64 a) (v:=.int .i64 n) (x:=.slice p (rtT a s e n).out.length c) (y:=.int .i64 e) rfl
 have htc:tokC p c (rtT a s e n)=[.int .i64 a,.int .i64 n,.slice p (rtT a s e n).out.length c,.int .i64 e]:=rfl
 rw[←htc] at st8
 obtain ⟨H8,hH8⟩:∃H8,H8=H7.upd H.n ⟨tokC p c (rtT a s e n),36,.tip,0+1,[]⟩:=⟨_,rfl⟩
 rw[←hH8] at st8
 have g8:H8.get H.n=some ⟨tokC p c (rtT a s e n),36,.tip,0+1,[]⟩:=by rw[hH8];exact q0r g17
 have ld8:q0l (some ⟨tokC p c (rtT a s e n),36,.tip,0+1,[]⟩) 0 (some 4) H8=some (.agg ⟨tokC p c (rtT a s e n)⟩,H8):=by
  rw[q4e q0n (by simp[tokC])];rfl
 have gr1:H1.get r=some ⟨[vw,.int .i64 a],101,.tip,ver,[]⟩:=by rw[hH1];exact (Ext.push H _).get hg
 have main:q0p (cw Tryz.prog (tabF tab) om1 163 [.pointer (some ⟨r,0,none⟩),.int .i64 s,.int .i64 n,.int .i64 e] H) fun v H'=>v=.agg ⟨tokC p c (rtT a s e n)⟩∧H'=H8:=by
  rw[q0g (F:=q2o) rfl rfl rfl]
  unfold q2o q5f
  by_cases he:e=0
  ·rw[if_pos he] at mid
   obtain ⟨H3,v3,g3,hst3⟩:=mid
   have z0:(e=0)=True:=eq_true he
   simp only[WA,Nat.reduceEqDiff,reduceCtorEq,←hH1,gr1,j2q,hst,←hH2,z0,v3,g3,hst3,gr4,s5,a5,gr5,st5,g6,hwa,st6,gt7,ld7,g17,st8,q2h,q4f,g8,ld8]
  ·rw[if_neg he] at mid
   subst mid
   have z0:(e=0)=False:=eq_false he
   simp only[WA,Nat.reduceEqDiff,reduceCtorEq,←hH1,gr1,j2q,hst,←hH2,z0,gr4,s5,a5,gr5,st5,g6,hwa,st6,gt7,ld7,g17,st8,q2h,q4f,g8,ld8]
 obtain ⟨v,H',cc,rfl,rfl⟩:=main
 have x4n:=x4.1
 have x5n:=x5.1
 have n8:H'.n=H7.n:=by rw[hH8];simp
 have hb8:∀j b,H7.get j=some b→j≠H.n→H'.get j=some b:=fun j b hj he=>by rw[hH8,q0j g17 he];exact hj
 have tq7:tokQ Tryz.prog H7 (tokC p c (rtT a s e n)) (rtT a s e n):=k2S (el:=101) (s:=2) (by kernel_rfl) (by decide) hb7 (k2R x5.kp t4)
 refine ⟨_,H',cc,by omega,fun j hj hjr=>?_,⟨_,vw',hb8 _ _ g7 (by omega),?_,f5.mono x4n⟩,p,c,rfl,?_,f4.mono (by omega)⟩
 ·rw[hH8,q0j g17 (by omega),k7 j hjr,x5.2 j (by omega),x4.2 j hj]
 ·refine Own.move o5 fun i b hi he=>hb8 _ _ (hb7 i b hi (by rw[he];decide)) (fun e=>?_)
  subst e
  rw[x5.get g1'] at hi
  injection hi with hi
  subst hi
  revert he
  simp only
  decide
 ·exact k2S (el:=36) (s:=4) (by kernel_rfl) (by decide) (fun j b hj he=>hb8 j b hj (fun e=>by
   subst e
   rw[g17] at hj
   injection hj with hj
   subst hj
   exact he rfl)) tq7
structure RB (r:Nat) (H:q0a) (vw:Value) (w:List Int) (a:Int):Prop where
 hg:∃ver,H.get r=some ⟨[vw,.int .i64 a],101,.tip,ver,[]⟩
 ho:OwnB H vw w
def lpF:Nat→List Int→Int→List Tok×List Int×Int
 | 0,w,a=>([],w,a)
 | c+1,w,a=>if w=[] then ([],w,a) else if (oneF w).2.2=2 then ([],w,a) else
   (rtT a (oneF w).1 (oneF w).2.2 (oneF w).2.1.toNat::(lpF c (w.drop (oneF w).2.1.toNat) (a+(oneF w).2.1)).1,(lpF c (w.drop (oneF w).2.1.toNat) (a+(oneF w).2.1)).2)
theorem z4A (l:List Int) (n:Nat):∀(r:Nat) (s lo hi:Int) (k:Nat),k≤l.length→1≤k→((oneG l n r s lo hi k).2.2=2∧l.length+1≤k+r)∨(((oneG l n r s lo hi k).2.2=0∨(oneG l n r s lo hi k).2.2=1)∧∃m:Nat,(oneG l n r s lo hi k).2.1=m∧1≤m∧m≤l.length)
 | 0,s,lo,hi,k,hk,h1=>.inr ⟨.inl rfl,k,rfl,h1,hk⟩
 | r+1,s,lo,hi,k,hk,h1=>by
  unfold oneG
  cases hu:l[k]? with
  | none=>
   have:=List.getElem?_eq_none_iff.1 hu
   exact .inl ⟨rfl,by omega⟩
  | some u=>
   have hlt:=(List.getElem?_eq_some_iff.1 hu).1
   simp only
   split
   ·exact .inr ⟨.inr rfl,k,rfl,h1,hk⟩
   ·have:=z4A l n r (s*64+u % 64) 128 191 (k+1) (by omega) (by omega)
    rcases this with ⟨h3,h4⟩|h3
    ·exact .inl ⟨h3,by omega⟩
    ·exact .inr h3
theorem k5S {l:List Int} (hl:l≠[]) (hb:∀u∈l,0≤u∧u<256):((oneF l).2.2=2∧l.length≤3)∨(((oneF l).2.2=0∨(oneF l).2.2=1)∧∃m:Nat,(oneF l).2.1=m∧1≤m∧m≤l.length):=by
 obtain ⟨c,l',rfl⟩:=List.exists_cons_of_ne_nil hl
 unfold oneF
 obtain ⟨⟨h1,h2⟩,_⟩:=z8e (hb c (List.mem_cons_self ..))
 simp only
 split
 ·exact .inr ⟨.inr rfl,1,rfl,Nat.le_refl _,by simp⟩
 ·rcases z4A (c::l') (ldF c).1.toNat ((ldF c).1.toNat-1) (ldF c).2.1 (ldF c).2.2.1 (ldF c).2.2.2 1 (by simp) (Nat.le_refl _) with ⟨h3,h4⟩|h3
  ·exact .inl ⟨h3,by omega⟩
  ·exact .inr h3
theorem j2r {H:q0a} {el:TypeId} {p:Option Addr} {c:Nat} {x:Tok}:q0D el 1 4 [.int .i64 0,.int .i64 0,.slice none 0 0,.int .i64 0] [(0,4,.agg ⟨tokC p c x⟩)] H=some (.slice (some ⟨H.n,0,none⟩) 1 2,H.push ⟨tokC p c x,el,.tip,0,[]⟩):=rfl
theorem RB.lay {r:Nat} {H:q0a} {vw:Value} {w:List Int} {a u:Int} (h:RB r H vw w a) (hw:w.length<1000):∃ver H1 v' H2 H3,H.get r=some ⟨[vw,.int .i64 a],101,.tip,ver,[]⟩∧q0D 5 1 1 [.int .u8 0] [(0,1,.int .u8 u)] H=some (.slice (some ⟨H.n,0,none⟩) 1 2,H1)∧H1.get r=some ⟨[vw,.int .i64 a],101,.tip,ver,[]⟩∧q0m H1 vw (.slice (some ⟨H.n,0,none⟩) 1 2) 5 1 1=some (v',H2)∧H2.get r=some ⟨[vw,.int .i64 a],101,.tip,ver,[]⟩∧one v'=true∧H3=H2.upd r ⟨[v',.int .i64 a],101,.tip,ver+1,[]⟩∧H3.get r=some ⟨[v',.int .i64 a],101,.tip,ver+1,[]⟩∧RB r H3 v' (w++[u]) a∧From H.n v'∧H.n≤H3.n∧∀j,j<H.n→j≠r→q0i vw j→H3.get j=H.get j:=by
 obtain ⟨ver,hs⟩:=h.hg
 have hos:q0i vw r:=h.ho.notAt_elem hs (by simp only;decide)
 obtain ⟨H1,v1,x1,i1⟩:=v_u1 (H:=H) (a:=u)
 obtain ⟨v',H2,m1,m2,m3,m4,m5⟩:=OwnB.add (Own.ext x1 h.ho) i1 (by simp) (by simp;omega)
 have hsl:=q0a.lt_of_get hs
 have x1n:=x1.1
 have g1:=x1.get hs
 have g2:H2.get r=some ⟨[vw,.int .i64 a],101,.tip,ver,[]⟩:=by rw[m5 r (by omega) hos];exact g1
 have hone:one v'=true:=by
  obtain ⟨⟨a1,c1,rfl⟩,_⟩:=m2.sl
  rfl
 obtain ⟨H3,hH3⟩:∃H3,H3=H2.upd r ⟨[v',.int .i64 a],101,.tip,ver+1,[]⟩:=⟨_,rfl⟩
 have g3:H3.get r=some ⟨[v',.int .i64 a],101,.tip,ver+1,[]⟩:=by rw[hH3];exact q0r g2
 have n3:H3.n=H2.n:=by rw[hH3];simp
 refine ⟨ver,H1,v',H2,H3,hs,v1,g1,m1,g2,hone,hH3,g3,⟨⟨_,g3⟩,Own.move m2 fun i b hi he=>?_⟩,m3.mono (by omega),by omega,fun j hj hjs hn=>?_⟩
 ·rw[hH3,q0j g2 (fun e=>by subst e;rw[g2] at hi;injection hi with hi;subst hi;revert he;simp only;decide)]
  exact hi
 ·rw[hH3,q0j g2 hjs,m5 j (by omega) hn,x1.2 j hj]
def PRP (r:Nat) (H0:q0a) (vw0:Value) (T:List Tok) (z:List Tok×List Int×Int) (y:AEx) (e':Env) (H':q0a):Prop:=y=.exit 0∧(∃vw',RB r H' vw' z.2.1 z.2.2∧∀j,j<H0.n→q0i vw0 j→q0i vw' j)∧q2R H0.n H' (eget e' 5) (T++z.1)∧H0.n≤H'.n∧∀j,j<H0.n→j≠r→q0i vw0 j→H'.get j=H0.get j
theorem l_RP {r:Nat} {H0:q0a} {vw0:Value}:∀(c:Nat) (w:List Int) (a:Int) (H:q0a) (vw ov:Value) (T:List Tok),w.length≤c→RB r H vw w a→(∀u∈w,0≤u∧u<256)→0≤a∧a+w.length<100000000→w.length<1000→T.length+w.length<100000→q2R H0.n H ov T→From H0.n ov→H0.n≤H.n→(∀j,j<H0.n→j≠r→q0i vw0 j→H.get j=H0.get j)→(∀j,j<H0.n→q0i vw0 j→q0i vw j) →
  Out (run Tryz.prog (tabF tab) om1 (.loop [0,5] q0Z) [(0,.pointer (some ⟨r,0,none⟩)),(5,ov)] H) (PRP r H0 vw0 T (lpF c w a)):=by
 intro c
 induction c with
 | zero=>
  intro w a H vw ov T hw h hb ha hl hT ht hf hn hk hv
  have:w=[]:=List.length_eq_zero_iff.1 (by omega)
  subst this
  obtain ⟨ver,hg⟩:=h.hg
  have hi:Nums H .u8 vw []:=h.ho.sl
  have hl:=fun H9=>Nums.len (H2:=H9) hi
  have z00:((([]:List Int).length:Nat):Int)=0:=rfl
  simp only[z00] at hl
  have z0:((0:Int)>0)=False:=by simp
  rw[show lpF 0 [] a=([],[],a) from rfl,q0d q0Z.eq_1]
  simp only[WA,Nat.reduceEqDiff,reduceCtorEq,hg,hl,z0]
  exact ⟨rfl,⟨vw,h,hv⟩,by rw[List.append_nil];exact ht,hn,hk⟩
 | succ c ih=>
  intro w a H vw ov T hw h hb ha hl hT ht hf hn hk hv
  obtain ⟨ver,hg⟩:=h.hg
  have hi:Nums H .u8 vw w:=h.ho.sl
  have hlw:=fun H9=>Nums.len (H2:=H9) hi
  by_cases hne:w=[]
  ·subst hne
   have z00:((([]:List Int).length:Nat):Int)=0:=rfl
   simp only[z00] at hlw
   have z0:((0:Int)>0)=False:=by simp
   have hL:lpF (c+1) [] a=([],[],a):=by unfold lpF;rw[if_pos rfl]
   rw[hL,q0d q0Z.eq_1]
   simp only[WA,Nat.reduceEqDiff,reduceCtorEq,hg,hlw,z0]
   exact ⟨rfl,⟨vw,h,hv⟩,by rw[List.append_nil];exact ht,hn,hk⟩
  have hpos:=List.length_pos_iff.2 hne
  have z0:((w.length:Int)>0)=True:=eq_true (by omega)
  have c1:=c_One hi hb
  unfold oneV at c1
  rcases k5S hne hb with ⟨e2,_⟩|⟨e01,n,en,n1,n2⟩
  ·rw[e2] at c1
   have z2:((2:Int)=2)=True:=by simp
   have hL:lpF (c+1) w a=([],w,a):=by unfold lpF;rw[if_neg hne,if_pos e2]
   rw[hL,q0d q0Z.eq_1]
   simp only[WA,Nat.reduceEqDiff,reduceCtorEq,hg,hlw,z0,c1]
   exact ⟨rfl,⟨vw,h,hv⟩,by rw[List.append_nil];exact ht,hn,hk⟩
  ·have ene:¬(oneF w).2.2=2:=by rcases e01 with h|h<;>rw[h]<;>decide
   have z2:((oneF w).2.2=2)=False:=eq_false ene
   have hL:lpF (c+1) w a=(rtT a (oneF w).1 (oneF w).2.2 n::(lpF c (w.drop n) (a+n)).1,(lpF c (w.drop n) (a+n)).2):=by
    conv=>lhs;unfold lpF
    rw[if_neg hne,if_neg ene,en,Int.toNat_natCast]
   rw[en] at c1
   obtain ⟨v4,H4,c4,n4,k4,⟨ver4,vw4,g4,o4,f4⟩,p,cc,rfl,t4,tf4⟩:=z4z (s:=(oneF w).1) (e:=(oneF w).2.2) hg h.ho ⟨ha.1,by omega⟩ hl n2
   obtain ⟨x,hx⟩:∃x,x=rtT a (oneF w).1 (oneF w).2.2 n:=⟨_,rfl⟩
   rw[←hx] at c4 t4 tf4 hL
   have hrl:=q0a.lt_of_get hg
   have hb4:∀j b,H.get j=some b→b.elem≠101→H4.get j=some b:=fun j b hj he=>by
    rw[k4 j (q0a.lt_of_get hj) (fun e=>by subst e;rw[hg] at hj;injection hj with hj;subst hj;exact he rfl)]
    exact hj
   have ht4:q2R H0.n H4 ov T:=by
    obtain ⟨q0,cs,q1,q2⟩:=ht
    exact ⟨q0,cs,q1.move fun i b hi he=>hb4 i b hi (by rw[he];decide),fun k r hr=>q6M (el:=101) (s:=2) (by kernel_rfl) (by decide) hb4 (q2 k r hr)⟩
   have x5:=Ext.push H4 ⟨tokC p cc x,36,.tip,0,[]⟩
   have g5:=q0b (H:=H4) (b:=⟨tokC p cc x,36,.tip,0,[]⟩)
   obtain ⟨v6,H6,q1,q2,q3,q4,q5,q6⟩:=(ht4.ext q3g x5).push q3g (bytes:=48) (c:=2) g5 rfl (q3g x5.kp (k3c t4 (tf4.mono hn))) k5L (by omega) (by omega)
   have x5n:=x5.1
   rw[q0a.n_push] at q3 q5 q6 x5n
   have hno:∀j,j<H4.n→q0i ov j→H6.get j=H4.get j:=fun j hj hna=>by rw[q6 j (by omega) hna,x5.2 j hj]
   have na:∀j,H.get j≠none→(∀b,H.get j=some b→b.elem≠36)→q0i ov j:=fun j hj he=>by
    cases hb9:H.get j with
    | none=>exact absurd hb9 hj
    | some b=>
     obtain ⟨_,cs,q1,_⟩:=ht
     exact q1.notAt_elem hb9 (he b hb9)
   have gr6:H6.get r=some ⟨[vw4,.int .i64 (a+n)],101,.tip,ver4,[]⟩:=by
    rw[hno r (by omega) (na r (by rw[hg];simp) fun b hb9=>by rw[hg] at hb9;injection hb9 with hb9;subst hb9;simp only;decide)]
    exact g4
   have h6:RB r H6 vw4 (w.drop n) (a+n):=⟨⟨ver4,gr6⟩,z1g o4 fun j hj=>by
    have hj4:H.n≤j:=by
     by_cases hlt:j<H.n
     ·exact absurd (q0i.of_from f4 hlt) hj
     ·omega
    obtain ⟨b,hb9,hbe⟩:=q3E o4 hj
    have hna:q0i ov j:=by
     obtain ⟨_,cs,q1,_⟩:=ht4
     exact q1.notAt_elem hb9 (by rw[hbe];decide)
    exact hno j (q0a.lt_of_get hb9) hna⟩
   obtain ⟨y,e',H',p1,p2⟩:=ih (w.drop n) (a+n) H6 vw4 v6 (T++[x]) (by rw[List.length_drop];omega) h6 (fun u hu=>hb u (List.mem_of_mem_drop hu)) (by rw[List.length_drop];omega) (by rw[List.length_drop];omega) (by rw[List.length_append,List.length_drop,List.length_singleton];omega) q2 (q3.mono (by omega)) (by omega) (fun j hj hjr hn0=>by
    rw[hno j (by omega) (q0i.of_from hf hj),k4 j (by omega) hjr,hk j hj hjr hn0]) (fun j hj _=>q0i.of_from f4 (by omega))
   rw[hL,q0d q0Z.eq_1]
   simp only[WA,Nat.reduceEqDiff,reduceCtorEq,hg,hlw,z0,c1,z2,c4,j2r,q1]
   rw[q0e]
   simp only[WA,Nat.reduceEqDiff,reduceCtorEq,p1]
   obtain ⟨p2,p3,p4,p5,p6⟩:=p2
   rw[List.append_assoc] at p4
   exact ⟨p2,p3,p4,p5,p6⟩
abbrev BSt:=List Int×Int
def rbS (st:BSt) (u:Int):List Tok×BSt:=lpF (st.1.length+1) (st.1++[u]) st.2
def rbF (st:BSt):List Tok×BSt:=if st.1=[] then ([],st) else ([rtT st.2 0 2 st.1.length],([],st.2+st.1.length))
structure Bi (n:Nat) (st:BSt):Prop where
 is:st.1=[]∨(oneF st.1).2.2=2
 by_:∀u∈st.1,0≤u∧u<256
 a0:0≤st.2
 an:st.2+st.1.length≤n
theorem Bi.len {n:Nat} {st:BSt} (h:Bi n st):st.1.length≤3:=by
 rcases h.is with h1|h1
 ·rw[h1];simp
 ·by_cases hn:st.1=[]
  ·rw[hn];simp
  ·rcases k5S hn h.by_ with ⟨_,h3⟩|⟨h3,_⟩
   ·exact h3
   ·rw[h1] at h3
    rcases h3 with h3|h3<;>cases h3
theorem k5T:∀(c:Nat) (w:List Int) (a:Int),w.length≤c→(∀u∈w,0≤u∧u<256)→((lpF c w a).2.1=[]∨(oneF (lpF c w a).2.1).2.2=2)∧(∀u∈(lpF c w a).2.1,0≤u∧u<256)∧a≤(lpF c w a).2.2∧(lpF c w a).2.2+(lpF c w a).2.1.length=a+w.length∧(lpF c w a).1.length≤w.length∧∀x∈(lpF c w a).1,x.out.length≤1
 | 0,w,a,hc,hb=>by
  have:w=[]:=List.length_eq_zero_iff.1 (by omega)
  subst this
  exact ⟨.inl rfl,hb,Int.le_refl _,rfl,Nat.le_refl _,fun x hx=>absurd hx (by unfold lpF;simp)⟩
 | c+1,w,a,hc,hb=>by
  by_cases hne:w=[]
  ·have hL:lpF (c+1) w a=([],w,a):=by unfold lpF;rw[if_pos hne]
   rw[hL]
   exact ⟨.inl hne,hb,Int.le_refl _,rfl,by simp,fun x hx=>absurd hx (by simp)⟩
  rcases k5S hne hb with ⟨e2,_⟩|⟨e01,n,en,n1,n2⟩
  ·have hL:lpF (c+1) w a=([],w,a):=by unfold lpF;rw[if_neg hne,if_pos e2]
   rw[hL]
   exact ⟨.inr e2,hb,Int.le_refl _,rfl,by simp,fun x hx=>absurd hx (by simp)⟩
  ·have ene:¬(oneF w).2.2=2:=by rcases e01 with h|h<;>rw[h]<;>decide
   have hL:lpF (c+1) w a=(rtT a (oneF w).1 (oneF w).2.2 n::(lpF c (w.drop n) (a+n)).1,(lpF c (w.drop n) (a+n)).2):=by
    conv=>lhs;unfold lpF
    rw[if_neg hne,if_neg ene,en,Int.toNat_natCast]
   obtain ⟨i1,i2,i3,i4,i5,i6⟩:=k5T c (w.drop n) (a+n) (by rw[List.length_drop];omega) fun u hu=>hb u (List.mem_of_mem_drop hu)
   rw[List.length_drop] at i4 i5
   rw[hL]
   refine ⟨i1,i2,by simp only;omega,by simp only;omega,by simp only[List.length_cons];omega,fun x hx=>?_⟩
   rcases List.mem_cons.1 hx with rfl|hx
   ·unfold rtT
    simp only
    split<;>simp
   ·exact i6 x hx
theorem Bi.put {n:Nat} {st:BSt} {u:Int} (h:Bi n st) (hu:0≤u∧u<256):Bi (n+1) (rbS st u).2:=by
 obtain ⟨w,a⟩:=st
 obtain ⟨h1,h2,h3,h4⟩:=h
 simp only at h1 h2 h3 h4
 obtain ⟨i1,i2,i3,i4,_,_⟩:=k5T (w.length+1) (w++[u]) a (by simp) fun v hv=>by
  rcases List.mem_append.1 hv with hv|hv
  ·exact h2 v hv
  ·rw[List.mem_singleton.1 hv];exact hu
 rw[List.length_append,List.length_singleton] at i4
 exact ⟨i1,i2,by unfold rbS;simp only;omega,by unfold rbS;simp only;omega⟩
theorem Bi.fin {n:Nat} {st:BSt} (h:Bi n st):Bi n (rbF st).2:=by
 obtain ⟨w,a⟩:=st
 unfold rbF
 split
 ·exact h
 ·have h3:=h.a0
  have h4:=h.an
  simp only at h3 h4
  exact ⟨.inl rfl,fun u hu=>absurd hu (by simp),by simp only;omega,by simp only[List.length_nil];omega⟩
theorem Bi.mono {n m:Nat} {st:BSt} (h:Bi n st) (hn:n≤m):Bi m st:=⟨h.is,h.by_,h.a0,by have:=h.an;omega⟩
theorem j2s {r:Nat} {H:q0a} {vw:Value} {st:BSt} {u:Int} {n:Nat} (h:RB r H vw st.1 st.2) (hi:Bi n st) (hn:n<900) (hu:0≤u∧u<256):q0p (cw Tryz.prog (tabF tab) om1 162 [.pointer (some ⟨r,0,none⟩),.int .i64 u] H) fun v H'=>(∃vw',RB r H' vw' (rbS st u).2.1 (rbS st u).2.2∧∀j,j<H.n→q0i vw j→q0i vw' j)∧q2R H.n H' v (rbS st u).1∧H.n≤H'.n∧∀j,j<H.n→j≠r→q0i vw j→H'.get j=H.get j:=by
 have hlen:=hi.len
 obtain ⟨w,a⟩:=st
 have h3:=hi.a0
 have h4:=hi.an
 simp only at h3 h4 hlen
 have hby:∀x∈w++[u],0≤x∧x<256:=fun x hx=>by
  rcases List.mem_append.1 hx with hx|hx
  ·exact hi.by_ x hx
  ·rw[List.mem_singleton.1 hx];exact hu
 have hwu:IntKind.u8.wrap u=u:=k1n hu.1 hu.2
 obtain ⟨ver,H1,v',H2,H3,g0,v1,g1,m1,g2,ho1,hH3,g3,hr3,f3,n3,k3⟩:=h.lay (u:=u) (by show w.length<1000;omega)
 simp only at g0 v1 g1 m1 g2 hH3 g3 hr3 k3
 have st3:=z4x (H:=H2) (i:=r) (ver:=ver) (el:=101) (a:=vw) (b:=.int .i64 a) (x:=v') ho1
 rw[←hH3] at st3
 obtain ⟨y,e',H',p1,rfl,p2,p3,p4,p5⟩:=l_RP (H0:=H) (vw0:=vw) (w.length+1) (w++[u]) a H3 v' (.slice none 0 0) [] (by simp) hr3 hby (by rw[List.length_append,List.length_singleton];omega) (by rw[List.length_append,List.length_singleton];omega) (by rw[List.length_append,List.length_singleton];simp;omega) q0U.nil trivial n3 k3 (fun j hj _=>q0i.of_from f3 hj)
 have key:q0p (cw Tryz.prog (tabF tab) om1 164 [.pointer (some ⟨r,0,none⟩),.int .u8 u] H) fun v H'=>(∃vw',RB r H' vw' (rbS (w,a) u).2.1 (rbS (w,a) u).2.2∧∀j,j<H.n→q0i vw j→q0i vw' j)∧q2R H.n H' v (rbS (w,a) u).1∧H.n≤H'.n∧∀j,j<H.n→j≠r→q0i vw j→H'.get j=H.get j:=by
  rw[q0g (F:=q2J) rfl rfl rfl]
  unfold q2J q5I
  simp only[WA,Nat.reduceEqDiff,reduceCtorEq,g0,v1,m1,g2,st3]
  rw[q0e]
  simp only[WA,Nat.reduceEqDiff,reduceCtorEq,p1]
  exact ⟨p2,p3,p4,p5⟩
 rw[q0g (F:=q2V) rfl rfl rfl]
 unfold q2V q6d
 obtain ⟨v9,H9,c9,r9⟩:=key
 simp only[WA,Nat.reduceEqDiff,reduceCtorEq,hwu,c9]
 exact r9
theorem me_BP : q6Q Tryz.prog 97 "Put" = some (162, none) := by kernel_rfl
theorem me_BE : q6Q Tryz.prog 97 "End" = some (160, some (false, 0)) := by kernel_rfl
theorem j2t {r:Nat} {H:q0a} {vw:Value} {st:BSt} {n:Nat} (h:RB r H vw st.1 st.2) (hi:Bi n st) (hn:n≤900):q0p (cw Tryz.prog (tabF tab) om1 160 [.pointer (some ⟨r,0,none⟩)] H) fun v H'=>(∃vw',RB r H' vw' (rbF st).2.1 (rbF st).2.2∧∀j,j<H.n→q0i vw j→q0i vw' j)∧q2R H.n H' v (rbF st).1∧H.n≤H'.n∧∀j,j<H.n→j≠r→q0i vw j→H'.get j=H.get j:=by
 have hlen:=hi.len
 obtain ⟨w,a⟩:=st
 have h3:=hi.a0
 have h4:=hi.an
 simp only at h3 h4 hlen
 obtain ⟨ver,hg⟩:=h.hg
 have hiw:Nums H .u8 vw w:=h.ho.sl
 have hl:=fun H9=>Nums.len (H2:=H9) hiw
 rw[q0g (F:=q2I) rfl rfl rfl]
 unfold q2I q5H
 by_cases hw:w=[]
 ·subst hw
  have z0:((([]:List Int).length:Nat):Int)=0:=rfl
  have z1:((0:Int)=0)=True:=by simp
  simp only[z0] at hl
  have hL:rbF (([],a):BSt)=([],([],a)):=by unfold rbF;rw[if_pos rfl]
  rw[hL]
  simp only[WA,Nat.reduceEqDiff,reduceCtorEq,hg,hl]
  exact ⟨⟨vw,h,fun _ _ h=>h⟩,q0U.nil,fun _ _ _ _=>trivial⟩
 ·have hpos:=List.length_pos_iff.2 hw
  have z1:((w.length:Int)=0)=False:=eq_false (by omega)
  have hL:rbF ((w,a):BSt)=([rtT a 0 2 w.length],([],a+w.length)):=by unfold rbF;rw[if_neg hw]
  obtain ⟨v4,H4,c4,n4,k4,⟨ver4,vw4,g4,o4,f4⟩,p,cc,rfl,t4,tf4⟩:=z4z (s:=0) (e:=2) hg h.ho ⟨h3,by omega⟩ (by show w.length<1000;omega) (Nat.le_refl _)
  obtain ⟨x,hx⟩:∃x,x=rtT a 0 2 w.length:=⟨_,rfl⟩
  rw[←hx] at c4 t4 tf4 hL
  rw[hL]
  obtain ⟨H5,hH5⟩:∃H5,H5=H4.push ⟨tokC p cc x,36,.tip,0,[]⟩:=⟨_,rfl⟩
  have x5:Ext H4 H5:=by rw[hH5];exact Ext.push H4 _
  have g5:H5.get H4.n=some ⟨tokC p cc x,36,.tip,0,[]⟩:=by rw[hH5];exact q0b
  have hT:q2R H.n H5 (.slice (some ⟨H4.n,0,none⟩) 1 2) [x]:=z9X g5 (k2R x5.kp t4) tf4
  simp only[WA,Nat.reduceEqDiff,reduceCtorEq,hg,hl,z1,c4,j2r,←hH5]
  have x5n:=x5.1
  have hd:w.drop w.length=[]:=List.drop_of_length_le (Nat.le_refl _)
  rw[hd] at o4
  exact ⟨⟨vw4,⟨⟨ver4,x5.get g4⟩,Own.ext x5 o4⟩,fun j hj _=>q0i.of_from f4 hj⟩,hT,by omega,fun j hj hjr hn=>by rw[x5.2 j (by omega),k4 j hj hjr]⟩
def RdB (v:Value) (n:Nat) (H:q0a) (st:BSt) (C D:NS):Prop:=∃r vw,v=.iface 97 (.pointer (some ⟨r,0,none⟩))∧RB r H vw st.1 st.2∧Bi n st∧C=(fun j=>j=r∨¬q0i vw j)∧D=C
theorem RB.tok {r:Nat} {H:q0a} {vw:Value} {w:List Int} {a:Int} (h:RB r H vw w a):∀j b,(j=r∨¬q0i vw j)→H.get j=some b→b.elem≠36:=by
 intro j b hj hb
 obtain ⟨ver,hg⟩:=h.hg
 rcases hj with rfl|hj
 ·rw[hg] at hb
  injection hb with hb
  subst hb
  simp only
  decide
 ·obtain ⟨b',hb',he⟩:=q3E h.ho hj
  rw[hb] at hb'
  injection hb' with hb'
  subst hb'
  rw[he]
  decide
theorem mc_B {v:Value}:Mc (RdB v) v rbS rbF (fun u=>0≤u∧u<256) 900 where
 put:=by
  intro n H st C D u ⟨r,vw,hv,h,hi,hC,hD⟩ hn hu
  subst hv hD hC
  obtain ⟨x,H',c,⟨vw',q1,q2⟩,q3,q4,q5⟩:=j2s h hi hn hu
  rw[q2N me_BP]
  have ho:Only (fun j=>j=r∨¬q0i vw j) H H':=⟨q4,fun j hj hc=>q5 j hj (fun e=>hc (.inl e)) (Classical.byContradiction fun hx=>hc (.inr hx))⟩
  have hc2:∀j,j<H.n→(j=r∨¬q0i vw' j)→(j=r∨¬q0i vw j):=fun j hj hc=>hc.imp id fun hx hy=>hx (q2 j hj hy)
  exact ⟨x,H',c,q3.ta,k0I ho h.tok,ho,_,_,⟨r,vw',rfl,q1,hi.put hu,rfl,rfl⟩,hc2,hc2⟩
 fin:=by
  intro n H st C D ⟨r,vw,hv,h,hi,hC,hD⟩ hn
  subst hv hD hC
  obtain ⟨x,H',c,⟨vw',q1,q2⟩,q3,q4,q5⟩:=j2t h hi hn
  rw[z6o me_BE]
  have ho:Only (fun j=>j=r∨¬q0i vw j) H H':=⟨q4,fun j hj hc=>q5 j hj (fun e=>hc (.inl e)) (Classical.byContradiction fun hx=>hc (.inr hx))⟩
  have hc2:∀j,j<H.n→(j=r∨¬q0i vw' j)→(j=r∨¬q0i vw j):=fun j hj hc=>hc.imp id fun hx hy=>hx (q2 j hj hy)
  exact ⟨x,H',c,q3.ta,k0I ho h.tok,ho,_,_,⟨r,vw',rfl,q1,hi.fin,rfl,rfl⟩,hc2,hc2⟩
 keep:=by
  intro n H H' st C D ⟨r,vw,hv,h,hi,hC,hD⟩ hn hk
  subst hD hC
  obtain ⟨ver,hg⟩:=h.hg
  exact ⟨r,vw,hv,⟨⟨ver,by rw[hk r (.inl rfl)];exact hg⟩,z1g h.ho fun j hj=>hk j (.inr hj)⟩,hi,rfl,rfl⟩
 lt:=by
  intro n H st C D j ⟨r,vw,hv,h,hi,hC,hD⟩ hj
  subst hD hC
  obtain ⟨ver,hg⟩:=h.hg
  rcases hj with rfl|hj
  ·exact q0a.lt_of_get hg
  ·obtain ⟨b,hb,_⟩:=q3E h.ho hj
   exact q0a.lt_of_get hb
 sub:=by
  intro n H st C D j ⟨r,vw,hv,h,hi,hC,hD⟩ hj
  subst hD
  exact hj
 mono:=by
  intro n m H st C D ⟨r,vw,hv,h,hi,hC,hD⟩ hn
  exact ⟨r,vw,hv,h,hi.mono hn,hC,hD⟩
theorem mk_B {H:q0a}:q0p (cw Tryz.prog (tabF tab) om1 18 [.string (nm 0)] H) fun v H'=>∃rv C D,v=.tuple ⟨[rv,.int .i64 0]⟩∧one rv=true∧RdB rv 0 H' ([],0) C D∧NewM H H' C D:=by
 obtain ⟨v,H',c,x,rv,rfl,o,rfl,hg⟩:=j2m (H:=H)
 have key:∀j,(j=H.n∨¬q0i (.slice none 0 0) j)→j=H.n:=fun j hj=>by
  rcases hj with hj|hj
  ·exact hj
  ·exact absurd trivial hj
 refine ⟨_,H',c,_,fun j=>j=H.n∨¬q0i (.slice none 0 0) j,fun j=>j=H.n∨¬q0i (.slice none 0 0) j,rfl,o,⟨H.n,.slice none 0 0,rfl,⟨⟨0,hg⟩,⟨rfl,.inl ⟨rfl,rfl⟩⟩⟩,⟨.inl rfl,fun u hu=>absurd hu (by simp),by decide,by decide⟩,rfl,rfl⟩,x,fun j hj=>?_,fun j hj hl=>?_⟩
 ·have hj:=key j hj
  subst hj
  exact ⟨Nat.le_refl _,_,hg,by simp only;decide⟩
 ·have hj:=key j hj
  omega
theorem q4C {k:IntKind} {a b:Int} (h:b≠0):q2P .rem k a b=some (.int k (a.tmod b)):=by simp only[q2P,if_neg h]
theorem j0i {k:IntKind} {a b:Int} (h:b≠0):q2P .quo k a b=some (.int k (k.wrap (a.tdiv b))):=by simp only[q2P,if_neg h]
def inS (x:Int):Prop:=2304≤x∧x<3456∧x≠2404
instance (x:Int):Decidable (inS x):=by unfold inS;infer_instance
def ofS (x:Int):List Value:=if inS x then [.int .i64 ((x-2304) / 128),.int .i64 (x % 128),.bool true] else [.int .i64 0,.int .i64 0,.bool false]
theorem c_IOf {x:Int} (H:q0a):cw Tryz.prog (tabF tab) om1 177 [.int .i64 x] H=some (.tuple ⟨ofS x⟩,H):=by
 rw[q0g (F:=q8p) rfl rfl rfl]
 unfold q8p k4d ofS
 by_cases h1:x<2304
 ·have h:¬inS x:=fun h=>by have:=h.1;omega
  rw[if_neg h]
  simp only[WA,Nat.reduceEqDiff,reduceCtorEq,h1]
 ·by_cases h2:x≥3456
  ·have h:¬inS x:=fun h=>by have:=h.2.1;omega
   rw[if_neg h]
   simp only[WA,Nat.reduceEqDiff,reduceCtorEq,h1,h2]
  ·by_cases h3:x=2404
   ·have h:¬inS x:=fun h=>h.2.2 h3
    rw[if_neg h]
    have h3t:(x=2404)=True:=eq_true h3
    simp only[WA,Nat.reduceEqDiff,reduceCtorEq,h1,h2,h3t]
   ·have h:inS x:=⟨by omega,by omega,h3⟩
    rw[if_pos h]
    have w1:IntKind.i64.wrap (x-2304)=x-2304:=q0k (by omega) (by omega)
    have q0:(x-2304).tdiv 128=(x-2304) / 128:=Int.tdiv_eq_ediv_of_nonneg (by omega)
    have q1:q2P .quo .i64 (x-2304) 128=some (.int .i64 ((x-2304) / 128)):=by rw[j0i (by decide),q0,q0k (by omega) (by omega)]
    have q2:q2P .rem .i64 (x-2304) 128=some (.int .i64 (x % 128)):=by rw[q4C (by decide),Int.tmod_eq_emod_of_nonneg (by omega)];congr 2;omega
    simp only[WA,Nat.reduceEqDiff,reduceCtorEq,h1,h2,h3,w1,q1,q2]
def C14:List Int:=[66,67,75,74,71,68,69,72,73]
theorem j2u {k:Nat} (hk:k<9) (H:q0a):cw Tryz.prog (tabF tab) om1 128 [.int .i64 (k:Int)] H=some (.int .i64 (C14.getD k 0),H):=by
 match k,hk with
 | 0,_=>exact q6m 3 (by kernel_rfl)
 | 1,_=>exact q6m 3 (by kernel_rfl)
 | 2,_=>exact q6m 3 (by kernel_rfl)
 | 3,_=>exact q6m 3 (by kernel_rfl)
 | 4,_=>exact q6m 3 (by kernel_rfl)
 | 5,_=>exact q6m 3 (by kernel_rfl)
 | 6,_=>exact q6m 3 (by kernel_rfl)
 | 7,_=>exact q6m 3 (by kernel_rfl)
 | 8,_=>exact q6m 3 (by kernel_rfl)
theorem j2v {k:Nat} (hk:k<9) (H:q0a):cw Tryz.prog (tabF tab) om1 178 [.int .i64 (k:Int)] H=some (.tuple ⟨[.int .i64 (C14.getD k 0),.bool true]⟩,H):=by
 rw[q0g (F:=q6e) rfl rfl rfl]
 unfold q6e k0X
 have h1:¬(k:Int)<0:=by omega
 have h2:¬(k:Int)≥9:=by omega
 have h3:=j2u hk H
 simp only[WA,Nat.reduceEqDiff,reduceCtorEq,h1,h2,h3]
end Go.Proofs.YtleiinhaljdcoaaGreatDoor
