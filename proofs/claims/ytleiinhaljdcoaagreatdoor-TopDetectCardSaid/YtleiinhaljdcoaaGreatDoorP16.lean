/- What is proved here: what the program's functions come to, as far as the claimed statement asks. Conditions: those that each theorem names, and no others. -/
import Derived.Test.YtleiinhaljdcoaaGreatDoorP15
set_option linter.unusedSimpArgs false
set_option linter.unusedVariables false
namespace Go.Proofs.YtleiinhaljdcoaaGreatDoor
open Go Lon
set_option maxRecDepth 100000

theorem z6R {S T:List Tok}:outs (S++T)=outs S++outs T:=List.flatMap_append ..
section
variable {ρ τ:Type} {rs:ρ→Int→List Tok×ρ} {rf:ρ→List Tok×ρ} {ws:τ→Int→List Tok×τ} {wf:τ→List Tok×τ}
theorem k9n:∀(us vs:List Int) (r:ρ),fdR rs (us++vs) r=((fdR rs us r).1++(fdR rs vs (fdR rs us r).2).1,(fdR rs vs (fdR rs us r).2).2)
 | [],vs,r=>rfl
 | u::us,vs,r=>by
  rw[List.cons_append,q5A,q5A,k9n us vs,List.append_assoc]
end

structure Mp {τ:Type} (M:Nat→q0a→τ→NS→NS→Prop) (mv:Value) (ws:τ→Int→List Tok×τ) (wf:τ→List Tok×τ) (okU:Int→Prop) (N:Nat) (K:NS):Prop where
 put : ∀ {n H st C D u}, M n H st C D → n < N → okU u → q0p (invA Tryz.prog (cw Tryz.prog (tabF tab) om1) mv "Put" [.int .i64 u] H) fun v H' => q2C (fun j => j < H.n) H' v (ws st u).1 ∧ Rd K H H' ∧ Only C H H' ∧ ∃ C' D', M (n + 1) H' (ws st u).2 C' D' ∧ (∀ j, j < H.n → C' j → C j) ∧ ∀ j, j < H.n → D' j → D j
 fin : ∀ {n H st C D}, M n H st C D → n ≤ N → q0p (invA Tryz.prog (cw Tryz.prog (tabF tab) om1) mv "End" [] H) fun v H' => q2C (fun j => j < H.n) H' v (wf st).1 ∧ Rd K H H' ∧ Only C H H' ∧ ∃ C' D', M n H' (wf st).2 C' D' ∧ (∀ j, j < H.n → C' j → C j) ∧ ∀ j, j < H.n → D' j → D j
theorem z8z:∀(T:List Tok),T.length+(outs T).length=wl T
 | []=>rfl
 | x::T=>by
  have e:outs (x::T)=x.out++outs T:=List.flatMap_cons ..
  rw[k5Q,e,List.length_append,List.length_cons,←z8z T]
  omega
theorem j0r {Z:NS} {H:q0a} {v:Value} {L:List Tok} (h:Rws 4 (tokA Z Tryz.prog) H v L):∀cs,Sl H 4 v L.length cs→cs.all one=true:=by
 intro cs hcs
 obtain ⟨h0,cs',h1,h2⟩:=h
 have:cs'=cs:=Option.some.inj (h1.2.symm.trans hcs.2)
 subst this
 rw[List.all_eq_true]
 intro x hx
 obtain ⟨j,hj,rfl⟩:=List.getElem_of_mem hx
 have hl:=h1.length
 have hk:j / 4<L.length:=by omega
 obtain ⟨a,c,⟨e,_⟩,_⟩:=h2 (j / 4) _ (List.getElem?_eq_getElem hk)
 have hrow:(rowC cs' 4 (j / 4))[j % 4]?=some cs'[j]:=by
  unfold rowC
  rw[List.getElem?_take,if_pos (Nat.mod_lt _ (by decide)),List.getElem?_drop,show j / 4*4+j % 4=j by omega,List.getElem?_eq_getElem hj]
 rw[e] at hrow
 have:=List.mem_of_getElem? hrow
 simp[tokC] at this
 rcases this with h|h|h|h<;>rw[h]<;>rfl
section
variable {τ:Type} {M:Nat→q0a→τ→NS→NS→Prop} {mv:Value} {ws:τ→Int→List Tok×τ} {wf:τ→List Tok×τ} {okU:Int→Prop} {N:Nat} {K:NS}
structure AM (K:NS) (M:Nat→q0a→τ→NS→NS→Prop) (HB:q0a) (x:Value) (us:List Int) (k b:Nat) (H:q0a) (v:Value) (T:List Tok) (st:τ) (C D:NS):Prop where
 m:M k H st C D
 t:q2C K H v T
 f:From HB.n v
 e:Ext HB H
 c:∀j,C j→HB.n≤j
 d:∀j,D j→q0i v j
 l:T.length+(outs T).length≤400*b
 i:us≠[]→Ints H x us∧Cut Tryz.prog H x 1∧∀j,K j→q0i x j
 kn:∀j,K j→j<H.n
theorem AM.step (hm:Mc M mv ws wf okU N) {HB:q0a} {x tv:Value} {us:List Int} {k k' b:Nat} {H H1:q0a} {v:Value} {T T1:List Tok} {st st':τ} {C D C' D':NS} (h:AM K M HB x us k b H v T st C D) (ht:q2C (fun j=>j<H.n) H1 tv T1) (hr:Rd K H H1) (ho:Only C H H1) (hM:M k' H1 st' C' D') (hc:∀j,j<H.n→C' j→C j) (hd:∀j,j<H.n→D' j→D j) (hl:wl T1≤400) (hb:b≤2000):∃vr H2,q0m H1 v tv 36 4 48=some (vr,H2)∧AM K M HB x us k' (b+1) H2 vr (T++T1) st' C' D':=by
 have h1n:=ho.1
 have hxn:=h.e.1
 have hT:=h.l
 have ht1:q2C K H1 v T:=q2C.rt (hr.rt fun _ _ h=>h) h.t
 have htv:q2C K H1 tv T1:=ht.mono h.kn
 have hw:=z8z T1
 have hdv:∀j,D' j→q0i v j:=fun j hj=>by
  by_cases hjn:j<H.n
  ·exact h.d j (hd j hjn hj)
  ·obtain ⟨_,cs,q1,_⟩:=h.t
   by_cases hna:q0i v j
   ·exact hna
   ·obtain ⟨b9,hb9,_⟩:=q3E q1 hna
    exact absurd (q0a.lt_of_get hb9) hjn
 obtain ⟨vr,H2,m1,m2,m3,m4,m5,m6⟩:=q0U.append (bytes:=48) k3i ht1 htv.rws (fun _ cs hs=>j0r htv.rws cs hs) (by omega) (by omega)
 have hno:∀j b,H1.get j=some b→b.elem≠36→H2.get j=some b:=fun j b hb hbe=>by
  obtain ⟨_,cs,q1,_⟩:=ht1
  rw[m6 j (q0a.lt_of_get hb) (q1.notAt_elem hb hbe)]
  exact hb
 refine ⟨vr,H2,m1,hm.keep hM m5 fun j hj=>m6 j (hm.lt hM hj) (hdv j hj),m2,?_,⟨by omega,fun j hj=>?_⟩,fun j hj=>?_,fun j hj=>?_,?_,fun hu=>?_,fun j hj=>by have:=h.kn j hj;omega⟩
 ·rcases m3 with h9|rfl
  ·exact h9.mono (by omega)
  ·exact h.f
 ·rw[m6 j (by omega) (q0i.of_from h.f hj),ho.2 j (by omega) (fun hcj=>by have:=h.c j hcj;omega),h.e.2 j hj]
 ·by_cases hjn:j<H.n
  ·exact h.c j (hc j hjn hj)
  ·omega
 ·rcases m3 with h9|rfl
  ·exact q0i.of_from h9 (hm.lt hM hj)
  ·exact hdv j hj
 ·rw[z6R,List.length_append,List.length_append]
  omega
 ·obtain ⟨g1,g2,g5⟩:=h.i hu
  obtain ⟨g3,g4⟩:=hr.1 x us hu g1 g2 g5
  obtain ⟨g6,g7⟩:=q6O g3 hu g4 fun j b _ hb hs=>hno j b hb (k7Q hs).1
  exact ⟨g6,g7,g5⟩
def PMA (K:NS) (M:Nat→q0a→τ→NS→NS→Prop) (mv:Value) (HB:q0a) (x:Value) (us:List Int) (y:AEx) (e':Env) (H':q0a):Prop:=y=.exit 0∧eget e' 0=mv∧∃T st C D,AM K M HB x us us.length us.length H' (eget e' 5) T st C D
theorem l_MA (hm:Mc M mv ws wf okU N) (hp:Mp M mv ws wf okU N K) (hg:Wg M ws wf okU) {x:Value} {us:List Int} (hU:∀u∈us,okU u) (hul:us.length≤1000) (hN:us.length≤N) {HB:q0a}:∀(c k:Nat) (H:q0a) (v:Value) (T:List Tok) (st:τ) (C D:NS),k+c=us.length→AM K M HB x us k k H v T st C D →
  Out (run Tryz.prog (tabF tab) om1 (.loop [0,5,8,9,10] q3X) [(0,mv),(5,v),(8,x),(9,.int .i64 us.length),(10,.int .i64 k)] H) (PMA K M mv HB x us):=by
 intro c
 induction c with
 | zero=>
  intro k H v T st C D hk h
  obtain rfl:k=us.length:=by omega
  have zz:(((us.length:Nat):Int)<(us.length:Nat))=False:=by simp
  rw[q0d q3X.eq_1]
  simp only[WA,Nat.reduceEqDiff,reduceCtorEq,zz]
  exact ⟨rfl,rfl,T,st,C,D,h⟩
 | succ c ih=>
  intro k H v T st C D hk h
  have hlt:((k:Int)<(us.length:Nat))=True:=eq_true (by omega)
  obtain ⟨u,hu,hdx⟩:=q0z (L:=us) (i:=k) (by omega)
  have hne:us≠[]:=fun e=>by rw[e] at hk;simp at hk
  obtain ⟨i,o,a1,a2⟩:=(h.i hne).1.at hu
  have hw2:IntKind.i64.wrap ((k:Int)+1)=((k+1:Nat):Int):=by rw[q0k (by omega) (by omega)];omega
  have hok:=hU u (List.mem_of_getElem? hu)
  obtain ⟨tv,H1,c1,t1,rd1,on1,C2,D2,r1,hc2,hd2⟩:=hp.put h.m (by omega) hok
  obtain ⟨vr,H2,m1,h2⟩:=h.step hm t1 rd1 on1 r1 hc2 hd2 (hg.good h.m hok).2 (by omega)
  obtain ⟨y,e',H',p1,p2⟩:=ih (k+1) H2 vr _ _ _ _ (by omega) h2
  rw[q0d q3X.eq_1]
  simp only[WA,Nat.reduceEqDiff,reduceCtorEq,hlt,a1,a2,q6H,c1,m1,hw2]
  rw[q0e]
  simp only[WA,Nat.reduceEqDiff,reduceCtorEq,p1]
  exact p2
theorem c_MA (hm:Mc M mv ws wf okU N) (hp:Mp M mv ws wf okU N K) (hg:Wg M ws wf okU) {x:Value} {us:List Int} (hU:∀u∈us,okU u) (hul:us.length≤1000) (hN:us.length≤N) {HB H:q0a} {st:τ} {C D:NS} (hM:M 0 H st C D) (hx:Ints H x us) (hxc:us≠[]→Cut Tryz.prog H x 1∧∀j,K j→q0i x j) (hK:∀j,K j→j<H.n) (hB:Ext HB H) (hC:∀j,C j→HB.n≤j):q0p (cw Tryz.prog (tabF tab) om1 21 [mv,x] H) fun v H'=>Ext HB H'∧∃T,q2C (fun _=>False) H' v T∧T.length+(outs T).length≤500000:=by
 rw[q0g (F:=q5q) rfl rfl rfl]
 unfold q5q q9B
 have hl:=fun H9=>hx.len (H2:=H9)
 obtain ⟨y,e',H1,r1,rfl,r2,T,st1,C1,D1,h⟩:=l_MA hm hp hg hU hul hN (HB:=HB) us.length 0 H (.slice none 0 0) [] st C D (by omega) ⟨hM,q0U.nil,trivial,hB,hC,fun _ _=>trivial,by simp[outs],fun hu=>⟨hx,hxc hu⟩,hK⟩
 rw[show ((0:Nat):Int)=0 from rfl] at r1
 obtain ⟨tv,H2,c2,t2,rd2,on2,C2,D2,m2,hc2,hd2⟩:=hp.fin h.m hN
 obtain ⟨vr,H3,m3,h3⟩:=h.step hm t2 rd2 on2 m2 hc2 hd2 (hg.goodf h.m).2 (by omega)
 simp only[WA,Nat.reduceEqDiff,reduceCtorEq,hl]
 rw[q0e]
 simp only[WA,Nat.reduceEqDiff,reduceCtorEq,r1,r2,q6H,c2,m3]
 exact ⟨h3.e,_,h3.t.mono fun _ h=>absurd h id,by have:=h3.l;omega⟩
end
theorem l_UW {H0:q0a} {w:Value} {T:List Tok} {q3 q5:Nat} (hT:q2C (fun _=>False) H0 w T) (h3:H0.n≤q3) (h5:H0.n≤q5) (h35:q3≠q5) (hTl:T.length<1000000) (hT8:(outs T).length<1000000000):∀(c k:Nat) (H:q0a) (v:Value) (l:List Int) (p:Option Addr) (cc ver:Nat) (u:Tok),k+c=T.length→OwnI H v l→From H0.n v→Ext H0 H→l++outs (T.drop k)=outs T→H.get q3=some ⟨tokC none 0 tok0,36,.tip,0,[]⟩→H.get q5=some ⟨tokC p cc u,36,.tip,ver,[]⟩ →
  Out (run Tryz.prog (tabF tab) om1 (.loop [3,4,5,8,9,10] q3i) [(3,.pointer (some ⟨q3,0,none⟩)),(4,v),(5,.pointer (some ⟨q5,0,none⟩)),(8,w),(9,.int .i64 T.length),(10,.int .i64 k)] H) fun y e' H'=>y=.exit 0∧eget e' 3=.pointer (some ⟨q3,0,none⟩)∧eget e' 5=.pointer (some ⟨q5,0,none⟩)∧OwnI H' (eget e' 4) (outs T)∧From H0.n (eget e' 4)∧Ext H0 H'∧H'.get q3=some ⟨tokC none 0 tok0,36,.tip,0,[]⟩∧∃p' c' ver',H'.get q5=some ⟨tokC p' c' (fstB u (T.drop k)),36,.tip,ver',[]⟩:=by
 intro c
 induction c with
 | zero=>
  intro k H v l p cc ver u hk ho hf hx hl hg3 hg5
  have hlt:¬((k:Int)<T.length):=by omega
  rw[q0d q3i.eq_1]
  rw[List.drop_of_length_le (by omega)] at hl ⊢
  simp only[WA,Nat.reduceEqDiff,hlt,fstB]
  rw[show outs []=[] from rfl,List.append_nil] at hl
  subst hl
  exact ⟨ho,hf,hx,hg3,p,cc,ver,hg5⟩
 | succ c ih=>
  intro k H v l p cc ver u hk ho hf hx hl hg3 hg5
  have hlt:(k:Int)<T.length:=by omega
  obtain ⟨x,hxk,hdx⟩:=q0z (L:=T) (i:=k) (by omega)
  have hsz:l.length+x.out.length<10000000000:=by
   have:=congrArg List.length hl
   rw[hdx] at this
   simp only[outs,List.flatMap_cons,List.length_append] at this
   unfold outs at hT8
   omega
  obtain ⟨i,o,px,cx,a1,a6,a7⟩:=q2C.at0 hT hxk
  have a6':=k8Z hx a6
  obtain ⟨H1,hH1⟩:∃H1,H1=H.push ⟨tokC px cx x,36,.tip,1,[]⟩:=⟨_,rfl⟩
  have x1:Ext H H1:=by rw[hH1];exact Ext.push H _
  have g1:H1.get H.n=some ⟨tokC px cx x,36,.tip,1,[]⟩:=by rw[hH1];exact q0b
  have hne:(36:TypeId)≠3:=by decide
  obtain ⟨v',H2,m1,m2,m3,m4,m5⟩:=OwnI.add2 (ho.ext x1) hf (hx.trans x1) ((a7.ext hx).ext x1) hsz
  have g2:=m5 _ _ g1 hne
  have g3:=m5 _ _ (x1.get hg3) hne
  have g5:=m5 _ _ (x1.get hg5) hne
  have hw2:IntKind.i64.wrap ((k:Int)+1)=((k+1:Nat):Int):=by rw[q0k (by omega) (by omega)];omega
  have hl2:(l++x.out)++outs (T.drop (k+1))=outs T:=by rw[←hl,hdx];simp[outs]
  rw[q0d q3i.eq_1,hdx]
  unfold fstB
  by_cases he:x.err=0
  ·have he':(x.err≠0)=False:=by simp[he]
   rw[if_neg (fun hh=>hh.1 he)]
   obtain ⟨y,e',H',r1,r2⟩:=ih (k+1) H2 v' (l++x.out) p cc ver u (by omega) m2 m3 m4 hl2 g3 g5
   simp only[WA,Nat.reduceEqDiff,hlt,a1,a6',q1F,←hH1,g1,tk2,tk3,m1,g2,he',hw2]
   rw[q0e]
   simp only[WA,Nat.reduceEqDiff,r1]
   exact r2
  ·have he':(x.err≠0)=True:=by simp[he]
   by_cases hue:u.err=0
   ·have hue':(u.err=0)=True:=eq_true hue
    rw[if_pos ⟨he,hue⟩]
    have g5':=q0r (c:=⟨tokC px cx x,36,.tip,ver+1,[]⟩) g5
    have g3':(H2.upd q5 ⟨tokC px cx x,36,.tip,ver+1,[]⟩).get q3=some ⟨tokC none 0 tok0,36,.tip,0,[]⟩:=by rw[q0j g5 h35];exact g3
    have ho2:OwnI (H2.upd q5 ⟨tokC px cx x,36,.tip,ver+1,[]⟩) v' (l++x.out):=Own.move m2 fun j b hj hb=>by
     rw[q0j g5 (fun e=>by subst e;rw[g5] at hj;injection hj with hj;subst hj;exact hne hb)]
     exact hj
    obtain ⟨y,e',H',r1,r2⟩:=ih (k+1) (H2.upd q5 ⟨tokC px cx x,36,.tip,ver+1,[]⟩) v' (l++x.out) px cx (ver+1) x (by omega) ho2 m3 (Ext.upd m4 g5 h5) hl2 g3' g5'
    simp only[WA,Nat.reduceEqDiff,hlt,a1,a6',q1F,←hH1,g1,tk2,tk3,m1,g2,he',g5,hue',k1e]
    rw[z1c]
    simp only[WA,Nat.reduceEqDiff,hw2]
    rw[q0e]
    simp only[WA,Nat.reduceEqDiff,r1]
    exact r2
   ·have hue':(u.err=0)=False:=eq_false hue
    rw[if_neg (fun hh=>hue hh.2)]
    obtain ⟨y,e',H',r1,r2⟩:=ih (k+1) H2 v' (l++x.out) p cc ver u (by omega) m2 m3 m4 hl2 g3 g5
    simp only[WA,Nat.reduceEqDiff,hlt,a1,a6',q1F,←hH1,g1,tk2,tk3,m1,g2,he',g5,hue',hw2]
    rw[q0e]
    simp only[WA,Nat.reduceEqDiff,r1]
    exact r2
theorem c_UW {w:Value} {T:List Tok} {H:q0a} (hT:q2C (fun _=>False) H w T) (hTl:T.length<1000000) (hT8:(outs T).length<1000000000):q0p (cw Tryz.prog (tabF tab) om1 20 [w] H) fun v H'=>Ext H H'∧∃vo p c,v=.tuple ⟨[vo,.agg ⟨tokC p c (fstB tok0 T)⟩]⟩∧OwnI H' vo (outs T)∧From H.n vo:=by
 rw[q0g (F:=q3W) rfl rfl rfl]
 unfold q3W q7H
 obtain ⟨A,hA⟩:∃A,A=H.push ⟨tokC none 0 tok0,36,.tip,0,[]⟩:=⟨_,rfl⟩
 obtain ⟨B,hB⟩:∃B,B=A.push ⟨tokC none 0 tok0,36,.tip,0,[]⟩:=⟨_,rfl⟩
 have xa:Ext H A:=by rw[hA];exact Ext.push H _
 have xb:Ext A B:=by rw[hB];exact Ext.push A _
 have ga:A.get H.n=some ⟨tokC none 0 tok0,36,.tip,0,[]⟩:=by rw[hA];exact q0b
 have gb:B.get A.n=some ⟨tokC none 0 tok0,36,.tip,0,[]⟩:=by rw[hB];exact q0b
 have hAn:A.n=H.n+1:=by rw[hA,q0a.n_push]
 have hz:([.int .i64 0,.int .i64 0,.slice none 0 0,.int .i64 0]:List Value)=tokC none 0 tok0:=rfl
 obtain ⟨y,e',H',r1,rfl,s3,s5,r4,r5,r6,r7,p',c',ver',r8⟩:=l_UW (w:=w) (q3:=H.n) (q5:=A.n) hT (Nat.le_refl _) (by omega) (by omega) hTl hT8 T.length 0 B (.slice none 0 0) [] none 0 0 tok0 (by omega) OwnI.nil trivial (xa.trans xb) rfl (xb.get ga) gb
 obtain ⟨u1,u2,hw⟩:∃u1 u2,w=.slice u1 T.length u2:=by
  obtain ⟨_,cs,h1,_⟩:=hT.rws
  obtain ⟨u1,u2,e⟩:=h1.1
  exact ⟨u1,u2,e⟩
 rw[List.drop_zero] at r8
 rw[show ((0:Nat):Int)=0 from rfl] at r1
 simp only[WA,Nat.reduceEqDiff,reduceCtorEq,hz,←hA,←hB]
 rw[hw] at r1 ⊢
 simp only[WA]
 rw[q0e]
 simp only[WA,q0M,q1b,q1w,q1y,Nat.reduceEqDiff,reduceCtorEq,r1,s3,s5,r8,k1e,r7]
 have r7':=q0r (c:=⟨tokC p' c' (fstB tok0 T),36,.tip,1,[]⟩) r7
 have hne:(36:TypeId)≠3:=by decide
 rw[z1c]
 simp only[WA,Nat.reduceEqDiff,q2h,q4f,s3,r7',k1e]
 have x2:Ext H (H'.upd H.n ⟨tokC p' c' (fstB tok0 T),36,.tip,1,[]⟩):=Ext.upd r6 r7 (Nat.le_refl _)
 exact ⟨x2,_,p',c',rfl,Own.move r4 fun j b hj hb=>by
  rw[q0j r7 (fun e=>by subst e;rw[r7] at hj;injection hj with hj;subst hj;exact hne hb)]
  exact hj,r5⟩
theorem mp_S {v:Value}:Mp (WrM v) v wrS wfS okS 200000 (fun j=>v=.iface 113 (.pointer (some ⟨j,0,none⟩))) where
 put:=by
  intro n H a C D u ⟨sc,ver,hv,hg,h0,h1,hC,hD⟩ hn hu
  subst hC hD
  obtain ⟨x,H',c,q1,q2,q3,q4,q5,q6⟩:=z8k hu hg ⟨h0,by omega⟩
  have ho:Only (fun j=>j=sc) H H':=⟨q4,fun j hj hc=>q5 j hj hc⟩
  have hr:=k0I ho (fun j b hc hb he=>by
   have hc:j=sc:=hc
   subst hc
   rw[hg] at hb
   injection hb with hb
   subst hb
   revert he
   simp only
   decide)
  have hi : invA Tryz.prog (cw Tryz.prog (tabF tab) om1) v "Put" [.int .i64 u] H = some (x, H') := by
   rw[hv,q2N j2n];exact c
  exact ⟨x,H',hi,q6.ta,⟨fun y m hm g1 g2 g3=>hr.1 y m hm g1 g2 fun j hj=>g3 j (by rw[hv,show j=sc from hj]),hr.2⟩,ho,_,_,⟨sc,_,hv,q3,by unfold wrS;simp only;omega,by unfold wrS;simp only;omega,rfl,rfl⟩,fun j _ hj=>hj,fun j _ hj=>hj⟩
 fin:=by
  intro n H a C D ⟨sc,ver,hv,hg,h0,h1,hC,hD⟩ hn
  have hi : invA Tryz.prog (cw Tryz.prog (tabF tab) om1) v "End" [] H = some (.slice none 0 0, H) := by
   rw[hv,q2N j2o];exact z8o
  exact ⟨_,H,hi,q0U.nil,⟨fun _ _ _ g1 g2 _=>⟨g1,g2⟩,fun _ _ h _=>h⟩,⟨Nat.le_refl _,fun _ _ _=>rfl⟩,_,_,⟨sc,ver,hv,hg,h0,h1,hC,hD⟩,fun j _ hj=>hj,fun j _ hj=>hj⟩
theorem mp_E {L:List Rl} (hR:q1a (trn L [])) {okU:Int→Prop} {v:Value}:Mp (WrT L v) v (esS L) (efS L) okU 200000 (fun _=>False) where
 put:=by
  intro n H st C D u ⟨e,hv,h⟩ hn hu
  subst hv
  obtain ⟨x,H',c,h1,h2,h3,h4,C',D',h5,h6,h7⟩:=z4N (u:=u) hR h (by omega)
  rw[q2N j2I]
  exact ⟨x,H',c,h1.ta,h4,h3,C',D',⟨e,rfl,h5⟩,h6,h7⟩
 fin:=by
  intro n H st C D ⟨e,hv,h⟩ hn
  subst hv
  obtain ⟨x,H',c,h1,h2,h3,h4,C',D',h5,h6,h7⟩:=k7R hR h (by omega)
  rw[q2N j2J]
  exact ⟨x,H',c,h1.ta,h4,h3,C',D',⟨e,rfl,h5⟩,h6,h7⟩
theorem mp_J {v:Value}:Mp (WrJ v) v jeS jeF okS 200000 (fun _=>False) where
 put:=by
  intro n H st C D u ⟨i,e,C0,D0,hv,hg,hE,di,hs,ha,hC,hD⟩ hn hu
  subst hv hC hD
  obtain ⟨x,H',c,C',D',J⟩:=z8u hu hg hE di hs (by omega) (by omega)
  rw[q2N z8s]
  obtain ⟨q1,q2⟩:=z8v hu hs ha
  exact ⟨x,H',c,J.ho,J.rd,k5X J,_,_,⟨i,e,C',D',rfl,J.hi,J.hE,J.di,q1,q2,rfl,rfl⟩,fun j hj hc=>hc.imp (J.c j hj) id,fun j hj hc=>hc.imp (J.d j hj) id⟩
 fin:=by
  intro n H st C D ⟨i,e,C0,D0,hv,⟨ver,hg⟩,hE,di,hs,ha,hC,hD⟩ hn
  subst hv hC hD
  obtain ⟨x,H',c,hP⟩:=k7R q3b hE (by omega)
  have J0:JP i e n H H (.slice none 0 0) [] st.1 st.2.1 st.2.2 C0 D0 C0 D0:=⟨⟨ver,hg⟩,hE,di,q0U.nil,trivial,Nat.le_refl _,fun _ _ _ _=>rfl,⟨fun x m _ h1 h2 _=>⟨h1,h2⟩,fun _ _ h _=>h⟩,fun _ _ h=>h,fun _ _ h=>h⟩
  obtain ⟨t1,f1,C',D',J⟩:=J0.ep hP
  rw[q2N z8t]
  refine ⟨x,H',?_,t1.ta,J.rd,k5X J,_,_,⟨i,e,C',D',rfl,J.hi,J.hE,J.di,hs,ha,rfl,rfl⟩,fun j hj hc=>hc.imp (J.c j hj) id,fun j hj hc=>hc.imp (J.d j hj) id⟩
  rw[q0g (F:=q1g) rfl rfl rfl]
  unfold q1g q3n
  simp only[WA,Nat.reduceEqDiff,reduceCtorEq,hg,c]
theorem mk_E {k:Nat} (h1:1≤k) (h6:k≤6) {H:q0a}:q0p (cw Tryz.prog (tabF tab) om1 30 [.string (nm k)] H) fun v H'=>∃wv C D,v=.tuple ⟨[wv,.int .i64 0]⟩∧one wv=true∧WrT (rulK k) wv 0 H' (([],0,0),[]) C D∧NewM H H' C D:=by
 rw[q0g (F:=q1H) rfl rfl rfl]
 unfold q1H q4F
 have hn:=q8W (H:=H) (k:=k) (by omega)
 have e0:=z1Z k (by omega)
 have e7:=k3e k (by omega)
 have b0:Nat.beq k 0=false:=by rcases (by omega:k=1∨k=2∨k=3∨k=4∨k=5∨k=6) with rfl|rfl|rfl|rfl|rfl|rfl<;>rfl
 have b7:Nat.beq k 7=false:=by rcases (by omega:k=1∨k=2∨k=3∨k=4∨k=5∨k=6) with rfl|rfl|rfl|rfl|rfl|rfl<;>rfl
 rw[b0] at e0
 rw[b7] at e7
 obtain ⟨v1,H1,c1,x1,q,rfl,hT⟩:=z4X k h1 h6 H
 obtain ⟨v2,H2,c2,e,C,D,rfl,hE,x2,nc,nd⟩:=k7U hT
 have z0:((0:Int)≠0)=False:=by simp
 have x1n:=x1.1
 simp only[WA,Nat.reduceEqDiff,reduceCtorEq,hn,z0,q1I gS,e0,e7,c1,c2]
 exact ⟨_,C,D,rfl,rfl,⟨e,rfl,hE⟩,x1.trans x2,fun j hj=>⟨by have:=(nc j hj).1;omega,(nc j hj).2⟩,fun j hj hl b hb=>nd j hj (by omega) b hb⟩
theorem j0s:∀k,1≤k→k≤6→byL (rulK k)=true
 | 1,_,_=>by kernel_rfl
 | 2,_,_=>by kernel_rfl
 | 3,_,_=>by kernel_rfl
 | 4,_,_=>by kernel_rfl
 | 5,_,_=>by kernel_rfl
 | 6,_,_=>by kernel_rfl
 | 0,h,_=>by omega
 | k+7,_,h=>by omega
section
variable {ρ τ:Type} {R:Value→Nat→q0a→ρ→NS→NS→Prop} {M:Value→Nat→q0a→τ→NS→NS→Prop} {rs:ρ→Int→List Tok×ρ} {rf:ρ→List Tok×ρ} {ws:τ→Int→List Tok×τ} {wf:τ→List Tok×τ} {okU:Int→Prop} {r0:ρ} {st0:τ}
end
def fl (n:Nat):Nat:=Ieee.double.nearest false n 0
theorem j2R:FloatKind.format .f64=Ieee.double:=rfl
theorem z8A (n d:Nat) (h:n*2^d≠0):Ieee.Toward.even.cut false (n*2^d) d=n:=by
 have hp:0<2^d:=Nat.two_pow_pos d
 have hle:2^d≤n*2^d:=Nat.le_mul_of_pos_left _ (Nat.pos_of_ne_zero fun e=>h (by rw[e,Nat.zero_mul]))
 have hl:d≤(n*2^d).log2:=(Nat.le_log2 h).2 hle
 unfold Ieee.Toward.cut
 simp only
 rw[Nat.min_eq_left (by omega),Nat.shiftLeft_eq,Nat.one_mul,Nat.mul_div_cancel _ hp,Nat.mul_mod_left]
 have h1:decide (2^d<2*0)=false:=decide_eq_false (by omega)
 have h2:(2^d==2*0)=false:=beq_false_of_ne (by omega)
 rw[h1,h2]
 rfl
theorem j2S {n s:Nat} (hn:n≠0):(n*2^s).log2=n.log2+s:=by
 have hp:0<2^s:=Nat.two_pow_pos s
 obtain ⟨h1,h2⟩:=(Nat.log2_eq_iff hn).1 rfl
 refine (Nat.log2_eq_iff (Nat.mul_ne_zero hn (by omega))).2 ⟨?_,?_⟩
 ·rw[Nat.pow_add]
  exact Nat.mul_le_mul_right _ h1
 ·rw[show n.log2+s+1=(n.log2+1)+s by omega,Nat.pow_add 2 (n.log2+1) s]
  exact Nat.mul_lt_mul_of_pos_right h2 hp
theorem k7X:Ieee.double.leastPlace=-1074:=by decide
theorem z6S:Ieee.double.fractionBits=52:=rfl
theorem k9o {n s:Nat} (hn:n≠0) (hl:n.log2≤52):Ieee.double.nearest false (n*2^s) (-(s:Int))=Ieee.double.word false (min ((n.log2+1022)*2^52+n*2^(52-n.log2)) Ieee.double.infRung):=by
 have hp:0<2^s:=Nat.two_pow_pos s
 have hne:n*2^s≠0:=Nat.mul_ne_zero hn (by omega)
 unfold Ieee.Format.nearest
 rw[if_neg hne,j2S hn,k7X,z6S]
 have hlast:max (-(s:Int)+((n.log2+s:Nat):Int)-((52:Nat):Int)) (-1074)=(n.log2:Int)-52:=by omega
 simp only[hlast]
 have h1:((n.log2:Int)-52 - -1074).toNat=n.log2+1022:=by omega
 have hb:Ieee.double.binade=2^52:=rfl
 rw[h1,hb]
 congr 2
 congr 1
 by_cases hs:s≤52-n.log2
 ·have e1:(-(s:Int)-((n.log2:Int)-52)).toNat=52-n.log2-s:=by omega
  have e2:((n.log2:Int)-52 - -(s:Int)).toNat=0:=by omega
  rw[e1,e2,Nat.shiftLeft_eq,Nat.mul_assoc,←Nat.pow_add,show s+(52-n.log2-s)=52-n.log2 by omega]
  have:=z8A (n*2^(52-n.log2)) 0 (by rw[Nat.pow_zero,Nat.mul_one];exact Nat.mul_ne_zero hn (by have:=Nat.two_pow_pos (52-n.log2);omega))
  rw[Nat.pow_zero,Nat.mul_one] at this
  exact this
 ·have e1:(-(s:Int)-((n.log2:Int)-52)).toNat=0:=by omega
  have e2:((n.log2:Int)-52 - -(s:Int)).toNat=s-(52-n.log2):=by omega
  rw[e1,e2,Nat.shiftLeft_eq,Nat.pow_zero,Nat.mul_one]
  have he:n*2^s=n*2^(52-n.log2)*2^(s-(52-n.log2)):=by rw[Nat.mul_assoc,←Nat.pow_add,show 52-n.log2+(s-(52-n.log2))=s by omega]
  rw[he]
  exact z8A _ _ (by rw[←he];exact hne)
theorem fl_is {n:Nat} (hn:n≠0) (hl:n.log2≤51):fl n=(n.log2+1022)*2^52+n*2^(52-n.log2):=by
 have:=k9o (s:=0) hn (by omega)
 rw[Nat.pow_zero,Nat.mul_one] at this
 unfold fl
 rw[show (0:Int)=-((0:Nat):Int) from rfl,this]
 obtain ⟨h1,h2⟩:=(Nat.log2_eq_iff hn).1 rfl
 have h3:n*2^(52-n.log2)<2^53:=by
  have:=Nat.mul_lt_mul_of_pos_right h2 (Nat.two_pow_pos (52-n.log2))
  rwa [←Nat.pow_add,show n.log2+1+(52-n.log2)=53 by omega] at this
 have hi:Ieee.double.infRung=2047*2^52:=rfl
 rw[hi,Nat.min_eq_left (by omega)]
 rfl
theorem j0t {n s:Nat} (hl:n.log2≤52):Ieee.double.nearest false (n*2^s) (-(s:Int))=fl n:=by
 by_cases hn:n=0
 ·subst hn
  unfold fl Ieee.Format.nearest
  rw[Nat.zero_mul,if_pos rfl,if_pos rfl]
 ·rw[k9o hn hl]
  have:=k9o (s:=0) hn hl
  rw[Nat.pow_zero,Nat.mul_one] at this
  rw[←this]
  rfl
theorem z6T {n:Nat} (hl:n.log2≤51):∃s:Nat,Ieee.double.read (fl n)=.number false (n*2^s) (-(s:Int)):=by
 by_cases hn:n=0
 ·subst hn
  exact ⟨1074,by kernel_rfl⟩
 refine ⟨52-n.log2,?_⟩
 obtain ⟨h1,h2⟩:=(Nat.log2_eq_iff hn).1 rfl
 have h3:n*2^(52-n.log2)<2^53:=by
  have:=Nat.mul_lt_mul_of_pos_right h2 (Nat.two_pow_pos (52-n.log2))
  rwa [←Nat.pow_add,show n.log2+1+(52-n.log2)=53 by omega] at this
 have h4:2^52≤n*2^(52-n.log2):=by
  have:=Nat.mul_le_mul_right (2^(52-n.log2)) h1
  rwa [←Nat.pow_add,show n.log2+(52-n.log2)=52 by omega] at this
 rw[fl_is hn hl]
 revert h3 h4
 generalize n*2^(52-n.log2)=m
 intro h3 h4
 unfold Ieee.Format.read
 have hs:Ieee.double.signWeight=2^63:=rfl
 have hb:Ieee.double.binade=2^52:=rfl
 have hi:Ieee.double.infRung=2047*2^52:=rfl
 rw[hs,hb,hi,k7X]
 have q1:((n.log2+1022)*2^52+m) % 2^63=(n.log2+1022)*2^52+m:=Nat.mod_eq_of_lt (by omega)
 have q2:((n.log2+1022)*2^52+m) / 2^63=0:=Nat.div_eq_of_lt (by omega)
 simp only[q1,q2]
 rw[if_neg (by omega),if_pos (by omega)]
 have q3:((n.log2+1022)*2^52+m) % 2^52=m-2^52:=by omega
 have q4:((n.log2+1022)*2^52+m) / 2^52=n.log2+1023:=by omega
 rw[q3,q4]
 have q5:2^52+(m-2^52)=m:=by omega
 have q6:-1074+((n.log2+1023-1:Nat):Int)=-((52-n.log2:Nat):Int):=by omega
 rw[q5,q6]
 rfl
theorem z6U (n s:Nat) (b:Int) (h:b≤-(s:Int)):Ieee.signed false (n*2^s) (-(s:Int)-b).toNat=((n*2^(-b).toNat:Nat):Int):=by
 unfold Ieee.signed
 rw[if_neg (by decide),Nat.shiftLeft_eq,Nat.mul_assoc,←Nat.pow_add,show s+(-(s:Int)-b).toNat=(-b).toNat by omega]
theorem k7Y {n k:Nat} (h:n<2^(k+1)):n.log2≤k:=by
 by_cases hn:n=0
 ·subst hn
  exact Nat.zero_le _
 ·have:=(Nat.log2_lt (k:=k+1) hn).2 h
  omega
theorem k4Q {a b:Nat} (ha:a<1000000000000) (hb:b<1000000000000):(FloatKind.format .f64).add (fl a) (fl b)=some (fl (a+b)):=by
 obtain ⟨s,hs⟩:=z6T (n:=a) (k7Y (by omega))
 obtain ⟨t,ht⟩:=z6T (n:=b) (k7Y (by omega))
 rw[j2R]
 unfold Ieee.Format.add
 rw[hs,ht]
 unfold Ieee.Datum.sum
 simp only
 obtain ⟨q,hq⟩:∃q:Nat,min (-(s:Int)) (-(t:Int))=-(q:Int):=⟨max s t,by omega⟩
 rw[hq,z6U a s _ (by omega),z6U b t _ (by omega)]
 have e:(-(-(q:Int))).toNat=q:=by omega
 rw[e,←Int.natCast_add,←Nat.add_mul]
 have e2:(if (((a+b)*2^q:Nat):Int)=0 then false&&false else decide ((((a+b)*2^q:Nat):Int)<0))=false:=by
  split
  ·rfl
  ·exact decide_eq_false (by omega)
 rw[e2,Int.natAbs_natCast]
 show some (Ieee.double.nearest false _ _)=_
 rw[j0t (k7Y (by omega))]
theorem k7Z {a b:Nat} (ha:a<1000000000000) (hb:b<1000000000000):(FloatKind.format .f64).order (fl a) (fl b)=some (compare a b):=by
 obtain ⟨s,hs⟩:=z6T (n:=a) (k7Y (by omega))
 obtain ⟨t,ht⟩:=z6T (n:=b) (k7Y (by omega))
 rw[j2R]
 unfold Ieee.Format.order
 rw[hs,ht]
 unfold Ieee.Datum.order
 simp only
 obtain ⟨q,hq⟩:∃q:Nat,min (-(s:Int)) (-(t:Int))=-(q:Int):=⟨max s t,by omega⟩
 rw[hq,z6U a s _ (by omega),z6U b t _ (by omega)]
 have e:(-(-(q:Int))).toNat=q:=by omega
 have hp:=Nat.two_pow_pos q
 rw[e]
 congr 1
 have c1:∀x y:Nat,(x<y↔((x*2^q:Nat):Int)<((y*2^q:Nat):Int)):=fun x y=>by
  rw[Int.ofNat_lt]
  exact (Nat.mul_lt_mul_right hp).symm
 rcases Nat.lt_trichotomy a b with h|h|h
 ·rw[Nat.compare_eq_lt.2 h]
  exact Int.compare_eq_lt.2 ((c1 a b).1 h)
 ·subst h
  rw[Nat.compare_eq_eq.2 rfl]
  exact Int.compare_eq_eq.2 rfl
 ·rw[Nat.compare_eq_gt.2 h]
  exact Int.compare_eq_gt.2 ((c1 b a).1 h)
theorem k6a:fl 0=0:=rfl
theorem z8B:fl 1=4607182418800017408:=by kernel_rfl
theorem z8C {α β:Type} {P:Program} {s:Sem α} {f:α→β}:q0C P (f <$> s)=(q0C P s).map f:=by
 show q0C P (s >>= fun a=>pure (f a))=_
 rw[q4A]
 cases q0C P s<;>rfl
theorem j0u {P:Program} {a b c d r s:Nat} {t:TypeId} (h1:(FloatKind.format .f64).add a c=some r) (h2:(FloatKind.format .f64).add b d=some s):q0C P (binOp .add t (.complex .f64 a b) (.complex .f64 c d))=some (.complex .f64 r s):=by
 have hf:∀{x y z:Nat},(FloatKind.format .f64).add x y=some z→q0C P (Op.Complex.arith .add .f64 x y)=some z:=fun {x y z} h=>by
  unfold Op.Complex.arith Op.floatArith
  simp only[h]
  rfl
 have hb:binOp .add t (.complex .f64 a b) (.complex .f64 c d)=(do pure (.complex .f64 (←Op.Complex.arith .add .f64 a c) (←Op.Complex.arith .add .f64 b d)):Sem Value):=rfl
 rw[hb,q4A,hf h1]
 simp only[Option.bind_some]
 rw[q4A,hf h2]
 rfl
theorem z5b {P:Program} {op:BinOp} {a b:Nat} {t:TypeId} {v:Value} (h:binOp op t (.float .f64 a) (.float .f64 b)=pure v):q0C P (binOp op t (.float .f64 a) (.float .f64 b))=some v:=by
 rw[h]
 rfl
theorem z6V {op:BinOp} {t:TypeId} {w u v:Value} (hu:q0J u=true) (hv:q0J v=true) (hg:q0C Tryz.prog (eqGuard op t (.tmp 0) (.const w) u w)=some ()) (h:q0C Tryz.prog (binOp op t u w)=some v):binV op t w u=some v:=by
 unfold binV
 rw[if_pos hu,q4A,hg]
 simp only[Option.bind_some]
 rw[z8C,h]
 simp only[Option.map_some]
 rw[if_pos hv]
theorem z1m {op:BinOp} {t:TypeId} {w u v:Value} (hw:q0J w=true) (hu:q0J u=true) (hv:q0J v=true) (hg:q0C Tryz.prog (eqGuard op t (.tmp 0) (.tmp 1) u w)=some ()) (h:q0C Tryz.prog (binOp op t u w)=some v):q9n op t u w=some v:=by
 unfold q9n
 rw[if_pos ⟨hu,hw⟩,q4A,hg]
 simp only[Option.bind_some]
 rw[z8C,h]
 simp only[Option.map_some]
 rw[if_pos hv]
def cv (z:Nat×Nat):Value:=.complex .f64 (fl z.1) (fl z.2)
theorem z8D {a b:Nat×Nat} (h1:a.1<1000000000) (h2:a.2<1000000000) (h3:b.1<1000000000) (h4:b.2<1000000000):q9n .add 46 (cv a) (cv b)=some (cv (a.1+b.1,a.2+b.2)):=
 z1m rfl rfl rfl rfl (j0u (k4Q (by omega) (by omega)) (k4Q (by omega) (by omega)))
theorem j2T {a:Nat×Nat} (h1:a.1<1000000000) (h2:a.2<1000000000):binV .add 46 (.complex .f64 4607182418800017408 0) (cv a)=some (cv (a.1+1,a.2)):=by
 have e1:=k4Q (a:=a.1) (b:=1) (by omega) (by omega)
 have e2:=k4Q (a:=a.2) (b:=0) (by omega) (by omega)
 rw[z8B] at e1
 rw[k6a] at e2
 exact z6V rfl rfl rfl (j0u e1 e2)
theorem cv_i {a:Nat×Nat} (h1:a.1<1000000000) (h2:a.2<1000000000):binV .add 46 (.complex .f64 0 4607182418800017408) (cv a)=some (cv (a.1,a.2+1)):=by
 have e1:=k4Q (a:=a.2) (b:=1) (by omega) (by omega)
 have e2:=k4Q (a:=a.1) (b:=0) (by omega) (by omega)
 rw[z8B] at e1
 rw[k6a] at e2
 exact z6V rfl rfl rfl (j0u e2 e1)
theorem cv_0:Value.complex .f64 0 0=cv (0,0):=rfl
theorem z5c {a:Nat×Nat}:reV (cv a)=some (.float .f64 (fl a.1)):=re_is
theorem im_cv {a:Nat×Nat}:imV (cv a)=some (.float .f64 (fl a.2)):=im_is
theorem f_eq0 {a:Nat} (h:a<1000000000):binV .eql 49 (.float .f64 0) (.float .f64 (fl a))=some (.bool (decide (a=0))):=by
 have e:=k7Z (a:=a) (b:=0) (by omega) (by omega)
 rw[k6a] at e
 refine z6V rfl rfl rfl (z5b ?_)
 rw[binOp_float_cmp_eql,e]
 cases a<;>rfl
theorem f_gt0 {a:Nat} (h:a<1000000000):binV .gtr 49 (.float .f64 0) (.float .f64 (fl a))=some (.bool (decide (0<a))):=by
 have e:=k7Z (a:=a) (b:=0) (by omega) (by omega)
 rw[k6a] at e
 refine z6V rfl rfl rfl (z5b ?_)
 rw[binOp_float_cmp_gtr,e]
 cases a<;>rfl
theorem f_lss {a b:Nat} (h1:a<1000000000) (h2:b<1000000000):q9n .lss 49 (.float .f64 (fl a)) (.float .f64 (fl b))=some (.bool (decide (a<b))):=by
 refine z1m rfl rfl rfl rfl (z5b ?_)
 rw[binOp_float_cmp_lss,k7Z (by omega) (by omega)]
 rcases Nat.lt_trichotomy a b with h|h|h
 ·rw[Nat.compare_eq_lt.2 h,decide_eq_true h];rfl
 ·rw[Nat.compare_eq_eq.2 h,decide_eq_false (by omega)];rfl
 ·rw[Nat.compare_eq_gt.2 h,decide_eq_false (by omega)];rfl
theorem f_gtr {a b:Nat} (h1:a<1000000000) (h2:b<1000000000):q9n .gtr 49 (.float .f64 (fl a)) (.float .f64 (fl b))=some (.bool (decide (b<a))):=by
 refine z1m rfl rfl rfl rfl (z5b ?_)
 rw[binOp_float_cmp_gtr,k7Z (by omega) (by omega)]
 rcases Nat.lt_trichotomy a b with h|h|h
 ·rw[Nat.compare_eq_lt.2 h,decide_eq_false (by omega)];rfl
 ·rw[Nat.compare_eq_eq.2 h,decide_eq_false (by omega)];rfl
 ·rw[Nat.compare_eq_gt.2 h,decide_eq_true h];rfl
theorem f_neq {a:Nat} (h:a<1000000000):q9n .neq 49 (.float .f64 (fl a)) (.float .f64 (fl a))=some (.bool false):=by
 refine z1m rfl rfl rfl rfl (z5b ?_)
 rw[binOp_float_cmp_neq,k7Z (by omega) (by omega),Nat.compare_eq_eq.2 rfl]
 rfl
theorem j2U {a:Nat} {H:q0a} (h:a<1000000000):cw Tryz.prog (tabF tab) om1 57 [.float .f64 (fl a)] H=some (.bool false,H):=by
 rw[q0g (F:=q2y) rfl rfl rfl]
 unfold q2y q5m
 simp only[WA,Nat.reduceEqDiff,reduceCtorEq,q6w,f_neq h]
def cmpN (a b:Nat):Int:=if a<b then -1 else if b<a then 1 else 0
theorem k8a {a b:Nat} {H:q0a} (h1:a<1000000000) (h2:b<1000000000):cw Tryz.prog (tabF tab) om1 36 [.float .f64 (fl a),.float .f64 (fl b)] H=some (.int .i64 (cmpN a b),H):=by
 rw[q0g (F:=q1U) rfl rfl rfl]
 unfold q1U q4t cmpN
 have n1:=fun H=>j2U (H:=H) h1
 have n2:=fun H=>j2U (H:=H) h2
 have l1:=f_lss h1 h2
 have l2:=f_gtr h1 h2
 by_cases p:a<b
 ·rw[decide_eq_true p] at l1
  rw[if_pos p]
  simp only[WA,Nat.reduceEqDiff,reduceCtorEq,n1,n2,q6w,l1]
 rw[decide_eq_false p] at l1
 rw[if_neg p]
 by_cases q:b<a
 ·rw[decide_eq_true q] at l2
  rw[if_pos q]
  simp only[WA,Nat.reduceEqDiff,reduceCtorEq,n1,n2,q6w,l1,l2]
 ·rw[decide_eq_false q] at l2
  rw[if_neg q]
  simp only[WA,Nat.reduceEqDiff,reduceCtorEq,n1,n2,q6w,l1,l2]
theorem c_Or {x:Value} {a b:Int} {H:q0a} (hx:Ints H x [a,b]):cw Tryz.prog (tabF tab) om1 35 [x] H=some (.int .i64 (if a≠0 then a else b),H):=by
 rw[q0g (F:=q5z) rfl rfl rfl]
 unfold q5z q9U
 have lx:=fun H9=>Sl.len (H2:=H9) hx
 simp only[List.length_cons,List.length_nil,Nat.zero_add,Nat.reduceAdd] at lx
 obtain ⟨i,o,a1,a2⟩:=Ints.at hx (k:=0) (x:=a) rfl
 obtain ⟨j,p,b1,b2⟩:=Ints.at hx (k:=1) (x:=b) rfl
 rw[show ((0:Nat):Int)=0 from rfl] at a1
 rw[show ((1:Nat):Int)=1 from rfl] at b1
 have l01:((0:Int)<((2:Nat):Int))=True:=by simp
 have l11:((1:Int)<((2:Nat):Int))=True:=by simp
 have l21:((2:Int)<((2:Nat):Int))=False:=by simp
 have w1:IntKind.i64.wrap ((0:Int)+1)=1:=by decide
 have w2:IntKind.i64.wrap ((1:Int)+1)=2:=by decide
 simp only[WA,Nat.reduceEqDiff,reduceCtorEq,Int.cast_ofNat_Int,lx]
 rw[q0e]
 simp only[WA,Nat.reduceEqDiff,reduceCtorEq]
 rw[q0d q4c.eq_1]
 by_cases ha:a=0
 ·have q:(a≠0)=False:=by simp[ha]
  rw[if_neg (fun h=>h ha)]
  simp only[WA,Nat.reduceEqDiff,Int.reduceLT,a1,a2,q,w1]
  rw[q0e]
  simp only[WA,Nat.reduceEqDiff]
  rw[q0d q4c.eq_1]
  by_cases hb:b=0
  ·have q:(b≠0)=False:=by simp[hb]
   simp only[WA,Nat.reduceEqDiff,Int.reduceLT,b1,b2,q,w2]
   rw[q0e]
   simp only[WA,Nat.reduceEqDiff]
   rw[q0d q4c.eq_1]
   simp only[WA,Nat.reduceEqDiff,Int.reduceLT,hb]
  ·have q:(b≠0)=True:=by simp[hb]
   simp only[WA,Nat.reduceEqDiff,Int.reduceLT,b1,b2,q]
 ·have q:(a≠0)=True:=by simp[ha]
  rw[if_pos ha]
  simp only[WA,Nat.reduceEqDiff,Int.reduceLT,a1,a2,q]
def cmpS (a b:Nat×Nat):Int:=if cmpN a.1 b.1≠0 then cmpN a.1 b.1 else cmpN a.2 b.2
def Sm (a:Nat×Nat):Prop:=a.1<1000000000∧a.2<1000000000
theorem j2V {H:q0a} {s:ByteArray} {z:Nat×Nat}:vBox (.agg ⟨[.string s,cv z]⟩) 48 H=some (.pointer (some ⟨H.n,0,none⟩),H.push ⟨[.string s,cv z],48,.tip,0,[]⟩):=rfl
theorem j2W {H:q0a} {a b:Int}:q0D 3 2 1 [.int .i64 0] [(0,1,.int .i64 a),(1,1,.int .i64 b)] H=some (.slice (some ⟨H.n,0,none⟩) 2 3,H.push ⟨[.int .i64 a,.int .i64 b],3,.tip,0,[]⟩):=rfl
theorem c_Cmp {s t:ByteArray} {a b:Nat×Nat} {H:q0a} (ha:Sm a) (hb:Sm b):q0p (cw Tryz.prog (tabF tab) om1 34 [.agg ⟨[.string s,cv a]⟩,.agg ⟨[.string t,cv b]⟩] H) fun v H'=>Ext H H'∧v=.int .i64 (cmpS a b):=by
 rw[q0g (F:=q1t) rfl rfl rfl]
 unfold q1t q3K
 obtain ⟨H1,hH1⟩:∃H1,H1=H.push ⟨[.string s,cv a],48,.tip,0,[]⟩:=⟨_,rfl⟩
 have x1:Ext H H1:=by rw[hH1];exact Ext.push H _
 have g1:H1.get H.n=some ⟨[.string s,cv a],48,.tip,0,[]⟩:=by rw[hH1];exact q0b
 obtain ⟨H2,hH2⟩:∃H2,H2=H1.push ⟨[.string t,cv b],48,.tip,0,[]⟩:=⟨_,rfl⟩
 have x2:Ext H1 H2:=by rw[hH2];exact Ext.push H1 _
 have g2:H2.get H1.n=some ⟨[.string t,cv b],48,.tip,0,[]⟩:=by rw[hH2];exact q0b
 have g1:=x2.get g1
 have c1:=fun H9=>k8a (H:=H9) ha.1 hb.1
 have c2:=fun H9=>k8a (H:=H9) ha.2 hb.2
 obtain ⟨H3,hH3⟩:∃H3,H3=H2.push ⟨[.int .i64 (cmpN a.1 b.1),.int .i64 (cmpN a.2 b.2)],3,.tip,0,[]⟩:=⟨_,rfl⟩
 have x3:Ext H2 H3:=by rw[hH3];exact Ext.push H2 _
 have g3:H3.get H2.n=some ⟨[.int .i64 (cmpN a.1 b.1),.int .i64 (cmpN a.2 b.2)],3,.tip,0,[]⟩:=by rw[hH3];exact q0b
 have i3:Ints H3 (.slice (some ⟨H2.n,0,none⟩) 2 3) [cmpN a.1 b.1,cmpN a.2 b.2]:=Sl.new (n:=2) (c:=3) g3 q0n rfl
 have c3:=c_Or i3
 have g1':=x3.get g1
 have g2':=x3.get g2
 simp only[WA,q0M,q1b,q1w,q1y,Nat.reduceEqDiff,reduceCtorEq,j2V,←hH1,←hH2,g1,g2,z3T,st_im,z5c,im_cv,c1,c2,j2W,←hH3,c3,g1',g2',g3]
 exact ⟨x1.trans (x2.trans x3),rfl⟩
def hi (l:List Int):Nat:=(l.filter fun u=>decide (127<u)).length
def wr (T:List Tok):Nat:=(T.filter fun t=>decide (t.err≠0)).length
def hiT (T:List Tok):Nat:=hi (T.flatMap (·.out))
theorem j0v (u:Int) (l:List Int):hi (u::l)=(if 127<u then 1 else 0)+hi l:=by
 unfold hi
 rw[List.filter_cons]
 by_cases h:127<u
 ·rw[decide_eq_true h,if_pos rfl,if_pos h,List.length_cons,Nat.add_comm]
 ·rw[decide_eq_false h,if_neg (by decide),if_neg h,Nat.zero_add]
theorem z8E (l m:List Int):hi (l++m)=hi l+hi m:=by
 unfold hi
 rw[List.filter_append,List.length_append]
theorem j2X (l:List Int):hi l≤l.length:=List.length_filter_le ..
theorem z5d (t:Tok) (T:List Tok):wr (t::T)=(if t.err≠0 then 1 else 0)+wr T:=by
 unfold wr
 rw[List.filter_cons]
 by_cases h:t.err≠0
 ·rw[decide_eq_true h,if_pos rfl,if_pos h,List.length_cons,Nat.add_comm]
 ·rw[decide_eq_false h,if_neg (by decide),if_neg h,Nat.zero_add]
theorem z5e (T U:List Tok):wr (T++U)=wr T+wr U:=by
 unfold wr
 rw[List.filter_append,List.length_append]
theorem j0w (T:List Tok):wr T≤T.length:=List.length_filter_le ..
theorem z1n (t:Tok) (T:List Tok):hiT (t::T)=hi t.out+hiT T:=by
 unfold hiT
 rw[List.flatMap_cons,z8E]
theorem k9p (T U:List Tok):hiT (T++U)=hiT T+hiT U:=by
 unfold hiT
 rw[List.flatMap_append,z8E]
theorem gC1:q0J (.complex .f64 4607182418800017408 0)=true:=rfl
theorem gCi:q0J (.complex .f64 0 4607182418800017408)=true:=rfl
def PC0 (v8 v9 v10:Value) (H0:q0a) (z:Nat×Nat) (y:AEx) (e':Env) (H':q0a):Prop:=y=.exit 2∧H'=H0∧eget e' 3=cv z∧eget e' 8=v8∧eget e' 9=v9∧eget e' 10=v10
theorem l_C0 {v8 v9 v10 x:Value} {H:q0a} {m:List Int} (hx:Ints H x m) (hl:m.length<1000000):∀(c k:Nat) (z:Nat×Nat),k+c=m.length→z.1<100000000→z.2+c<100000000 →
  Out (run Tryz.prog (tabF tab) om1 (.loop [3,8,9,10,20,21,22] q3C) [(3,cv z),(8,v8),(9,v9),(10,v10),(20,x),(21,.int .i64 m.length),(22,.int .i64 k)] H) (PC0 v8 v9 v10 H (z.1,z.2+hi (m.drop k))):=by
 intro c
 induction c with
 | zero=>
  intro k z hk h1 h2
  obtain rfl:k=m.length:=by omega
  have zz:(((m.length:Nat):Int)<(m.length:Nat))=False:=by simp
  rw[q0d q3C.eq_1]
  simp only[WA,Nat.reduceEqDiff,zz]
  rw[List.drop_of_length_le (Nat.le_refl _)]
  exact ⟨rfl,rfl,rfl,rfl,rfl,rfl⟩
 | succ c ih=>
  intro k z hk h1 h2
  have hlt:((k:Int)<(m.length:Nat))=True:=eq_true (by omega)
  obtain ⟨u,hu,hd⟩:=q0z (L:=m) (i:=k) (by omega)
  obtain ⟨i,o,a1,a2⟩:=Ints.at hx hu
  have hw2:IntKind.i64.wrap ((k:Int)+1)=((k+1:Nat):Int):=by rw[q0k (by omega) (by omega)];omega
  rw[q0d q3C.eq_1,hd,j0v]
  by_cases hu7:u>127
  ·have q:(u>127)=True:=eq_true hu7
   obtain ⟨y,e',H',r1,r2⟩:=ih (k+1) (z.1,z.2+1) (by omega) h1 (by simp only;omega)
   have ci:=cv_i (a:=z) (by omega) (by omega)
   rw[if_pos hu7,←Nat.add_assoc]
   simp only[WA,Nat.reduceEqDiff,hlt,a1,a2,q,q1I gCi,ci,hw2]
   rw[q0e]
   simp only[WA,Nat.reduceEqDiff,r1]
   exact r2
  ·have q:(u>127)=False:=eq_false hu7
   obtain ⟨y,e',H',r1,r2⟩:=ih (k+1) z (by omega) h1 (by omega)
   rw[if_neg hu7,Nat.zero_add]
   simp only[WA,Nat.reduceEqDiff,hlt,a1,a2,q,hw2]
   rw[q0e]
   simp only[WA,Nat.reduceEqDiff,r1]
   exact r2
def PC1 (H0:q0a) (z:Nat×Nat) (y:AEx) (e':Env) (H':q0a):Prop:=y=.exit 0∧Ext H0 H'∧eget e' 3=cv z
theorem l_C1 {Z:NS} {H0:q0a} {w:Value} {T:List Tok} (hT:q2C Z H0 w T) (hl:T.length<1000000) (hm:∀x∈T,x.out.length<1000):∀(c k:Nat) (z:Nat×Nat) (H:q0a),k+c=T.length→z.1+c<100000000→z.2+1000*c<100000000+1000*c→z.2+(outs (T.drop k)).length<100000000→Ext H0 H →
  Out (run Tryz.prog (tabF tab) om1 (.loop [3,8,9,10] q3D) [(3,cv z),(8,w),(9,.int .i64 T.length),(10,.int .i64 k)] H) (PC1 H0 (z.1+wr (T.drop k),z.2+hiT (T.drop k))):=by
 intro c
 induction c with
 | zero=>
  intro k z H hk h1 h2 h3 hx
  obtain rfl:k=T.length:=by omega
  have zz:(((T.length:Nat):Int)<(T.length:Nat))=False:=by simp
  rw[q0d q3D.eq_1]
  simp only[WA,Nat.reduceEqDiff,zz]
  rw[List.drop_of_length_le (Nat.le_refl _)]
  exact ⟨rfl,hx,rfl⟩
 | succ c ih=>
  intro k z H hk h1 h2 h3 hx
  have hlt:(k:Int)<T.length:=by omega
  obtain ⟨x,hxk,hdx⟩:=q0z (L:=T) (i:=k) (by omega)
  have hxl:=hm x (List.mem_of_getElem? hxk)
  have ho:(outs (T.drop k)).length=x.out.length+(outs (T.drop (k+1))).length:=by
   rw[hdx]
   simp only[outs,List.flatMap_cons,List.length_append]
  obtain ⟨i,o,px,cx,a1,a6,a7⟩:=q2C.at0 hT hxk
  have a6':=k8Z hx a6
  obtain ⟨H1,hH1⟩:∃H1,H1=H.push ⟨tokC px cx x,36,.tip,1,[]⟩:=⟨_,rfl⟩
  have x1:Ext H H1:=by rw[hH1];exact Ext.push H _
  have g1:H1.get H.n=some ⟨tokC px cx x,36,.tip,1,[]⟩:=by rw[hH1];exact q0b
  have i1:Ints H1 (.slice px x.out.length cx) x.out:=a7.ext (hx.trans x1)
  have li:=fun H9=>Sl.len (H2:=H9) i1
  have hw2:IntKind.i64.wrap ((k:Int)+1)=((k+1:Nat):Int):=by rw[q0k (by omega) (by omega)];omega
  obtain ⟨z',hz'⟩:∃z':Nat×Nat,z'=(z.1+(if x.err≠0 then 1 else 0),z.2):=⟨_,rfl⟩
  have hz1:z'.1≤z.1+1:=by rw[hz'];simp only;split<;>omega
  have hz2:z'.2=z.2:=by rw[hz']
  obtain ⟨y1,e1,H2,r1,hy1,hH2,s3,s8,s9,s10⟩:=l_C0 (v8:=w) (v9:=.int .i64 T.length) (v10:=.int .i64 k) i1 (by omega) x.out.length 0 z' (by omega) (by omega) (by omega)
  rw[show ((0:Nat):Int)=0 from rfl,hy1,hH2] at r1
  rw[List.drop_zero] at s3
  have hhi:=j2X x.out
  obtain ⟨y,e',H',r3,r4⟩:=ih (k+1) (z'.1,z'.2+hi x.out) H1 (by omega) (by simp only;omega) (by simp only;omega) (by simp only;omega) (hx.trans x1)
  have hwr:z'.1+wr (T.drop (k+1))=z.1+wr (T.drop k):=by rw[hdx,z5d,hz'];simp only;omega
  have hhr:z'.2+hi x.out+hiT (T.drop (k+1))=z.2+hiT (T.drop k):=by rw[hdx,z1n,hz'];simp only;omega
  simp only[hwr,hhr] at r4
  rw[q0d q3D.eq_1]
  by_cases he:x.err=0
  ·have he':(x.err≠0)=False:=by simp[he]
   rw[if_neg (fun hh=>hh he),Nat.add_zero] at hz'
   have hz':z'=z:=hz'
   subst hz'
   simp only[WA,Nat.reduceEqDiff,hlt,a1,a6',q1F,←hH1,g1,tk2,tk3,he',li]
   rw[q0e]
   simp only[WA,Nat.reduceEqDiff,r1,s10,hw2]
   rw[q0e]
   simp only[WA,Nat.reduceEqDiff,s3,s8,s9,s10,r3]
   exact r4
  ·have he':(x.err≠0)=True:=by simp[he]
   rw[if_pos he] at hz'
   have c1:=j2T (a:=z) (by omega) (by omega)
   rw[←hz'] at c1
   simp only[WA,Nat.reduceEqDiff,hlt,a1,a6',q1F,←hH1,g1,tk2,tk3,he',q1I gC1,c1,li]
   rw[q0e]
   simp only[WA,Nat.reduceEqDiff,r1,s10,hw2]
   rw[q0e]
   simp only[WA,Nat.reduceEqDiff,s3,s8,s9,s10,r3]
   exact r4
theorem z5f {Z:NS} {H:q0a} {w:Value} {T:List Tok} (hT:q2C Z H w T) (hl:T.length<10000) (hm:∀x∈T,x.out.length<1000):q0p (cw Tryz.prog (tabF tab) om1 32 [w] H) fun v H'=>Ext H H'∧v=cv (wr T,hiT T):=by
 rw[q0g (F:=q4P) rfl rfl rfl]
 unfold q4P q8T
 have ho:(outs T).length≤1000*T.length:=by
  clear hl hT
  induction T with
  | nil=>exact Nat.le_refl _
  | cons x T ih=>
   have h1:=hm x (List.mem_cons_self ..)
   have h2:=ih fun y hy=>hm y (List.mem_cons_of_mem _ hy)
   simp only[outs,List.flatMap_cons,List.length_append,List.length_cons]
   unfold outs at h2
   omega
 have lw:=fun H9=>Rws.len (H2:=H9) hT.rws
 obtain ⟨y,e',H',r1,rfl,x1,s3⟩:=l_C1 hT (by omega) hm T.length 0 (0,0) H (by omega) (by simp only;omega) (by simp only;omega) (by rw[List.drop_zero];simp only;omega) (Ext.refl H)
 rw[show ((0:Nat):Int)=0 from rfl] at r1
 rw[List.drop_zero] at s3
 simp only[Nat.zero_add] at s3
 rw[show ((0:Nat),(0:Nat))=((0,0):Nat×Nat) from rfl] at r1
 rw[←cv_0] at r1
 simp only[WA,Nat.reduceEqDiff,reduceCtorEq,lw]
 rw[q0e]
 simp only[WA,Nat.reduceEqDiff,reduceCtorEq,r1,s3]
 exact x1
def RK (k:Nat) (v:Value) (n:Nat) (H:q0a) (xs:List Int) (C D:NS):Prop:=if k=0 then RdB v n H (fdR rbS xs ([],0)).2 C D else if k=7 then RdI v n H (fdR rsI xs (([],0,0),0)).2 C D else RdM (rulK k) v n H (fdR (rdS (rulK k)) xs ([],0,0)).2 C D
def tpK (k:Nat) (xs:List Int):List Tok:=if k=0 then (fdR rbS xs ([],0)).1 else if k=7 then (fdR rsI xs (([],0,0),0)).1 else (fdR (rdS (rulK k)) xs ([],0,0)).1
def teK (k:Nat) (xs:List Int):List Tok:=if k=0 then (rbF (fdR rbS xs ([],0)).2).1 else if k=7 then (rfI (fdR rsI xs (([],0,0),0)).2).1 else (rdF (rulK k) (fdR (rdS (rulK k)) xs ([],0,0)).2).1
theorem k8b (k:Nat) (xs:List Int):dcK k xs=tpK k xs++teK k xs:=by
 unfold dcK tpK teK dcT
 split
 ·rfl
 split<;>rfl
theorem j0x (k:Nat):tpK k []=[]:=by
 unfold tpK
 split
 ·rfl
 split<;>rfl
structure Mk (R:Nat→q0a→List Int→NS→NS→Prop) (mv:Value) (tp te:List Int→List Tok):Prop where
 put : ∀ {n H xs C D u}, R n H xs C D → n < 900 → 0 ≤ u ∧ u < 256 → q0p (invA Tryz.prog (cw Tryz.prog (tabF tab) om1) mv "Put" [.int .i64 u] H) fun v H' => ∃ T, tp (xs ++ [u]) = tp xs ++ T ∧ q2C (fun j => j < H.n) H' v T ∧ Only C H H' ∧ ∃ C' D', R (n + 1) H' (xs ++ [u]) C' D' ∧ (∀ j, j < H.n → C' j → C j) ∧ ∀ j, j < H.n → D' j → D j
 fin : ∀ {n H xs C D}, R n H xs C D → n ≤ 900 → q0p (invA Tryz.prog (cw Tryz.prog (tabF tab) om1) mv "End" [] H) fun v H' => q2C (fun j => j < H.n) H' v (te xs) ∧ Only C H H'
 keep:∀{n H H' xs C D},R n H xs C D→H.n≤H'.n→(∀j,D j→H'.get j=H.get j)→R n H' xs C D
 lt:∀{n H xs C D j},R n H xs C D→D j→j<H.n
 sub:∀{n H xs C D j},R n H xs C D→C j→D j
theorem j0y {ρ:Type} {R:Nat→q0a→ρ→NS→NS→Prop} {mv:Value} {rs:ρ→Int→List Tok×ρ} {rf:ρ→List Tok×ρ} {r0:ρ} (h:Mc R mv rs rf (fun u=>0≤u∧u<256) 900):Mk (fun n H xs C D=>R n H (fdR rs xs r0).2 C D) mv (fun xs=>(fdR rs xs r0).1) (fun xs=>(rf (fdR rs xs r0).2).1) where
 put:=by
  intro n H xs C D u hR hn hu
  obtain ⟨v,H',c,h1,_,h3,C',D',h4,h5,h6⟩:=h.put hR hn hu
  have e:fdR rs [u] (fdR rs xs r0).2=((rs (fdR rs xs r0).2 u).1,(rs (fdR rs xs r0).2 u).2):=by
   rw[q5A]
   show (_++[],_)=_
   rw[List.append_nil]
   rfl
  refine ⟨v,H',c,(rs (fdR rs xs r0).2 u).1,?_,h1,h3,C',D',?_,h5,h6⟩
  ·rw[k9n,e]
  ·rw[k9n,e]
   exact h4
 fin:=by
  intro n H xs C D hR hn
  obtain ⟨v,H',c,h1,_,h3,_⟩:=h.fin hR hn
  exact ⟨v,H',c,h1,h3⟩
 keep:=fun hR h1 h2=>h.keep hR h1 h2
 lt:=fun hR hj=>h.lt hR hj
 sub:=fun hR hj=>h.sub hR hj
theorem mkK {k:Nat} (hk:k<8) (v:Value):Mk (RK k v) v (tpK k) (teK k):=by
 by_cases h0:k=0
 ·have e1:RK k v=fun n H xs C D=>RdB v n H (fdR rbS xs ([],0)).2 C D:=by funext n H xs C D;unfold RK;rw[if_pos h0]
  have e2:tpK k=fun xs=>(fdR rbS xs ([],0)).1:=by funext xs;unfold tpK;rw[if_pos h0]
  have e3:teK k=fun xs=>(rbF (fdR rbS xs ([],0)).2).1:=by funext xs;unfold teK;rw[if_pos h0]
  rw[e1,e2,e3]
  exact j0y mc_B
 by_cases h7:k=7
 ·have e1:RK k v=fun n H xs C D=>RdI v n H (fdR rsI xs (([],0,0),0)).2 C D:=by funext n H xs C D;unfold RK;rw[if_neg h0,if_pos h7]
  have e2:tpK k=fun xs=>(fdR rsI xs (([],0,0),0)).1:=by funext xs;unfold tpK;rw[if_neg h0,if_pos h7]
  have e3:teK k=fun xs=>(rfI (fdR rsI xs (([],0,0),0)).2).1:=by funext xs;unfold teK;rw[if_neg h0,if_pos h7]
  rw[e1,e2,e3]
  exact j0y mc_I
 ·have e1:RK k v=fun n H xs C D=>RdM (rulK k) v n H (fdR (rdS (rulK k)) xs ([],0,0)).2 C D:=by funext n H xs C D;unfold RK;rw[if_neg h0,if_neg h7]
  have e2:tpK k=fun xs=>(fdR (rdS (rulK k)) xs ([],0,0)).1:=by funext xs;unfold tpK;rw[if_neg h0,if_neg h7]
  have e3:teK k=fun xs=>(rdF (rulK k) (fdR (rdS (rulK k)) xs ([],0,0)).2).1:=by funext xs;unfold teK;rw[if_neg h0,if_neg h7]
  rw[e1,e2,e3]
  exact j0y (mc_T (k5Z k (by omega) (by omega)).1)
theorem mkD {k:Nat} (hk:k<8) (H:q0a):q0p (cw Tryz.prog (tabF tab) om1 18 [.string (nm k)] H) fun v H'=>∃rv C D,v=.tuple ⟨[rv,.int .i64 0]⟩∧one rv=true∧RK k rv 0 H' [] C D∧NewM H H' C D:=by
 by_cases h0:k=0
 ·subst h0
  obtain ⟨v,H',c,rv,C,D,h1,h2,h3,h4⟩:=mk_B (H:=H)
  exact ⟨v,H',c,rv,C,D,h1,h2,by unfold RK;rw[if_pos rfl];exact h3,h4⟩
 by_cases h7:k=7
 ·subst h7
  obtain ⟨v,H',c,rv,C,D,h1,h2,h3,h4⟩:=mk_I (H:=H)
  exact ⟨v,H',c,rv,C,D,h1,h2,by unfold RK;rw[if_neg h0,if_pos rfl];exact h3,h4⟩
 ·obtain ⟨v,H',c,rv,C,D,h1,h2,h3,h4⟩:=mk_T (H:=H) hk h0 h7 fun H=>z4X k (by omega) (by omega) H
  exact ⟨v,H',c,rv,C,D,h1,h2,by unfold RK;rw[if_neg h0,if_neg h7];exact h3,h4⟩
def fitK (k:Nat) (xs:List Int):Nat×Nat:=(wr (dcK k xs),hiT (dcK k xs))
def fpK (k:Nat) (xs:List Int):Nat×Nat:=(wr (tpK k xs),hiT (tpK k xs))
theorem k3j {T:List Tok} (h:∀x∈T,x.out.length≤8):hiT T≤8*T.length:=by
 induction T with
 | nil=>exact Nat.le_refl _
 | cons x T ih=>
  have h1:=h x (List.mem_cons_self ..)
  have h2:=ih fun y hy=>h y (List.mem_cons_of_mem _ hy)
  have h3:=j2X x.out
  rw[z1n,List.length_cons]
  omega
theorem q8h {k:Nat} (hk:k<8) {xs:List Int} (hb:∀u∈xs,0≤u∧u<256):(∀x∈dcK k xs,x.out.length≤8)∧(dcK k xs).length≤xs.length∧(fitK k xs).1≤xs.length∧(fitK k xs).2≤8*xs.length∧(fpK k xs).1≤xs.length∧(fpK k xs).2≤8*xs.length:=by
 obtain ⟨h1,h2⟩:=j2P hk hb
 have h3:∀x∈dcK k xs,x.out.length≤8:=fun x hx=>(h1 x hx).2.2.1
 have h4:=j0w (dcK k xs)
 have h5:=k3j h3
 have e:=k8b k xs
 refine ⟨h3,h2,by unfold fitK;simp only;omega,by unfold fitK;simp only;omega,?_,?_⟩
 ·unfold fpK
  simp only
  rw[e,z5e] at h4
  rw[e] at h2
  omega
 ·unfold fpK
  simp only
  rw[e,k9p] at h5
  rw[e] at h2
  omega
def Gr (Z:Nat→Prop) (H:q0a) (el:TypeId) (sz:Nat) (v:Value) (n:Nat) (cs:List Value):Prop:=cs.length=n*sz∧((v=.slice none 0 0∧n=0)∨∃b ver anc,v=.slice (some ⟨b,0,none⟩) n (n+1)∧0<n∧H.get b=some ⟨cs,el,.tip,ver,anc⟩∧Z b∧∀x∈anc,Z x∧x<b∧∃b',H.get x=some b'∧b'.elem=el)
theorem Gr.nil {Z:Nat→Prop} {H:q0a} {el:TypeId} {sz:Nat}:Gr Z H el sz (.slice none 0 0) 0 []:=⟨by simp,.inl ⟨rfl,rfl⟩⟩
theorem Gr.mono {Z Z':Nat→Prop} {H:q0a} {el:TypeId} {sz n:Nat} {v:Value} {cs:List Value} (h:Gr Z H el sz v n cs) (hz:∀j,Z j→Z' j):Gr Z' H el sz v n cs:=by
 obtain ⟨h0,h1|⟨b,ver,anc,h1,h2,h3,h4,h5⟩⟩:=h
 ·exact ⟨h0,.inl h1⟩
 ·exact ⟨h0,.inr ⟨b,ver,anc,h1,h2,h3,hz b h4,fun x hx=>⟨hz x (h5 x hx).1,(h5 x hx).2⟩⟩⟩
theorem Gr.keep {Z:Nat→Prop} {H H':q0a} {el:TypeId} {sz n:Nat} {v:Value} {cs:List Value} (h:Gr Z H el sz v n cs) (hk:∀j,Z j→∀b,H.get j=some b→b.elem=el→H'.get j=some b):Gr Z H' el sz v n cs:=by
 obtain ⟨h0,h1|⟨b,ver,anc,h1,h2,h3,h4,h5⟩⟩:=h
 ·exact ⟨h0,.inl h1⟩
 ·refine ⟨h0,.inr ⟨b,ver,anc,h1,h2,hk b h4 _ h3 rfl,h4,fun x hx=>?_⟩⟩
  obtain ⟨a1,a2,b',a3,a4⟩:=h5 x hx
  exact ⟨a1,a2,b',hk x a1 _ a3 a4,a4⟩
theorem Gr.blk {Z:Nat→Prop} {H:q0a} {el:TypeId} {sz n:Nat} {v:Value} {cs:List Value} (h:Gr Z H el sz v n cs) (hn:0<n):∃b ver anc,v=.slice (some ⟨b,0,none⟩) n (n+1)∧H.get b=some ⟨cs,el,.tip,ver,anc⟩∧Z b:=by
 obtain ⟨h0,⟨_,h1⟩|⟨b,ver,anc,h1,h2,h3,h4,h5⟩⟩:=h
 ·omega
 ·exact ⟨b,ver,anc,h1,h3,h4⟩
theorem Gr.app {Z:Nat→Prop} {H:q0a} {el el2:TypeId} {sz n bytes i c ver0:Nat} {anc0:List Nat} {v:Value} {cs new:List Value} (h:Gr Z H el sz v n cs) (hz:∀j,Z j→j<H.n) (hg:H.get i=some ⟨new,el2,.tip,ver0,anc0⟩) (hl:new.length=sz) (h1:new.all one=true) (hb:(n+1)*bytes≤140737488355328) :
  ∃v' H',q0m H v (.slice (some ⟨i,0,none⟩) 1 c) el sz bytes=some (v',H')∧Gr (fun j=>Z j∨j=H.n) H' el sz v' (n+1) (cs++new)∧H'.n=H.n+1∧(∀j,j<H.n→¬Z j→H'.get j=H.get j)∧(∀j blk,H.get j=some blk→blk.elem≠el→H'.get j=some blk)∧∃b',H'.get H.n=some b'∧b'.elem=el:=by
 have hx:cellsOf H sz (.slice (some ⟨i,0,none⟩) 1 c)=some new:=(Sl.new (n:=1) (c:=c) hg q0n (by omega)).2
 obtain ⟨h0,⟨rfl,rfl⟩|⟨b,ver,anc,rfl,h2,h3,h4,h5⟩⟩:=h
 ·obtain rfl:cs=[]:=by simpa using h0
  have hv:cellsOf H sz (.slice none 0 0)=some []:=rfl
  have e:q0m H (.slice none 0 0) (.slice (some ⟨i,0,none⟩) 1 c) el sz bytes=some (.slice (some ⟨H.n,0,none⟩) 1 2,H.push ⟨new,el,.tip,0,[]⟩):=by
   unfold q0m
   simp only[hv,hx]
   rw[if_neg (by decide),if_pos ⟨hb,h1⟩]
   rfl
  refine ⟨_,_,e,⟨by simp;omega,.inr ⟨H.n,0,[],rfl,by decide,q0b,.inr rfl,fun x hx=>by cases hx⟩⟩,by simp,fun j hj _=>?_,fun j blk hj _=>?_,_,q0b,rfl⟩
  ·rw[q0a.get_push,if_neg (by omega)]
  ·rw[q0a.get_push,if_neg (by have:=q0a.lt_of_get hj;omega)]
   exact hj
 ·have hv:cellsOf H sz (.slice (some ⟨b,0,none⟩) n (n+1))=some cs:=(Sl.new (n:=n) (c:=n+1) h3 q0n h0).2
  have hbn:=q0a.lt_of_get h3
  have e:q0m H (.slice (some ⟨b,0,none⟩) n (n+1)) (.slice (some ⟨i,0,none⟩) 1 c) el sz bytes=some (.slice (some ⟨H.n,0,none⟩) (n+1) (n+1+1),(H.upd b ⟨cs,el,.ret,ver,anc⟩).push ⟨cs++new,el,.tip,0,b::anc⟩):=by
   unfold q0m
   simp only[hv,hx]
   rw[if_neg (by decide),if_pos ⟨hb,h1⟩,if_neg (by omega),h3]
   simp only
   rw[if_pos ⟨trivial,trivial⟩,if_pos ⟨h2,by rw[Nat.zero_add];exact h0.symm⟩]
  have gn:∀j,((H.upd b ⟨cs,el,.ret,ver,anc⟩).push ⟨cs++new,el,.tip,0,b::anc⟩).get j=if j=H.n then some ⟨cs++new,el,.tip,0,b::anc⟩ else if j=b then some ⟨cs,el,.ret,ver,anc⟩ else H.get j:=fun j=>by
   rw[q0a.get_push,q0a.n_upd,q0a.get_upd h3]
  refine ⟨_,_,e,⟨by rw[List.length_append,h0,hl,Nat.add_mul,Nat.one_mul],.inr ⟨H.n,0,b::anc,rfl,by omega,by rw[gn,if_pos rfl],.inr rfl,fun x hx=>?_⟩⟩,by simp,fun j hj hjz=>?_,fun j blk hj he=>?_,_,by rw[gn,if_pos rfl],rfl⟩
  ·rcases List.mem_cons.1 hx with rfl|hx
   ·exact ⟨.inl h4,hbn,_,by rw[gn,if_neg (by omega),if_pos rfl],rfl⟩
   ·obtain ⟨a1,a2,b',a3,a4⟩:=h5 x hx
    exact ⟨.inl a1,by omega,b',by rw[gn,if_neg (by omega),if_neg (by omega)];exact a3,a4⟩
  ·rw[gn,if_neg (by omega),if_neg (fun e=>hjz (by rw[e];exact h4))]
  ·have:=q0a.lt_of_get hj
   rw[gn,if_neg (by omega),if_neg (fun e=>by subst e;rw[h3] at hj;injection hj with hj;subst hj;exact he rfl)]
   exact hj
theorem Gr.store {Z:Nat→Prop} {H:q0a} {el:TypeId} {n k:Nat} {v u:Value} {cs:List Value} (h:Gr Z H el 1 v n cs) (hk:k<n) (hc:u.cells.toList=[u]) (hu:one u=true) :
  ∃b ver anc,v=.slice (some ⟨b,0,none⟩) n (n+1)∧H.get b=some ⟨cs,el,.tip,ver,anc⟩∧Z b∧∃H',q0u (some ⟨cs,el,.tip,ver,anc⟩) b k u 1 H=some (.tuple ⟨[]⟩,H')∧Gr Z H' el 1 v n (cs.set k u)∧H'.n=H.n∧(∀j,¬Z j→H'.get j=H.get j)∧(∀j blk,H.get j=some blk→blk.elem≠el→H'.get j=some blk):=by
 obtain ⟨h0,⟨_,h1⟩|⟨b,ver,anc,rfl,h2,h3,h4,h5⟩⟩:=h
 ·omega
 have hcl:cs.length=n:=by rw[h0,Nat.mul_one]
 have hbn:b∉anc:=fun hm=>Nat.lt_irrefl _ (h5 b hm).2.1
 have hgk:(killAll H anc).get b=some ⟨cs,el,.tip,ver,anc⟩:=by rw[q0v _ _ _ hbn];exact h3
 have hs:=q0x (H:=H) (cells:=cs) (el:=el) (ver:=ver) (anc:=anc) (i:=b) (o:=k) (n:=1) (v:=u) (by rw[hc];rfl) (by rw[hc];simp[hu]) (by omega)
 have e:cs.take k++u.cells.toList++cs.drop (k+1)=cs.set k u:=by
  rw[hc,List.set_eq_take_append_cons_drop,if_pos (by omega),List.append_assoc]
  rfl
 rw[e] at hs
 have g:∀j,((killAll H anc).upd b ⟨cs.set k u,el,.tip,ver+1,[]⟩).get j=if j=b then some ⟨cs.set k u,el,.tip,ver+1,[]⟩ else (killAll H anc).get j:=fun j=>q0a.get_upd hgk _ _
 refine ⟨b,ver,anc,rfl,h3,h4,_,hs,⟨by rw[List.length_set];exact h0,.inr ⟨b,ver+1,[],rfl,h2,by rw[g,if_pos rfl],h4,fun x hx=>by cases hx⟩⟩,by simp[q1v],fun j hj=>?_,fun j blk hj he=>?_⟩
 ·rw[g,if_neg (fun e=>hj (by rw[e];exact h4)),q0v _ _ _ (fun hm=>hj (h5 j hm).1)]
 ·rw[g,if_neg (fun e=>by subst e;rw[h3] at hj;injection hj with hj;subst hj;exact he rfl),q0v _ _ _ (fun hm=>by
   obtain ⟨_,_,b',a3,a4⟩:=h5 j hm
   rw[hj] at a3
   injection a3 with a3
   subst a3
   exact he a4)]
  exact hj
theorem Gr.one {Z:Nat→Prop} {H:q0a} {el:TypeId} {sz n:Nat} {v:Value} {cs:List Value} (h:Gr Z H el sz v n cs):Lon.one v=true:=by
 obtain ⟨_,⟨rfl,_⟩|⟨b,ver,anc,rfl,_⟩⟩:=h
 ·rfl
 ·rfl
theorem j2Y {H:q0a} {i ver:Nat} {el:TypeId} {x y u:Value} (h1:Lon.one u=true):q0u (some ⟨[x,y],el,.tip,ver,[]⟩) i 0 u 1 H=some (.tuple ⟨[]⟩,H.upd i ⟨[u,y],el,.tip,ver+1,[]⟩):=by
 have hc:u.cells.toList=[u]:=by cases u<;>simp[Lon.one] at h1<;>rfl
 have:=q0x (H:=H) (cells:=[x,y]) (el:=el) (ver:=ver) (anc:=[]) (i:=i) (o:=0) (n:=1) (v:=u) (by rw[hc];rfl) (by rw[hc];simp[h1]) (by simp)
 rw[this,hc]
 rfl
theorem j2Z {H:q0a} {i ver:Nat} {el:TypeId} {x y u:Value} (h1:Lon.one u=true):q0u (some ⟨[x,y],el,.tip,ver,[]⟩) i 1 u 1 H=some (.tuple ⟨[]⟩,H.upd i ⟨[x,u],el,.tip,ver+1,[]⟩):=by
 have hc:u.cells.toList=[u]:=by cases u<;>simp[Lon.one] at h1<;>rfl
 have:=q0x (H:=H) (cells:=[x,y]) (el:=el) (ver:=ver) (anc:=[]) (i:=i) (o:=1) (n:=1) (v:=u) (by rw[hc];rfl) (by rw[hc];simp[h1]) (by simp)
 rw[this,hc]
 rfl
end Go.Proofs.YtleiinhaljdcoaaGreatDoor
