/- What is proved here: what the program's functions come to, as far as the claimed statement asks. Conditions: those that each theorem names, and no others. -/
import Derived.Test.YtleiinhaljdcoaaGreatDoorP7
set_option linter.unusedSimpArgs false
set_option linter.unusedVariables false
namespace Go.Proofs.YtleiinhaljdcoaaGreatDoor
open Go Lon
theorem z1X {H:q0a} {x:Value} {l:List Int} {el:TypeId} (hel:(Tryz.prog.info? el).map (·.size)=some 1) (hx:Ints H x l) (hb:l.length*8≤140737488355328) :
  ∃v' H',q0m (H.push ⟨[],el,.tip,0,[]⟩) (.slice (some ⟨H.n,0,none⟩) 0 1) x el 1 8=some (v',H')∧Ext H H'∧Ints H' v' l∧Cut Tryz.prog H' v' 1:=by
 obtain ⟨v',H',q1,q2,q3⟩:=k7y (el:=el) hx hb
 refine ⟨v',H',q1,q2,q3,?_⟩
 unfold q0m at q1
 obtain ⟨⟨a,c,rfl⟩,hc⟩:=hx.ext (Ext.push H ⟨[],el,.tip,0,[]⟩)
 have h0:cellsOf (H.push ⟨[],el,.tip,0,[]⟩) 1 (.slice (some ⟨H.n,0,none⟩) 0 1)=some []:=by simp[cellsOf]
 simp only[h0,hc] at q1
 split at q1
 ·injection q1 with q1
  injection q1 with q1 q2
  subst q1 q2
  exact Cut.new q0b hel
 ·split at q1
  ·rw[if_neg (by omega),q0b] at q1
   simp only at q1
   rw[if_pos ⟨trivial,trivial⟩,if_neg (by omega)] at q1
   injection q1 with q1
   injection q1 with q1 q2
   subst q1 q2
   have hg:=q0b (H:=killAll (H.push ⟨[],el,.tip,0,[]⟩) [H.n]) (b:=⟨[]++ints l,el,.tip,0,[]⟩)
   rw[q1v] at hg
   exact Cut.new hg hel
  ·cases q1
theorem z1d {a:Value} {l:List Int} {H:q0a} (ha:Ints H a l) (hs:z1W l):q0p (cw Tryz.prog (tabF tab) om1 93 [a] H) fun v H'=>Ext H H'∧Ints H' v l∧Cut Tryz.prog H' v 1:=by
 rw[q0g (F:=q0I) rfl rfl rfl]
 unfold q0I q2j
 obtain ⟨v',H',q1,q2,q3,q4⟩:=z1X (el:=3) (by kernel_rfl) ha hs
 have hb:q0D 3 0 1 [.int .i64 0] [] H=some (.slice (some ⟨H.n,0,none⟩) 0 1,H.push ⟨[],3,.tip,0,[]⟩):=rfl
 have ha':=ha
 obtain ⟨⟨p,c,rfl⟩,hc⟩:=ha
 cases p with
 | none=>
  have h0:l.length=0∧c=0:=by
   unfold cellsOf at hc
   split at hc
   ·rename_i hv;injection hv with _ h1 h2;exact ⟨h1,h2⟩
   ·rename_i hv;injection hv with hv _ _;cases hv
   ·rename_i hv;injection hv with hv _ _;cases hv
   ·cases hc
  obtain ⟨h1,rfl⟩:=h0
  have hn:k2I 1 false (.slice none l.length 0) H=some (.bool true,H):=by rw[h1];rfl
  simp only[WA,Nat.reduceEqDiff,reduceCtorEq,hn]
  refine ⟨Ext.refl _,?_⟩
  have:l=[]:=List.length_eq_zero_iff.1 h1
  subst this
  exact ⟨Sl.nil _ _,trivial⟩
 | some p=>
  obtain ⟨i,o,s⟩:=p
  have hn:k2I 1 false (.slice (some ⟨i,o,s⟩) l.length c) H=some (.bool false,H):=by
   cases s with
   | none=>rfl
   | some s=>
    unfold cellsOf at hc
    split at hc
    ·rename_i hv;injection hv with hv _ _;cases hv
    ·rename_i hv;injection hv with hv _ _;cases hv
    ·rename_i hv
     injection hv with _ h1 h2
     rw[h1,h2]
     rfl
    ·cases hc
  simp only[WA,Nat.reduceEqDiff,reduceCtorEq,hn,hb,q1]
  exact ⟨q2,q3,q4⟩
theorem z9E {a:Value} {L:List Rl} {B:Nat} (hL:z4j L):∀(k i:Nat) (H:q0a) (out:Value) (T:List Rl),i+k=L.length→q2g H a L→q1f H 127 out T→CutR H out→CutR H a→T.length≤i→From B out→B≤H.n →
  Out (run Tryz.prog (tabF tab) om1 (.loop [3,6,7,8] q5t) [(3,out),(6,a),(7,.int .i64 L.length),(8,.int .i64 i)] H) fun y e' H'=>y=.exit 0∧q1f H' 127 (eget e' 3) (trn (L.drop i) T)∧CutR H' (eget e' 3)∧B≤H'.n∧(∀j,j<B→H'.get j=H.get j)∧(trn (L.drop i) T).length≤L.length:=by
 intro k
 induction k with
 | zero=>
  intro i H out T hi ha ho hoc hac hT hf hB
  have hlt:¬((i:Int)<L.length):=by omega
  rw[q0d q5t.eq_1,List.drop_of_length_le (by omega)]
  simp only[WA,Nat.reduceEqDiff,hlt,trn]
  exact ⟨ho,hoc,hB,fun _ _=>trivial,by omega⟩
 | succ k ih=>
  intro i H out T hi ha ho hoc hac hT hf hB
  have hL1:=hL.1
  have hlt:(i:Int)<L.length:=by omega
  obtain ⟨r,hr,hdr⟩:=q0z (L:=L) (i:=i) (by omega)
  obtain ⟨s1,s2⟩:=hL.2 r (List.mem_of_getElem? hr)
  obtain ⟨i1,o1,vi,vo,h1,h2,h3,h4,h5,h6,h7,h8⟩:=ha.at hr
  have h5':=h5
  have h6':=h6
  obtain ⟨⟨ai,ci,rfl⟩,_⟩:=h5'
  obtain ⟨⟨ao,co,rfl⟩,_⟩:=h6'
  have hx1:=Ext.push H ⟨[.slice ai r.1.length ci,.slice ao r.2.length co],127,.tip,1,[]⟩
  have hw2:IntKind.i64.wrap ((i:Int)+1)=((i+1:Nat):Int):=by rw[q0k (by omega) (by omega)];omega
  obtain ⟨v,H2,c1,c2,rfl⟩:=z3X ((ho.ext hx1).rules (by omega)) (h6.ext hx1)
  have hx2:=hx1.trans c2
  have g2:H2.get H.n=some ⟨[.slice ai r.1.length ci,.slice ao r.2.length co],127,.tip,1,[]⟩:=c2.get q0b
  rw[q0d q5t.eq_1,hdr]
  unfold trn
  by_cases hfn:fnd T r.2<0
  ·rw[if_pos hfn]
   obtain ⟨v3,H3,d1,d2,d3,d4⟩:=z1d (h6.ext hx2) s2
   obtain ⟨v4,H4,e1,e2,e3,e4⟩:=z1d ((h5.ext hx2).ext d2) s1
   have d3':=d3
   have e3':=e3
   obtain ⟨⟨p3,q3,rfl⟩,_⟩:=d3'
   obtain ⟨⟨p4,q4,rfl⟩,_⟩:=e3'
   have hx4:=(hx2.trans d2).trans e2
   have hx5:=Ext.push H4 ⟨[.slice p3 r.2.length q3,.slice p4 r.1.length q4],127,.tip,0,[]⟩
   obtain ⟨v',H6,m1,m2,m3,m4,m5,m6,m7,m8⟩:=q1f.appendC (el:=127) (bytes:=48) (r:=(r.2,r.1)) (ho.ext (hx4.trans hx5)) (hoc.ext (hx4.trans hx5))
    (Sl.new (n:=1) (c:=2) (q0b (H:=H4) (b:=⟨[.slice p3 r.2.length q3,.slice p4 r.1.length q4],127,.tip,0,[]⟩)) q0n rfl)
    ((d3.ext e2).ext hx5) (e3.ext hx5) h8 h7 ((d4.ext e2).ext hx5) (e4.ext hx5) (by omega)
   have hn4:H.n+1≤H4.n:=by have:=hx4.1;have:=(Ext.trans c2 (d2.trans e2)).1;simp at this;omega
   have hnot:q0i out H.n:=by
    obtain ⟨cs,⟨_,ho1⟩,_⟩:=ho
    rcases ho1 with ⟨rfl,_⟩|⟨b,ver,anc,rfl,_,hg⟩
    ·trivial
    ·have:=q0a.lt_of_get hg
     show b≠H.n
     omega
   have g6:H6.get H.n=some ⟨[.slice ai r.1.length ci,.slice ao r.2.length co],127,.tip,1,[]⟩:=by
    rw[m6 H.n (by simp;omega) hnot,hx5.2 H.n (by omega)]
    exact e2.get (d2.get g2)
   have g7:H6.get H4.n=some ⟨[.slice p3 r.2.length q3,.slice p4 r.1.length q4],127,.tip,0,[]⟩:=by
    have hnot4:q0i out H4.n:=by
     obtain ⟨cs,hown,_⟩:=ho
     exact hown.notAt (by omega)
    rw[m6 H4.n (by simp) hnot4]
    exact q0b
   have hold:∀j,j<B→H6.get j=H.get j:=fun j hj=>by
    rw[m6 j (by simp;omega) (q0i.of_from hf hj),hx5.2 j (by omega),hx4.2 j (by omega)]
   obtain ⟨y,e',H',r1,r2,r3,r33,r4,r5,r6⟩:=ih (i+1) H6 v' (T++[(r.2,r.1)]) (by omega) (((ha.ext hx4).ext hx5).keeps m4) m2 m7 (((hac.ext hx4).ext hx5).go m4 m8) (by simp;omega) (m3.mono (by simp;omega)) (by simp at m5;omega)
   have hr1':q0D 127 1 2 [.slice none 0 0,.slice none 0 0] [(0,2,.agg ⟨[.slice p3 r.2.length q3,.slice p4 r.1.length q4]⟩)] H4=some (.slice (some ⟨H4.n,0,none⟩) 1 2,H4.push ⟨[.slice p3 r.2.length q3,.slice p4 r.1.length q4],127,.tip,0,[]⟩):=z3H
   simp only[WA,q0M,q1b,isK,q1w,q1y,Nat.reduceEqDiff,Nat.reduceAdd,hlt,h1,h4,c1,hfn,g2,d1,e1,z7U,hr1',m1,g6,hw2]
   rw[q0e]
   simp only[WA,Nat.reduceEqDiff,r1]
   exact ⟨r2,r3,r33,r4,fun j hj=>by rw[r5 j hj,hold j hj],r6⟩
  ·rw[if_neg hfn]
   obtain ⟨y,e',H',r1,r2,r3,r33,r4,r5,r6⟩:=ih (i+1) H2 out T (by omega) (ha.ext hx2) (ho.ext hx2) (hoc.ext hx2) (hac.ext hx2) (by omega) hf (by have:=hx2.1;omega)
   simp only[WA,Nat.reduceEqDiff,Nat.reduceAdd,hlt,h1,h4,c1,hfn,hw2]
   rw[q0e]
   simp only[WA,Nat.reduceEqDiff,r1]
   exact ⟨r2,r3,r33,r4,fun j hj=>by rw[r5 j hj,hx2.2 j (by omega)],r6⟩
theorem z9F {a:Value} {L:List Rl} {H:q0a} (hL:z4j L) (ha:q2g H a L) (hac:CutR H a):q0p (cw Tryz.prog (tabF tab) om1 66 [a] H) fun v H'=>Ext H H'∧q1f H' 127 v (trn L [])∧CutR H' v∧(trn L []).length≤L.length:=by
 rw[q0g (F:=q7c) rfl rfl rfl]
 unfold q7c k2d
 obtain ⟨y,e',H',r1,rfl,r3,r33,r4,r5,r6⟩:=z9E (B:=H.n) hL L.length 0 H (.slice none 0 0) [] (by omega) ha (q1f.nil _ _) (CutR.nil H) hac (Nat.le_refl _) trivial (Nat.le_refl _)
 simp only[Int.cast_ofNat_Int] at r1
 simp only[WA,Nat.reduceEqDiff,reduceCtorEq,ha.len]
 rw[q0e]
 simp only[WA,Nat.reduceEqDiff,reduceCtorEq,r1]
 rw[List.drop_zero] at r3 r6
 exact ⟨⟨r4,r5⟩,r3,r33,r6⟩
theorem k9b:∀{L T:List Rl} {r:Rl},r∈trn L T→r∈T∨(r.2,r.1)∈L
 | [],T,r,h=>.inl h
 | a::L,T,r,h=>by
  unfold trn at h
  split at h
  ·rcases k9b h with h|h
   ·rcases List.mem_append.1 h with h|h
    ·exact .inl h
    ·simp at h
     subst h
     exact .inr (List.mem_cons_self ..)
   ·exact .inr (List.mem_cons_of_mem _ h)
  ·rcases k9b h with h|h
   ·exact .inl h
   ·exact .inr (List.mem_cons_of_mem _ h)
def Good (T:List Rl):Prop:=(∀r∈T,q6J r.1=true∧q6J r.2=true)∧∀k r,T[k]?=some r→fnd (T.take k) r.1<0
theorem Good.nil:Good []:=⟨(fun r h=>by cases h),(fun k r h=>by simp at h)⟩
theorem Good.snoc {T:List Rl} {r:Rl} (h:Good T) (h1:q6J r.1=true) (h2:q6J r.2=true) (h3:fnd T r.1<0):Good (T++[r]):=by
 refine ⟨fun x hx=>?_,fun k x hx=>?_⟩
 ·rcases List.mem_append.1 hx with hx|hx
  ·exact h.1 x hx
  ·simp at hx;subst hx;exact ⟨h1,h2⟩
 ·rcases Nat.lt_or_ge k T.length with hk|hk
  ·rw[List.getElem?_append_left hk] at hx
   rw[List.take_append_of_le_length (by omega)]
   exact h.2 k x hx
  ·have hk0:k=T.length:=by
    have:=(List.getElem?_eq_some_iff.1 hx).1
    simp at this
    omega
   subst hk0
   simp at hx
   subst hx
   rw[List.take_left]
   exact h3
theorem k5M:∀{L T:List Rl},(∀r∈L,q6J r.1=true∧q6J r.2=true)→Good T→Good (trn L T)
 | [],T,_,h=>h
 | r::L,T,hL,h=>by
  unfold trn
  have hr:=hL r (List.mem_cons_self ..)
  split
  ·rename_i hc
   exact k5M (fun x hx=>hL x (List.mem_cons_of_mem _ hx)) (h.snoc hr.2 hr.1 hc)
  ·exact k5M (fun x hx=>hL x (List.mem_cons_of_mem _ hx)) h
end Go.Proofs.YtleiinhaljdcoaaGreatDoor
namespace Go.Proofs.YtleiinhaljdcoaaGreatDoor
open Go Lon
set_option maxRecDepth 100000
def z1Y (l:List Int):Int:=(l[l.length-1]?).getD 0
def udx (u:Int):List Rl→Nat→Option Nat
 | [],_=>none
 | r::L,i=>if z1Y r.1=u then some i else udx u L (i+1)
def usd (L:List Rl) (u:Int):Bool:=(udx u L 0).isSome
theorem j1Q {H:q0a} {t:Nat}:k2I 0 false (.pointer (some ⟨t,0,none⟩)) H=some (.bool false,H):=rfl
theorem z9G {H:q0a} {v:Value} {l:List Int} (h:Ints H v l) (h0:0<l.length):∃i o,(∀(kd:IntKind) (H2:q0a),q2E v (.int kd ((l.length-1:Nat):Int)) 1 H2=some (.pointer (some ⟨i,o,none⟩),H2))∧q0l (H.get i) o none H=some (.int .i64 (z1Y l),H):=by
 have hl:l[l.length-1]?=some (z1Y l):=by unfold z1Y;rw[List.getElem?_eq_getElem (show l.length-1<l.length by omega)];rfl
 exact h.at hl
theorem z9H {ai ao:Option Addr} {ci no co q:Nat} {u:Int} {li:List Int} {H:q0a} (hi:Ints H (.slice ai li.length ci) li) (h0:0<li.length) (hs:tiny li) (hq:H.get q=some ⟨[.int .i64 u],3,.tip,0,[]⟩) :
  q0p (cw Tryz.prog (tabF tab) om1 118 [.agg ⟨[.slice ai li.length ci,.slice ao no co]⟩,.pointer (some ⟨q,0,none⟩)] H) fun v H'=>Ext H H'∧v=.bool (decide (z1Y li=u)):=by
 rw[q0g (F:=q4M) rfl rfl rfl]
 unfold q4M q8Q
 have hx1:=Ext.push H ⟨[.slice ai li.length ci,.slice ao no co],127,.tip,0,[]⟩
 have hbx:vBox (.agg ⟨[.slice ai li.length ci,.slice ao no co]⟩) 127 H=some (.pointer (some ⟨H.n,0,none⟩),H.push ⟨[.slice ai li.length ci,.slice ao no co],127,.tip,0,[]⟩):=q8H rfl
 obtain ⟨H1,hH1⟩:∃H1,H1=H.push ⟨[.slice ai li.length ci,.slice ao no co],127,.tip,0,[]⟩:=⟨_,rfl⟩
 have g1:H1.get H.n=some ⟨[.slice ai li.length ci,.slice ao no co],127,.tip,0,[]⟩:=by rw[hH1];exact q0b
 rw[←hH1] at hx1 hbx
 have hq2:=hx1.get hq
 obtain ⟨i1,o1,a1,a2⟩:=z9G (hi.ext hx1) h0
 have hl:∀H2:q0a,vLen false (.slice ai li.length ci) H2=some (.int .i64 li.length,H2):=fun H2=>Sl.len hi
 unfold Lon.tiny at hs
 have hw:IntKind.i64.wrap ((li.length:Int)-1)=((li.length-1:Nat):Int):=by rw[q0k (by omega) (by omega)];omega
 simp only[WA,q0M,q1b,q1w,q1y,Nat.reduceEqDiff,reduceCtorEq,hbx,g1,hq2,hl,hw,a1,a2]
 exact hx1
theorem j1R {a:Value} {q:Nat} {L:List Rl} {u:Int} (h0:∀r∈L,0<r.1.length):∀(k i:Nat) (H:q0a),i+k=L.length→q2g H a L→H.get q=some ⟨[.int .i64 u],3,.tip,0,[]⟩ →
  Out (run Tryz.prog (tabF tab) om1 (.loop [0,1,7,8] q2H) [(0,a),(1,.func (.func 118) ⟨[]⟩ ⟨[.pointer (some ⟨q,0,none⟩)]⟩),(7,.int .i64 L.length),(8,.int .i64 i)] H) fun y e' H'=>Ext H H' ∧
   match udx u (L.drop i) i with|some j=>y=.ret∧eget e' 4=.int .i64 j|none=>y=.exit 0:=by
 intro k
 induction k with
 | zero=>
  intro i H hi ha hq
  have hlt:¬((i:Int)<L.length):=by omega
  rw[q0d q2H.eq_1,List.drop_of_length_le (by omega)]
  simp only[WA,Nat.reduceEqDiff,reduceCtorEq,hlt,udx]
  exact Ext.refl _
 | succ k ih=>
  intro i H hi ha hq
  have hL:=ha.1
  have hlt:(i:Int)<L.length:=by omega
  obtain ⟨r,hr,hdr⟩:=q0z (L:=L) (i:=i) (by omega)
  obtain ⟨i1,o1,vi,vo,h1,h2,h3,h4,h5,h6,h7,h8⟩:=ha.at hr
  have h5':=h5
  have h6':=h6
  obtain ⟨⟨ai,ci,rfl⟩,_⟩:=h5'
  obtain ⟨⟨ao,co,rfl⟩,_⟩:=h6'
  obtain ⟨v,H1,c1,c2,rfl⟩:=z9H (ao:=ao) (no:=r.2.length) (co:=co) h5 (h0 r (List.mem_of_getElem? hr)) h7 hq
  have hw2:IntKind.i64.wrap ((i:Int)+1)=((i+1:Nat):Int):=by rw[q0k (by omega) (by omega)];omega
  rw[q0d q2H.eq_1,hdr]
  unfold udx
  by_cases he:z1Y r.1=u
  ·simp only[he] at c1
   simp only[WA,Nat.reduceEqDiff,reduceCtorEq,hlt,h1,h4,k5D,c1,he]
   exact c2
  ·obtain ⟨z,e',H',r1,r2,r3⟩:=ih (i+1) H1 (by omega) (ha.ext c2) (c2.get hq)
   simp only[he] at c1
   simp only[WA,Nat.reduceEqDiff,reduceCtorEq,hlt,h1,h4,k5D,c1,he,hw2]
   rw[q0e]
   simp only[WA,Nat.reduceEqDiff,reduceCtorEq,r1]
   exact ⟨c2.trans r2,r3⟩
theorem j1S {a:Value} {L:List Rl} {u:Int} {H:q0a} (ha:q2g H a L) (h0:∀r∈L,0<r.1.length):q0p (cw Tryz.prog (tabF tab) om1 92 [a,.int .i64 u] H) fun v H'=>Ext H H'∧v=.bool (usd L u):=by
 rw[q0g (F:=q6b) rfl rfl rfl]
 unfold q6b k0U
 have hbx:vBox (.int .i64 u) 3 H=some (.pointer (some ⟨H.n,0,none⟩),H.push ⟨[.int .i64 u],3,.tip,0,[]⟩):=q8H rfl
 have hx1:=Ext.push H ⟨[.int .i64 u],3,.tip,0,[]⟩
 have inner:q0p (cw Tryz.prog (tabF tab) om1 114 [a,.func (.func 118) ⟨[]⟩ ⟨[.pointer (some ⟨H.n,0,none⟩)]⟩] (H.push ⟨[.int .i64 u],3,.tip,0,[]⟩)) fun v H'=>Ext (H.push ⟨[.int .i64 u],3,.tip,0,[]⟩) H'∧v=.int .i64 (match udx u L 0 with|some j=>(j:Int)|none=>-1):=by
  rw[q0g (F:=q4y) rfl rfl rfl]
  unfold q4y q9b
  obtain ⟨y,e',H',r1,r2,r3⟩:=j1R h0 L.length 0 _ (by omega) (ha.ext hx1) q0b
  simp only[Int.cast_ofNat_Int] at r1
  simp only[WA,Nat.reduceEqDiff,reduceCtorEq,ha.len]
  rw[q0e]
  simp only[WA,Nat.reduceEqDiff,reduceCtorEq,r1]
  rw[List.drop_zero] at r3
  cases hf:udx u L 0 with
  | none=>
   rw[hf] at r3
   subst r3
   simp only[WA]
   exact r2
  | some j=>
   rw[hf] at r3
   obtain ⟨rfl,r4⟩:=r3
   simp only[WA,r4]
   exact r2
 obtain ⟨v,H',c1,c2,rfl⟩:=inner
 have mid:q0p (cw Tryz.prog (tabF tab) om1 117 [a,.func (.func 118) ⟨[]⟩ ⟨[.pointer (some ⟨H.n,0,none⟩)]⟩] (H.push ⟨[.int .i64 u],3,.tip,0,[]⟩)) fun v H'=>Ext (H.push ⟨[.int .i64 u],3,.tip,0,[]⟩) H'∧v=.bool (usd L u):=by
  rw[q0g (F:=q8q) rfl rfl rfl]
  unfold q8q k4e usd
  cases hb:udx u L 0 with
  | none=>
   rw[hb] at c1
   have h0:¬(-1:Int)≥0:=by decide
   simp only[WA,Nat.reduceEqDiff,reduceCtorEq,c1,h0,Option.isSome_none]
   exact c2
  | some j=>
   rw[hb] at c1
   have h0:(j:Int)≥0:=by omega
   simp only[WA,Nat.reduceEqDiff,reduceCtorEq,c1,h0,Option.isSome_some]
   exact c2
 obtain ⟨v,H2,c3,c4,rfl⟩:=mid
 simp only[WA,Nat.reduceEqDiff,reduceCtorEq,hbx,c3]
 exact hx1.trans c4
def badN (L:List Rl) (r:List Int) (n:Nat):Bool:=decide (fnd L (r.take n)<0)&&(decide (1<n)||usd L (r.getD 0 0))
def z4k (L:List Rl) (r:List Int):Nat→Bool
 | 0=>true
 | n+1=>if badN L r (n+1)=true then false else z4k L r n
def clsF (L:List Rl):List Rl→Bool
 | []=>true
 | r::R=>if z4k L r.1 (r.1.length-1)=true then clsF L R else false
theorem j1T {a:Value} {L:List Rl} {q:Nat} {ai ao:Option Addr} {ci no co:Nat} {r:List Int} {z6 z7 z8:Value} (h0:∀r∈L,0<r.1.length) (hr0:0<r.length) (hrt:tiny r):∀(n:Nat) (H:q0a),n<r.length→q2g H a L→H.get q=some ⟨[.slice ai r.length ci,.slice ao no co],127,.tip,1,[]⟩→Ints H (.slice ai r.length ci) r→Cut Tryz.prog H (.slice ai r.length ci) 1 →
  Out (run Tryz.prog (tabF tab) om1 (.loop [0,4,5,6,7,8] q3y) [(0,a),(4,.pointer (some ⟨q,0,none⟩)),(5,.int .i64 n),(6,z6),(7,z7),(8,z8)] H) fun y e' H'=>Ext H H'∧if z4k L r n=true then y=.exit 2∧eget e' 0=a∧eget e' 6=z6∧eget e' 7=z7∧eget e' 8=z8 else y=.ret∧eget e' 2=.bool false:=by
 intro n
 induction n with
 | zero=>
  intro H hn ha hq hI hC
  have z:((0:Int)>0)=False:=by simp
  rw[q0d q3y.eq_1]
  simp only[WA,Nat.reduceEqDiff,reduceCtorEq,Int.cast_ofNat_Int,z,z4k]
  exact Ext.refl _
 | succ n ih=>
  intro H hn ha hq hI hC
  unfold Lon.tiny at hrt
  have z:(((n+1:Nat):Int)>0)=True:=by simp only[eq_iff_iff,iff_true];omega
  obtain ⟨v',s1,s2,s3⟩:=hI.take hC (show n+1≤r.length by omega)
  have s1':=s1 .i64
  obtain ⟨v,H1,c1,x1,rfl⟩:=z3X ha s2
  have hw:IntKind.i64.wrap (((n+1:Nat):Int)-1)=(n:Int):=by rw[q0k (by omega) (by omega)];omega
  obtain ⟨u0,hu0⟩:∃u,r[0]?=some u:=⟨_,List.getElem?_eq_getElem hr0⟩
  obtain ⟨i1,o1,a1,a2⟩:=(hI.ext x1).at hu0
  have a1':=a1 .i64
  simp only[Int.cast_ofNat_Int] at a1'
  have hgd:r.getD 0 0=u0:=by rw[List.getD_eq_getElem?_getD,hu0];rfl
  obtain ⟨v2,H2,c2,x2,rfl⟩:=j1S (u:=u0) (ha.ext x1) h0
  have hq1:=x1.get hq
  rw[q0d q3y.eq_1]
  unfold z4k badN
  rw[hgd]
  by_cases f1:fnd L (r.take (n+1))<0
  ·by_cases f2:((n+1:Nat):Int)>1
   ·have f2':1<n+1:=by omega
    simp only[WA,Nat.reduceEqDiff,reduceCtorEq,hq,z,s1',c1,f1,f2,f2',Bool.true_or]
    exact x1
   ·have f2':¬1<n+1:=by omega
    cases f3:usd L u0 with
    | true=>
     rw[f3] at c2
     simp only[WA,Nat.reduceEqDiff,reduceCtorEq,hq,z,s1',c1,f1,f2,f2',hq1,a1',a2,c2,Bool.or_true]
     exact x1.trans x2
    | false=>
     rw[f3] at c2
     obtain ⟨y,e',H',r1,r2,r3⟩:=ih H2 (by omega) (ha.ext (x1.trans x2)) ((x1.trans x2).get hq) (hI.ext (x1.trans x2)) (hC.ext (x1.trans x2))
     simp only[WA,Nat.reduceEqDiff,reduceCtorEq,hq,z,s1',c1,f1,f2,f2',hq1,a1',a2,c2,Bool.or_self,Bool.and_false,Bool.false_eq_true,hw]
     rw[q0e]
     simp only[WA,Nat.reduceEqDiff,reduceCtorEq,r1]
     exact ⟨(x1.trans x2).trans r2,r3⟩
  ·obtain ⟨y,e',H',r1,r2,r3⟩:=ih H1 (by omega) (ha.ext x1) hq1 (hI.ext x1) (hC.ext x1)
   simp only[WA,Nat.reduceEqDiff,reduceCtorEq,hq,z,s1',c1,f1,Bool.false_and,Bool.false_eq_true,hw]
   rw[q0e]
   simp only[WA,Nat.reduceEqDiff,reduceCtorEq,r1]
   exact ⟨x1.trans r2,r3⟩
theorem z6f {a:Value} {L:List Rl} (h0:∀r∈L,0<r.1.length):∀(k i:Nat) (H:q0a),i+k=L.length→q2g H a L→CutR H a →
  Out (run Tryz.prog (tabF tab) om1 (.loop [0,6,7,8] q3z) [(0,a),(6,a),(7,.int .i64 L.length),(8,.int .i64 i)] H) fun y e' H'=>Ext H H'∧if clsF L (L.drop i)=true then y=.exit 0 else y=.ret∧eget e' 2=.bool false:=by
 intro k
 induction k with
 | zero=>
  intro i H hi ha hac
  have hlt:¬((i:Int)<L.length):=by omega
  rw[q0d q3z.eq_1,List.drop_of_length_le (by omega)]
  simp only[WA,Nat.reduceEqDiff,reduceCtorEq,hlt,clsF]
  exact Ext.refl _
 | succ k ih=>
  intro i H hi ha hac
  have hL:=ha.1
  have hlt:(i:Int)<L.length:=by omega
  obtain ⟨r,hr,hdr⟩:=q0z (L:=L) (i:=i) (by omega)
  obtain ⟨i1,o1,vi,vo,h1,h2,h3,h4,h5,h6,h7,h8,h9,h10⟩:=q2g.atC ha hac hr
  have h5':=h5
  have h6':=h6
  obtain ⟨⟨ai,ci,rfl⟩,_⟩:=h5'
  obtain ⟨⟨ao,co,rfl⟩,_⟩:=h6'
  have hr0:=h0 r (List.mem_of_getElem? hr)
  have hx1:=Ext.push H ⟨[.slice ai r.1.length ci,.slice ao r.2.length co],127,.tip,1,[]⟩
  obtain ⟨H1,hH1⟩:∃H1,H1=H.push ⟨[.slice ai r.1.length ci,.slice ao r.2.length co],127,.tip,1,[]⟩:=⟨_,rfl⟩
  have g1:H1.get H.n=some ⟨[.slice ai r.1.length ci,.slice ao r.2.length co],127,.tip,1,[]⟩:=by rw[hH1];exact q0b
  rw[←hH1] at hx1
  have hlr:∀H2:q0a,vLen false (.slice ai r.1.length ci) H2=some (.int .i64 r.1.length,H2):=fun H2=>Sl.len h5
  have h7':=h7
  unfold Lon.tiny at h7'
  have hw:IntKind.i64.wrap ((r.1.length:Int)-1)=((r.1.length-1:Nat):Int):=by rw[q0k (by omega) (by omega)];omega
  have hw2:IntKind.i64.wrap ((i:Int)+1)=((i+1:Nat):Int):=by rw[q0k (by omega) (by omega)];omega
  obtain ⟨y,e',H2,r1,x2,r3⟩:=j1T (a:=a) (L:=L) (z6:=a) (z7:=.int .i64 L.length) (z8:=.int .i64 i) h0 hr0 h7 (r.1.length-1) H1 (by omega) (ha.ext hx1) g1 (h5.ext hx1) (h9.ext hx1)
  rw[q0d q3z.eq_1,hdr]
  unfold clsF
  split at r3
  ·rename_i hc
   obtain ⟨rfl,q1,q2,q3,q4⟩:=r3
   obtain ⟨y,e2,H3,t1,t2,t3⟩:=ih (i+1) H2 (by omega) (ha.ext (hx1.trans x2)) (hac.ext (hx1.trans x2))
   rw[if_pos hc]
   simp only[WA,Nat.reduceEqDiff,Nat.reduceAdd,reduceCtorEq,hlt,h1,h4,←hH1,g1,hlr,hw]
   rw[q0e]
   simp only[WA,Nat.reduceEqDiff,reduceCtorEq,r1,q4,hw2]
   rw[q0e]
   simp only[WA,Nat.reduceEqDiff,reduceCtorEq,q1,q2,q3,q4,t1]
   exact ⟨(hx1.trans x2).trans t2,t3⟩
  ·rename_i hc
   obtain ⟨rfl,q1⟩:=r3
   rw[if_neg hc]
   simp only[WA,Nat.reduceEqDiff,Nat.reduceAdd,reduceCtorEq,hlt,h1,h4,←hH1,g1,hlr,hw]
   rw[q0e]
   simp only[WA,Nat.reduceEqDiff,reduceCtorEq,r1,q1]
   exact hx1.trans x2
theorem z6g {a:Value} {L:List Rl} {H:q0a} (ha:q2g H a L) (hac:CutR H a) (h0:∀r∈L,0<r.1.length):q0p (cw Tryz.prog (tabF tab) om1 65 [a] H) fun v H'=>Ext H H'∧v=.bool (clsF L L):=by
 rw[q0g (F:=q4J) rfl rfl rfl]
 unfold q4J q8M
 obtain ⟨y,e',H',r1,x1,r3⟩:=z6f h0 L.length 0 H (by omega) ha hac
 rw[List.drop_zero] at r3
 simp only[Int.cast_ofNat_Int] at r1
 simp only[WA,Nat.reduceEqDiff,reduceCtorEq,ha.len]
 rw[q0e]
 split at r3
 ·rename_i hc
  subst r3
  simp only[WA,Nat.reduceEqDiff,reduceCtorEq,r1,hc]
  exact x1
 ·rename_i hc
  obtain ⟨rfl,q1⟩:=r3
  simp only[WA,Nat.reduceEqDiff,reduceCtorEq,r1,q1,hc]
  exact x1
structure q1K (H:q0a) (q:Nat) (L:List Rl):Prop where
 rest:∃ver t1 t2,H.get q=some ⟨[.int .i64 (lg L 0),.int .i64 (lg (trn L []) 0),.pointer (some ⟨t1,0,none⟩),.pointer (some ⟨t2,0,none⟩)],107,.tip,ver,[]⟩∧q3O H t1 L∧q3O H t2 (trn L [])
theorem q1K.ext {H H':q0a} (hx:Ext H H') {q:Nat} {L:List Rl} (h:q1K H q L):q1K H' q L:=by
 obtain ⟨ver,t1,t2,h1,h2,h3⟩:=h.rest
 exact ⟨ver,t1,t2,hx.get h1,h2.ext hx,h3.ext hx⟩
theorem q1K.keep {H H':q0a} (hk:KT H H') (ht:∀j blk,H.get j=some blk→blk.elem=107→H'.get j=some blk) {q:Nat} {L:List Rl} (h:q1K H q L):q1K H' q L:=by
 obtain ⟨ver,t1,t2,h1,h2,h3⟩:=h.rest
 exact ⟨ver,t1,t2,ht _ _ h1 rfl,h2.keep hk,h3.keep hk⟩
theorem k9c {L:List Rl} (hR:q1a L) (hL:L.length≤512):z4j L:=⟨by omega,fun r hr=>by
 obtain ⟨h1,h2⟩:=hR.1 r hr
 have:=q4Q h1
 have:=q4Q h2
 unfold z1W
 omega⟩
theorem q6K {L:List Rl} (hR:q1a L):q1a (trn L []):=k5M (fun r hr=>hR.1 r hr) Good.nil
theorem z4l {L:List Rl} (hR:q1a L):∀r∈L,0<r.1.length:=fun r hr=>(q4Q (hR.1 r hr).1).1
theorem z9I {H:q0a} {a b:Int} {t:Nat}:q2l [.int .i64 0,.int .i64 0,.pointer none,.pointer none] [(0,1,.int .i64 a),(1,1,.int .i64 b),(2,1,.pointer (some ⟨t,0,none⟩))] H=some (.agg ⟨[.int .i64 a,.int .i64 b,.pointer (some ⟨t,0,none⟩),.pointer none]⟩,H):=rfl
theorem TS.upd {B t b i:Nat} {O:List (List Int)} {H:q0a} {vr:Value} {N:List Nd} {x c:ABlk} (h:TS B H t b vr N O) (hg:H.get i=some x) (hi:i<B) (he:x.elem≠3):TS B (H.upd i c) t b vr N O:=by
 have hk:∀j,j≠i→(H.upd i c).get j=H.get j:=fun j hj=>q0j hg hj
 obtain ⟨ver,ht⟩:=h.ht
 obtain ⟨ver2,A,hn,hA⟩:=h.hn
 obtain ⟨cs,⟨hl,hv⟩,ho⟩:=h.hv
 have htB:=h.tB
 have hbB:=h.bB
 refine ⟨h.tB,h.bB,h.ne,h.few,h.pos,⟨ver,by rw[hk t (by omega)];exact ht⟩,⟨ver2,A,by rw[hk b (by omega)];exact hn,fun a ha=>?_⟩,⟨cs,⟨hl,?_⟩,ho.ki fun j blk h1 h2=>?_⟩,h.vB,h.vt,h.vn⟩
 ·obtain ⟨a1,a2,a3,a4,blk,a5,a6⟩:=hA a ha
  exact ⟨a1,a2,a3,a4,blk,by rw[hk a (by omega)];exact a5,a6⟩
 ·rcases hv with hv|⟨q,ver3,anc,rfl,h1,h2⟩
  ·exact .inl hv
  ·have hq:B≤q:=h.vB
   exact .inr ⟨q,ver3,anc,rfl,h1,by rw[hk q (by omega)];exact h2⟩
 ·rw[hk j (fun e=>by subst e;rw[hg] at h1;injection h1 with h1;subst h1;exact he h2)]
  exact h1
theorem j1U {a:Value} {L:List Rl} {H:q0a} (ha:q2g H a L) (hC:Cut Tryz.prog H a 2) (hac:CutR H a) (hR:q1a L) (hL:L.length≤512) (hcl:clsF L L=true):q0p (cw Tryz.prog (tabF tab) om1 40 [a] H) fun v H'=>Ext H H'∧∃q,v=.tuple ⟨[.pointer (some ⟨q,0,none⟩),.int .i64 0]⟩∧q1K H' q L:=by
 rw[q0g (F:=q8m) rfl rfl rfl]
 unfold q8m k3Z
 obtain ⟨v1,H1,c1,x1,t1,rfl,hT1⟩:=c_OfT ha hC hR hL
 obtain ⟨v2,H2,c2,x2,rfl⟩:=z6g (ha.ext x1) (hac.ext x1) (z4l hR)
 rw[hcl] at c2
 have x12:=x1.trans x2
 obtain ⟨v3,H3,c3,x3,o3,k3,l3⟩:=z9F (k9c hR hL) (ha.ext x12) (hac.ext x12)
 have x13:=x12.trans x3
 have r3:=o3.rules (by omega)
 obtain ⟨v4,H4,c4,x4,rfl⟩:=k7J (ha.ext x13)
 obtain ⟨v5,H5,c5,x5,rfl⟩:=k7J (r3.ext x4)
 have x35:=x4.trans x5
 have x25:=x3.trans x35
 obtain ⟨H6,hH6⟩:∃H6,H6=H5.push ⟨[.int .i64 (lg L 0),.int .i64 (lg (trn L []) 0),.pointer (some ⟨t1,0,none⟩),.pointer none],107,.tip,0,[]⟩:=⟨_,rfl⟩
 have x6:Ext H5 H6:=by rw[hH6];exact Ext.push H5 _
 have g6:H6.get H5.n=some ⟨[.int .i64 (lg L 0),.int .i64 (lg (trn L []) 0),.pointer (some ⟨t1,0,none⟩),.pointer none],107,.tip,0,[]⟩:=by rw[hH6];exact q0b
 have hbx:vBox (.agg ⟨[.int .i64 (lg L 0),.int .i64 (lg (trn L []) 0),.pointer (some ⟨t1,0,none⟩),.pointer none]⟩) 107 H5=some (.pointer (some ⟨H5.n,0,none⟩),H6):=by rw[hH6];exact q8H rfl
 have x36:=x35.trans x6
 have hC3:Cut Tryz.prog H3 v3 2:=o3.cut (by kernel_rfl)
 obtain ⟨v7,H7,c7,x7,t2,b2,vr2,N2,rfl,hS2,hF2,hRF2,hρ2⟩:=c_Of (r3.ext x36) (hC3.ext x36) (q6K hR) (by omega)
 have g7:=x7.get g6
 have x17:=((x2.trans x3).trans x36).trans x7
 have x07:=x1.trans x17
 have hlt5:H5.n<H7.n:=q0a.lt_of_get g7
 have z:((0:Int)≠0)=False:=by simp
 have x57:=x6.trans x7
 obtain ⟨H8,hH8⟩:∃H8,H8=H7.upd H5.n ⟨[.int .i64 (lg L 0),.int .i64 (lg (trn L []) 0),.pointer (some ⟨t1,0,none⟩),.pointer (some ⟨t2,0,none⟩)],107,.tip,0+1,[]⟩:=⟨_,rfl⟩
 have hlt6:H5.n<H6.n:=q0a.lt_of_get g6
 have hS8:=hS2.upd (c:=⟨[.int .i64 (lg L 0),.int .i64 (lg (trn L []) 0),.pointer (some ⟨t1,0,none⟩),.pointer (some ⟨t2,0,none⟩)],107,.tip,0+1,[]⟩) g7 hlt6 (by simp only;decide)
 have g8:=q0r (c:=⟨[.int .i64 (lg L 0),.int .i64 (lg (trn L []) 0),.pointer (some ⟨t1,0,none⟩),.pointer (some ⟨t2,0,none⟩)],107,.tip,0+1,[]⟩) g7
 have x58:Ext H5 H8:=by rw[hH8];exact Ext.upd x57 g7 (Nat.le_refl _)
 rw[←hH8] at hS8 g8
 have x18:=(x2.trans x3).trans (x35.trans x58)
 simp only[WA,Nat.reduceEqDiff,Nat.reduceAdd,reduceCtorEq,c1,z,c2,c3,c4,c5,z9I,hbx,c7,g7,←hH8]
 exact ⟨x1.trans x18,_,rfl,_,t1,t2,g8,hT1.ext x18,q6K hR,by omega,_,b2,N2,vr2,hS8,hF2,hRF2,hρ2⟩
theorem z6h {a:Value} {l:List Int} {H:q0a} (ha:Ints H a l) (hs:z1W l) (h0:l≠[]):q0p (cw Tryz.prog (tabF tab) om1 93 [a] H) fun v H'=>Ext H H'∧Own H' 3 1 v l.length (ints l)∧From H.n v:=by
 rw[q0g (F:=q0I) rfl rfl rfl]
 unfold q0I q2j
 obtain ⟨v',H',q1,q2,q3,q4⟩:=z1O (el:=3) ha hs h0
 have hb:q0D 3 0 1 [.int .i64 0] [] H=some (.slice (some ⟨H.n,0,none⟩) 0 1,H.push ⟨[],3,.tip,0,[]⟩):=rfl
 have hpos:=List.length_pos_iff.2 h0
 obtain ⟨i,o,c,cells,el,st,ver,anc,rfl,_⟩:=Sl.form ha (by omega)
 have hn:k2I 1 false (.slice (some ⟨i,o,none⟩) l.length c) H=some (.bool false,H):=rfl
 simp only[WA,Nat.reduceEqDiff,reduceCtorEq,hn,hb,q1]
 exact ⟨q2,q3,q4⟩
def z1e (L:List Rl) (ah us:List Int):Bool:=decide (ah≠[])&&decide (ah.length<(lgs L (ah++us)).2.1)
theorem z9J {q:Nat} {L:List Rl} {a b:Value} {ah us:List Int} {H:q0a} (hT:q1K H q L) (ha:Ints H a ah) (hb:Ints H b us) (h1:ah.length<1000000) (h2:us.length<1000000) :
  q0p (cw Tryz.prog (tabF tab) om1 186 [.pointer (some ⟨q,0,none⟩),a,b] H) fun v H'=>Ext H H'∧v=.bool (z1e L ah us):=by
 rw[q0g (F:=q2u) rfl rfl rfl]
 unfold q2u q5l
 obtain ⟨ver,t1,t2,hq,hT1,hT2⟩:=hT.rest
 have hla:=fun H2=>ha.len (H2:=H2)
 unfold z1e
 by_cases h0:ah=[]
 ·subst h0
  have z:((((([]:List Int).length:Nat)):Int)=0)=True:=by simp
  simp only[WA,Nat.reduceEqDiff,reduceCtorEq,Int.cast_ofNat_Int,hla]
  exact ⟨Ext.refl _,by simp⟩
 ·have hpos:=List.length_pos_iff.2 h0
  have z:((ah.length:Int)=0)=False:=by simp only[eq_iff_iff,iff_false];omega
  obtain ⟨v1,H1,c1,x1,o1,f1⟩:=z6h ha (by unfold z1W;omega) h0
  have app:∃v2 H2,q0m H1 v1 b 3 1 8=some (v2,H2)∧Ints H2 v2 (ah++us)∧Ext H H2:=by
   by_cases hu:us=[]
   ·subst hu
    refine ⟨v1,H1,?_,by rw[List.append_nil];exact o1.sl,x1⟩
    obtain ⟨⟨b1,b2,rfl⟩,hbc⟩:=hb.ext x1
    obtain ⟨⟨d1,d2,rfl⟩,hdc⟩:=o1.sl
    unfold q0m
    simp only[hbc,hdc]
    exact if_pos List.length_nil
   ·obtain ⟨v2,H2,q1,q2,q3,q4,q5,q6⟩:=o1.append2 (bytes:=8) (hb.ext x1) (List.length_pos_iff.2 hu) (q8c us) (by omega)
    refine ⟨v2,H2,q1,?_,Ext.grow x1 q5 q6 f1⟩
    unfold Ints
    rw[List.length_append]
    have:=q2.sl
    simpa[ints] using this
  obtain ⟨v2,H2,m1,i2,x2⟩:=app
  have cL:=z4g (hT1.ext x2) i2 (by unfold Lon.tiny;rw[List.length_append];omega)
  have hq2:=x2.get hq
  by_cases hg:ah.length<(lgs L (ah++us)).2.1
  ·have hg':((lgs L (ah++us)).2.1:Int)>(ah.length:Int):=by omega
   simp only[WA,q0M,q1b,isK,q1w,q1y,Nat.reduceEqDiff,reduceCtorEq,hla,z,hq,c1,m1,cL,hq2,hg']
   exact ⟨x2,by simp[h0,hg]⟩
  ·have hg':¬((lgs L (ah++us)).2.1:Int)>(ah.length:Int):=by omega
   simp only[WA,q0M,q1b,isK,q1w,q1y,Nat.reduceEqDiff,reduceCtorEq,hla,z,hq,c1,m1,cL,hq2,hg']
   exact ⟨x2,by simp[h0,hg]⟩
def joinT (L:List Rl) (ah:List Int) (x:Tok):Tok:=if x.err=0∧z1e L ah x.out=true then ⟨x.at_,x.len,[],3⟩ else x
theorem z9K {q:Nat} {L:List Rl} {a:Value} {ah:List Int} {x:Tok} {p:Option Addr} {c:Nat} {H:q0a} (hT:q1K H q L) (ha:Ints H a ah) (hx:tokQ Tryz.prog H (tokC p c x) x) (h1:ah.length<1000000) (h2:x.out.length<1000000) :
  q0p (cw Tryz.prog (tabF tab) om1 184 [.pointer (some ⟨q,0,none⟩),a,.agg ⟨tokC p c x⟩] H) fun v H'=>Ext H H'∧∃p' c',v=.agg ⟨tokC p' c' (joinT L ah x)⟩∧(∀B,From B (.slice p x.out.length c)→From B (.slice p' (joinT L ah x).out.length c'))∧tokQ Tryz.prog H' (tokC p' c' (joinT L ah x)) (joinT L ah x):=by
 rw[q0g (F:=q2K) rfl rfl rfl]
 unfold q2K q5J
 obtain ⟨H1,hH1⟩:∃H1,H1=H.push ⟨tokC p c x,36,.tip,0,[]⟩:=⟨_,rfl⟩
 have x1:Ext H H1:=by rw[hH1];exact Ext.push H _
 have g1:H1.get H.n=some ⟨tokC p c x,36,.tip,0,[]⟩:=by rw[hH1];exact q0b
 have n1:H1.n=H.n+1:=by rw[hH1];simp
 have hbx:vBox (.agg ⟨tokC p c x⟩) 36 H=some (.pointer (some ⟨H.n,0,none⟩),H1):=by rw[hH1];exact q8H rfl
 obtain ⟨H2,hH2⟩:∃H2,H2=H1.push ⟨[.int .i64 0,.int .i64 0,.slice none 0 0,.int .i64 0],36,.tip,0,[]⟩:=⟨_,rfl⟩
 have x2:Ext H1 H2:=by rw[hH2];exact Ext.push H1 _
 have g2:H2.get H1.n=some ⟨[.int .i64 0,.int .i64 0,.slice none 0 0,.int .i64 0],36,.tip,0,[]⟩:=by rw[hH2];exact q0b
 have x12:=x1.trans x2
 have g12:=x2.get g1
 have hnn:H.n≠H1.n:=by omega
 obtain ⟨p0,c0,e1,e2,e3,e4⟩:=id hx
 have e1':=e1
 unfold tokC at e1'
 injection e1' with _ e1'
 injection e1' with _ e1'
 injection e1' with e1' _
 injection e1' with e1' _ e5
 subst e1' e5
 by_cases h0:x.err=0
 ·have h0':(x.err=0)=True:=eq_true h0
  obtain ⟨v3,H3,c3,x3,rfl⟩:=z9J (hT.ext x12) (ha.ext x12) (e2.ext x12) h1 h2
  have g3:=x3.get g2
  have g13:=x3.get g12
  have x03:=x12.trans x3
  cases hj:z1e L ah x.out with
  | true=>
   rw[hj] at c3
   obtain ⟨u,hu⟩:∃u:Tok,u=⟨x.at_,x.len,[],3⟩:=⟨_,rfl⟩
   have hb:q2l [.int .i64 0,.int .i64 0,.slice none 0 0,.int .i64 0] [(0,1,.int .i64 x.at_),(1,1,.int .i64 x.len),(3,1,.int .i64 3)] H3=some (.agg ⟨tokC none 0 u⟩,H3):=by rw[hu];rfl
   have hs:=q0r (c:=⟨tokC none 0 u,36,.tip,0+1,[]⟩) g3
   have hJ:joinT L ah x=u:=by unfold joinT;rw[if_pos ⟨h0,hj⟩,hu]
   rw[hJ]
   simp only[WA,Nat.reduceEqDiff,reduceCtorEq,hbx,←hH2,g12,tk0,tk1,tk2,tk3,h0',c3,g13,hb,g3,q1F,q2h,q4f,hs,k1e]
   exact ⟨Ext.upd x03 g3 (by omega),none,0,rfl,fun _ _=>trivial,none,0,by rw[hu];rfl,by rw[hu];exact Sl.nil _ 1,by rw[hu];exact (by decide:(0:Nat)<4611686018427387904),by rw[hu];trivial⟩
  | false=>
   rw[hj] at c3
   have hJ:joinT L ah x=x:=by unfold joinT;rw[if_neg (fun h=>by rw[hj] at h;cases h.2)]
   rw[hJ]
   have hs:=q0r (c:=⟨tokC p c x,36,.tip,0+1,[]⟩) g3
   simp only[WA,Nat.reduceEqDiff,reduceCtorEq,hbx,←hH2,g12,tk2,tk3,h0',c3,g13,g3,q1F,q2h,q4f,hs,k1e]
   exact ⟨Ext.upd x03 g3 (by omega),p,c,rfl,fun _ h=>h,p,c,rfl,Ints.upd e2 x03 g3 (by omega),e3,(e4.ext x03).upd g3 rfl⟩
 ·have h0':(x.err=0)=False:=eq_false h0
  have hJ:joinT L ah x=x:=by unfold joinT;rw[if_neg (fun h=>h0 h.1)]
  rw[hJ]
  have hs:=q0r (c:=⟨tokC p c x,36,.tip,0+1,[]⟩) g2
  simp only[WA,Nat.reduceEqDiff,reduceCtorEq,hbx,←hH2,g12,tk3,h0',g2,q1F,q2h,q4f,hs,k1e]
  exact ⟨Ext.upd x12 g2 (by omega),p,c,rfl,fun _ h=>h,p,c,rfl,Ints.upd e2 x12 g2 (by omega),e3,(e4.ext x12).upd g2 rfl⟩
end Go.Proofs.YtleiinhaljdcoaaGreatDoor
