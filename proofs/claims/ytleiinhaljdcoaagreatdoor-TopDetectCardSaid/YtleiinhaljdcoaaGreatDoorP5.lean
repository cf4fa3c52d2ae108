/- What is proved here: what the program's functions come to, as far as the claimed statement asks. Conditions: those that each theorem names, and no others. -/
import Derived.Test.YtleiinhaljdcoaaGreatDoorP4
import Derived.Deep.Slices
import Derived.SizedLaws
import Derived.Scope
set_option linter.unusedSimpArgs false
set_option linter.unusedVariables false
namespace Lon
open Go Go.ChangeShapes Go.WideShapes Go.ChangeAt Go.RowKit
section
variable {P:Program} {σ:Sig} {base:Nat} {H:q0a} {w:World}
def Sig.more (σ:Sig) (n:Nat) (l:Loc):Sig:=fun i=>if i=n then some l else σ i
theorem HR.sigLt (h:HR P σ base H w) {i:Nat} {l:Loc} (hi:σ i=some l):i<H.n:=by
 rcases Nat.lt_or_ge i H.n with h1|h1
 ·exact h1
 ·rw[h.out i h1] at hi;cases hi
theorem HR.subMore (h:HR P σ base H w) (l:Loc):Sub σ (σ.more H.n l):=fun i x hi=>by
 have:=h.sigLt hi
 unfold Sig.more
 rw[if_neg (by omega)]
 exact hi
theorem HR.push_ro (h:HR P σ base H w) {cells:List Value} {el:TypeId} {l:Loc} (hel:(P.info? el).map (·.size)=some l.sz) (hlt:l.b<w.heap.size) (hbase:l.b<base) (hcells:∀k v,cells[k]?=some v→∃v',w.cell? ⟨l.b,l.f+k,none⟩=some v'∧VR σ v v') :
  HR P (σ.more H.n l) base (H.push ⟨cells,el,.ro,0,[]⟩) w:=by
 have hs:=h.subMore l
 have old:∀{i blk},(H.push ⟨cells,el,.ro,0,[]⟩).get i=some blk→(i=H.n∧blk=⟨cells,el,.ro,0,[]⟩)∨(i≠H.n∧H.get i=some blk):=by
  intro i blk hg
  rw[q0a.get_push] at hg
  split at hg
  ·injection hg with hg;exact .inl ⟨by assumption,hg.symm⟩
  ·exact .inr ⟨by assumption,hg⟩
 have sg0:σ.more H.n l H.n=some l:=by unfold Sig.more;rw[if_pos rfl]
 have sg1:∀{i},i≠H.n→σ.more H.n l i=σ i:=fun hi=>by unfold Sig.more;rw[if_neg hi]
 constructor
 ·intro i blk l' hg hl
  rcases old hg with ⟨rfl,rfl⟩|⟨hi,hg⟩
  ·rw[sg0] at hl;injection hl with hl;subst hl;exact hel
  ·rw[sg1 hi] at hl;exact h.elem hg hl
 ·intro i hi
  simp at hi
  rw[sg1 (by omega)]
  exact h.out i (by omega)
 ·intro i blk l' hg hd hl
  rcases old hg with ⟨rfl,rfl⟩|⟨hi,hg⟩
  ·rw[sg0] at hl;injection hl with hl;subst hl;exact hlt
  ·rw[sg1 hi] at hl;exact h.lt hg hd hl
 ·intro i blk l' hg hd hl k v hk
  rcases old hg with ⟨rfl,rfl⟩|⟨hi,hg⟩
  ·rw[sg0] at hl;injection hl with hl;subst hl
   obtain ⟨v',h1,h2⟩:=hcells k v hk
   exact ⟨v',h1,h2.mono hs⟩
  ·rw[sg1 hi] at hl
   obtain ⟨v',h1,h2⟩:=h.cells hg hd hl hk
   exact ⟨v',h1,h2.mono hs⟩
 ·intro i blk l' hg hd hl
  rcases old hg with ⟨rfl,rfl⟩|⟨hi,hg⟩
  ·rw[sg0] at hl;injection hl with hl;subst hl;exact hbase
  ·rw[sg1 hi] at hl;exact h.ro hg hd hl
 ·intro i blk l' hg hd hl
  rcases old hg with ⟨rfl,rfl⟩|⟨hi,hg⟩
  ·cases hd
  ·rw[sg1 hi] at hl;exact h.own hg hd hl
 ·intro i blk l' hg hd hl
  rcases old hg with ⟨rfl,rfl⟩|⟨hi,hg⟩
  ·cases hd
  ·rw[sg1 hi] at hl;exact h.row hg hd hl
 ·intro i blk l' hg hd hl
  rcases old hg with ⟨rfl,rfl⟩|⟨hi,hg⟩
  ·cases hd
  ·rw[sg1 hi] at hl;exact h.fits hg hd hl
 ·intro i blk l' hg hd hl
  rcases old hg with ⟨rfl,rfl⟩|⟨hi,hg⟩
  ·cases hd
  ·rw[sg1 hi] at hl
   obtain ⟨es,clock,h1,h2⟩:=h.map hg hd hl
   exact ⟨es,clock,h1,h2.mono hs⟩
 ·intro i j bi bj li lj hij hgi hgj hoi hoj hli hlj hb
  rcases old hgi with ⟨rfl,rfl⟩|⟨hi,hgi⟩
  ·cases hoi
  ·rcases old hgj with ⟨rfl,rfl⟩|⟨hj,hgj⟩
   ·cases hoj
   ·rw[sg1 hi] at hli;rw[sg1 hj] at hlj;exact h.sep hij hgi hgj hoi hoj hli hlj hb
 ·intro i j bi bj hgi hgj hoi hoj ha
  rcases old hgi with ⟨rfl,rfl⟩|⟨hi,hgi⟩
  ·cases hoi
  ·rcases old hgj with ⟨rfl,rfl⟩|⟨hj,hgj⟩
   ·cases hoj
   ·exact h.anc hgi hgj hoi hoj ha
 ·intro i j bi bj li lj hgi hgj hoi hoj ha hli hlj hb
  rcases old hgi with ⟨rfl,rfl⟩|⟨hi,hgi⟩
  ·cases hoi
  ·rcases old hgj with ⟨rfl,rfl⟩|⟨hj,hgj⟩
   ·cases hoj
   ·rw[sg1 hi] at hli;rw[sg1 hj] at hlj;exact h.ends hgi hgj hoi hoj ha hli hlj hb
 ·intro j bj hgj i hi
  rcases old hgj with ⟨rfl,rfl⟩|⟨hj,hgj⟩
  ·cases hi
  ·exact h.ancJ hgj i hi
theorem z5Q {a:Addr} {v:Value} (h:w.cell? a=some v):a.block<w.heap.size∧a.spot=none:=by
 unfold World.cell? at h
 split at h
 ·rename_i c _ _ hb
  split at h
  ·cases h
  ·rename_i hs
   refine ⟨(Array.getElem?_eq_some_iff.1 hb).1,?_⟩
   cases hh:a.spot with
   | none=>rfl
   | some k=>rw[hh] at hs;exact absurd rfl hs
 ·cases h
section
variable {P:Program} {H H':q0a}
def Cut (P:Program) (H:q0a) (v:Value) (sz:Nat):Prop:=match v with
 | .slice (some ⟨i,_,none⟩) _ _=>∃b,H.get i=some b∧(P.info? b.elem).map (·.size)=some sz
 | _=>True
theorem Cut.ext (hx:Ext H H') {v:Value} {sz:Nat} (h:Cut P H v sz):Cut P H' v sz:=by
 unfold Cut at h ⊢
 split at h
 ·obtain ⟨b,h1,h2⟩:=h
  exact ⟨b,hx.get h1,h2⟩
 ·trivial
theorem Cut.new {i n c sz:Nat} {b:ABlk} (hg:H.get i=some b) (hs:(P.info? b.elem).map (·.size)=some sz):Cut P H (.slice (some ⟨i,0,none⟩) n c) sz:=⟨b,hg,hs⟩
end
def k5C (B:Nat) (P:Program) (t:TypeId) (s:Nat) (ρ:Type) (Q:q0a→List Value→ρ→Prop):Prop:=
 ∀{K:Type} {enc:TypeId×Value→K} {W:World} {σ:Sig} {H:q0a} {fuel:Nat} {cs:List Value} {x:DataW K×List MemPlace},HR P σ W.heap.size H W→DataW.trod enc P W 0 (fun _=>true) true fuel t cs=some x→(∀n∈x.1.weights P t,n≤B) →
  ∃σ' H' acs r,HR P σ' W.heap.size H' W∧Sub σ σ'∧Ext H H'∧VRs σ' acs cs∧acs.length=s∧Q H' acs r
def Mono {ρ:Type} (Q:q0a→List Value→ρ→Prop):Prop:=∀⦃H H':q0a⦄ ⦃acs:List Value⦄ ⦃r:ρ⦄,Ext H H'→Q H acs r→Q H' acs r
def qInt (k:IntKind) (_:q0a) (acs:List Value) (n:Int):Prop:=acs=[.int k n]∧(Lit.int k n).wf=true
theorem z3I (k:IntKind):Mono (qInt k):=fun _ _ _ _ _ h=>h
theorem k7x.int {B:Nat} {t:TypeId} {k:IntKind} (ht:P.underlying t=some (.int k)):k5C B P t 1 Int (qInt k):=by
 intro K enc W σ H fuel cs x hh h _
 cases fuel with
 | zero=>simp[DataW.trod] at h
 | succ n=>
  unfold DataW.trod at h
  rw[ht] at h
  split at h<;>simp_all
  refine ⟨σ,H,hh,Sub.refl _,Ext.refl _,_,.cons _ _ _ _ (.int _ _) .nil,rfl,_,rfl,?_⟩
  simp_all
def k8T (B:Nat) (P:Program) {ρ:Type} (s b:Nat) (Q:q0a→List Value→ρ→Prop) (H:q0a) (acs:List Value) (L:List ρ):Prop:=
 ∃v cells,acs=[v]∧Sl H s v L.length cells∧L.length*b≤B∧Cut P H v s∧∀k r,L[k]?=some r→Q H ((cells.drop (k*s)).take s) r
theorem z0L {a:Addr} {n:Nat} (h:a.spot=none):a.add n=⟨a.block,a.off+n,none⟩:=by
 unfold Addr.add
 split
 ·rename_i hn;subst hn;obtain ⟨b,o,s⟩:=a;simp at h;subst h;rfl
 ·rfl
theorem q8U {K:Type} {e:TypeId} {n:Nat} {d:DataW K}:∀{l:List (DataW K)},d∈l→n∈d.weights P e→n∈DataW.weightsAll P e l
 | [],h,_=>by cases h
 | a::l,h,hn=>by
  unfold DataW.weightsAll
  rcases List.mem_cons.1 h with rfl|h
  ·exact List.mem_append_left _ hn
  ·exact List.mem_append_right _ (q8U h hn)
theorem k7x.slice {B:Nat} {t el:TypeId} {s b:Nat} {ρ:Type} {Q:q0a→List Value→ρ→Prop} (he:k5C B P el s ρ Q) (hQ:Mono Q) (ht:P.underlying t=some (.slice el)) (hc:P.cellsOf el=s) (hi:(P.info? el).map (·.size)=some s) (hs:0<s) (hby:P.bytesOf el=b) :
  k5C B P t 1 (List ρ) (k8T B P s b Q):=by
 intro K enc W σ H fuel cs x hh h hwt
 rcases Go.Deep.open_slice ht h with ⟨rfl,_⟩|⟨a,len,cap,m,n,D,Pl,rfl,hb,hl,hm,hmm,rfl,hx⟩
 ·exact ⟨σ,H,[.slice none 0 0],[],hh,Sub.refl _,Ext.refl _,.cons _ _ _ _ .nilSlice .nil,rfl,_,[],rfl,Sl.nil _ _,by simp,trivial,fun k r hr=>by simp at hr⟩
 simp only[if_true] at hmm
 subst hmm
 rw[hc] at hx
 by_cases h0:m=0
 ·obtain rfl:len=0:=by omega
  subst h0
  exact ⟨σ,H,[.slice (some ⟨0,0,some 0⟩) 0 0],[],hh,Sub.refl _,Ext.refl _,.cons _ _ _ _ (.nilAt _) .nil,rfl,_,[],rfl,⟨⟨_,_,rfl⟩,rfl⟩,by simp,trivial,fun k r hr=>by simp at hr⟩
 have hcell:∀i,i<m→∃cs',cs'.length=s∧(∀j,j<s→W.cell? (a.add (i*s))≠none∧W.cell? ((a.add (i*s)).add j)=cs'[j]?)∧DataW.trod enc P W 0 (fun _=>true) true n el cs'=some (D i,Pl i):=fun i hi=>by
  obtain ⟨cs',h1,h2⟩:=hx i hi
  obtain ⟨_,h3,h4⟩:=World.cells?_some h1
  refine ⟨cs',h3,fun j hj=>⟨?_,h4 j hj⟩,h2⟩
  have:=h4 0 hs
  rw[show (a.add (i*s)).add 0=a.add (i*s) from by simp[Addr.add]] at this
  rw[this,List.getElem?_eq_getElem (by omega)]
  simp
 have hsp:a.block<W.heap.size∧a.spot=none:=by
  obtain ⟨cs',_,h1,_⟩:=hcell 0 (by omega)
  have:=(h1 0 hs).1
  rw[Nat.zero_mul,show a.add 0=a from by simp[Addr.add]] at this
  cases hv:W.cell? a with
  | none=>exact absurd hv this
  | some v=>exact z5Q hv
 have hcell2:∀i,i<m→∃cs',cs'.length=s∧(∀j,j<s→W.cell? ⟨a.block,a.off+(i*s+j),none⟩=cs'[j]?)∧DataW.trod enc P W 0 (fun _=>true) true n el cs'=some (D i,Pl i):=fun i hi=>by
  obtain ⟨cs',h1,h2,h3⟩:=hcell i hi
  refine ⟨cs',h1,fun j hj=>?_,h3⟩
  have:=(h2 j hj).2
  rw[z0L hsp.2,z0L rfl] at this
  rw[←this]
  simp only[Nat.add_assoc]
 have hw0:(len+(m-len))*b≤B∧∀k,k<len→∀n∈(D k).weights P el,n≤B:=by
  unfold DataW.weights at hwt
  simp only[ht,hby] at hwt
  refine ⟨?_,fun k hk n hn=>hwt n (List.mem_cons_of_mem _ (List.mem_append_left _ (q8U (List.mem_map.2 ⟨k,List.mem_range.2 hk,rfl⟩) hn)))⟩
  have:=hwt _ (List.mem_cons_self ..)
  simpa using this
 have build:∀k,k≤len→∃σ' H' cells L,HR P σ' W.heap.size H' W∧Sub σ σ'∧Ext H H'∧List.length cells=k*s∧List.length L=k∧(∀j v,cells[j]?=some v→∃v',W.cell? ⟨a.block,a.off+j,none⟩=some v'∧VR σ' v v')∧∀j r,L[j]?=some r→Q H' ((cells.drop (j*s)).take s) r:=by
  intro k
  induction k with
  | zero=>intro _;exact ⟨σ,H,[],[],hh,Sub.refl _,Ext.refl _,by simp,rfl,fun j v hj=>by simp at hj,fun j r hj=>by simp at hj⟩
  | succ k ih=>
   intro hk
   obtain ⟨σ1,H1,cells,L,g1,g2,g3,g4,g5,g6,g7⟩:=ih (by omega)
   obtain ⟨cs',c1,c2,c3⟩:=hcell2 k (by omega)
   obtain ⟨σ2,H2,acs,r,e1,e2,e3,e4,e5,e6⟩:=he g1 c3 (hw0.2 k (by omega))
   refine ⟨σ2,H2,cells++acs,L++[r],e1,Sub.trans g2 e2,g3.trans e3,by rw[List.length_append,g4,e5,Nat.succ_mul],by simp[g5],fun j v hj=>?_,fun j r' hj=>?_⟩
   ·rcases Nat.lt_or_ge j cells.length with hlt|hge
    ·rw[List.getElem?_append_left hlt] at hj
     obtain ⟨v',q1,q2⟩:=g6 j v hj
     exact ⟨v',q1,q2.mono e2⟩
    ·rw[List.getElem?_append_right hge] at hj
     obtain ⟨v',q1,q2⟩:=e4.get hj
     refine ⟨v',?_,q2⟩
     have hjs:j-cells.length<s:=by rw[←e5];exact (List.getElem?_eq_some_iff.1 hj).1
     have:=c2 (j-cells.length) hjs
     rw[q1] at this
     rw[←this]
     congr 3
     omega
   ·rcases Nat.lt_or_ge j L.length with hlt|hge
    ·rw[List.getElem?_append_left hlt] at hj
     have hle:j*s+s≤cells.length:=by rw[g4,←Nat.succ_mul];exact Nat.mul_le_mul_right _ (by omega)
     have:=g7 j r' hj
     rw[List.drop_append_of_le_length (by omega),List.take_append_of_le_length (by simp;omega)]
     exact hQ e3 this
    ·rw[List.getElem?_append_right hge] at hj
     have hj0:j=L.length:=by
      have:=(List.getElem?_eq_some_iff.1 hj).1
      simp at this
      omega
     subst hj0
     simp at hj
     subst hj
     rw[g5,←g4,List.drop_left,←e5,List.take_length]
     exact e6
 obtain ⟨σ1,H1,cells,L,g1,g2,g3,g4,g5,g6,g7⟩:=build len (Nat.le_refl _)
 have hp:=g1.push_ro (cells:=cells) (el:=el) (l:=⟨a.block,a.off,a.off+m*s,s⟩) hi hsp.1 hsp.1 g6
 have hxp:Ext H1 (H1.push ⟨cells,el,.ro,0,[]⟩):=Ext.push _ _
 refine ⟨_,_,[.slice (some ⟨H1.n,0,none⟩) len (len+1)],L,hp,Sub.trans g2 (g1.subMore _),g3.trans hxp,.cons _ _ _ _ ?_ .nil,rfl,_,cells,rfl,?_,by rw[g5];exact Nat.le_trans (Nat.mul_le_mul_right _ (by omega)) hw0.1,⟨_,q0b,hi⟩,fun k r hr=>hQ hxp (g7 k r hr)⟩
 ·have hd:a=⟨a.block,a.off,none⟩:=by obtain ⟨b,o,sp⟩:=a;simp at hsp;rw[hsp.2]
  rw[hd]
  exact .slice H1.n 0 len (len+1) a.off m ⟨a.block,a.off,a.off+m*s,s⟩ (by unfold Sig.more;rw[if_pos rfl]) (fun _=>rfl) hl (by omega) (fun h=>by omega) (Nat.le_refl _)
 ·rw[g5]
  exact Sl.new q0b rfl g4
end
abbrev k7x:=k5C reachBytes
abbrev z7V (P:Program) {ρ:Type}:=@k8T reachBytes P ρ
def Nums (H:q0a) (k:IntKind) (v:Value) (l:List Int):Prop:=Sl H 1 v l.length (l.map fun x=>.int k x)
theorem Nums.ext {H H':q0a} (hk:Ext H H') {k:IntKind} {v:Value} {l:List Int} (h:Nums H k v l):Nums H' k v l:=Sl.ext hk h
theorem Nums.at {H:q0a} {kd:IntKind} {v:Value} {l:List Int} (h:Nums H kd v l) {k:Nat} {x:Int} (hk:l[k]?=some x) :
  ∃i o,(∀(kd:IntKind) (H2:q0a),q2E v (.int kd k) 1 H2=some (.pointer (some ⟨i,o,none⟩),H2))∧q0l (H.get i) o none H=some (.int kd x,H):=by
 obtain ⟨i,o,h1,h2,_⟩:=Sl.at h (List.getElem?_eq_some_iff.1 hk).1
 refine ⟨i,o,h1,?_⟩
 exact h2 0 _ (by omega) (by simp[hk])
theorem k8U {B:Nat} {P:Program} {H:q0a} {kd:IntKind} {b:Nat} {acs:List Value} {L:List Int} (h:k8T B P 1 b (qInt kd) H acs L):∃v,acs=[v]∧Nums H kd v L∧Cut P H v 1∧L.length*b≤B∧∀n∈L,(Lit.int kd n).wf=true:=by
 obtain ⟨v,cells,rfl,h1,h2,h3,h4⟩:=h
 have hc:cells=L.map fun x=>.int kd x:=by
  have hl:=h1.length
  apply List.ext_getElem?
  intro j
  rcases Nat.lt_or_ge j L.length with hj|hj
  ·obtain ⟨hq,_⟩:=h4 j _ (List.getElem?_eq_getElem hj)
   have:((cells.drop (j*1)).take 1)[0]?=[Value.int kd L[j]][0]?:=by rw[hq]
   simp only[List.getElem?_take,List.getElem?_drop,Nat.mul_one,Nat.add_zero,if_pos (show 0<1 by decide)] at this
   rw[this]
   simp[List.getElem?_eq_getElem hj]
  ·rw[List.getElem?_eq_none (by omega),List.getElem?_eq_none (by simpa using hj)]
 subst hc
 refine ⟨v,rfl,h1,h3,h2,fun n hn=>?_⟩
 obtain ⟨j,hj,rfl⟩:=List.getElem_of_mem hn
 exact (h4 j _ (List.getElem?_eq_getElem hj)).2
theorem k8V {P:Program} {σ:Sig} {H:q0a} {g:FuncId} {args args':List Value} {v:Value} {H':q0a} {w:World} (h:Sim P w.heap.size g args H v H') (ha:VRs σ args args') (hh:HR P σ w.heap.size H w) (hv:q0J v=true) :
  Calls P g ⟨args'⟩ w fun e w'=>e=.returned v∧Below w.heap.size w w':=by
 refine (h.2.2 σ w args' ha hh (Nat.le_refl _)).mono fun e w' hq=>?_
 obtain ⟨σ',v',rfl,q1,q2,q3⟩:=hq
 rw[VR.eq_ground hv q1]
 refine ⟨rfl,q3.os,q3.tape,q3.output,q3.size,fun k hk=>q3.keep k hk (fun i blk l hi hac hl=>?_)⟩
 have hown:blk.st.own=true:=by revert hac;cases blk.st<;>simp[St.act,St.own]
 have:=hh.own hi hown hl
 omega
end Lon
namespace Lon
open Go
section
variable {P:Program} {cf:q0F} {H H':q0a}
theorem k5D {g:FuncId} {p x:Value}:z1K cf (.func (.func g) ⟨[]⟩ ⟨[p]⟩) [x] H=cf g [x,p] H:=rfl
theorem Own.cut {el:TypeId} {sz n:Nat} {v:Value} {cs:List Value} (h:Own H el sz v n cs) (hs:(P.info? el).map (·.size)=some sz):Cut P H v sz:=by
 obtain ⟨_,h⟩:=h
 rcases h with ⟨rfl,_⟩|⟨b,ver,anc,rfl,_,h3⟩
 ·trivial
 ·exact ⟨_,h3,hs⟩
theorem q1f.cut {el:TypeId} {v:Value} {L:List Rl} (h:q1f H el v L) (hs:(P.info? el).map (·.size)=some 2):Cut P H v 2:=by
 obtain ⟨cs,h1,_⟩:=h
 exact h1.cut hs
theorem Sl.take {sz n k:Nat} {v:Value} {cs:List Value} (h:Sl H sz v n cs) (hc:Cut P H v sz) (hk:k≤n) :
  ∃v',(∀kd:IntKind,q3t (P:=P) v none (some (.int kd k)) sz H=some (v',H))∧Sl H sz v' k (cs.take (k*sz))∧Cut P H v' sz:=by
 obtain ⟨⟨a,c,rfl⟩,h2⟩:=h
 have hlen:=Sl.length ⟨⟨a,c,rfl⟩,h2⟩
 cases a with
 | none=>
  have h3:=h2
  unfold cellsOf at h2
  split at h2
  ·rename_i hv
   injection hv with _ hv1 hv2
   subst hv1 hv2
   obtain rfl:k=0:=by omega
   injection h2 with h2
   subst h2
   exact ⟨.slice none 0 0,fun kd=>rfl,⟨⟨_,_,rfl⟩,by simp[cellsOf]⟩,trivial⟩
  ·rename_i hv;injection hv with hv _ _;cases hv
  ·rename_i hv;injection hv with hv _ _;cases hv
  ·cases h2
 | some a=>
  obtain ⟨i,o,s⟩:=a
  cases s with
  | none=>
   obtain ⟨b,hb,hs⟩:=hc
   have hcond:(0:Int)≤0∧(0:Int)≤(k:Int)∧(k:Int)≤(n:Int)∧sz=sz:=⟨by omega,by omega,by omega,rfl⟩
   refine ⟨.slice (some ⟨i,o+(0:Int).toNat*sz,none⟩) ((k:Int).toNat-(0:Int).toNat) (if c=0 then 0 else max ((k:Int).toNat-(0:Int).toNat) (c-1-(0:Int).toNat)+1),fun kd=>?_,⟨⟨_,_,by simp only[Int.toNat_natCast,Int.toNat_zero,Nat.sub_zero];exact rfl⟩,?_⟩,?_⟩
   ·simp only[q3t,bndV,hb,Option.map_some,hs]
    rw[if_pos ⟨by omega,by omega,by omega,trivial⟩]
    rfl
   ·by_cases hk0:k=0
    ·subst hk0
     unfold cellsOf
     simp
    ·have hn:n≠0:=by omega
     obtain ⟨cells,el,st,ver,anc,g1,g2,g3,g4⟩:=q6n h2 hn
     unfold cellsOf
     simp only[Int.toNat_natCast,Int.toNat_zero,Nat.sub_zero,Nat.zero_mul,Nat.add_zero]
     rw[if_neg hk0,g1]
     simp only
     have hle:k*sz≤n*sz:=Nat.mul_le_mul_right _ hk
     rw[if_pos ⟨g2,by omega⟩,←g4,List.take_take,Nat.min_eq_left hle]
   ·exact ⟨b,hb,hs⟩
  | some s=>
   have h3:=h2
   unfold cellsOf at h2
   split at h2
   ·rename_i hv;injection hv with hv _ _;cases hv
   ·rename_i hv;injection hv with hv _ _;cases hv
   ·rename_i hv
    injection hv with _ hv1 hv2
    subst hv1 hv2
    obtain rfl:k=0:=by omega
    injection h2 with h2
    subst h2
    exact ⟨.slice (some ⟨i,o,some s⟩) 0 0,fun kd=>rfl,⟨⟨_,_,rfl⟩,by simp[cellsOf]⟩,trivial⟩
   ·cases h2
theorem q2g.take {v:Value} {L:List Rl} {k:Nat} (h:q2g H v L) (hc:Cut P H v 2) (hk:k≤L.length) :
  ∃v',(∀kd:IntKind,q3t (P:=P) v none (some (.int kd k)) 2 H=some (v',H))∧q2g H v' (L.take k)∧Cut P H v' 2:=by
 obtain ⟨h0,cs,h1,h2⟩:=h
 obtain ⟨v',g1,g2,g3⟩:=h1.take hc hk
 refine ⟨v',g1,⟨by simp;omega,cs.take (k*2),by simpa[Nat.min_eq_left hk] using g2,fun j r hr=>?_⟩,g3⟩
 rw[List.getElem?_take] at hr
 split at hr
 ·rename_i hj
  obtain ⟨⟨vi,vo,a1,a2,a3,a4⟩,a5⟩:=h2 j r hr
  exact ⟨⟨vi,vo,by rw[List.getElem?_take,if_pos (by omega)];exact a1,by rw[List.getElem?_take,if_pos (by omega)];exact a2,a3,a4⟩,a5⟩
 ·cases hr
theorem Ints.take {v:Value} {l:List Int} {k:Nat} (h:Ints H v l) (hc:Cut P H v 1) (hk:k≤l.length) :
  ∃v',(∀kd:IntKind,q3t (P:=P) v none (some (.int kd k)) 1 H=some (v',H))∧Ints H v' (l.take k)∧Cut P H v' 1:=by
 obtain ⟨v',g1,g2,g3⟩:=Sl.take h hc hk
 refine ⟨v',g1,?_,g3⟩
 unfold Ints
 rw[List.length_take,Nat.min_eq_left hk]
 simpa[ints] using g2
end
def eqI:List Value→List Int→Bool
 | [],[]=>true
 | .int .i64 a::vs,b::bs=>iEq a b&&eqI vs bs
 | _,_=>false
theorem z0M:∀{vs:List Value} {l:List Int},eqI vs l=true→vs=ints l
 | [],[],_=>rfl
 | [],_::_,h=>by simp[eqI] at h
 | v::vs,[],h=>by cases v<;>simp[eqI] at h
 | v::vs,b::bs,h=>by
  unfold eqI at h
  split at h
  ·rename_i h1;cases h1
  ·rename_i a vs' b' bs' e1 e2
   injection e1 with e1 e1'
   injection e2 with e2 e2'
   subst e1 e1' e2 e2'
   simp only[Bool.and_eq_true,z7y,beq_iff_eq] at h
   obtain ⟨rfl,h2⟩:=h
   rw[z0M h2]
   rfl
  ·cases h
noncomputable def z5R (H:q0a) (v:Value) (l:List Int):Bool:=match v with
 | .slice a n c=>Nat.beq n l.length&&(match k2K H 1 (.slice a n c) with|some cs=>eqI cs l|none=>false)
 | _=>false
theorem k4w {H:q0a} {v:Value} {l:List Int} (h:z5R H v l=true):Ints H v l:=by
 unfold z5R at h
 split at h
 ·rename_i a n c
  simp only[Bool.and_eq_true] at h
  obtain ⟨h1,h2⟩:=h
  obtain rfl:=Nat.eq_of_beq_eq_true h1
  rw[k0h] at h2
  split at h2
  ·rename_i cs hc
   rw[z0M h2] at hc
   exact ⟨⟨_,_,rfl⟩,hc⟩
  ·cases h2
 ·cases h
noncomputable def k4x (H:q0a):List Value→List Rl→Bool
 | [],[]=>true
 | vi::vo::cs,r::L=>z5R H vi r.1&&z5R H vo r.2&&Nat.blt r.1.length 100&&Nat.blt r.2.length 100&&k4x H cs L
 | _,_=>false
theorem k4y {H:q0a}:∀{cs:List Value} {L:List Rl},k4x H cs L=true→∀k r,L[k]?=some r→z3G H cs k r∧tiny r.1∧tiny r.2
 | cs,[],_,k,r,hr=>by simp at hr
 | [],_::_,h,_,_,_=>by simp[k4x] at h
 | [_],_::_,h,_,_,_=>by simp[k4x] at h
 | vi::vo::cs,r0::L,h,k,r,hr=>by
  simp only[k4x,Bool.and_eq_true,Nat.blt_eq] at h
  obtain ⟨⟨⟨⟨h1,h2⟩,h3⟩,h4⟩,h5⟩:=h
  cases k with
  | zero=>
   simp at hr
   subst hr
   exact ⟨⟨vi,vo,rfl,rfl,k4w h1,k4w h2⟩,by unfold tiny;omega,by unfold tiny;omega⟩
  | succ k=>
   obtain ⟨⟨ui,uo,g1,g2,g3,g4⟩,g5⟩:=k4y h5 k r (by simpa using hr)
   refine ⟨⟨ui,uo,?_,?_,g3,g4⟩,g5⟩
   ·rw[show (k+1)*2=k*2+1+1 by omega];simpa using g1
   ·rw[show (k+1)*2+1=(k*2+1)+1+1 by omega];simpa using g2
noncomputable def z3J (H:q0a) (v:Value) (L:List Rl):Bool:=match v with
 | .slice a n c=>Nat.beq n L.length&&Nat.blt L.length 1000000&&(match k2K H 2 (.slice a n c) with|some cs=>k4x H cs L|none=>false)
 | _=>false
theorem k2P {H:q0a} {v:Value} {L:List Rl} (h:z3J H v L=true):q2g H v L:=by
 unfold z3J at h
 split at h
 ·rename_i a n c
  simp only[Bool.and_eq_true,Nat.blt_eq] at h
  obtain ⟨⟨h1,h0⟩,h2⟩:=h
  obtain rfl:=Nat.eq_of_beq_eq_true h1
  rw[k0h] at h2
  split at h2
  ·rename_i cs hc
   exact ⟨by omega,cs,⟨⟨_,_,rfl⟩,hc⟩,k4y h2⟩
  ·cases h2
 ·cases h
def q0i (v:Value) (i:Nat):Prop:=match v with
 | .slice (some a) _ _=>a.block≠i
 | _=>True
theorem q0i.of_from {B i:Nat} {v:Value} (h:From B v) (hi:i<B):q0i v i:=by
 unfold From at h
 unfold q0i
 split
 ·simp only at h;omega
 ·trivial
theorem Own.append2 {H:q0a} {el:TypeId} {sz bytes:Nat} {v x:Value} {n m:Nat} {cs new:List Value} (h:Own H el sz v n cs) (hx:Sl H sz x m new) (hm:0<m) (h1:new.all one=true) (hb:(n+m)*bytes≤140737488355328) :
  ∃v' H',q0m H v x el sz bytes=some (v',H')∧Own H' el sz v' (n+m) (cs++new)∧From H.n v'∧k1m H H'∧H.n≤H'.n∧(∀i,i<H.n→q0i v i→H'.get i=H.get i):=by
 have hsl:=h.sl
 obtain ⟨⟨a',c',rfl⟩,hxc⟩:=hx
 have hxl:new.length=m*sz:=Sl.length ⟨⟨_,_,rfl⟩,hxc⟩
 obtain ⟨hl,⟨rfl,rfl⟩|⟨b,ver,anc,rfl,hn,hg⟩⟩:=h
 ·have hcs:cs=[]:=by simpa using hl
  subst hcs
  refine ⟨.slice (some ⟨H.n,0,none⟩) (0+m) (0+m+1),H.push ⟨[]++new,el,.tip,0,[]⟩,?_,⟨by simp[hxl],.inr ⟨H.n,0,[],rfl,by omega,q0b⟩⟩,Nat.le_refl _,(Ext.push H _).keeps,by simp,fun i hi _=>q0s (by omega)⟩
  unfold q0m
  simp only[hxc]
  rw[show cellsOf H sz (.slice none 0 0)=some [] from rfl]
  simp only
  rw[if_neg (by omega),if_pos ⟨hb,h1⟩]
 ·have hsc:=hsl.2
  have hni:b≠H.n:=by have:=q0a.lt_of_get hg;omega
  refine ⟨.slice (some ⟨H.n,0,none⟩) (n+m) (n+m+1),(H.upd b ⟨cs,el,.ret,ver,anc⟩).push ⟨cs++new,el,.tip,0,b::anc⟩,?_,⟨by simp only[List.length_append,hl,hxl,Nat.add_mul],.inr ⟨H.n,0,b::anc,rfl,by omega,?_⟩⟩,Nat.le_refl _,?_,by simp,?_⟩
  ·unfold q0m
   simp only[hxc,hsc]
   rw[if_neg (by omega),if_pos ⟨hb,h1⟩,if_neg (by omega),hg]
   simp only
   rw[if_pos ⟨trivial,trivial⟩,if_pos ⟨hn,by omega⟩]
  ·have:=q0b (H:=H.upd b ⟨cs,el,.ret,ver,anc⟩) (b:=⟨cs++new,el,.tip,0,b::anc⟩)
   simpa using this
  ·intro i blk hi hmem
   have hlt:=q0a.lt_of_get hi
   by_cases hib:i=b
   ·subst hib
    rw[hg] at hi
    injection hi with hi
    subst hi
    refine ⟨⟨cs,el,.ret,ver,anc⟩,?_,rfl,k5v⟩
    rw[q0s (by simpa using hlt),q0a.get_upd hg,if_pos rfl]
   ·refine ⟨blk,?_,rfl,hmem⟩
    rw[q0s (by simpa using hlt),q0a.get_upd hg,if_neg hib]
    exact hi
  ·intro i hi hbi
   have hbi':b≠i:=hbi
   rw[q0s (by simp;omega),q0a.get_upd hg,if_neg (fun e=>hbi' e.symm)]
theorem q1f.append2 {H:q0a} {el:TypeId} {bytes:Nat} {v x vi vo:Value} {L:List Rl} {r:Rl} (h:q1f H el v L) (hx:Sl H 2 x 1 [vi,vo]) (hi:Ints H vi r.1) (ho:Ints H vo r.2) (t1:tiny r.1) (t2:tiny r.2)
  (hb:(L.length+1)*bytes≤140737488355328) :
  ∃v' H',q0m H v x el 2 bytes=some (v',H')∧q1f H' el v' (L++[r])∧From H.n v'∧k1m H H'∧H.n≤H'.n∧(∀i,i<H.n→q0i v i→H'.get i=H.get i):=by
 obtain ⟨cs,h1,h2⟩:=h
 have hone:([vi,vo]:List Value).all one=true:=by
  obtain ⟨⟨a,c,rfl⟩,_⟩:=hi
  obtain ⟨⟨a',c',rfl⟩,_⟩:=ho
  rfl
 obtain ⟨v',H',q1,q2,q3,q4,q5,q6⟩:=h1.append2 hx (by omega) hone hb
 have hcl:=h1.1
 refine ⟨v',H',q1,⟨cs++[vi,vo],by simpa using q2,fun k r' hr=>?_⟩,q3,q4,q5,q6⟩
 by_cases hk:k<L.length
 ·rw[List.getElem?_append_left hk] at hr
  obtain ⟨⟨vi',vo',h3,h4,h5,h6⟩,h7⟩:=h2 k r' hr
  exact ⟨⟨vi',vo',by rw[List.getElem?_append_left (by omega)];exact h3,by rw[List.getElem?_append_left (by omega)];exact h4,h5.keeps q4,h6.keeps q4⟩,h7⟩
 ·rw[List.getElem?_append_right (by omega)] at hr
  have hk0:k=L.length:=by
   rcases Nat.lt_or_ge (k-L.length) 1 with h|h
   ·omega
   ·rw[List.getElem?_eq_none (by simpa using h)] at hr;cases hr
  subst hk0
  simp at hr
  subst hr
  refine ⟨⟨vi,vo,?_,?_,hi.keeps q4,ho.keeps q4⟩,t1,t2⟩
  ·rw[List.getElem?_append_right (by omega),hcl];simp
  ·rw[List.getElem?_append_right (by omega),hcl]
   have:L.length*2+1-L.length*2=1:=by omega
   rw[this];rfl
theorem From.mono {A B:Nat} (h:A≤B) {v:Value} (hv:From B v):From A v:=by
 unfold From at hv ⊢
 split
 ·simp only at hv;omega
 ·trivial
theorem q8c (l:List Int):(ints l).all one=true:=by
 rw[List.all_eq_true]
 intro x hx
 simp only[ints,List.mem_map] at hx
 obtain ⟨n,_,rfl⟩:=hx
 rfl
theorem k7y {H:q0a} {x:Value} {l:List Int} {el:TypeId} (hx:Ints H x l) (hb:l.length*8≤140737488355328) :
  ∃v' H',q0m (H.push ⟨[],el,.tip,0,[]⟩) (.slice (some ⟨H.n,0,none⟩) 0 1) x el 1 8=some (v',H')∧Ext H H'∧Ints H' v' l:=by
 have hx1:=Ext.push H ⟨[],el,.tip,0,[]⟩
 obtain ⟨⟨a,c,rfl⟩,hc⟩:=hx.ext hx1
 have h0:cellsOf (H.push ⟨[],el,.tip,0,[]⟩) 1 (.slice (some ⟨H.n,0,none⟩) 0 1)=some []:=by simp[cellsOf]
 by_cases hl:l=[]
 ·subst hl
  refine ⟨.slice (some ⟨H.n,0,none⟩) 0 1,H.push ⟨[],el,.tip,0,[]⟩,?_,hx1,⟨⟨_,_,rfl⟩,by simp[cellsOf,ints]⟩⟩
  unfold q0m
  simp only[h0,hc]
  exact if_pos List.length_nil
 ·have hne:l.length≠0:=fun h=>hl (List.length_eq_zero_iff.1 h)
  refine ⟨.slice (some ⟨(H.push ⟨[],el,.tip,0,[]⟩).n,0,none⟩) (0+l.length) (0+l.length+1),(killAll (H.push ⟨[],el,.tip,0,[]⟩) [H.n]).push ⟨[]++ints l,el,.tip,0,[]⟩,?_,⟨by simp[q1v];omega,fun i hi=>?_⟩,?_⟩
  ·unfold q0m
   simp only[h0,hc]
   rw[if_neg hne,if_pos ⟨by omega,q8c l⟩,if_neg (by omega),q0b]
   simp only
   rw[if_pos ⟨trivial,trivial⟩,if_neg (by omega)]
  ·rw[q0s (by simp[q1v];omega),q0v _ _ _ (by simp;omega),q0s hi]
  ·have hg:=q0b (H:=killAll (H.push ⟨[],el,.tip,0,[]⟩) [H.n]) (b:=⟨[]++ints l,el,.tip,0,[]⟩)
   rw[q1v] at hg
   unfold Ints
   rw[Nat.zero_add]
   exact Sl.new hg q0n (by simp[ints])
theorem Nums.len {H H2:q0a} {kd:IntKind} {v:Value} {l:List Int} (h:Nums H kd v l):vLen false v H2=some (.int .i64 l.length,H2):=Sl.len h
theorem Ext.upd {H H1:q0a} (hx:Ext H H1) {i:Nat} {b c:ABlk} (hg:H1.get i=some b) (hi:H.n≤i):Ext H (H1.upd i c):=by
 refine ⟨by simpa using hx.1,fun j hj=>?_⟩
 rw[q0a.get_upd hg,if_neg (by omega)]
 exact hx.2 j hj
theorem q0r {H1:q0a} {i:Nat} {b c:ABlk} (hg:H1.get i=some b):(H1.upd i c).get i=some c:=by rw[q0a.get_upd hg,if_pos rfl]
theorem q0j {H1:q0a} {i j:Nat} {b c:ABlk} (hg:H1.get i=some b) (h:j≠i):(H1.upd i c).get j=H1.get j:=by rw[q0a.get_upd hg,if_neg h]
theorem Cut.ver {P:Program} {H H':q0a} (hv:q0B H H') {v:Value} {sz:Nat} (h:Cut P H v sz):Cut P H' v sz:=by
 unfold Cut at h ⊢
 split at h
 ·obtain ⟨b,h1,h2⟩:=h
  obtain ⟨b',g1,_,g3,_⟩:=hv.2 _ _ h1
  exact ⟨b',g1,by rw[g3];exact h2⟩
 ·trivial
theorem Sl.upd {H:q0a} {i sz n:Nat} {v:Value} {cs:List Value} {b c:ABlk} (h:Sl H sz v n cs) (hg:H.get i=some b) (hn:q0i v i):Sl (H.upd i c) sz v n cs:=by
 obtain ⟨⟨a,q,rfl⟩,hc⟩:=h
 refine ⟨⟨_,_,rfl⟩,?_⟩
 unfold cellsOf at hc ⊢
 split at hc
 ·exact hc
 ·rename_i j o n' c' hv
  injection hv with h1 h2 h3
  subst h1 h2 h3
  have hne:j≠i:=hn
  rw[q0a.get_upd hg,if_neg hne]
  exact hc
 ·exact hc
 ·cases hc
theorem q0i.lt {H:q0a} {sz n i:Nat} {v:Value} {cs:List Value} (h:Sl H sz v n cs) (hn:n≠0) (hi:H.n≤i):q0i v i:=by
 obtain ⟨j,o,c,cells,el,st,ver,anc,rfl,hg,_⟩:=h.form hn
 have:=q0a.lt_of_get hg
 show j≠i
 omega
theorem Ints.upd {H H1:q0a} {i:Nat} {v:Value} {l:List Int} {b c:ABlk} (h:Ints H v l) (hx:Ext H H1) (hg:H1.get i=some b) (hi:H.n≤i):Ints (H1.upd i c) v l:=by
 by_cases hl:l=[]
 ·subst hl
  obtain ⟨⟨a,q,rfl⟩,hc⟩:=h
  refine ⟨⟨_,_,rfl⟩,?_⟩
  unfold cellsOf at hc ⊢
  split at hc
  ·exact hc
  ·rename_i j o n' c' hv
   injection hv with h1 h2 h3
   subst h1 h2 h3
   rfl
  ·exact hc
  ·cases hc
 ·exact Sl.upd (h.ext hx) hg (q0i.lt h (fun h=>hl (List.length_eq_zero_iff.1 h)) hi)
section
variable {P:Program} {H H':q0a}
theorem Sl.part {sz n j k:Nat} {v:Value} {cs:List Value} (h:Sl H sz v n cs) (hc:Cut P H v sz) (hjk:j≤k) (hk:k≤n) :
  ∃v',(∀kd kd':IntKind,q3t (P:=P) v (some (.int kd j)) (some (.int kd' k)) sz H=some (v',H))∧(k=n→∀kd:IntKind,q3t (P:=P) v (some (.int kd j)) none sz H=some (v',H))∧Sl H sz v' (k-j) ((cs.take (k*sz)).drop (j*sz))∧Cut P H v' sz:=by
 obtain ⟨⟨a,c,rfl⟩,h2⟩:=h
 have hlen:=Sl.length ⟨⟨a,c,rfl⟩,h2⟩
 cases a with
 | none=>
  have h3:=h2
  unfold cellsOf at h2
  split at h2
  ·rename_i hv
   injection hv with _ hv1 hv2
   subst hv1 hv2
   obtain rfl:k=0:=by omega
   obtain rfl:j=0:=by omega
   injection h2 with h2
   subst h2
   exact ⟨.slice none 0 0,fun kd kd'=>rfl,fun _ kd=>rfl,⟨⟨_,_,rfl⟩,by simp[cellsOf]⟩,trivial⟩
  ·rename_i hv;injection hv with hv _ _;cases hv
  ·rename_i hv;injection hv with hv _ _;cases hv
  ·cases h2
 | some a=>
  obtain ⟨i,o,s⟩:=a
  cases s with
  | none=>
   obtain ⟨b,hb,hs⟩:=hc
   refine ⟨.slice (some ⟨i,o+(j:Int).toNat*sz,none⟩) ((k:Int).toNat-(j:Int).toNat) (if c=0 then 0 else max ((k:Int).toNat-(j:Int).toNat) (c-1-(j:Int).toNat)+1),fun kd kd'=>?_,fun e kd=>?_,⟨⟨_,_,by simp only[Int.toNat_natCast];exact rfl⟩,?_⟩,?_⟩
   ·simp only[q3t,bndV,hb,Option.map_some,hs]
    rw[if_pos ⟨by omega,by omega,by omega,trivial⟩]
    rfl
   ·subst e
    simp only[q3t,bndV,hb,Option.map_some,hs]
    rw[if_pos ⟨by omega,by omega,by omega,trivial⟩]
    rfl
   ·by_cases hk0:k-j=0
    ·have hle:k*sz≤j*sz:=Nat.mul_le_mul_right _ (by omega)
     have:((cs.take (k*sz)).drop (j*sz))=[]:=List.drop_eq_nil_of_le (by rw[List.length_take];omega)
     rw[this]
     simp only[Int.toNat_natCast,hk0]
     unfold cellsOf
     simp
    ·have hn:n≠0:=by omega
     obtain ⟨cells,el,st,ver,anc,g1,g2,g3,g4⟩:=q6n h2 hn
     unfold cellsOf
     simp only[Int.toNat_natCast]
     rw[if_neg hk0,g1]
     simp only
     have hle:k*sz≤n*sz:=Nat.mul_le_mul_right _ hk
     have hkj:k*sz=j*sz+(k-j)*sz:=by rw[←Nat.add_mul];congr 1;omega
     rw[if_pos ⟨g2,by omega⟩,←g4,List.take_take,Nat.min_eq_left hle,List.drop_take,List.drop_drop]
     congr 2
     omega
   ·exact ⟨b,hb,hs⟩
  | some s=>
   have h3:=h2
   unfold cellsOf at h2
   split at h2
   ·rename_i hv;injection hv with hv _ _;cases hv
   ·rename_i hv;injection hv with hv _ _;cases hv
   ·rename_i hv
    injection hv with _ hv1 hv2
    subst hv1 hv2
    obtain rfl:k=0:=by omega
    obtain rfl:j=0:=by omega
    injection h2 with h2
    subst h2
    exact ⟨.slice (some ⟨i,o,some s⟩) 0 0,fun kd kd'=>rfl,fun _ kd=>rfl,⟨⟨_,_,rfl⟩,by simp[cellsOf]⟩,trivial⟩
   ·cases h2
theorem Sl.drop {sz n j:Nat} {v:Value} {cs:List Value} (h:Sl H sz v n cs) (hc:Cut P H v sz) (hj:j≤n) :
  ∃v',(∀kd:IntKind,q3t (P:=P) v (some (.int kd j)) none sz H=some (v',H))∧Sl H sz v' (n-j) (cs.drop (j*sz))∧Cut P H v' sz:=by
 obtain ⟨v',_,h1,h2,h3⟩:=h.part hc hj (Nat.le_refl n)
 refine ⟨v',h1 rfl,?_,h3⟩
 rwa [List.take_of_length_le (by rw[h.length];exact Nat.le_refl _)] at h2
theorem Ints.drop {v:Value} {l:List Int} {j:Nat} (h:Ints H v l) (hc:Cut P H v 1) (hj:j≤l.length) :
  ∃v',(∀kd:IntKind,q3t (P:=P) v (some (.int kd j)) none 1 H=some (v',H))∧Ints H v' (l.drop j)∧Cut P H v' 1:=by
 obtain ⟨v',g1,g2,g3⟩:=Sl.drop h hc hj
 refine ⟨v',g1,?_,g3⟩
 unfold Ints
 rw[List.length_drop]
 simpa[ints] using g2
end
theorem Ext.ver {H H':q0a} (h:Ext H H'):q0B H H':=⟨h.1,fun i b hb=>⟨b,h.get hb,Nat.le_refl _,rfl,fun _=>⟨rfl,id,id⟩⟩⟩
structure Kp (H H':q0a):Prop where
 keeps:k1m H H'
 ver:q0B H H'
theorem Kp.refl (a:q0a):Kp a a:=⟨k1m.refl a,q0B.refl a⟩
theorem Ext.kp {H H':q0a} (h:Ext H H'):Kp H H':=⟨h.keeps,h.ver⟩
section
variable {ρ:Type} {s:Nat} {Q:q0a→List Value→ρ→Prop} {H H':q0a}
def k7z (Q:q0a→List Value→ρ→Prop):Prop:=∀⦃H H':q0a⦄ ⦃cs:List Value⦄ ⦃r:ρ⦄,Kp H H'→Q H cs r→Q H' cs r
def rowC (cs:List Value) (s k:Nat):List Value:=(cs.drop (k*s)).take s
def Rws (s:Nat) (Q:q0a→List Value→ρ→Prop) (H:q0a) (v:Value) (L:List ρ):Prop:=L.length<1000000000∧∃cs,Sl H s v L.length cs∧∀k r,L[k]?=some r→Q H (rowC cs s k) r
def q0U (s:Nat) (Q:q0a→List Value→ρ→Prop) (H:q0a) (el:TypeId) (v:Value) (L:List ρ):Prop:=L.length<1000000000∧∃cs,Own H el s v L.length cs∧∀k r,L[k]?=some r→Q H (rowC cs s k) r
theorem q0U.ext (hQ:k7z Q) (hk:Ext H H') {el:TypeId} {v:Value} {L:List ρ} (h:q0U s Q H el v L):q0U s Q H' el v L:=by
 obtain ⟨h0,cs,h1,h2⟩:=h
 exact ⟨h0,cs,h1.ext hk,fun k r hr=>hQ hk.kp (h2 k r hr)⟩
theorem q0U.rws {el:TypeId} {v:Value} {L:List ρ} (h:q0U s Q H el v L):Rws s Q H v L:=by
 obtain ⟨h0,cs,h1,h2⟩:=h
 exact ⟨h0,cs,h1.sl,h2⟩
theorem q0U.nil {H:q0a} {el:TypeId}:q0U s Q H el (.slice none 0 0) []:=⟨by simp,[],⟨by simp,.inl ⟨rfl,rfl⟩⟩,fun k r h=>by simp at h⟩
theorem Rws.len {H2:q0a} {v:Value} {L:List ρ} (h:Rws s Q H v L):vLen false v H2=some (.int .i64 L.length,H2):=by
 obtain ⟨_,cs,h1,_⟩:=h
 exact h1.len
theorem k8W {cs:List Value} {k f:Nat} {u:Value} (h:(rowC cs s k)[f]?=some u):f<s∧cs[k*s+f]?=some u:=by
 unfold rowC at h
 rw[List.getElem?_take] at h
 split at h
 ·rename_i hf
  rw[List.getElem?_drop] at h
  exact ⟨hf,h⟩
 ·cases h
theorem Rws.at {v:Value} {L:List ρ} (h:Rws s Q H v L) {k:Nat} {r:ρ} (hr:L[k]?=some r) :
  ∃i o row,(∀(kd:IntKind) (H2:q0a),q2E v (.int kd k) s H2=some (.pointer (some ⟨i,o,none⟩),H2))∧(∀u,row[0]?=some u→q0l (H.get i) o none H=some (u,H))∧(∀f u,row[f]?=some u→q0l (H.get i) (o+f) none H=some (u,H))∧q0l (H.get i) o (some s) H=some (.agg ⟨row⟩,H)∧Q H row r:=by
 obtain ⟨h0,cs,h1,h2⟩:=h
 obtain ⟨i,o,a1,a2,a3⟩:=h1.at (List.getElem?_eq_some_iff.1 hr).1
 have a2':∀f u,(rowC cs s k)[f]?=some u→q0l (H.get i) (o+f) none H=some (u,H):=fun f u hu=>by
  obtain ⟨b1,b2⟩:=k8W hu
  exact a2 f u b1 b2
 exact ⟨i,o,rowC cs s k,a1,fun u hu=>a2' 0 u hu,a2',a3,h2 k r hr⟩
theorem k7A {a b:List Value} {n k:Nat} (ha:a.length=n*s) (hk:k<n):rowC (a++b) s k=rowC a s k:=by
 unfold rowC
 have hle:k*s+s≤n*s:=by rw[←Nat.succ_mul];exact Nat.mul_le_mul_right _ hk
 rw[List.drop_append_of_le_length (by omega),List.take_append_of_le_length (by rw[List.length_drop];omega)]
theorem k4z {a b:List Value} {n k:Nat} (ha:a.length=n*s):rowC (a++b) s (n+k)=rowC b s k:=by
 unfold rowC
 rw[Nat.add_mul,←ha,List.drop_append,List.drop_eq_nil_of_le (by omega),List.nil_append]
 congr 2
 omega
theorem q0U.append (hQ:k7z Q) {el:TypeId} {bytes:Nat} {v x:Value} {L M:List ρ} (h:q0U s Q H el v L) (hx:Rws s Q H x M) (hone:M≠[]→∀cs,Sl H s x M.length cs→cs.all one=true) (hb:(L.length+M.length)*bytes≤140737488355328) (hsm:L.length+M.length<1000000000) :
  ∃v' H',q0m H v x el s bytes=some (v',H')∧q0U s Q H' el v' (L++M)∧(From H.n v'∨v'=v)∧Kp H H'∧H.n≤H'.n∧(∀i,i<H.n→q0i v i→H'.get i=H.get i):=by
 obtain ⟨h0,cs,h1,h2⟩:=h
 obtain ⟨x0,cx,x1,x2⟩:=hx
 by_cases hm:M=[]
 ·subst hm
  refine ⟨v,H,?_,⟨by simpa using h0,cs,by simpa using h1,by simpa using h2⟩,.inr rfl,Kp.refl H,Nat.le_refl _,fun _ _ _=>rfl⟩
  have hl:=x1.length
  simp at hl
  subst hl
  obtain ⟨⟨a,c,rfl⟩,hc⟩:=x1
  obtain ⟨⟨av,cv,rfl⟩,hv⟩:=h1.sl
  unfold q0m
  simp only[hc,hv]
  exact if_pos List.length_nil
 ·have hpos:0<M.length:=List.length_pos_iff.2 hm
  obtain ⟨v',H',q1,q2,q3,q4',q5,q6⟩:=h1.append2 x1 hpos (hone hm cx x1) hb
  have q4:Kp H H':=⟨q4',q1l q1⟩
  refine ⟨v',H',q1,⟨by rw[List.length_append];exact hsm,cs++cx,by rw[List.length_append];exact q2,fun k r hr=>?_⟩,.inl q3,q4,q5,q6⟩
  rcases Nat.lt_or_ge k L.length with hk|hk
  ·rw[List.getElem?_append_left hk] at hr
   rw[k7A h1.1 hk]
   exact hQ q4 (h2 k r hr)
  ·rw[List.getElem?_append_right hk] at hr
   obtain ⟨d,rfl⟩:∃d,k=L.length+d:=⟨k-L.length,by omega⟩
   rw[k4z h1.1]
   rw[Nat.add_sub_cancel_left] at hr
   exact hQ q4 (x2 d r hr)
theorem q0U.push (hQ:k7z Q) {el el':TypeId} {bytes i ver c:Nat} {anc:List Nat} {v:Value} {new:List Value} {L:List ρ} {r:ρ} (h:q0U s Q H el v L) (hg:H.get i=some ⟨new,el',.tip,ver,anc⟩) (hl:new.length=s) (hr:Q H new r) (hone:new.all one=true) (hb:(L.length+1)*bytes≤140737488355328) (hsm:L.length+1<1000000000) :
  ∃v' H',q0m H v (.slice (some ⟨i,0,none⟩) 1 c) el s bytes=some (v',H')∧q0U s Q H' el v' (L++[r])∧From H.n v'∧Kp H H'∧H.n≤H'.n∧(∀i,i<H.n→q0i v i→H'.get i=H.get i):=by
 have hx:Sl H s (.slice (some ⟨i,0,none⟩) 1 c) 1 new:=Sl.new hg q0n (by rw[hl,Nat.one_mul])
 obtain ⟨h0,cs,h1,h2⟩:=h
 obtain ⟨v',H',q1,q2,q3,q4',q5,q6⟩:=h1.append2 hx (by decide) hone hb
 have q4:Kp H H':=⟨q4',q1l q1⟩
 refine ⟨v',H',q1,⟨by rw[List.length_append];exact hsm,cs++new,by rw[List.length_append];exact q2,fun k r' hr'=>?_⟩,q3,q4,q5,q6⟩
 rcases Nat.lt_or_ge k L.length with hk|hk
 ·rw[List.getElem?_append_left hk] at hr'
  rw[k7A h1.1 hk]
  exact hQ q4 (h2 k r' hr')
 ·have hk0:k=L.length:=by
   have:=(List.getElem?_eq_some_iff.1 hr').1
   simp at this
   omega
  subst hk0
  have he:r'=r:=by simpa using hr'.symm
  subst he
  have:=k4z (b:=new) (k:=0) h1.1
  rw[Nat.add_zero] at this
  rw[this]
  have:rowC new s 0=new:=by unfold rowC;rw[Nat.zero_mul,List.drop_zero,←hl,List.take_length]
  rw[this]
  exact hQ q4 hr
end
theorem Own.notAt {H:q0a} {el:TypeId} {sz n i:Nat} {v:Value} {cs:List Value} (h:Own H el sz v n cs) (hi:H.n≤i):q0i v i:=by
 obtain ⟨_,⟨rfl,_⟩|⟨b,ver,anc,rfl,_,hg⟩⟩:=h
 ·trivial
 ·have:=q0a.lt_of_get hg
  show b≠i
  omega
theorem q0U.notAt {ρ:Type} {s:Nat} {Q:q0a→List Value→ρ→Prop} {H:q0a} {el:TypeId} {i:Nat} {v:Value} {L:List ρ} (h:q0U s Q H el v L) (hi:H.n≤i):q0i v i:=by
 obtain ⟨_,cs,h1,_⟩:=h
 exact h1.notAt hi
theorem Ext.grow {H0 H H':q0a} {v:Value} (hx:Ext H0 H) (hn:H.n≤H'.n) (hk:∀i,i<H.n→q0i v i→H'.get i=H.get i) (hf:From H0.n v):Ext H0 H':=
 ⟨Nat.le_trans hx.1 hn,fun i hi=>by rw[hk i (Nat.lt_of_lt_of_le hi hx.1) (q0i.of_from hf hi),hx.2 i hi]⟩
def AncB (B:Nat) (H:q0a) (el:TypeId) (v:Value):Prop:=match v with
 | .slice (some a) _ _=>∃blk,H.get a.block=some blk∧∀x∈blk.anc,B≤x∧x<a.block∧∃b',H.get x=some b'∧b'.elem=el
 | _=>True
theorem AncB.nil {B:Nat} {H:q0a} {el:TypeId}:AncB B H el (.slice none 0 0):=trivial
theorem AncB.ext {B:Nat} {H H':q0a} (hx:Ext H H') {el:TypeId} {v:Value} (h:AncB B H el v):AncB B H' el v:=by
 unfold AncB at h ⊢
 split
 ·obtain ⟨blk,h1,h2⟩:=h
  refine ⟨blk,hx.get h1,fun x hm=>?_⟩
  obtain ⟨a1,al,b',a2,a3⟩:=h2 x hm
  exact ⟨a1,al,b',hx.get a2,a3⟩
 ·trivial
theorem AncB.mono {A B:Nat} (hAB:A≤B) {H:q0a} {el:TypeId} {v:Value} (h:AncB B H el v):AncB A H el v:=by
 unfold AncB at h ⊢
 split
 ·obtain ⟨blk,h1,h2⟩:=h
  exact ⟨blk,h1,fun x hm=>⟨Nat.le_trans hAB (h2 x hm).1,(h2 x hm).2⟩⟩
 ·trivial
theorem k2Q {B:Nat} {H H':q0a} {v x v':Value} {el:TypeId} {sz bytes:Nat} (h:q0m H v x el sz bytes=some (v',H')) (hf:From B v) (ha:AncB B H el v):AncB B H' el v':=by
 have hver:=q1l h
 have fresh:∀{K:q0a} {cs:List Value} {n c:Nat},K.n=H.n→AncB B (K.push ⟨cs,el,.tip,0,[]⟩) el (.slice (some ⟨H.n,0,none⟩) n c):=fun {K cs n c} hK=>⟨⟨cs,el,.tip,0,[]⟩,by rw[←hK];exact q0b,fun x hx=>by cases hx⟩
 unfold q0m at h
 split at h
 ·rename_i a n c a' m c'
  split at h
  ·rename_i old new hold hnew
   split at h
   ·injection h with h
    injection h with h1 h2
    subst h1 h2
    exact ha
   ·split at h
    ·split at h
     ·injection h with h
      injection h with h1 h2
      subst h1 h2
      exact fresh rfl
     ·rename_i aa
      split at h
      ·injection h with h
       injection h with h1 h2
       subst h1 h2
       exact fresh rfl
      ·split at h
       ·rename_i blk hblk
        split at h
        ·rename_i hst
         split at h
         ·injection h with h
          injection h with h1 h2
          subst h1 h2
          obtain ⟨blk',g1,g2⟩:=ha
          rw[hblk] at g1
          injection g1 with g1
          subst g1
          refine ⟨_,by have:=q0b (H:=H.upd aa.block {blk with st:=.ret}) (b:=⟨old++new,el,.tip,0,aa.block::blk.anc⟩);simpa using this,fun x hx=>?_⟩
          rcases List.mem_cons.1 hx with rfl|hx
          ·obtain ⟨b',e1,_,e2,_⟩:=hver.2 _ _ hblk
           exact ⟨hf,q0a.lt_of_get hblk,b',e1,e2.trans hst.2⟩
          ·obtain ⟨a1,al,b0,a2,a3⟩:=g2 x hx
           obtain ⟨b',e1,_,e2,_⟩:=hver.2 _ _ a2
           exact ⟨a1,Nat.lt_trans al (q0a.lt_of_get hblk),b',e1,e2.trans a3⟩
         ·injection h with h
          injection h with h1 h2
          subst h1 h2
          exact fresh (q1v _ _)
        ·cases h
       ·cases h
    ·cases h
  ·cases h
 ·cases h
theorem q0U.store {ρ:Type} {s:Nat} {Q:q0a→List Value→ρ→Prop} {B:Nat} {H:q0a} {el:TypeId} {v u:Value} {L:List ρ} {k f:Nat} {r:ρ} (h:q0U s Q H el v L) (hf:From B v) (ha:AncB B H el v) (hk:L[k]?=some r) (hfs:f<s) (hu:u.cells.toList=[u]) (hone:one u=true)
  (hQ:∀(H':q0a) (row:List Value) (r:ρ),(∀j blk,H.get j=some blk→blk.elem≠el→H'.get j=some blk)→Q H row r→Q H' row r) :
  ∃b,(∀(kd:IntKind) (H2:q0a),q2E v (.int kd k) s H2=some (.pointer (some ⟨b,k*s,none⟩),H2))∧∃row,(∀g w,row[g]?=some w→q0l (H.get b) (k*s+g) none H=some (w,H))∧row.length=s∧Q H row r ∧
   ∃H',q0u (H.get b) b (k*s+f) u 1 H=some (.tuple ⟨[]⟩,H')∧H'.n=H.n∧(∀j,j<B→H'.get j=H.get j)∧(∀j blk,H.get j=some blk→blk.elem≠el→H'.get j=some blk)∧AncB B H' el v∧q0B H H'∧∀r',Q H' (row.set f u) r'→q0U s Q H' el v (L.set k r'):=by
 obtain ⟨h0,cs,h1,h2⟩:=h
 have hkl:=(List.getElem?_eq_some_iff.1 hk).1
 obtain ⟨hcl,⟨rfl,hn0⟩|⟨b,ver,anc,rfl,hn,hg⟩⟩:=h1
 ·omega
 have hle:k*s+s≤cs.length:=by rw[hcl,←Nat.succ_mul];exact Nat.mul_le_mul_right _ hkl
 have hrl:(rowC cs s k).length=s:=by unfold rowC;rw[List.length_take,List.length_drop];omega
 obtain ⟨blk,g1,g2⟩:=ha
 have g1':blk=⟨cs,el,.tip,ver,anc⟩:=by
  have:=g1.symm.trans hg
  injection this
 subst g1'
 simp only at g2
 have hbn:b∉anc:=fun hm=>by
  have:=(g2 b hm).2.1
  exact Nat.lt_irrefl _ this
 have hgk:(killAll H anc).get b=some ⟨cs,el,.tip,ver,anc⟩:=by rw[q0v _ _ _ hbn];exact hg
 have hlow:∀j,j<B→((killAll H anc).upd b ⟨cs.set (k*s+f) u,el,.tip,ver+1,[]⟩).get j=H.get j:=fun j hj=>by
  have hbB:B≤b:=hf
  rw[q0a.get_upd hgk,if_neg (by omega),q0v _ _ _ (fun hm=>by have:=(g2 j hm).1;omega)]
 have hoth:∀j blk,H.get j=some blk→blk.elem≠el→((killAll H anc).upd b ⟨cs.set (k*s+f) u,el,.tip,ver+1,[]⟩).get j=some blk:=fun j blk hj he=>by
  have hjb:j≠b:=fun e=>by subst e;rw[hg] at hj;injection hj with hj;subst hj;exact he rfl
  rw[q0a.get_upd hgk,if_neg hjb,q0v _ _ _ (fun hm=>by
   obtain ⟨_,_,b',a2,a3⟩:=g2 j hm
   rw[hj] at a2
   injection a2 with a2
   subst a2
   exact he a3)]
  exact hj
 have hself:((killAll H anc).upd b ⟨cs.set (k*s+f) u,el,.tip,ver+1,[]⟩).get b=some ⟨cs.set (k*s+f) u,el,.tip,ver+1,[]⟩:=by rw[q0a.get_upd hgk,if_pos rfl]
 refine ⟨b,fun kd H2=>?_,rowC cs s k,fun g w hw=>?_,hrl,h2 k r hk,(killAll H anc).upd b ⟨cs.set (k*s+f) u,el,.tip,ver+1,[]⟩,?_,?_,hlow,hoth,⟨_,hself,fun x hx=>by cases hx⟩,?_,fun r' hr'=>⟨by rw[List.length_set];exact h0,cs.set (k*s+f) u,⟨by rw[List.length_set,List.length_set];exact hcl,.inr ⟨b,ver+1,[],by rw[List.length_set],by rw[List.length_set];exact hn,hself⟩⟩,fun m r2 hm=>?_⟩⟩
 ·rw[q4z ⟨by omega,by omega⟩]
  simp
 ·obtain ⟨w1,w2⟩:=k8W hw
  rw[hg,q3d q0n,w2]
  rfl
 ·rw[hg,q0x (by rw[hu];rfl) (by rw[hu];simpa using hone) (by omega),hu]
  congr 4
  rw[List.set_eq_take_append_cons_drop,if_pos (by omega)]
  simp
 ·simp[q1v]
 ·exact (q0B.kill H anc).trans (q0B.upd hgk (Nat.le_succ ver) rfl (fun e=>by simp only at e;omega))
 ·rw[List.getElem?_set] at hm
  split at hm
  ·rename_i e
   subst e
   have hm:r'=r2:=by simpa[hkl] using hm
   subst hm
   have:rowC (cs.set (k*s+f) u) s k=(rowC cs s k).set f u:=by
    unfold rowC
    rw[List.drop_set,if_neg (by omega),List.take_set]
    congr 1
    omega
   rw[this]
   exact hr'
  ·rename_i e
   have hml:=(List.getElem?_eq_some_iff.1 hm).1
   have:rowC (cs.set (k*s+f) u) s m=rowC cs s m:=by
    unfold rowC
    rcases Nat.lt_or_ge k m with hlt|hge
    ·have:(k+1)*s≤m*s:=Nat.mul_le_mul_right _ hlt
     rw[Nat.succ_mul] at this
     rw[List.drop_set,if_pos (by omega)]
    ·have:(m+1)*s≤k*s:=Nat.mul_le_mul_right _ (by omega)
     rw[Nat.succ_mul] at this
     rw[List.drop_set,if_neg (by omega),List.take_set_of_le (by omega)]
   rw[this]
   exact hQ _ _ _ hoth (h2 m r2 hm)
theorem Cut.upd {P:Program} {H:q0a} {i sz:Nat} {v:Value} {b c:ABlk} (h:Cut P H v sz) (hg:H.get i=some b) (he:c.elem=b.elem):Cut P (H.upd i c) v sz:=by
 unfold Cut at h ⊢
 split at h
 ·rename_i j _ _ _
  obtain ⟨b',h1,h2⟩:=h
  by_cases hj:j=i
  ·subst hj
   rw[hg] at h1
   injection h1 with h1
   subst h1
   exact ⟨c,q0r hg,by rw[he];exact h2⟩
  ·exact ⟨b',by rw[q0j hg hj];exact h1,h2⟩
 ·trivial
theorem Own.notAt_elem {H:q0a} {el:TypeId} {sz n i:Nat} {v:Value} {cs:List Value} {b:ABlk} (h:Own H el sz v n cs) (hg:H.get i=some b) (he:b.elem≠el):q0i v i:=by
 obtain ⟨_,⟨rfl,_⟩|⟨q,ver,anc,rfl,_,h3⟩⟩:=h
 ·trivial
 ·intro e
  have e:q=i:=e
  subst e
  rw[hg] at h3
  injection h3 with h3
  subst h3
  exact he rfl
theorem Own.move {H H':q0a} {el:TypeId} {sz n:Nat} {v:Value} {cs:List Value} (h:Own H el sz v n cs) (hk:∀i b,H.get i=some b→b.elem=el→H'.get i=some b):Own H' el sz v n cs:=by
 obtain ⟨hl,h⟩:=h
 refine ⟨hl,?_⟩
 rcases h with h|⟨q,ver,anc,h1,h2,h3⟩
 ·exact .inl h
 ·exact .inr ⟨q,ver,anc,h1,h2,hk _ _ h3 rfl⟩
theorem AncB.move {B:Nat} {H H':q0a} {el:TypeId} {v:Value} (h:AncB B H el v) (hv:q0B H H') (hk:∀i b,H.get i=some b→¬q0i v i→H'.get i=some b):AncB B H' el v:=by
 unfold AncB at h ⊢
 split
 ·rename_i a _ _
  obtain ⟨blk,h1,h2⟩:=h
  refine ⟨blk,hk _ _ h1 (fun hn=>hn rfl),fun x hm=>?_⟩
  obtain ⟨a1,al,b',a2,a3⟩:=h2 x hm
  obtain ⟨b2,e1,_,e2,_⟩:=hv.2 _ _ a2
  exact ⟨a1,al,b2,e1,e2.trans a3⟩
 ·trivial
theorem z9h {H:q0a} {x:Value} {l:List Int} {el:TypeId} (hx:Ints H x l) (hb:l.length*8≤140737488355328) :
  ∃v H',q0m H (.slice none 0 0) x el 1 8=some (v,H')∧Ext H H'∧Own H' el 1 v l.length (ints l)∧From H.n v∧AncB H.n H' el v:=by
 by_cases hl:l=[]
 ·subst hl
  refine ⟨.slice none 0 0,H,?_,Ext.refl _,⟨rfl,.inl ⟨rfl,rfl⟩⟩,trivial,trivial⟩
  obtain ⟨⟨a,c,rfl⟩,hc⟩:=hx
  have h2:cellsOf H 1 (.slice none 0 0)=some []:=rfl
  unfold q0m
  simp only[h2,hc]
  exact if_pos List.length_nil
 ·have hown:Own H el 1 (.slice none 0 0) 0 []:=⟨rfl,.inl ⟨rfl,rfl⟩⟩
  obtain ⟨v',H',q1,q2,q3,q4,q5,q6⟩:=hown.append2 (bytes:=8) hx (List.length_pos_iff.2 hl) (q8c l) (by omega)
  refine ⟨v',H',q1,⟨q5,fun i hi=>q6 i hi trivial⟩,by simpa using q2,q3,k2Q q1 trivial trivial⟩
structure Tok where
 at_:Int
 len:Int
 out:List Int
 err:Int
deriving DecidableEq
def tokQ (P:Program) (H:q0a) (cs:List Value) (t:Tok):Prop:=∃a c,cs=[.int .i64 t.at_,.int .i64 t.len,.slice a t.out.length c,.int .i64 t.err]∧Ints H (.slice a t.out.length c) t.out∧tiny t.out∧Cut P H (.slice a t.out.length c) 1
theorem k2R {P:Program}:k7z (tokQ P):=fun H H' cs t hk ⟨a,c,h1,h2,h3,h4⟩=>⟨a,c,h1,h2.keeps hk.keeps,h3,h4.ver hk.ver⟩
theorem Ints.elem {P:Program} {H H':q0a} {v:Value} {l:List Int} {el:TypeId} {s:Nat} (h:Ints H v l) (hc:Cut P H v 1) (hel:(P.info? el).map (·.size)=some s) (hs:s≠1) (hk:∀j blk,H.get j=some blk→blk.elem≠el→H'.get j=some blk):Ints H' v l∧Cut P H' v 1:=by
 have ne:∀{b:ABlk},(P.info? b.elem).map (·.size)=some 1→b.elem≠el:=fun hb e=>by
  rw[e,hel] at hb
  injection hb with hb
  exact hs hb
 obtain ⟨⟨a,c,rfl⟩,h2⟩:=h
 unfold cellsOf at h2
 split at h2
 ·rename_i hv
  exact ⟨⟨⟨_,_,rfl⟩,by rw[hv];unfold cellsOf;exact h2⟩,by rw[hv];trivial⟩
 ·rename_i i o n' c' hv
  injection hv with e1 e2 e3
  subst e1 e2 e3
  obtain ⟨b,hb1,hb2⟩:=hc
  have hb':=hk _ _ hb1 (ne hb2)
  refine ⟨⟨⟨_,_,rfl⟩,?_⟩,⟨b,hb',hb2⟩⟩
  unfold cellsOf
  simp only[hb']
  rw[hb1] at h2
  exact h2
 ·rename_i hv
  exact ⟨⟨⟨_,_,rfl⟩,by rw[hv];unfold cellsOf;exact h2⟩,by rw[hv];trivial⟩
 ·cases h2
theorem k2S {P:Program} {H H':q0a} {cs:List Value} {t:Tok} {el:TypeId} {s:Nat} (hel:(P.info? el).map (·.size)=some s) (hs:s≠1) (hk:∀j blk,H.get j=some blk→blk.elem≠el→H'.get j=some blk) (h:tokQ P H cs t):tokQ P H' cs t:=by
 obtain ⟨a,c,h1,h2,h3,h4⟩:=h
 obtain ⟨g1,g2⟩:=h2.elem h4 hel hs hk
 exact ⟨a,c,h1,g1,h3,g2⟩
abbrev Toks (P:Program):=Rws 4 (tokQ P)
abbrev k5E (P:Program):=q0U 4 (tokQ P)
theorem Rws.ones {P:Program} {H:q0a} {v:Value} {L:List Tok} (h:Toks P H v L):∀cs,Sl H 4 v L.length cs→cs.all one=true:=by
 intro cs hcs
 obtain ⟨h0,cs',h1,h2⟩:=h
 have:cs'=cs:=Option.some.inj (h1.2.symm.trans hcs.2)
 subst this
 rw[List.all_eq_true]
 intro x hx
 obtain ⟨j,hj,rfl⟩:=List.getElem_of_mem hx
 have hl:=h1.length
 have hk:j / 4<L.length:=by omega
 obtain ⟨a,c,e,_⟩:=h2 (j / 4) _ (List.getElem?_eq_getElem hk)
 have hrow:(rowC cs' 4 (j / 4))[j % 4]?=some cs'[j]:=by
  unfold rowC
  rw[List.getElem?_take,if_pos (Nat.mod_lt _ (by decide)),List.getElem?_drop,show j / 4*4+j % 4=j by omega,List.getElem?_eq_getElem hj]
 rw[e] at hrow
 have:=List.mem_of_getElem? hrow
 simp at this
 rcases this with h|h|h|h<;>rw[h]<;>rfl
def Upto (N:Nat) (v:Value):Prop:=match v with
 | .slice (some a) _ _=>a.block<N
 | _=>True
theorem q0U.upto {ρ:Type} {s:Nat} {Q:q0a→List Value→ρ→Prop} {H:q0a} {el:TypeId} {v:Value} {L:List ρ} (h:q0U s Q H el v L):Upto H.n v:=by
 obtain ⟨_,cs,⟨_,⟨rfl,_⟩|⟨b,ver,anc,rfl,_,hg⟩⟩,_⟩:=h
 ·trivial
 ·exact q0a.lt_of_get hg
theorem q0U.storeRow {ρ:Type} {s:Nat} {Q:q0a→List Value→ρ→Prop} {B:Nat} {H:q0a} {el:TypeId} {v:Value} {new:List Value} {L:List ρ} {k:Nat} {r:ρ} (h:q0U s Q H el v L) (hf:From B v) (ha:AncB B H el v) (hk:L[k]?=some r) (hs0:0<s) (hnl:new.length=s) (hone:new.all one=true)
  (hQ:∀(H':q0a) (row:List Value) (r:ρ),(∀j blk,H.get j=some blk→blk.elem≠el→H'.get j=some blk)→Q H row r→Q H' row r) :
  ∃b,(∀(kd:IntKind) (H2:q0a),q2E v (.int kd k) s H2=some (.pointer (some ⟨b,k*s,none⟩),H2)) ∧
   ∃H',q0u (H.get b) b (k*s) (.agg ⟨new⟩) s H=some (.tuple ⟨[]⟩,H')∧H'.n=H.n∧(∀j,j<B→H'.get j=H.get j)∧(∀j blk,H.get j=some blk→blk.elem≠el→H'.get j=some blk)∧(∀N j,Upto N v→N≤j→H'.get j=H.get j)∧AncB B H' el v∧q0B H H'∧(∀g w,new[g]?=some w→q0l (H'.get b) (k*s+g) none H'=some (w,H'))∧∀r',Q H' new r'→q0U s Q H' el v (L.set k r'):=by
 obtain ⟨h0,cs,h1,h2⟩:=h
 have hkl:=(List.getElem?_eq_some_iff.1 hk).1
 obtain ⟨hcl,⟨rfl,hn0⟩|⟨b,ver,anc,rfl,hn,hg⟩⟩:=h1
 ·omega
 have hle:k*s+s≤cs.length:=by rw[hcl,←Nat.succ_mul];exact Nat.mul_le_mul_right _ hkl
 obtain ⟨blk,g1,g2⟩:=ha
 have g1':blk=⟨cs,el,.tip,ver,anc⟩:=by
  have:=g1.symm.trans hg
  injection this
 subst g1'
 simp only at g2
 have hbn:b∉anc:=fun hm=>by
  have:=(g2 b hm).2.1
  exact Nat.lt_irrefl _ this
 have hgk:(killAll H anc).get b=some ⟨cs,el,.tip,ver,anc⟩:=by rw[q0v _ _ _ hbn];exact hg
 obtain ⟨cs',hcs'⟩:∃cs',cs'=cs.take (k*s)++new++cs.drop (k*s+s):=⟨_,rfl⟩
 have hcl':cs'.length=cs.length:=by rw[hcs'];simp only[List.length_append,List.length_take,List.length_drop];omega
 obtain ⟨H',hH'⟩:∃H',H'=(killAll H anc).upd b ⟨cs',el,.tip,ver+1,[]⟩:=⟨_,rfl⟩
 have hlow:∀j,j<B→H'.get j=H.get j:=fun j hj=>by
  have hbB:B≤b:=hf
  rw[hH',q0a.get_upd hgk,if_neg (by omega),q0v _ _ _ (fun hm=>by have:=(g2 j hm).1;omega)]
 have hoth:∀j blk,H.get j=some blk→blk.elem≠el→H'.get j=some blk:=fun j blk hj he=>by
  have hjb:j≠b:=fun e=>by subst e;rw[hg] at hj;injection hj with hj;subst hj;exact he rfl
  rw[hH',q0a.get_upd hgk,if_neg hjb,q0v _ _ _ (fun hm=>by
   obtain ⟨_,_,b',a2,a3⟩:=g2 j hm
   rw[hj] at a2
   injection a2 with a2
   subst a2
   exact he a3)]
  exact hj
 have hself:H'.get b=some ⟨cs',el,.tip,ver+1,[]⟩:=by rw[hH',q0a.get_upd hgk,if_pos rfl]
 have hrow:rowC cs' s k=new:=by
  unfold rowC
  rw[hcs',List.append_assoc,List.drop_append,List.drop_of_length_le (by rw[List.length_take];omega),List.nil_append,List.length_take,Nat.min_eq_left (by omega),Nat.sub_self,List.drop_zero,List.take_append_of_le_length (by omega),List.take_of_length_le (by omega)]
 refine ⟨b,fun kd H2=>?_,H',?_,?_,hlow,hoth,fun N j hN hj=>?_,⟨_,hself,fun x hx=>by cases hx⟩,?_,fun g w hw=>?_,fun r' hr'=>⟨by rw[List.length_set];exact h0,cs',⟨by rw[List.length_set,hcl'];exact hcl,.inr ⟨b,ver+1,[],by rw[List.length_set],by rw[List.length_set];exact hn,hself⟩⟩,fun m r2 hm=>?_⟩⟩
 ·rw[q4z ⟨by omega,by omega⟩]
  simp
 ·rw[hg,q0x (v:=.agg ⟨new⟩) (by exact hnl) hone hle,hH',hcs']
  rfl
 ·rw[hH'];simp[q1v]
 ·have hbN:b<N:=hN
  rw[hH',q0a.get_upd hgk,if_neg (by omega),q0v _ _ _ (fun hm=>by have:=(g2 j hm).2.1;omega)]
 ·rw[hH'];exact (q0B.kill H anc).trans (q0B.upd hgk (Nat.le_succ ver) rfl (fun e=>by simp only at e;omega))
 ·rw[←hrow] at hw
  obtain ⟨w1,w2⟩:=k8W hw
  rw[hself,q3d q0n,w2]
  rfl
 ·rw[List.getElem?_set] at hm
  split at hm
  ·rename_i e
   subst e
   have hm:r'=r2:=by simpa[hkl] using hm
   subst hm
   rw[hrow]
   exact hr'
  ·rename_i e
   have hml:=(List.getElem?_eq_some_iff.1 hm).1
   have:rowC cs' s m=rowC cs s m:=by
    unfold rowC
    rcases Nat.lt_or_ge k m with hlt|hge
    ·have:(k+1)*s≤m*s:=Nat.mul_le_mul_right _ hlt
     rw[Nat.succ_mul] at this
     rw[hcs',List.drop_append,List.drop_of_length_le (by simp only[List.length_append,List.length_take];omega),List.nil_append,List.drop_drop]
     congr 2
     simp only[List.length_append,List.length_take]
     omega
    ·have:(m+1)*s≤k*s:=Nat.mul_le_mul_right _ (by omega)
     rw[Nat.succ_mul] at this
     rw[hcs',List.append_assoc,List.drop_append,List.take_append_of_le_length (by rw[List.length_drop,List.length_take];omega),List.drop_take,List.take_take,Nat.min_eq_left (by omega)]
   rw[this]
   exact hQ _ _ _ hoth (h2 m r2 hm)
theorem z1O {H:q0a} {x:Value} {l:List Int} {el:TypeId} (hx:Ints H x l) (hb:l.length*8≤140737488355328) (h0:l≠[]) :
  ∃v' H',q0m (H.push ⟨[],el,.tip,0,[]⟩) (.slice (some ⟨H.n,0,none⟩) 0 1) x el 1 8=some (v',H')∧Ext H H'∧Own H' el 1 v' l.length (ints l)∧From H.n v':=by
 obtain ⟨v',H',q1,q2,q3⟩:=k7y (el:=el) hx hb
 refine ⟨v',H',q1,q2,?_⟩
 unfold q0m at q1
 obtain ⟨⟨a,c,rfl⟩,hc⟩:=hx.ext (Ext.push H ⟨[],el,.tip,0,[]⟩)
 have h1:cellsOf (H.push ⟨[],el,.tip,0,[]⟩) 1 (.slice (some ⟨H.n,0,none⟩) 0 1)=some []:=by simp[cellsOf]
 have hpos:=List.length_pos_iff.2 h0
 simp only[h1,hc] at q1
 rw[if_neg (by omega)] at q1
 split at q1
 ·rw[if_neg (by omega),q0b] at q1
  simp only at q1
  rw[if_pos ⟨trivial,trivial⟩,if_neg (by omega)] at q1
  injection q1 with q1
  injection q1 with q1 q2
  subst q1 q2
  have hg:=q0b (H:=killAll (H.push ⟨[],el,.tip,0,[]⟩) [H.n]) (b:=⟨[]++ints l,el,.tip,0,[]⟩)
  rw[q1v] at hg
  refine ⟨⟨by simp[ints],.inr ⟨_,0,[],by rw[Nat.zero_add],hpos,hg⟩⟩,?_⟩
  show H.n≤(H.push ⟨[],el,.tip,0,[]⟩).n
  simp
 ·cases q1
theorem WL:type_of% (And.intro @List.nil_append.{0} (And.intro @Option.map_some.{0,0} (And.intro @Option.map_none.{0,0} (And.intro @Option.bind_some.{0,0} (And.intro @List.map_cons.{0,0} (And.intro @List.map_nil.{0,0} (And.intro @if_true.{1} (And.intro @if_false.{1} (And.intro @eq_self.{1} (And.intro @List.length_cons.{0} (And.intro @List.length_nil.{0} (And.intro @List.all_cons.{0} (And.intro @List.all_nil.{0} (And.intro @List.take_zero.{0} (And.intro @List.drop_nil.{0} (And.intro @List.append_nil.{0} (And.intro @List.getElem?_cons_zero.{0} (And.intro @List.getElem?_cons_succ.{0} (And.intro @List.drop_succ_cons.{0} (And.intro @List.drop_zero.{0} (And.intro @List.take_succ_cons.{0} @List.cons_append.{0}))))))))))))))))))))):=
 (And.intro @List.nil_append.{0} (And.intro @Option.map_some.{0,0} (And.intro @Option.map_none.{0,0} (And.intro @Option.bind_some.{0,0} (And.intro @List.map_cons.{0,0} (And.intro @List.map_nil.{0,0} (And.intro @if_true.{1} (And.intro @if_false.{1} (And.intro @eq_self.{1} (And.intro @List.length_cons.{0} (And.intro @List.length_nil.{0} (And.intro @List.all_cons.{0} (And.intro @List.all_nil.{0} (And.intro @List.take_zero.{0} (And.intro @List.drop_nil.{0} (And.intro @List.append_nil.{0} (And.intro @List.getElem?_cons_zero.{0} (And.intro @List.getElem?_cons_succ.{0} (And.intro @List.drop_succ_cons.{0} (And.intro @List.drop_zero.{0} (And.intro @List.take_succ_cons.{0} @List.cons_append.{0})))))))))))))))))))))
theorem WA:type_of% (And.intro WL (And.intro (And.intro (And.intro (And.intro (And.intro (And.intro (And.intro @z7R @z3A) (And.intro @z3B (And.intro @z3C @j1p))) (And.intro (And.intro @z0w (And.intro @k7o @z3r)) (And.intro @z0x (And.intro (And.intro (And.intro (And.intro (And.intro @z3s @z7G) (And.intro @z7H @z7I)) (And.intro (And.intro @z3t @rd_t) (And.intro @rd_f (And.intro @j1o @z3u)))) (And.intro (And.intro (And.intro @z7J @z0y) (And.intro @z0z (And.intro @z0A @z7K))) (And.intro (And.intro @z7L @z0B) (And.intro @z7M (And.intro @z3v @z7N))))) (And.intro (And.intro (And.intro (And.intro @z0C @z0D) (And.intro @z0E @k7p)) (And.intro (And.intro @z0F @k7q) (And.intro @z7O (And.intro @z3w @z3x)))) (And.intro (And.intro (And.intro @z3y @z0G) (And.intro @k7r (And.intro @z0H @z7P))) (And.intro (And.intro @k7s @z0I) (And.intro @k7t (And.intro @z3z @z7Q))))))))) (And.intro (And.intro (And.intro @z3D (And.intro @z0J @k7u)) (And.intro @k4t (And.intro @z7S @z7T))) (And.intro (And.intro @k0j (And.intro @q8r @k2M)) (And.intro @k4u (And.intro @k4v @k1b))))) (And.intro (And.intro (And.intro (And.intro @k0G (And.intro @k2N @j1b)) (And.intro @z3h (And.intro @k8L @k0D))) (And.intro (And.intro @z0j (And.intro @z0k @z0l)) (And.intro @z0m (And.intro @z0n @k7m)))) (And.intro (And.intro (And.intro @k7k (And.intro @k7l @k2J)) (And.intro @k4q (And.intro @z2J @z2K))) (And.intro (And.intro @z7f (And.intro @z7j @z7k)) (And.intro @j0P (And.intro @k9M @j0Q)))))) (And.intro (And.intro (And.intro (And.intro (And.intro @z7g (And.intro @z7h @z7i)) (And.intro @z2L (And.intro @k9L @k0Z))) (And.intro (And.intro @k6W (And.intro @k0A @k9O)) (And.intro @k6X (And.intro @z2M @z2N)))) (And.intro (And.intro (And.intro @q9W (And.intro @q7W @k9P)) (And.intro @k9Q (And.intro @k9R @k9S))) (And.intro (And.intro @k9T (And.intro @z7l @z7m)) (And.intro @z2P (And.intro @k6Y @k9U))))) (And.intro (And.intro (And.intro (And.intro @k4h (And.intro @z7n @k9V)) (And.intro @k4i (And.intro @k2B @k4j))) (And.intro (And.intro @z2Q (And.intro @q3R @k1p)) (And.intro @z5G (And.intro @k2C @k9W)))) (And.intro (And.intro (And.intro @k9X (And.intro @k6Z @z7o)) (And.intro @z7p (And.intro @z7q @z7r))) (And.intro (And.intro @k7a (And.intro @j0R @z2X)) (And.intro @z2Y (And.intro @z2Z @z3a))))))) (And.intro (And.intro (And.intro (And.intro (And.intro (And.intro @z3b @z3c) (And.intro @z3d (And.intro @z3e @z3f))) (And.intro (And.intro @k7b (And.intro @j0S @j0T)) (And.intro @k7c (And.intro @j0U @k2D)))) (And.intro (And.intro (And.intro @z7s (And.intro @k1w @z2S)) (And.intro @q9X (And.intro @q4z @q9Y))) (And.intro (And.intro @z2T (And.intro @q9Z @j0V)) (And.intro @k7e (And.intro @j0W @z7u))))) (And.intro (And.intro (And.intro (And.intro @k0C (And.intro @z2V @q3d)) (And.intro @q4e (And.intro @q0n @z7v))) (And.intro (And.intro @k5v (And.intro @k9Y @k9Z)) (And.intro @k0a (And.intro @q7n @q0x)))) (And.intro (And.intro (And.intro @k7f (And.intro @k7g @k4l)) (And.intro @k2E (And.intro @k0b @k1a))) (And.intro (And.intro @k0c (And.intro @k4m @z2W)) (And.intro @z0a (And.intro @k7h @k2F)))))) (And.intro (And.intro (And.intro (And.intro (And.intro @k4n (And.intro @k2G @z0b)) (And.intro @z0c (And.intro @q0b @k1x))) (And.intro (And.intro @k7i (And.intro @k4o @q7X)) (And.intro @q7Y (And.intro @z0d @k0d)))) (And.intro (And.intro (And.intro @k1y (And.intro @z0e @j0Z)) (And.intro @z0f (And.intro @j1a @k0e))) (And.intro (And.intro @k0f (And.intro @k0g @z0g)) (And.intro @k7j (And.intro @z0h @z0i))))) (And.intro (And.intro (And.intro (And.intro @k2H (And.intro @z7x @k4g)) (And.intro @k2A (And.intro @q0a.n_push @q0a.n_upd))) (And.intro (And.intro @Bool.not_true (And.intro @Bool.not_false @decide_true)) (And.intro @decide_false (And.intro @Int.toNat_natCast @Int.le_refl)))) (And.intro (And.intro (And.intro @Nat.le_refl (And.intro @Nat.zero_add @Nat.add_zero)) (And.intro @Nat.zero_mul (And.intro @Nat.mul_one @Nat.mul_zero))) (And.intro (And.intro @and_self (And.intro @and_true @true_and)) (And.intro @Bool.and_self (And.intro @Bool.and_true @Bool.true_and))))))))):=
 And.intro WL (And.intro (And.intro (And.intro (And.intro (And.intro (And.intro (And.intro @z7R @z3A) (And.intro @z3B (And.intro @z3C @j1p))) (And.intro (And.intro @z0w (And.intro @k7o @z3r)) (And.intro @z0x (And.intro (And.intro (And.intro (And.intro (And.intro @z3s @z7G) (And.intro @z7H @z7I)) (And.intro (And.intro @z3t @rd_t) (And.intro @rd_f (And.intro @j1o @z3u)))) (And.intro (And.intro (And.intro @z7J @z0y) (And.intro @z0z (And.intro @z0A @z7K))) (And.intro (And.intro @z7L @z0B) (And.intro @z7M (And.intro @z3v @z7N))))) (And.intro (And.intro (And.intro (And.intro @z0C @z0D) (And.intro @z0E @k7p)) (And.intro (And.intro @z0F @k7q) (And.intro @z7O (And.intro @z3w @z3x)))) (And.intro (And.intro (And.intro @z3y @z0G) (And.intro @k7r (And.intro @z0H @z7P))) (And.intro (And.intro @k7s @z0I) (And.intro @k7t (And.intro @z3z @z7Q))))))))) (And.intro (And.intro (And.intro @z3D (And.intro @z0J @k7u)) (And.intro @k4t (And.intro @z7S @z7T))) (And.intro (And.intro @k0j (And.intro @q8r @k2M)) (And.intro @k4u (And.intro @k4v @k1b))))) (And.intro (And.intro (And.intro (And.intro @k0G (And.intro @k2N @j1b)) (And.intro @z3h (And.intro @k8L @k0D))) (And.intro (And.intro @z0j (And.intro @z0k @z0l)) (And.intro @z0m (And.intro @z0n @k7m)))) (And.intro (And.intro (And.intro @k7k (And.intro @k7l @k2J)) (And.intro @k4q (And.intro @z2J @z2K))) (And.intro (And.intro @z7f (And.intro @z7j @z7k)) (And.intro @j0P (And.intro @k9M @j0Q)))))) (And.intro (And.intro (And.intro (And.intro (And.intro @z7g (And.intro @z7h @z7i)) (And.intro @z2L (And.intro @k9L @k0Z))) (And.intro (And.intro @k6W (And.intro @k0A @k9O)) (And.intro @k6X (And.intro @z2M @z2N)))) (And.intro (And.intro (And.intro @q9W (And.intro @q7W @k9P)) (And.intro @k9Q (And.intro @k9R @k9S))) (And.intro (And.intro @k9T (And.intro @z7l @z7m)) (And.intro @z2P (And.intro @k6Y @k9U))))) (And.intro (And.intro (And.intro (And.intro @k4h (And.intro @z7n @k9V)) (And.intro @k4i (And.intro @k2B @k4j))) (And.intro (And.intro @z2Q (And.intro @q3R @k1p)) (And.intro @z5G (And.intro @k2C @k9W)))) (And.intro (And.intro (And.intro @k9X (And.intro @k6Z @z7o)) (And.intro @z7p (And.intro @z7q @z7r))) (And.intro (And.intro @k7a (And.intro @j0R @z2X)) (And.intro @z2Y (And.intro @z2Z @z3a))))))) (And.intro (And.intro (And.intro (And.intro (And.intro (And.intro @z3b @z3c) (And.intro @z3d (And.intro @z3e @z3f))) (And.intro (And.intro @k7b (And.intro @j0S @j0T)) (And.intro @k7c (And.intro @j0U @k2D)))) (And.intro (And.intro (And.intro @z7s (And.intro @k1w @z2S)) (And.intro @q9X (And.intro @q4z @q9Y))) (And.intro (And.intro @z2T (And.intro @q9Z @j0V)) (And.intro @k7e (And.intro @j0W @z7u))))) (And.intro (And.intro (And.intro (And.intro @k0C (And.intro @z2V @q3d)) (And.intro @q4e (And.intro @q0n @z7v))) (And.intro (And.intro @k5v (And.intro @k9Y @k9Z)) (And.intro @k0a (And.intro @q7n @q0x)))) (And.intro (And.intro (And.intro @k7f (And.intro @k7g @k4l)) (And.intro @k2E (And.intro @k0b @k1a))) (And.intro (And.intro @k0c (And.intro @k4m @z2W)) (And.intro @z0a (And.intro @k7h @k2F)))))) (And.intro (And.intro (And.intro (And.intro (And.intro @k4n (And.intro @k2G @z0b)) (And.intro @z0c (And.intro @q0b @k1x))) (And.intro (And.intro @k7i (And.intro @k4o @q7X)) (And.intro @q7Y (And.intro @z0d @k0d)))) (And.intro (And.intro (And.intro @k1y (And.intro @z0e @j0Z)) (And.intro @z0f (And.intro @j1a @k0e))) (And.intro (And.intro @k0f (And.intro @k0g @z0g)) (And.intro @k7j (And.intro @z0h @z0i))))) (And.intro (And.intro (And.intro (And.intro @k2H (And.intro @z7x @k4g)) (And.intro @k2A (And.intro @q0a.n_push @q0a.n_upd))) (And.intro (And.intro @Bool.not_true (And.intro @Bool.not_false @decide_true)) (And.intro @decide_false (And.intro @Int.toNat_natCast @Int.le_refl)))) (And.intro (And.intro (And.intro @Nat.le_refl (And.intro @Nat.zero_add @Nat.add_zero)) (And.intro @Nat.zero_mul (And.intro @Nat.mul_one @Nat.mul_zero))) (And.intro (And.intro @and_self (And.intro @and_true @true_and)) (And.intro @Bool.and_self (And.intro @Bool.and_true @Bool.true_and))))))))
def z3K (P:Program) (c:Code) (Q:Exit→Act→World→Prop):Nat→Exit→Act→World→Prop
 | 0,.goto _,_,_=>False
 | n+1,.goto l,a,w=>∃rest,findLabel c l=some rest∧rest.wp P (z3K P c Q n) a w
 | _,e,a,w=>Q e a w
section
variable {P:Program}
theorem z3L {c:Code} {Q:Exit→Act→World→Prop} {b:Frame} {k:List Item} {cs:List Frame}:∀(n:Nat) {c0:Code} {a:Act} {w:World},c0.wp P (z3K P c Q n) a w→∃e a' w',Q e a' w'∧Arrives P (lone (b.at a (.code c0::.inScope c::k)) cs w) b k cs e a' w':=by
 intro n
 induction n with
 | zero=>
  intro c0 a w h
  obtain ⟨e,a₁,w₁,hq,harr⟩:=h b (.inScope c::k) cs
  cases e with
  | normal=>exact ⟨.normal,a₁,w₁,hq,Steps.trans harr (.one step_inScope)⟩
  | exit id=>exact ⟨.exit id,a₁,w₁,hq,fun k' hk=>harr k' (by simp[exitTo,hk])⟩
  | goto l=>exact hq.elim
  | ret=>exact ⟨_,a₁,w₁,hq,harr⟩
  | panic ch=>exact ⟨_,a₁,w₁,hq,harr⟩
  | outgrown=>exact ⟨_,a₁,w₁,hq,harr⟩
 | succ n ih=>
  intro c0 a w h
  obtain ⟨e,a₁,w₁,hq,harr⟩:=h b (.inScope c::k) cs
  cases e with
  | normal=>exact ⟨.normal,a₁,w₁,hq,Steps.trans harr (.one step_inScope)⟩
  | exit id=>exact ⟨.exit id,a₁,w₁,hq,fun k' hk=>harr k' (by simp[exitTo,hk])⟩
  | goto l=>
   obtain ⟨rest,hf,hr⟩:=hq
   have hg:gotoIn l (.inScope c::k)=some (.code rest::.inScope c::k):=by simp[gotoIn,hf]
   obtain ⟨e₂,a₂,w₂,hq₂,harr₂⟩:=ih hr
   exact ⟨e₂,a₂,w₂,hq₂,.of_steps (harr _ hg) harr₂⟩
  | ret=>exact ⟨_,a₁,w₁,hq,harr⟩
  | panic ch=>exact ⟨_,a₁,w₁,hq,harr⟩
  | outgrown=>exact ⟨_,a₁,w₁,hq,harr⟩
theorem z1P {c:Code} {Q:Exit→Act→World→Prop} (n:Nat) {a:Act} {w:World} (h:c.wp P (z3K P c Q n) a w):(Code.scope c).wp P Q a w:=by
 intro b k cs
 obtain ⟨e,a',w',hq,harr⟩:=z3L (b:=b) (k:=k) (cs:=cs) n h
 exact ⟨e,a',w',hq,.of_steps (.one step_scope) harr⟩
end
section
variable {P:Program} {Γ:FuncId→Option q0h} {Ω:q0F} {base nt:Nat}
def AEx.isJump:AEx→Bool
 | .exit id=>!Nat.blt id 1000000
 | _=>false
def Goes (P:Program) (Γ:FuncId→Option q0h) (Ω:q0F) (nt:Nat) (c:Code):Nat→q0f→Env→q0a→AEx→Env→q0a→Prop
 | 0,ac,e,H,x,e',H'=>run P Γ Ω ac e H=some (x,e',H')∧x.isJump=false
 | n+1,ac,e,H,x,e',H'=>(run P Γ Ω ac e H=some (x,e',H')∧x.isJump=false)∨∃l e1 H1 rest hs ac1 hs' keep,run P Γ Ω ac e H=some (.exit (l+1000000),e1,H1)∧findLabel c l=some rest∧q3q P nt rest hs=some (ac1,hs')∧Goes P Γ Ω nt c n ac1 (forget keep e1) H1 x e' H'
theorem z3M {c:Code}:∀{n:Nat} {ac:q0f} {e:Env} {H:q0a} {x:AEx} {e':Env} {H':q0a},Goes P Γ Ω nt c n ac e H x e' H'→Goes P Γ Ω nt c (n+1) ac e H x e' H':=by
 intro n
 induction n with
 | zero=>intro ac e H x e' H' h;exact .inl h
 | succ n ih=>
  intro ac e H x e' H' h
  rcases h with h|⟨l,e1,H1,rest,hs,ac1,hs',keep,h1,h2,h3,h4⟩
  ·exact .inl h
  ·exact .inr ⟨l,e1,H1,rest,hs,ac1,hs',keep,h1,h2,h3,ih h4⟩
theorem z3N {c:Code} {n m:Nat} (hnm:n≤m) {ac:q0f} {e:Env} {H:q0a} {x:AEx} {e':Env} {H':q0a} (h:Goes P Γ Ω nt c n ac e H x e' H'):Goes P Γ Ω nt c m ac e H x e' H':=by
 induction hnm with
 | refl=>exact h
 | step _ ih=>exact z3M ih
theorem z5S {c:Code} {n:Nat} {a b:q0f} {e f:Env} {H K:q0a} {x:AEx} {e':Env} {H':q0a} (hr:run P Γ Ω a e H=run P Γ Ω b f K) (h:Goes P Γ Ω nt c n b f K x e' H'):Goes P Γ Ω nt c n a e H x e' H':=by
 cases n with
 | zero=>exact ⟨by rw[hr];exact h.1,h.2⟩
 | succ n=>
  rcases h with ⟨h1,h2⟩|⟨l,e1,H1,rest,hs,ac1,hs',keep,h1,h2⟩
  ·exact .inl ⟨by rw[hr];exact h1,h2⟩
  ·exact .inr ⟨l,e1,H1,rest,hs,ac1,hs',keep,by rw[hr];exact h1,h2⟩
theorem z0N {c:Code} {Q:Exit→Act→World→Prop} {n:Nat} {x:AEx} {a:Act} {w:World} (hx:x.isJump=false) (h:Q x.toExit a w):z3K P c Q n x.toExit a w:=by
 cases x with
 | normal=>cases n<;>exact h
 | ret=>cases n<;>exact h
 | exit id=>
  have hb:Nat.blt id 1000000=true:=by simpa[AEx.isJump] using hx
  simp only[AEx.toExit] at h ⊢
  rw[q8k hb] at h ⊢
  cases n<;>exact h
theorem z0O (hcf:∀g args H v H',cw P Γ Ω g args H=some (v,H')→q0B H H') {c:Code}:∀(n:Nat) {ac:q0f} {e:Env} {H:q0a} {x:AEx} {e':Env} {H':q0a},Goes P Γ Ω nt c n ac e H x e' H'→q0B H H':=by
 intro n
 induction n with
 | zero=>
  intro ac e H x e' H' h
  obtain ⟨m,hm⟩:=q2i.1 h.1
  exact q1n hcf hm
 | succ n ih=>
  intro ac e H x e' H' h
  rcases h with ⟨h1,h2⟩|⟨l,e1,H1,rest,hsr,ac1,hsr',keep,h1,h2,h3,h4⟩
  ·obtain ⟨m,hm⟩:=q2i.1 h1
   exact q1n hcf hm
  ·obtain ⟨m,hm⟩:=q2i.1 h1
   exact (q1n hcf hm).trans (ih h4)
theorem z1Q (hmix:P.follows .mixedOrders=true) (hcf:∀g args H v H',cw P Γ Ω g args H=some (v,H')→Sim P base g args H v H') {c:Code}:∀(n:Nat) {c0:Code} {hs hs':List (List Nat)} {ac:q0f},q3q P nt c0 hs=some (ac,hs')→∀{σ:Sig} {e:Env} {a:Act} {H:q0a} {w:World} {x:AEx} {e':Env} {H':q0a},ER σ nt e a→HR P σ base H w→base≤w.heap.size→Goes P Γ Ω nt c n ac e H x e' H' →
  q0B H H'∧∀Q:Exit→Act→World→Prop,(∀σ' a' w',ER σ' nt e' a'→HR P σ' base H' w'→Fr σ σ' H H' w w'→Q x.toExit a' w')→c0.wp P (z3K P c Q n) a w:=by
 intro n
 induction n with
 | zero=>
  intro c0 hs hs' ac hp σ e a H w x e' H' her hh hb h
  obtain ⟨h1,h2⟩:=h
  obtain ⟨m,hm⟩:=q2i.1 h1
  exact ⟨q1n (fun g args H v H' h=>(hcf g args H v H' h).2.1) hm,fun Q hQ=>q6A hmix hcf c0 hp her hh hb hm _ fun σ' a' w' q1 q2 q3=>z0N h2 (hQ σ' a' w' q1 q2 q3)⟩
 | succ n ih=>
  intro c0 hs hs' ac hp σ e a H w x e' H' her hh hb h
  rcases h with ⟨h1,h2⟩|⟨l,e1,H1,rest,hsr,ac1,hsr',keep,h1,h2,h3,h4⟩
  ·obtain ⟨m,hm⟩:=q2i.1 h1
   exact ⟨q1n (fun g args H v H' h=>(hcf g args H v H' h).2.1) hm,fun Q hQ=>q6A hmix hcf c0 hp her hh hb hm _ fun σ' a' w' q1 q2 q3=>z0N h2 (hQ σ' a' w' q1 q2 q3)⟩
  ·obtain ⟨m,hm⟩:=q2i.1 h1
   have hv:=q1n (fun g args H v H' h=>(hcf g args H v H' h).2.1) hm
   refine ⟨hv.trans ?_,fun Q hQ=>q6A hmix hcf c0 hp her hh hb hm _ fun σ' a' w' q1 q2 q3=>?_⟩
   ·have:=z0O (nt:=nt) (fun g args H v H' h=>(hcf g args H v H' h).2.1) n h4
    exact this
   ·simp only[AEx.toExit]
    rw[k3X]
    refine ⟨rest,h2,?_⟩
    exact (ih h3 (q1.forget keep) q2 (Nat.le_trans hb q3.size) h4).2 Q fun σ2 a2 w2 p1 p2 p3=>hQ σ2 a2 w2 p1 p2 (q3.trans p3)
theorem z3O (hmix:P.follows .mixedOrders=true) (hcf:∀g args H v H',cw P Γ Ω g args H=some (v,H')→Sim P base g args H v H') {g:FuncId} {fn:Func} {A S:Code} {rs:List ARes} {aA aS:q0f} {hs1 hs1' hs2 hs2':List (List Nat)} {args:List Value} {H H0 H1:q0a} {e0 e1:Env} {x:AEx} {vs:List Value} (n:Nat) (keep:List Nat)
  (hfn : P.funcs[g]? = some fn) (hc : fn.body = some (.seq A (.scope S))) (hname : (fn.name == "runtime.NumGoroutine") = false) (hlen : args.length = fn.params.size + fn.nfree) (hna : fn.params.size + fn.nfree ≤ fn.ntmps) (hres : q6r P fn.results.toList = some rs)
  (hA:q3q P fn.ntmps A hs1=some (aA,hs1')) (hS:q3q P fn.ntmps S hs2=some (aS,hs2')) (rA:run P Γ Ω aA (q5C args) H=some (.normal,e0,H0)) (rS:Goes P Γ Ω fn.ntmps S n aS (forget keep e0) H0 x e1 H1) (hx:x=.normal∨x=.ret) (hvs:q5R P e1 H1 rs=some vs):Sim P base g args H (k0r vs) H1:=by
 have hver:∀g args H v H',cw P Γ Ω g args H=some (v,H')→q0B H H':=fun g args H v H' h=>(hcf g args H v H' h).2.1
 obtain ⟨m,hm⟩:=q2i.1 rA
 refine ⟨⟨fn,hfn,by rw[hc];rfl,hname⟩,(q1n hver hm).trans (z0O hver n rS),fun σ w args' hargs hh hb=>?_⟩
 refine calls_of_wp hfn hc ?_
 have her:=k6y (nt:=fn.ntmps) hargs (by rw[hlen];exact hna)
 refine wp_seq (q6A hmix hcf A hA her hh hb hm _ fun σ1 a1 w1 k1 k2 k3=>?_)
 simp only[AEx.toExit,Exit.then]
 refine z1P n ?_
 refine (z1Q hmix hcf n hS (k1.forget keep) k2 (Nat.le_trans hb k3.size) rS).2 _ fun σ' a' w' q1 q2 q3=>?_
 have q3:=k3.trans q3
 obtain ⟨vs',r1,r2⟩:=q9t w' q1 q2 fn.results.toList hres hvs
 have hfin:a'.defers=[]∧∃v,(results fn a'.tmps).run P w'=.ok v w'∧∃σ'' v'',Ending.returned v=Ending.returned v''∧VR σ'' (k0r vs) v''∧HR P σ'' base H1 w'∧Fr σ σ'' H H1 w w':=by
  refine ⟨q1.defers,(if h:(⟨vs'⟩:Array Value).size=1 then (⟨vs'⟩:Array Value)[0] else .tuple ⟨vs'⟩),?_,σ',_,rfl,?_,q2,q3⟩
  ·have hres:results fn a'.tmps=(do let vs ←fn.results.mapM (res1 a');pure (if h:vs.size=1 then vs[0] else .tuple vs)):=rfl
   rw[hres,Sem.run_bind,Array.mapM_eq_mapM_toList]
   have r1':(List.mapM (res1 a') fn.results.toList).run P w'=.ok vs' w':=r1
   simp only[Sem.run_map,r1',Result.andThen_ok,Sem.run_pure]
  ·cases r2 with
   | nil=>exact .tuple _ _ .nil
   | cons u u' us us' k1 k2=>
    cases k2 with
    | nil=>exact k1
    | cons _ _ _ _ k3 k4=>exact .tuple _ _ (.cons _ _ _ _ k1 (.cons _ _ _ _ k3 k4))
 rcases hx with rfl|rfl
 ·exact hfin
 ·exact hfin
end
end Lon
namespace Go.Proofs.YtleiinhaljdcoaaGreatDoor
open Go Lon
set_option maxRecDepth 100000
def tab:List (FuncId×q0h):=[(7,q3h),(8,q5V),(9,q3u),(11,q9z),(17,q5p),(18,q1G),(20,q3W),(21,q5q),(23,q2F),(24,q5r),(25,q1L),(26,q1o),(27,q9D),(29,q8l),(30,q1H),(39,q5s),(40,q8m),(41,k0Q),(42,q4G),(43,q3v),(45,q1M),(46,q1N),(47,q2a),(48,k4a),(49,q5W),(50,q4H),(51,q3w),(59,q4I),(60,k0S),(61,k1X),(62,q9F),(63,q9G),(64,q9H),(65,q4J),(66,q7c),(67,q4K),(68,q6C),(69,q1Y),(71,q7d),(72,q8n),(73,q2m),(74,q3B),(75,q2n),(81,q3Y),(82,q8O),(83,k2h),(84,q8o),(85,k2i),(86,k2j),(87,q8P),(88,q5Z),(89,q6a),(90,q3j),(91,q7e),(92,q6b),(93,q0I),(100,q2A),(101,q9L),(102,q1J),(103,q3k),(107,q5u),(108,k2q),(109,q6c),(110,q7f),(111,k2s),(112,k2t),(113,q7g),(114,q4y),(115,q5w),(116,q1m),(118,q4M),(126,q9Q),(127,q9R),(128,k0W),(130,q0O),(131,q5x),(137,q8R),(138,q0X),(160,q2I),(162,q2V),(163,q2o),(164,q2J),(165,q2p),(167,q2q),(168,q2b),(169,q4N),(170,q2r),(172,q2s),(173,q1g),(175,q2t),(176,q1Q),(177,q8p),(178,q6e),(179,q1p),(180,q1R),(181,q1B),(182,q2W),(183,q2X),(184,q2K),(185,q2L),(186,q2u),(117,q8q),(5,q2c),(12,q2Y),(13,q6i),(14,q1S),(15,q1T),(16,q5y),(31,q2d),(32,q4P),(34,q1t),(35,q5z),(36,q1U),(37,q0H),(38,q4d),(52,q5L),(53,q2Z),(54,q3a),(55,q2e),(57,q2y),(58,q0T),(76,q5M),(77,q2z),(78,q3L),(104,q6l),(105,q2M),(33,k9G),(56,k9J),(79,k9K)]
theorem gok:∀g F,tabF tab g=some F→FOK Tryz.prog g F:=z2I (q0c q9y (q0c k5b (q0c k0v (q0c z1H (q0c k3m (q0c k1Q (q0c k1h (q0c k3n (q0c q8z (q0c k3o (q0c q6X (q0c q6s (q0c k3p (q0c k8w (q0c k1R (q0c k3q (q0c k8x (q0c k5d (q0c k1U (q0c k0w (q0c q6Y (q0c q6Z (q0c q7x (q0c k8y (q0c k5e (q0c k1V (q0c k0x (q0c k1W (q0c k5f (q0c k6H (q0c k3s (q0c k3t (q0c z1J (q0c k2c (q0c k6J (q0c k2e (q0c q9I (q0c q3G (q0c k6K (q0c k8A (q0c q7I (q0c k0z (q0c q7J (q0c k1i (q0c k2g (q0c k6L (q0c k8C (q0c k6M (q0c k6N (q0c k2k (q0c q9a (q0c k5l (q0c q9K (q0c k6O (q0c k5m (q0c q5S (q0c q4j (q0c k3w (q0c q9M (q0c q9N (q0c k3x (q0c k6P (q0c k5o (q0c k6Q (q0c k6R (q0c k6S (q0c k6T (q0c k6U (q0c k3y (q0c q5T (q0c k2v (q0c k3z (q0c k3A (q0c k5r (q0c q4a (q0c k3B (q0c k2w (q0c q4X (q0c q8A (q0c q9c (q0c q7L (q0c q8B (q0c q7M (q0c q7N (q0c q7y (q0c k2x (q0c q7O (q0c q7P (q0c q7Q (q0c q7R (q0c q7h (q0c k8I (q0c k5s (q0c q6t (q0c q7i (q0c q6F (q0c q9d (q0c q9e (q0c q8C (q0c q8D (q0c q7S (q0c k8J (q0c q7z (q0c q9f (q0c k5t (q0c q7j (q0c q7k (q0c k3D (q0c q7A (q0c k2y (q0c q6u (q0c k3E (q0c q7l (q0c q3H (q0c k1k (q0c q8E (q0c q9h (q0c q9i (q0c q7B (q0c q7U (q0c q4k (q0c q8F (q0c q7V (q0c q6v (q0c q9k (q0c q8G (q0c z8Q (q0c z8R (q0c z8S (z8P))))))))))))))))))))))))))))))))))))))))))))))))))))))))))))))))))))))))))))))))))))))))))))))))))))))))))))))))))))))))))))))))))
def om0:q0F:=fun _ _ _=>none
theorem omok0 {base:Nat}:∀g args H v H',om0 g args H=some (v,H')→Sim Tryz.prog base g args H v H':=fun _ _ _ _ _ h=>by cases h
theorem sim0 {base:Nat} {g:FuncId} {args:List Value} {H H':q0a} {v:Value} (h:cw Tryz.prog (tabF tab) om0 g args H=some (v,H')):Sim Tryz.prog base g args H v H':=q9w (by kernel_rfl) gok omok0 h
def nm:Nat→ByteArray
 | 0=>⟨#[117,116,102,45,56]⟩
 | 1=>⟨#[97,115,99,105,105]⟩
 | 2=>⟨#[118,105,115,99,105,105]⟩
 | 3=>⟨#[116,99,118,110,51]⟩
 | 4=>⟨#[118,110,105]⟩
 | 5=>⟨#[116,105,115,45,54,50,48]⟩
 | 6=>⟨#[116,115,99,105,105]⟩
 | _=>⟨#[105,115,99,105,105]⟩
def z3P (s:ByteArray):Option (Value×q0a)→Bool
 | some (.tuple ⟨[.string t,.int .i64 n]⟩,_)=>decide (t.data.toList=s.data.toList)&&decide (n=0)
 | _=>false
theorem z3Q {s:ByteArray} {r:Option (Value×q0a)} (h:z3P s r=true):∃H,r=some (.tuple ⟨[.string s,.int .i64 0]⟩,H):=by
 unfold z3P at h
 split at h
 ·rename_i t n H
  rw[Bool.and_eq_true,decide_eq_true_eq,decide_eq_true_eq] at h
  obtain ⟨h1,rfl⟩:=h
  have:t=s:=by
   cases t;cases s
   simp only[ByteArray.mk.injEq]
   exact Array.toList_inj.1 h1
  subst this
  exact ⟨H,rfl⟩
 ·cases h
theorem z5T:((List.range 8).all fun k=>z3P (nm k) (k3F Tryz.prog (tabB tab) om0 2000 41 [.string (nm k)] q0a.empty))=true:=by kernel_rfl
def ldF (c:Int):Int×Int×Int×Int:=
 if c<128 then (1,c,128,191) else if c<194∨c>244 then (0,0,128,191) else if c<224 then (2,c % 32,128,191) else if c=224 then (3,0,160,191) else if c=237 then (3,13,128,159) else if c<240 then (3,c % 16,128,191) else if c=240 then (4,0,144,191) else if c=244 then (4,4,128,143) else (4,c % 8,128,191)
def ldV (c:Int):Value:=.tuple ⟨[.int .i64 (ldF c).1,.int .i64 (ldF c).2.1,.int .u8 (ldF c).2.2.1,.int .u8 (ldF c).2.2.2]⟩
def isLd (q:Int×Int×Int×Int):Option (Value×q0a)→Bool
 | some (.tuple ⟨[.int .i64 a,.int .i64 b,.int .u8 c,.int .u8 d]⟩,_)=>(decide (a=q.1)&&decide (b=q.2.1))&&(decide (c=q.2.2.1)&&decide (d=q.2.2.2))
 | _=>false
theorem z9i {q:Int×Int×Int×Int} {r:Option (Value×q0a)} (h:isLd q r=true):∃H,r=some (.tuple ⟨[.int .i64 q.1,.int .i64 q.2.1,.int .u8 q.2.2.1,.int .u8 q.2.2.2]⟩,H):=by
 unfold isLd at h
 split at h
 ·rename_i a b c d H
  simp only[Bool.and_eq_true,decide_eq_true_eq] at h
  obtain ⟨⟨rfl,rfl⟩,rfl,rfl⟩:=h
  exact ⟨H,rfl⟩
 ·cases h
theorem j1q:((List.range 256).all fun c=>isLd (ldF (c:Nat)) (k3F Tryz.prog (tabB tab) om0 200 48 [.int .u8 (c:Nat)] q0a.empty))=true:=by kernel_rfl
def omA:q0F:=fun g args H=>match g,args with
 | 48,[.int .u8 c]=>if 0≤c∧c<256 then some (ldV c,H) else none
 | 41,[.string s]=>if (List.range 8).any fun k=>decide (s.data.toList=(nm k).data.toList) then some (.tuple ⟨[.string s,.int .i64 0]⟩,H) else none
 | _,_=>none
theorem z5U {base:Nat}:∀g args H v H',omA g args H=some (v,H')→Sim Tryz.prog base g args H v H':=by
 intro g args H v H' h
 unfold omA at h
 split at h
 ·rename_i c
  split at h
  case isFalse=>cases h
  rename_i hc
  injection h with h
  injection h with h1 h2
  subst h1 h2
  obtain ⟨k,rfl⟩:∃k:Nat,c=k:=⟨c.toNat,by omega⟩
  obtain ⟨H1,r⟩:=z9i (List.all_eq_true.1 j1q k (List.mem_range.2 (by omega)))
  exact k0E (fun base=>sim0 (q6m 200 r)) rfl rfl base _
 ·rename_i s
  split at h
  case isFalse=>cases h
  rename_i hs
  injection h with h
  injection h with h1 h2
  subst h1 h2
  obtain ⟨k,hk,hks⟩:=List.any_eq_true.1 hs
  rw[decide_eq_true_eq] at hks
  have hse:s=nm k:=by
   cases hn:nm k with
   | mk d=>
    cases s with
    | mk d'=>
     rw[hn] at hks
     simp only[ByteArray.mk.injEq]
     exact Array.toList_inj.1 hks
  subst hse
  obtain ⟨H1,r⟩:=z3Q (List.all_eq_true.1 z5T k hk)
  exact k0E (fun base=>sim0 (q6m 2000 r)) rfl rfl base _
 ·cases h
theorem simA {base:Nat} {g:FuncId} {args:List Value} {H H':q0a} {v:Value} (h:cw Tryz.prog (tabF tab) omA g args H=some (v,H')):Sim Tryz.prog base g args H v H':=q9w (by kernel_rfl) gok z5U h
theorem z9j {c:Int} {H:q0a} (hc:0≤c∧c<256):cw Tryz.prog (tabF tab) omA 48 [.int .u8 c] H=some (ldV c,H):=q9v (by unfold omA;simp only;rw[if_pos hc])
def q9m:q0f:=
 (.ops [⟨(some 2), .mv (.const (.int .i64 0)), none⟩, ⟨(some 3), .mv (.const (.int .i64 0)), none⟩, ⟨(some 4), .mv (.const (.int .i64 0)), none⟩])
def q3M:q0f:=
 (.seq .skip
 (.seq (.ops [⟨(some 59), .mv (.tmp 0), none⟩, ⟨(some 60), .len false (.tmp 59), none⟩, ⟨(some 2), .mv (.const (.int .i64 0)), none⟩, ⟨(some 3), .mv (.tmp 60), none⟩, ⟨(some 4), .mv (.const (.int .i64 2)), none⟩]) .ret))
def q3N:q0f:=
 (.seq .skip
 (.seq (.seq (.ops [⟨(some 58), .mv (.tmp 5), none⟩, ⟨(some 2), .mv (.const (.int .i64 0)), none⟩, ⟨(some 3), .mv (.tmp 58), none⟩, ⟨(some 4), .mv (.const (.int .i64 1)), none⟩]) .ret) q3M))
def q0V:q0f:=
 (.seq .skip
 (.seq (.seq (.ops [⟨(some 24), .mv (.tmp 5), none⟩, ⟨(some 25), .mv (.tmp 7), none⟩, ⟨(some 26), .int .eql (.tmp 24) (.tmp 25), none⟩]) (.cond (.tmp 26)
 (.seq (.ops [⟨(some 27), .mv (.tmp 6), none⟩, ⟨(some 28), .mv (.tmp 5), none⟩, ⟨(some 2), .mv (.tmp 27), none⟩, ⟨(some 3), .mv (.tmp 28), none⟩, ⟨(some 4), .mv (.const (.int .i64 0)), none⟩]) .ret) .skip))
 (.seq (.seq (.ops [⟨(some 29), .mv (.tmp 5), none⟩, ⟨(some 30), .mv (.tmp 0), none⟩, ⟨(some 31), .len false (.tmp 30), none⟩, ⟨(some 32), .int .eql (.tmp 29) (.tmp 31), none⟩]) (.cond (.tmp 32) (.exit 1000000) .skip))
 (.seq (.seq (.ops [⟨(some 33), .mv (.tmp 0), none⟩, ⟨(some 34), .mv (.tmp 5), none⟩, ⟨(some 35), .iaddr (.tmp 33) (.tmp 34) 1, none⟩, ⟨(some 36), .load (.tmp 35) none, none⟩, ⟨(some 37), .mv (.tmp 8), none⟩, ⟨(some 38), .int .lss (.tmp 36) (.tmp 37), none⟩, ⟨(some 39), .mv (.tmp 38), none⟩, ⟨(some 40), .mv (.tmp 0), some (39, false)⟩, ⟨(some 41), .mv (.tmp 5), some (39, false)⟩, ⟨(some 42), .iaddr (.tmp 40) (.tmp 41) 1, some (39, false)⟩, ⟨(some 43), .load (.tmp 42) none, some (39, false)⟩, ⟨(some 44), .mv (.tmp 9), some (39, false)⟩, ⟨(some 45), .int .gtr (.tmp 43) (.tmp 44), some (39, false)⟩, ⟨(some 46), .pick (.tmp 39) (.const (.bool true)) (.tmp 45), none⟩]) (.cond (.tmp 46) (.exit 1000001) .skip))
 (.seq (.ops [⟨(some 47), .mv (.tmp 6), none⟩, ⟨(some 48), .gen ⟨none, (.binOp .shl 3 (.tmp 47) (.const (.int .u64 6)) 78), 3, "", #[], none⟩, none⟩, ⟨(some 49), .mv (.tmp 0), none⟩, ⟨(some 50), .mv (.tmp 5), none⟩, ⟨(some 51), .iaddr (.tmp 49) (.tmp 50) 1, none⟩, ⟨(some 52), .load (.tmp 51) none, none⟩, ⟨(some 53), .gen ⟨none, (.binOp .and 5 (.tmp 52) (.const (.int .u8 63)) 5), 5, "", #[], none⟩, none⟩, ⟨(some 54), .conv .i64 (.tmp 53), none⟩, ⟨(some 55), .gen ⟨none, (.binOp .or 3 (.tmp 48) (.tmp 54) 3), 3, "", #[], none⟩, none⟩, ⟨(some 6), .mv (.tmp 55), none⟩])
 (.seq (.ops [⟨(some 8), .mv (.const (.int .u8 128)), none⟩, ⟨(some 9), .mv (.const (.int .u8 191)), none⟩])
 (.seq (.ops [⟨(some 56), .mv (.tmp 5), none⟩, ⟨(some 57), .int .add (.tmp 56) (.const (.int .i64 1)), none⟩, ⟨(some 5), .mv (.tmp 57), none⟩])
 (.seq (.exit 1000002) q3N))))))))
def q3e:q0f:=
 (.seq (.ops [⟨(some 5), .mv (.const (.int .i64 1)), none⟩])
 (.seq (.ops [⟨(some 6), .mv (.const (.int .i64 0)), none⟩, ⟨(some 7), .mv (.const (.int .i64 0)), none⟩])
 (.seq (.ops [⟨(some 8), .mv (.const (.int .u8 0)), none⟩, ⟨(some 9), .mv (.const (.int .u8 0)), none⟩])
 (.seq (.seq (.ops [⟨(some 10), .mv (.tmp 0), none⟩, ⟨(some 11), .len false (.tmp 10), none⟩, ⟨(some 12), .int .eql (.tmp 11) (.const (.int .i64 0)), none⟩]) (.cond (.tmp 12) (.exit 1000000) .skip))
 (.seq (.ops [⟨(some 14), .mv (.tmp 0), none⟩, ⟨(some 15), .iaddr (.tmp 14) (.const (.int .i64 0)) 1, none⟩, ⟨(some 16), .load (.tmp 15) none, none⟩, ⟨(some 17), .call (.func 48) [(.tmp 16)], none⟩, ⟨(some 13), .mv (.tmp 17), none⟩, ⟨(some 18), .ext (.tmp 13) 0, none⟩, ⟨(some 19), .ext (.tmp 13) 1, none⟩, ⟨(some 20), .ext (.tmp 13) 2, none⟩, ⟨(some 21), .ext (.tmp 13) 3, none⟩, ⟨(some 7), .mv (.tmp 18), none⟩, ⟨(some 6), .mv (.tmp 19), none⟩, ⟨(some 8), .mv (.tmp 20), none⟩, ⟨(some 9), .mv (.tmp 21), none⟩])
 (.seq (.seq (.ops [⟨(some 22), .mv (.tmp 7), none⟩, ⟨(some 23), .int .eql (.tmp 22) (.const (.int .i64 0)), none⟩]) (.cond (.tmp 23) (.exit 1000001) .skip)) q0V))))))
def k7B:List ARes:=[.tmp 2, .tmp 3, .tmp 4]
def z9k:Option Code→Code
  | some (.seq _ (.scope c))=>c
  | _=>.skip
def z9l:Option Code→Code
  | some (.seq a _)=>a
  | _=>.skip
def j1r:Option Code→Code
  | some c=>c
  | none=>.skip
noncomputable def q8V:Code:=z9k Tryz.f28.body
noncomputable def z7W:Code:=z9l Tryz.f28.body
noncomputable def q8d (l:Nat):Code:=j1r (findLabel q8V l)
theorem z5V:Tryz.f28.body=some (.seq z7W (.scope q8V)):=by kernel_rfl
theorem one_A:q3q Tryz.prog Tryz.f28.ntmps z7W []=some (q9m, []):=by kernel_rfl
theorem one_S:q3q Tryz.prog Tryz.f28.ntmps q8V []=some (q3e, []):=by kernel_rfl
theorem z7X:findLabel q8V 0=some (q8d 0):=by kernel_rfl
theorem z7Y:findLabel q8V 1=some (q8d 1):=by kernel_rfl
theorem j1s:findLabel q8V 2=some (q8d 2):=by kernel_rfl
theorem z7Z:q3q Tryz.prog Tryz.f28.ntmps (q8d 0) []=some (q3M, []):=by kernel_rfl
theorem z8a:q3q Tryz.prog Tryz.f28.ntmps (q8d 1) []=some (q3N, []):=by kernel_rfl
theorem j1t:q3q Tryz.prog Tryz.f28.ntmps (q8d 2) []=some (q0V, []):=by kernel_rfl
theorem one_R:q6r Tryz.prog Tryz.f28.results.toList=some k7B:=by kernel_rfl
noncomputable def binV (op:BinOp) (t:TypeId) (w u:Value):Option Value:=if q0J u=true then
  match q0C Tryz.prog (do eqGuard op t (.tmp 0) (.const w) u w;Next.value <$> binOp op t u w) with
  | some (.value v)=>if q0J v=true then some v else none
  | _=>none
 else none
theorem q1I {cf : q0F} {e : Env} {H : q0a} {i : Nat} {w : Value} {op : BinOp} {t u y : TypeId} (hw : q0J w = true) : q0o Tryz.prog cf e H (.gen ⟨none, (.binOp op t (.tmp i) (.const w) u), y, "", #[], none⟩) = (binV op t w (ev e (.tmp i))).map fun v => (v, H) := by
 simp[q0o,q0N,binV,execOp,Op.operands,ev,hw]
 rfl
noncomputable def q9n (op:BinOp) (t:TypeId) (a b:Value):Option Value:=if q0J a=true∧q0J b=true then
  match q0C Tryz.prog (do eqGuard op t (.tmp 0) (.tmp 1) a b;Next.value <$> binOp op t a b) with
  | some (.value v)=>if q0J v=true then some v else none
  | _=>none
 else none
theorem q6w {cf : q0F} {e : Env} {H : q0a} {i j : Nat} {op : BinOp} {t u y : TypeId} : q0o Tryz.prog cf e H (.gen ⟨none, (.binOp op t (.tmp i) (.tmp j) u), y, "", #[], none⟩) = (q9n op t (ev e (.tmp i)) (ev e (.tmp j))).map fun v => (v, H) := by
 simp[q0o,q0N,q9n,execOp,Op.operands,ev]
 rfl
theorem shl6 {s:Int} (h:0≤s∧s<1000000000):binV .shl 3 (.int .u64 6) (.int .i64 s)=some (.int .i64 (s*64)):=by
 have:binV .shl 3 (.int .u64 6) (.int .i64 s)=some (.int .i64 (IntKind.i64.wrap (s*2^6))):=by rfl
 rw[this,show (2:Int)^6=64 from rfl,q0k (by omega) (by omega)]
def u8B (v:Option Value) (k:Nat):Bool:=match v with
 | some (.int .u8 m)=>decide (m=(k:Int))
 | _=>false
theorem j1u {v:Option Value} {k:Nat} (h:u8B v k=true):v=some (.int .u8 k):=by
 unfold u8B at h
 split at h
 ·rw[decide_eq_true_eq] at h
  rw[h]
 ·cases h
theorem z3R:(List.range 256).all (fun m=>u8B (binV .and 5 (.int .u8 63) (.int .u8 (m:Nat))) (m % 64))=true:=by kernel_rfl
theorem and63 {u:Int} (h:0≤u∧u<256):binV .and 5 (.int .u8 63) (.int .u8 u)=some (.int .u8 (u % 64)):=by
 obtain ⟨m,rfl⟩:∃m:Nat,u=m:=⟨u.toNat,by omega⟩
 exact j1u (List.all_eq_true.1 z3R m (List.mem_range.2 (by omega)))
theorem or64 {a b:Nat} (ha:a<1000000000) (hb:b<64):q9n .or 3 (.int .i64 ((a*64:Nat):Int)) (.int .i64 (b:Nat))=some (.int .i64 ((a*64+b:Nat):Int)):=by
 have h0:q9n .or 3 (.int .i64 ((a*64:Nat):Int)) (.int .i64 (b:Nat))=some (.int .i64 (IntKind.i64.wrap (((BitVec.ofInt 64 ((a*64:Nat):Int) ||| BitVec.ofInt 64 (b:Nat)).toNat:Nat):Int))):=by rfl
 have h1:(BitVec.ofInt 64 ((a*64:Nat):Int) ||| BitVec.ofInt 64 (b:Nat)).toNat=a*64+b:=by
  rw[BitVec.toNat_or]
  have e1:(BitVec.ofInt 64 ((a*64:Nat):Int)).toNat=a*64:=by
   rw[BitVec.ofInt_natCast,BitVec.toNat_ofNat]
   omega
  have e2:(BitVec.ofInt 64 ((b:Nat):Int)).toNat=b:=by
   rw[BitVec.ofInt_natCast,BitVec.toNat_ofNat]
   omega
  rw[e1,e2]
  have:=Nat.two_pow_add_eq_or_of_lt (i:=6) (b:=b) (by omega) a
  rw[show (2:Nat)^6=64 from rfl] at this
  rw[Nat.mul_comm a 64,this]
 rw[h0,h1,q0k (by omega) (by omega)]
def oneG (l:List Int) (n:Nat):Nat→Int→Int→Int→Nat→Int×Int×Int
 | 0,s,_,_,k=>(s,k,0)
 | r+1,s,lo,hi,k=>match l[k]? with
  | none=>(0,l.length,2)
  | some u=>if u<lo∨u>hi then (0,k,1) else oneG l n r (s*64+u % 64) 128 191 (k+1)
def PR (a b c:Int) (H:q0a) (x:AEx) (e':Env) (H':q0a):Prop:=x=.ret∧eget e' 2=.int .i64 a∧eget e' 3=.int .i64 b∧eget e' 4=.int .i64 c∧H'=H
theorem w_L0 {e:Env} {H:q0a} {v:Value} {l:List Int} (h0:eget e 0=v) (hb:Nums H .u8 v l):Out (run Tryz.prog (tabF tab) omA q3M e H) (PR 0 l.length 2 H):=by
 unfold q3M
 have hl:=fun H2=>Nums.len (H2:=H2) hb
 simp only[WA,Nat.reduceEqDiff,h0,hl]
 exact ⟨rfl,rfl,rfl,rfl,rfl⟩
theorem w_L1 {e:Env} {H:q0a} {k:Int} (h5:eget e 5=.int .i64 k):Out (run Tryz.prog (tabF tab) omA q3N e H) (PR 0 k 1 H):=by
 unfold q3N
 simp only[WA,Nat.reduceEqDiff,h5]
 exact ⟨rfl,rfl,rfl,rfl,rfl⟩
def PJ (l:Nat) (v:Value) (k:Int) (H:q0a) (x:AEx) (e':Env) (H':q0a):Prop:=x=.exit (l+1000000)∧eget e' 0=v∧eget e' 5=.int .i64 k∧H'=H
def PK (v:Value) (k s:Int) (n:Nat) (H:q0a) (x:AEx) (e':Env) (H':q0a):Prop:=x=.exit (2+1000000)∧eget e' 0=v∧eget e' 5=.int .i64 k∧eget e' 6=.int .i64 s∧eget e' 7=.int .i64 n∧eget e' 8=.int .u8 128∧eget e' 9=.int .u8 191∧H'=H
section
variable {e:Env} {H:q0a} {v:Value} {l:List Int} {n s k:Nat} {lo hi:Int}
theorem w_L2a (h5:eget e 5=.int .i64 k) (h6:eget e 6=.int .i64 s) (h7:eget e 7=.int .i64 k):Out (run Tryz.prog (tabF tab) omA q0V e H) (PR s k 0 H):=by
 unfold q0V
 have z:((k:Int)=(k:Int))=True:=by simp
 simp only[WA,Nat.reduceEqDiff,h5,h6,h7]
 exact ⟨rfl,rfl,rfl,rfl,rfl⟩
theorem w_L2b (h0:eget e 0=v) (h5:eget e 5=.int .i64 k) (h7:eget e 7=.int .i64 n) (hb:Nums H .u8 v l) (hn:k≠n) (hk:k=l.length):Out (run Tryz.prog (tabF tab) omA q0V e H) (PJ 0 v k H):=by
 unfold q0V
 have hl:=fun H2=>Nums.len (H2:=H2) hb
 rw[←hk] at hl
 have z1:((k:Int)=(n:Int))=False:=eq_false (by omega)
 have z2:((k:Int)=(k:Int))=True:=by simp
 simp only[WA,Nat.reduceEqDiff,reduceCtorEq,h0,h5,h7,hl,z1]
 exact ⟨rfl,h0,h5,rfl⟩
theorem w_L2c (h0:eget e 0=v) (h5:eget e 5=.int .i64 k) (h7:eget e 7=.int .i64 n) (h8:eget e 8=.int .u8 lo) (h9:eget e 9=.int .u8 hi) (hb:Nums H .u8 v l) (hn:k≠n) {u:Int} (hu:l[k]?=some u) (hbad:u<lo∨u>hi):Out (run Tryz.prog (tabF tab) omA q0V e H) (PJ 1 v k H):=by
 unfold q0V
 have hk:=(List.getElem?_eq_some_iff.1 hu).1
 have hl:=fun H2=>Nums.len (H2:=H2) hb
 obtain ⟨i,o,d1,d2⟩:=hb.at hu
 have z1:((k:Int)=(n:Int))=False:=eq_false (by omega)
 have z2:((k:Int)=(l.length:Int))=False:=eq_false (by omega)
 by_cases hlo:u<lo
 ·have z3:(u<lo)=True:=eq_true hlo
  simp only[WA,Nat.reduceEqDiff,reduceCtorEq,h0,h5,h7,h8,hl,z1,z2,d1,d2,z3]
  exact ⟨rfl,h0,h5,rfl⟩
 ·have z3:(u<lo)=False:=eq_false hlo
  have z4:(u>hi)=True:=eq_true (hbad.resolve_left hlo)
  simp only[WA,Nat.reduceEqDiff,reduceCtorEq,h0,h5,h7,h8,h9,hl,z1,z2,d1,d2,z3,z4]
  exact ⟨rfl,h0,h5,rfl⟩
theorem w_L2d (h0:eget e 0=v) (h5:eget e 5=.int .i64 k) (h6:eget e 6=.int .i64 s) (h7:eget e 7=.int .i64 n) (h8:eget e 8=.int .u8 lo) (h9:eget e 9=.int .u8 hi) (hb:Nums H .u8 v l) (hn:k≠n) {u:Nat} (hu:l[k]?=some (u:Int)) (hu2:u<256) (hlo:¬(u:Int)<lo) (hhi:¬(u:Int)>hi) (hs:s<1000000000) (hk8:k<100):Out (run Tryz.prog (tabF tab) omA q0V e H) (PK v ((k+1:Nat):Int) ((s*64+u % 64:Nat):Int) n H):=by
 unfold q0V
 have hk:=(List.getElem?_eq_some_iff.1 hu).1
 have hl:=fun H2=>Nums.len (H2:=H2) hb
 obtain ⟨i,o,d1,d2⟩:=hb.at hu
 have z1:((k:Int)=(n:Int))=False:=eq_false (by omega)
 have z2:((k:Int)=(l.length:Int))=False:=eq_false (by omega)
 have z3:((u:Int)<lo)=False:=eq_false hlo
 have z4:((u:Int)>hi)=False:=eq_false hhi
 have gg:q0J (.int .u64 6)=true:=rfl
 have g63:q0J (.int .u8 63)=true:=rfl
 have sh:=shl6 (s:=(s:Int)) (by omega)
 have an:=and63 (u:=(u:Int)) (by omega)
 have hw:IntKind.i64.wrap ((u:Int) % 64)=((u % 64:Nat):Int):=by rw[q0k (by omega) (by omega)];omega
 have hor:=or64 (a:=s) (b:=u % 64) hs (by omega)
 rw[show ((s*64:Nat):Int)=(s:Int)*64 by omega] at hor
 have hw2:IntKind.i64.wrap ((k:Int)+1)=((k+1:Nat):Int):=by rw[q0k (by omega) (by omega)];omega
 simp only[WA,Nat.reduceEqDiff,reduceCtorEq,h0,h5,h6,h7,h8,h9,hl,z1,z2,d1,d2,z3,z4,q1I gg,q1I g63,q6w,sh,an,hw,hor,hw2]
 exact ⟨rfl,h0,rfl,rfl,h7,rfl,rfl,rfl⟩
end
theorem z3S {n:Nat} {ac:q0f} {e:Env} {H:q0a} {nt:Nat} {a b c:Int} (h:Out (run Tryz.prog (tabF tab) omA ac e H) (PR a b c H)):∃e',Goes Tryz.prog (tabF tab) omA nt q8V n ac e H .ret e' H∧eget e' 2=.int .i64 a∧eget e' 3=.int .i64 b∧eget e' 4=.int .i64 c:=by
 obtain ⟨x,e',H',r,rfl,p2,p3,p4,rfl⟩:=h
 refine ⟨e',?_,p2,p3,p4⟩
 cases n with
 | zero=>exact ⟨r,rfl⟩
 | succ n=>exact .inl ⟨r,rfl⟩
theorem q5P {e:Env} {ks:List Nat} {t:Nat} {v:Value} (h:eget e t=v) (ht:t∈ks):eget (forget ks e) t=v:=by
 rw[q5E,if_pos ht]
 exact h
theorem g_L2 {H:q0a} {v:Value} {l:List Int} {n:Nat} (hb:Nums H .u8 v l) (hby:∀u∈l,0≤u∧u<256):∀(r k s:Nat) (lo hi:Int) (e:Env),n=k+r→n<90→(s+1)*64^r≤1000000000→r<4→k≤l.length→eget e 0=v→eget e 5=.int .i64 k→eget e 6=.int .i64 s→eget e 7=.int .i64 n→eget e 8=.int .u8 lo→eget e 9=.int .u8 hi →
  ∃e',Goes Tryz.prog (tabF tab) omA Tryz.f28.ntmps q8V (r+1) q0V e H .ret e' H∧eget e' 2=.int .i64 (oneG l n r s lo hi k).1∧eget e' 3=.int .i64 (oneG l n r s lo hi k).2.1∧eget e' 4=.int .i64 (oneG l n r s lo hi k).2.2:=by
 intro r
 induction r with
 | zero=>
  intro k s lo hi e hn hk9 hs hr hkl h0 h5 h6 h7 h8 h9
  obtain rfl:n=k:=by omega
  exact z3S (w_L2a h5 h6 h7)
 | succ r ih=>
  intro k s lo hi e hn hk9 hs hr hkl h0 h5 h6 h7 h8 h9
  have hne:k≠n:=by omega
  have hs1:s<1000000000:=by
   have:1≤64^(r+1):=Nat.one_le_pow _ _ (by omega)
   have h2:(s+1)*1≤(s+1)*64^(r+1):=Nat.mul_le_mul_left _ this
   omega
  cases hu:l[k]? with
  | none=>
   have hlen:k=l.length:=by
    have:=List.getElem?_eq_none_iff.1 hu
    omega
   obtain ⟨x,e1,H1,r1,rfl,p2,p3,rfl⟩:=w_L2b h0 h5 h7 hb hne hlen
   obtain ⟨e',q1,q2,q3,q4⟩:=z3S (n:=r+1) (nt:=Tryz.f28.ntmps) (w_L0 (e:=forget [0] e1) (q5P p2 (by simp)) hb)
   have hG:oneG l n (r+1) s lo hi k=((0:Int),(l.length:Int),(2:Int)):=by
    unfold oneG
    rw[hu]
   refine ⟨e',.inr ⟨0,e1,_,q8d 0,[],q3M,[],[0],r1,z7X,z7Z,q1⟩,?_,?_,?_⟩<;>rw[hG]<;>assumption
  | some u=>
   obtain ⟨u0,u1⟩:=hby u (List.mem_of_getElem? hu)
   obtain ⟨m,rfl⟩:∃m:Nat,u=m:=⟨u.toNat,by omega⟩
   by_cases hbad:(m:Int)<lo∨(m:Int)>hi
   ·obtain ⟨x,e1,H1,r1,rfl,p2,p3,rfl⟩:=w_L2c h0 h5 h7 h8 h9 hb hne hu hbad
    obtain ⟨e',q1,q2,q3,q4⟩:=z3S (n:=r+1) (nt:=Tryz.f28.ntmps) (w_L1 (e:=forget [0,5] e1) (H:=H1) (q5P p3 (by simp)))
    have hG:oneG l n (r+1) s lo hi k=((0:Int),(k:Int),(1:Int)):=by
     unfold oneG
     rw[hu]
     simp only
     rw[if_pos hbad]
    refine ⟨e',.inr ⟨1,e1,_,q8d 1,[],q3N,[],[0,5],r1,z7Y,z8a,q1⟩,?_,?_,?_⟩<;>rw[hG]<;>assumption
   ·have hlo:¬(m:Int)<lo:=fun h=>hbad (.inl h)
    have hhi:¬(m:Int)>hi:=fun h=>hbad (.inr h)
    obtain ⟨x,e1,H1,r1,rfl,p0,p5,p6,p7,p8,p9,rfl⟩:=w_L2d h0 h5 h6 h7 h8 h9 hb hne hu (by omega) hlo hhi hs1 (by omega)
    have hkl2:=(List.getElem?_eq_some_iff.1 hu).1
    obtain ⟨e',q1,q2,q3,q4⟩:=ih (k+1) (s*64+m % 64) 128 191 (forget [0,5,6,7,8,9] e1) (by omega) (by omega) (by
     have h1:(s*64+m % 64+1)*64^r≤((s+1)*64)*64^r:=Nat.mul_le_mul_right _ (by omega)
     have h2:((s+1)*64)*64^r=(s+1)*64^(r+1):=by rw[Nat.pow_succ,Nat.mul_assoc,Nat.mul_comm 64]
     omega) (by omega) (by omega) (q5P p0 (by simp)) (q5P p5 (by simp)) (q5P p6 (by simp)) (q5P p7 (by simp)) (q5P p8 (by simp)) (q5P p9 (by simp))
    have hG:oneG l n (r+1) s lo hi k=oneG l n r ((s*64+m % 64:Nat):Int) 128 191 (k+1):=by
     have:oneG l n (r+1) s lo hi k=oneG l n r ((s:Int)*64+(m:Int) % 64) 128 191 (k+1):=by
      conv=>lhs;unfold oneG
      rw[hu]
      simp only
      rw[if_neg hbad]
     rw[this]
     congr 1
    refine ⟨e',.inr ⟨2,e1,_,q8d 2,[],q0V,[],[0,5,6,7,8,9],r1,j1s,j1t,q1⟩,?_,?_,?_⟩<;>rw[hG]<;>assumption
end Go.Proofs.YtleiinhaljdcoaaGreatDoor
