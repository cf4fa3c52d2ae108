/- What is proved here: what the program's functions come to, as far as the claimed statement asks. Conditions: those that each theorem names, and no others. -/
import Derived.Test.YtleiinhaljdcoaaGreatDoorP1
import Derived.LoopN
import Derived.Carry
import Derived.ProofKit
import Derived.OpenShut
import Derived.Test.YtleiinhaljdcoaaGreatDoorRows
set_option linter.unusedSimpArgs false
set_option linter.unusedVariables false
namespace Lon
open Go
theorem q5E:∀(ks:List Nat) (e:Env) (t:Nat),eget (forget ks e) t=if t∈ks then eget e t else poison
 | [],e,t=>by simp[forget,k1p]
 | k::ks,e,t=>by
  have ih:=q5E ks e t
  simp only[forget,List.map_cons,q3R] at ih ⊢
  by_cases h:k=t
  ·subst h
   simp
  ·rw[if_neg h]
   have:t≠k:=fun e=>h e.symm
   rw[ih]
   simp[this]
section
variable {P:Program} {σ σ0:Sig} {nt base:Nat} {e:Env} {a:Act} {o:Oper} {H H' H0:q0a} {w w0:World} {ops:Array Oper} {cf:q0F}
theorem k3V (hcf:∀g args H v H',cf g args H=some (v,H')→Sim P base g args H v H') (her:ER σ nt e a) (hh:HR P σ base H w) (hb:base≤w.heap.size) {r:ARow} (hp:q7E P nt ops o=some r) {v:Value}
  (h:rowV P cf r e H=some (v,H')) {next:Act→World→Prop} {Q:Exit→Act→World→Prop}
  (hnext:∀σ' v' w',VR σ' v v'→HR P σ' base H' w'→Fr σ σ' H H' w w'→next (a.put o.dst v') w') :
  if Region.wanted o (yielded ops a.tmps) then o.wp P a w next Q else next (a.put o.dst undef) w:=by
 obtain ⟨h1,h2,h3,h4⟩:=q4v hp
 unfold rowV at h
 split at h
 ·rename_i hg
  rw[q7F her h4 hg,if_pos rfl]
  exact k3R hcf her hh hb h1 h next Q fun σ' w' v' q1 q2 q3=>hnext σ' v' w' q1 q2 q3
 ·rename_i hg
  rw[q7F her h4 hg]
  simp only[Bool.false_eq_true,if_false]
  injection h with h
  injection h with he1 he2
  subst he1 he2
  exact hnext σ undef w (.tuple _ _ .nil) hh (Fr.refl _ _ _)
 ·cases h
theorem k8s {e:Env} {H H2:q0a} {r:ARow} {v:Value} (hv:q0B H H2) (hs:∀p∈q3p H e r,∃b,H2.get p.1=some b∧b.ver=p.2) (h:q6q P e H r.op=some v):q6q P e H2 r.op=some v:=by
 revert h hs
 unfold q3p
 cases r.op<;>intro hs h<;>first|(simp[q6q] at h;done)|skip
 case load x k=>
  simp only[q6q] at h ⊢
  split at h
  ·rename_i i off hx
   split at h
   ·rename_i blk hg
    simp only[hx,hg] at hs
    obtain ⟨b,hb,hver⟩:=hs (i,blk.ver) (by simp)
    obtain ⟨b',hb',h1,h2,h3⟩:=hv.2 i blk hg
    simp only at hb hver
    rw[hb] at hb'
    injection hb' with hb'
    subst hb'
    obtain ⟨hc,hm,_⟩:=h3 hver
    simp only[hb]
    split at h
    ·rename_i hmem
     rw[if_pos (hm hmem),hc]
     exact h
    ·cases h
   ·cases h
  ·cases h
 case slice x lo hi s=>
  simp only[q6q] at h ⊢
  split at h
  ·rename_i i off n c hx
   split at h
   ·rename_i hv1 lv s' e1 e2 e3
    cases hg:H.get i with
    | none=>rw[hg] at e3;cases e3
    | some blk=>
     obtain ⟨b',hb',_,hel,_⟩:=hv.2 i blk hg
     rw[hg] at e3
     simp only[Option.map_some] at e3
     simp only[e1,e2,hb',Option.map_some,hel,e3]
     exact h
   ·cases h
  ·rename_i hx
   first
    | exact h
    | (rw[hx];exact h)
    | (simp only[hx];exact h)
  ·rename_i hx
   first
    | exact h
    | (rw[hx];exact h)
    | (simp only[hx];exact h)
  ·cases h
 case slice0 x=>exact h
theorem k4W {H H2:q0a} {sz:Nat} {x:Value} {cs:List Value} (hv:q0B H H2) (hs:∀p∈k6f H x,∃b,H2.get p.1=some b∧b.ver=p.2) (h:cellsOf H sz x=some cs):cellsOf H2 sz x=some cs:=by
 unfold cellsOf at h ⊢
 split at h
 ·exact h
 ·rename_i i o n c
  by_cases hn:n=0
  ·rw[if_pos hn] at h ⊢
   exact h
  ·rw[if_neg hn] at h ⊢
   split at h
   ·rename_i blk hg
    unfold k6f at hs
    simp only[hg] at hs
    obtain ⟨b,hb,hver⟩:=hs (i,blk.ver) (by simp)
    obtain ⟨b',hb',h1,h2,h3⟩:=hv.2 i blk hg
    simp only at hb hver
    rw[hb] at hb'
    injection hb' with hb'
    subst hb'
    obtain ⟨hc,hm,_⟩:=h3 hver
    simp only[hb]
    split at h
    ·rename_i hmem
     rw[if_pos ⟨hm hmem.1,by rw[hc];exact hmem.2⟩,hc]
     exact h
    ·cases h
   ·cases h
 ·exact h
 ·cases h
theorem k0t {e:Env} {H H':q0a} {r:ARow} {v:Value} (hl:r.op.loud=false) (h:rowV P cf r e H=some (v,H')) :
  (H'=H∧∀H2,q0B H H2→(∀p∈q3p H e r,∃b,H2.get p.1=some b∧b.ver=p.2)→rowV P cf r e H2=some (v,H2)) ∨
  (k3J e r.guard=some true∧r.op.fresh=true∧∃b,newA e H.n r.op=some (b,v)∧H'=H.push b):=by
 unfold rowV at h
 split at h
 ·rename_i hg
  by_cases hf:r.op.fresh=true
  ·right
   refine ⟨hg,hf,?_⟩
   revert h hf
   unfold q0o
   cases r.op<;>intro h hf<;>first|(cases hf;done)|skip
   all_goals
    simp only[Option.map_eq_some_iff] at h
    obtain ⟨⟨b,v1⟩,hn,he⟩:=h
    injection he with he1 he2
    simp only at he1 he2
    subst he1
    exact ⟨b,hn,he2.symm⟩
  ·left
   have key:H'=H∧∀H2,q0B H H2→(∀p∈q3p H e r,∃b,H2.get p.1=some b∧b.ver=p.2)→q0o P cf e H2 r.op=some (v,H2):=by
    have hread:(∃x k,r.op=.load x k)∨(∃x lo hi s,r.op=.slice x lo hi s)∨(∃x,r.op=.slice0 x)→H'=H∧∀H2,q0B H H2→(∀p∈q3p H e r,∃b,H2.get p.1=some b∧b.ver=p.2)→q0o P cf e H2 r.op=some (v,H2):=by
     intro hr
     have hh:(q6q P e H r.op).map (fun v=>(v,H))=some (v,H'):=by
      rcases hr with ⟨x,k,e1⟩|⟨x,lo,hi,s,e1⟩|⟨x,e1⟩<;>(rw[e1] at h ⊢;exact h)
     simp only[Option.map_eq_some_iff] at hh
     obtain ⟨v1,h1,h2⟩:=hh
     injection h2 with h2 h3
     subst h2 h3
     refine ⟨rfl,fun H2 hv hs=>?_⟩
     have:=k8s hv hs h1
     rcases hr with ⟨x,k,e1⟩|⟨x,lo,hi,s,e1⟩|⟨x,e1⟩<;>(rw[e1] at this ⊢;simp only[q0o,this,Option.map_some])
    have hb2s:∀x,r.op=.mop (.b2s x)→H'=H∧∀H2,q0B H H2→(∀p∈q3p H e r,∃b,H2.get p.1=some b∧b.ver=p.2)→q0o P cf e H2 r.op=some (v,H2):=by
     intro x e1
     rw[e1] at h
     have h:(match cellsOf H 1 (ev e x) with
      | some cs=>(txtB ByteArray.empty cs).map fun s=>(Value.string s,H)
      | none=>none)=some (v,H'):=h
     cases hc:cellsOf H 1 (ev e x) with
     | none=>rw[hc] at h;cases h
     | some cs=>
      rw[hc] at h
      simp only[Option.map_eq_some_iff] at h
      obtain ⟨s,h1,h2⟩:=h
      injection h2 with h2 h3
      subst h2 h3
      refine ⟨rfl,fun H2 hv hs=>?_⟩
      have hs':=hs
      unfold q3p at hs'
      rw[e1] at hs'
      have h4:=k4W hv hs' hc
      rw[e1]
      show (match cellsOf H2 1 (ev e x) with
       | some cs=>(txtB ByteArray.empty cs).map fun s=>(Value.string s,H2)
       | none=>none)=_
      rw[h4]
      simp only[h1,Option.map_some]
    have hpure:(∀x,r.op≠.mop (.b2s x))→(∀x k,r.op≠.load x k)→(∀x lo hi s,r.op≠.slice x lo hi s)→(∀x,r.op≠.slice0 x)→H'=H∧∀H2,q0B H H2→(∀p∈q3p H e r,∃b,H2.get p.1=some b∧b.ver=p.2)→q0o P cf e H2 r.op=some (v,H2):=by
     intro n0 n1 n2 n3
     have n4:∀c el,r.op≠.alloc c el:=fun c el e1=>hf (by rw[e1];rfl)
     have n5:∀x el,r.op≠.box x el:=fun x el e1=>hf (by rw[e1];rfl)
     have n6:∀el n s z p,r.op≠.bslice el n s z p:=fun el n s z p e1=>hf (by rw[e1];rfl)
     have n7:∀x v n,r.op≠.store x v n:=fun x v n e1=>by rw[e1] at hl;cases hl
     have n8:∀s x el sz b,r.op≠.append s x el sz b:=fun s x el sz b e1=>by rw[e1] at hl;cases hl
     have n9:∀f args,r.op≠.call f args:=fun f args e1=>by rw[e1] at hl;cases hl
     have n10:∀m,r.op≠.mop m:=fun m e1=>by
      cases m with
      | b2s x=>exact n0 x e1
      | _=>rw[e1] at hl;cases hl
     obtain ⟨h1,h2⟩:=k1M n1 n2 n3 n4 n5 n6 n7 n8 n9 n10 h
     refine ⟨h2,fun H2 _ _=>?_⟩
     have:q0o P cf e H2 r.op=(q0N P e r.op).map fun v=>(v,H2):=by
      revert n1 n2 n3 n4 n5 n6 n7 n8 n9 n10
      cases r.op<;>intro n1 n2 n3 n4 n5 n6 n7 n8 n9 n10<;>first|exact absurd rfl (n10 _)|exact absurd rfl (n1 _ _)|exact absurd rfl (n2 _ _ _ _)|exact absurd rfl (n3 _)|exact absurd rfl (n4 _ _)|exact absurd rfl (n5 _ _)|exact absurd rfl (n6 _ _ _ _ _)|exact absurd rfl (n7 _ _ _)|exact absurd rfl (n8 _ _ _ _ _)|exact absurd rfl (n9 _ _)|rfl
     rw[this,h1]
     rfl
    by_cases c1:∃x k,r.op=.load x k
    ·exact hread (.inl c1)
    by_cases c2:∃x lo hi s,r.op=.slice x lo hi s
    ·exact hread (.inr (.inl c2))
    by_cases c3:∃x,r.op=.slice0 x
    ·exact hread (.inr (.inr c3))
    by_cases c0:∃x,r.op=.mop (.b2s x)
    ·obtain ⟨x,e1⟩:=c0
     exact hb2s x e1
    exact hpure (fun x e1=>c0 ⟨x,e1⟩) (fun x k e1=>c1 ⟨x,k,e1⟩) (fun x lo hi s e1=>c2 ⟨x,lo,hi,s,e1⟩) (fun x e1=>c3 ⟨x,e1⟩)
   refine ⟨key.1,fun H2 hv hs=>?_⟩
   unfold rowV
   rw[hg]
   exact key.2 H2 hv hs
 ·rename_i hg
  injection h with h
  injection h with h1 h2
  subst h1 h2
  left
  refine ⟨rfl,fun H2 _ _=>?_⟩
  unfold rowV
  rw[hg]
 ·cases h
end
theorem k9C {e:Env} {i:Nat} {ao:AOp} {b:ABlk} {v:Value} (h:newA e i ao=some (b, v)):b.st=.tip∧b.anc=[]∧b.ver=0:=by
  unfold newA at h
  split at h
  · injection h with h;injection h with h1 h2;subst h1;exact ⟨rfl, rfl, rfl⟩
  · split at h
    · injection h with h;injection h with h1 h2;subst h1;exact ⟨rfl, rfl, rfl⟩
    · cases h
  · split at h
    · injection h with h;injection h with h1 h2;subst h1;exact ⟨rfl, rfl, rfl⟩
    · cases h
  · cases h
section
variable {P:Program} {nt base:Nat} {ops:Array Oper} {l:List Nat} {rows:List ARow} {cls:List (List Nat)} {S:Nat→Env×q0a} {cf:q0F} {σ0:Sig} {H0:q0a} {w0:World}
def Lst (ops:Array Oper) (l:List Nat) (listed:Array Bool) (q:Nat):Prop:=listed.getD (l.getD q ops.size) false=true
def DInv (P:Program) (nt base:Nat) (ops:Array Oper) (l:List Nat) (rows:List ARow) (S:Nat→Env×q0a) (σ0:Sig) (H0:q0a) (w0:World) (fuel:Nat) (listed:Array Bool) (a:Act) (w:World):Prop:=
  ∃(p:Nat) (σ:Sig) (U:List Nat),
    p≤ops.size∧listed.size=ops.size∧U.length=fuel∧(∀q, q<ops.size→¬Lst ops l listed q→q∈U) ∧
    (∀q, p≤q→q<ops.size→¬Lst ops l listed q) ∧
    (∀q, q<ops.size→Lst ops l listed q→∀o, ops[l.getD q ops.size]?=some o→∀e∈o.after, Region.binds .any e=true→listed.getD e.on false=true) ∧
    (∀q, q<p→¬Lst ops l listed q→k4V rows q=false) ∧
    HR P σ base (S p).2 w∧Fr σ0 σ H0 (S p).2 w0 w∧base≤w.heap.size∧a.tmps.size=nt∧a.defers=[] ∧
    (∀t, (∃q, q<p∧¬Lst ops l listed q∧(q0Q rows q).dst=some t)∨VR σ (eget (S p).1 t) (a.tmps.getD t undef)) ∧
    (∀q, q<p→¬Lst ops l listed q→(S (q+1)).2.n=(S q).2.n+1→σ (S q).2.n=none)
theorem k3W (D : DOK ops l rows cls) {listed : Array Bool}
    (hcl:∀q, q<ops.size→Lst ops l listed q→∀o, ops[l.getD q ops.size]?=some o→∀e∈o.after, Region.binds .any e=true→listed.getD e.on false=true) :
    ∀q, q<ops.size→Lst ops l listed q→∀x, depB cls x q=true→Lst ops l listed x:=by
  intro q
  induction q using Nat.strongRecOn with
  | _ q ih=>
    intro hq hL x hd
    obtain ⟨hx, o, ho, e, he, hb, hor⟩:=D.dep hq hd
    obtain ⟨h1, h2⟩:=D.edge hq ho e he hb
    have hLe:Lst ops l listed (l.idxOf e.on):=by
      unfold Lst
      rw[h2]
      exact hcl q hq hL o ho e he hb
    rcases hor with h3|h3
    · rw[←h3];exact hLe
    · exact ih _ h1 (by omega) hLe x h3
theorem z2D (D : DOK ops l rows cls) {listed : Array Bool}
    (hcl:∀q, q<ops.size→Lst ops l listed q→∀o, ops[l.getD q ops.size]?=some o→∀e∈o.after, Region.binds .any e=true→listed.getD e.on false=true)
    {q:Nat} (hq:q<ops.size) {o:Oper} (ho:ops[l.getD q ops.size]?=some o) (hall:∀e∈o.after, Region.binds .any e=true→listed.getD e.on false=true) {x:Nat} (hd:depB cls x q=true):Lst ops l listed x:=by
  obtain ⟨hx, o', ho', e, he, hb, hor⟩:=D.dep hq hd
  rw[ho] at ho'
  injection ho' with ho'
  subst ho'
  obtain ⟨h1, h2⟩:=D.edge hq ho e he hb
  have hLe:Lst ops l listed (l.idxOf e.on):=by
    unfold Lst
    rw[h2]
    exact hall e he hb
  rcases hor with h3|h3
  · rw[←h3];exact hLe
  · exact k3W D hcl _ (by omega) hLe x h3
theorem k1O {rows : List ARow} {q r : Nat} (h : k9A rows cls q r = true) (hd : ¬ depB cls q r = true) :
    k4V rows q=false∧k6x (q0Q rows r) (q0Q rows q)=false∧k6x (q0Q rows q) (q0Q rows r)=false∧((q0Q rows q).op.fresh=true→(q0Q rows r).op.loud=false∨q1b (q0Q rows r).op=true):=by
  unfold k9A at h
  have hd':depB cls q r=false:=by simpa using hd
  rw[hd'] at h
  simp only[Bool.false_or, Bool.and_eq_true, Bool.not_eq_true', Bool.and_eq_false_iff] at h
  obtain ⟨⟨⟨h1, h2⟩, h3⟩, h4⟩:=h
  exact ⟨h1, h2, h3, fun hf => by rcases h4 with (h4 | h4) | h4; · rw [hf] at h4; cases h4
                                  · exact .inl h4
                                  · exact .inr (by simpa using h4)⟩
theorem q9s {rows:List ARow} {q:Nat} (h:k4V rows q=false):(q0Q rows q).op.loud=false:=by
  unfold k4V at h
  simp only[Bool.or_eq_false_iff] at h
  exact h.1
theorem k9D {rows:List ARow} {q x:Nat} (h:k4V rows q=false) (hx:x<q):k6x (q0Q rows q) (q0Q rows x)=false:=by
  unfold k4V at h
  simp only[Bool.or_eq_false_iff, List.any_eq_false, List.mem_range] at h
  simpa using h.2 x hx
theorem k0u {x y:ARow} {d:Nat} (hd:x.dst=some d) (hm:d∈k9z y):k6x x y=true:=by
  unfold k6x
  rw[hd]
  simpa using hm
variable (T:z8L P cf rows S) (hver:∀g args H v H', cf g args H=some (v, H')→q0B H H')
include T in
theorem k1s {t:Nat}:∀{r q:Nat}, q≤r→r≤rows.length→(∀x, q≤x→x<r→(q0Q rows x).dst≠some t)→eget (S r).1 t=eget (S q).1 t:=by
  intro r
  induction r with
  | zero=>
    intro q h _ _
    obtain rfl:q=0:=by omega
    rfl
  | succ r ih=>
    intro q h hr hx
    by_cases e:q=r+1
    · subst e;rfl
    · obtain ⟨v, _, he⟩:=T.step r (by omega)
      rw[he]
      have hne:=hx r (by omega) (by omega)
      have:eget (eput (S r).1 (q0Q rows r).dst v) t=eget (S r).1 t:=by
        cases hd:(q0Q rows r).dst with
        | none=>rfl
        | some d=>
          simp only[eput, q3R]
          rw[if_neg (fun e=>hne (by rw[hd, e]))]
      rw[this]
      exact ih (by omega) (by omega) (fun x h1 h2=>hx x h1 (by omega))
include T hver in
theorem q4U:∀{r q:Nat}, q≤r→r≤rows.length→q0B (S q).2 (S r).2:=by
  intro r
  induction r with
  | zero=>
    intro q h _
    obtain rfl:q=0:=by omega
    exact q0B.refl _
  | succ r ih=>
    intro q h hr
    by_cases e:q=r+1
    · subst e;exact q0B.refl _
    · obtain ⟨v, hv, _⟩:=T.step r (by omega)
      exact (ih (by omega) (by omega)).trans (k1r hver hv)
include T in
theorem k8t {σ:Sig} {w:World} {p:Nat} (hh:HR P σ base (S p).2 w) (hf:Fr σ0 σ H0 (S p).2 w0 w):∀{q:Nat}, p≤q→q≤rows.length→(∀x, p≤x→x<q→(q0Q rows x).op.loud=false)→HR P σ base (S q).2 w∧Fr σ0 σ H0 (S q).2 w0 w:=by
  intro q
  induction q with
  | zero=>
    intro h _ _
    obtain rfl:p=0:=by omega
    exact ⟨hh, hf⟩
  | succ q ih=>
    intro h hq hx
    by_cases e:p=q+1
    · subst e;exact ⟨hh, hf⟩
    · obtain ⟨h1, h2⟩:=ih (by omega) (by omega) (fun x a b=>hx x a (by omega))
      obtain ⟨v, hv, _⟩:=T.step q (by omega)
      rcases k0t (hx q (by omega) (by omega)) hv with ⟨e1, _⟩|⟨_, _, b, hb, e1⟩
      · rw[e1];exact ⟨h1, h2⟩
      · rw[e1]
        exact ⟨h1.reserve (k9C hb).2.1, h2.reserve h1 b⟩
include T hver in
theorem k8u {q : Nat} {b : ABlk} (hb : (S (q + 1)).2 = (S q).2.push b) (hfr : (q0Q rows q).op.fresh = true) (hb0 : b.st = .tip ∧ b.anc = [] ∧ b.ver = 0) : ∀ {p : Nat}, q + 1 ≤ p → p ≤ rows.length → (∀ x, q + 1 ≤ x → x < p → (q0Q rows x).op.loud = false ∨ q1b (q0Q rows x).op = true) →
    (S p).2.get (S q).2.n=some b∧(S q).2.n+1≤(S p).2.n:=by
  intro p
  induction p with
  | zero=>intro h;omega
  | succ p ih=>
    intro h hp hx
    by_cases e:q=p
    · subst e
      rw[hb]
      exact ⟨by rw[q0a.get_push, if_pos rfl], by simp⟩
    · obtain ⟨h1, h2⟩:=ih (by omega) (by omega) (fun x a b=>hx x a (by omega))
      obtain ⟨v, hv, _⟩:=T.step p (by omega)
      rcases hx p (by omega) (by omega) with hl|hc
      · rcases k0t hl hv with ⟨e1, _⟩|⟨_, _, b2, hb2, e1⟩
        · rw[e1];exact ⟨h1, h2⟩
        · rw[e1]
          refine ⟨?_, by simp;omega⟩
          rw[q0a.get_push, if_neg (by omega)]
          exact h1
      · have hw:=T.watch q p (by omega) (by omega) hfr hc
        obtain ⟨hn, hall⟩:=k1r hver hv
        obtain ⟨b', g1, g2, g3, g4⟩:=hall _ _ h1
        rw[g1] at hw
        simp only[k6g, Bool.and_eq_true] at hw
        obtain ⟨⟨w1, w2⟩, w3⟩:=hw
        have hv0:b'.ver=0:=Nat.eq_of_beq_eq_true w1
        have hst:b'.st=.tip:=by revert w2;cases b'.st<;>simp
        have han:b'.anc=[]:=by revert w3;cases b'.anc<;>simp
        obtain ⟨g5, _, _⟩:=g4 (by rw[hv0, hb0.2.2])
        refine ⟨?_, by omega⟩
        rw[g1]
        obtain ⟨c1, c2, c3, c4, c5⟩:=b'
        obtain ⟨d1, d2, d3, d4, d5⟩:=b
        simp only at g3 g5 hv0 hst han hb0
        obtain ⟨rfl, rfl, rfl⟩:=hb0
        subst g3 g5 hv0 hst han
        rfl
end
section
variable {P:Program} {nt base:Nat} {ops:Array Oper} {l:List Nat} {rows:List ARow} {cls:List (List Nat)} {S:Nat→Env×q0a} {cf:q0F} {σ0:Sig} {H0:q0a} {w0:World}
theorem z5u (hcf : ∀ g args H v H', cf g args H = some (v, H') → Sim P base g args H v H') (D : DOK ops l rows cls) (hprep : q6V P nt ops l = some rows) (T : z8L P cf rows S) (hs0 : (S 0).2 = H0)
    {Q:Exit→Act→World→Prop} (hQ:∀σ a w, ER σ nt (S rows.length).1 a→HR P σ base (S rows.length).2 w→Fr σ0 σ H0 (S rows.length).2 w0 w→Q .normal a w) :
    ∀(fuel:Nat) (listed:Array Bool) (a:Act) (w:World), DInv P nt base ops l rows S σ0 H0 w0 fuel listed a w→wpAny P .any ops Q fuel listed a w:=by
  have hver:∀g args H v H', cf g args H=some (v, H')→q0B H H':=fun g args H v H' h=>(hcf g args H v H' h).2.1
  have hrl:rows.length=ops.size:=D.rlen
  obtain ⟨hpl, hpget⟩:=k0O hprep
  have hll:l.length=ops.size:=D.len
  have hrow:∀{q}, q<ops.size→∃o, ops[l.getD q ops.size]?=some o∧q7E P nt ops o=some (q0Q rows q):=by
    intro q hq
    have hlq:l[q]?=some (l.getD q ops.size):=by
      rw[List.getD_eq_getElem?_getD, List.getElem?_eq_getElem (by omega)]
      simp
    obtain ⟨o, r, ho, hr, hp⟩:=hpget q _ hlq
    refine ⟨o, ho, ?_⟩
    have:q0Q rows q=r:=by unfold q0Q;rw[List.getD_eq_getElem?_getD, hr];rfl
    rw[this];exact hp
  have hend:∀{fuel listed a w}, DInv P nt base ops l rows S σ0 H0 w0 fuel listed a w→(∀q, q<ops.size→Lst ops l listed q)→Q .normal a w:=by
    intro fuel listed a w hinv hall
    obtain ⟨p, σ, U, hp, hls, hU, hun, hpn, hcl, hfirm, hh, hf, hb, hsz, hdf, henv, habs⟩:=hinv
    have hpe:p=ops.size:=by
      rcases Nat.lt_or_ge p ops.size with h|h
      · exact absurd (hall p h) (hpn p (Nat.le_refl _) h)
      · omega
    subst hpe
    rw[←hrl] at hh hf henv
    refine hQ σ a w ⟨hsz, hdf, fun t=>?_⟩ hh hf
    rcases henv t with ⟨q, hq, hnl, _⟩|h
    · exact absurd (hall q (by omega)) hnl
    · exact h
  intro fuel
  induction fuel with
  | zero=>
    intro listed a w hinv
    have hall:∀q, q<ops.size→Lst ops l listed q:=by
      obtain ⟨p, σ, U, hp, hls, hU, hun, _⟩:=hinv
      intro q hq
      by_cases hL:Lst ops l listed q
      · exact hL
      · have:=hun q hq hL
        rw[List.eq_nil_of_length_eq_zero hU] at this
        simp at this
    refine ⟨?_, hend hinv hall⟩
    refine List.eq_nil_iff_forall_not_mem.2 fun i hi=>?_
    obtain ⟨h1, o, ho, _⟩:=mem_ready.1 hi
    have hil:i<ops.size:=(Array.getElem?_eq_some_iff.1 ho).1
    obtain ⟨q, hq, hqi⟩:=D.surj hil
    have:=hall q hq
    unfold Lst at this
    rw[hqi] at this
    obtain ⟨_, _, _, _, hls, _⟩:=hinv
    have hlt:i<listed.size:=by omega
    simp[Array.getD, hlt] at h1 this
    rw[h1] at this
    cases this
  | succ fuel ih=>
    intro listed a w hinv
    refine ⟨fun hr=>hend hinv ?_, fun i hi=>?_⟩
    ·
      intro q
      induction q using Nat.strongRecOn with
      | _ q ihq=>
        intro hq
        by_cases hL:Lst ops l listed q
        · exact hL
        · exfalso
          obtain ⟨o, ho, _⟩:=hrow hq
          have:l.getD q ops.size∈Region.ready .any ops listed:=by
            refine mem_ready.2 ⟨?_, o, ho, fun e he hb=>?_⟩
            · obtain ⟨_, _, _, _, hls, _⟩:=hinv
              have hlt:l.getD q ops.size<listed.size:=by rw[hls];exact D.lt hq
              unfold Lst at hL
              simp only[Array.getD, hlt, dif_pos] at hL ⊢
              simpa using hL
            · obtain ⟨h1, h2⟩:=D.edge hq ho e he hb
              have:=ihq _ h1 (by omega)
              unfold Lst at this
              rw[h2] at this
              exact this
          rw[hr] at this
          simp at this
    ·
      obtain ⟨hi1, o, ho, hall⟩:=mem_ready.1 hi
      have hil:i<ops.size:=(Array.getElem?_eq_some_iff.1 ho).1
      obtain ⟨q, hq, hqi⟩:=D.surj hil
      subst hqi
      obtain ⟨o', ho', hprow⟩:=hrow hq
      rw[ho] at ho'
      injection ho' with ho'
      subst ho'
      obtain ⟨p, σ, U, hp, hls, hU, hun, hpn, hcl, hfirm, hh, hf, hb, hsz, hdf, henv, habs⟩:=hinv
      have hilt:l.getD q ops.size<listed.size:=by omega
      have hqn:¬Lst ops l listed q:=by
        intro h
        unfold Lst at h
        simp only[Array.getD, hilt, dif_pos] at h hi1
        rw[hi1] at h
        cases h
      have hdeps:∀{x}, depB cls x q=true→Lst ops l listed x:=fun hd=>z2D D hcl hq ho hall hd
      have hclos:∀{r}, r<ops.size→Lst ops l listed r→∀x, depB cls x r=true→Lst ops l listed x:=fun hr hL x hd=>k3W D hcl _ hr hL x hd
      have hL':∀x, x<ops.size→(Lst ops l (listed.setIfInBounds (l.getD q ops.size) true) x↔(Lst ops l listed x∨x=q)):=by
        intro x hx
        unfold Lst
        by_cases e:x=q
        · subst e
          have hset:∀k, k<listed.size→(listed.setIfInBounds k true).getD k false=true:=by
            intro k hk;simp[Array.getD, hk]
          exact ⟨fun _=>Or.inr rfl, fun _=>hset _ hilt⟩
        · have hne:l.getD q ops.size≠l.getD x ops.size:=fun h=>e (by rw[←D.inj hx, ←D.inj hq, h])
          rw[getD_set_ne false hne]
          simp[e]
      obtain ⟨v, hv, hv2⟩:=T.step q (by omega)
      have hself:=D.self hq
      have hslots:∀t, t∈q2O (q0Q rows q)→(∀x, x<p→¬Lst ops l listed x→(q0Q rows x).dst≠some t)∧(p≤q→eget (S q).1 t=eget (S p).1 t)∧(q<p→eget (S q).1 t=eget (S p).1 t):=by
        intro t ht
        have hnm:t∈k9z (q0Q rows q):=List.mem_append_left _ ht
        have hnotq:(q0Q rows q).dst≠some t:=by
          intro hd
          unfold z2z at hself
          rw[hd] at hself
          simp only[Bool.not_eq_true'] at hself
          have:(q2O (q0Q rows q)).contains t=true:=by simpa using ht
          rw[this] at hself
          cases hself
        have hpro:∀x, x<ops.size→¬Lst ops l listed x→(x<p∨x<q)→(q0Q rows x).dst≠some t:=by
          intro x hx hnl hxp hd
          have hdi:=k0u hd hnm
          rcases Nat.lt_trichotomy x q with h|h|h
          · by_cases hdp:depB cls x q=true
            · exact hnl (hdeps hdp)
            · have:=(k1O (D.pair h hq) hdp).2.2.1
              rw[hdi] at this;cases this
          · subst h;exact hnotq hd
          · have hxp':x<p:=by omega
            have:=k9D (hfirm x hxp' hnl) h
            rw[hdi] at this;cases this
        refine ⟨fun x hx hnl=>hpro x (by omega) hnl (.inl hx), fun hpq=>?_, fun hqp=>?_⟩
        · refine k1s T hpq (by omega) (fun x h1 h2=>hpro x (by omega) (hpn x h1 (by omega)) (.inr h2))
        · refine (k1s T (Nat.le_of_lt hqp) (by omega) (fun x h1 h2 hd=>?_)).symm
          by_cases hxq:x=q
          · subst hxq;exact hnotq hd
          · have hdi:=k0u hd hnm
            by_cases hnl:Lst ops l listed x
            · have hqx:q<x:=by omega
              by_cases hdp:depB cls q x=true
              · exact hqn (hclos (by omega) hnl q hdp)
              · have:=(k1O (D.pair hqx (by omega)) hdp).2.1
                rw[hdi] at this;cases this
            · exact hpro x (by omega) hnl (.inl h2) hd
      have her:ER σ nt (forget (q2O (q0Q rows q)) (S q).1) a:=by
        refine ⟨hsz, hdf, fun t=>?_⟩
        rw[q5E]
        split
        · rename_i ht
          obtain ⟨h1, h2, h3⟩:=hslots t ht
          have heq:eget (S q).1 t=eget (S p).1 t:=by
            rcases Nat.lt_or_ge q p with h|h
            · exact h3 h
            · exact h2 h
          rw[heq]
          rcases henv t with ⟨x, hx, hnl, hd⟩|h
          · exact absurd hd (h1 x hx hnl)
          · exact h
        · exact .poison _
      have hdst:(q0Q rows q).dst=o.dst:=(q4v hprow).2.1
      have hdlt:∀d, o.dst=some d→d<nt:=(q4v hprow).2.2.1
      have hun':∀x, x<ops.size→¬Lst ops l (listed.setIfInBounds (l.getD q ops.size) true) x→x∈U.erase q:=by
        intro x hx hnl
        rw[hL' x hx, not_or] at hnl
        exact (List.mem_erase_of_ne hnl.2).2 (hun x hx hnl.1)
      have hUe:(U.erase q).length=fuel:=by
        rw[List.length_erase_of_mem (hun q hq hqn), hU]
        rfl
      have hcl':∀x, x<ops.size→Lst ops l (listed.setIfInBounds (l.getD q ops.size) true) x→∀o', ops[l.getD x ops.size]?=some o'→∀e∈o'.after, Region.binds .any e=true→(listed.setIfInBounds (l.getD q ops.size) true).getD e.on false=true:=by
        intro x hx hLx o' ho' e he hbd
        refine getD_set_true ?_
        rw[hL' x hx] at hLx
        rcases hLx with h|h
        · exact hcl x hx h o' ho' e he hbd
        · subst h
          rw[ho] at ho'
          injection ho' with ho'
          subst ho'
          exact hall e he hbd
      have hls':(listed.setIfInBounds (l.getD q ops.size) true).size=ops.size:=by simpa using hls
      suffices hgo:∀(next:Act→World→Prop), next=wpAny P .any ops Q fuel (listed.setIfInBounds (l.getD q ops.size) true)→(if Region.wanted o (yielded ops a.tmps) then o.wp P a w next Q else next (a.put o.dst undef) w) by
        unfold wpOp
        rw[ho]
        have:=hgo _ rfl
        simp only
        split
        · rename_i hw
          rw[if_pos hw] at this
          exact .inl this
        · rename_i hw
          rw[if_neg hw] at this
          exact this
      intro next hnext
      have hputsz:∀v', (a.put o.dst v').tmps.size=nt∧(a.put o.dst v').defers=[]:=by
        intro v'
        cases o.dst<;>simp[Act.put, hsz, hdf]
      have hput:∀v' t, ((a.put o.dst v').tmps.getD t undef=if o.dst=some t then v' else a.tmps.getD t undef):=by
        intro v' t
        cases hd:o.dst with
        | none=>simp[Act.put]
        | some d=>
          have hdl:d<a.tmps.size:=by rw[hsz];exact hdlt d hd
          simp only[Act.put, Option.some.injEq]
          by_cases e1:d=t
          · subst e1
            simp[Array.getD, hdl]
          · rw[if_neg e1]
            simp only[Array.getD_eq_getD_getElem?]
            rw[Array.getElem?_setIfInBounds_ne e1]
      rcases Nat.lt_or_ge q p with hqp|hpq
      ·
        have hnf:k4V rows q=false:=hfirm q hqp hqn
        have hquiet:=q9s hnf
        have hvle:q0B (S q).2 (S p).2:=q4U T hver (Nat.le_of_lt hqp) (by omega)
        have hpE:q<q4T rows→noRd (q0Q rows q).op=false→p≤q4T rows:=by
          intro hqE hnr
          rcases q6W rows with hE|⟨hE, hst, _⟩
          · omega
          · refine Decidable.byContradiction fun hcon=>?_
            by_cases hL:Lst ops l listed (q4T rows)
            · exact hqn (hclos (by omega) hL q (D.last (by omega) hqE hnr))
            · have hf1:=hfirm _ (by omega) hL
              have hloud:=q9s hf1
              revert hst hloud
              cases (q0Q rows (q4T rows)).op<;>simp[q0M, AOp.loud]
        have hEl:q4T rows≤rows.length:=by rcases q6W rows with h|⟨h, _⟩<;>omega
        have hkept:∀t, (q0Q rows q).dst=some t→eget (S p).1 t=v:=by
          intro t hd
          have h1:eget (S (q+1)).1 t=v:=by rw[hv2, hd];simp[eput, q3R]
          rw[←h1]
          refine k1s T (by omega) (by omega) (fun x hx1 hx2 hdx=>?_)
          have hnm:t∈k9z (q0Q rows q):=List.mem_append_right _ (by rw[hd];simp)
          have hdi:=k0u hdx hnm
          have hqx:q<x:=by omega
          by_cases hnl:Lst ops l listed x
          · by_cases hdp:depB cls q x=true
            · exact hqn (hclos (by omega) hnl q hdp)
            · have:=(k1O (D.pair hqx (by omega)) hdp).2.1
              rw[hdi] at this;cases this
          · have:=k9D (hfirm x hx2 hnl) hqx
            rw[hdi] at this;cases this
        have hinv':∀σ' v' w', VR σ' v v'→Sub σ σ'→HR P σ' base (S p).2 w'→Fr σ0 σ' H0 (S p).2 w0 w'→w.heap.size≤w'.heap.size→(∀x, x<p→¬Lst ops l listed x→x≠q→(S (x+1)).2.n=(S x).2.n+1→σ' (S x).2.n=none)→next (a.put o.dst v') w':=by
          intro σ' v' w' g1 g2 g3 g4 g5 g6
          subst hnext
          refine ih _ _ _ ⟨p, σ', U.erase q, hp, hls', hUe, hun', fun x hx1 hx2 hLx=>?_, hcl', fun x hx hnl=>?_, g3, g4, Nat.le_trans hb g5, (hputsz v').1, (hputsz v').2, fun t=>?_, fun x hx hnl hn=>?_⟩
          · rw[hL' x hx2] at hLx
            rcases hLx with h|h
            · exact hpn x hx1 hx2 h
            · omega
          · rw[hL' x (by omega), not_or] at hnl
            exact hfirm x hx hnl.1
          · rw[hput]
            split
            · rename_i hd
              right
              rw[hkept t (by rw[hdst];exact hd)]
              exact g1
            · rename_i hd
              rcases henv t with ⟨x, hx, hnl, hdx⟩|h
              · by_cases hxq:x=q
                · subst hxq
                  rw[hdst] at hdx
                  exact absurd hdx hd
                · exact .inl ⟨x, hx, by rw[hL' x (by omega), not_or];exact ⟨hnl, hxq⟩, hdx⟩
              · exact .inr (h.mono g2)
          · rw[hL' x (by omega), not_or] at hnl
            exact g6 x hx hnl.1 hnl.2 hn
        rcases k0t hquiet hv with ⟨he, hlater⟩|⟨hg, hfr, b, hnb, he⟩
        ·
          have hst:∀pp∈q3p (S q).2 (forget (q2O (q0Q rows q)) (S q).1) (q0Q rows q), ∃b, (S p).2.get pp.1=some b∧b.ver=pp.2:=by
            intro pp hpp
            have hnq:noRd (q0Q rows q).op=false:=by
              cases hnr:noRd (q0Q rows q).op with
              | false=>rfl
              | true=>
                rw[k1N hnr] at hpp
                simp at hpp
            have hqE:q<q4T rows:=by
              rcases q6W rows with hE|⟨hE, hst, hno⟩
              · omega
              · refine Decidable.byContradiction fun hcon=>?_
                have hnr:noRd (q0Q rows q).op=true:=by
                  by_cases e:q=q4T rows
                  · subst e
                    revert hst
                    cases (q0Q rows (q4T rows)).op<;>simp[q0M, noRd]
                  · exact hno q (by omega) (by omega)
                rw[k1N hnr] at hpp
                simp at hpp
            have hvle2:q0B (S p).2 (S (q4T rows)).2:=q4U T hver (hpE hqE hnq) hEl
            obtain ⟨bn, hbn, hvn⟩:=T.stamp q (by omega) pp hpp
            obtain ⟨b0, hb0, hv0⟩:∃b0, (S q).2.get pp.1=some b0∧b0.ver=pp.2:=by
              unfold q3p at hpp
              split at hpp
              · split at hpp
                · split at hpp
                  · rename_i b hb0
                    simp only[List.mem_singleton] at hpp
                    subst hpp
                    exact ⟨b, hb0, rfl⟩
                  · simp at hpp
                · simp at hpp
              · unfold k6f at hpp
                split at hpp
                · split at hpp
                  · rename_i b hb0
                    simp only[List.mem_singleton] at hpp
                    subst hpp
                    exact ⟨b, hb0, rfl⟩
                  · simp at hpp
                · simp at hpp
              · simp at hpp
            obtain ⟨b1, hb1, hle1, _⟩:=hvle.2 _ _ hb0
            obtain ⟨b2, hb2, hle2, _⟩:=hvle2.2 _ _ hb1
            rw[hbn] at hb2
            injection hb2 with hb2
            subst hb2
            exact ⟨b1, hb1, by omega⟩
          have hrv:=hlater (S p).2 hvle hst
          refine k3V hcf her hh hb hprow hrv fun σ' v' w' g1 g2 g3=>?_
          refine hinv' σ' v' w' g1 g3.sub g2 (hf.trans g3) g3.size fun x hx hnl hxq hn=>?_
          have hxn:(S x).2.n<(S p).2.n:=by
            have:=(q4U T hver (show x+1≤p by omega) (by omega)).1
            omega
          rw[g3.old _ hxn]
          exact habs x hx hnl hn
        ·
          have hblk:=k9C hnb
          have hblk':b.st=.tip∧b.anc=[]∧b.ver=0:=hblk
          have hnoloud:∀x, q+1≤x→x<p→(q0Q rows x).op.loud=false∨q1b (q0Q rows x).op=true:=by
            intro x hx1 hx2
            by_cases hnl:Lst ops l listed x
            · by_cases hdp:depB cls q x=true
              · exact absurd (hclos (by omega) hnl q hdp) hqn
              · exact (k1O (D.pair (show q<x by omega) (by omega)) hdp).2.2.2 hfr
            · exact .inl (q9s (hfirm x hx2 hnl))
          obtain ⟨hgb, hnb2⟩:=k8u T hver he hfr hblk' (show q+1≤p by omega) (by omega) hnoloud
          have hnone:σ (S q).2.n=none:=habs q hqp hqn (by rw[he];simp)
          have hnew:=z2C (q4v hprow).1 hfr her hnb
          obtain ⟨n1, n2, n3, cs, sz, hc, hs, hrun⟩:=hnew
          obtain ⟨v', hr1, hr2⟩:=hrun w
          have hw:Region.wanted o (yielded ops a.tmps)=true:=q7F her (q4v hprow).2.2.2 hg
          rw[hw, if_pos rfl]
          unfold Oper.wp
          rw[hr1]
          simp only[Oper.upon]
          have hH0:H0.n≤(S q).2.n:=by rw[←hs0];exact (q4U T hver (Nat.zero_le q) (by omega)).1
          refine hinv' (ext σ (S q).2.n ⟨w.heap.size, 0, cs.size, sz⟩) v' _ (hr2 _ (k4T _ _ _)) (Sub.ext hnone _) (hh.fill hb hgb n1 n3 hnone (fun j bj hj hjo hm=>?_) hc hs) (hf.fill hH0 hnone _ _ rfl) (by simp) (fun x hx hnl hxq hn=>?_)
          · have:=hh.anc hgb hj (by rw[hblk'.1];rfl) hjo hm
            rw[hblk'.1] at this
            cases this
          · have hne : (S x).2.n ≠ (S q).2.n := by
              rcases Nat.lt_or_ge x q with h|h
              · have:=(q4U T hver (show x+1≤q by omega) (by omega)).1
                omega
              · have hqx:q+1≤x:=by omega
                have h1:=(q4U T hver hqx (by omega)).1
                have h2:(S (q+1)).2.n=(S q).2.n+1:=by rw[he];simp
                omega
            simp only[ext, if_neg hne]
            exact habs x hx hnl hn
      ·
        have hquiet:∀x, p≤x→x<q→k4V rows x=false:=by
          intro x hx1 hx2
          by_cases hdp:depB cls x q=true
          · exact absurd (hdeps hdp) (hpn x hx1 (by omega))
          · exact (k1O (D.pair hx2 hq) hdp).1
        obtain ⟨hh2, hf2⟩:=k8t T hh hf hpq (by omega) (fun x h1 h2=>q9s (hquiet x h1 h2))
        refine k3V hcf her hh2 hb hprow hv fun σ' v' w' g1 g2 g3=>?_
        subst hnext
        refine ih _ _ _ ⟨q+1, σ', U.erase q, by omega, hls', hUe, hun', fun x hx1 hx2 hLx=>?_, hcl', fun x hx hnl=>?_, g2, hf2.trans g3, Nat.le_trans hb g3.size, (hputsz v').1, (hputsz v').2, fun t=>?_, fun x hx hnl hn=>?_⟩
        · rw[hL' x hx2] at hLx
          rcases hLx with h|h
          · exact hpn x (by omega) hx2 h
          · omega
        · rw[hL' x (by omega), not_or] at hnl
          rcases Nat.lt_or_ge x p with h|h
          · exact hfirm x h hnl.1
          · exact hquiet x h (by omega)
        · rw[hput]
          split
          · rename_i hd
            right
            rw[hv2, hdst, hd]
            simp only[eput, q3R, if_true]
            exact g1
          · rename_i hd
            have hS:eget (S (q+1)).1 t=eget (S q).1 t:=by
              rw[hv2, hdst]
              cases hd2:o.dst with
              | none=>rfl
              | some d=>
                simp only[eput, q3R]
                rw[if_neg (fun e=>hd (by rw[hd2, e]))]
            rw[hS]
            by_cases hex:∃x, p≤x∧x<q∧(q0Q rows x).dst=some t
            · obtain ⟨x, hx1, hx2, hdx⟩:=hex
              exact .inl ⟨x, by omega, by rw[hL' x (by omega), not_or];exact ⟨hpn x hx1 (by omega), by omega⟩, hdx⟩
            · have heq:eget (S q).1 t=eget (S p).1 t:=k1s T hpq (by omega) (fun x h1 h2 hdx=>hex ⟨x, h1, h2, hdx⟩)
              rw[heq]
              rcases henv t with ⟨x, hx, hnl, hdx⟩|h
              · exact .inl ⟨x, by omega, by rw[hL' x (by omega), not_or];exact ⟨hnl, by omega⟩, hdx⟩
              · exact .inr (h.mono g3.sub)
        · have hxq:x<q∨x=q:=by omega
          rw[hL' x (by omega), not_or] at hnl
          have hxlt : x < q := by rcases hxq with h | h; · exact h
                                  · exact absurd h hnl.2
          have hxn:(S x).2.n<(S q).2.n:=by
            have:=(q4U T hver (show x+1≤q by omega) (by omega)).1
            omega
          rw[g3.old _ hxn]
          rcases Nat.lt_or_ge x p with h|h
          · exact habs x h hnl.1 hn
          · refine hh.out _ ?_
            exact (q4U T hver h (by omega)).1
theorem z1D (hmix : P.follows .mixedOrders = true) (hcf : ∀ g args H v H', cf g args H = some (v, H') → Sim P base g args H v H') (hok : k9B ops l rows cls = true) (hprep : q6V P nt ops l = some rows)
    {σ:Sig} {e e':Env} {a:Act} {H H':q0a} {w:World} (her:ER σ nt e a) (hh:HR P σ base H w) (hb:base≤w.heap.size) (h:q3F P cf rows [] [] e H=some (e', H')) {id:Nat} {Q:Exit→Act→World→Prop}
    (hQ:∀σ' a' w', ER σ' nt e' a'→HR P σ' base H' w'→Fr σ σ' H H' w w'→Q .normal a' w'):(Code.region id ops true).wp P Q a w:=by
  have D:=k8r hok
  obtain ⟨S, s0, s1, T, _, _⟩:=k3U h
  refine wp_region_any hmix (z5u (σ0:=σ) (H0:=H) (w0:=w) hcf D hprep T (by rw[s0]) (fun σ' a' w' h1 h2 h3=>?_) _ _ _ _ ?_)
  · rw[s1] at h1 h2 h3
    exact hQ σ' a' w' h1 h2 h3
  · refine ⟨0, σ, List.range ops.size, Nat.zero_le _, by simp, by simp, fun q hq _=>by simpa using hq, fun q _ hq hL=>?_, fun q hq hL=>?_, fun q hq=>by omega, ?_, ?_, hb, her.size, her.defers, fun t=>.inr ?_, fun q hq=>by omega⟩
    · unfold Lst at hL
      simp[Array.getD] at hL
    · exfalso
      unfold Lst at hL
      simp[Array.getD] at hL
    · rw[s0];exact hh.drewN _
    · rw[s0];exact Fr.drewN _ _ _ _
    · rw[s0];exact her.get t
end
def z5v (ops:Array Oper) (l:List Nat):List (List Nat):=
 (List.range ops.size).foldl (fun acc q=>acc++[(q6U ops l q++(q6U ops l q).flatMap fun x=>acc.getD x []).eraseDups]) []
def q3q (P:Program) (nt:Nat):Code→List (List Nat)→Option (q0f×List (List Nat))
 | .skip,hs=>some (.skip,hs)
 | .region _ ops false,hs=>(q9r P nt ops ops.toList).map fun rows=>(.ops rows,hs)
 | .region _ ops true,hs=>match hs with
  | l::hs=>match q6V P nt ops l with
   | some rows=>if k9B ops l rows (z5v ops l)=true then some (.draw rows,hs) else none
   | none=>none
  | []=>none
 | .seq a b,hs=>match q3q P nt a hs with
  | some (a',hs)=>match q3q P nt b hs with
   | some (b',hs)=>some (.seq a' b',hs)
   | none=>none
  | none=>none
 | .cond c a b,hs=>match q3q P nt a hs with
  | some (a',hs)=>match q3q P nt b hs with
   | some (b',hs)=>some (.cond c a' b',hs)
   | none=>none
  | none=>none
 | .block id c,hs=>match Nat.blt id 1000000,q3q P nt c hs with
  | true,some (c',hs)=>some (.block id c',hs)
  | _,_=>none
 | .loop c,hs=>match hs with
  | keep::hs=>match q3q P nt c hs with
   | some (c',hs)=>some (.loop keep c',hs)
   | none=>none
  | []=>none
 | .exit id,hs=>match Nat.blt id 1000000 with
  | true=>some (.exit id,hs)
  | false=>none
 | .ret,hs=>some (.ret,hs)
 | .label _,hs=>some (.skip,hs)
 | .goto l,hs=>some (.exit (l+1000000),hs)
 | _,_=>none
def z1E (id:Nat):Exit:=match Nat.blt id 1000000 with
 | true=>.exit id
 | false=>.goto (id-1000000)
theorem q8k {id:Nat} (h:Nat.blt id 1000000=true):z1E id=.exit id:=by unfold z1E;rw[h]
theorem k1t {id:Nat} (h:Nat.blt id 1000000=false):z1E id=.goto (id-1000000):=by unfold z1E;rw[h]
theorem k3X (l:Nat):z1E (l+1000000)=.goto l:=by
 have:Nat.blt (l+1000000) 1000000=false:=by
  cases h:Nat.blt (l+1000000) 1000000 with
  | false=>rfl
  | true=>rw[Nat.blt_eq] at h;omega
 rw[k1t this]
 simp
def AEx.toExit:AEx→Exit
 | .normal=>.normal
 | .exit id=>z1E id
 | .ret=>.ret
section
variable {P:Program} {nt base:Nat} {cf:q0F}
theorem ER.forget {σ:Sig} {e:Env} {a:Act} (h:ER σ nt e a) (ks:List Nat):ER σ nt (forget ks e) a:=by
 refine ⟨h.size,h.defers,fun t=>?_⟩
 rw[q5E]
 split
 ·exact h.get t
 ·exact .poison _
def z2E (P:Program) (base:Nat) (nt:Nat) (c:Code) (σ:Sig) (a:Act) (w:World) (H:q0a) (x:AEx) (e':Env) (H':q0a):Prop:=
 ∀Q:Exit→Act→World→Prop,(∀σ' a' w',ER σ' nt e' a'→HR P σ' base H' w'→Fr σ σ' H H' w w'→Q x.toExit a' w')→c.wp P Q a w
theorem z1F {c:Code} {keep:List Nat} {body:Env→q0a→Option (AEx×Env×q0a)}
  (hb:∀{σ e a H w x e' H'},ER σ nt e a→HR P σ base H w→base≤w.heap.size→body e H=some (x,e',H')→z2E P base nt c σ a w H x e' H') :
  ∀(n:Nat) {σ e a H w x e' H'},ER σ nt e a→HR P σ base H w→base≤w.heap.size→q4i keep body n e H=some (x,e',H')→z2E P base nt (.loop c) σ a w H x e' H':=by
 intro n σ e a H w x e' H' her hh hbs h Q hQ
 refine wp_loop_rounds n ?_
 revert hQ
 suffices hgo:∀(n:Nat) {σ1:Sig} {e1:Env} {a1:Act} {H1:q0a} {w1:World},ER σ1 nt e1 a1→HR P σ1 base H1 w1→base≤w1.heap.size→q4i keep body n e1 H1=some (x,e',H') →
   (∀σ' a' w',ER σ' nt e' a'→HR P σ' base H' w'→Fr σ1 σ' H1 H' w1 w'→Q x.toExit a' w')→Code.rounds P c Q n a1 w1 from fun hQ=>hgo n her hh hbs h hQ
 intro n
 induction n with
 | zero=>intro σ1 e1 a1 H1 w1 _ _ _ h;simp[q4i] at h
 | succ n ih=>
  intro σ1 e1 a1 H1 w1 her hh hbs h hQ
  rw[rounds_succ]
  simp only[q4i] at h
  split at h
  ·cases h
  ·rename_i e2 H2 h2
   refine hb (her.forget keep) hh hbs h2 _ fun σ' a' w' q1 q2 q3=>?_
   simp only[AEx.toExit,Exit.then]
   exact ih q1 q2 (Nat.le_trans hbs q3.size) h fun σ2 a2 w2 p1 p2 p3=>hQ σ2 a2 w2 p1 p2 (q3.trans p3)
  ·rename_i r hr h2
   injection h with h
   subst h
   refine hb (her.forget keep) hh hbs h2 _ fun σ' a' w' q1 q2 q3=>?_
   have:=hQ σ' a' w' q1 q2 q3
   cases x with
   | normal=>exact absurd rfl (hr e' H')
   | exit id=>
    simp only[AEx.toExit] at this ⊢
    cases hb:Nat.blt id 1000000 with
    | true=>rw[q8k hb] at this ⊢;exact this
    | false=>rw[k1t hb] at this ⊢;exact this
   | ret=>exact this
theorem q6A (hmix:P.follows .mixedOrders=true) (hcf:∀g args H v H',cf g args H=some (v,H')→Sim P base g args H v H') {lf:Nat} :
  ∀(c:Code) {hs hs':List (List Nat)} {ac:q0f},q3q P nt c hs=some (ac,hs')→∀{σ:Sig} {e:Env} {a:Act} {H:q0a} {w:World} {x:AEx} {e':Env} {H':q0a},
   ER σ nt e a→HR P σ base H w→base≤w.heap.size→q0t P cf lf ac e H=some (x,e',H')→z2E P base nt c σ a w H x e' H':=by
 intro c
 induction c with
 | skip=>
  intro hs hs' ac hp σ e a H w x e' H' her hh hb h Q hQ
  simp only[q3q,Option.some.injEq,Prod.mk.injEq] at hp
  obtain ⟨rfl,rfl⟩:=hp
  simp only[q0t,Option.some.injEq,Prod.mk.injEq] at h
  obtain ⟨rfl,rfl,rfl⟩:=h
  exact wp_skip (hQ σ a w her hh (Fr.refl _ _ _))
 | region id ops draw=>
  intro hs hs' ac hp σ e a H w x e' H' her hh hb h Q hQ
  cases draw with
  | false=>
   simp only[q3q,Option.map_eq_some_iff,Prod.mk.injEq] at hp
   obtain ⟨rows,hr,rfl,rfl⟩:=hp
   simp only[q0t,Option.map_eq_some_iff,Prod.mk.injEq] at h
   obtain ⟨⟨e1,H1⟩,h1,rfl,rfl,rfl⟩:=h
   exact wp_region_list (k3S hcf _ hr her hh hb h1 hQ)
  | true=>
   cases hs with
   | nil=>simp[q3q] at hp
   | cons l hs=>
    simp only[q3q] at hp
    split at hp
    ·rename_i rows hr
     split at hp
     ·rename_i hd
      simp only[Option.some.injEq,Prod.mk.injEq] at hp
      obtain ⟨rfl,rfl⟩:=hp
      simp only[q0t,Option.map_eq_some_iff,Prod.mk.injEq] at h
      obtain ⟨⟨e1,H1⟩,h1,rfl,rfl,rfl⟩:=h
      exact z1D hmix hcf hd hr her hh hb h1 hQ
     ·cases hp
    ·cases hp
 | seq c1 c2 ih1 ih2=>
  intro hs hs' ac hp σ e a H w x e' H' her hh hb h Q hQ
  simp only[q3q] at hp
  split at hp
  ·rename_i a1 hs1 hp1
   split at hp
   ·rename_i b1 hs2 hp2
    simp only[Option.some.injEq,Prod.mk.injEq] at hp
    obtain ⟨rfl,rfl⟩:=hp
    simp only[q0t] at h
    split at h
    ·rename_i e1 H1 h1
     refine wp_seq (ih1 hp1 her hh hb h1 _ fun σ' a' w' q1 q2 q3=>?_)
     simp only[AEx.toExit,Exit.then]
     exact ih2 hp2 q1 q2 (Nat.le_trans hb q3.size) h _ fun σ2 a2 w2 p1 p2 p3=>hQ σ2 a2 w2 p1 p2 (q3.trans p3)
    ·rename_i hn
     refine wp_seq (ih1 hp1 her hh hb h _ fun σ' a' w' q1 q2 q3=>?_)
     have:=hQ σ' a' w' q1 q2 q3
     cases x with
     | normal=>exact absurd h (hn e' H')
     | exit id=>
      simp only[AEx.toExit] at this ⊢
      cases hb:Nat.blt id 1000000 with
      | true=>rw[q8k hb] at this ⊢;exact this
      | false=>rw[k1t hb] at this ⊢;exact this
     | ret=>exact this
   ·cases hp
  ·cases hp
 | cond c c1 c2 ih1 ih2=>
  intro hs hs' ac hp σ e a H w x e' H' her hh hb h Q hQ
  simp only[q3q] at hp
  split at hp
  ·rename_i a1 hs1 hp1
   split at hp
   ·rename_i b1 hs2 hp2
    simp only[Option.some.injEq,Prod.mk.injEq] at hp
    obtain ⟨rfl,rfl⟩:=hp
    simp only[q0t] at h
    have hv:=q0A her c
    split at h
    ·rename_i hc
     rw[hc] at hv
     exact wp_cond_true (VR.bool_inv hv) (ih1 hp1 her hh hb h Q hQ)
    ·rename_i hc
     rw[hc] at hv
     exact wp_cond_false (VR.bool_inv hv) (ih2 hp2 her hh hb h Q hQ)
    ·cases h
   ·cases hp
  ·cases hp
 | block id c ih=>
  intro hs hs' ac hp σ e a H w x e' H' her hh hb h Q hQ
  simp only[q3q] at hp
  split at hp
  ·rename_i a1 hs1 hid0 hp1
   simp only[Option.some.injEq,Prod.mk.injEq] at hp
   obtain ⟨rfl,rfl⟩:=hp
   simp only[q0t] at h
   refine wp_block ?_
   split at h
   ·rename_i id' e1 H1 h1
    refine ih hp1 her hh hb h1 _ fun σ' a' w' q1 q2 q3=>?_
    simp only[AEx.toExit]
    split at h
    ·rename_i hid
     subst hid
     rw[q8k hid0]
     show (if id'=id' then Q .normal a' w' else Q (.exit id') a' w')
     rw[if_pos rfl]
     simp only[Option.some.injEq,Prod.mk.injEq] at h
     obtain ⟨rfl,rfl,rfl⟩:=h
     exact hQ σ' a' w' q1 q2 q3
    ·rename_i hid
     simp only[Option.some.injEq,Prod.mk.injEq] at h
     obtain ⟨rfl,rfl,rfl⟩:=h
     have:=hQ σ' a' w' q1 q2 q3
     simp only[AEx.toExit] at this
     cases hb:Nat.blt id' 1000000 with
     | true=>
      rw[q8k hb] at this ⊢
      show (if id'=id then Q .normal a' w' else Q (.exit id') a' w')
      rw[if_neg hid]
      exact this
     | false=>
      rw[k1t hb] at this ⊢
      exact this
   ·rename_i hn
    refine ih hp1 her hh hb h _ fun σ' a' w' q1 q2 q3=>?_
    have:=hQ σ' a' w' q1 q2 q3
    cases x with
    | normal=>exact this
    | exit id'=>exact absurd h (hn id' e' H')
    | ret=>exact this
  ·cases hp
 | loop c ih=>
  intro hs hs' ac hp σ e a H w x e' H' her hh hb h Q hQ
  cases hs with
  | nil=>simp[q3q] at hp
  | cons keep hs=>
   simp only[q3q] at hp
   split at hp
   ·rename_i a1 hs1 hp1
    simp only[Option.some.injEq,Prod.mk.injEq] at hp
    obtain ⟨rfl,rfl⟩:=hp
    simp only[q0t] at h
    exact z1F (fun g1 g2 g3 g4=>ih hp1 g1 g2 g3 g4) lf her hh hb h Q hQ
   ·cases hp
 | exit id=>
  intro hs hs' ac hp σ e a H w x e' H' her hh hb h Q hQ
  simp only[q3q] at hp
  split at hp
  case h_2=>cases hp
  rename_i hid
  simp only[Option.some.injEq,Prod.mk.injEq] at hp
  obtain ⟨rfl,rfl⟩:=hp
  simp only[q0t,Option.some.injEq,Prod.mk.injEq] at h
  obtain ⟨rfl,rfl,rfl⟩:=h
  have:=hQ σ a w her hh (Fr.refl _ _ _)
  simp only[AEx.toExit] at this
  rw[q8k hid] at this
  exact wp_exit this
 | label l=>
  intro hs hs' ac hp σ e a H w x e' H' her hh hb h Q hQ
  simp only[q3q,Option.some.injEq,Prod.mk.injEq] at hp
  obtain ⟨rfl,rfl⟩:=hp
  simp only[q0t,Option.some.injEq,Prod.mk.injEq] at h
  obtain ⟨rfl,rfl,rfl⟩:=h
  exact wp_label (hQ σ a w her hh (Fr.refl _ _ _))
 | goto l=>
  intro hs hs' ac hp σ e a H w x e' H' her hh hb h Q hQ
  simp only[q3q,Option.some.injEq,Prod.mk.injEq] at hp
  obtain ⟨rfl,rfl⟩:=hp
  simp only[q0t,Option.some.injEq,Prod.mk.injEq] at h
  obtain ⟨rfl,rfl,rfl⟩:=h
  have:=hQ σ a w her hh (Fr.refl _ _ _)
  simp only[AEx.toExit] at this
  rw[k3X] at this
  exact wp_goto this
 | ret=>
  intro hs hs' ac hp σ e a H w x e' H' her hh hb h Q hQ
  simp only[q3q,Option.some.injEq,Prod.mk.injEq] at hp
  obtain ⟨rfl,rfl⟩:=hp
  simp only[q0t,Option.some.injEq,Prod.mk.injEq] at h
  obtain ⟨rfl,rfl,rfl⟩:=h
  exact wp_ret (hQ σ a w her hh (Fr.refl _ _ _))
 | _=>intro hs hs' ac hp;simp[q3q] at hp
end
def q6r (P:Program):List ResultVar→Option (List ARes)
 | []=>some []
 | .tmp t::r=>(q6r P r).map fun l=>.tmp t::l
 | .cell a t::r=>match q5D P t,q6r P r with
  | some p,some l=>some (.cell a (if p.1 then some p.2 else none)::l)
  | _,_=>none
section
variable {P:Program} {base nt:Nat}
theorem z5w (w:World) {σ:Sig} {e:Env} {a:Act} {H:q0a} (her:ER σ nt e a) (hh:HR P σ base H w) {t:TypeId} {x:Nat} {p:Bool×Nat} (hs:q5D P t=some p) {v:Value}
  (h:q6q P e H (.load (.tmp x) (if p.1 then some p.2 else none))=some v):∃i o l,eget e x=.pointer (some ⟨i,o,none⟩)∧σ i=some l∧a.tmps.getD x undef=.pointer (some ⟨l.b,l.f+o,none⟩)∧∃v',(loadVar t ⟨l.b,l.f+o,none⟩).run P w=.ok v' w∧VR σ v v':=by
 obtain ⟨d,hd,hp1,hsz⟩:=q6S hs
 simp only[q6q] at h
 split at h
 ·rename_i i off hx
  have hx0:=q0A her (.tmp x)
  rw[hx] at hx0
  obtain ⟨l,hl,hx'⟩:=VR.ptr_inv hx0
  refine ⟨i,off,l,hx,hl,hx',?_⟩
  split at h
  ·rename_i blk hg
   split at h
   ·rename_i hm
    split at h
    ·rename_i n hn
     split at h
     ·rename_i hle
      injection h with h
      subst h
      cases hp:p.1 with
      | false=>rw[hp] at hn;cases hn
      | true=>
       rw[hp] at hn
       simp at hn
       subst hn
       obtain ⟨ds,h1,h2⟩:=hh.rowOf hg hm hl off p.2 hle
       have hdl:ds.length=p.2:=by have:=h1.length;simp at this;omega
       refine ⟨.agg ⟨ds⟩,?_,.agg _ _ h1⟩
       have hrun:=run_loadCells_list (P:=P) w ⟨l.b,l.f+off,none⟩ ds (fun j v hj=>by rw[q3U];have:=h2 j v hj;rwa [←Nat.add_assoc] at this)
       rw[hdl] at hrun
       simp only[loadVar,Sem.run_bind,Sem.run_pure,Result.andThen_ok,q6z hd,←hp1,hp,if_true,q0K hsz,hrun]
     ·cases h
    ·rename_i hn
     cases hp:p.1 with
     | true=>rw[hp] at hn;cases hn
     | false=>
      obtain ⟨v',h1,h2⟩:=hh.cells hg hm hl h
      refine ⟨v',?_,h2⟩
      have h1':w.cell? ⟨l.b,l.f+off,none⟩=some v':=h1
      simp[loadVar,q6z hd,←hp1,hp,h1']
   ·cases h
  ·cases h
 ·cases h
def res1 (a:Act):ResultVar→Sem Value
 | .tmp t=>pure (a.tmps.getD t undef)
 | .cell x t=>do loadVar t (←asAddr (a.tmps.getD x undef))
theorem q9t (w:World) {σ:Sig} {e:Env} {a:Act} {H:q0a} (her:ER σ nt e a) (hh:HR P σ base H w):∀(rs:List ResultVar) {rs':List ARes} {vs:List Value},q6r P rs=some rs'→q5R P e H rs'=some vs →
  ∃vs',(rs.mapM (res1 a)).run P w=.ok vs' w∧VRs σ vs vs'
 | [],rs',vs,hp,h=>by
  simp[q6r] at hp
  subst hp
  simp[q5R] at h
  subst h
  exact ⟨[],by simp,.nil⟩
 | .tmp t::rs,rs',vs,hp,h=>by
  simp only[q6r,Option.map_eq_some_iff] at hp
  obtain ⟨l,hl,rfl⟩:=hp
  simp only[q5R,resA] at h
  split at h
  ·rename_i v vs0 h1 h2
   injection h with h
   subst h
   injection h1 with h1
   subst h1
   obtain ⟨vs',h3,h4⟩:=q9t w her hh rs hl h2
   refine ⟨_::vs',?_,.cons _ _ _ _ (her.get t) h4⟩
   rw[List.mapM_cons,Sem.run_bind]
   simp only[res1,Sem.run_pure,Result.andThen_ok,Sem.run_bind,h3]
  ·cases h
 | .cell x t::rs,rs',vs,hp,h=>by
  simp only[q6r] at hp
  split at hp
  ·rename_i p l hs hl
   injection hp with hp
   subst hp
   simp only[q5R,resA] at h
   split at h
   ·rename_i v vs0 h1 h2
    injection h with h
    subst h
    obtain ⟨vs',h3,h4⟩:=q9t w her hh rs hl h2
    obtain ⟨i,o,lo,hx,hlo,hav,v',hv1,hv2⟩:=z5w w her hh hs h1
    refine ⟨v'::vs',?_,.cons _ _ _ _ hv2 h4⟩
    rw[List.mapM_cons,Sem.run_bind]
    simp only[res1,hav,asAddr,Sem.run_pure,Result.andThen_ok,Sem.run_bind,hv1,h3]
   ·cases h
  ·cases hp
theorem VRs.get? {σ:Sig} {xs ys:List Value} (h:VRs σ xs ys) (k:Nat):(xs[k]?=none∧ys[k]?=none)∨∃v v',xs[k]?=some v∧ys[k]?=some v'∧VR σ v v':=by
 cases hx:xs[k]? with
 | none=>left;refine ⟨rfl,?_⟩;rw[List.getElem?_eq_none_iff] at hx ⊢;rw[h.length];exact hx
 | some v=>right;obtain ⟨v',h1,h2⟩:=h.get hx;exact ⟨v,v',rfl,h1,h2⟩
theorem k9E:∀(args:List Value) (k t:Nat),eget ((args.zipIdx k).map fun p=>(p.2,p.1)) t=if k≤t then (args[t-k]?).getD poison else poison
 | [],k,t=>by simp[k1p]
 | v::vs,k,t=>by
  have ih:=k9E vs (k+1) t
  simp only[List.zipIdx_cons,List.map_cons,q3R]
  by_cases h:k=t
  ·subst h;simp
  ·rw[if_neg h,ih]
   by_cases h2:k≤t
   ·rw[if_pos h2,if_pos (by omega)]
    have:t-k=(t-(k+1))+1:=by omega
    rw[this,List.getElem?_cons_succ]
   ·rw[if_neg h2,if_neg (by omega)]
theorem k6y {σ:Sig} {args args':List Value} (h:VRs σ args args') (hn:args.length≤nt):ER σ nt (q5C args) {tmps:=⟨args'⟩++Array.replicate (nt-(⟨args'⟩:Array Value).size) undef,defers:=[]}:=by
 have hl:=h.length
 refine ⟨by simp[hl];omega,rfl,fun t=>?_⟩
 unfold q5C
 rw[k9E]
 simp only[Nat.zero_le,if_true,Nat.sub_zero]
 rcases h.get? t with ⟨h1,h2⟩|⟨v,v',h1,h2,h3⟩
 ·rw[h1];exact .poison _
 ·rw[h1]
  have hlt:t<args'.length:=(List.getElem?_eq_some_iff.1 h2).1
  have:(⟨args'⟩++Array.replicate (nt-(⟨args'⟩:Array Value).size) undef:Array Value).getD t undef=v':=by
   rw[Array.getD_eq_getD_getElem?,Array.getElem?_append_left (by simpa using hlt)]
   simp[h2]
  rw[this]
  exact h3
def FOK (P:Program) (g:FuncId) (F:q0h):Prop:=
 ∃ fn c hs hs', P.funcs[g]? = some fn ∧ fn.body = some c ∧ (fn.name == "runtime.NumGoroutine") = false ∧ fn.ntmps = F.ntmps ∧ F.nargs ≤ F.ntmps ∧ q3q P F.ntmps c hs = some (F.code, hs') ∧ q6r P fn.results.toList = some F.results
theorem z1G (hmix:P.follows .mixedOrders=true) {Γ:FuncId→Option q0h} (hΓ:∀g F,Γ g=some F→FOK P g F) {Ω:q0F} (hΩ:∀g args H v H',Ω g args H=some (v,H')→Sim P base g args H v H') :
  ∀(n:Nat) (g:FuncId) (args:List Value) (H:q0a) (v:Value) (H':q0a),q2D P Γ Ω n g args H=some (v,H')→Sim P base g args H v H':=by
 intro n
 induction n with
 | zero=>intro g args H v H' h;simp[q2D] at h
 | succ n ih=>
  intro g args H v H' h
  simp only[q2D] at h
  split at h
  ·rename_i r hr
   injection h with h
   subst h
   exact hΩ _ _ _ _ _ hr
  ·split at h
   ·cases h
   ·rename_i F hF
    obtain ⟨fn,c,hs,hs',hfn,hc,hname,hnt,hna,hprep,hres⟩:=hΓ g F hF
    split at h
    ·rename_i hlen
     have hfin:∃x e H1 vs,q0t P (q2D P Γ Ω n) n F.code (q5C args) H=some (x,e,H1)∧(x=.normal∨x=.ret)∧q5R P e H1 F.results=some vs∧v=k0r vs∧H'=H1:=by
      split at h
      ·cases h
      ·rename_i x e H1 hnx hx
       simp only[Option.map_eq_some_iff,Prod.mk.injEq] at h
       obtain ⟨vs,h1,rfl,rfl⟩:=h
       refine ⟨x,e,H1,vs,hx,?_,h1,rfl,rfl⟩
       cases x with
       | normal=>exact .inl rfl
       | ret=>exact .inr rfl
       | exit id=>exact absurd rfl (hnx id)
      ·cases h
     obtain ⟨x,e,H1,vs,hx,hxx,hvs,hv0,hH0⟩:=hfin
     subst hv0 hH0
     refine ⟨⟨fn,hfn,by rw[hc];rfl,hname⟩,q1n (fun g args H v H' h=>(ih g args H v H' h).2.1) hx,fun σ w args' hargs hh hb=>?_⟩
     refine calls_of_wp hfn hc ?_
     rw[hnt]
     have her:=k6y (nt:=F.ntmps) hargs (by rw[hlen];exact hna)
     refine q6A hmix ih c hprep her hh hb hx _ fun σ' a' w' q1 q2 q3=>?_
     obtain ⟨vs',r1,r2⟩:=q9t w' q1 q2 fn.results.toList hres hvs
     have hfin:a'.defers=[]∧∃v,(results fn a'.tmps).run P w'=.ok v w'∧∃σ'' v'',Ending.returned v=Ending.returned v''∧VR σ'' (k0r vs) v''∧HR P σ'' base H' w'∧Fr σ σ'' H H' w w':=by
      refine ⟨q1.defers,(if h:(⟨vs'⟩:Array Value).size=1 then (⟨vs'⟩:Array Value)[0] else .tuple ⟨vs'⟩),?_,σ',_,rfl,?_,q2,q3⟩
      ·have hres:results fn a'.tmps=(do let vs ←fn.results.mapM (res1 a');pure (if h:vs.size=1 then vs[0] else .tuple vs)):=rfl
       rw[hres,Sem.run_bind,Array.mapM_eq_mapM_toList]
       have r1':(List.mapM (res1 a') fn.results.toList).run P w'=.ok vs' w':=r1
       simp only[Sem.run_map,r1',Result.andThen_ok,Sem.run_pure]
      ·cases r2 with
       | nil=>exact .tuple _ _ .nil
       | cons u u' us us' k1 k2=>
        cases k2 with
        | nil=>exact k1
        | cons _ _ _ _ k3 k4=>exact .tuple _ _ (.cons _ _ _ _ k1 (.cons _ _ _ _ k3 k4))
     rcases hxx with rfl|rfl
     ·exact hfin
     ·exact hfin
    ·cases h
end
def CLe (c d:q0F):Prop:=∀g args H r,c g args H=some r→d g args H=some r
theorem CLe.refl (c:q0F):CLe c c:=fun _ _ _ _ h=>h
section
variable {P:Program} {c d:q0F}
theorem z5x (h:CLe c d) {e:Env} {H:q0a} {o:AOp} {r:Value×q0a} (hr:q0o P c e H o=some r):q0o P d e H o=some r:=by
 cases o<;>first|exact hr|skip
 case call f args=>
  simp only[q0o] at hr ⊢
  split at hr
  ·exact h _ _ _ _ hr
  ·cases hr
 case mop m=>
  cases m<;>first|exact hr|skip
  case inv x name args=>
   have hr:invA P c (ev e x) name (args.map (ev e)) H=some r:=hr
   show invA P d (ev e x) name (args.map (ev e)) H=some r
   unfold invA at hr ⊢
   split at hr
   ·rename_i hrec
    exact h _ _ _ _ hr
   ·cases hr
theorem k4X (h:CLe c d) {e:Env} {H:q0a} {o:ARow} {r:Value×q0a} (hr:rowV P c o e H=some r):rowV P d o e H=some r:=by
 unfold rowV at hr ⊢
 split at hr
 ·exact z5x h hr
 ·exact hr
 ·cases hr
theorem k4Y (h:CLe c d):∀{rows:List ARow} {e:Env} {H:q0a} {r:Env×q0a},q4h P c rows e H=some r→q4h P d rows e H=some r
 | [],_,_,_,hr=>hr
 | o::os,e,H,r,hr=>by
  simp only[q4h,rowA] at hr ⊢
  cases hv:rowV P c o e H with
  | none=>rw[hv] at hr;cases hr
  | some x=>
   rw[hv] at hr
   rw[k4X h hv]
   exact k4Y h hr
theorem k4Z (h:CLe c d):∀{rows:List ARow} {l:List (Nat×Nat)} {F:List Nat} {e:Env} {H:q0a} {r:Env×q0a},q3F P c rows l F e H=some r→q3F P d rows l F e H=some r
 | [],_,_,_,_,_,hr=>hr
 | o::os,l,F,e,H,r,hr=>by
  simp only[q3F] at hr ⊢
  split at hr
  ·rename_i v H1 hv
   rw[k4X h hv]
   simp only
   split at hr
   ·rename_i hc
    rw[if_pos hc]
    exact k4Z h hr
   ·cases hr
  ·cases hr
theorem q9u {keep:List Nat} {b b':Env→q0a→Option (AEx×Env×q0a)} (hb:∀e H r,b e H=some r→b' e H=some r):∀{n m:Nat} {e:Env} {H:q0a} {r:AEx×Env×q0a},n≤m→q4i keep b n e H=some r→q4i keep b' m e H=some r
 | 0,_,_,_,_,_,hr=>by simp[q4i] at hr
 | n+1,0,_,_,_,hm,_=>absurd hm (by omega)
 | n+1,m+1,e,H,r,hm,hr=>by
  simp only[q4i] at hr ⊢
  cases hv:b (forget keep e) H with
  | none=>rw[hv] at hr;cases hr
  | some x=>
   rw[hv] at hr
   rw[hb _ _ _ hv]
   obtain ⟨x,e',H'⟩:=x
   cases x with
   | normal=>exact q9u hb (by omega) hr
   | exit id=>exact hr
   | ret=>exact hr
theorem q1c (h:CLe c d) {n m:Nat} (hm:n≤m):∀{x:q0f} {e:Env} {H:q0a} {r:AEx×Env×q0a},q0t P c n x e H=some r→q0t P d m x e H=some r
 | .skip,_,_,_,hr=>hr
 | .ops rows,e,H,r,hr=>by
  simp only[q0t,Option.map_eq_some_iff] at hr ⊢
  obtain ⟨y,h1,h2⟩:=hr
  exact ⟨y,k4Y h h1,h2⟩
 | .draw rows,e,H,r,hr=>by
  simp only[q0t,Option.map_eq_some_iff] at hr ⊢
  obtain ⟨y,h1,h2⟩:=hr
  exact ⟨y,k4Z h h1,h2⟩
 | .seq a b,e,H,r,hr=>by
  simp only[q0t] at hr ⊢
  cases hv:q0t P c n a e H with
  | none=>rw[hv] at hr;cases hr
  | some y=>
   rw[hv] at hr
   rw[q1c h hm hv]
   obtain ⟨x,e',H'⟩:=y
   cases x with
   | normal=>exact q1c h hm hr
   | exit id=>exact hr
   | ret=>exact hr
 | .cond q a b,e,H,r,hr=>by
  simp only[q0t] at hr ⊢
  split at hr
  ·exact q1c h hm hr
  ·exact q1c h hm hr
  ·cases hr
 | .block id a,e,H,r,hr=>by
  simp only[q0t] at hr ⊢
  cases hv:q0t P c n a e H with
  | none=>rw[hv] at hr;cases hr
  | some y=>
   rw[hv] at hr
   rw[q1c h hm hv]
   exact hr
 | .loop keep a,e,H,r,hr=>by
  simp only[q0t] at hr ⊢
  exact q9u (fun e H r hb=>q1c h hm hb) hm hr
 | .exit id,_,_,_,hr=>hr
 | .ret,_,_,_,hr=>hr
end
section
variable {P:Program} {Γ:FuncId→Option q0h} {Ω:q0F}
theorem q3V:∀{n m:Nat},n≤m→CLe (q2D P Γ Ω n) (q2D P Γ Ω m)
 | 0,_,_,_,_,_,_,h=>by simp[q2D] at h
 | n+1,0,hm,_,_,_,_,_=>absurd hm (by omega)
 | n+1,m+1,hm,g,args,H,r,h=>by
  have hnm:n≤m:=by omega
  simp only[q2D] at h ⊢
  cases hΩ:Ω g args H with
  | some y=>rw[hΩ] at h;exact h
  | none=>
   rw[hΩ] at h
   simp only at h ⊢
   cases hF:Γ g with
   | none=>rw[hF] at h;cases h
   | some F=>
    rw[hF] at h
    simp only at h ⊢
    split at h
    ·rename_i hl
     rw[if_pos hl]
     cases hv:q0t P (q2D P Γ Ω n) n F.code (q5C args) H with
     | none=>rw[hv] at h;cases h
     | some y=>
      rw[hv] at h
      rw[q1c (q3V hnm) hnm hv]
      exact h
    ·cases h
variable (P Γ Ω)
open Classical in
noncomputable def cw:q0F:=fun g args H=>if h:∃r n,q2D P Γ Ω n g args H=some r then some (choose h) else none
open Classical in
noncomputable def run (c:q0f) (e:Env) (H:q0a):Option (AEx×Env×q0a):=if h:∃r n,q0t P (cw P Γ Ω) n c e H=some r then some (choose h) else none
variable {P Γ Ω}
theorem q7G {g:FuncId} {args:List Value} {H:q0a} {r:Value×q0a}:cw P Γ Ω g args H=some r↔∃n,q2D P Γ Ω n g args H=some r:=by
 unfold cw
 constructor
 ·intro h
  split at h
  ·rename_i hx
   injection h with h
   subst h
   exact Classical.choose_spec hx
  ·cases h
 ·intro ⟨n,hn⟩
  have hx:∃r n,q2D P Γ Ω n g args H=some r:=⟨r,n,hn⟩
  rw[dif_pos hx]
  obtain ⟨m,hm⟩:=Classical.choose_spec hx
  have h1:=q3V (Nat.le_max_left n m) _ _ _ _ hn
  have h2:=q3V (Nat.le_max_right n m) _ _ _ _ hm
  rw[h1] at h2
  exact h2.symm
theorem q2i {c:q0f} {e:Env} {H:q0a} {r:AEx×Env×q0a}:run P Γ Ω c e H=some r↔∃n,q0t P (cw P Γ Ω) n c e H=some r:=by
 unfold run
 constructor
 ·intro h
  split at h
  ·rename_i hx
   injection h with h
   subst h
   exact Classical.choose_spec hx
  ·cases h
 ·intro ⟨n,hn⟩
  have hx:∃r n,q0t P (cw P Γ Ω) n c e H=some r:=⟨r,n,hn⟩
  rw[dif_pos hx]
  obtain ⟨m,hm⟩:=Classical.choose_spec hx
  have h1:=q1c (CLe.refl _) (Nat.le_max_left n m) hn
  have h2:=q1c (CLe.refl _) (Nat.le_max_right n m) hm
  rw[h1] at h2
  exact h2.symm
theorem z5y (n:Nat):CLe (q2D P Γ Ω n) (cw P Γ Ω):=fun _ _ _ _ h=>q7G.2 ⟨n,h⟩
theorem z2F {e:Env} {H:q0a} {o:AOp} {r:Value×q0a} (h:q0o P (cw P Γ Ω) e H o=some r):∃n,q0o P (q2D P Γ Ω n) e H o=some r:=by
 cases o<;>first|exact ⟨0,h⟩|skip
 case call f args=>
  simp only[q0o] at h ⊢
  split at h
  ·exact q7G.1 h
  ·cases h
 case mop m=>
  cases m<;>first|exact ⟨0,h⟩|skip
  case inv x name args=>
   have h:invA P (cw P Γ Ω) (ev e x) name (args.map (ev e)) H=some r:=h
   show ∃n,invA P (q2D P Γ Ω n) (ev e x) name (args.map (ev e)) H=some r
   unfold invA at h ⊢
   split at h
   ·rename_i hrec
    exact q7G.1 h
   ·cases h
theorem k9F {e:Env} {H:q0a} {o:ARow} {r:Value×q0a} (h:rowV P (cw P Γ Ω) o e H=some r):∃n,rowV P (q2D P Γ Ω n) o e H=some r:=by
 unfold rowV at h ⊢
 split at h
 ·exact z2F h
 ·exact ⟨0,h⟩
 ·cases h
theorem k6z:∀{rows:List ARow} {e:Env} {H:q0a} {r:Env×q0a},q4h P (cw P Γ Ω) rows e H=some r→∃n,q4h P (q2D P Γ Ω n) rows e H=some r
 | [],_,_,_,h=>⟨0,h⟩
 | o::os,e,H,r,h=>by
  simp only[q4h,rowA] at h
  cases hv:rowV P (cw P Γ Ω) o e H with
  | none=>rw[hv] at h;cases h
  | some x=>
   rw[hv] at h
   obtain ⟨n,hn⟩:=k9F hv
   obtain ⟨m,hm⟩:=k6z h
   refine ⟨max n m,?_⟩
   simp only[q4h,rowA]
   rw[k4X (q3V (Nat.le_max_left n m)) hn]
   exact k4Y (q3V (Nat.le_max_right n m)) hm
theorem k6A:∀{rows:List ARow} {l:List (Nat×Nat)} {F:List Nat} {e:Env} {H:q0a} {r:Env×q0a},q3F P (cw P Γ Ω) rows l F e H=some r→∃n,q3F P (q2D P Γ Ω n) rows l F e H=some r
 | [],_,_,_,_,_,h=>⟨0,h⟩
 | o::os,l,F,e,H,r,h=>by
  simp only[q3F] at h
  split at h
  ·rename_i v H1 hv
   obtain ⟨n,hn⟩:=k9F hv
   split at h
   ·rename_i hc
    obtain ⟨m,hm⟩:=k6A h
    refine ⟨max n m,?_⟩
    simp only[q3F]
    rw[k4X (q3V (Nat.le_max_left n m)) hn]
    simp only
    rw[if_pos hc]
    exact k4Z (q3V (Nat.le_max_right n m)) hm
   ·cases h
  ·cases h
theorem k6B {keep:List Nat} {b:Env→q0a→Option (AEx×Env×q0a)} {b':Nat→Env→q0a→Option (AEx×Env×q0a)} (hle:∀n m e H r,n≤m→b' n e H=some r→b' m e H=some r) (hb:∀e H r,b e H=some r→∃n,b' n e H=some r) :
  ∀{k:Nat} {e:Env} {H:q0a} {r:AEx×Env×q0a},q4i keep b k e H=some r→∃n,q4i keep (b' n) k e H=some r
 | 0,_,_,_,h=>by simp[q4i] at h
 | k+1,e,H,r,h=>by
  simp only[q4i] at h
  cases hv:b (forget keep e) H with
  | none=>rw[hv] at h;cases h
  | some x=>
   rw[hv] at h
   obtain ⟨n,hn⟩:=hb _ _ _ hv
   obtain ⟨x,e',H'⟩:=x
   cases x with
   | normal=>
    obtain ⟨m,hm⟩:=k6B hle hb h
    refine ⟨max n m,?_⟩
    simp only[q4i]
    rw[hle _ _ _ _ _ (Nat.le_max_left n m) hn]
    exact q9u (fun e H r h=>hle _ _ _ _ _ (Nat.le_max_right n m) h) (Nat.le_refl _) hm
   | exit id=>exact ⟨n,by simp only[q4i];rw[hn];exact h⟩
   | ret=>exact ⟨n,by simp only[q4i];rw[hn];exact h⟩
theorem q5F {lf:Nat}:∀{c:q0f} {e:Env} {H:q0a} {r:AEx×Env×q0a},q0t P (cw P Γ Ω) lf c e H=some r→∃n,q0t P (q2D P Γ Ω n) lf c e H=some r
 | .skip,_,_,_,h=>⟨0,h⟩
 | .ops rows,e,H,r,h=>by
  simp only[q0t,Option.map_eq_some_iff] at h ⊢
  obtain ⟨y,h1,h2⟩:=h
  obtain ⟨n,hn⟩:=k6z h1
  exact ⟨n,y,hn,h2⟩
 | .draw rows,e,H,r,h=>by
  simp only[q0t,Option.map_eq_some_iff] at h ⊢
  obtain ⟨y,h1,h2⟩:=h
  obtain ⟨n,hn⟩:=k6A h1
  exact ⟨n,y,hn,h2⟩
 | .seq a b,e,H,r,h=>by
  simp only[q0t] at h
  cases hv:q0t P (cw P Γ Ω) lf a e H with
  | none=>rw[hv] at h;cases h
  | some y=>
   rw[hv] at h
   obtain ⟨n,hn⟩:=q5F hv
   obtain ⟨x,e',H'⟩:=y
   cases x with
   | normal=>
    obtain ⟨m,hm⟩:=q5F h
    refine ⟨max n m,?_⟩
    simp only[q0t]
    rw[q1c (q3V (Nat.le_max_left n m)) (Nat.le_refl _) hn]
    exact q1c (q3V (Nat.le_max_right n m)) (Nat.le_refl _) hm
   | exit id=>exact ⟨n,by simp only[q0t];rw[hn];exact h⟩
   | ret=>exact ⟨n,by simp only[q0t];rw[hn];exact h⟩
 | .cond q a b,e,H,r,h=>by
  simp only[q0t] at h ⊢
  split at h
  ·exact q5F h
  ·exact q5F h
  ·cases h
 | .block id a,e,H,r,h=>by
  simp only[q0t] at h ⊢
  cases hv:q0t P (cw P Γ Ω) lf a e H with
  | none=>rw[hv] at h;cases h
  | some y=>
   rw[hv] at h
   obtain ⟨n,hn⟩:=q5F hv
   exact ⟨n,by rw[hn];exact h⟩
 | .loop keep a,e,H,r,h=>by
  simp only[q0t] at h ⊢
  exact k6B (b:=q0t P (cw P Γ Ω) lf a) (b':=fun n=>q0t P (q2D P Γ Ω n) lf a) (fun n m e H r hnm h=>q1c (q3V hnm) (Nat.le_refl _) h) (fun e H r h=>q5F h) h
 | .exit id,_,_,_,h=>⟨0,h⟩
 | .ret,_,_,_,h=>⟨0,h⟩
theorem q9v {g:FuncId} {args:List Value} {H:q0a} {r:Value×q0a} (h:Ω g args H=some r):cw P Γ Ω g args H=some r:=
 q7G.2 ⟨1,by simp only[q2D,h]⟩
theorem z2G {g:FuncId} {args:List Value} {H:q0a} {F:q0h} {x:AEx} {e:Env} {H':q0a} {vs:List Value} (hΩ:Ω g args H=none) (hF:Γ g=some F) (hl:args.length=F.nargs)
  (hx:run P Γ Ω F.code (q5C args) H=some (x,e,H')) (hn:∀id,x≠.exit id) (hr:q5R P e H' F.results=some vs):cw P Γ Ω g args H=some (k0r vs,H'):=by
 obtain ⟨n,hn1⟩:=q2i.1 hx
 obtain ⟨m,hm⟩:=q5F hn1
 refine q7G.2 ⟨max n m+1,?_⟩
 simp only[q2D,hΩ,hF,if_pos hl]
 rw[q1c (q3V (Nat.le_max_right n m)) (Nat.le_max_left n m) hm]
 cases x with
 | normal=>simp only[hr];rfl
 | ret=>simp only[hr];rfl
 | exit id=>exact absurd rfl (hn id)
theorem q2U {c:q0f} {e:Env} {H:q0a} {r:AEx×Env×q0a} (n:Nat) (h:q0t P (cw P Γ Ω) n c e H=some r):run P Γ Ω c e H=some r:=q2i.2 ⟨n,h⟩
theorem z5z {e:Env} {H:q0a}:run P Γ Ω .skip e H=some (.normal,e,H):=q2U 0 rfl
theorem z5A {id:Nat} {e:Env} {H:q0a}:run P Γ Ω (.exit id) e H=some (.exit id,e,H):=q2U 0 rfl
theorem z8M {e:Env} {H:q0a}:run P Γ Ω .ret e H=some (.ret,e,H):=q2U 0 rfl
theorem z8N {rows:List ARow} {e e':Env} {H H':q0a} (h:q4h P (cw P Γ Ω) rows e H=some (e',H')):run P Γ Ω (.ops rows) e H=some (.normal,e',H'):=q2U 0 (by simp only[q0t,h];rfl)
theorem z5B {rows:List ARow} {e e':Env} {H H':q0a} (h:q3F P (cw P Γ Ω) rows [] [] e H=some (e',H')):run P Γ Ω (.draw rows) e H=some (.normal,e',H'):=q2U 0 (by simp only[q0t,h];rfl)
theorem z8O {a b:q0f} {e e':Env} {H H':q0a} {r:AEx×Env×q0a} (h:run P Γ Ω a e H=some (.normal,e',H')) (k:run P Γ Ω b e' H'=some r):run P Γ Ω (.seq a b) e H=some r:=by
 obtain ⟨n,hn⟩:=q2i.1 h
 obtain ⟨m,hm⟩:=q2i.1 k
 refine q2U (max n m) ?_
 simp only[q0t]
 rw[q1c (CLe.refl _) (Nat.le_max_left n m) hn]
 exact q1c (CLe.refl _) (Nat.le_max_right n m) hm
theorem k8v {a b:q0f} {e e':Env} {H H':q0a} (h:run P Γ Ω a e H=some (.ret,e',H')):run P Γ Ω (.seq a b) e H=some (.ret,e',H'):=by
 obtain ⟨n,hn⟩:=q2i.1 h
 exact q2U n (by simp only[q0t];rw[hn])
theorem k6C {a b:q0f} {e e':Env} {H H':q0a} {id:Nat} (h:run P Γ Ω a e H=some (.exit id,e',H')):run P Γ Ω (.seq a b) e H=some (.exit id,e',H'):=by
 obtain ⟨n,hn⟩:=q2i.1 h
 exact q2U n (by simp only[q0t];rw[hn])
theorem z5C {q:Operand} {a b:q0f} {e:Env} {H:q0a} {r:AEx×Env×q0a} (hq:ev e q=.bool true) (h:run P Γ Ω a e H=some r):run P Γ Ω (.cond q a b) e H=some r:=by
 obtain ⟨n,hn⟩:=q2i.1 h
 exact q2U n (by simp only[q0t];rw[hq];exact hn)
theorem z2H {q:Operand} {a b:q0f} {e:Env} {H:q0a} {r:AEx×Env×q0a} (hq:ev e q=.bool false) (h:run P Γ Ω b e H=some r):run P Γ Ω (.cond q a b) e H=some r:=by
 obtain ⟨n,hn⟩:=q2i.1 h
 exact q2U n (by simp only[q0t];rw[hq];exact hn)
theorem z5D {keep:List Nat} {a:q0f} {e e':Env} {H H':q0a} {r:AEx×Env×q0a} (h:run P Γ Ω a (forget keep e) H=some (.normal,e',H')) (k:run P Γ Ω (.loop keep a) e' H'=some r):run P Γ Ω (.loop keep a) e H=some r:=by
 obtain ⟨n,hn⟩:=q2i.1 h
 obtain ⟨m,hm⟩:=q2i.1 k
 refine q2U (max n m+1) ?_
 simp only[q0t,q4i]
 rw[q1c (CLe.refl _) (show n≤max n m+1 by omega) hn]
 simp only[q0t] at hm
 exact q9u (fun e H r h=>q1c (CLe.refl _) (show m≤max n m+1 by omega) h) (Nat.le_max_right n m) hm
theorem k6D {keep:List Nat} {a:q0f} {e e':Env} {H H':q0a} (h:run P Γ Ω a (forget keep e) H=some (.ret,e',H')):run P Γ Ω (.loop keep a) e H=some (.ret,e',H'):=by
 obtain ⟨n,hn⟩:=q2i.1 h
 refine q2U (n+1) ?_
 simp only[q0t,q4i]
 rw[q1c (CLe.refl _) (Nat.le_succ n) hn]
theorem k5a {keep:List Nat} {a:q0f} {e e':Env} {H H':q0a} {id:Nat} (h:run P Γ Ω a (forget keep e) H=some (.exit id,e',H')):run P Γ Ω (.loop keep a) e H=some (.exit id,e',H'):=by
 obtain ⟨n,hn⟩:=q2i.1 h
 refine q2U (n+1) ?_
 simp only[q0t,q4i]
 rw[q1c (CLe.refl _) (Nat.le_succ n) hn]
theorem q9w {base:Nat} (hmix:P.follows .mixedOrders=true) (hΓ:∀g F,Γ g=some F→FOK P g F) (hΩ:∀g args H v H',Ω g args H=some (v,H')→Sim P base g args H v H')
  {g:FuncId} {args:List Value} {H:q0a} {v:Value} {H':q0a} (h:cw P Γ Ω g args H=some (v,H')):Sim P base g args H v H':=by
 obtain ⟨n,hn⟩:=q7G.1 h
 exact z1G hmix hΓ hΩ n g args H v H' hn
end
end Lon
namespace Lon
open Go Go.ChangeShapes Go.WideShapes Go.ChangeAt Go.RowKit
def j0M (P:Program) (hs:List (List Nat)) (fn:Func):Option q0h:=
 match fn.body with
 | some c=>match q3q P fn.ntmps c hs,q6r P fn.results.toList with
  | some (ac,_),some rs=>if fn.params.size+fn.nfree≤fn.ntmps then some ⟨fn.params.size+fn.nfree,fn.ntmps,rs,ac⟩ else none
  | _,_=>none
 | none=>none
theorem FOK.of {P : Program} {g : FuncId} {fn : Func} {F : q0h} (hs : List (List Nat)) (h1 : P.funcs[g]? = some fn) (h2 : (fn.name == "runtime.NumGoroutine") = false) (h3 : j0M P hs fn = some F) : FOK P g F := by
 unfold j0M at h3
 split at h3
 ·rename_i c hc
  split at h3
  ·rename_i ac hs' rs hp hr
   split at h3
   ·rename_i hn
    injection h3 with h3
    subst h3
    exact ⟨fn,c,hs,_,h1,hc,h2,rfl,hn,hp,hr⟩
   ·cases h3
  ·cases h3
 ·cases h3
def tabF (l:List (FuncId×q0h)) (g:FuncId):Option q0h:=
 match l with
 | []=>none
 | (k,F)::r=>if g=k then some F else tabF r g
theorem z2I {P:Program}:∀{l:List (FuncId×q0h)},(∀x∈l,FOK P x.1 x.2)→∀g F,tabF l g=some F→FOK P g F
 | [],_,g,F,h=>by simp[tabF] at h
 | (k,F0)::r,hl,g,F,h=>by
  simp only[tabF] at h
  split at h
  ·rename_i hg
   injection h with h
   subst h hg
   exact hl _ (List.mem_cons_self ..)
  ·exact z2I (fun x hx=>hl x (List.mem_cons_of_mem _ hx)) g F h
theorem z8P {P:Program}:∀x∈([]:List (FuncId×q0h)),FOK P x.1 x.2:=fun x hx=>by simp at hx
theorem q0c {P:Program} {k:FuncId} {F:q0h} {r:List (FuncId×q0h)} (h:FOK P k F) (hr:∀x∈r,FOK P x.1 x.2):∀x∈((k,F)::r),FOK P x.1 x.2:=fun x hx=>by
 rcases List.mem_cons.1 hx with rfl|hx
 ·exact h
 ·exact hr x hx
section
variable {P:Program}
def sig0:Sig:=fun _=>none
theorem k1P (i:Nat):q0a.empty.get i=none:=by rw[q0a.get_eq];simp[q0a.empty]
theorem HR.empty (base:Nat) (w:World):HR P sig0 base q0a.empty w:=by
 constructor
 case out=>intro i _;rfl
 all_goals intros;simp_all [k1P]
theorem q9x {H:Type} {enc:TypeId×Value→H} (hl:laidOutB P=true) {W W':World} (hb:Below W.heap.size W W') {sp:Nat→Bool}:∀{ts:List TypeId} {vs:List Value} {ds:List (DataW H)} {ps:List MemPlace},
  (∀t∈ts,P.readableRec t=true∧t<P.types.size)→DataW.TrodAll enc P W 0 (fun _=>true) true ts vs ds ps→(∀p∈ps,p.block<W.heap.size)→(∀p∈ps,sp p.block=true)→DataW.TrodAll enc P W' 0 sp true ts vs ds ps
 | [],vs,ds,ps,_,h,_,_=>by
  obtain ⟨rfl,rfl,rfl⟩:=trodAll_nil h
  exact h
 | t::ts,vs,ds,ps,ht,h,hlt,hs=>by
  obtain ⟨v,vs',d,ds',p,q,rfl,rfl,rfl,h1,h2⟩:=trodAll_cons h
  have hp:∀x∈p,x.block<W.heap.size:=fun x hx=>hlt x (List.mem_append_left _ hx)
  refine ⟨p,q,?_,q9x hl hb (fun t hm=>ht t (List.mem_cons_of_mem _ hm)) h2 (fun x hx=>hlt x (List.mem_append_right _ hx)) (fun x hx=>hs x (List.mem_append_right _ hx)),rfl⟩
  exact Go.WideElems.Trod_stays hl (ht t (List.mem_cons_self ..)).1 (ht t (List.mem_cons_self ..)).2 h1 (fun x hx=>hb.same (hp x hx)) (fun x hx=>hs x (List.mem_append_left _ hx))
theorem z5E {H:Type} {enc:TypeId×Value→H} {f:Func} {s:ChangeSpec} {W W':World} {args:Array Value} {ds:List (DataW H)} {before:List MemPlace} {tb:TypeId}
  (hl:laidOutB P=true) (hp0:(f.params.toList.all fun t=>P.readableRec t&&decide (t<P.types.size))=true) (hrt:f.resultTypes=#[tb]) (hu:P.underlying tb=some .bool) (hvs:s.vars=[])
  (hW:DataW.Whole enc P f.params.toList s.vars false W args.toList ds [] before) (hs:s.fn H ds={results:=[.lit (.bool true)],args:=ds}) (hb:Below W.heap.size W W') :
  s.post enc P f false true false false W args (.bool true) W':=by
 have hp:∀t∈f.params.toList,P.readableRec t=true∧t<P.types.size:=fun t ht=>by
  have:=List.all_eq_true.1 hp0 t ht
  simpa using this
 have hW':=hW
 have hlt:∀p∈before,p.block<W.heap.size:=fun p hp=>hW'.lt p hp
 obtain ⟨p,q,hA,hV,rfl,hfz,hnd⟩:=hW
 rw[hvs] at hV
 obtain ⟨_,rfl⟩:=trodVars_none hV
 simp only[List.append_nil] at hW' hlt
 refine ⟨ds,[],p,[],p,[],hW',?_,?_,?_,hb.frame _,fun h=>by cases h⟩
 ·simp only[List.append_nil,hs,hrt]
  exact trodAll_mk1 (shut_bool hu _)
 ·simp only[List.append_nil,hs]
  exact q9x hl hb hp hA hlt (fun x hx=>by simpa using hlt x hx)
 ·rw[hvs]
  simp only[List.append_nil,hs]
  exact rfl
end
end Lon
namespace Go.Proofs.YtleiinhaljdcoaaGreatDoor
open Go Lon
section
open Go.Operand renaming tmp → t,const → c
open Lon.AOp renaming mv → m
def q6B : q0f := (.seq (.ops [⟨some 0,m (c (.bool false)),none⟩]) (.seq (.ops [⟨some 8,.bslice 5 5 1 [(.int .u8 0)] [(0,1,(.const (.int .u8 84))),(1,1,(.const (.int .u8 105))),(2,1,(.const (.int .u8 170))),(3,1,(.const (.int .u8 110))),(4,1,(.const (.int .u8 103)))],none⟩,⟨some 9,.call (.func 8) [(.const (.string ⟨#[118,105,115,99,105,105]⟩)),(.const (.string ⟨#[117,116,102,45,56]⟩)),(.const (.int .i64 0)),(t 8)],none⟩,⟨some 7,m (t 9),none⟩,⟨some 10,.ext (t 7) 0,none⟩,⟨some 11,.ext (t 7) 1,none⟩,⟨some 12,.ext (t 7) 2,none⟩,⟨some 2,.alloc [(.int .i64 0),(.int .i64 0),(.int .i64 0)] 27,none⟩,⟨some 1,m (t 10),none⟩,⟨none,.store (t 2) (t 11) 3,none⟩,⟨some 3,m (t 12),none⟩]) (.seq (.ops [⟨some 14,.bslice 5 7 1 [(.int .u8 0)] [(0,1,(.const (.int .u8 224))),(1,1,(.const (.int .u8 164))),(2,1,(.const (.int .u8 149))),(3,1,(.const (.int .u8 97))),(4,1,(.const (.int .u8 224))),(5,1,(.const (.int .u8 166))),(6,1,(.const (.int .u8 149)))],none⟩,⟨some 15,.mop (.fix (t 14)),none⟩,⟨some 16,.call (.func 8) [(.const (.string ⟨#[117,116,102,45,56]⟩)),(.const (.string ⟨#[105,115,99,105,105]⟩)),(.const (.int .i64 0)),(t 15)],none⟩,⟨some 13,m (t 16),none⟩,⟨some 17,.ext (t 13) 0,none⟩,⟨some 18,.ext (t 13) 1,none⟩,⟨some 19,.ext (t 13) 2,none⟩,⟨some 5,.alloc [(.int .i64 0),(.int .i64 0),(.int .i64 0)] 27,none⟩,⟨some 4,m (t 17),none⟩,⟨none,.store (t 5) (t 18) 3,none⟩,⟨some 6,m (t 19),none⟩]) (.seq (.ops [⟨some 20,m (t 3),none⟩,⟨some 21,.int .eql (t 20) (c (.int .i64 0)),none⟩,⟨some 22,m (t 21),none⟩,⟨some 23,.faddr (t 2) 2,some (22,true)⟩,⟨some 24,.load (t 23) none,some (22,true)⟩,⟨some 25,.int .eql (t 24) (c (.int .i64 0)),some (22,true)⟩,⟨some 26,.pick (t 22) (t 25) (c (.bool false)),none⟩,⟨some 27,m (t 26),none⟩,⟨some 28,m (t 1),some (27,true)⟩,⟨some 29,.mop (.b2s (t 28)),some (27,true)⟩,⟨some 30,.gen ⟨none,(.binOp .eql 9 (t 29) (c (.string ⟨#[84,105,225,186,191,110,103]⟩)) 9),4,"",#[],none⟩,some (27,true)⟩,⟨some 31,.pick (t 27) (t 30) (c (.bool false)),none⟩,⟨some 32,m (t 31),none⟩,⟨some 33,m (t 6),some (32,true)⟩,⟨some 34,.int .eql (t 33) (c (.int .i64 0)),some (32,true)⟩,⟨some 35,.pick (t 32) (t 34) (c (.bool false)),none⟩,⟨some 36,m (t 35),none⟩,⟨some 37,.faddr (t 5) 2,some (36,true)⟩,⟨some 38,.load (t 37) none,some (36,true)⟩,⟨some 39,.int .eql (t 38) (c (.int .i64 0)),some (36,true)⟩,⟨some 40,.pick (t 36) (t 39) (c (.bool false)),none⟩,⟨some 41,m (t 40),none⟩,⟨some 42,m (t 4),some (41,true)⟩,⟨some 43,.mop (.b2s (t 42)),some (41,true)⟩,⟨some 44,.gen ⟨none,(.binOp .eql 9 (t 43) (c (.string ⟨#[179,97,239,67,179]⟩)) 9),4,"",#[],none⟩,some (41,true)⟩,⟨some 45,.pick (t 41) (t 44) (c (.bool false)),none⟩,⟨some 0,m (t 45),none⟩]) .ret))))
def q3h:q0h:=⟨0,46,[.tmp 0],q6B⟩
theorem q9y:FOK Tryz.prog 7 q3h:=FOK.of [] Tryz.func7 (by kernel_rfl) (by kernel_rfl)
def q3r : q0f := (.seq (.ops [⟨some 29,.int .lss (t 28) (t 27),none⟩]) (.seq (.cond (t 29) .skip (.exit 0)) (.seq (.block 1 (.seq (.ops [⟨some 30,.iaddr (t 26) (t 28) 1,none⟩,⟨some 31,.load (t 30) none,none⟩,⟨some 14,m (t 31),none⟩]) (.seq (.ops [⟨some 32,m (t 11),none⟩,⟨some 33,m (t 11),none⟩,⟨some 34,.nilChk (t 33),none⟩,⟨some 35,.faddr (t 34) 3,none⟩,⟨some 36,.load (t 35) none,none⟩,⟨some 37,m (t 14),none⟩,⟨some 38,.conv .i64 (t 37),none⟩,⟨some 39,.mop (.inv (t 36) "Put" [(t 38)]),none⟩,⟨some 40,.call (.func 25) [(t 32),(t 39)],none⟩]) (.seq (.ops [⟨some 41,m (t 11),none⟩,⟨some 42,.nilChk (t 41),none⟩,⟨some 43,.faddr (t 42) 6,none⟩,⟨some 44,.faddr (t 43) 2,none⟩,⟨some 45,.load (t 44) none,none⟩,⟨some 46,.int .neq (t 45) (c (.int .i64 0)),none⟩]) (.cond (t 46) (.seq (.draw [⟨some 47,m (t 11),none⟩,⟨some 48,.nilChk (t 47),none⟩,⟨some 49,.faddr (t 48) 5,none⟩,⟨some 50,.load (t 49) none,none⟩,⟨some 51,m (t 11),none⟩,⟨some 52,.nilChk (t 51),none⟩,⟨some 53,.faddr (t 52) 6,none⟩,⟨some 54,.load (t 53) (some 3),none⟩,⟨some 8,m (t 50),none⟩,⟨none,.store (t 9) (t 54) 3,none⟩,⟨some 10,m (c (.int .i64 0)),none⟩]) .ret) .skip))))) (.ops [⟨some 55,.int .add (t 28) (c (.int .i64 1)),none⟩,⟨some 28,m (t 55),none⟩]))))
def k0P : q0f := (.seq (.ops [⟨some 8,m (c (.slice none 0 0)),none⟩,⟨some 9,.alloc [(.int .i64 0),(.int .i64 0),(.int .i64 0)] 27,none⟩,⟨some 10,m (c (.int .i64 0)),none⟩]) (.seq (.ops [⟨some 16,m (t 0),none⟩,⟨some 17,m (t 1),none⟩,⟨some 18,m (t 2),none⟩,⟨some 19,.call (.func 24) [(t 16),(t 17),(t 18)],none⟩,⟨some 15,m (t 19),none⟩,⟨some 20,.ext (t 15) 0,none⟩,⟨some 21,.ext (t 15) 1,none⟩,⟨some 11,m (t 20),none⟩,⟨some 12,m (t 21),none⟩]) (.seq (.seq (.ops [⟨some 22,m (t 12),none⟩,⟨some 23,.int .neq (t 22) (c (.int .i64 0)),none⟩]) (.cond (t 23) (.seq (.ops [⟨some 24,.build [(.int .i64 0),(.int .i64 0),(.int .i64 0)] [],none⟩,⟨some 25,m (t 12),none⟩,⟨some 8,m (c (.slice none 0 0)),none⟩,⟨none,.store (t 9) (t 24) 3,none⟩,⟨some 10,m (t 25),none⟩]) .ret) .skip)) (.seq (.seq (.ops [⟨some 26,m (t 3),none⟩,⟨some 27,.len false (t 26),none⟩,⟨some 28,m (c (.int .i64 0)),none⟩]) (.block 0 (.loop [9,11,26,27,28] q3r))) (.seq (.ops [⟨some 56,m (t 11),none⟩,⟨some 57,m (t 11),none⟩,⟨some 58,.nilChk (t 57),none⟩,⟨some 59,.faddr (t 58) 3,none⟩,⟨some 60,.load (t 59) none,none⟩,⟨some 61,.mop (.inv (t 60) "End" []),none⟩,⟨some 62,.call (.func 25) [(t 56),(t 61)],none⟩]) (.seq (.seq (.ops [⟨some 63,m (t 11),none⟩,⟨some 64,.nilChk (t 63),none⟩,⟨some 65,.faddr (t 64) 6,none⟩,⟨some 66,.faddr (t 65) 2,none⟩,⟨some 67,.load (t 66) none,none⟩,⟨some 68,.int .eql (t 67) (c (.int .i64 0)),none⟩]) (.cond (t 68) (.ops [⟨some 69,m (t 11),none⟩,⟨some 70,m (t 11),none⟩,⟨some 71,.nilChk (t 70),none⟩,⟨some 72,.faddr (t 71) 4,none⟩,⟨some 73,.load (t 72) none,none⟩,⟨some 74,.mop (.inv (t 73) "End" []),none⟩,⟨some 75,.call (.func 26) [(t 69),(t 74)],none⟩]) .skip)) (.seq (.draw [⟨some 76,m (t 11),none⟩,⟨some 77,.nilChk (t 76),none⟩,⟨some 78,.faddr (t 77) 5,none⟩,⟨some 79,.load (t 78) none,none⟩,⟨some 80,m (t 11),none⟩,⟨some 81,.nilChk (t 80),none⟩,⟨some 82,.faddr (t 81) 6,none⟩,⟨some 83,.load (t 82) (some 3),none⟩,⟨some 8,m (t 79),none⟩,⟨none,.store (t 9) (t 83) 3,none⟩,⟨some 10,m (c (.int .i64 0)),none⟩]) .ret)))))))
def q5V:q0h:=⟨4,84,[.tmp 8,.cell 9 (some 3),.tmp 10],k0P⟩
theorem k5b:FOK Tryz.prog 8 q5V:=FOK.of [[9,11,26,27,28],[0,1,2,3,4,5,6,7,8,9,10],[0,1,2,3,4,5,6,7,8,9,10]] Tryz.func8 (by kernel_rfl) (by kernel_rfl)
def q7s:q0f:=(.seq (.ops [⟨some 2,m (c (.string ⟨#[]⟩)),none⟩]) (.seq (.ops [⟨some 4,.call (.func 27) [],none⟩,⟨some 3,m (t 4),none⟩]) (.seq (.seq (.ops [⟨some 5,m (t 3),none⟩,⟨some 6,.len false (t 5),none⟩,⟨some 7,.int .eql (t 6) (c (.int .i64 0)),none⟩]) (.cond (t 7) (.seq (.ops [⟨some 2,m (c (.string ⟨#[]⟩)),none⟩]) .ret) .skip)) (.seq (.ops [⟨some 8,m (t 3),none⟩,⟨some 9,m (t 0),none⟩,⟨some 10,.conv .i64 (t 9),none⟩,⟨some 11,m (t 3),none⟩,⟨some 12,.len false (t 11),none⟩,⟨some 13,.int .rem (t 10) (t 12),none⟩,⟨some 14,.iaddr (t 8) (t 13) 1,none⟩,⟨some 15,.load (t 14) none,none⟩,⟨some 2,m (t 15),none⟩]) .ret))))
def q3u:q0h:=⟨1,16,[.tmp 2],q7s⟩
theorem k0v:FOK Tryz.prog 9 q3u:=FOK.of [] Tryz.func9 (by kernel_rfl) (by kernel_rfl)
def k6E : q0f := (.seq (.ops [⟨some 4,m (c (.slice none 0 0)),none⟩]) (.seq (.seq (.ops [⟨some 5,m (t 1),none⟩,⟨some 6,.call (.func 29) [(t 5)],none⟩]) (.block 0 (.seq (.ops [⟨some 8,.int .eql (t 6) (c (.int .i64 1)),none⟩,⟨some 7,m (t 8),none⟩]) (.cond (t 7) (.seq (.ops [⟨some 9,m (t 0),none⟩,⟨some 10,m (t 1),none⟩,⟨some 11,.conv .u8 (t 10),none⟩,⟨some 12,.bslice 5 1 1 [(.int .u8 0)] [(0,1,(t 11))],none⟩,⟨some 13,.append (t 9) (t 12) 5 1 1,none⟩,⟨some 4,m (t 13),none⟩]) .ret) (.seq (.ops [⟨some 15,.int .eql (t 6) (c (.int .i64 2)),none⟩,⟨some 14,m (t 15),none⟩]) (.cond (t 14) (.seq (.ops [⟨some 16,m (t 0),none⟩,⟨some 17,m (t 1),none⟩,⟨some 18,.gen ⟨none,(.binOp .shr 3 (t 17) (c (.int .u64 6)) 78),3,"",#[],none⟩,none⟩,⟨some 19,.gen ⟨none,(.binOp .or 3 (c (.int .i64 192)) (t 18) 3),3,"",#[],none⟩,none⟩,⟨some 20,.conv .u8 (t 19),none⟩,⟨some 21,m (t 1),none⟩,⟨some 22,.gen ⟨none,(.binOp .and 3 (t 21) (c (.int .i64 63)) 3),3,"",#[],none⟩,none⟩,⟨some 23,.gen ⟨none,(.binOp .or 3 (c (.int .i64 128)) (t 22) 3),3,"",#[],none⟩,none⟩,⟨some 24,.conv .u8 (t 23),none⟩,⟨some 25,.bslice 5 2 1 [(.int .u8 0)] [(0,1,(t 20)),(1,1,(t 24))],none⟩,⟨some 26,.append (t 16) (t 25) 5 1 1,none⟩,⟨some 4,m (t 26),none⟩]) .ret) (.seq (.ops [⟨some 28,.int .eql (t 6) (c (.int .i64 3)),none⟩,⟨some 27,m (t 28),none⟩]) (.cond (t 27) (.seq (.ops [⟨some 29,m (t 0),none⟩,⟨some 30,m (t 1),none⟩,⟨some 31,.gen ⟨none,(.binOp .shr 3 (t 30) (c (.int .u64 12)) 78),3,"",#[],none⟩,none⟩,⟨some 32,.gen ⟨none,(.binOp .or 3 (c (.int .i64 224)) (t 31) 3),3,"",#[],none⟩,none⟩,⟨some 33,.conv .u8 (t 32),none⟩,⟨some 34,m (t 1),none⟩,⟨some 35,.gen ⟨none,(.binOp .shr 3 (t 34) (c (.int .u64 6)) 78),3,"",#[],none⟩,none⟩,⟨some 36,.gen ⟨none,(.binOp .and 3 (t 35) (c (.int .i64 63)) 3),3,"",#[],none⟩,none⟩,⟨some 37,.gen ⟨none,(.binOp .or 3 (c (.int .i64 128)) (t 36) 3),3,"",#[],none⟩,none⟩,⟨some 38,.conv .u8 (t 37),none⟩,⟨some 39,m (t 1),none⟩,⟨some 40,.gen ⟨none,(.binOp .and 3 (t 39) (c (.int .i64 63)) 3),3,"",#[],none⟩,none⟩,⟨some 41,.gen ⟨none,(.binOp .or 3 (c (.int .i64 128)) (t 40) 3),3,"",#[],none⟩,none⟩,⟨some 42,.conv .u8 (t 41),none⟩,⟨some 43,.bslice 5 3 1 [(.int .u8 0)] [(0,1,(t 33)),(1,1,(t 38)),(2,1,(t 42))],none⟩,⟨some 44,.append (t 29) (t 43) 5 1 1,none⟩,⟨some 4,m (t 44),none⟩]) .ret) (.seq (.ops [⟨some 46,.int .eql (t 6) (c (.int .i64 4)),none⟩,⟨some 45,m (t 46),none⟩]) (.cond (t 45) (.seq (.ops [⟨some 47,m (t 0),none⟩,⟨some 48,m (t 1),none⟩,⟨some 49,.gen ⟨none,(.binOp .shr 3 (t 48) (c (.int .u64 18)) 78),3,"",#[],none⟩,none⟩,⟨some 50,.gen ⟨none,(.binOp .or 3 (c (.int .i64 240)) (t 49) 3),3,"",#[],none⟩,none⟩,⟨some 51,.conv .u8 (t 50),none⟩,⟨some 52,m (t 1),none⟩,⟨some 53,.gen ⟨none,(.binOp .shr 3 (t 52) (c (.int .u64 12)) 78),3,"",#[],none⟩,none⟩,⟨some 54,.gen ⟨none,(.binOp .and 3 (t 53) (c (.int .i64 63)) 3),3,"",#[],none⟩,none⟩,⟨some 55,.gen ⟨none,(.binOp .or 3 (c (.int .i64 128)) (t 54) 3),3,"",#[],none⟩,none⟩,⟨some 56,.conv .u8 (t 55),none⟩,⟨some 57,m (t 1),none⟩,⟨some 58,.gen ⟨none,(.binOp .shr 3 (t 57) (c (.int .u64 6)) 78),3,"",#[],none⟩,none⟩,⟨some 59,.gen ⟨none,(.binOp .and 3 (t 58) (c (.int .i64 63)) 3),3,"",#[],none⟩,none⟩,⟨some 60,.gen ⟨none,(.binOp .or 3 (c (.int .i64 128)) (t 59) 3),3,"",#[],none⟩,none⟩,⟨some 61,.conv .u8 (t 60),none⟩,⟨some 62,m (t 1),none⟩,⟨some 63,.gen ⟨none,(.binOp .and 3 (t 62) (c (.int .i64 63)) 3),3,"",#[],none⟩,none⟩,⟨some 64,.gen ⟨none,(.binOp .or 3 (c (.int .i64 128)) (t 63) 3),3,"",#[],none⟩,none⟩,⟨some 65,.conv .u8 (t 64),none⟩,⟨some 66,.bslice 5 4 1 [(.int .u8 0)] [(0,1,(t 51)),(1,1,(t 56)),(2,1,(t 61)),(3,1,(t 65))],none⟩,⟨some 67,.append (t 47) (t 66) 5 1 1,none⟩,⟨some 4,m (t 67),none⟩]) .ret) .skip)))))))))) (.seq (.ops [⟨some 68,m (t 0),none⟩,⟨some 69,.call (.func 11) [(t 68),(.const (.int .i64 65533))],none⟩,⟨some 4,m (t 69),none⟩]) .ret)))
def q9z:q0h:=⟨2,70,[.tmp 4],k6E⟩
theorem z1H:FOK Tryz.prog 11 q9z:=FOK.of [] Tryz.func11 (by kernel_rfl) (by kernel_rfl)
def q9A:q0f:=(.seq (.ops [⟨some 2,m (c (.pointer none)),none⟩]) (.seq (.seq (.ops [⟨some 5,m (t 0),none⟩,⟨some 6,.call (.func 39) [(t 5)],none⟩,⟨some 7,.isNil 1 false (t 6),none⟩]) (.cond (t 7) (.seq (.ops [⟨some 2,m (c (.pointer none)),none⟩]) .ret) .skip)) (.seq (.ops [⟨some 9,m (t 0),none⟩,⟨some 10,.call (.func 39) [(t 9)],none⟩,⟨some 11,.call (.func 40) [(t 10)],none⟩,⟨some 8,m (t 11),none⟩,⟨some 12,.ext (t 8) 0,none⟩,⟨some 13,.ext (t 8) 1,none⟩,⟨some 3,m (t 12),none⟩,⟨some 4,m (t 13),none⟩]) (.seq (.ops [⟨some 14,m (t 3),none⟩,⟨some 2,m (t 14),none⟩]) .ret))))
def q5p:q0h:=⟨1,15,[.tmp 2],q9A⟩
theorem k3m:FOK Tryz.prog 17 q5p:=FOK.of [] Tryz.func17 (by kernel_rfl) (by kernel_rfl)
def q4E : q0f := (.seq (.ops [⟨some 2,m (c .nilIface),none⟩,⟨some 3,m (c (.int .i64 0)),none⟩]) (.seq (.ops [⟨some 7,m (t 0),none⟩,⟨some 8,.call (.func 41) [(t 7)],none⟩,⟨some 6,m (t 8),none⟩,⟨some 9,.ext (t 6) 0,none⟩,⟨some 10,.ext (t 6) 1,none⟩,⟨some 4,m (t 9),none⟩,⟨some 5,m (t 10),none⟩]) (.seq (.block 0 (.seq (.ops [⟨some 12,m (t 5),none⟩,⟨some 13,.int .neq (t 12) (c (.int .i64 0)),none⟩,⟨some 11,m (t 13),none⟩]) (.cond (t 11) (.seq (.ops [⟨some 14,m (t 5),none⟩,⟨some 2,m (c .nilIface),none⟩,⟨some 3,m (t 14),none⟩]) .ret) (.seq (.ops [⟨some 16,m (t 4),none⟩,⟨some 17,.gen ⟨none,(.binOp .eql 9 (t 16) (c (.string ⟨#[117,116,102,45,56]⟩)) 9),4,"",#[],none⟩,none⟩,⟨some 15,m (t 17),none⟩]) (.cond (t 15) (.seq (.ops [⟨some 18,.build [(.slice none 0 0),(.int .i64 0)] [],none⟩,⟨some 19,.box (t 18) 101,none⟩,⟨some 20,.mkface 97 (t 19),none⟩,⟨some 2,m (t 20),none⟩,⟨some 3,m (c (.int .i64 0)),none⟩]) .ret) (.seq (.ops [⟨some 22,m (t 4),none⟩,⟨some 23,.gen ⟨none,(.binOp .eql 9 (t 22) (c (.string ⟨#[105,115,99,105,105]⟩)) 9),4,"",#[],none⟩,none⟩,⟨some 21,m (t 23),none⟩]) (.cond (t 21) (.seq (.ops [⟨some 24,.call (.func 42) [],none⟩,⟨some 25,.mkface 102 (t 24),none⟩,⟨some 2,m (t 25),none⟩,⟨some 3,m (c (.int .i64 0)),none⟩]) .ret) .skip))))))) (.seq (.ops [⟨some 26,m (t 4),none⟩,⟨some 27,.call (.func 17) [(t 26)],none⟩,⟨some 28,.call (.func 43) [(t 27)],none⟩,⟨some 2,m (t 28),none⟩,⟨some 3,m (c (.int .i64 0)),none⟩]) .ret))))
def q1G:q0h:=⟨1,29,[.tmp 2,.tmp 3],q4E⟩
theorem k1Q:FOK Tryz.prog 18 q1G:=FOK.of [] Tryz.func18 (by kernel_rfl) (by kernel_rfl)
def q3i:q0f:=(.seq (.ops [⟨some 11,.int .lss (t 10) (t 9),none⟩]) (.seq (.cond (t 11) .skip (.exit 0)) (.seq (.block 1 (.seq (.ops [⟨some 12,.iaddr (t 8) (t 10) 4,none⟩,⟨some 13,.load (t 12) (some 4),none⟩,⟨some 7,.alloc [(.int .i64 0),(.int .i64 0),(.slice none 0 0),(.int .i64 0)] 36,none⟩,⟨none,.store (t 7) (t 13) 4,none⟩]) (.seq (.ops [⟨some 14,m (t 4),none⟩,⟨some 15,.faddr (t 7) 2,none⟩,⟨some 16,.load (t 15) none,none⟩,⟨some 17,.append (t 14) (t 16) 3 1 8,none⟩,⟨some 4,m (t 17),none⟩]) (.seq (.ops [⟨some 18,.faddr (t 7) 3,none⟩,⟨some 19,.load (t 18) none,none⟩,⟨some 20,.int .neq (t 19) (c (.int .i64 0)),none⟩,⟨some 21,m (t 20),none⟩,⟨some 22,.faddr (t 5) 3,some (21,true)⟩,⟨some 23,.load (t 22) none,some (21,true)⟩,⟨some 24,.int .eql (t 23) (c (.int .i64 0)),some (21,true)⟩,⟨some 25,.pick (t 21) (t 24) (c (.bool false)),none⟩]) (.cond (t 25) (.ops [⟨some 26,.load (t 7) (some 4),none⟩,⟨none,.store (t 5) (t 26) 4,none⟩]) .skip))))) (.ops [⟨some 27,.int .add (t 10) (c (.int .i64 1)),none⟩,⟨some 10,m (t 27),none⟩]))))
def q7H:q0f:=(.seq (.ops [⟨some 2,m (c (.slice none 0 0)),none⟩,⟨some 3,.alloc [(.int .i64 0),(.int .i64 0),(.slice none 0 0),(.int .i64 0)] 36,none⟩]) (.seq (.ops [⟨some 4,m (c (.slice none 0 0)),none⟩]) (.seq (.ops [⟨some 5,.alloc [(.int .i64 0),(.int .i64 0),(.slice none 0 0),(.int .i64 0)] 36,none⟩]) (.seq (.seq (.ops [⟨some 8,m (t 0),none⟩,⟨some 9,.len false (t 8),none⟩,⟨some 10,m (c (.int .i64 0)),none⟩]) (.block 0 (.loop [3,4,5,8,9,10] q3i))) (.seq (.draw [⟨some 28,m (t 4),none⟩,⟨some 29,.load (t 5) (some 4),none⟩,⟨some 2,m (t 28),none⟩,⟨none,.store (t 3) (t 29) 4,none⟩]) .ret)))))
def q3W:q0h:=⟨1,30,[.tmp 2,.cell 3 (some 4)],q7H⟩
theorem k1h:FOK Tryz.prog 20 q3W:=FOK.of [[3,4,5,8,9,10],[0,1,2,3]] Tryz.func20 (by kernel_rfl) (by kernel_rfl)
def q3X : q0f := (.seq (.ops [⟨some 11,.int .lss (t 10) (t 9),none⟩]) (.seq (.cond (t 11) .skip (.exit 0)) (.seq (.block 1 (.seq (.ops [⟨some 12,.iaddr (t 8) (t 10) 1,none⟩,⟨some 13,.load (t 12) none,none⟩,⟨some 7,m (t 13),none⟩]) (.ops [⟨some 14,m (t 5),none⟩,⟨some 15,m (t 0),none⟩,⟨some 16,m (t 7),none⟩,⟨some 17,.mop (.inv (t 15) "Put" [(t 16)]),none⟩,⟨some 18,.append (t 14) (t 17) 36 4 48,none⟩,⟨some 5,m (t 18),none⟩]))) (.ops [⟨some 19,.int .add (t 10) (c (.int .i64 1)),none⟩,⟨some 10,m (t 19),none⟩]))))
def q9B : q0f := (.seq (.ops [⟨some 4,m (c (.slice none 0 0)),none⟩]) (.seq (.ops [⟨some 5,m (c (.slice none 0 0)),none⟩]) (.seq (.seq (.ops [⟨some 8,m (t 1),none⟩,⟨some 9,.len false (t 8),none⟩,⟨some 10,m (c (.int .i64 0)),none⟩]) (.block 0 (.loop [0,5,8,9,10] q3X))) (.seq (.ops [⟨some 20,m (t 5),none⟩,⟨some 21,m (t 0),none⟩,⟨some 22,.mop (.inv (t 21) "End" []),none⟩,⟨some 23,.append (t 20) (t 22) 36 4 48,none⟩,⟨some 4,m (t 23),none⟩]) .ret))))
def q5q:q0h:=⟨2,24,[.tmp 4],q9B⟩
theorem k3n:FOK Tryz.prog 21 q5q:=FOK.of [[0,5,8,9,10]] Tryz.func21 (by kernel_rfl) (by kernel_rfl)
def q5G:q0f:=(.seq (.ops [⟨some 2,m (c (.pointer none)),none⟩]) (.seq (.ops [⟨some 3,m (t 0),none⟩,⟨some 4,.nilChk (t 3),none⟩,⟨some 5,.faddr (t 4) 2,none⟩,⟨some 6,.load (t 5) none,none⟩,⟨some 2,m (t 6),none⟩]) .ret))
def q2F:q0h:=⟨1,7,[.tmp 2],q5G⟩
theorem q8z:FOK Tryz.prog 23 q2F:=FOK.of [] Tryz.func23 (by kernel_rfl) (by kernel_rfl)
def q9C:q0f:=(.seq (.ops [⟨some 6,m (c (.pointer none)),none⟩,⟨some 7,m (c (.int .i64 0)),none⟩]) (.seq (.ops [⟨some 13,m (t 0),none⟩,⟨some 14,.call (.func 41) [(t 13)],none⟩,⟨some 12,m (t 14),none⟩,⟨some 15,.ext (t 12) 0,none⟩,⟨some 16,.ext (t 12) 1,none⟩,⟨some 8,m (t 15),none⟩,⟨some 9,m (t 16),none⟩]) (.seq (.seq (.ops [⟨some 17,m (t 9),none⟩,⟨some 18,.int .neq (t 17) (c (.int .i64 0)),none⟩]) (.cond (t 18) (.seq (.ops [⟨some 19,m (t 9),none⟩,⟨some 6,m (c (.pointer none)),none⟩,⟨some 7,m (t 19),none⟩]) .ret) .skip)) (.seq (.ops [⟨some 21,m (t 1),none⟩,⟨some 22,.call (.func 41) [(t 21)],none⟩,⟨some 20,m (t 22),none⟩,⟨some 23,.ext (t 20) 0,none⟩,⟨some 24,.ext (t 20) 1,none⟩,⟨some 10,m (t 23),none⟩,⟨some 9,m (t 24),none⟩]) (.seq (.block 0 (.seq (.ops [⟨some 26,m (t 9),none⟩,⟨some 27,.int .neq (t 26) (c (.int .i64 0)),none⟩,⟨some 25,m (t 27),none⟩]) (.cond (t 25) (.seq (.ops [⟨some 28,m (t 9),none⟩,⟨some 6,m (c (.pointer none)),none⟩,⟨some 7,m (t 28),none⟩]) .ret) (.seq (.ops [⟨some 30,m (t 2),none⟩,⟨some 31,.int .lss (t 30) (c (.int .i64 0)),none⟩,⟨some 32,m (t 31),none⟩,⟨some 33,m (t 2),some (32,false)⟩,⟨some 34,.int .geq (t 33) (c (.int .i64 3)),some (32,false)⟩,⟨some 35,.pick (t 32) (c (.bool true)) (t 34),none⟩,⟨some 29,m (t 35),none⟩]) (.cond (t 29) (.seq (.ops [⟨some 6,m (c (.pointer none)),none⟩,⟨some 7,m (c (.int .i64 9)),none⟩]) .ret) .skip))))) (.seq (.ops [⟨some 36,m (t 8),none⟩,⟨some 37,m (t 10),none⟩,⟨some 38,m (t 2),none⟩,⟨some 39,.build [(.string ⟨#[]⟩),(.string ⟨#[]⟩),(.int .i64 0),.nilIface,.nilIface,(.slice none 0 0),(.int .i64 0),(.int .i64 0),(.int .i64 0),(.bool false),(.bool false)] [(0,1,(t 36)),(1,1,(t 37)),(2,1,(t 38))],none⟩,⟨some 40,.box (t 39) 70,none⟩,⟨some 11,m (t 40),none⟩]) (.seq (.ops [⟨some 41,m (t 11),none⟩,⟨some 42,.call (.func 45) [(t 41)],none⟩]) (.seq (.ops [⟨some 43,m (t 11),none⟩,⟨some 6,m (t 43),none⟩,⟨some 7,m (c (.int .i64 0)),none⟩]) .ret))))))))
def q5r:q0h:=⟨3,44,[.tmp 6,.tmp 7],q9C⟩
theorem k3o:FOK Tryz.prog 24 q5r:=FOK.of [] Tryz.func24 (by kernel_rfl) (by kernel_rfl)
def q0Y : q0f := (.seq (.ops [⟨some 29,.int .lss (t 28) (t 27),none⟩]) (.seq (.cond (t 29) .skip (.exit 2)) (.seq (.block 3 (.seq (.ops [⟨some 30,.iaddr (t 26) (t 28) 1,none⟩,⟨some 31,.load (t 30) none,none⟩,⟨some 8,m (t 31),none⟩]) (.seq (.ops [⟨some 32,m (t 0),none⟩,⟨some 33,.nilChk (t 32),none⟩,⟨some 34,.faddr (t 33) 6,none⟩,⟨some 35,.faddr (t 34) 2,none⟩,⟨some 36,.load (t 35) none,none⟩,⟨some 37,.int .eql (t 36) (c (.int .i64 0)),none⟩]) (.cond (t 37) (.ops [⟨some 38,m (t 0),none⟩,⟨some 39,m (t 0),none⟩,⟨some 40,.nilChk (t 39),none⟩,⟨some 41,.faddr (t 40) 4,none⟩,⟨some 42,.load (t 41) none,none⟩,⟨some 43,m (t 8),none⟩,⟨some 44,.mop (.inv (t 42) "Put" [(t 43)]),none⟩,⟨some 45,.call (.func 26) [(t 38),(t 44)],none⟩]) .skip)))) (.ops [⟨some 46,.int .add (t 28) (c (.int .i64 1)),none⟩,⟨some 28,m (t 46),none⟩]))))
def q0q:q0f:=(.seq (.ops [⟨some 12,.int .lss (t 11) (t 10),none⟩]) (.seq (.cond (t 12) .skip (.exit 0)) (.seq (.block 1 (.seq (.ops [⟨some 13,.iaddr (t 9) (t 11) 4,none⟩,⟨some 14,.load (t 13) (some 4),none⟩,⟨some 5,.alloc [(.int .i64 0),(.int .i64 0),(.slice none 0 0),(.int .i64 0)] 36,none⟩,⟨none,.store (t 5) (t 14) 4,none⟩]) (.seq (.ops [⟨some 15,.faddr (t 5) 2,none⟩,⟨some 16,.load (t 15) none,none⟩,⟨some 6,m (t 16),none⟩]) (.seq (.seq (.ops [⟨some 17,.faddr (t 5) 3,none⟩,⟨some 18,.load (t 17) none,none⟩,⟨some 19,.int .neq (t 18) (c (.int .i64 0)),none⟩]) (.cond (t 19) (.seq (.ops [⟨some 6,m (c (.slice none 0 0)),none⟩]) (.seq (.ops [⟨some 20,m (t 0),none⟩,⟨some 21,.nilChk (t 20),none⟩,⟨some 22,.faddr (t 21) 2,none⟩,⟨some 23,.load (t 22) none,none⟩,⟨some 24,.int .eql (t 23) (c (.int .i64 1)),none⟩]) (.cond (t 24) (.ops [⟨some 25,.bslice 3 1 1 [(.int .i64 0)] [(0,1,(.const (.int .i64 65533)))],none⟩,⟨some 6,m (t 25),none⟩]) .skip))) .skip)) (.seq (.seq (.ops [⟨some 26,m (t 6),none⟩,⟨some 27,.len false (t 26),none⟩,⟨some 28,m (c (.int .i64 0)),none⟩]) (.block 2 (.loop [0,5,9,10,11,26,27,28] q0Y))) (.seq (.ops [⟨some 47,.faddr (t 5) 3,none⟩,⟨some 48,.load (t 47) none,none⟩,⟨some 49,.int .neq (t 48) (c (.int .i64 0)),none⟩,⟨some 50,m (t 49),none⟩,⟨some 51,m (t 0),some (50,true)⟩,⟨some 52,.nilChk (t 51),some (50,true)⟩,⟨some 53,.faddr (t 52) 6,some (50,true)⟩,⟨some 54,.faddr (t 53) 2,some (50,true)⟩,⟨some 55,.load (t 54) none,some (50,true)⟩,⟨some 56,.int .eql (t 55) (c (.int .i64 0)),some (50,true)⟩,⟨some 57,.pick (t 50) (t 56) (c (.bool false)),none⟩,⟨some 58,m (t 57),none⟩,⟨some 59,m (t 0),some (58,true)⟩,⟨some 60,.load (t 5) (some 4),some (58,true)⟩,⟨some 61,.call (.func 46) [(t 59),(.const (.int .i64 1)),(t 60)],some (58,true)⟩,⟨some 62,.pick (t 58) (t 61) (c (.bool false)),none⟩]) (.cond (t 62) (.seq (.ops [⟨some 63,m (t 0),none⟩,⟨some 64,m (t 0),none⟩,⟨some 65,.call (.func 47) [(t 64)],none⟩,⟨some 66,.nilChk (t 63),none⟩,⟨some 67,.faddr (t 66) 6,none⟩,⟨none,.store (t 67) (t 65) 3,none⟩]) .ret) .skip))))))) (.ops [⟨some 68,.int .add (t 11) (c (.int .i64 1)),none⟩,⟨some 11,m (t 68),none⟩]))))
def q4m:q0f:=(.seq (.ops [⟨some 9,m (t 1),none⟩,⟨some 10,.len false (t 9),none⟩,⟨some 11,m (c (.int .i64 0)),none⟩]) (.block 0 (.loop [0,9,10,11] q0q)))
def q1L:q0h:=⟨2,69,[],q4m⟩
theorem q6X:FOK Tryz.prog 25 q1L:=FOK.of [[0,9,10,11],[0,5,9,10,11,26,27,28]] Tryz.func25 (by kernel_rfl) (by kernel_rfl)
def q1i:q0f:=(.seq (.ops [⟨some 29,.int .lss (t 28) (t 27),none⟩]) (.seq (.cond (t 29) .skip (.exit 3)) (.seq (.block 4 (.seq (.ops [⟨some 30,.iaddr (t 26) (t 28) 1,none⟩,⟨some 31,.load (t 30) none,none⟩,⟨some 7,m (t 31),none⟩]) (.ops [⟨some 32,m (t 0),none⟩,⟨some 33,m (t 0),none⟩,⟨some 34,.nilChk (t 33),none⟩,⟨some 35,.faddr (t 34) 5,none⟩,⟨some 36,.load (t 35) none,none⟩,⟨some 37,m (t 7),none⟩,⟨some 38,.conv .u8 (t 37),none⟩,⟨some 39,.bslice 5 1 1 [(.int .u8 0)] [(0,1,(t 38))],none⟩,⟨some 40,.append (t 36) (t 39) 5 1 1,none⟩,⟨some 41,.nilChk (t 32),none⟩,⟨some 42,.faddr (t 41) 5,none⟩,⟨none,.store (t 42) (t 40) 1,none⟩]))) (.ops [⟨some 43,.int .add (t 28) (c (.int .i64 1)),none⟩,⟨some 28,m (t 43),none⟩]))))
def q0w:q0f:=(.seq (.ops [⟨some 11,.int .lss (t 10) (t 9),none⟩]) (.seq (.cond (t 11) .skip (.exit 0)) (.seq (.block 1 (.seq (.ops [⟨some 12,.iaddr (t 8) (t 10) 4,none⟩,⟨some 13,.load (t 12) (some 4),none⟩,⟨some 5,.alloc [(.int .i64 0),(.int .i64 0),(.slice none 0 0),(.int .i64 0)] 36,none⟩,⟨none,.store (t 5) (t 13) 4,none⟩]) (.block 2 (.seq (.ops [⟨some 15,m (t 0),none⟩,⟨some 16,.nilChk (t 15),none⟩,⟨some 17,.faddr (t 16) 6,none⟩,⟨some 18,.faddr (t 17) 2,none⟩,⟨some 19,.load (t 18) none,none⟩,⟨some 20,.int .neq (t 19) (c (.int .i64 0)),none⟩,⟨some 14,m (t 20),none⟩]) (.cond (t 14) .ret (.seq (.ops [⟨some 22,.faddr (t 5) 3,none⟩,⟨some 23,.load (t 22) none,none⟩,⟨some 24,.int .eql (t 23) (c (.int .i64 0)),none⟩,⟨some 21,m (t 24),none⟩]) (.cond (t 21) (.seq (.ops [⟨some 25,.faddr (t 5) 2,none⟩,⟨some 26,.load (t 25) none,none⟩,⟨some 27,.len false (t 26),none⟩,⟨some 28,m (c (.int .i64 0)),none⟩]) (.block 3 (.loop [0,8,9,10,26,27,28] q1i))) (.seq (.ops [⟨some 45,m (t 0),none⟩,⟨some 46,.load (t 5) (some 4),none⟩,⟨some 47,.call (.func 46) [(t 45),(.const (.int .i64 2)),(t 46)],none⟩,⟨some 48,.not (t 47),none⟩,⟨some 49,m (t 48),none⟩,⟨some 50,m (t 0),some (49,true)⟩,⟨some 51,.nilChk (t 50),some (49,true)⟩,⟨some 52,.faddr (t 51) 2,some (49,true)⟩,⟨some 53,.load (t 52) none,some (49,true)⟩,⟨some 54,.int .eql (t 53) (c (.int .i64 1)),some (49,true)⟩,⟨some 55,.pick (t 49) (t 54) (c (.bool false)),none⟩,⟨some 44,m (t 55),none⟩]) (.cond (t 44) (.ops [⟨some 56,m (t 0),none⟩,⟨some 57,m (t 0),none⟩,⟨some 58,.nilChk (t 57),none⟩,⟨some 59,.faddr (t 58) 5,none⟩,⟨some 60,.load (t 59) none,none⟩,⟨some 61,.bslice 5 1 1 [(.int .u8 0)] [(0,1,(.const (.int .u8 63)))],none⟩,⟨some 62,.append (t 60) (t 61) 5 1 1,none⟩,⟨some 63,.nilChk (t 56),none⟩,⟨some 64,.faddr (t 63) 5,none⟩,⟨none,.store (t 64) (t 62) 1,none⟩]) .skip))))))))) (.ops [⟨some 65,.int .add (t 10) (c (.int .i64 1)),none⟩,⟨some 10,m (t 65),none⟩]))))
def q3I:q0f:=(.seq (.ops [⟨some 8,m (t 1),none⟩,⟨some 9,.len false (t 8),none⟩,⟨some 10,m (c (.int .i64 0)),none⟩]) (.block 0 (.loop [0,8,9,10] q0w)))
def q1o:q0h:=⟨2,66,[],q3I⟩
theorem q6s:FOK Tryz.prog 26 q1o:=FOK.of [[0,8,9,10],[0,8,9,10,26,27,28]] Tryz.func26 (by kernel_rfl) (by kernel_rfl)
def k5c:q0f:=(.seq (.ops [⟨some 0,m (c (.slice none 0 0)),none⟩]) (.seq (.ops [⟨some 1,.bslice 9 8 1 [(.string ⟨#[]⟩)] [(0,1,(.const (.string ⟨#[117,116,102,45,56]⟩))),(1,1,(.const (.string ⟨#[97,115,99,105,105]⟩))),(2,1,(.const (.string ⟨#[118,105,115,99,105,105]⟩))),(3,1,(.const (.string ⟨#[116,99,118,110,51]⟩))),(4,1,(.const (.string ⟨#[118,110,105]⟩))),(5,1,(.const (.string ⟨#[116,105,115,45,54,50,48]⟩))),(6,1,(.const (.string ⟨#[116,115,99,105,105]⟩))),(7,1,(.const (.string ⟨#[105,115,99,105,105]⟩)))],none⟩,⟨some 0,m (t 1),none⟩]) .ret))
def q9D:q0h:=⟨0,2,[.tmp 0],k5c⟩
theorem k3p:FOK Tryz.prog 27 q9D:=FOK.of [] Tryz.func27 (by kernel_rfl) (by kernel_rfl)
def k3Y:q0f:=(.seq (.ops [⟨some 2,m (c (.int .i64 0)),none⟩]) (.seq (.block 0 (.seq (.ops [⟨some 4,m (t 0),none⟩,⟨some 5,.call (.func 49) [(t 4)],none⟩,⟨some 6,.not (t 5),none⟩,⟨some 3,m (t 6),none⟩]) (.cond (t 3) (.seq (.ops [⟨some 2,m (c (.int .i64 0)),none⟩]) .ret) (.seq (.ops [⟨some 8,m (t 0),none⟩,⟨some 9,.int .lss (t 8) (c (.int .i64 128)),none⟩,⟨some 7,m (t 9),none⟩]) (.cond (t 7) (.seq (.ops [⟨some 2,m (c (.int .i64 1)),none⟩]) .ret) (.seq (.ops [⟨some 11,m (t 0),none⟩,⟨some 12,.int .lss (t 11) (c (.int .i64 2048)),none⟩,⟨some 10,m (t 12),none⟩]) (.cond (t 10) (.seq (.ops [⟨some 2,m (c (.int .i64 2)),none⟩]) .ret) (.seq (.ops [⟨some 14,m (t 0),none⟩,⟨some 15,.int .lss (t 14) (c (.int .i64 65536)),none⟩,⟨some 13,m (t 15),none⟩]) (.cond (t 13) (.seq (.ops [⟨some 2,m (c (.int .i64 3)),none⟩]) .ret) .skip))))))))) (.seq (.ops [⟨some 2,m (c (.int .i64 4)),none⟩]) .ret)))
def q8l:q0h:=⟨1,16,[.tmp 2],k3Y⟩
theorem k8w:FOK Tryz.prog 29 q8l:=FOK.of [] Tryz.func29 (by kernel_rfl) (by kernel_rfl)
def q4F : q0f := (.seq (.ops [⟨some 2,m (c .nilIface),none⟩,⟨some 3,m (c (.int .i64 0)),none⟩]) (.seq (.ops [⟨some 7,m (t 0),none⟩,⟨some 8,.call (.func 41) [(t 7)],none⟩,⟨some 6,m (t 8),none⟩,⟨some 9,.ext (t 6) 0,none⟩,⟨some 10,.ext (t 6) 1,none⟩,⟨some 4,m (t 9),none⟩,⟨some 5,m (t 10),none⟩]) (.seq (.block 0 (.seq (.ops [⟨some 12,m (t 5),none⟩,⟨some 13,.int .neq (t 12) (c (.int .i64 0)),none⟩,⟨some 11,m (t 13),none⟩]) (.cond (t 11) (.seq (.ops [⟨some 14,m (t 5),none⟩,⟨some 2,m (c .nilIface),none⟩,⟨some 3,m (t 14),none⟩]) .ret) (.seq (.ops [⟨some 16,m (t 4),none⟩,⟨some 17,.gen ⟨none,(.binOp .eql 9 (t 16) (c (.string ⟨#[117,116,102,45,56]⟩)) 9),4,"",#[],none⟩,none⟩,⟨some 15,m (t 17),none⟩]) (.cond (t 15) (.seq (.ops [⟨some 18,.build [(.int .i64 0)] [],none⟩,⟨some 19,.box (t 18) 115,none⟩,⟨some 20,.mkface 113 (t 19),none⟩,⟨some 2,m (t 20),none⟩,⟨some 3,m (c (.int .i64 0)),none⟩]) .ret) (.seq (.ops [⟨some 22,m (t 4),none⟩,⟨some 23,.gen ⟨none,(.binOp .eql 9 (t 22) (c (.string ⟨#[105,115,99,105,105]⟩)) 9),4,"",#[],none⟩,none⟩,⟨some 21,m (t 23),none⟩]) (.cond (t 21) (.seq (.ops [⟨some 24,.call (.func 50) [],none⟩,⟨some 25,.mkface 116 (t 24),none⟩,⟨some 2,m (t 25),none⟩,⟨some 3,m (c (.int .i64 0)),none⟩]) .ret) .skip))))))) (.seq (.ops [⟨some 26,m (t 4),none⟩,⟨some 27,.call (.func 17) [(t 26)],none⟩,⟨some 28,.call (.func 51) [(t 27)],none⟩,⟨some 29,.mkface 118 (t 28),none⟩,⟨some 2,m (t 29),none⟩,⟨some 3,m (c (.int .i64 0)),none⟩]) .ret))))
def q1H:q0h:=⟨1,30,[.tmp 2,.tmp 3],q4F⟩
theorem k1R:FOK Tryz.prog 30 q1H:=FOK.of [] Tryz.func30 (by kernel_rfl) (by kernel_rfl)
def k1S:q0f:=(.seq (.ops [⟨some 24,.int .lss (t 23) (c (.int .i64 256)),none⟩]) (.seq (.cond (t 24) .skip (.exit 1)) (.seq (.block 2 (.seq (.ops [⟨some 25,m (t 23),none⟩,⟨some 4,m (t 25),none⟩]) (.seq (.ops [⟨some 27,m (t 4),none⟩,⟨some 28,.conv .u8 (t 27),none⟩,⟨some 29,.call (.func 63) [(t 28)],none⟩,⟨some 26,m (t 29),none⟩,⟨some 30,.ext (t 26) 0,none⟩,⟨some 31,.ext (t 26) 1,none⟩,⟨some 5,m (t 30),none⟩,⟨some 6,m (t 31),none⟩]) (.seq (.ops [⟨some 32,m (t 6),none⟩]) (.cond (t 32) (.ops [⟨some 33,m (t 3),none⟩,⟨some 34,m (t 4),none⟩,⟨some 35,.bslice 3 1 1 [(.int .i64 0)] [(0,1,(t 34))],none⟩,⟨some 36,m (t 5),none⟩,⟨some 37,.bslice 3 1 1 [(.int .i64 0)] [(0,1,(t 36))],none⟩,⟨some 38,.build [(.slice none 0 0),(.slice none 0 0)] [(0,1,(t 35)),(1,1,(t 37))],none⟩,⟨some 39,.bslice 127 1 2 [(.slice none 0 0),(.slice none 0 0)] [(0,2,(t 38))],none⟩,⟨some 40,.append (t 33) (t 39) 127 2 48,none⟩,⟨some 3,m (t 40),none⟩]) .skip))))) (.ops [⟨some 41,.int .add (t 23) (c (.int .i64 1)),none⟩,⟨some 23,m (t 41),none⟩]))))
def k1T:q0f:=(.seq (.ops [⟨some 45,.int .lss (t 44) (c (.int .i64 128)),none⟩]) (.seq (.cond (t 45) .skip (.exit 3)) (.seq (.block 4 (.seq (.ops [⟨some 46,m (t 44),none⟩,⟨some 7,m (t 46),none⟩]) (.ops [⟨some 47,m (t 3),none⟩,⟨some 48,m (t 7),none⟩,⟨some 49,.bslice 3 1 1 [(.int .i64 0)] [(0,1,(t 48))],none⟩,⟨some 50,m (t 7),none⟩,⟨some 51,.bslice 3 1 1 [(.int .i64 0)] [(0,1,(t 50))],none⟩,⟨some 52,.build [(.slice none 0 0),(.slice none 0 0)] [(0,1,(t 49)),(1,1,(t 51))],none⟩,⟨some 53,.bslice 127 1 2 [(.slice none 0 0),(.slice none 0 0)] [(0,2,(t 52))],none⟩,⟨some 54,.append (t 47) (t 53) 127 2 48,none⟩,⟨some 3,m (t 54),none⟩]))) (.ops [⟨some 55,.int .add (t 44) (c (.int .i64 1)),none⟩,⟨some 44,m (t 55),none⟩]))))
def q9E : q0f := (.seq (.ops [⟨some 2,m (c (.slice none 0 0)),none⟩]) (.seq (.ops [⟨some 3,m (c (.slice none 0 0)),none⟩]) (.seq (.seq (.ops [⟨some 8,m (t 0),none⟩]) (.block 0 (.seq (.ops [⟨some 10,.gen ⟨none,(.binOp .eql 9 (t 8) (c (.string ⟨#[118,105,115,99,105,105]⟩)) 9),4,"",#[],none⟩,none⟩,⟨some 9,m (t 10),none⟩]) (.cond (t 9) (.seq (.ops [⟨some 11,.call (.func 59) [],none⟩,⟨some 2,m (t 11),none⟩]) .ret) (.seq (.ops [⟨some 13,.gen ⟨none,(.binOp .eql 9 (t 8) (c (.string ⟨#[116,99,118,110,51]⟩)) 9),4,"",#[],none⟩,none⟩,⟨some 12,m (t 13),none⟩]) (.cond (t 12) (.seq (.ops [⟨some 14,.call (.func 60) [],none⟩,⟨some 2,m (t 14),none⟩]) .ret) (.seq (.ops [⟨some 16,.gen ⟨none,(.binOp .eql 9 (t 8) (c (.string ⟨#[118,110,105]⟩)) 9),4,"",#[],none⟩,none⟩,⟨some 15,m (t 16),none⟩]) (.cond (t 15) (.seq (.ops [⟨some 17,.call (.func 61) [],none⟩,⟨some 2,m (t 17),none⟩]) .ret) (.seq (.ops [⟨some 19,.gen ⟨none,(.binOp .eql 9 (t 8) (c (.string ⟨#[116,115,99,105,105]⟩)) 9),4,"",#[],none⟩,none⟩,⟨some 18,m (t 19),none⟩]) (.cond (t 18) (.seq (.ops [⟨some 20,.call (.func 62) [],none⟩,⟨some 2,m (t 20),none⟩]) .ret) (.seq (.ops [⟨some 22,.gen ⟨none,(.binOp .eql 9 (t 8) (c (.string ⟨#[116,105,115,45,54,50,48]⟩)) 9),4,"",#[],none⟩,none⟩,⟨some 21,m (t 22),none⟩]) (.cond (t 21) (.seq (.ops [⟨some 23,m (c (.int .i64 0)),none⟩]) (.block 1 (.loop [3,23] k1S))) (.seq (.ops [⟨some 43,.gen ⟨none,(.binOp .eql 9 (t 8) (c (.string ⟨#[97,115,99,105,105]⟩)) 9),4,"",#[],none⟩,none⟩,⟨some 42,m (t 43),none⟩]) (.cond (t 42) (.seq (.ops [⟨some 44,m (c (.int .i64 0)),none⟩]) (.block 3 (.loop [3,44] k1T))) .skip)))))))))))))) (.seq (.ops [⟨some 56,m (t 3),none⟩,⟨some 2,m (t 56),none⟩]) .ret))))
def q5s:q0h:=⟨1,57,[.tmp 2],q9E⟩
theorem k3q:FOK Tryz.prog 39 q5s:=FOK.of [[3,23],[3,44]] Tryz.func39 (by kernel_rfl) (by kernel_rfl)
def k3Z:q0f:=(.seq (.ops [⟨some 2,m (c (.pointer none)),none⟩,⟨some 3,m (c (.int .i64 0)),none⟩]) (.seq (.ops [⟨some 9,m (t 0),none⟩,⟨some 10,.call (.func 64) [(t 9)],none⟩,⟨some 8,m (t 10),none⟩,⟨some 11,.ext (t 8) 0,none⟩,⟨some 12,.ext (t 8) 1,none⟩,⟨some 4,m (t 11),none⟩,⟨some 5,m (t 12),none⟩]) (.seq (.seq (.ops [⟨some 13,m (t 5),none⟩,⟨some 14,.int .neq (t 13) (c (.int .i64 0)),none⟩]) (.cond (t 14) (.seq (.ops [⟨some 15,m (t 5),none⟩,⟨some 2,m (c (.pointer none)),none⟩,⟨some 3,m (t 15),none⟩]) .ret) .skip)) (.seq (.seq (.ops [⟨some 16,m (t 0),none⟩,⟨some 17,.call (.func 65) [(t 16)],none⟩,⟨some 18,.not (t 17),none⟩]) (.cond (t 18) (.seq (.ops [⟨some 2,m (c (.pointer none)),none⟩,⟨some 3,m (c (.int .i64 10)),none⟩]) .ret) .skip)) (.seq (.ops [⟨some 19,m (t 0),none⟩,⟨some 20,.call (.func 66) [(t 19)],none⟩,⟨some 6,m (t 20),none⟩]) (.seq (.ops [⟨some 21,m (t 0),none⟩,⟨some 22,.call (.func 67) [(t 21)],none⟩,⟨some 23,m (t 6),none⟩,⟨some 24,.call (.func 67) [(t 23)],none⟩,⟨some 25,m (t 4),none⟩,⟨some 26,.build [(.int .i64 0),(.int .i64 0),(.pointer none),(.pointer none)] [(0,1,(t 22)),(1,1,(t 24)),(2,1,(t 25))],none⟩,⟨some 27,.box (t 26) 107,none⟩,⟨some 7,m (t 27),none⟩]) (.seq (.ops [⟨some 29,m (t 7),none⟩,⟨some 30,m (t 6),none⟩,⟨some 31,.call (.func 64) [(t 30)],none⟩,⟨some 28,m (t 31),none⟩,⟨some 32,.ext (t 28) 0,none⟩,⟨some 33,.ext (t 28) 1,none⟩,⟨some 34,.nilChk (t 29),none⟩,⟨some 35,.faddr (t 34) 3,none⟩,⟨none,.store (t 35) (t 32) 1,none⟩,⟨some 5,m (t 33),none⟩]) (.seq (.ops [⟨some 36,m (t 7),none⟩,⟨some 37,m (t 5),none⟩,⟨some 2,m (t 36),none⟩,⟨some 3,m (t 37),none⟩]) .ret))))))))
def q8m:q0h:=⟨1,38,[.tmp 2,.tmp 3],k3Z⟩
theorem k8x:FOK Tryz.prog 40 q8m:=FOK.of [] Tryz.func40 (by kernel_rfl) (by kernel_rfl)
def k6F : q0f := (.seq (.ops [⟨some 2,m (c (.string ⟨#[]⟩)),none⟩,⟨some 3,m (c (.int .i64 0)),none⟩]) (.seq (.ops [⟨some 6,m (t 0),none⟩,⟨some 7,.call (.func 68) [(t 6)],none⟩,⟨some 4,m (t 7),none⟩]) (.seq (.seq (.ops [⟨some 8,.call (.func 27) [],none⟩,⟨some 9,m (t 4),none⟩,⟨some 10,.call (.func 69) [(t 8),(t 9)],none⟩]) (.cond (t 10) (.seq (.ops [⟨some 11,m (t 4),none⟩,⟨some 2,m (t 11),none⟩,⟨some 3,m (c (.int .i64 0)),none⟩]) .ret) .skip)) (.seq (.seq (.ops [⟨some 12,m (t 4),none⟩,⟨some 13,.call (.func 70) [(t 12)],none⟩,⟨some 5,m (t 13),none⟩]) (.seq (.ops [⟨some 14,m (t 5),none⟩,⟨some 15,.gen ⟨none,(.binOp .neq 9 (t 14) (c (.string ⟨#[]⟩)) 9),4,"",#[],none⟩,none⟩]) (.cond (t 15) (.seq (.ops [⟨some 16,m (t 5),none⟩,⟨some 2,m (t 16),none⟩,⟨some 3,m (c (.int .i64 0)),none⟩]) .ret) .skip))) (.seq (.ops [⟨some 2,m (c (.string ⟨#[]⟩)),none⟩,⟨some 3,m (c (.int .i64 6)),none⟩]) .ret)))))
def k0Q:q0h:=⟨1,17,[.tmp 2,.tmp 3],k6F⟩
theorem k5d:FOK Tryz.prog 41 k0Q:=FOK.of [] Tryz.func41 (by kernel_rfl) (by kernel_rfl)
def q8J:q0f:=(.seq (.ops [⟨some 0,m (c (.pointer none)),none⟩]) (.seq (.ops [⟨some 1,.call (.func 71) [],none⟩,⟨some 2,.call (.func 43) [(t 1)],none⟩,⟨some 3,.build [.nilIface,(.int .i64 0)] [(0,1,(t 2))],none⟩,⟨some 4,.box (t 3) 138,none⟩,⟨some 0,m (t 4),none⟩]) .ret))
def q4G:q0h:=⟨0,5,[.tmp 0],q8J⟩
theorem k1U:FOK Tryz.prog 42 q4G:=FOK.of [] Tryz.func42 (by kernel_rfl) (by kernel_rfl)
def q7t:q0f:=(.seq (.ops [⟨some 2,m (c .nilIface),none⟩]) (.seq (.ops [⟨some 3,m (t 0),none⟩,⟨some 4,.call (.func 23) [(t 3)],none⟩,⟨some 5,.call (.func 72) [(t 4)],none⟩,⟨some 6,.build [(.pointer none)] [(0,1,(t 5))],none⟩,⟨some 7,.box (t 6) 143,none⟩,⟨some 8,.mkface 139 (t 7),none⟩,⟨some 2,m (t 8),none⟩]) .ret))
def q3v:q0h:=⟨1,9,[.tmp 2],q7t⟩
theorem k0w:FOK Tryz.prog 43 q3v:=FOK.of [] Tryz.func43 (by kernel_rfl) (by kernel_rfl)
def q4n:q0f:=(.seq (.ops [⟨some 3,m (t 0),none⟩,⟨some 4,m (t 0),none⟩,⟨some 5,.nilChk (t 4),none⟩,⟨some 6,.faddr (t 5) 0,none⟩,⟨some 7,.load (t 6) none,none⟩,⟨some 8,.call (.func 18) [(t 7)],none⟩,⟨some 2,m (t 8),none⟩,⟨some 9,.ext (t 2) 0,none⟩,⟨some 10,.ext (t 2) 1,none⟩,⟨some 11,.nilChk (t 3),none⟩,⟨some 12,.faddr (t 11) 3,none⟩,⟨none,.store (t 12) (t 9) 1,none⟩]) (.seq (.ops [⟨some 14,m (t 0),none⟩,⟨some 15,m (t 0),none⟩,⟨some 16,.nilChk (t 15),none⟩,⟨some 17,.faddr (t 16) 1,none⟩,⟨some 18,.load (t 17) none,none⟩,⟨some 19,.call (.func 30) [(t 18)],none⟩,⟨some 13,m (t 19),none⟩,⟨some 20,.ext (t 13) 0,none⟩,⟨some 21,.ext (t 13) 1,none⟩,⟨some 22,.nilChk (t 14),none⟩,⟨some 23,.faddr (t 22) 4,none⟩,⟨none,.store (t 23) (t 20) 1,none⟩]) (.ops [⟨some 24,m (t 0),none⟩,⟨some 25,m (t 0),none⟩,⟨some 26,m (t 0),none⟩,⟨some 27,m (t 0),none⟩,⟨some 28,.build [(.int .i64 0),(.int .i64 0),(.int .i64 0)] [],none⟩,⟨some 29,.nilChk (t 24),none⟩,⟨some 30,.faddr (t 29) 5,none⟩,⟨none,.store (t 30) (c (.slice none 0 0)) 1,none⟩,⟨some 31,.nilChk (t 25),none⟩,⟨some 32,.faddr (t 31) 6,none⟩,⟨none,.store (t 32) (t 28) 3,none⟩,⟨some 33,.nilChk (t 26),none⟩,⟨some 34,.faddr (t 33) 9,none⟩,⟨none,.store (t 34) (c (.bool false)) 1,none⟩,⟨some 35,.nilChk (t 27),none⟩,⟨some 36,.faddr (t 35) 10,none⟩,⟨none,.store (t 36) (c (.bool false)) 1,none⟩])))
def q1M:q0h:=⟨1,37,[],q4n⟩
theorem q6Y:FOK Tryz.prog 45 q1M:=FOK.of [] Tryz.func45 (by kernel_rfl) (by kernel_rfl)
def q4o:q0f:=(.seq (.ops [⟨some 5,.box (t 2) 36,none⟩,⟨some 6,m (c (.bool false)),none⟩]) (.seq (.seq (.ops [⟨some 7,m (t 0),none⟩,⟨some 8,.nilChk (t 7),none⟩,⟨some 9,.faddr (t 8) 2,none⟩,⟨some 10,.load (t 9) none,none⟩,⟨some 11,.int .eql (t 10) (c (.int .i64 0)),none⟩]) (.cond (t 11) (.seq (.ops [⟨some 12,m (t 0),none⟩,⟨some 13,m (t 1),none⟩,⟨some 14,.faddr (t 5) 0,none⟩,⟨some 15,.load (t 14) none,none⟩,⟨some 16,.faddr (t 5) 3,none⟩,⟨some 17,.load (t 16) none,none⟩,⟨some 18,.build [(.int .i64 0),(.int .i64 0),(.int .i64 0)] [(0,1,(t 13)),(1,1,(t 15)),(2,1,(t 17))],none⟩,⟨some 19,.nilChk (t 12),none⟩,⟨some 20,.faddr (t 19) 6,none⟩,⟨none,.store (t 20) (t 18) 3,none⟩]) (.seq (.ops [⟨some 6,m (c (.bool true)),none⟩]) .ret)) .skip)) (.seq (.ops [⟨some 6,m (c (.bool false)),none⟩]) .ret)))
def q1N:q0h:=⟨3,21,[.tmp 6],q4o⟩
theorem q6Z:FOK Tryz.prog 46 q1N:=FOK.of [] Tryz.func46 (by kernel_rfl) (by kernel_rfl)
def q4V : q0f := (.seq (.ops [⟨some 2,.alloc [(.int .i64 0),(.int .i64 0),(.int .i64 0)] 27,none⟩]) (.seq (.ops [⟨some 4,m (t 0),none⟩,⟨some 5,.nilChk (t 4),none⟩,⟨some 6,.faddr (t 5) 6,none⟩,⟨some 7,.load (t 6) (some 3),none⟩,⟨some 3,.alloc [(.int .i64 0),(.int .i64 0),(.int .i64 0)] 27,none⟩,⟨none,.store (t 3) (t 7) 3,none⟩]) (.seq (.ops [⟨some 8,m (t 0),none⟩,⟨some 9,.build [(.int .i64 0),(.int .i64 0),(.int .i64 0)] [],none⟩,⟨some 10,.nilChk (t 8),none⟩,⟨some 11,.faddr (t 10) 6,none⟩,⟨none,.store (t 11) (t 9) 3,none⟩]) (.seq (.ops [⟨some 12,m (t 0),none⟩,⟨some 13,m (t 0),none⟩,⟨some 14,.nilChk (t 13),none⟩,⟨some 15,.faddr (t 14) 4,none⟩,⟨some 16,.load (t 15) none,none⟩,⟨some 17,.mop (.inv (t 16) "End" []),none⟩,⟨some 18,.call (.func 26) [(t 12),(t 17)],none⟩]) (.seq (.seq (.ops [⟨some 19,m (t 0),none⟩,⟨some 20,.nilChk (t 19),none⟩,⟨some 21,.faddr (t 20) 6,none⟩,⟨some 22,.faddr (t 21) 2,none⟩,⟨some 23,.load (t 22) none,none⟩,⟨some 24,.int .neq (t 23) (c (.int .i64 0)),none⟩]) (.cond (t 24) (.seq (.ops [⟨some 25,m (t 0),none⟩,⟨some 26,.nilChk (t 25),none⟩,⟨some 27,.faddr (t 26) 6,none⟩,⟨some 28,.load (t 27) (some 3),none⟩,⟨none,.store (t 2) (t 28) 3,none⟩]) .ret) .skip)) (.seq (.ops [⟨some 29,.load (t 3) (some 3),none⟩,⟨none,.store (t 2) (t 29) 3,none⟩]) .ret))))))
def q2a:q0h:=⟨1,30,[.cell 2 (some 3)],q4V⟩
theorem q7x:FOK Tryz.prog 47 q2a:=FOK.of [] Tryz.func47 (by kernel_rfl) (by kernel_rfl)
def z1I : q0f := (.seq (.ops [⟨some 2,m (c (.int .i64 0)),none⟩,⟨some 3,m (c (.int .i64 0)),none⟩,⟨some 4,m (c (.int .u8 0)),none⟩,⟨some 5,m (c (.int .u8 0)),none⟩]) (.seq (.ops [⟨some 4,m (c (.int .u8 128)),none⟩,⟨some 5,m (c (.int .u8 191)),none⟩]) (.seq (.block 0 (.seq (.ops [⟨some 7,m (t 0),none⟩,⟨some 8,.int .lss (t 7) (c (.int .u8 128)),none⟩,⟨some 6,m (t 8),none⟩]) (.cond (t 6) (.seq (.ops [⟨some 9,m (t 0),none⟩,⟨some 10,.conv .i64 (t 9),none⟩,⟨some 11,m (t 4),none⟩,⟨some 12,m (t 5),none⟩,⟨some 2,m (c (.int .i64 1)),none⟩,⟨some 3,m (t 10),none⟩,⟨some 4,m (t 11),none⟩,⟨some 5,m (t 12),none⟩]) .ret) (.seq (.ops [⟨some 14,m (t 0),none⟩,⟨some 15,.int .lss (t 14) (c (.int .u8 194)),none⟩,⟨some 16,m (t 15),none⟩,⟨some 17,m (t 0),some (16,false)⟩,⟨some 18,.int .gtr (t 17) (c (.int .u8 244)),some (16,false)⟩,⟨some 19,.pick (t 16) (c (.bool true)) (t 18),none⟩,⟨some 13,m (t 19),none⟩]) (.cond (t 13) (.seq (.ops [⟨some 20,m (t 4),none⟩,⟨some 21,m (t 5),none⟩,⟨some 2,m (c (.int .i64 0)),none⟩,⟨some 3,m (c (.int .i64 0)),none⟩,⟨some 4,m (t 20),none⟩,⟨some 5,m (t 21),none⟩]) .ret) (.seq (.ops [⟨some 23,m (t 0),none⟩,⟨some 24,.int .lss (t 23) (c (.int .u8 224)),none⟩,⟨some 22,m (t 24),none⟩]) (.cond (t 22) (.seq (.ops [⟨some 25,m (t 0),none⟩,⟨some 26,.gen ⟨none,(.binOp .and 5 (t 25) (c (.int .u8 31)) 5),5,"",#[],none⟩,none⟩,⟨some 27,.conv .i64 (t 26),none⟩,⟨some 28,m (t 4),none⟩,⟨some 29,m (t 5),none⟩,⟨some 2,m (c (.int .i64 2)),none⟩,⟨some 3,m (t 27),none⟩,⟨some 4,m (t 28),none⟩,⟨some 5,m (t 29),none⟩]) .ret) (.seq (.ops [⟨some 31,m (t 0),none⟩,⟨some 32,.int .eql (t 31) (c (.int .u8 224)),none⟩,⟨some 30,m (t 32),none⟩]) (.cond (t 30) (.seq (.ops [⟨some 33,m (t 5),none⟩,⟨some 2,m (c (.int .i64 3)),none⟩,⟨some 3,m (c (.int .i64 0)),none⟩,⟨some 4,m (c (.int .u8 160)),none⟩,⟨some 5,m (t 33),none⟩]) .ret) (.seq (.ops [⟨some 35,m (t 0),none⟩,⟨some 36,.int .eql (t 35) (c (.int .u8 237)),none⟩,⟨some 34,m (t 36),none⟩]) (.cond (t 34) (.seq (.ops [⟨some 37,m (t 4),none⟩,⟨some 2,m (c (.int .i64 3)),none⟩,⟨some 3,m (c (.int .i64 13)),none⟩,⟨some 4,m (t 37),none⟩,⟨some 5,m (c (.int .u8 159)),none⟩]) .ret) (.seq (.ops [⟨some 39,m (t 0),none⟩,⟨some 40,.int .lss (t 39) (c (.int .u8 240)),none⟩,⟨some 38,m (t 40),none⟩]) (.cond (t 38) (.seq (.ops [⟨some 41,m (t 0),none⟩,⟨some 42,.gen ⟨none,(.binOp .and 5 (t 41) (c (.int .u8 15)) 5),5,"",#[],none⟩,none⟩,⟨some 43,.conv .i64 (t 42),none⟩,⟨some 44,m (t 4),none⟩,⟨some 45,m (t 5),none⟩,⟨some 2,m (c (.int .i64 3)),none⟩,⟨some 3,m (t 43),none⟩,⟨some 4,m (t 44),none⟩,⟨some 5,m (t 45),none⟩]) .ret) (.seq (.ops [⟨some 47,m (t 0),none⟩,⟨some 48,.int .eql (t 47) (c (.int .u8 240)),none⟩,⟨some 46,m (t 48),none⟩]) (.cond (t 46) (.seq (.ops [⟨some 49,m (t 5),none⟩,⟨some 2,m (c (.int .i64 4)),none⟩,⟨some 3,m (c (.int .i64 0)),none⟩,⟨some 4,m (c (.int .u8 144)),none⟩,⟨some 5,m (t 49),none⟩]) .ret) (.seq (.ops [⟨some 51,m (t 0),none⟩,⟨some 52,.int .eql (t 51) (c (.int .u8 244)),none⟩,⟨some 50,m (t 52),none⟩]) (.cond (t 50) (.seq (.ops [⟨some 53,m (t 4),none⟩,⟨some 2,m (c (.int .i64 4)),none⟩,⟨some 3,m (c (.int .i64 4)),none⟩,⟨some 4,m (t 53),none⟩,⟨some 5,m (c (.int .u8 143)),none⟩]) .ret) .skip))))))))))))))))) (.seq (.ops [⟨some 54,m (t 0),none⟩,⟨some 55,.gen ⟨none,(.binOp .and 5 (t 54) (c (.int .u8 7)) 5),5,"",#[],none⟩,none⟩,⟨some 56,.conv .i64 (t 55),none⟩,⟨some 57,m (t 4),none⟩,⟨some 58,m (t 5),none⟩,⟨some 2,m (c (.int .i64 4)),none⟩,⟨some 3,m (t 56),none⟩,⟨some 4,m (t 57),none⟩,⟨some 5,m (t 58),none⟩]) .ret))))
def k4a:q0h:=⟨1,59,[.tmp 2,.tmp 3,.tmp 4,.tmp 5],z1I⟩
theorem k8y:FOK Tryz.prog 48 k4a:=FOK.of [] Tryz.func48 (by kernel_rfl) (by kernel_rfl)
def k0R:q0f:=(.seq (.ops [⟨some 2,m (c (.bool false)),none⟩]) (.seq (.ops [⟨some 3,m (t 0),none⟩,⟨some 4,.int .geq (t 3) (c (.int .i64 0)),none⟩,⟨some 5,m (t 4),none⟩,⟨some 6,m (t 0),some (5,true)⟩,⟨some 7,.int .leq (t 6) (c (.int .i64 1114111)),some (5,true)⟩,⟨some 8,.pick (t 5) (t 7) (c (.bool false)),none⟩,⟨some 9,m (t 8),none⟩,⟨some 10,m (t 0),some (9,true)⟩,⟨some 11,.int .lss (t 10) (c (.int .i64 55296)),some (9,true)⟩,⟨some 12,m (t 11),some (9,true)⟩,⟨some 13,m (t 0),some (12,false)⟩,⟨some 14,.int .gtr (t 13) (c (.int .i64 57343)),some (12,false)⟩,⟨some 15,.pick (t 12) (c (.bool true)) (t 14),some (9,true)⟩,⟨some 16,.pick (t 9) (t 15) (c (.bool false)),none⟩,⟨some 2,m (t 16),none⟩]) .ret))
def q5W:q0h:=⟨1,17,[.tmp 2],k0R⟩
theorem k5e:FOK Tryz.prog 49 q5W:=FOK.of [] Tryz.func49 (by kernel_rfl) (by kernel_rfl)
def q8K:q0f:=(.seq (.ops [⟨some 0,m (c (.pointer none)),none⟩]) (.seq (.ops [⟨some 1,.call (.func 71) [],none⟩,⟨some 2,.call (.func 51) [(t 1)],none⟩,⟨some 3,.build [(.pointer none),(.int .i64 0),(.int .i64 0),(.int .i64 0)] [(0,1,(t 2))],none⟩,⟨some 4,.box (t 3) 148,none⟩,⟨some 0,m (t 4),none⟩]) .ret))
def q4H:q0h:=⟨0,5,[.tmp 0],q8K⟩
theorem k1V:FOK Tryz.prog 50 q4H:=FOK.of [] Tryz.func50 (by kernel_rfl) (by kernel_rfl)
def q7u:q0f:=(.seq (.ops [⟨some 2,m (c (.pointer none)),none⟩]) (.seq (.ops [⟨some 3,m (t 0),none⟩,⟨some 4,.call (.func 75) [(t 3)],none⟩,⟨some 5,.call (.func 72) [(t 4)],none⟩,⟨some 6,m (t 0),none⟩,⟨some 7,.build [(.pointer none),(.pointer none),(.slice none 0 0)] [(0,1,(t 5)),(1,1,(t 6))],none⟩,⟨some 8,.box (t 7) 150,none⟩,⟨some 2,m (t 8),none⟩]) .ret))
def q3w:q0h:=⟨1,9,[.tmp 2],q7u⟩
theorem k0x:FOK Tryz.prog 51 q3w:=FOK.of [] Tryz.func51 (by kernel_rfl) (by kernel_rfl)
def q3x:q0f:=(.seq (.ops [⟨some 4,.int .lss (t 3) (c (.int .i64 256)),none⟩]) (.seq (.cond (t 4) .skip (.exit 0)) (.seq (.block 1 (.seq (.ops [⟨some 5,m (t 3),none⟩,⟨some 2,m (t 5),none⟩]) (.ops [⟨some 6,m (t 1),none⟩,⟨some 7,m (t 2),none⟩,⟨some 8,.bslice 3 1 1 [(.int .i64 0)] [(0,1,(t 7))],none⟩,⟨some 9,m (t 2),none⟩,⟨some 10,.conv .u8 (t 9),none⟩,⟨some 11,.call (.func 81) [(t 10)],none⟩,⟨some 12,.bslice 3 1 1 [(.int .i64 0)] [(0,1,(t 11))],none⟩,⟨some 13,.build [(.slice none 0 0),(.slice none 0 0)] [(0,1,(t 8)),(1,1,(t 12))],none⟩,⟨some 14,.bslice 127 1 2 [(.slice none 0 0),(.slice none 0 0)] [(0,2,(t 13))],none⟩,⟨some 15,.append (t 6) (t 14) 127 2 48,none⟩,⟨some 1,m (t 15),none⟩]))) (.ops [⟨some 16,.int .add (t 3) (c (.int .i64 1)),none⟩,⟨some 3,m (t 16),none⟩]))))
def q8L:q0f:=(.seq (.ops [⟨some 0,m (c (.slice none 0 0)),none⟩]) (.seq (.ops [⟨some 1,m (c (.slice none 0 0)),none⟩]) (.seq (.seq (.ops [⟨some 3,m (c (.int .i64 0)),none⟩]) (.block 0 (.loop [1,3] q3x))) (.seq (.ops [⟨some 17,m (t 1),none⟩,⟨some 0,m (t 17),none⟩]) .ret))))
def q4I:q0h:=⟨0,18,[.tmp 0],q8L⟩
theorem k1W:FOK Tryz.prog 59 q4I:=FOK.of [[1,3]] Tryz.func59 (by kernel_rfl) (by kernel_rfl)
def k3r:q0f:=(.seq (.ops [⟨some 4,.int .lss (t 3) (c (.int .i64 128)),none⟩]) (.seq (.cond (t 4) .skip (.exit 0)) (.seq (.block 1 (.seq (.ops [⟨some 5,m (t 3),none⟩,⟨some 2,m (t 5),none⟩]) (.ops [⟨some 6,m (t 1),none⟩,⟨some 7,m (t 2),none⟩,⟨some 8,m (t 2),none⟩,⟨some 9,.build [(.int .i64 0),(.int .i64 0)] [(0,1,(t 7)),(1,1,(t 8))],none⟩,⟨some 10,.bslice 162 1 2 [(.int .i64 0),(.int .i64 0)] [(0,2,(t 9))],none⟩,⟨some 11,.append (t 6) (t 10) 162 2 16,none⟩,⟨some 1,m (t 11),none⟩]))) (.ops [⟨some 12,.int .add (t 3) (c (.int .i64 1)),none⟩,⟨some 3,m (t 12),none⟩]))))
def k6G:q0f:=(.seq (.ops [⟨some 0,m (c (.slice none 0 0)),none⟩]) (.seq (.ops [⟨some 1,m (c (.slice none 0 0)),none⟩]) (.seq (.seq (.ops [⟨some 3,m (c (.int .i64 0)),none⟩]) (.block 0 (.loop [1,3] k3r))) (.seq (.ops [⟨some 13,m (t 1),none⟩,⟨some 14,.call (.func 83) [],none⟩,⟨some 15,.append (t 13) (t 14) 162 2 16,none⟩,⟨some 16,.call (.func 82) [(t 15)],none⟩,⟨some 0,m (t 16),none⟩]) .ret))))
def k0S:q0h:=⟨0,17,[.tmp 0],k6G⟩
theorem k5f:FOK Tryz.prog 60 k0S:=FOK.of [[1,3]] Tryz.func60 (by kernel_rfl) (by kernel_rfl)
def k5g:q0f:=(.seq (.ops [⟨some 42,.int .lss (t 41) (t 40),none⟩]) (.seq (.cond (t 42) .skip (.exit 2)) (.seq (.block 3 (.seq (.ops [⟨some 43,.iaddr (t 39) (t 41) 1,none⟩,⟨some 44,.load (t 43) none,none⟩,⟨some 11,m (t 44),none⟩]) (.seq (.seq (.ops [⟨some 45,m (t 8),none⟩]) (.cond (t 45) (.ops [⟨some 46,m (t 11),none⟩,⟨some 47,.int .sub (t 46) (c (.int .i64 32)),none⟩,⟨some 11,m (t 47),none⟩]) .skip)) (.ops [⟨some 48,m (t 9),none⟩,⟨some 49,m (t 11),none⟩,⟨some 50,.bslice 3 1 1 [(.int .i64 0)] [(0,1,(t 49))],none⟩,⟨some 51,.append (t 48) (t 50) 3 1 8,none⟩,⟨some 9,m (t 51),none⟩])))) (.ops [⟨some 52,.int .add (t 41) (c (.int .i64 1)),none⟩,⟨some 41,m (t 52),none⟩]))))
def k5h:q0f:=(.seq (.ops [⟨some 24,.int .lss (t 23) (t 22),none⟩]) (.seq (.cond (t 24) .skip (.exit 0)) (.seq (.block 1 (.seq (.ops [⟨some 25,m (t 23),none⟩,⟨some 26,.iaddr (t 21) (t 23) 2,none⟩,⟨some 27,.load (t 26) (some 2),none⟩,⟨some 7,.alloc [(.int .i64 0),(.complex .f64 0 0)] 154,none⟩,⟨some 6,m (t 25),none⟩,⟨none,.store (t 7) (t 27) 2,none⟩]) (.seq (.ops [⟨some 28,m (t 6),none⟩,⟨some 29,m (t 4),none⟩,⟨some 30,.int .geq (t 28) (t 29),none⟩,⟨some 8,m (t 30),none⟩]) (.seq (.seq (.ops [⟨some 31,m (t 8),none⟩]) (.cond (t 31) (.ops [⟨some 32,m (t 2),none⟩,⟨some 33,m (t 6),none⟩,⟨some 34,m (t 4),none⟩,⟨some 35,.int .sub (t 33) (t 34),none⟩,⟨some 36,.iaddr (t 32) (t 35) 2,none⟩,⟨some 37,.load (t 36) (some 2),none⟩,⟨none,.store (t 7) (t 37) 2,none⟩]) .skip)) (.seq (.ops [⟨some 9,m (c (.slice none 0 0)),none⟩]) (.seq (.seq (.ops [⟨some 38,.load (t 7) (some 2),none⟩,⟨some 39,.call (.func 85) [(t 38)],none⟩,⟨some 40,.len false (t 39),none⟩,⟨some 41,m (c (.int .i64 0)),none⟩]) (.block 2 (.loop [1,2,3,4,5,6,8,9,21,22,23,39,40,41] k5g))) (.seq (.ops [⟨some 53,m (t 5),none⟩,⟨some 54,m (t 3),none⟩,⟨some 55,m (t 6),none⟩,⟨some 56,.iaddr (t 54) (t 55) 1,none⟩,⟨some 57,.load (t 56) none,none⟩,⟨none,.mop (.set (t 53) (t 57) (c (.bool true))),none⟩]) (.ops [⟨some 58,m (t 1),none⟩,⟨some 59,m (t 9),none⟩,⟨some 60,m (t 3),none⟩,⟨some 61,m (t 6),none⟩,⟨some 62,.iaddr (t 60) (t 61) 1,none⟩,⟨some 63,.load (t 62) none,none⟩,⟨some 64,.bslice 3 1 1 [(.int .i64 0)] [(0,1,(t 63))],none⟩,⟨some 65,.build [(.slice none 0 0),(.slice none 0 0)] [(0,1,(t 59)),(1,1,(t 64))],none⟩,⟨some 66,.bslice 127 1 2 [(.slice none 0 0),(.slice none 0 0)] [(0,2,(t 65))],none⟩,⟨some 67,.append (t 58) (t 66) 127 2 48,none⟩,⟨some 1,m (t 67),none⟩])))))))) (.ops [⟨some 68,.int .add (t 23) (c (.int .i64 1)),none⟩,⟨some 23,m (t 68),none⟩]))))
def k5i:q0f:=(.seq (.ops [⟨some 70,.int .lss (t 69) (c (.int .i64 128)),none⟩]) (.seq (.cond (t 70) .skip (.exit 4)) (.seq (.block 5 (.seq (.ops [⟨some 71,m (t 69),none⟩,⟨some 12,m (t 71),none⟩]) (.seq (.ops [⟨some 72,m (t 5),none⟩,⟨some 73,m (t 12),none⟩,⟨some 74,.mop (.get (t 72) (t 73) (.bool false) false),none⟩,⟨some 75,.not (t 74),none⟩]) (.cond (t 75) (.ops [⟨some 76,m (t 1),none⟩,⟨some 77,m (t 12),none⟩,⟨some 78,.bslice 3 1 1 [(.int .i64 0)] [(0,1,(t 77))],none⟩,⟨some 79,m (t 12),none⟩,⟨some 80,.bslice 3 1 1 [(.int .i64 0)] [(0,1,(t 79))],none⟩,⟨some 81,.build [(.slice none 0 0),(.slice none 0 0)] [(0,1,(t 78)),(1,1,(t 80))],none⟩,⟨some 82,.bslice 127 1 2 [(.slice none 0 0),(.slice none 0 0)] [(0,2,(t 81))],none⟩,⟨some 83,.append (t 76) (t 82) 127 2 48,none⟩,⟨some 1,m (t 83),none⟩]) .skip)))) (.ops [⟨some 84,.int .add (t 69) (c (.int .i64 1)),none⟩,⟨some 69,m (t 84),none⟩]))))
def k8z:q0f:=(.seq (.ops [⟨some 0,m (c (.slice none 0 0)),none⟩]) (.seq (.ops [⟨some 1,m (c (.slice none 0 0)),none⟩]) (.seq (.ops [⟨some 14,.call (.func 84) [],none⟩,⟨some 13,m (t 14),none⟩,⟨some 15,.ext (t 13) 0,none⟩,⟨some 16,.ext (t 13) 1,none⟩,⟨some 2,m (t 15),none⟩,⟨some 3,m (t 16),none⟩]) (.seq (.ops [⟨some 17,m (t 2),none⟩,⟨some 18,.len false (t 17),none⟩,⟨some 19,.int .quo (t 18) (c (.int .i64 2)),none⟩,⟨some 4,m (t 19),none⟩]) (.seq (.ops [⟨some 20,.mop (.make 168),none⟩,⟨some 5,m (t 20),none⟩]) (.seq (.seq (.ops [⟨some 21,m (t 2),none⟩,⟨some 22,.len false (t 21),none⟩,⟨some 23,m (c (.int .i64 0)),none⟩]) (.block 0 (.loop [1,2,3,4,5,21,22,23] k5h))) (.seq (.seq (.ops [⟨some 69,m (c (.int .i64 0)),none⟩]) (.block 4 (.loop [1,5,69] k5i))) (.seq (.ops [⟨some 85,m (t 1),none⟩,⟨some 0,m (t 85),none⟩]) .ret))))))))
def k1X:q0h:=⟨0,86,[.tmp 0],k8z⟩
theorem k6H:FOK Tryz.prog 61 k1X:=FOK.of [[1,2,3,4,5,21,22,23],[1,2,3,4,5,6,8,9,21,22,23,39,40,41],[1,5,69]] Tryz.func61 (by kernel_rfl) (by kernel_rfl)
def k1Y:q0f:=(.seq (.ops [⟨some 11,.int .lss (t 10) (c (.int .i64 128)),none⟩]) (.seq (.cond (t 11) .skip (.exit 0)) (.seq (.block 1 (.seq (.ops [⟨some 12,m (t 10),none⟩,⟨some 2,m (t 12),none⟩]) (.ops [⟨some 13,m (t 1),none⟩,⟨some 14,m (t 2),none⟩,⟨some 15,.bslice 3 1 1 [(.int .i64 0)] [(0,1,(t 14))],none⟩,⟨some 16,m (t 2),none⟩,⟨some 17,.bslice 3 1 1 [(.int .i64 0)] [(0,1,(t 16))],none⟩,⟨some 18,.call (.func 86) [(t 15),(t 17)],none⟩,⟨some 19,.bslice 127 1 2 [(.slice none 0 0),(.slice none 0 0)] [(0,2,(t 18))],none⟩,⟨some 20,.append (t 13) (t 19) 127 2 48,none⟩,⟨some 1,m (t 20),none⟩]))) (.ops [⟨some 21,.int .add (t 10) (c (.int .i64 1)),none⟩,⟨some 10,m (t 21),none⟩]))))
def k1Z:q0f:=(.seq (.ops [⟨some 25,.int .lss (t 24) (t 23),none⟩]) (.seq (.cond (t 25) .skip (.exit 2)) (.seq (.block 3 (.seq (.ops [⟨some 26,m (t 24),none⟩,⟨some 27,.iaddr (t 22) (t 24) 1,none⟩,⟨some 28,.load (t 27) none,none⟩,⟨some 3,m (t 26),none⟩,⟨some 4,m (t 28),none⟩]) (.ops [⟨some 29,m (t 1),none⟩,⟨some 30,m (t 3),none⟩,⟨some 31,.int .add (c (.int .i64 145)) (t 30),none⟩,⟨some 32,.bslice 3 1 1 [(.int .i64 0)] [(0,1,(t 31))],none⟩,⟨some 33,m (t 4),none⟩,⟨some 34,.bslice 3 1 1 [(.int .i64 0)] [(0,1,(t 33))],none⟩,⟨some 35,.call (.func 86) [(t 32),(t 34)],none⟩,⟨some 36,.bslice 127 1 2 [(.slice none 0 0),(.slice none 0 0)] [(0,2,(t 35))],none⟩,⟨some 37,.append (t 29) (t 36) 127 2 48,none⟩,⟨some 1,m (t 37),none⟩]))) (.ops [⟨some 38,.int .add (t 24) (c (.int .i64 1)),none⟩,⟨some 24,m (t 38),none⟩]))))
def k2a:q0f:=(.seq (.ops [⟨some 52,.int .lss (t 51) (t 50),none⟩]) (.seq (.cond (t 52) .skip (.exit 4)) (.seq (.block 5 (.seq (.ops [⟨some 53,.iaddr (t 49) (t 51) 2,none⟩,⟨some 54,.load (t 53) (some 2),none⟩,⟨some 6,.alloc [(.int .i64 0),(.int .i64 0)] 162,none⟩,⟨none,.store (t 6) (t 54) 2,none⟩]) (.ops [⟨some 55,m (t 1),none⟩,⟨some 56,.aaddr (t 6) (c (.int .i64 0)) 2 1,none⟩,⟨some 57,.load (t 56) none,none⟩,⟨some 58,.bslice 3 1 1 [(.int .i64 0)] [(0,1,(t 57))],none⟩,⟨some 59,.aaddr (t 6) (c (.int .i64 1)) 2 1,none⟩,⟨some 60,.load (t 59) none,none⟩,⟨some 61,.bslice 3 1 1 [(.int .i64 0)] [(0,1,(t 60))],none⟩,⟨some 62,.call (.func 86) [(t 58),(t 61)],none⟩,⟨some 63,.bslice 127 1 2 [(.slice none 0 0),(.slice none 0 0)] [(0,2,(t 62))],none⟩,⟨some 64,.append (t 55) (t 63) 127 2 48,none⟩,⟨some 1,m (t 64),none⟩]))) (.ops [⟨some 65,.int .add (t 51) (c (.int .i64 1)),none⟩,⟨some 51,m (t 65),none⟩]))))
def k2b:q0f:=(.seq (.ops [⟨some 69,.int .lss (t 68) (t 67),none⟩]) (.seq (.cond (t 69) .skip (.exit 6)) (.seq (.block 7 (.seq (.ops [⟨some 70,m (t 68),none⟩,⟨some 71,.iaddr (t 66) (t 68) 1,none⟩,⟨some 72,.load (t 71) none,none⟩,⟨some 7,m (t 70),none⟩,⟨some 8,m (t 72),none⟩]) (.seq (.ops [⟨some 73,m (t 7),none⟩,⟨some 74,.int .add (c (.int .i64 176)) (t 73),none⟩,⟨some 9,m (t 74),none⟩]) (.ops [⟨some 75,m (t 1),none⟩,⟨some 76,m (t 9),none⟩,⟨some 77,.bslice 3 1 1 [(.int .i64 0)] [(0,1,(t 76))],none⟩,⟨some 78,m (t 8),none⟩,⟨some 79,.bslice 3 1 1 [(.int .i64 0)] [(0,1,(t 78))],none⟩,⟨some 80,.call (.func 86) [(t 77),(t 79)],none⟩,⟨some 81,m (t 7),none⟩,⟨some 82,.int .add (c (.int .i64 208)) (t 81),none⟩,⟨some 83,.bslice 3 1 1 [(.int .i64 0)] [(0,1,(t 82))],none⟩,⟨some 84,m (t 8),none⟩,⟨some 85,.bslice 3 2 1 [(.int .i64 0)] [(0,1,(t 84)),(1,1,(.const (.int .i64 3021)))],none⟩,⟨some 86,.call (.func 86) [(t 83),(t 85)],none⟩,⟨some 87,m (t 9),none⟩,⟨some 88,.bslice 3 2 1 [(.int .i64 0)] [(0,1,(.const (.int .i64 166))),(1,1,(t 87))],none⟩,⟨some 89,m (t 8),none⟩,⟨some 90,.bslice 3 2 1 [(.int .i64 0)] [(0,1,(t 89)),(1,1,(.const (.int .i64 3014)))],none⟩,⟨some 91,.call (.func 86) [(t 88),(t 90)],none⟩,⟨some 92,m (t 9),none⟩,⟨some 93,.bslice 3 2 1 [(.int .i64 0)] [(0,1,(.const (.int .i64 167))),(1,1,(t 92))],none⟩,⟨some 94,m (t 8),none⟩,⟨some 95,.bslice 3 2 1 [(.int .i64 0)] [(0,1,(t 94)),(1,1,(.const (.int .i64 3015)))],none⟩,⟨some 96,.call (.func 86) [(t 93),(t 95)],none⟩,⟨some 97,m (t 9),none⟩,⟨some 98,.bslice 3 2 1 [(.int .i64 0)] [(0,1,(.const (.int .i64 168))),(1,1,(t 97))],none⟩,⟨some 99,m (t 8),none⟩,⟨some 100,.bslice 3 2 1 [(.int .i64 0)] [(0,1,(t 99)),(1,1,(.const (.int .i64 3016)))],none⟩,⟨some 101,.call (.func 86) [(t 98),(t 100)],none⟩,⟨some 102,m (t 9),none⟩,⟨some 103,.bslice 3 3 1 [(.int .i64 0)] [(0,1,(.const (.int .i64 166))),(1,1,(t 102)),(2,1,(.const (.int .i64 170)))],none⟩,⟨some 104,m (t 8),none⟩,⟨some 105,.bslice 3 2 1 [(.int .i64 0)] [(0,1,(t 104)),(1,1,(.const (.int .i64 3018)))],none⟩,⟨some 106,.call (.func 86) [(t 103),(t 105)],none⟩,⟨some 107,m (t 9),none⟩,⟨some 108,.bslice 3 3 1 [(.int .i64 0)] [(0,1,(.const (.int .i64 167))),(1,1,(t 107)),(2,1,(.const (.int .i64 170)))],none⟩,⟨some 109,m (t 8),none⟩,⟨some 110,.bslice 3 2 1 [(.int .i64 0)] [(0,1,(t 109)),(1,1,(.const (.int .i64 3019)))],none⟩,⟨some 111,.call (.func 86) [(t 108),(t 110)],none⟩,⟨some 112,m (t 9),none⟩,⟨some 113,.bslice 3 3 1 [(.int .i64 0)] [(0,1,(.const (.int .i64 166))),(1,1,(t 112)),(2,1,(.const (.int .i64 175)))],none⟩,⟨some 114,m (t 8),none⟩,⟨some 115,.bslice 3 2 1 [(.int .i64 0)] [(0,1,(t 114)),(1,1,(.const (.int .i64 3020)))],none⟩,⟨some 116,.call (.func 86) [(t 113),(t 115)],none⟩,⟨some 117,.bslice 127 8 2 [(.slice none 0 0),(.slice none 0 0)] [(0,2,(t 80)),(2,2,(t 86)),(4,2,(t 91)),(6,2,(t 96)),(8,2,(t 101)),(10,2,(t 106)),(12,2,(t 111)),(14,2,(t 116))],none⟩,⟨some 118,.append (t 75) (t 117) 127 2 48,none⟩,⟨some 1,m (t 118),none⟩])))) (.ops [⟨some 119,.int .add (t 68) (c (.int .i64 1)),none⟩,⟨some 68,m (t 119),none⟩]))))
def k5j:q0f:=(.seq (.ops [⟨some 0,m (c (.slice none 0 0)),none⟩]) (.seq (.ops [⟨some 1,m (c (.slice none 0 0)),none⟩]) (.seq (.seq (.ops [⟨some 10,m (c (.int .i64 0)),none⟩]) (.block 0 (.loop [1,10] k1Y))) (.seq (.seq (.ops [⟨some 22,.call (.func 87) [],none⟩,⟨some 23,.len false (t 22),none⟩,⟨some 24,m (c (.int .i64 0)),none⟩]) (.block 2 (.loop [1,22,23,24] k1Z))) (.seq (.seq (.ops [⟨some 39,.build [(.int .i64 0),(.int .i64 0)] [(0,1,(.const (.int .i64 166))),(1,1,(.const (.int .i64 3014)))],none⟩,⟨some 40,.build [(.int .i64 0),(.int .i64 0)] [(0,1,(.const (.int .i64 167))),(1,1,(.const (.int .i64 3015)))],none⟩,⟨some 41,.build [(.int .i64 0),(.int .i64 0)] [(0,1,(.const (.int .i64 168))),(1,1,(.const (.int .i64 3016)))],none⟩,⟨some 42,.build [(.int .i64 0),(.int .i64 0)] [(0,1,(.const (.int .i64 169))),(1,1,(.const (.int .i64 3021)))],none⟩,⟨some 43,.build [(.int .i64 0),(.int .i64 0)] [(0,1,(.const (.int .i64 170))),(1,1,(.const (.int .i64 3006)))],none⟩,⟨some 44,.build [(.int .i64 0),(.int .i64 0)] [(0,1,(.const (.int .i64 171))),(1,1,(.const (.int .i64 3007)))],none⟩,⟨some 45,.build [(.int .i64 0),(.int .i64 0)] [(0,1,(.const (.int .i64 172))),(1,1,(.const (.int .i64 3008)))],none⟩,⟨some 46,.build [(.int .i64 0),(.int .i64 0)] [(0,1,(.const (.int .i64 173))),(1,1,(.const (.int .i64 3009)))],none⟩,⟨some 47,.build [(.int .i64 0),(.int .i64 0)] [(0,1,(.const (.int .i64 174))),(1,1,(.const (.int .i64 3010)))],none⟩,⟨some 48,.build [(.int .i64 0),(.int .i64 0)] [(0,1,(.const (.int .i64 175))),(1,1,(.const (.int .i64 3031)))],none⟩,⟨some 49,.bslice 162 10 2 [(.int .i64 0),(.int .i64 0)] [(0,2,(t 39)),(2,2,(t 40)),(4,2,(t 41)),(6,2,(t 42)),(8,2,(t 43)),(10,2,(t 44)),(12,2,(t 45)),(14,2,(t 46)),(16,2,(t 47)),(18,2,(t 48))],none⟩,⟨some 50,.len false (t 49),none⟩,⟨some 51,m (c (.int .i64 0)),none⟩]) (.block 4 (.loop [1,49,50,51] k2a))) (.seq (.seq (.ops [⟨some 66,.call (.func 88) [],none⟩,⟨some 67,.len false (t 66),none⟩,⟨some 68,m (c (.int .i64 0)),none⟩]) (.block 6 (.loop [1,66,67,68] k2b))) (.seq (.ops [⟨some 120,m (t 1),none⟩,⟨some 0,m (t 120),none⟩]) .ret)))))))
def q9F:q0h:=⟨0,121,[.tmp 0],k5j⟩
theorem k3s:FOK Tryz.prog 62 q9F:=FOK.of [[1,10],[1,22,23,24],[1,49,50,51],[1,66,67,68]] Tryz.func62 (by kernel_rfl) (by kernel_rfl)
def k5k:q0f:=(.seq (.ops [⟨some 2,m (c (.int .i64 0)),none⟩,⟨some 3,m (c (.bool false)),none⟩]) (.seq (.block 0 (.seq (.ops [⟨some 5,m (t 0),none⟩,⟨some 6,.int .lss (t 5) (c (.int .u8 128)),none⟩,⟨some 4,m (t 6),none⟩]) (.cond (t 4) (.seq (.ops [⟨some 7,m (t 0),none⟩,⟨some 8,.conv .i64 (t 7),none⟩,⟨some 2,m (t 8),none⟩,⟨some 3,m (c (.bool true)),none⟩]) .ret) (.seq (.seq (.ops [⟨some 10,m (t 0),none⟩,⟨some 11,.int .geq (t 10) (c (.int .u8 161)),none⟩,⟨some 12,m (t 11),none⟩,⟨some 13,m (t 0),some (12,true)⟩,⟨some 14,.int .leq (t 13) (c (.int .u8 218)),some (12,true)⟩,⟨some 15,.pick (t 12) (t 14) (c (.bool false)),none⟩,⟨some 9,m (t 15),none⟩]) (.cond (t 9) .skip (.ops [⟨some 16,m (t 0),none⟩,⟨some 17,.int .geq (t 16) (c (.int .u8 223)),none⟩,⟨some 18,m (t 17),none⟩,⟨some 19,m (t 0),some (18,true)⟩,⟨some 20,.int .leq (t 19) (c (.int .u8 251)),some (18,true)⟩,⟨some 21,.pick (t 18) (t 20) (c (.bool false)),none⟩,⟨some 9,m (t 21),none⟩]))) (.cond (t 9) (.seq (.ops [⟨some 22,m (t 0),none⟩,⟨some 23,.conv .i64 (t 22),none⟩,⟨some 24,.int .add (c (.int .i64 3584)) (t 23),none⟩,⟨some 25,.int .sub (t 24) (c (.int .i64 160)),none⟩,⟨some 2,m (t 25),none⟩,⟨some 3,m (c (.bool true)),none⟩]) .ret) .skip))))) (.seq (.ops [⟨some 2,m (c (.int .i64 0)),none⟩,⟨some 3,m (c (.bool false)),none⟩]) .ret)))
def q9G:q0h:=⟨1,26,[.tmp 2,.tmp 3],k5k⟩
theorem k3t:FOK Tryz.prog 63 q9G:=FOK.of [] Tryz.func63 (by kernel_rfl) (by kernel_rfl)
def q7a:q0f:=(.seq (.ops [⟨some 50,.int .lss (t 49) (t 48),none⟩]) (.seq (.cond (t 50) .skip (.exit 2)) (.seq (.block 3 (.seq (.ops [⟨some 51,.iaddr (t 47) (t 49) 1,none⟩,⟨some 52,.load (t 51) none,none⟩,⟨some 11,m (t 52),none⟩]) (.seq (.ops [⟨some 54,m (t 6),none⟩,⟨some 55,m (t 9),none⟩,⟨some 56,m (t 11),none⟩,⟨some 57,.call (.func 90) [(t 54),(t 55),(t 56)],none⟩,⟨some 53,m (t 57),none⟩,⟨some 58,.ext (t 53) 0,none⟩,⟨some 59,.ext (t 53) 1,none⟩,⟨some 12,m (t 58),none⟩,⟨some 13,m (t 59),none⟩]) (.seq (.seq (.ops [⟨some 60,m (t 13),none⟩,⟨some 61,.not (t 60),none⟩]) (.cond (t 61) (.seq (.ops [⟨some 62,m (t 6),none⟩,⟨some 63,.nilChk (t 62),none⟩,⟨some 64,.faddr (t 63) 0,none⟩,⟨some 65,.load (t 64) none,none⟩,⟨some 66,.len false (t 65),none⟩,⟨some 12,m (t 66),none⟩]) (.seq (.draw [⟨some 67,m (t 6),none⟩,⟨some 68,m (t 6),none⟩,⟨some 69,.nilChk (t 68),none⟩,⟨some 70,.faddr (t 69) 0,none⟩,⟨some 71,.load (t 70) none,none⟩,⟨some 72,m (t 11),none⟩,⟨some 73,m (t 6),none⟩,⟨some 74,.nilChk (t 73),none⟩,⟨some 75,.faddr (t 74) 0,none⟩,⟨some 76,.load (t 75) none,none⟩,⟨some 77,m (t 9),none⟩,⟨some 78,.iaddr (t 76) (t 77) 4,none⟩,⟨some 79,.faddr (t 78) 1,none⟩,⟨some 80,.load (t 79) none,none⟩,⟨some 81,.build [(.int .i64 0),(.int .i64 0),(.int .i64 0),(.int .i64 0)] [(0,1,(t 72)),(2,1,(t 80)),(3,1,(.const (.int .i64 (-1))))],none⟩,⟨some 82,.bslice 174 1 4 [(.int .i64 0),(.int .i64 0),(.int .i64 0),(.int .i64 0)] [(0,4,(t 81))],none⟩,⟨some 83,.append (t 71) (t 82) 174 4 32,none⟩,⟨some 84,.nilChk (t 67),none⟩,⟨some 85,.faddr (t 84) 0,none⟩,⟨none,.store (t 85) (t 83) 1,none⟩]) (.ops [⟨some 86,m (t 6),none⟩,⟨some 87,.nilChk (t 86),none⟩,⟨some 88,.faddr (t 87) 0,none⟩,⟨some 89,.load (t 88) none,none⟩,⟨some 90,m (t 9),none⟩,⟨some 91,m (t 12),none⟩,⟨some 92,.iaddr (t 89) (t 90) 4,none⟩,⟨some 93,.faddr (t 92) 1,none⟩,⟨none,.store (t 93) (t 91) 1,none⟩]))) .skip)) (.ops [⟨some 94,m (t 12),none⟩,⟨some 9,m (t 94),none⟩]))))) (.ops [⟨some 95,.int .add (t 49) (c (.int .i64 1)),none⟩,⟨some 49,m (t 95),none⟩]))))
def q7b:q0f:=(.seq (.ops [⟨some 29,.int .lss (t 28) (t 27),none⟩]) (.seq (.cond (t 29) .skip (.exit 0)) (.seq (.block 1 (.seq (.ops [⟨some 30,m (t 28),none⟩,⟨some 31,.iaddr (t 26) (t 28) 2,none⟩,⟨some 32,.load (t 31) (some 2),none⟩,⟨some 8,.alloc [(.slice none 0 0),(.slice none 0 0)] 127,none⟩,⟨some 7,m (t 30),none⟩,⟨none,.store (t 8) (t 32) 2,none⟩]) (.seq (.ops [⟨some 9,m (c (.int .i64 0)),none⟩]) (.seq (.draw [⟨some 33,m (t 6),none⟩,⟨some 34,m (t 6),none⟩,⟨some 35,.nilChk (t 34),none⟩,⟨some 36,.faddr (t 35) 1,none⟩,⟨some 37,.load (t 36) none,none⟩,⟨some 38,.faddr (t 8) 1,none⟩,⟨some 39,.load (t 38) none,none⟩,⟨some 40,.append (c (.slice none 0 0)) (t 39) 3 1 8,none⟩,⟨some 41,.build [(.slice none 0 0),(.slice none 0 0)] [(1,1,(t 40))],none⟩,⟨some 42,.bslice 127 1 2 [(.slice none 0 0),(.slice none 0 0)] [(0,2,(t 41))],none⟩,⟨some 43,.append (t 37) (t 42) 127 2 48,none⟩,⟨some 44,.nilChk (t 33),none⟩,⟨some 45,.faddr (t 44) 1,none⟩,⟨none,.store (t 45) (t 43) 1,none⟩]) (.seq (.seq (.ops [⟨some 46,.faddr (t 8) 0,none⟩,⟨some 47,.load (t 46) none,none⟩,⟨some 48,.len false (t 47),none⟩,⟨some 49,m (c (.int .i64 0)),none⟩]) (.block 2 (.loop [6,7,9,26,27,28,47,48,49] q7a))) (.ops [⟨some 96,m (t 6),none⟩,⟨some 97,.nilChk (t 96),none⟩,⟨some 98,.faddr (t 97) 0,none⟩,⟨some 99,.load (t 98) none,none⟩,⟨some 100,m (t 9),none⟩,⟨some 101,m (t 7),none⟩,⟨some 102,.iaddr (t 99) (t 100) 4,none⟩,⟨some 103,.faddr (t 102) 3,none⟩,⟨none,.store (t 103) (t 101) 1,none⟩])))))) (.ops [⟨some 104,.int .add (t 28) (c (.int .i64 1)),none⟩,⟨some 28,m (t 104),none⟩]))))
def k6I:q0f:=(.seq (.ops [⟨some 2,m (c (.pointer none)),none⟩,⟨some 3,m (c (.int .i64 0)),none⟩]) (.seq (.seq (.ops [⟨some 15,m (t 0),none⟩,⟨some 16,.call (.func 89) [(t 15)],none⟩,⟨some 14,m (t 16),none⟩,⟨some 17,.ext (t 14) 0,none⟩,⟨some 18,.ext (t 14) 1,none⟩,⟨some 4,m (t 17),none⟩,⟨some 5,m (t 18),none⟩]) (.seq (.ops [⟨some 19,m (t 5),none⟩,⟨some 20,.int .neq (t 19) (c (.int .i64 0)),none⟩]) (.cond (t 20) (.seq (.ops [⟨some 21,m (t 5),none⟩,⟨some 2,m (c (.pointer none)),none⟩,⟨some 3,m (t 21),none⟩]) .ret) .skip))) (.seq (.ops [⟨some 22,.build [(.int .i64 0),(.int .i64 0),(.int .i64 0),(.int .i64 0)] [(3,1,(.const (.int .i64 (-1))))],none⟩,⟨some 23,.bslice 174 1 4 [(.int .i64 0),(.int .i64 0),(.int .i64 0),(.int .i64 0)] [(0,4,(t 22))],none⟩,⟨some 24,.build [(.slice none 0 0),(.slice none 0 0)] [(0,1,(t 23))],none⟩,⟨some 25,.box (t 24) 177,none⟩,⟨some 6,m (t 25),none⟩]) (.seq (.seq (.ops [⟨some 26,m (t 0),none⟩,⟨some 27,.len false (t 26),none⟩,⟨some 28,m (c (.int .i64 0)),none⟩]) (.block 0 (.loop [6,26,27,28] q7b))) (.seq (.ops [⟨some 105,m (t 6),none⟩,⟨some 2,m (t 105),none⟩,⟨some 3,m (c (.int .i64 0)),none⟩]) .ret)))))
def q9H:q0h:=⟨1,106,[.tmp 2,.tmp 3],k6I⟩
theorem z1J:FOK Tryz.prog 64 q9H:=FOK.of [[6,26,27,28],[0,1,2,3,4,5,6,7,8,9,10,11,12,13],[6,7,9,26,27,28,47,48,49],[0,1,2,3,4,5,6,7,8,9,10,11,12,13,14,15,16,17,18,19]] Tryz.func64 (by kernel_rfl) (by kernel_rfl)
def q3y:q0f:=(.seq (.seq (.ops [⟨some 16,m (t 5),none⟩,⟨some 17,.int .gtr (t 16) (c (.int .i64 0)),none⟩]) (.cond (t 17) .skip (.exit 2))) (.seq (.block 3 (.seq (.ops [⟨some 20,m (t 0),none⟩,⟨some 21,.faddr (t 4) 0,none⟩,⟨some 22,.load (t 21) none,none⟩,⟨some 23,m (t 5),none⟩,⟨some 24,.slice (t 22) none (some (t 23)) 1,none⟩,⟨some 25,.call (.func 91) [(t 20),(t 24)],none⟩,⟨some 26,.int .lss (t 25) (c (.int .i64 0)),none⟩,⟨some 27,m (t 26),none⟩,⟨some 28,m (t 5),some (27,true)⟩,⟨some 29,.int .gtr (t 28) (c (.int .i64 1)),some (27,true)⟩,⟨some 30,m (t 29),some (27,true)⟩,⟨some 31,m (t 0),some (30,false)⟩,⟨some 32,.faddr (t 4) 0,some (30,false)⟩,⟨some 33,.load (t 32) none,some (30,false)⟩,⟨some 34,.iaddr (t 33) (c (.int .i64 0)) 1,some (30,false)⟩,⟨some 35,.load (t 34) none,some (30,false)⟩,⟨some 36,.call (.func 92) [(t 31),(t 35)],some (30,false)⟩,⟨some 37,.pick (t 30) (c (.bool true)) (t 36),some (27,true)⟩,⟨some 38,.pick (t 27) (t 37) (c (.bool false)),none⟩]) (.cond (t 38) (.seq (.ops [⟨some 2,m (c (.bool false)),none⟩]) .ret) .skip))) (.ops [⟨some 18,m (t 5),none⟩,⟨some 19,.int .sub (t 18) (c (.int .i64 1)),none⟩,⟨some 5,m (t 19),none⟩])))
def q3z:q0f:=(.seq (.ops [⟨some 9,.int .lss (t 8) (t 7),none⟩]) (.seq (.cond (t 9) .skip (.exit 0)) (.seq (.block 1 (.seq (.ops [⟨some 10,.iaddr (t 6) (t 8) 2,none⟩,⟨some 11,.load (t 10) (some 2),none⟩,⟨some 4,.alloc [(.slice none 0 0),(.slice none 0 0)] 127,none⟩,⟨none,.store (t 4) (t 11) 2,none⟩]) (.seq (.ops [⟨some 12,.faddr (t 4) 0,none⟩,⟨some 13,.load (t 12) none,none⟩,⟨some 14,.len false (t 13),none⟩,⟨some 15,.int .sub (t 14) (c (.int .i64 1)),none⟩,⟨some 5,m (t 15),none⟩]) (.block 2 (.loop [0,4,5,6,7,8] q3y))))) (.ops [⟨some 39,.int .add (t 8) (c (.int .i64 1)),none⟩,⟨some 8,m (t 39),none⟩]))))
def q8M:q0f:=(.seq (.ops [⟨some 2,m (c (.bool false)),none⟩]) (.seq (.seq (.ops [⟨some 6,m (t 0),none⟩,⟨some 7,.len false (t 6),none⟩,⟨some 8,m (c (.int .i64 0)),none⟩]) (.block 0 (.loop [0,6,7,8] q3z))) (.seq (.ops [⟨some 2,m (c (.bool true)),none⟩]) .ret)))
def q4J:q0h:=⟨1,40,[.tmp 2],q8M⟩
theorem k2c:FOK Tryz.prog 65 q4J:=FOK.of [[0,6,7,8],[0,4,5,6,7,8]] Tryz.func65 (by kernel_rfl) (by kernel_rfl)
def q5t:q0f:=(.seq (.ops [⟨some 9,.int .lss (t 8) (t 7),none⟩]) (.seq (.cond (t 9) .skip (.exit 0)) (.seq (.block 1 (.seq (.ops [⟨some 10,.iaddr (t 6) (t 8) 2,none⟩,⟨some 11,.load (t 10) (some 2),none⟩,⟨some 5,.alloc [(.slice none 0 0),(.slice none 0 0)] 127,none⟩,⟨none,.store (t 5) (t 11) 2,none⟩]) (.seq (.ops [⟨some 12,m (t 3),none⟩,⟨some 13,.faddr (t 5) 1,none⟩,⟨some 14,.load (t 13) none,none⟩,⟨some 15,.call (.func 91) [(t 12),(t 14)],none⟩,⟨some 16,.int .lss (t 15) (c (.int .i64 0)),none⟩]) (.cond (t 16) (.draw [⟨some 17,m (t 3),none⟩,⟨some 18,.faddr (t 5) 1,none⟩,⟨some 19,.load (t 18) none,none⟩,⟨some 21,.faddr (t 5) 0,none⟩,⟨some 22,.load (t 21) none,none⟩,⟨some 20,.call (.func 93) [(t 19)],none⟩,⟨some 23,.call (.func 93) [(t 22)],none⟩,⟨some 24,.build [(.slice none 0 0),(.slice none 0 0)] [(0,1,(t 20)),(1,1,(t 23))],none⟩,⟨some 25,.bslice 127 1 2 [(.slice none 0 0),(.slice none 0 0)] [(0,2,(t 24))],none⟩,⟨some 26,.append (t 17) (t 25) 127 2 48,none⟩,⟨some 3,m (t 26),none⟩]) .skip)))) (.ops [⟨some 27,.int .add (t 8) (c (.int .i64 1)),none⟩,⟨some 8,m (t 27),none⟩]))))
def k2d:q0f:=(.seq (.ops [⟨some 2,m (c (.slice none 0 0)),none⟩]) (.seq (.ops [⟨some 3,m (c (.slice none 0 0)),none⟩]) (.seq (.seq (.ops [⟨some 6,m (t 0),none⟩,⟨some 7,.len false (t 6),none⟩,⟨some 8,m (c (.int .i64 0)),none⟩]) (.block 0 (.loop [3,6,7,8] q5t))) (.seq (.ops [⟨some 28,m (t 3),none⟩,⟨some 2,m (t 28),none⟩]) .ret))))
def q7c:q0h:=⟨1,29,[.tmp 2],k2d⟩
theorem k6J:FOK Tryz.prog 66 q7c:=FOK.of [[3,6,7,8],[0,1,2,4,5,3,6,7,8,9,10]] Tryz.func66 (by kernel_rfl) (by kernel_rfl)
def q3A:q0f:=(.seq (.ops [⟨some 9,.int .lss (t 8) (t 7),none⟩]) (.seq (.cond (t 9) .skip (.exit 0)) (.seq (.block 1 (.seq (.ops [⟨some 10,.iaddr (t 6) (t 8) 2,none⟩,⟨some 11,.load (t 10) (some 2),none⟩,⟨some 5,.alloc [(.slice none 0 0),(.slice none 0 0)] 127,none⟩,⟨none,.store (t 5) (t 11) 2,none⟩]) (.ops [⟨some 12,m (t 3),none⟩,⟨some 13,.faddr (t 5) 0,none⟩,⟨some 14,.load (t 13) none,none⟩,⟨some 15,.len false (t 14),none⟩,⟨some 16,.max2 (t 12) (t 15),none⟩,⟨some 3,m (t 16),none⟩]))) (.ops [⟨some 17,.int .add (t 8) (c (.int .i64 1)),none⟩,⟨some 8,m (t 17),none⟩]))))
def q8N:q0f:=(.seq (.ops [⟨some 2,m (c (.int .i64 0)),none⟩]) (.seq (.ops [⟨some 3,m (c (.int .i64 0)),none⟩]) (.seq (.seq (.ops [⟨some 6,m (t 0),none⟩,⟨some 7,.len false (t 6),none⟩,⟨some 8,m (c (.int .i64 0)),none⟩]) (.block 0 (.loop [3,6,7,8] q3A))) (.seq (.ops [⟨some 18,m (t 3),none⟩,⟨some 2,m (t 18),none⟩]) .ret))))
def q4K:q0h:=⟨1,19,[.tmp 2],q8N⟩
theorem k2e:FOK Tryz.prog 67 q4K:=FOK.of [[3,6,7,8]] Tryz.func67 (by kernel_rfl) (by kernel_rfl)
def q8Y : q0f := (.seq (.seq (.ops [⟨some 11,m (t 5),none⟩,⟨some 12,m (t 0),none⟩,⟨some 13,.len true (t 12),none⟩,⟨some 14,.int .lss (t 11) (t 13),none⟩]) (.cond (t 14) .skip (.exit 0))) (.seq (.block 1 (.seq (.ops [⟨some 17,m (t 0),none⟩,⟨some 18,m (t 5),none⟩,⟨some 19,.gen ⟨none,(.index 9 (t 17) (t 18)),5,"",#[],none⟩,none⟩,⟨some 6,m (t 19),none⟩]) (.seq (.seq (.ops [⟨some 20,m (t 6),none⟩,⟨some 21,.int .geq (t 20) (c (.int .u8 128)),none⟩]) (.cond (t 21) (.seq (.ops [⟨some 3,m (c (.bool false)),none⟩]) (.exit 0)) .skip)) (.ops [⟨some 22,m (t 4),none⟩,⟨some 23,m (t 22),none⟩,⟨some 24,m (t 6),some (23,false)⟩,⟨some 25,.int .leq (c (.int .u8 65)) (t 24),some (23,false)⟩,⟨some 26,m (t 25),some (23,false)⟩,⟨some 27,m (t 6),some (26,true)⟩,⟨some 28,.int .leq (t 27) (c (.int .u8 90)),some (26,true)⟩,⟨some 29,.pick (t 26) (t 28) (c (.bool false)),some (23,false)⟩,⟨some 30,.pick (t 23) (c (.bool true)) (t 29),none⟩,⟨some 4,m (t 30),none⟩])))) (.ops [⟨some 15,m (t 5),none⟩,⟨some 16,.int .add (t 15) (c (.int .i64 1)),none⟩,⟨some 5,m (t 16),none⟩])))
def q8Z : q0f := (.seq (.seq (.ops [⟨some 38,m (t 9),none⟩,⟨some 39,m (t 0),none⟩,⟨some 40,.len true (t 39),none⟩,⟨some 41,.int .lss (t 38) (t 40),none⟩]) (.cond (t 41) .skip (.exit 2))) (.seq (.block 3 (.seq (.ops [⟨some 44,m (t 0),none⟩,⟨some 45,m (t 9),none⟩,⟨some 46,.gen ⟨none,(.index 9 (t 44) (t 45)),5,"",#[],none⟩,none⟩,⟨some 10,m (t 46),none⟩]) (.seq (.ops [⟨some 47,m (t 10),none⟩,⟨some 48,.int .leq (c (.int .u8 65)) (t 47),none⟩,⟨some 49,m (t 48),none⟩,⟨some 50,m (t 10),some (49,true)⟩,⟨some 51,.int .leq (t 50) (c (.int .u8 90)),some (49,true)⟩,⟨some 52,.pick (t 49) (t 51) (c (.bool false)),none⟩]) (.cond (t 52) (.seq (.ops [⟨some 53,m (t 10),none⟩,⟨some 54,.int .add (t 53) (c (.int .u8 32)),none⟩,⟨some 10,m (t 54),none⟩]) (.seq (.seq (.ops [⟨some 55,m (t 8),none⟩,⟨some 56,m (t 9),none⟩,⟨some 57,.int .lss (t 55) (t 56),none⟩]) (.cond (t 57) (.ops [⟨some 58,m (t 0),none⟩,⟨some 59,m (t 8),none⟩,⟨some 60,m (t 9),none⟩,⟨some 61,.gen ⟨none,(.slice 9 (t 58) (some (t 59)) (some (t 60)) none),9,"",#[],none⟩,none⟩,⟨some 62,.call (.func 95) [(t 7),(t 61)],none⟩]) .skip)) (.seq (.ops [⟨some 63,m (t 10),none⟩,⟨some 64,.call (.func 96) [(t 7),(t 63)],none⟩]) (.ops [⟨some 65,m (t 9),none⟩,⟨some 66,.int .add (t 65) (c (.int .i64 1)),none⟩,⟨some 8,m (t 66),none⟩])))) .skip)))) (.ops [⟨some 42,m (t 9),none⟩,⟨some 43,.int .add (t 42) (c (.int .i64 1)),none⟩,⟨some 9,m (t 43),none⟩])))
def k0y : q0f := (.seq (.ops [⟨some 2,m (c (.string ⟨#[]⟩)),none⟩]) (.seq (.ops [⟨some 3,m (c (.bool true)),none⟩,⟨some 4,m (c (.bool false)),none⟩]) (.seq (.seq (.ops [⟨some 5,m (c (.int .i64 0)),none⟩]) (.block 0 (.loop [0,3,4,5] q8Y))) (.seq (.seq (.ops [⟨some 31,m (t 3),none⟩]) (.cond (t 31) (.seq (.seq (.ops [⟨some 32,m (t 4),none⟩,⟨some 33,.not (t 32),none⟩]) (.cond (t 33) (.seq (.ops [⟨some 34,m (t 0),none⟩,⟨some 2,m (t 34),none⟩]) .ret) .skip)) (.seq (.ops [⟨some 7,.alloc [(.pointer none),(.slice none 0 0)] 184,none⟩]) (.seq (.ops [⟨some 8,m (c (.int .i64 0)),none⟩]) (.seq (.ops [⟨some 35,m (t 0),none⟩,⟨some 36,.len true (t 35),none⟩,⟨some 37,.call (.func 94) [(t 7),(t 36)],none⟩]) (.seq (.seq (.ops [⟨some 9,m (c (.int .i64 0)),none⟩]) (.block 2 (.loop [0,7,8,9] q8Z))) (.seq (.seq (.ops [⟨some 67,m (t 8),none⟩,⟨some 68,m (t 0),none⟩,⟨some 69,.len true (t 68),none⟩,⟨some 70,.int .lss (t 67) (t 69),none⟩]) (.cond (t 70) (.ops [⟨some 71,m (t 0),none⟩,⟨some 72,m (t 8),none⟩,⟨some 73,.gen ⟨none,(.slice 9 (t 71) (some (t 72)) none none),9,"",#[],none⟩,none⟩,⟨some 74,.call (.func 95) [(t 7),(t 73)],none⟩]) .skip)) (.seq (.ops [⟨some 75,.call (.func 97) [(t 7)],none⟩,⟨some 2,m (t 75),none⟩]) .ret))))))) .skip)) (.seq (.ops [⟨some 76,m (t 0),none⟩,⟨some 77,.call (.func 98) [(.func 99),(t 76)],none⟩,⟨some 2,m (t 77),none⟩]) .ret)))))
def q6C:q0h:=⟨1,78,[.tmp 2],k0y⟩
theorem q9I:FOK Tryz.prog 68 q6C:=FOK.of [[0,3,4,5],[0,7,8,9]] Tryz.func68 (by kernel_rfl) (by kernel_rfl)
def q3Q:q0f:=(.seq (.ops [⟨some 4,m (c (.bool false)),none⟩]) (.seq (.ops [⟨some 5,m (t 0),none⟩,⟨some 6,m (t 1),none⟩,⟨some 7,.call (.func 100) [(t 5),(t 6)],none⟩,⟨some 8,.int .geq (t 7) (c (.int .i64 0)),none⟩,⟨some 4,m (t 8),none⟩]) .ret))
def q1Y:q0h:=⟨2,9,[.tmp 4],q3Q⟩
theorem q3G:FOK Tryz.prog 69 q1Y:=FOK.of [] Tryz.func69 (by kernel_rfl) (by kernel_rfl)
def k2f:q0f:=(.seq (.ops [⟨some 0,m (c (.pointer none)),none⟩]) (.seq (.ops [⟨some 4,.call (.func 101) [],none⟩,⟨some 5,.call (.func 40) [(t 4)],none⟩,⟨some 3,m (t 5),none⟩,⟨some 6,.ext (t 3) 0,none⟩,⟨some 7,.ext (t 3) 1,none⟩,⟨some 1,m (t 6),none⟩,⟨some 2,m (t 7),none⟩]) (.seq (.ops [⟨some 8,m (t 1),none⟩,⟨some 0,m (t 8),none⟩]) .ret)))
def q7d:q0h:=⟨0,9,[.tmp 0],k2f⟩
theorem k6K:FOK Tryz.prog 71 q7d:=FOK.of [] Tryz.func71 (by kernel_rfl) (by kernel_rfl)
def k4b:q0f:=(.seq (.ops [⟨some 2,m (c (.pointer none)),none⟩]) (.seq (.ops [⟨some 3,m (t 0),none⟩,⟨some 4,.build [(.pointer none),(.slice none 0 0),(.int .i64 0),(.int .i64 0)] [(0,1,(t 3))],none⟩,⟨some 5,.box (t 4) 197,none⟩,⟨some 2,m (t 5),none⟩]) .ret))
def q8n:q0h:=⟨1,6,[.tmp 2],k4b⟩
theorem k8A:FOK Tryz.prog 72 q8n:=FOK.of [] Tryz.func72 (by kernel_rfl) (by kernel_rfl)
def q1O:q0f:=(.seq (.ops [⟨some 18,.int .lss (t 17) (t 16),none⟩]) (.seq (.cond (t 18) .skip (.exit 0)) (.seq (.block 1 (.seq (.ops [⟨some 19,m (t 17),none⟩,⟨some 20,.iaddr (t 15) (t 17) 1,none⟩,⟨some 21,.load (t 20) none,none⟩,⟨some 10,m (t 19),none⟩,⟨some 11,m (t 21),none⟩]) (.seq (.ops [⟨some 23,m (t 0),none⟩,⟨some 24,m (t 9),none⟩,⟨some 25,m (t 11),none⟩,⟨some 26,.call (.func 90) [(t 23),(t 24),(t 25)],none⟩,⟨some 22,m (t 26),none⟩,⟨some 27,.ext (t 22) 0,none⟩,⟨some 28,.ext (t 22) 1,none⟩,⟨some 12,m (t 27),none⟩,⟨some 13,m (t 28),none⟩]) (.seq (.seq (.ops [⟨some 29,m (t 13),none⟩,⟨some 30,.not (t 29),none⟩]) (.cond (t 30) (.seq (.ops [⟨some 31,m (t 7),none⟩,⟨some 32,m (t 8),none⟩,⟨some 4,m (t 31),none⟩,⟨some 5,m (t 32),none⟩,⟨some 6,m (c (.bool false)),none⟩]) .ret) .skip)) (.seq (.ops [⟨some 33,m (t 12),none⟩,⟨some 9,m (t 33),none⟩]) (.seq (.ops [⟨some 34,m (t 0),none⟩,⟨some 35,m (t 9),none⟩,⟨some 36,.call (.func 102) [(t 34),(t 35)],none⟩,⟨some 14,m (t 36),none⟩]) (.seq (.ops [⟨some 37,m (t 14),none⟩,⟨some 38,.int .geq (t 37) (c (.int .i64 0)),none⟩]) (.cond (t 38) (.ops [⟨some 39,m (t 14),none⟩,⟨some 40,m (t 10),none⟩,⟨some 41,.int .add (t 40) (c (.int .i64 1)),none⟩,⟨some 7,m (t 39),none⟩,⟨some 8,m (t 41),none⟩]) .skip)))))))) (.ops [⟨some 42,.int .add (t 17) (c (.int .i64 1)),none⟩,⟨some 17,m (t 42),none⟩]))))
def q5d:q0f:=(.seq (.ops [⟨some 4,m (c (.int .i64 0)),none⟩,⟨some 5,m (c (.int .i64 0)),none⟩,⟨some 6,m (c (.bool false)),none⟩]) (.seq (.ops [⟨some 7,m (c (.int .i64 (-1))),none⟩,⟨some 8,m (c (.int .i64 0)),none⟩,⟨some 9,m (c (.int .i64 0)),none⟩]) (.seq (.seq (.ops [⟨some 15,m (t 1),none⟩,⟨some 16,.len false (t 15),none⟩,⟨some 17,m (c (.int .i64 0)),none⟩]) (.block 0 (.loop [0,7,8,9,15,16,17] q1O))) (.seq (.ops [⟨some 43,m (t 7),none⟩,⟨some 44,m (t 8),none⟩,⟨some 45,m (t 0),none⟩,⟨some 46,m (t 9),none⟩,⟨some 47,.call (.func 103) [(t 45),(t 46)],none⟩,⟨some 48,.not (t 47),none⟩,⟨some 4,m (t 43),none⟩,⟨some 5,m (t 44),none⟩,⟨some 6,m (t 48),none⟩]) .ret))))
def q2m:q0h:=⟨2,49,[.tmp 4,.tmp 5,.tmp 6],q5d⟩
theorem q7I:FOK Tryz.prog 73 q2m:=FOK.of [[0,7,8,9,15,16,17]] Tryz.func73 (by kernel_rfl) (by kernel_rfl)
def q7v:q0f:=(.seq (.ops [⟨some 4,m (c (.slice none 0 0)),none⟩]) (.seq (.seq (.ops [⟨some 5,m (t 1),none⟩,⟨some 6,.int .lss (t 5) (c (.int .i64 0)),none⟩,⟨some 7,m (t 6),none⟩,⟨some 8,m (t 1),some (7,false)⟩,⟨some 9,m (t 0),some (7,false)⟩,⟨some 10,.nilChk (t 9),some (7,false)⟩,⟨some 11,.faddr (t 10) 1,some (7,false)⟩,⟨some 12,.load (t 11) none,some (7,false)⟩,⟨some 13,.len false (t 12),some (7,false)⟩,⟨some 14,.int .geq (t 8) (t 13),some (7,false)⟩,⟨some 15,.pick (t 7) (c (.bool true)) (t 14),none⟩]) (.cond (t 15) (.seq (.ops [⟨some 4,m (c (.slice none 0 0)),none⟩]) .ret) .skip)) (.seq (.ops [⟨some 16,m (t 0),none⟩,⟨some 17,.nilChk (t 16),none⟩,⟨some 18,.faddr (t 17) 1,none⟩,⟨some 19,.load (t 18) none,none⟩,⟨some 20,m (t 1),none⟩,⟨some 21,.iaddr (t 19) (t 20) 2,none⟩,⟨some 22,.faddr (t 21) 1,none⟩,⟨some 23,.load (t 22) none,none⟩,⟨some 24,.append (c (.slice none 0 0)) (t 23) 3 1 8,none⟩,⟨some 4,m (t 24),none⟩]) .ret)))
def q3B:q0h:=⟨2,25,[.tmp 4],q7v⟩
theorem k0z:FOK Tryz.prog 74 q3B:=FOK.of [] Tryz.func74 (by kernel_rfl) (by kernel_rfl)
def q5e:q0f:=(.seq (.ops [⟨some 2,m (c (.pointer none)),none⟩]) (.seq (.ops [⟨some 3,m (t 0),none⟩,⟨some 4,.nilChk (t 3),none⟩,⟨some 5,.faddr (t 4) 3,none⟩,⟨some 6,.load (t 5) none,none⟩,⟨some 2,m (t 6),none⟩]) .ret))
def q2n:q0h:=⟨1,7,[.tmp 2],q5e⟩
theorem q7J:FOK Tryz.prog 75 q2n:=FOK.of [] Tryz.func75 (by kernel_rfl) (by kernel_rfl)
end
end Go.Proofs.YtleiinhaljdcoaaGreatDoor
