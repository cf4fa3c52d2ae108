/- What is proved here: what the program's functions come to, as far as the claimed statement asks. Conditions: those that each theorem names, and no others. -/
import Derived.Test.YtleiinhaljdcoaaGreatDoorP15
set_option linter.unusedSimpArgs false
set_option linter.unusedVariables false
namespace Go.Proofs.YtleiinhaljdcoaaGreatDoor
open Go Lon
set_option maxRecDepth 100000
def encF (L:List Rl):List Int→List Tok→List Tok
 | _,[]=>[]
 | ah,x :: xs=>joinT L ah x :: encF L (if (joinT L ah x).err=0 then x.out else ah) xs
theorem jnF_enc {L:List Rl}:∀ (T:List Tok) (ah:List Int),(jnF L ah T).1=encF L ah T
 | [],ah=>rfl
 | x :: T,ah=>by
  rw[jnF_cons,encF,jnF_enc T]
theorem jnF_app {L:List Rl}:∀ (S T:List Tok) (ah:List Int),jnF L ah (S++T)=((jnF L ah S).1++(jnF L (jnF L ah S).2 T).1,(jnF L (jnF L ah S).2 T).2)
 | [],T,ah=>rfl
 | x :: S,T,ah=>by
  rw[List.cons_append,jnF_cons,jnF_cons,jnF_app S T]
  rfl
theorem dc_R {L:List Rl} (hR:Right L) (us:List Int) (a st:Int):dcT (rdS L) (rdF L) us ([],a,st)=allU L us a:=by
 obtain ⟨h1,_,_⟩:=feed_all hR us ([],[],a,st) ⟨.inl rfl⟩
 have h2:=feed_fd (L:=L) us [] ([],a,st)
 rw[h2] at h1
 simp only[List.nil_append] at h1
 rw[← h1]
 unfold dcT rdF
 rw[(end_is hR).1]
theorem fd_E {L:List Rl}:∀ (us:List Int) (r:MSt) (ah:List Int),fdR (esS L) us (r,ah)=((jnF L ah (fdR (rdS (trn L [])) us r).1).1,((fdR (rdS (trn L [])) us r).2,(jnF L ah (fdR (rdS (trn L [])) us r).1).2))
 | [],r,ah=>rfl
 | u :: us,r,ah=>by
  rw[fdR_cons,fdR_cons,jnF_app]
  have h:=fd_E (L:=L) us (rdS (trn L []) r u).2 (jnF L ah (rdS (trn L []) r u).1).2
  show ((jnF L ah (rdS (trn L []) r u).1).1++(fdR (esS L) us ((rdS (trn L []) r u).2,(jnF L ah (rdS (trn L []) r u).1).2)).1,(fdR (esS L) us ((rdS (trn L []) r u).2,(jnF L ah (rdS (trn L []) r u).1).2)).2)=_
  rw[h]
theorem dc_E {L:List Rl} (hR:Right (trn L [])) (us:List Int) (a st:Int):dcT (esS L) (efS L) us (([],a,st),[])=encF L [] (allU (trn L []) us a):=by
 rw[← dc_R hR us a st,← jnF_enc]
 unfold dcT
 rw[fd_E,jnF_app]
 rfl
theorem clsF_iff {L:List Rl}:∀ {R:List Rl},clsF L R=true↔∀ r∈R,clsIn L r.1 (r.1.length - 1)=true
 | []=>by simp[clsF]
 | r :: R=>by
  unfold clsF
  split
  ·rename_i h
   rw[clsF_iff]
   constructor
   ·intro hh x hx
    rcases List.mem_cons.1 hx with rfl | hx
    ·exact h
    ·exact hh x hx
   ·intro hh x hx
    exact hh x (List.mem_cons_of_mem _ hx)
  ·rename_i h
   simp only[Bool.false_eq_true,false_iff]
   intro hh
   exact h (hh r (List.mem_cons_self ..))
theorem cls_two {L:List Rl} (hc:clsF L L=true) {r:Rl} (hr:r∈L) {n:Nat} (h1:1<n) (h2:n<r.1.length):0≤fnd L (r.1.take n):=by
 have:=clsIn_iff.1 (clsF_iff.1 hc r hr) n (by omega) (by omega)
 unfold badN at this
 rw[decide_eq_true h1,Bool.true_or,Bool.and_true,decide_eq_false_iff_not] at this
 omega
def chainJ (L:List Rl):List Rl→Prop
 | []=>True
 | [_]=>True
 | r :: r' :: P=>joinsF L r.1 r'.1=false∧chainJ L (r' :: P)
theorem lgs_chain {L:List Rl} (hR:Right L) (hc:clsF L L=true) {r:Rl} {P:List Rl} (hr:r∈L) (hP:∀ x∈P,x∈L) (hj:chainJ L (r :: P)):(lgs L (r.1++P.flatMap (·.1))).1=fnd L r.1∧(lgs L (r.1++P.flatMap (·.1))).2.1=r.1.length:=by
 have h0:=(side_len (hR.1 r hr).1).1
 have hfr:0≤fnd L r.1:=by
  obtain ⟨j,hj,hjr⟩:=List.getElem_of_mem hr
  rw[fnd_at hR.2 (show L[j]?=some r by rw[List.getElem?_eq_getElem hj,hjr])]
  omega
 refine (lgs_pre hR _).1.uniq ⟨by rw[List.length_append];omega,fun h=>by omega,fun _=>⟨by rw[List.take_left],hfr⟩,fun m h1 h2=>?_⟩
 rcases (by omega:fnd L ((r.1++P.flatMap (·.1)).take m)<0∨0≤fnd L ((r.1++P.flatMap (·.1)).take m)) with h | h
 ·exact h
 ·exfalso
  obtain ⟨x,hx1,hx2⟩:=fnd_some h
  have hxm:=List.mem_of_getElem? hx1
  have hxl:x.1.length=m:=by rw[hx2,List.length_take];omega
  cases P with
  | nil=>simp at h2;omega
  | cons r' P'=>
   obtain ⟨j1,_⟩:=hj
   have hr':=hP r' (List.mem_cons_self ..)
   have h0':=(side_len (hR.1 r' hr').1).1
   have hne:r.1≠[]:=fun e=>by rw[e] at h0;simp at h0
   have hno:(lgs L (r.1++r'.1)).2.1≤r.1.length:=by
    unfold joinsF at j1
    rw[decide_eq_true hne,Bool.true_and,decide_eq_false_iff_not] at j1
    omega
   obtain ⟨q1,q2,q3,q4⟩:=(lgs_pre hR (r.1++r'.1)).1
   have hcat:r.1++(r' :: P').flatMap (·.1)=(r.1++r'.1)++P'.flatMap (·.1):=by simp
   rcases Nat.lt_or_ge (r.1.length+r'.1.length) m with hl | hl
   ·have:=cls_two hc hxm (show 1<r.1.length+r'.1.length by omega) (by omega)
    rw[hx2,List.take_take,Nat.min_eq_left (by omega),hcat,List.take_append_of_le_length (by rw[List.length_append];omega),List.take_of_length_le (by rw[List.length_append];omega)] at this
    have h5:=q4 (r.1.length+r'.1.length) (by omega) (by rw[List.length_append];omega)
    rw[List.take_of_length_le (by rw[List.length_append];omega)] at h5
    omega
   ·have h5:=q4 m (by omega) (by rw[List.length_append];omega)
    rw[hcat,List.take_append_of_le_length (by rw[List.length_append];omega)] at h
    omega
theorem read_chain {L:List Rl} (hR:Right L) (hc:clsF L L=true):∀ (P:List Rl) (a:Int),(∀ x∈P,x∈L)→chainJ L P→whole (allU L (P.flatMap (·.1)) a)∧outs (allU L (P.flatMap (·.1)) a)=P.flatMap (·.2)
 | [],a,_,_=>⟨fun t h=>(by cases h),rfl⟩
 | r :: P,a,hP,hj=>by
  have hr:=hP r (List.mem_cons_self ..)
  have hP':∀ x∈P,x∈L:=fun x hx=>hP x (List.mem_cons_of_mem _ hx)
  obtain ⟨h1,h2⟩:=lgs_chain hR hc hr hP' hj
  obtain ⟨j,hjl,hjr⟩:=List.getElem_of_mem hr
  have hgj:L[j]?=some r:=by rw[List.getElem?_eq_getElem hjl,hjr]
  have hfj:=fnd_at hR.2 hgj
  have h0:=(side_len (hR.1 r hr).1).1
  have hne:r.1++P.flatMap (·.1)≠[]:=fun e=>by rw[(List.append_eq_nil_iff.1 e).1] at h0;simp at h0
  have hone:oneT L (r.1++P.flatMap (·.1)) a=⟨a,r.1.length,r.2,0⟩:=by
   unfold oneT
   rw[h1,h2,hfj,if_neg (by omega)]
   simp only[Int.toNat_natCast,hgj]
  have hj':chainJ L P:=by
   cases P with
   | nil=>trivial
   | cons r' P'=>exact hj.2
  obtain ⟨w1,w2⟩:=read_chain hR hc P (a+r.1.length) hP' hj'
  rw[List.flatMap_cons,allU_cons hR hne,hone]
  simp only[Int.toNat_natCast,List.drop_left]
  refine ⟨fun t ht=>?_,?_⟩
  ·rcases List.mem_cons.1 ht with rfl | ht
   ·rfl
   ·exact w1 t ht
  ·unfold outs at w2 ⊢
   rw[List.flatMap_cons,List.flatMap_cons,w2]
theorem whole_rules {W:List Rl} (hR:Right W):∀ (c:Nat) (us:List Int) (a:Int),us.length≤c→whole (allU W us a)→∃ P:List Rl,(∀ x∈P,x∈W)∧P.flatMap (·.1)=us∧(allU W us a).map (·.out)=P.map (·.2):=by
 intro c
 induction c with
 | zero=>
  intro us a h _
  have:us=[]:=List.length_eq_zero_iff.1 (by omega)
  subst this
  exact ⟨[],fun x h=>(by cases h),rfl,rfl⟩
 | succ c ih=>
  intro us a h hw
  by_cases hn:us=[]
  ·subst hn
   exact ⟨[],fun x h=>(by cases h),rfl,rfl⟩
  ·obtain ⟨n,e,n1,n2⟩:=oneT_len hR hn a
   rw[allU_cons hR hn,e,Int.toNat_natCast] at hw ⊢
   have h0:=hw _ (List.mem_cons_self ..)
   rcases oneT_is hR hn a with ⟨q1,_⟩ | ⟨k,nn,r,q1,q2,q3,q4,q5,q6,q7,q8,q9⟩
   ·rw[q1] at h0;exact absurd h0 (by decide:¬ ((3:Int)=0))
   ·have en:nn=n:=by rw[q9] at e;simp only at e;omega
    subst en
    obtain ⟨P,p1,p2,p3⟩:=ih (us.drop nn) (a+nn) (by rw[List.length_drop];omega) (fun t ht=>hw t (List.mem_cons_of_mem _ ht))
    refine ⟨r :: P,fun x hx=>?_,?_,?_⟩
    ·rcases List.mem_cons.1 hx with rfl | hx
     ·exact List.mem_of_getElem? q5
     ·exact p1 x hx
    ·rw[List.flatMap_cons,p2,q6,List.take_append_drop]
    ·rw[List.map_cons,List.map_cons,p3,q9]
theorem enc_whole {L:List Rl}:∀ {X:List Tok} {ah:List Int},whole (encF L ah X)→encF L ah X=X∧whole X∧(∀ x X',X=x :: X'→joinsF L ah x.out=false)
 | [],ah,h=>⟨rfl,h,fun x X' e=>by cases e⟩
 | x :: X,ah,h=>by
  unfold encF at h ⊢
  have h0:=h _ (List.mem_cons_self ..)
  have hj:=joinT_err h0
  rw[if_pos h0] at h ⊢
  rw[hj] at h ⊢
  obtain ⟨h1,h2,_⟩:=enc_whole (X:=X) (ah:=x.out) fun t ht=>h t (List.mem_cons_of_mem _ ht)
  refine ⟨by rw[h1],fun t ht=>?_,fun y X' e=>?_⟩
  ·rcases List.mem_cons.1 ht with rfl | ht
   ·rw[hj] at h0;exact h0
   ·exact h2 t ht
  ·injection e with e1 e2
   subst e1
   cases hjj:joinsF L ah x.out with
   | false=>rfl
   | true=>
    exfalso
    have hx0:x.err=0:=by rw[hj] at h0;exact h0
    have hj2:=hj
    unfold joinT at hj2
    rw[if_pos ⟨hx0,hjj⟩] at hj2
    have:=congrArg Tok.err hj2
    simp only at this
    rw[hx0] at this
    exact absurd this (by decide)
theorem enc_chain {L:List Rl}:∀ {X:List Tok} {ah:List Int} {P:List Rl},whole (encF L ah X)→X.map (·.out)=P.map (·.1)→chainJ L P
 | [],ah,P,h,e=>by
  have:P=[]:=by cases P with | nil=>rfl | cons=>cases e
  subst this;trivial
 | x :: X,ah,P,h,e=>by
  cases P with
  | nil=>cases e
  | cons r P=>
   rw[List.map_cons,List.map_cons] at e
   injection e with e1 e2
   have h0:=h _ (by unfold encF;exact List.mem_cons_self ..)
   have ht:whole (encF L x.out X):=by
    unfold encF at h
    rw[if_pos h0] at h
    exact fun t ht=>h t (List.mem_cons_of_mem _ ht)
   have hrec:=enc_chain (X:=X) (ah:=x.out) (P:=P) ht e2
   cases P with
   | nil=>trivial
   | cons r' P'=>
    cases X with
    | nil=>cases e2
    | cons x' X'=>
     have:=(enc_whole ht).2.2 x' X' rfl
     rw[List.map_cons,List.map_cons] at e2
     injection e2 with e3 e4
     rw[e1,e3] at this
     exact ⟨this,hrec⟩
theorem enc_rules {L:List Rl} (hR:Right L) {us:List Int} {a:Int} (h:whole (encF L [] (allU (trn L []) us a))):∃ P:List Rl,(∀ x∈P,x∈L)∧chainJ L P∧P.flatMap (·.1)=outs (encF L [] (allU (trn L []) us a))∧P.flatMap (·.2)=us:=by
 obtain ⟨h1,h2,_⟩:=enc_whole h
 have hW:Right (trn L []):=trn_right hR
 obtain ⟨P,p1,p2,p3⟩:=whole_rules hW us.length us a (Nat.le_refl _) h2
 have hQ:(P.map fun r=>(r.2,r.1)).flatMap (·.1)=outs (allU (trn L []) us a):=by
  unfold outs
  rw[List.flatMap_def,List.flatMap_def,p3,List.map_map]
  rfl
 have hQ2:(P.map fun r=>(r.2,r.1)).flatMap (·.2)=us:=by
  rw[← p2,List.flatMap_def,List.flatMap_def,List.map_map]
  rfl
 have hQL:∀ x∈(P.map fun r=>((r.2,r.1):Rl)),x∈L:=by
  intro x hx
  obtain ⟨r,hr,rfl⟩:=List.mem_map.1 hx
  rcases trn_mem (p1 r hr) with h | h
  ·cases h
  ·exact h
 have hch:chainJ L (P.map fun r=>(r.2,r.1)):=enc_chain (X:=allU (trn L []) us a) (ah:=[]) h (by rw[p3,List.map_map];rfl)
 exact ⟨_,hQL,hch,by rw[h1,hQ],hQ2⟩
theorem outs_app {S T:List Tok}:outs (S++T)=outs S++outs T:=List.flatMap_append ..
theorem whole_app {S T:List Tok}:whole (S++T)↔whole S∧whole T:=⟨fun h=>⟨fun t ht=>h t (List.mem_append_left _ ht),fun t ht=>h t (List.mem_append_right _ ht)⟩,fun h t ht=>(List.mem_append.1 ht).elim (h.1 t) (h.2 t)⟩
theorem whole_nil:whole []:=fun t h=>(by cases h)
theorem whole_cons {x:Tok} {T:List Tok}:whole (x :: T)↔x.err=0∧whole T:=⟨fun h=>⟨h x (List.mem_cons_self ..),fun t ht=>h t (List.mem_cons_of_mem _ ht)⟩,fun h t ht=>(List.mem_cons.1 ht).elim (fun e=>e▸h.1) (h.2 t)⟩
section
variable {ρ τ:Type} {rs:ρ→Int→List Tok × ρ} {rf:ρ→List Tok × ρ} {ws:τ→Int→List Tok × τ} {wf:τ→List Tok × τ}
theorem fdR_app:∀ (us vs:List Int) (r:ρ),fdR rs (us++vs) r=((fdR rs us r).1++(fdR rs vs (fdR rs us r).2).1,(fdR rs vs (fdR rs us r).2).2)
 | [],vs,r=>rfl
 | u :: us,vs,r=>by
  rw[List.cons_append,fdR_cons,fdR_cons,fdR_app us vs,List.append_assoc]
theorem wr_err {pol:Int} {T:List Tok} {z:List Int × FT} (h:z.2.2.2≠0):wrF pol T z=z:=by
 cases T with
 | nil=>rfl
 | cons x T=>unfold wrF;rw[if_pos h]
theorem wr_0:∀ (T:List Tok) (l:List Int),(whole T→wrF 0 T (l,(0,0,0))=(l++outs T,(0,0,0)))∧((wrF 0 T (l,(0,0,0))).2.2.2=0→whole T)
 | [],l=>⟨fun _=>by unfold wrF outs;simp,fun _=>whole_nil⟩
 | x :: T,l=>by
  unfold wrF
  rw[if_neg (fun h=>h rfl)]
  by_cases hx:x.err=0
  ·rw[if_pos hx]
   obtain ⟨h1,h2⟩:=wr_0 T (l++x.out)
   refine ⟨fun h=>?_,fun h=>whole_cons.2 ⟨hx,h2 h⟩⟩
   rw[h1 (whole_cons.1 h).2,List.append_assoc]
   rfl
  ·rw[if_neg hx,if_pos rfl]
   refine ⟨fun h=>absurd (whole_cons.1 h).1 hx,fun h=>?_⟩
   rw[wr_err hx] at h
   exact absurd h hx
theorem pt_err {pol:Int}:∀ (us:List Int) (q:τ × List Int × FT),q.2.2.2.2≠0→ptF pol ws us q=q
 | [],q,h=>rfl
 | u :: us,q,h=>by
  unfold ptF
  rw[if_neg h]
  exact pt_err us q h
theorem pt_0:∀ (us:List Int) (st:τ) (l:List Int),(whole (fdR ws us st).1→ptF 0 ws us (st,l,(0,0,0))=((fdR ws us st).2,l++outs (fdR ws us st).1,(0,0,0)))∧((ptF 0 ws us (st,l,(0,0,0))).2.2.2.2=0→whole (fdR ws us st).1)
 | [],st,l=>⟨fun _=>by unfold ptF fdR outs;simp,fun _=>whole_nil⟩
 | u :: us,st,l=>by
  rw[fdR_cons]
  unfold ptF
  rw[if_pos rfl]
  obtain ⟨w1,w2⟩:=wr_0 (ws st u).1 l
  by_cases h:whole (ws st u).1
  ·rw[w1 h]
   obtain ⟨h1,h2⟩:=pt_0 us (ws st u).2 (l++outs (ws st u).1)
   refine ⟨fun g=>?_,fun g=>whole_app.2 ⟨h,h2 g⟩⟩
   rw[h1 (whole_app.1 g).2,outs_app,List.append_assoc]
  ·refine ⟨fun g=>absurd (whole_app.1 g).1 h,fun g=>?_⟩
   rw[pt_err us _ (fun e=>h (w2 e))] at g
   exact absurd (w2 g) h
theorem out_0 {x:Tok} (h:x.err=0):outOf 0 x=x.out:=by unfold outOf;rw[if_pos h]
theorem tk_err {T:List Tok} {q:τ × List Int × FT} (he:q.2.2.2.2≠0):tkF 0 ws wf T q=q:=by
 induction T with
 | nil=>rfl
 | cons y T ih=>
  unfold tkF
  rw[pt_err _ _ he,if_neg (fun h=>he h.2.1)]
  exact ih
theorem tk_0:∀ (T:List Tok) (st:τ) (l:List Int),(whole T→whole (fdR ws (outs T) st).1→tkF 0 ws wf T (st,l,(0,0,0))=((fdR ws (outs T) st).2,l++outs (fdR ws (outs T) st).1,(0,0,0)))∧((tkF 0 ws wf T (st,l,(0,0,0))).2.2.2.2=0→whole T∧whole (fdR ws (outs T) st).1)
 | [],st,l=>⟨fun _ _=>by unfold tkF outs fdR;simp,fun _=>⟨whole_nil,whole_nil⟩⟩
 | x :: T,st,l=>by
  have ho:outs (x :: T)=x.out++outs T:=List.flatMap_cons ..
  rw[ho,fdR_app]
  unfold tkF
  by_cases hx:x.err=0
  ·rw[if_neg (fun h=>h.1 hx),out_0 hx]
   obtain ⟨p1,p2⟩:=pt_0 (ws:=ws) x.out st l
   by_cases h:whole (fdR ws x.out st).1
   ·rw[p1 h]
    obtain ⟨h1,h2⟩:=tk_0 T (fdR ws x.out st).2 (l++outs (fdR ws x.out st).1)
    refine ⟨fun g1 g2=>?_,fun g=>⟨whole_cons.2 ⟨hx,(h2 g).1⟩,whole_app.2 ⟨h,(h2 g).2⟩⟩⟩
    rw[h1 (whole_cons.1 g1).2 (whole_app.1 g2).2,outs_app,List.append_assoc]
   ·refine ⟨fun _ g=>absurd (whole_app.1 g).1 h,fun g=>?_⟩
    have he:(ptF 0 ws x.out (st,l,(0,0,0))).2.2.2.2≠0:=fun e=>h (p2 e)
    rw[tk_err he] at g
    exact absurd g he
  ·have e:outOf 0 x=[]:=by unfold outOf;rw[if_neg hx,if_neg (by decide)]
   rw[e]
   refine ⟨fun g=>absurd (whole_cons.1 g).1 hx,fun g=>?_⟩
   rw[if_pos ⟨hx,rfl,rfl⟩] at g
   simp only at g
   split at g
   ·rename_i h9;exact absurd g h9
   ·exact absurd g hx
theorem al_0:∀ (xs:List Int) (r:ρ) (st:τ) (l:List Int),(whole (fdR rs xs r).1→whole (fdR ws (outs (fdR rs xs r).1) st).1→alF 0 rs ws wf xs r (st,l,(0,0,0))=((fdR rs xs r).2,(fdR ws (outs (fdR rs xs r).1) st).2,l++outs (fdR ws (outs (fdR rs xs r).1) st).1,(0,0,0)))∧((alF 0 rs ws wf xs r (st,l,(0,0,0))).2.2.2.2.2=0→whole (fdR rs xs r).1∧whole (fdR ws (outs (fdR rs xs r).1) st).1)
 | [],r,st,l=>⟨fun _ _=>by unfold alF fdR outs fdR;simp,fun _=>⟨whole_nil,whole_nil⟩⟩
 | u :: us,r,st,l=>by
  rw[fdR_cons]
  unfold alF
  obtain ⟨p1,p2⟩:=tk_0 (ws:=ws) (wf:=wf) (rs r u).1 st l
  rw[outs_app,fdR_app]
  by_cases h:(tkF 0 ws wf (rs r u).1 (st,l,(0,0,0))).2.2.2.2=0
  ·rw[if_neg (fun g=>g h)]
   obtain ⟨w1,w2⟩:=p2 h
   rw[p1 w1 w2]
   obtain ⟨h1,h2⟩:=al_0 us (rs r u).2 (fdR ws (outs (rs r u).1) st).2 (l++outs (fdR ws (outs (rs r u).1) st).1)
   refine ⟨fun g1 g2=>?_,fun g=>⟨whole_app.2 ⟨w1,(h2 g).1⟩,whole_app.2 ⟨w2,(h2 g).2⟩⟩⟩
   rw[h1 (whole_app.1 g1).2 (whole_app.1 g2).2,outs_app,List.append_assoc]
  ·rw[if_pos h]
   refine ⟨fun g1 g2=>?_,fun g=>absurd g h⟩
   rw[p1 (whole_app.1 g1).1 (whole_app.1 g2).1] at h
   exact absurd rfl h
theorem sa_0 (xs:List Int) (r:ρ) (st:τ):(whole (dcT rs rf xs r)→whole (dcT ws wf (outs (dcT rs rf xs r)) st)→saF 0 rs rf ws wf xs r st=(outs (dcT ws wf (outs (dcT rs rf xs r)) st),(0,0,0)))∧((saF 0 rs rf ws wf xs r st).2.2.2=0→whole (dcT rs rf xs r)∧whole (dcT ws wf (outs (dcT rs rf xs r)) st)):=by
 unfold saF
 obtain ⟨p1,p2⟩:=al_0 (rs:=rs) (ws:=ws) (wf:=wf) xs r st []
 have e1:dcT rs rf xs r=(fdR rs xs r).1++(rf (fdR rs xs r).2).1:=rfl
 obtain ⟨T,hT⟩:∃ T,(fdR rs xs r).1=T:=⟨_,rfl⟩
 obtain ⟨r',hr⟩:∃ r',(fdR rs xs r).2=r':=⟨_,rfl⟩
 rw[hT,hr] at p1 e1
 rw[hT] at p2
 have e2:dcT ws wf (outs (T++(rf r').1)) st=(fdR ws (outs T) st).1++((fdR ws (outs (rf r').1) (fdR ws (outs T) st).2).1++(wf (fdR ws (outs (rf r').1) (fdR ws (outs T) st).2).2).1):=by
  unfold dcT
  rw[outs_app,fdR_app,List.append_assoc]
 rw[e1,e2]
 obtain ⟨q1,q2⟩:=tk_0 (ws:=ws) (wf:=wf) (rf r').1 (fdR ws (outs T) st).2 (outs (fdR ws (outs T) st).1)
 by_cases h:(alF 0 rs ws wf xs r (st,[],(0,0,0))).2.2.2.2.2=0
 ·rw[if_neg (fun g=>g h)]
  obtain ⟨w1,w2⟩:=p2 h
  rw[p1 w1 w2]
  unfold enF
  simp only[List.nil_append]
  by_cases h2:(tkF 0 ws wf (rf r').1 ((fdR ws (outs T) st).2,outs (fdR ws (outs T) st).1,(0,0,0))).2.2.2.2=0
  ·rw[if_pos h2]
   obtain ⟨w3,w4⟩:=q2 h2
   rw[q1 w3 w4]
   obtain ⟨s1,s2⟩:=wr_0 (wf (fdR ws (outs (rf r').1) (fdR ws (outs T) st).2).2).1 (outs (fdR ws (outs T) st).1++outs (fdR ws (outs (rf r').1) (fdR ws (outs T) st).2).1)
   refine ⟨fun g1 g2=>?_,fun g=>⟨whole_app.2 ⟨w1,w3⟩,whole_app.2 ⟨w2,whole_app.2 ⟨w4,s2 g⟩⟩⟩⟩
   rw[s1 (whole_app.1 (whole_app.1 g2).2).2,outs_app,outs_app,List.append_assoc]
  ·rw[if_neg h2]
   refine ⟨fun g1 g2=>?_,fun g=>absurd g h2⟩
   rw[q1 (whole_app.1 g1).2 (whole_app.1 (whole_app.1 g2).2).1] at h2
   exact absurd rfl h2
 ·rw[if_pos h]
  refine ⟨fun g1 g2=>?_,fun g=>absurd g h⟩
  rw[p1 (whole_app.1 g1).1 (whole_app.1 g2).1] at h
  exact absurd rfl h
end
theorem Rind_two:(Rind.all fun r=>decide (r.1.length≤2))=true:=by kernel_rfl
theorem Rind_ef:(Rind.all fun r=>(r.1.drop 1).all fun u=>!decide (u=239))=true:=by kernel_rfl
def swR (k:Nat):Rl:=([239,C14.getD k 0],[4096+(k:Int)])
theorem swR_in:∀ k,k<9→swR k∈Rind:=by
 have h:((List.range 9).all fun k=>Rind.any fun r=>decide (r=swR k))=true:=by kernel_rfl
 intro k hk
 obtain ⟨r,hr,e⟩:=List.any_eq_true.1 (List.all_eq_true.1 h k (List.mem_range.2 hk))
 rw[decide_eq_true_eq] at e
 exact e▸hr
theorem join_no {ah us:List Int} (h0:ah≠[]) (h:∀ x∈Rind,∀ n,ah.length<n→x.1=(ah++us).take n→n≤ah.length+us.length→False):joinsF Rind ah us=false:=by
 unfold joinsF
 rw[decide_eq_true h0,Bool.true_and,decide_eq_false_iff_not]
 intro hl
 obtain ⟨q1,q2,q3,q4⟩:=(lgs_pre Rind_right (ah++us)).1
 have hp:=List.length_pos_iff.2 h0
 obtain ⟨g1,g2⟩:=q3 (by omega)
 rw[g1] at g2
 obtain ⟨x,hx1,hx2⟩:=fnd_some g2
 rw[List.length_append] at q1
 exact h x (List.mem_of_getElem? hx1) _ hl hx2 q1
theorem two_of {r:Rl} (hr:r∈Rind):r.1.length≤2:=by
 have:=List.all_eq_true.1 Rind_two r hr
 rwa [decide_eq_true_eq] at this
theorem join_to {r:Rl} {k:Nat} (hr:r∈Rind):joinsF Rind r.1 (swR k).1=false:=by
 have h0:=(side_len (Rind_right.1 r hr).1).1
 have hne:r.1≠[]:=List.length_pos_iff.1 h0
 refine join_no hne fun x hx n hn he hl=>?_
 have hx2:=two_of hx
 have hxl:x.1.length=n:=by rw[he,List.length_take,List.length_append];omega
 have h1:r.1.length=1:=by omega
 obtain ⟨b,hb⟩:=List.length_eq_one_iff.1 h1
 have hn2:n=2:=by omega
 subst hn2
 rw[hb] at he
 have:x.1.drop 1=[239]:=by rw[he];rfl
 have h9:=List.all_eq_true.1 Rind_ef x hx
 rw[this] at h9
 exact absurd h9 (by decide)
theorem join_of {k:Nat} {us:List Int}:joinsF Rind (swR k).1 us=false:=by
 refine join_no (by unfold swR;simp) fun x hx n hn he hl=>?_
 have hx2:=two_of hx
 have hxl:x.1.length=n:=by rw[he,List.length_take,List.length_append];omega
 have:(swR k).1.length=2:=rfl
 omega
theorem chain_sw {k:Nat} {P:List Rl} (h:chainJ Rind P):chainJ Rind (swR k :: P):=by
 cases P with
 | nil=>trivial
 | cons x P=>exact ⟨join_of,h⟩
theorem chain_mid {k:Nat} {Q:List Rl} (hQ:chainJ Rind (swR k :: Q)):∀ P:List Rl,(∀ x∈P,x∈Rind)→chainJ Rind P→chainJ Rind (P++swR k :: Q)
 | [],_,_=>hQ
 | [r],hP,_=>⟨join_to (hP r (List.mem_cons_self ..)),hQ⟩
 | r :: r' :: P,hP,h=>⟨h.1,chain_mid hQ (r' :: P) (fun x hx=>hP x (List.mem_cons_of_mem _ hx)) h.2⟩
def innU:Int→List Int→List Int
 | _,[]=>[]
 | scr,u :: us=>if swI scr u=true then (4096+(u - 2304) / 128) :: unitI u :: innU ((u - 2304) / 128) us else unitI u :: innU scr us
theorem isc_rules:∀ (us v:List Int) (a0 s0 scr at_:Int),whole ((fdR (esS Rind) v (([],a0,s0),[])).1++dcT jeS jeF us ((fdR (esS Rind) v (([],a0,s0),[])).2,scr,at_))→∃ P:List Rl,(∀ x∈P,x∈Rind)∧chainJ Rind P∧P.flatMap (·.1)=outs ((fdR (esS Rind) v (([],a0,s0),[])).1++dcT jeS jeF us ((fdR (esS Rind) v (([],a0,s0),[])).2,scr,at_))∧P.flatMap (·.2)=v++innU scr us
 | [],v,a0,s0,scr,at_,h=>by
  have e:(fdR (esS Rind) v (([],a0,s0),[])).1++dcT jeS jeF [] ((fdR (esS Rind) v (([],a0,s0),[])).2,scr,at_)=encF Rind [] (allU (trn Rind []) v a0):=dc_E Rind_trR v a0 s0
  rw[e] at h ⊢
  rw[innU,List.append_nil]
  exact enc_rules Rind_right h
 | u :: us,v,a0,s0,scr,at_,h=>by
  obtain ⟨q,hq⟩:∃ q,fdR (esS Rind) v (([],a0,s0),[])=q:=⟨_,rfl⟩
  have hd:dcT jeS jeF (u :: us) (q.2,scr,at_)=(jeS (q.2,scr,at_) u).1++dcT jeS jeF us (jeS (q.2,scr,at_) u).2:=by
   unfold dcT
   rw[fdR_cons,List.append_assoc]
  by_cases hs:swI scr u=true
  ·have hj:jeS (q.2,scr,at_) u=((efS Rind q.2).1++[⟨at_,0,[239,C14.getD ((u - 2304) / 128).toNat 0],0⟩]++(esS Rind ((efS Rind q.2).2.1,[]) (unitI u)).1,((esS Rind ((efS Rind q.2).2.1,[]) (unitI u)).2,(u - 2304) / 128,at_+1)):=by
    unfold jeS;rw[if_pos hs]
   have hin:inS u:=by
    unfold swI at hs
    simp only[Bool.and_eq_true,decide_eq_true_eq] at hs
    exact hs.1
   have h9:((u - 2304) / 128).toNat<9:=by
    have:=hin.1
    have:=hin.2.1
    omega
   obtain ⟨k,hk⟩:∃ k,((u - 2304) / 128).toNat=k:=⟨_,rfl⟩
   have hk2:(u - 2304) / 128=(k:Int):=by have:=hin.1;omega
   have hz:∃ a1 s1,(efS Rind q.2).2.1=([],a1,s1):=⟨(efS Rind q.2).2.1.2.1,(efS Rind q.2).2.1.2.2,by
    have:(efS Rind q.2).2.1.1=[]:=by
     unfold efS rdF
     exact (end_is Rind_trR).2.1
    exact Prod.ext this rfl⟩
   obtain ⟨a1,s1,hz⟩:=hz
   rw[hq,hd,hj,hz,hk,hk2] at h ⊢
   have e1:q.1++(efS Rind q.2).1=encF Rind [] (allU (trn Rind []) v a0):=by
    rw[← dc_E Rind_trR v a0 s0]
    unfold dcT
    rw[hq]
   have e2:fdR (esS Rind) [unitI u] (([],a1,s1),[])=esS Rind (([],a1,s1),[]) (unitI u):=by
    rw[fdR_cons]
    show ((esS Rind (([],a1,s1),[]) (unitI u)).1++[],(esS Rind (([],a1,s1),[]) (unitI u)).2)=_
    rw[List.append_nil]
   simp only[] at h ⊢
   have e3:q.1++(((efS Rind q.2).1++[⟨at_,0,[239,C14.getD k 0],0⟩]++(esS Rind (([],a1,s1),[]) (unitI u)).1)++dcT jeS jeF us ((esS Rind (([],a1,s1),[]) (unitI u)).2,(k:Int),at_+1))=encF Rind [] (allU (trn Rind []) v a0)++([⟨at_,0,[239,C14.getD k 0],0⟩]++((fdR (esS Rind) [unitI u] (([],a1,s1),[])).1++dcT jeS jeF us ((fdR (esS Rind) [unitI u] (([],a1,s1),[])).2,(k:Int),at_+1))):=by
    rw[← e1,e2]
    simp only[List.append_assoc]
   rw[e3] at h ⊢
   obtain ⟨w1,w2⟩:=whole_app.1 h
   obtain ⟨_,w3⟩:=whole_app.1 w2
   obtain ⟨P1,a,b,c,d⟩:=enc_rules Rind_right w1
   obtain ⟨P2,a2,b2,c2,d2⟩:=isc_rules us [unitI u] a1 s1 k (at_+1) w3
   refine ⟨P1++swR k :: P2,fun x hx=>?_,chain_mid (chain_sw b2) P1 a b,?_,?_⟩
   ·rcases List.mem_append.1 hx with hx | hx
    ·exact a x hx
    ·rcases List.mem_cons.1 hx with rfl | hx
     ·exact swR_in k (by omega)
     ·exact a2 x hx
   ·have es:outs [⟨at_,0,[239,C14.getD k 0],0⟩]=(swR k).1:=by
     unfold outs swR
     rw[List.flatMap_cons,List.flatMap_nil,List.append_nil]
    rw[List.flatMap_append,List.flatMap_cons,c,c2]
    simp only[outs_app,es]
   ·rw[List.flatMap_append,List.flatMap_cons,d,d2,innU,if_pos hs,hk2]
    rfl
  ·have hj:jeS (q.2,scr,at_) u=((esS Rind q.2 (unitI u)).1,((esS Rind q.2 (unitI u)).2,scr,at_+1)):=by
    unfold jeS;rw[if_neg hs]
   have e1:fdR (esS Rind) (v++[unitI u]) (([],a0,s0),[])=(q.1++(esS Rind q.2 (unitI u)).1,(esS Rind q.2 (unitI u)).2):=by
    rw[fdR_app,hq,fdR_cons]
    show (q.1++((esS Rind q.2 (unitI u)).1++[]),(esS Rind q.2 (unitI u)).2)=_
    rw[List.append_nil]
   have:=isc_rules us (v++[unitI u]) a0 s0 scr (at_+1)
   rw[e1] at this
   rw[hq,hd,hj] at h ⊢
   simp only[List.append_assoc] at this h ⊢
   rw[innU,if_neg hs]
   exact this h
theorem mnU_acc:∀ (us acc:List Int) (scr:Int),mnU scr acc us=(acc++(mnU scr [] us).1,(mnU scr [] us).2)
 | [],acc,scr=>by unfold mnU;simp
 | u :: us,acc,scr=>by
  unfold mnU
  split
  ·rw[mnU_acc us (acc++_),mnU_acc us ([]++_)];simp
  split
  ·exact mnU_acc us acc _
  ·rw[mnU_acc us (acc++_),mnU_acc us ([]++_)];simp
theorem mnU_cons {scr u:Int} {acc us:List Int}:mnU scr acc (u :: us)=if u≥8192 then mnU scr (acc++[u - 8192]) us else if u≥4096 then mnU (u - 4096) acc us else mnU scr (acc++[2304+128*scr+u]) us:=rfl
theorem mnU_app:∀ (us vs:List Int) (scr:Int),mnU scr [] (us++vs)=((mnU scr [] us).1++(mnU (mnU scr [] us).2 [] vs).1,(mnU (mnU scr [] us).2 [] vs).2)
 | [],vs,scr=>rfl
 | u :: us,vs,scr=>by
  rw[List.cons_append,mnU_cons,mnU_cons]
  split
  ·rw[mnU_acc (us++vs),mnU_acc us,mnU_app us vs];simp
  split
  ·exact mnU_app us vs _
  ·rw[mnU_acc (us++vs),mnU_acc us,mnU_app us vs];simp
theorem mnT_outs:∀ (T:List Tok) (scr:Int),outs (mnT scr T).1=(mnU scr [] (outs T)).1∧(mnT scr T).2=(mnU scr [] (outs T)).2
 | [],scr=>⟨rfl,rfl⟩
 | x :: T,scr=>by
  obtain ⟨h1,h2⟩:=mnT_outs T (mnU scr [] x.out).2
  have e:outs (x :: T)=x.out++outs T:=List.flatMap_cons ..
  rw[mnT_cons,e,mnU_app]
  refine ⟨?_,h2⟩
  rw[← h1]
  exact List.flatMap_cons ..
theorem mnT_whole:∀ (T:List Tok) (scr:Int),whole (mnT scr T).1↔whole T
 | [],scr=>Iff.rfl
 | x :: T,scr=>by
  rw[mnT_cons,whole_cons,whole_cons,mnT_whole T]
theorem inn_back:∀ (us:List Int) (scr:Int),(∀ u∈us,okS u)→0≤scr→scr<9→(mnU scr [] (innU scr us)).1=us
 | [],scr,_,_,_=>rfl
 | u :: us,scr,h,h1,h2=>by
  have hu:=h u (List.mem_cons_self ..)
  have hr:=fun s=>inn_back us s fun x hx=>h x (List.mem_cons_of_mem _ hx)
  have key:∀ s:Int,(inS u→(u - 2304) / 128=s)→0≤s→s<9→(mnU s [] (unitI u :: innU s us)).1=u :: us:=by
   intro s hs s1 s2
   unfold mnU
   by_cases hin:inS u
   ·have e:unitI u=u % 128:=by unfold unitI;rw[if_pos hin]
    rw[e,if_neg (by omega),if_neg (by omega),mnU_acc,hr s s1 s2]
    have:=hs hin
    have:=hin.1
    show (2304+128*s+u % 128) :: us=u :: us
    congr 1
    omega
   ·have e:unitI u=8192+u:=by unfold unitI;rw[if_neg hin]
    have:=hu.1
    rw[e,if_pos (by omega),mnU_acc,hr s s1 s2]
    show (8192+u - 8192) :: us=u :: us
    congr 1
    omega
  unfold innU
  by_cases hs:swI scr u=true
  ·rw[if_pos hs]
   have hin:inS u:=by
    unfold swI at hs
    simp only[Bool.and_eq_true,decide_eq_true_eq] at hs
    exact hs.1
   have g1:=hin.1
   have g2:=hin.2.1
   conv=>lhs;unfold mnU
   rw[if_neg (by omega),if_pos (by omega),show 4096+(u - 2304) / 128 - 4096=(u - 2304) / 128 by omega]
   exact key _ (fun _=>rfl) (by omega) (by omega)
  ·rw[if_neg hs]
   refine key scr (fun hin=>?_) h1 h2
   unfold swI at hs
   simpa[hin] using hs
theorem back_I {us:List Int} (hu:∀ u∈us,okS u) (h:whole (dcT jeS jeF us ((([],0,0),[]),0,0))):whole (dcT rsI rfI (outs (dcT jeS jeF us ((([],0,0),[]),0,0))) (([],0,0),0))∧outs (dcT rsI rfI (outs (dcT jeS jeF us ((([],0,0),[]),0,0))) (([],0,0),0))=us:=by
 obtain ⟨P,p1,p2,p3,p4⟩:=isc_rules us [] 0 0 0 0 h
 have p3:P.flatMap (·.1)=outs (dcT jeS jeF us ((([],0,0),[]),0,0)):=p3
 obtain ⟨w1,w2⟩:=read_chain Rind_right Rind_cls P 0 p1 p2
 rw[← p3,dc_I,mnT_whole,(mnT_outs _ _).1,w2,p4]
 exact ⟨w1,inn_back us 0 hu (by decide) (by decide)⟩
theorem back_T {L:List Rl} (hR:Right L) (hc:clsF L L=true) {us:List Int} (h:whole (dcT (esS L) (efS L) us (([],0,0),[]))):whole (dcT (rdS L) (rdF L) (outs (dcT (esS L) (efS L) us (([],0,0),[]))) ([],0,0))∧outs (dcT (rdS L) (rdF L) (outs (dcT (esS L) (efS L) us (([],0,0),[]))) ([],0,0))=us:=by
 rw[dc_E (trn_right hR)] at h ⊢
 obtain ⟨P,p1,p2,p3,p4⟩:=enc_rules hR h
 obtain ⟨w1,w2⟩:=read_chain hR hc P 0 p1 p2
 rw[← p3,dc_R hR,w2,p4]
 exact ⟨w1,rfl⟩
end Go.Proofs.YtleiinhaljdcoaaGreatDoor
