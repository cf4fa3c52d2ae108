/- What is proved here: what the program's functions come to, as far as the claimed statement asks. Conditions: those that each theorem names, and no others. -/
import Derived.Test.YtleiinhaljdcoaaGreatDoorP13
set_option linter.unusedSimpArgs false
set_option linter.unusedVariables false
namespace Go.Proofs.YtleiinhaljdcoaaGreatDoor
open Go Lon
set_option maxRecDepth 100000
theorem Cut.sh {H H0:q0a} {v:Value} {el:TypeId} {sz:Nat} (h:cutB H0 v el=true) (hs:(Tryz.prog.info? el).map (·.size)=some sz):Cut Tryz.prog (q9o H H0) (shV H.n v) sz:=by
 unfold cutB at h
 split at h
 ·rename_i i o n c
  split at h
  ·rename_i b hb
   refine ⟨shB H.n b,k2V hb,?_⟩
   show (Tryz.prog.info? b.elem).map (·.size)=some sz
   rw[Nat.eq_of_beq_eq_true h];exact hs
  ·cases h
 ·cases h
theorem k4I {r:Option (Value×q0a)} {R:List Rl} (h:chkR r R=true) (H:q0a):∃v H',z1S r H=some (v,H')∧q8g H R v H':=by
 unfold chkR at h
 split at h
 case h_2=>cases h
 rename_i v H0
 simp only[Bool.and_eq_true] at h
 obtain ⟨⟨⟨h1,h2⟩,h3⟩,h4⟩:=h
 refine ⟨_,_,by unfold z1S;simp only;rw[if_pos h1],q8e H H0,(k2P h2).sh,Cut.sh h3 (by kernel_rfl),?_⟩
 unfold j1B at h4
 rw[k0h] at h4
 split at h4
 case h_2=>cases h4
 rename_i cs hcs
 obtain ⟨_,cs',hs,_⟩:=k2P h2
 obtain rfl:cs'=cs:=Option.some.inj (hs.2.symm.trans hcs)
 refine ⟨_,_,Sl.sh hs,fun x hx=>?_⟩
 obtain ⟨y,hy,rfl⟩:=List.mem_map.1 hx
 exact Cut.sh (List.all_eq_true.1 h4 y hy) (by kernel_rfl)
theorem k0q {k:Nat} {R:List Rl} {H:q0a} (h2:(nm k).data.toList≠(nm 2).data.toList) (h:chkR (runR (nm k)) R=true):q0p (cw Tryz.prog (tabF tab) om1 39 [.string (nm k)] H) (q8g H R):=by
 obtain ⟨v,H',h1,r1⟩:=k4I h H
 refine ⟨v,H',q9v ?_,r1⟩
 unfold om1
 simp only
 rw[if_neg h2]
 exact h1
theorem z6v {H:q0a}:q0p (cw Tryz.prog (tabF tab) om1 39 [.string (nm 1)] H) (q8g H ascR):=k0q (by decide) j2w
theorem z6w {H:q0a}:q0p (cw Tryz.prog (tabF tab) om1 39 [.string (nm 3)] H) (q8g H k7H):=k0q (by decide) j2x
theorem z6x {H:q0a}:q0p (cw Tryz.prog (tabF tab) om1 39 [.string (nm 4)] H) (q8g H Rvni):=k0q (by decide) j2B
theorem z6y {H:q0a}:q0p (cw Tryz.prog (tabF tab) om1 39 [.string (nm 5)] H) (q8g H Rtis):=k0q (by decide) j2y
theorem z6z {H:q0a}:q0p (cw Tryz.prog (tabF tab) om1 39 [.string (nm 6)] H) (q8g H Rtam):=k0q (by decide) j2z
theorem z6A {H:q0a}:q0p (cw Tryz.prog (tabF tab) om1 101 [] H) (q8g H Rind):=by
 obtain ⟨v,H',h1,r1⟩:=k4I j2A H
 exact ⟨v,H',q9v (by unfold om1;exact h1),r1⟩
def key:List Int→Nat
 | []=>0
 | u::l=>u.toNat+1+2000000*key l
def z4B (k:Nat):List Nat→Bool
 | []=>true
 | a::l=>cond (Nat.beq a k) false (z4B k l)
def j0j:List Nat→Bool
 | []=>true
 | a::l=>cond (z4B a l) (j0j l) false
theorem k4J {k:Nat}:∀{l:List Nat},z4B k l=true→k∉l
 | [],_,h=>by cases h
 | a::l,h,hm=>by
  unfold z4B at h
  cases hb:Nat.beq a k with
  | true=>rw[hb] at h;cases h
  | false=>
   rw[hb] at h
   rcases List.mem_cons.1 hm with e|hm
   ·subst e;rw[Nat.beq_refl] at hb;cases hb
   ·exact k4J h hm
theorem q4D:∀{l:List Nat},j0j l=true→l.Nodup
 | [],_=>List.nodup_nil
 | a::l,h=>by
  unfold j0j at h
  cases hb:z4B a l with
  | true=>rw[hb] at h;exact List.nodup_cons.2 ⟨k4J hb,q4D h⟩
  | false=>rw[hb] at h;cases h
theorem q8x {α:Type} {f:α→Nat} {l:List α} (h:(l.map f).Nodup):l.Nodup:=List.Pairwise.of_map f (fun a b hne e=>hne (congrArg f e)) h
theorem q6N {L:List Rl} (hs:L.all (fun r=>q6J r.1&&q6J r.2)=true) (hd:(L.map (·.1)).Nodup):q1a L:=by
 refine ⟨fun r hr=>by simpa using List.all_eq_true.1 hs r hr,fun k r hr=>?_⟩
 rw[z3Z]
 intro x hx e
 obtain ⟨i,hi,rfl⟩:=List.getElem_of_mem hx
 obtain ⟨hk,rfl⟩:=List.getElem?_eq_some_iff.1 hr
 rw[List.length_take] at hi
 rw[List.getElem_take] at e
 have:=(List.pairwise_iff_getElem.1 hd) i k (by rw[List.length_map];omega) (by rw[List.length_map];exact hk) (by omega)
 rw[List.getElem_map,List.getElem_map] at this
 exact this e
theorem k4K:q1a ascR:=q6N (by kernel_rfl) (q8x (f:=key) (q4D (by kernel_rfl)))
theorem z6B:Nat.ble ascR.length 512=true:=by kernel_rfl
theorem k3g:q1a k7H:=q6N (by kernel_rfl) (q8x (f:=key) (q4D (by kernel_rfl)))
theorem z4C:Nat.ble k7H.length 512=true:=by kernel_rfl
theorem k4L:q1a Rvni:=q6N (by kernel_rfl) (q8x (f:=key) (q4D (by kernel_rfl)))
theorem z6C:Nat.ble Rvni.length 512=true:=by kernel_rfl
theorem k4M:q1a Rtis:=q6N (by kernel_rfl) (q8x (f:=key) (q4D (by kernel_rfl)))
theorem z6D:Nat.ble Rtis.length 512=true:=by kernel_rfl
theorem k4N:q1a Rtam:=q6N (by kernel_rfl) (q8x (f:=key) (q4D (by kernel_rfl)))
theorem z6E:Nat.ble Rtam.length 512=true:=by kernel_rfl
theorem q1h:q1a Rind:=q6N (by kernel_rfl) (q8x (f:=key) (q4D (by kernel_rfl)))
theorem z6F:Nat.ble Rind.length 512=true:=by kernel_rfl
theorem z6G:clsF ascR ascR=true:=q8u fun r hr=>by simpa using List.all_eq_true.1 (show (ascR.all fun r=>decide (r.1.length=1))=true by kernel_rfl) r hr
theorem z4D:clsF k7H k7H=true:=q8u fun r hr=>by simpa using List.all_eq_true.1 (show (k7H.all fun r=>decide (r.1.length=1))=true by kernel_rfl) r hr
theorem z6H:clsF Rtis Rtis=true:=q8u fun r hr=>by simpa using List.all_eq_true.1 (show (Rtis.all fun r=>decide (r.1.length=1))=true by kernel_rfl) r hr
theorem z6I:clsF Rvni Rvni=true:=by kernel_rfl
theorem z6J:clsF Rtam Rtam=true:=by kernel_rfl
theorem z6K:clsF Rind Rind=true:=by kernel_rfl
theorem z4E {s p:Int} (hs:0≤s∧s<4294967296) (hp:0≤p∧p<4294967296) (H:q0a):cw Tryz.prog (tabF tab) om1 169 [.int .i64 s,.int .i64 p] H=some (.int .i64 (2304+128*s+p),H):=by
 rw[q0g (F:=q4N) rfl rfl rfl]
 unfold q4N q8S
 have w1:IntKind.i64.wrap (128*s)=128*s:=q0k (by omega) (by omega)
 have w2:IntKind.i64.wrap (2304+128*s)=2304+128*s:=q0k (by omega) (by omega)
 have w3:IntKind.i64.wrap (2304+128*s+p)=2304+128*s+p:=q0k (by omega) (by omega)
 simp only[WA,Nat.reduceEqDiff,reduceCtorEq,w1,w2,w3]
def mnU:Int→List Int→List Int→List Int×Int
 | scr,acc,[]=>(acc,scr)
 | scr,acc,u::us=>if u≥8192 then mnU scr (acc++[u-8192]) us else if u≥4096 then mnU (u-4096) acc us else mnU scr (acc++[2304+128*scr+u]) us
def mnT:Int→List Tok→List Tok×Int
 | scr,[]=>([],scr)
 | scr,x::T=>(⟨x.at_,x.len,(mnU scr [] x.out).1,x.err⟩::(mnT (mnU scr [] x.out).2 T).1,(mnT (mnU scr [] x.out).2 T).2)
theorem j0k {H:q0a} {i ver:Nat} {el:TypeId} {a b x:Value} (h1:one x=true):q0u (some ⟨[a,b],el,.tip,ver,[]⟩) i 1 x 1 H=some (.tuple ⟨[]⟩,H.upd i ⟨[a,x],el,.tip,ver+1,[]⟩):=z4y h1
def okN (m:List Int):Prop:=∀u∈m,0≤u∧u<100000
theorem OwnI.more {H:q0a} {v:Value} {l:List Int} {u:Int} (ho:OwnI H v l) (hl:l.length<1000000):∃H1 v' H2,q0D 3 1 1 [.int .i64 0] [(0,1,.int .i64 u)] H=some (.slice (some ⟨H.n,0,none⟩) 1 2,H1)∧q0m H1 v (.slice (some ⟨H.n,0,none⟩) 1 2) 3 1 8=some (v',H2)∧OwnI H2 v' (l++[u])∧From H.n v'∧H.n≤H2.n∧(∀j,j<H.n→q0i v j→H2.get j=H.get j)∧q0B H H2:=by
 obtain ⟨H1,v1,x1,i1,_⟩:=k3d (H:=H) (a:=u)
 obtain ⟨v2,H2,q1,q2,q3,q4,q5,q6⟩:=Own.append2 (bytes:=8) (Own.ext x1 ho) i1 (by simp) rfl (by simp;omega)
 have x1n:=x1.1
 refine ⟨H1,v2,H2,v1,q1,?_,q3.mono x1n,by omega,fun j hj hn=>by rw[q6 j (by omega) hn,x1.2 j hj],(Ext.ver x1).trans (q1l q1)⟩
 have hints:ints l++ints [u]=ints (l++[u]):=by simp[ints]
 unfold OwnI
 rw[List.length_append,←hints]
 exact q2
structure MN (d:Nat) (inv:Value) (H0 H:q0a) (ov:Value) (acc:List Int) (scr:Int):Prop where
 hd:∃ver,H.get d=some ⟨[inv,.int .i64 scr],138,.tip,ver,[]⟩
 ho:OwnI H ov acc
 hf:From H0.n ov
 hn:H0.n≤H.n
 hk:∀j,j<H0.n→j≠d→H.get j=H0.get j
 hv:q0B H0 H
def PN0 (d:Nat) (inv v1 v5 v10 v11 v12:Value) (H0:q0a) (z:List Int×Int) (y:AEx) (e':Env) (H':q0a):Prop:=y=.exit 2∧eget e' 0=.pointer (some ⟨d,0,none⟩)∧eget e' 1=v1∧eget e' 5=v5∧eget e' 10=v10∧eget e' 11=v11∧eget e' 12=v12∧MN d inv H0 H' (eget e' 7) z.1 z.2
theorem l_mn0 {d:Nat} {inv v1 v5 v10 v11 v12 x:Value} {H0:q0a} {m:List Int} (hm:okN m) (hml:m.length<1000) (hx:m≠[]→Ints H0 x m∧Cut Tryz.prog H0 x 1∧q0i x d) (hd0:∃ver s,H0.get d=some ⟨[inv,s],138,.tip,ver,[]⟩):∀(c k:Nat) (H:q0a) (ov:Value) (acc:List Int) (scr:Int),k+c=m.length→acc.length≤k→0≤scr∧scr<100000→MN d inv H0 H ov acc scr →
  Out (run Tryz.prog (tabF tab) om1 (.loop [0,1,5,7,10,11,12,18,19,20] q0S) [(0,.pointer (some ⟨d,0,none⟩)),(1,v1),(5,v5),(7,ov),(10,v10),(11,v11),(12,v12),(18,x),(19,.int .i64 m.length),(20,.int .i64 k)] H) (PN0 d inv v1 v5 v10 v11 v12 H0 (mnU scr acc (m.drop k))):=by
 intro c
 induction c with
 | zero=>
  intro k H ov acc scr hk ha hs h
  obtain rfl:k=m.length:=by omega
  have zz:(((m.length:Nat):Int)<(m.length:Nat))=False:=by simp
  rw[List.drop_of_length_le (Nat.le_refl _),show mnU scr acc []=(acc,scr) from rfl,q0d q0S.eq_1]
  simp only[WA,Nat.reduceEqDiff,reduceCtorEq,zz]
  exact ⟨rfl,rfl,rfl,rfl,rfl,rfl,rfl,h⟩
 | succ c ih=>
  intro k H ov acc scr hk ha hs h
  have hlt:((k:Int)<(m.length:Nat))=True:=eq_true (by omega)
  obtain ⟨u,hu,hdx⟩:=q0z (L:=m) (i:=k) (by omega)
  obtain ⟨u0,u1⟩:=hm u (List.mem_of_getElem? hu)
  have hmn:m≠[]:=fun e=>by subst e;simp at hu
  obtain ⟨hx1,hx2,hx3⟩:=hx hmn
  obtain ⟨ver0,s0,g0⟩:=hd0
  have hon:Only (fun j=>j=d) H0 H:=⟨h.hn,h.hk⟩
  obtain ⟨hy1,_⟩:=(k0I hon fun j b hj hb=>by
   have hj:j=d:=hj
   subst hj
   rw[g0] at hb
   injection hb with hb
   subst hb
   simp only
   decide).1 x m hmn hx1 hx2 fun j hj=>by
    have hj:j=d:=hj
    subst hj
    exact hx3
  obtain ⟨i,o,a1,a2⟩:=hy1.at hu
  obtain ⟨ver,gd⟩:=h.hd
  have hdl:=q0a.lt_of_get g0
  have hnd:q0i ov d:=q0i.of_from h.hf hdl
  have hw2:IntKind.i64.wrap ((k:Int)+1)=((k+1:Nat):Int):=by rw[q0k (by omega) (by omega)];omega
  rw[hdx]
  by_cases h8:u≥8192
  ·have z8:(u≥8192)=True:=eq_true h8
   have hu8:IntKind.i64.wrap (u-8192)=u-8192:=q0k (by omega) (by omega)
   have hM:mnU scr acc (u::m.drop (k+1))=mnU scr (acc++[u-8192]) (m.drop (k+1)):=by conv=>lhs;unfold mnU;rw[if_pos h8]
   obtain ⟨H1,v',H2,v1',q1,q2,q3,q4,q5,q6⟩:=OwnI.more (u:=u-8192) h.ho (by omega)
   have hn:=h.hn
   have h2:MN d inv H0 H2 v' (acc++[u-8192]) scr:=⟨⟨ver,by rw[q5 d (by omega) hnd];exact gd⟩,q2,q3.mono hn,by omega,fun j hj hjd=>by rw[q5 j (by omega) (q0i.of_from h.hf hj),h.hk j hj hjd],h.hv.trans q6⟩
   obtain ⟨y,e',H',r1,r2⟩:=ih (k+1) H2 v' (acc++[u-8192]) scr (by omega) (by rw[List.length_append,List.length_singleton];omega) hs h2
   rw[hM,q0d q0S.eq_1]
   simp only[WA,Nat.reduceEqDiff,reduceCtorEq,hlt,a1,a2,z8,hu8,v1',q1,hw2]
   rw[q0e]
   simp only[WA,Nat.reduceEqDiff,reduceCtorEq,r1]
   exact r2
  have z8:(u≥8192)=False:=eq_false h8
  by_cases h4:u≥4096
  ·have z4:(u≥4096)=True:=eq_true h4
   have hu4:IntKind.i64.wrap (u-4096)=u-4096:=q0k (by omega) (by omega)
   have hM:mnU scr acc (u::m.drop (k+1))=mnU (u-4096) acc (m.drop (k+1)):=by conv=>lhs;unfold mnU;rw[if_neg h8,if_pos h4]
   have st:=j0k (H:=H) (i:=d) (ver:=ver) (el:=138) (a:=inv) (b:=.int .i64 scr) (x:=.int .i64 (u-4096)) rfl
   obtain ⟨H2,hH2⟩:∃H2,H2=H.upd d ⟨[inv,.int .i64 (u-4096)],138,.tip,ver+1,[]⟩:=⟨_,rfl⟩
   rw[←hH2] at st
   have h2:MN d inv H0 H2 ov acc (u-4096):=⟨⟨_,by rw[hH2];exact q0r gd⟩,z1g h.ho fun j hj=>by rw[hH2,q0j gd (fun e=>hj (by rw[e];exact hnd))],h.hf,by rw[hH2];simp;exact h.hn,fun j hj hjd=>by rw[hH2,q0j gd hjd,h.hk j hj hjd],h.hv.trans (by rw[hH2];exact q0B.upd gd (Nat.le_succ _) rfl (fun e=>by simp only at e;omega))⟩
   obtain ⟨y,e',H',r1,r2⟩:=ih (k+1) H2 ov acc (u-4096) (by omega) (by omega) (by omega) h2
   rw[hM,q0d q0S.eq_1]
   simp only[WA,Nat.reduceEqDiff,reduceCtorEq,hlt,a1,a2,z8,z4,hu4,gd,st,hw2]
   rw[q0e]
   simp only[WA,Nat.reduceEqDiff,reduceCtorEq,r1]
   exact r2
  ·have z4:(u≥4096)=False:=eq_false h4
   have cs:=z4E (s:=scr) (p:=u) (by omega) (by omega) H
   have hM:mnU scr acc (u::m.drop (k+1))=mnU scr (acc++[2304+128*scr+u]) (m.drop (k+1)):=by conv=>lhs;unfold mnU;rw[if_neg h8,if_neg h4]
   obtain ⟨H1,v',H2,v1',q1,q2,q3,q4,q5,q6⟩:=OwnI.more (u:=2304+128*scr+u) h.ho (by omega)
   have hn:=h.hn
   have h2:MN d inv H0 H2 v' (acc++[2304+128*scr+u]) scr:=⟨⟨ver,by rw[q5 d (by omega) hnd];exact gd⟩,q2,q3.mono hn,by omega,fun j hj hjd=>by rw[q5 j (by omega) (q0i.of_from h.hf hj),h.hk j hj hjd],h.hv.trans q6⟩
   obtain ⟨y,e',H',r1,r2⟩:=ih (k+1) H2 v' (acc++[2304+128*scr+u]) scr (by omega) (by rw[List.length_append,List.length_singleton];omega) hs h2
   rw[hM,q0d q0S.eq_1]
   simp only[WA,Nat.reduceEqDiff,reduceCtorEq,hlt,a1,a2,z8,z4,gd,cs,v1',q1,hw2]
   rw[q0e]
   simp only[WA,Nat.reduceEqDiff,reduceCtorEq,r1]
   exact r2
theorem z4F (B:Nat) (H:q0a):∀(H':q0a) (row:List Value) (r:Tok),(∀j blk,H.get j=some blk→blk.elem≠36→H'.get j=some blk)→tokF B Tryz.prog H row r→tokF B Tryz.prog H' row r:=fun H' row r hk h=>q6M (el:=36) (s:=4) (by kernel_rfl) (by decide) hk h
structure MT (d B:Nat) (inv v:Value) (H0 H:q0a) (T:List Tok) (scr:Int):Prop where
 hd:∃ver,H.get d=some ⟨[inv,.int .i64 scr],138,.tip,ver,[]⟩
 ht:q2R B H v T
 ha:AncB B H 36 v
 hn:H0.n≤H.n
 hl:∀j,j<B→j≠d→H.get j=H0.get j
 hk:∀j b,H0.get j=some b→b.elem≠36→j≠d→H.get j=some b
def PN1 (d B:Nat) (inv v:Value) (H0:q0a) (z:List Tok×Int) (y:AEx) (e':Env) (H':q0a):Prop:=y=.exit 0∧eget e' 1=v∧MT d B inv v H0 H' z.1 z.2
def mnA (scr:Int) (T:List Tok) (k:Nat):List Tok×Int:=((mnT scr (T.take k)).1++T.drop k,(mnT scr (T.take k)).2)
theorem z1h:∀(T:List Tok) (scr:Int) (x:Tok),mnT scr (T++[x])=((mnT scr T).1++[⟨x.at_,x.len,(mnU (mnT scr T).2 [] x.out).1,x.err⟩],(mnU (mnT scr T).2 [] x.out).2)
 | [],scr,x=>rfl
 | y::T,scr,x=>by
  rw[List.cons_append]
  unfold mnT
  rw[z1h T]
  rfl
theorem q9q:∀(T:List Tok) (scr:Int),(mnT scr T).1.length=T.length
 | [],scr=>rfl
 | y::T,scr=>by unfold mnT;simp[q9q T]
theorem k3h:∀(m:List Int) (scr:Int) (acc:List Int),(mnU scr acc m).1.length≤acc.length+m.length
 | [],scr,acc=>by simp[mnU]
 | u::m,scr,acc=>by
  unfold mnU
  rw[List.length_cons]
  split
  ·have:=k3h m scr (acc++[u-8192]);rw[List.length_append,List.length_singleton] at this;omega
  split
  ·have:=k3h m (u-4096) acc;omega
  ·have:=k3h m scr (acc++[2304+128*scr+u]);rw[List.length_append,List.length_singleton] at this;omega
theorem k5U:∀(m:List Int) (scr:Int) (acc:List Int),okN m→0≤scr∧scr<100000→0≤(mnU scr acc m).2∧(mnU scr acc m).2<100000
 | [],scr,acc,_,h=>h
 | u::m,scr,acc,hm,h=>by
  have h1:=hm u (List.mem_cons_self ..)
  have h2:okN m:=fun v hv=>hm v (List.mem_cons_of_mem _ hv)
  unfold mnU
  split
  ·exact k5U m _ _ h2 h
  split
  ·exact k5U m _ _ h2 (by omega)
  ·exact k5U m _ _ h2 h
theorem z4G:∀(T:List Tok) (scr:Int),(∀x∈T,okN x.out)→0≤scr∧scr<100000→0≤(mnT scr T).2∧(mnT scr T).2<100000
 | [],scr,_,h=>h
 | x::T,scr,hm,h=>by
  unfold mnT
  exact z4G T _ (fun y hy=>hm y (List.mem_cons_of_mem _ hy)) (k5U x.out scr [] (hm x (List.mem_cons_self ..)) h)
theorem l_mn1 {d B:Nat} {inv v:Value} {H0:q0a} {T:List Tok} {scr:Int} (hT:∀x∈T,okN x.out∧x.out.length<1000) (hs:0≤scr∧scr<100000) (hf:From B v) (hdB:d<B) (hBn:B≤H0.n) (hTl:T.length<1000000):∀(c k:Nat) (H:q0a),k+c=T.length→MT d B inv v H0 H (mnA scr T k).1 (mnA scr T k).2 →
  Out (run Tryz.prog (tabF tab) om1 (.loop [0,1,10,11,12] q1A) [(0,.pointer (some ⟨d,0,none⟩)),(1,v),(10,v),(11,.int .i64 T.length),(12,.int .i64 k)] H) (PN1 d B inv v H0 (mnT scr T)):=by
 intro c
 induction c with
 | zero=>
  intro k H hk h
  obtain rfl:k=T.length:=by omega
  have zz:(((T.length:Nat):Int)<(T.length:Nat))=False:=by simp
  have hA:mnA scr T T.length=mnT scr T:=by unfold mnA;rw[List.take_of_length_le (Nat.le_refl _),List.drop_of_length_le (Nat.le_refl _),List.append_nil]
  rw[hA] at h
  rw[q0d q1A.eq_1]
  simp only[WA,Nat.reduceEqDiff,reduceCtorEq,zz]
  exact ⟨rfl,rfl,h⟩
 | succ c ih=>
  intro k H hk h
  have hlt:((k:Int)<(T.length:Nat))=True:=eq_true (by omega)
  obtain ⟨x,hxk,hdx⟩:=q0z (L:=T) (i:=k) (by omega)
  obtain ⟨hx1,hx2⟩:=hT x (List.mem_of_getElem? hxk)
  obtain ⟨s,hs'⟩:∃s,(mnT scr (T.take k)).2=s:=⟨_,rfl⟩
  have hsb:0≤s∧s<100000:=by rw[←hs'];exact z4G _ scr (fun y hy=>(hT y (List.mem_of_mem_take hy)).1) hs
  have hA1:(mnA scr T k).1=(mnT scr (T.take k)).1++x::T.drop (k+1):=by unfold mnA;rw[hdx]
  have hA2:(mnA scr T k).2=s:=hs'
  have hAk:(mnA scr T k).1[k]?=some x:=by
   rw[hA1,List.getElem?_append_right (by rw[q9q,List.length_take];omega),q9q,List.length_take,Nat.min_eq_left (by omega),Nat.sub_self]
   rfl
  have hAs:mnA scr T (k+1)=((mnA scr T k).1.set k ⟨x.at_,x.len,(mnU s [] x.out).1,x.err⟩,(mnU s [] x.out).2):=by
   have ht:T.take (k+1)=T.take k++[x]:=by rw[List.take_add_one,hxk];rfl
   unfold mnA
   rw[ht,z1h,hs',hdx]
   simp only
   rw[List.set_append_right _ _ (by rw[q9q,List.length_take];omega),q9q,List.length_take,Nat.min_eq_left (by omega),Nat.sub_self,List.append_assoc]
   rfl
  rw[hA2] at h
  obtain ⟨⟨ver,gd⟩,ht,ha,hn,hl,hkk⟩:=h
  obtain ⟨i,o,row,a1,_,_,a6,⟨p,cc,hrow,a7,a8,a9⟩,a10⟩:=ht.rws.at hAk
  have hrow:row=tokC p cc x:=hrow
  subst hrow
  obtain ⟨H1,hH1⟩:∃H1,H1=H.push ⟨tokC p cc x,36,.tip,1,[]⟩:=⟨_,rfl⟩
  have x1:Ext H H1:=by rw[hH1];exact Ext.push H _
  have g1:H1.get H.n=some ⟨tokC p cc x,36,.tip,1,[]⟩:=by rw[hH1];exact q0b
  have gd1:=x1.get gd
  have x1n:=x1.1
  have hxd:q0i (.slice p x.out.length cc) d:=q0i.of_from (a10 p _ cc rfl) hdB
  obtain ⟨y',e2,H2,p1,rfl,p2,p3,p4,p5,p6,p7,p8⟩:=l_mn0 (d:=d) (inv:=inv) (v1:=v) (v5:=.int .i64 k) (v10:=v) (v11:=.int .i64 T.length) (v12:=.int .i64 k) (x:=.slice p x.out.length cc) (H0:=H1) hx1 hx2 (fun _=>⟨a7.ext x1,a9.ext x1,hxd⟩) ⟨ver,_,gd1⟩ x.out.length 0 H1 (.slice none 0 0) [] s (by omega) (by simp) hsb ⟨⟨ver,gd1⟩,OwnI.nil,trivial,Nat.le_refl _,fun _ _ _=>rfl,q0B.refl _⟩
  rw[List.drop_zero] at p8
  rw[show ((0:Nat):Int)=0 from rfl] at p1
  obtain ⟨acc,hacc⟩:∃acc,(mnU s [] x.out).1=acc:=⟨_,rfl⟩
  rw[hacc] at p8 hAs
  obtain ⟨⟨ver2,gd2⟩,ho2,hf2,hn2,hk2,hv2⟩:=p8
  have hb2:∀j b,H1.get j=some b→b.elem≠138→H2.get j=some b:=fun j b hj he=>by
   rw[hk2 j (q0a.lt_of_get hj) (fun e=>by subst e;rw[gd1] at hj;injection hj with hj;subst hj;exact he rfl)]
   exact hj
  have helD:(Tryz.prog.info? 138).map (·.size)=some 2:=by kernel_rfl
  have ht1:=q0U.ext q3g x1 ht
  have ht2:q2R B H2 v (mnA scr T k).1:=by
   obtain ⟨q0,cs,q1,q2⟩:=ht1
   exact ⟨q0,cs,q1.move fun i b hi he=>hb2 i b hi (by rw[he];decide),fun k r hr=>q6M helD (by decide) hb2 (q2 k r hr)⟩
  have ha2:AncB B H2 36 v:=(ha.ext x1).move hv2 fun i b hi hna=>by
   obtain ⟨q0,cs,q1,q2⟩:=ht1
   obtain ⟨b',hb',he⟩:=q3E q1 hna
   rw[hi] at hb'
   injection hb' with hb'
   subst hb'
   exact hb2 i b hi (by rw[he];decide)
  have hone:(eget e2 7).cells.toList=[eget e2 7]∧one (eget e2 7)=true:=by
   obtain ⟨⟨u1,u2,hu⟩,_⟩:=ho2.sl
   rw[hu]
   exact ⟨rfl,rfl⟩
  obtain ⟨b,b1,row',b2,b3,⟨⟨p',c',hrow',_⟩,_⟩,H3,b4,b5,b6,b7,b8,b9,b10⟩:=ht2.store (f:=2) (u:=eget e2 7) hf ha2 hAk (by decide) hone.1 hone.2 (z4F B H2)
  have ho3:OwnI H3 (eget e2 7) acc:=Own.move ho2 fun i b hi he=>b7 i b hi (by rw[he];decide)
  have b10':=b10 ⟨x.at_,x.len,acc,x.err⟩ (by
   rw[hrow']
   obtain ⟨⟨u1,u2,hu⟩,_⟩:=ho2.sl
   rw[hu]
   refine ⟨⟨u1,u2,rfl,?_,?_,?_⟩,fun a n c e=>?_⟩
   ·rw[←hu];exact OwnI.asI ho3
   ·have:=k3h x.out s []
    rw[hacc] at this
    unfold Lon.tiny
    simp only[List.length_nil] at this
    simp only
    omega
   ·rw[←hu];exact OwnI.cutI ho3
   ·have e:some (Value.slice u1 acc.length u2)=some (.slice a n c):=e
    injection e with e
    rw[←e,←hu]
    exact hf2.mono (by omega))
  have hsz:H3.n=H2.n:=b5
  obtain ⟨y,e',H',r1,r2⟩:=ih (k+1) H3 (by omega) (by
   rw[hAs]
   exact ⟨⟨ver2,b7 _ _ gd2 (by simp only;decide)⟩,b10',b8,by omega,fun j hj hjd=>by rw[b6 j hj,hk2 j (by omega) hjd,x1.2 j (by omega),hl j hj hjd],fun j b hj he hjd=>b7 j b (by
    rw[hk2 j (by have:=q0a.lt_of_get (hkk j b hj he hjd);omega) hjd]
    exact x1.get (hkk j b hj he hjd)) he⟩)
  have hw2:IntKind.i64.wrap ((k:Int)+1)=((k+1:Nat):Int):=by rw[q0k (by omega) (by omega)];omega
  rw[q0d q1A.eq_1]
  simp only[WA,Nat.reduceEqDiff,reduceCtorEq,hlt,a1,a6,q1F,←hH1,g1,tk2]
  rw[q0e]
  simp only[WA,Nat.reduceEqDiff,reduceCtorEq,p1,p3,p4,p7,b1,b4,hw2]
  rw[q0e]
  simp only[WA,Nat.reduceEqDiff,reduceCtorEq,p2,p3,p5,p6,p7,r1]
  exact r2
theorem j2C {d B ver:Nat} {inv v:Value} {H:q0a} {T:List Tok} {scr:Int} (hT:∀x∈T,okN x.out∧x.out.length<1000) (hs:0≤scr∧scr<100000) (hTl:T.length<1000000) (hd:H.get d=some ⟨[inv,.int .i64 scr],138,.tip,ver,[]⟩) (hdB:d<B) (hBn:B≤H.n) (ht:q2R B H v T) (hf:From B v) (ha:AncB B H 36 v) :
  q0p (cw Tryz.prog (tabF tab) om1 168 [.pointer (some ⟨d,0,none⟩),v] H) fun w H'=>w=v∧MT d B inv v H H' (mnT scr T).1 (mnT scr T).2:=by
 rw[q0g (F:=q2b) rfl rfl rfl]
 unfold q2b q4Y
 have hw:=fun H9=>Rws.len (H2:=H9) ht.rws
 obtain ⟨y,e',H',r1,rfl,r2,r3⟩:=l_mn1 (H0:=H) (T:=T) (scr:=scr) hT hs hf hdB hBn hTl T.length 0 H (by omega) ⟨⟨ver,hd⟩,by unfold mnA;rw[List.take_zero,List.drop_zero];exact ht,ha,Nat.le_refl _,fun _ _ _=>rfl,fun j b hj _ _=>hj⟩
 rw[show ((0:Nat):Int)=0 from rfl] at r1
 simp only[WA,Nat.reduceEqDiff,reduceCtorEq,hw]
 rw[q0e]
 simp only[WA,Nat.reduceEqDiff,reduceCtorEq,r1,r2]
 exact r3
theorem q4g {L:List Rl} (hR:q1a L) {e:Bool}:∀(c:Nat) (w:List Int) (a st:Int),∀x∈(q3o L e c w a st).1,(x.err=3∧x.out=[])∨(x.err=0∧x.out.length≤8∧∃r∈L,x.out=r.2)
 | 0,w,a,st,x,hx=>absurd hx (by unfold q3o;simp)
 | c+1,w,a,st,x,hx=>by
  rw[q6L] at hx
  by_cases hn:w=[]
  ·rw[if_pos hn] at hx
   exact absurd hx (by simp)
  rw[if_neg hn] at hx
  split at hx
  ·exact absurd hx (by simp)
  ·rcases List.mem_cons.1 hx with rfl|hx
   ·rcases k3b hR hn a with ⟨q1,_⟩|⟨k,n,r,_,_,_,_,q5,_,_,q8,q9⟩
    ·rw[q1];exact .inl ⟨rfl,rfl⟩
    ·rw[q9];exact .inr ⟨rfl,q8,r,List.mem_of_getElem? q5,rfl⟩
   ·exact q4g hR c _ _ _ x hx
def okNB (m:List Int):Bool:=m.all fun u=>decide (0≤u∧u<100000)
theorem j2D {m:List Int} (h:okNB m=true):okN m:=fun u hu=>by simpa using List.all_eq_true.1 h u hu
theorem z6L:Rind.all (fun r=>okNB r.2&&decide (r.2.length<1000))=true:=by kernel_rfl
def okPB (m:List Int):Bool:=m.all fun u=>if u≥8192 then decide (u-8192<55296) else if u≥4096 then decide (u<4105) else decide (0≤u∧u<128)
def okP (m:List Int):Prop:=∀u∈m,(u≥8192→u-8192<55296)∧(u<8192→u≥4096→u<4105)∧(u<4096→0≤u∧u<128)
theorem z8p {m:List Int} (h:okPB m=true):okP m:=fun u hu=>by
 have:=List.all_eq_true.1 h u hu
 by_cases h8:u≥8192
 ·rw[if_pos h8,decide_eq_true_eq] at this
  exact ⟨fun _=>this,fun h=>absurd h8 (by omega),fun h=>absurd h8 (by omega)⟩
 rw[if_neg h8] at this
 by_cases h4:u≥4096
 ·rw[if_pos h4,decide_eq_true_eq] at this
  exact ⟨fun h=>absurd h h8,fun _ _=>this,fun h=>absurd h4 (by omega)⟩
 rw[if_neg h4,decide_eq_true_eq] at this
 exact ⟨fun h=>absurd h h8,fun _ h=>absurd h h4,fun _=>this⟩
theorem z1i:Rind.all (fun r=>okPB r.2)=true:=by kernel_rfl
theorem z4H {e:Bool} {c:Nat} {w:List Int} {a st:Int}:∀x∈(q3o Rind e c w a st).1,okP x.out:=fun x hx=>by
 rcases q4g q1h c w a st x hx with ⟨_,h⟩|⟨_,_,r,hr,h⟩
 ·rw[h];exact fun u hu=>absurd hu (by simp)
 ·rw[h];exact z8p (List.all_eq_true.1 z1i r hr)
theorem k5V:∀(m:List Int) (scr:Int) (acc:List Int),okP m→(0≤scr∧scr<9)→(∀u∈acc,okS u)→(0≤(mnU scr acc m).2∧(mnU scr acc m).2<9)∧∀u∈(mnU scr acc m).1,okS u
 | [],scr,acc,_,hs,ha=>⟨hs,ha⟩
 | u::m,scr,acc,hm,hs,ha=>by
  obtain ⟨h1,h2,h3⟩:=hm u (List.mem_cons_self ..)
  have hm2:okP m:=fun v hv=>hm v (List.mem_cons_of_mem _ hv)
  have hap:∀v:Int,okS v→∀y∈acc++[v],okS y:=fun v hv y hy=>by
   rcases List.mem_append.1 hy with hy|hy
   ·exact ha y hy
   ·rw[List.mem_singleton.1 hy];exact hv
  unfold mnU
  by_cases h8:u≥8192
  ·rw[if_pos h8]
   have:=h1 h8
   exact k5V m scr _ hm2 hs (hap _ ⟨by omega,by omega,.inl (by omega)⟩)
  rw[if_neg h8]
  by_cases h4:u≥4096
  ·rw[if_pos h4]
   have:=h2 (by omega) h4
   exact k5V m _ acc hm2 (by omega) ha
  rw[if_neg h4]
  have:=h3 (by omega)
  exact k5V m scr _ hm2 hs (hap _ ⟨by omega,by omega,.inl (by omega)⟩)
theorem k5W:∀(T:List Tok) (scr:Int),(∀x∈T,okP x.out)→(0≤scr∧scr<9)→(0≤(mnT scr T).2∧(mnT scr T).2<9)∧∀x∈(mnT scr T).1,∀u∈x.out,okS u
 | [],scr,_,hs=>⟨hs,fun x hx=>absurd hx (by unfold mnT;simp)⟩
 | x::T,scr,hm,hs=>by
  obtain ⟨h1,h2⟩:=k5V x.out scr [] (hm x (List.mem_cons_self ..)) hs (fun u hu=>absurd hu (by simp))
  obtain ⟨h3,h4⟩:=k5W T _ (fun y hy=>hm y (List.mem_cons_of_mem _ hy)) h1
  unfold mnT
  refine ⟨h3,fun y hy=>?_⟩
  rcases List.mem_cons.1 hy with rfl|hy
  ·exact h2
  ·exact h4 y hy
theorem j2E {e:Bool} {c:Nat} {w:List Int} {a st:Int}:∀x∈(q3o Rind e c w a st).1,okN x.out∧x.out.length<1000:=fun x hx=>by
 rcases q4g q1h c w a st x hx with ⟨_,h⟩|⟨_,_,r,hr,h⟩
 ·rw[h];exact ⟨fun u hu=>absurd hu (by simp),by simp⟩
 ·rw[h]
  have:=List.all_eq_true.1 z6L r hr
  simp only[Bool.and_eq_true,decide_eq_true_eq] at this
  exact ⟨j2D this.1,this.2⟩
abbrev ISt:=MSt×Int
def rsI (st:ISt) (u:Int):List Tok×ISt:=((mnT st.2 (rdS Rind st.1 u).1).1,((rdS Rind st.1 u).2,(mnT st.2 (rdS Rind st.1 u).1).2))
def rfI (st:ISt):List Tok×ISt:=((mnT st.2 (rdF Rind st.1).1).1,((rdF Rind st.1).2,(mnT st.2 (rdF Rind st.1).1).2))
def RdI (v:Value) (n:Nat) (H:q0a) (st:ISt) (C D:NS):Prop:=∃k d i m t ver ver2 Hs C0 D0,v=.iface 102 (.pointer (some ⟨i,0,none⟩))∧H.get i=some ⟨[.iface 139 (.pointer (some ⟨d,0,none⟩)),.int .i64 st.2],138,.tip,ver2,[]⟩∧D0 d∧¬C0 d∧¬D0 i∧H.get d=some ⟨[.pointer (some ⟨m,0,none⟩)],143,.tip,ver,[]⟩∧MX k Hs H m t Rind st.1.1 st.1.2.1 st.1.2.2 C0 D0∧Mi Rind n st.1∧(0≤st.2∧st.2<9)∧(∀j,D0 j→∃b,H.get j=some b∧b.elem≠36)∧C=(fun j=>C0 j∨j=i)∧D=fun j=>D0 j∨j=i
theorem me_JP : q6Q Tryz.prog 102 "Put" = some (167, none) := by kernel_rfl
theorem me_JE : q6Q Tryz.prog 102 "End" = some (165, none) := by kernel_rfl
theorem z4I {n' k d i m t ver ver2:Nat} {Hs H H1:q0a} {C0 D0:NS} {st:ISt} {e:Bool} {w:List Int} {a s:Int} {x:Value} (hi:H.get i=some ⟨[.iface 139 (.pointer (some ⟨d,0,none⟩)),.int .i64 st.2],138,.tip,ver2,[]⟩) (dd:D0 d) (cd:¬C0 d) (di:¬D0 i) (gd:H.get d=some ⟨[.pointer (some ⟨m,0,none⟩)],143,.tip,ver,[]⟩) (hX:MX k Hs H m t Rind st.1.1 st.1.2.1 st.1.2.2 C0 D0) (hs:0≤st.2∧st.2<9) (hfr:∀j,D0 j→∃b,H.get j=some b∧b.elem≠36)
  (hw:w.length≤8) (r1:MS (cutN H k) H1 m t (q0G Rind e w a s).2.1 (q0G Rind e w a s).2.2.1 (q0G Rind e w a s).2.2.2) (r3:From H.n x) (r4:Kx H H1) (ra:AncB H.n H1 36 x) (r5:k7M m H H1) (r6:q2R H.n H1 x (q0G Rind e w a s).1) (hMi:Mi Rind n' (q0G Rind e w a s).2) :
  ∃H',cw Tryz.prog (tabF tab) om1 168 [.pointer (some ⟨i,0,none⟩),x] H1=some (x,H')∧H1.get i=some ⟨[.iface 139 (.pointer (some ⟨d,0,none⟩)),.int .i64 st.2],138,.tip,ver2,[]⟩∧q2C (fun j=>j<H.n) H' x (mnT st.2 (q0G Rind e w a s).1).1∧Rd (fun j=>C0 j∨j=i) H H'∧Only (fun j=>C0 j∨j=i) H H'∧∃C' D',RdI (.iface 102 (.pointer (some ⟨i,0,none⟩))) n' H' ((q0G Rind e w a s).2,(mnT st.2 (q0G Rind e w a s).1).2) C' D'∧(∀j,j<H.n→C' j→C0 j∨j=i)∧∀j,j<H.n→D' j→D0 j∨j=i:=by
 have hil:=q0a.lt_of_get hi
 have hon1:=hX.only r5 r4.1
 have hM1:=hX.of r1 r5 r4.1
 have r4n:=r4.1
 have ci:¬C0 i:=fun h=>di (hX.cd i h)
 have gi1:H1.get i=some ⟨[.iface 139 (.pointer (some ⟨d,0,none⟩)),.int .i64 st.2],138,.tip,ver2,[]⟩:=by rw[hon1.2 i hil ci];exact hi
 have hTl:(q0G Rind e w a s).1.length≤w.length:=by
  obtain ⟨n,n1,_,_,_,_,n6,_⟩:=q6p q1h (e:=e) w.length w a s
  have:(q0G Rind e w a s).1.length≤n:=n6
  omega
 obtain ⟨v2,H2,c2,rfl,hT⟩:=j2C (B:=H.n) (T:=(q0G Rind e w a s).1) (fun x hx=>j2E x hx) ⟨hs.1,by omega⟩ (by omega) gi1 hil r4.1 r6 r3 ra
 obtain ⟨⟨ver3,gi2⟩,ht2,_,n2,l2,k2⟩:=hT
 have hold:∀j,¬NW H1 m j→j<H.n→C0 j:=fun j hj hl=>hX.old r5 j hl hj
 have hni:¬¬NW H1 m i:=fun h=>ci (hold i h hil)
 have D1i:¬(D0 i∨¬NW H1 m i):=fun h=>h.elim di hni
 have tokf:∀j,(D0 j∨¬NW H1 m j)→∃b,H1.get j=some b∧b.elem≠36:=fun j hj=>by
  rcases hj with hj|hj
  ·obtain ⟨b0,hb0,he0⟩:=hfr j hj
   by_cases hjm:j=m
   ·subst hjm
    obtain ⟨vw,ver9,q1,_⟩:=hM1.hm
    exact ⟨_,q1,by simp only;decide⟩
   ·by_cases hnw:NW H m j
    ·exact ⟨b0,by rw[r5.k j (q0a.lt_of_get hb0) hjm hnw];exact hb0,he0⟩
    ·obtain ⟨vw,ver9,q1,q2,_⟩:=hX.hm
     obtain ⟨b',hb',he⟩:=q3E q2 (fun hx=>hnw (NW.of q1 hx))
     rw[hb0] at hb'
     injection hb' with hb'
     subst hb'
     obtain ⟨_,b1,hb1,he1,_⟩:=r4.2 j b0 hb0 (by rw[he];decide)
     exact ⟨b1,hb1,by rw[he1];exact he0⟩
  ·obtain ⟨vw,ver9,q1,q2,q3⟩:=hM1.hm
   have hj2:¬q0i vw j:=fun hx=>hj (NW.of q1 hx)
   obtain ⟨b',hb',he⟩:=q3E q2 hj2
   exact ⟨b',hb',by rw[he];decide⟩
 have hkeep:∀j,(D0 j∨¬NW H1 m j)→H2.get j=H1.get j:=fun j hj=>by
  have hji:j≠i:=fun e=>D1i (e▸hj)
  obtain ⟨b,hb,he⟩:=tokf j hj
  rw[hb]
  exact k2 j b hb he hji
 have hM2:=hM1.keep n2 hkeep
 have hon:Only (fun j=>C0 j∨j=i) H H2:=⟨by omega,fun j hj hc=>by rw[l2 j hj (fun e=>hc (.inr e)),hon1.2 j hj (fun h=>hc (.inl h))]⟩
 have gd2:H2.get d=some ⟨[.pointer (some ⟨m,0,none⟩)],143,.tip,ver,[]⟩:=by rw[hon.2 d (hX.dl d dd) (fun h=>h.elim cd fun e=>di (e▸dd))];exact gd
 refine ⟨H2,c2,gi1,ht2.ta,k0I hon ?_,hon,_,_,⟨k,d,i,m,t,ver,ver3,Hs,_,_,rfl,gi2,.inl dd,fun h=>h.elim cd fun h=>cd (hold d h (hX.dl d dd)),D1i,gd2,hM2,hMi,(k5W _ _ (fun x hx=>z4H x hx) hs).1,fun j hj=>by rw[hkeep j hj];exact tokf j hj,rfl,rfl⟩,fun j hj hc=>?_,fun j hj hc=>?_⟩
 ·intro j b hj hb
  rcases hj with hj|rfl
  ·obtain ⟨b0,hb0,he0⟩:=hfr j (hX.cd j hj)
   rw[hb] at hb0
   injection hb0 with hb0
   subst hb0
   exact he0
  ·rw[hi] at hb
   injection hb with hb
   subst hb
   simp only
   decide
 ·rcases hc with (hc|hc)|hc
  ·exact .inl hc
  ·exact .inl (hold j hc hj)
  ·exact .inr hc
 ·rcases hc with (hc|hc)|hc
  ·exact .inl hc
  ·exact .inl (hX.cd j (hold j hc hj))
  ·exact .inr hc
theorem mc_I {v:Value}:Mc (RdI v) v rsI rfI (fun u=>0≤u∧u<256) 900 where
 put:=by
  intro n H st C D u ⟨k,d,i,m,t,ver,ver2,Hs,C0,D0,hv,hi,dd,cd,di,gd,hX,hMi,hs,hfr,hC,hD⟩ hn hu
  subst hv hC hD
  have hl:=hMi.wt.len q1h
  have h2:=hMi.a0
  have h3:=hMi.an
  have h4:=hMi.s0
  have h5:=hMi.sn
  have hsq:((st.1.1.length:Int)+1)*((st.1.1.length:Int)+1)≤8*8:=Int.mul_le_mul (by omega) (by omega) (by omega) (by omega)
  obtain ⟨x,H1,c1,r1,r2,r3,r4,ra,r5,r6⟩:=z9O (u:=u) hX.md.trie hX.md.ms (by omega) (by omega) (by omega)
  obtain ⟨H2,c2,gi1,q1,q2,q3,C',D',q4,q5,q6⟩:=z4I (n':=n+1) (w:=st.1.1++[u]) hi dd cd di gd hX hs hfr (by rw[List.length_append,List.length_singleton];omega) r1 r3 r4 ra r5 r6 (Mi.put q1h (u:=u) hMi)
  rw[q2N me_JP]
  refine ⟨x,H2,?_,q1,q2,q3,C',D',q4,q5,q6⟩
  have ci:=k1C (cf:=cw Tryz.prog (tabF tab) om1) (args:=[.int .i64 u]) j2b gd
  rw[q0g (F:=q2q) rfl rfl rfl]
  unfold q2q q5h
  simp only[WA,Nat.reduceEqDiff,reduceCtorEq,hi,q6H,ci,c1,c2]
 fin:=by
  intro n H st C D ⟨k,d,i,m,t,ver,ver2,Hs,C0,D0,hv,hi,dd,cd,di,gd,hX,hMi,hs,hfr,hC,hD⟩ hn
  subst hv hC hD
  have hl:=hMi.wt.len q1h
  have h2:=hMi.a0
  have h3:=hMi.an
  have h4:=hMi.s0
  have h5:=hMi.sn
  have hsq:(st.1.1.length:Int)*(st.1.1.length:Int)≤8*8:=Int.mul_le_mul (by omega) (by omega) (by omega) (by omega)
  obtain ⟨x,H1,c1,r1,r2,r3,r4,ra,r5,r6⟩:=z9N hX.md.trie hX.md.ms (by omega) (by omega) (by omega)
  obtain ⟨H2,c2,gi1,q1,q2,q3,C',D',q4,q5,q6⟩:=z4I (n':=n) (w:=st.1.1) hi dd cd di gd hX hs hfr (by omega) r1 r3 r4 ra r5 r6 (Mi.fin q1h hMi)
  rw[q2N me_JE]
  refine ⟨x,H2,?_,q1,q2,q3,C',D',q4,q5,q6⟩
  have ci:=k1C (cf:=cw Tryz.prog (tabF tab) om1) (args:=[]) j2c gd
  rw[q0g (F:=q2p) rfl rfl rfl]
  unfold q2p q5g
  simp only[WA,Nat.reduceEqDiff,reduceCtorEq,hi,q6H,ci,c1,c2]
 keep:=by
  intro n H H' st C D ⟨k,d,i,m,t,ver,ver2,Hs,C0,D0,hv,hi,dd,cd,di,gd,hX,hMi,hs,hfr,hC,hD⟩ hn hk
  subst hD
  exact ⟨k,d,i,m,t,ver,ver2,Hs,C0,D0,hv,by rw[hk i (.inr rfl)];exact hi,dd,cd,di,by rw[hk d (.inl dd)];exact gd,hX.keep hn fun j hj=>hk j (.inl hj),hMi,hs,fun j hj=>by rw[hk j (.inl hj)];exact hfr j hj,hC,rfl⟩
 lt:=by
  intro n H st C D j ⟨k,d,i,m,t,ver,ver2,Hs,C0,D0,hv,hi,dd,cd,di,gd,hX,hMi,hs,hfr,hC,hD⟩ hj
  subst hD
  rcases hj with hj|rfl
  ·exact hX.dl j hj
  ·exact q0a.lt_of_get hi
 sub:=by
  intro n H st C D j ⟨k,d,i,m,t,ver,ver2,Hs,C0,D0,hv,hi,dd,cd,di,gd,hX,hMi,hs,hfr,hC,hD⟩ hj
  subst hC hD
  exact hj.imp (hX.cd j) id
 mono:=by
  intro n n' H st C D ⟨k,d,i,m,t,ver,ver2,Hs,C0,D0,hv,hi,dd,cd,di,gd,hX,hMi,hs,hfr,hC,hD⟩ hn
  exact ⟨k,d,i,m,t,ver,ver2,Hs,C0,D0,hv,hi,dd,cd,di,gd,hX,hMi.mono hn,hs,hfr,hC,hD⟩
theorem z8q {H:q0a}:q0p (cw Tryz.prog (tabF tab) om1 71 [] H) fun v H'=>Ext H H'∧∃q,v=.pointer (some ⟨q,0,none⟩)∧q1K H' q Rind:=by
 rw[q0g (F:=q7d) rfl rfl rfl]
 unfold q7d k2f
 obtain ⟨v1,H1,c1,x1,r1,k1,q1⟩:=z6A (H:=H)
 obtain ⟨v2,H2,c2,x2,q,rfl,hT⟩:=j1U r1 k1 q1 q1h (Nat.le_of_ble_eq_true z6F) z6K
 simp only[WA,Nat.reduceEqDiff,reduceCtorEq,c1,c2]
 exact ⟨x1.trans x2,q,rfl,hT⟩
theorem j2F {H:q0a} {t:TypeId} {d:Nat}:q2l [.nilIface,.int .i64 0] [(0,1,.iface t (.pointer (some ⟨d,0,none⟩)))] H=some (.agg ⟨[.iface t (.pointer (some ⟨d,0,none⟩)),.int .i64 0]⟩,H):=rfl
theorem z4J {H:q0a}:q0p (cw Tryz.prog (tabF tab) om1 42 [] H) fun v H'=>∃i C D,v=.pointer (some ⟨i,0,none⟩)∧RdI (.iface 102 (.pointer (some ⟨i,0,none⟩))) 0 H' (([],0,0),0) C D∧NewM H H' C D:=by
 rw[q0g (F:=q4G) rfl rfl rfl]
 unfold q4G q8J
 obtain ⟨v1,H1,c1,x1,q,rfl,hT⟩:=z8q (H:=H)
 obtain ⟨v2,H2,c2,x2,hM⟩:=k7O hT
 obtain ⟨d,m,t,ver,rfl,hd,gd,hMD⟩:=hM.md
 obtain ⟨vw,ver2,gm,q2,q3⟩:=hMD.hm
 have hv:vw=.slice none 0 0:=by
  obtain ⟨_,⟨h,_⟩|⟨b,ver,anc,_,h,_⟩⟩:=q2
  ·exact h
  ·exact absurd h (by simp)
 subst hv
 obtain ⟨H3,hH3⟩:∃H3,H3=H2.push ⟨[.iface 139 (.pointer (some ⟨d,0,none⟩)),.int .i64 0],138,.tip,0,[]⟩:=⟨_,rfl⟩
 have x3:Ext H2 H3:=by rw[hH3];exact Ext.push H2 _
 have g3:H3.get H2.n=some ⟨[.iface 139 (.pointer (some ⟨d,0,none⟩)),.int .i64 0],138,.tip,0,[]⟩:=by rw[hH3];exact q0b
 have hbx:vBox (.agg ⟨[.iface 139 (.pointer (some ⟨d,0,none⟩)),.int .i64 0]⟩) 138 H2=some (.pointer (some ⟨H2.n,0,none⟩),H3):=by rw[hH3];exact q8H rfl
 simp only[WA,Nat.reduceEqDiff,reduceCtorEq,c1,c2,j2F,hbx]
 have hdl:=q0a.lt_of_get gd
 have hml:=q0a.lt_of_get gm
 have hdm:d≠m:=fun e=>by
  rw[e,gm] at gd
  injection gd with gd
  injection gd with _ gd
  exact absurd gd (by decide)
 have hkm:=hMD.km
 have hkn:=hMD.kn
 have x1n:=x1.1
 have x2n:=x2.1
 have x3n:=x3.1
 have gd3:=x3.get gd
 have gm3:=x3.get gm
 have hX:MX H1.n H2 H2 m t Rind [] 0 0 (fun j=>j=m) (fun j=>j=d∨j=m∨(j<H1.n∧∃b,H2.get j=some b∧isT b.elem=true)):=⟨hkn,hkn,hkm,hMD.trie,⟨_,ver2,gm,q2,q3⟩,fun j b hj hb he=>⟨.inr (.inr ⟨hj,b,hb,he⟩),hb⟩,rfl,fun j hj=>absurd (NW.of gm (vw:=.slice none 0 0) trivial) hj,fun j hj=>by have hj:j=m:=hj;omega,fun j hj=>.inr (.inl hj),fun j hj=>by
  rcases hj with rfl|rfl|⟨hj,_⟩
  ·exact hdl
  ·exact hml
  ·omega⟩
 have hX3:=hX.keep x3.1 fun j hj=>x3.2 j (hX.dl j hj)
 refine ⟨H2.n,_,_,rfl,⟨H1.n,d,H2.n,m,t,ver,0,H2,fun j=>j=m,_,rfl,g3,.inl rfl,hdm,fun h=>by have:=hX.dl _ h;omega,gd3,hX3,⟨⟨.inl rfl⟩,by decide,by decide,by decide,by decide⟩,by decide,fun j hj=>?_,rfl,rfl⟩,(x1.trans x2).trans x3,fun j hj=>?_,fun j hj hl b hb=>?_⟩
 ·rcases hj with rfl|rfl|⟨hj,b,hb,ht⟩
  ·exact ⟨_,gd3,by simp only;decide⟩
  ·exact ⟨_,gm3,by simp only;decide⟩
  ·exact ⟨b,x3.get hb,fun e=>by rw[e] at ht;exact absurd ht (by decide)⟩
 ·rcases hj with hj|rfl
  ·have hj:j=m:=hj
   subst hj
   exact ⟨by omega,_,gm3,by simp only;decide⟩
  ·exact ⟨by omega,_,g3,by simp only;decide⟩
 ·rcases hj with (rfl|rfl|⟨_,b',hb',ht⟩)|rfl
  ·omega
  ·omega
  ·rw[x3.get hb'] at hb
   injection hb with hb
   subst hb
   exact z6s ht
  ·omega
theorem mk_I {H:q0a}:q0p (cw Tryz.prog (tabF tab) om1 18 [.string (nm 7)] H) fun v H'=>∃rv C D,v=.tuple ⟨[rv,.int .i64 0]⟩∧one rv=true∧RdI rv 0 H' (([],0,0),0) C D∧NewM H H' C D:=by
 rw[q0g (F:=q1G) rfl rfl rfl]
 unfold q1G q4E
 have hn:=q8W (H:=H) (k:=7) (by omega)
 have e0:=z1Z 7 (by omega)
 have e7:=k3e 7 (by omega)
 rw[show Nat.beq 7 0=false from rfl] at e0
 rw[show Nat.beq 7 7=true from rfl] at e7
 obtain ⟨v1,H1,c1,i,C,D,rfl,q1,q2⟩:=z4J (H:=H)
 have z0:((0:Int)≠0)=False:=by simp
 simp only[WA,Nat.reduceEqDiff,reduceCtorEq,hn,z0,q1I gS,e0,e7,c1]
 exact ⟨_,C,D,rfl,rfl,q1,q2⟩
end Go.Proofs.YtleiinhaljdcoaaGreatDoor
