/- What is proved here: what the program's functions come to, as far as the claimed statement asks. Conditions: those that each theorem names, and no others. -/
import Derived.Test.YtleiinhaljdcoaaGreatDoorP5
set_option linter.unusedSimpArgs false
set_option linter.unusedVariables false
namespace Go.Proofs.YtleiinhaljdcoaaGreatDoor
open Go Lon
set_option maxRecDepth 100000
def RV:List (Int×Int×List Int):=[(97,0,[97,0xe0,0xe1,0x1ea3,0xe3,0x1ea1]),(97,1,[0x103,0x1eb1,0x1eaf,0x1eb3,0x1eb5,0x1eb7]),(97,2,[0xe2,0x1ea7,0x1ea5,0x1ea9,0x1eab,0x1ead]),(101,0,[101,0xe8,0xe9,0x1ebb,0x1ebd,0x1eb9]),(101,2,[0xea,0x1ec1,0x1ebf,0x1ec3,0x1ec5,0x1ec7]),(105,0,[105,0xec,0xed,0x1ec9,0x129,0x1ecb]),(111,0,[111,0xf2,0xf3,0x1ecf,0xf5,0x1ecd]),(111,2,[0xf4,0x1ed3,0x1ed1,0x1ed5,0x1ed7,0x1ed9]),(111,3,[0x1a1,0x1edd,0x1edb,0x1edf,0x1ee1,0x1ee3]),(117,0,[117,0xf9,0xfa,0x1ee7,0x169,0x1ee5]),(117,3,[0x1b0,0x1eeb,0x1ee9,0x1eed,0x1eef,0x1ef1]),(121,0,[121,0x1ef3,0xfd,0x1ef7,0x1ef9,0x1ef5]),(100,0,[100]),(100,4,[0x111])]
def pad6 (l:List Int):List Int:=(l++[0,0,0,0,0,0]).take 6
def vrow (r:Int×Int×List Int):List Value:=.int .i64 r.1::.int .i64 r.2.1::ints (pad6 r.2.2)
theorem z9m (H:q0a):cw Tryz.prog (tabF tab) omA 108 [] H=some (.slice (some ⟨H.n,0,none⟩) 14 15,H.push ⟨RV.flatMap vrow,209,.tip,0,[]⟩):=k8M 3 (by kernel_rfl)
def lblk (r:Int×Int×List Int):ABlk:=⟨ints r.2.2,3,.tip,0,[]⟩
def lrow (n:Nat):Nat→List (Int×Int×List Int)→List Value
 | _,[]=>[]
 | k,r::R=>.int .i64 r.1::.int .i64 r.2.1::.slice (some ⟨n+k,0,none⟩) r.2.2.length (r.2.2.length+1)::lrow n (k+1) R
def fb:Nat→Nat
 | 0=>0
 | 1=>4607182418800017408
 | 2=>4611686018427387904
 | 3=>4613937818241073152
 | 4=>4616189618054758400
 | _=>4617315517961601024
noncomputable def runG (vs:List Value) (o:Oper):Option Value:=
 if vs.all q0J=true then
  match q0C Tryz.prog (execOp (fun x=>match x with|.tmp t=>vs.getD t .nilFunc|_=>.nilFunc) o) with
  | some (.value v)=>if q0J v then some v else none
  | _=>none
 else none
noncomputable def cvtV (v : Value) : Option Value := runG [v] ⟨none, (.convert 3 49 (.tmp 0)), 49, "", #[], none⟩
noncomputable def cplV (u v : Value) : Option Value := runG [u, v] ⟨none, (.call ⟨.builtin .complex, #[(.tmp 0), (.tmp 1)], #[49, 49]⟩), 46, "", #[], none⟩
noncomputable def reV (v : Value) : Option Value := runG [v] ⟨none, (.call ⟨.builtin .real, #[(.tmp 0)], #[46]⟩), 49, "", #[], none⟩
noncomputable def imV (v : Value) : Option Value := runG [v] ⟨none, (.call ⟨.builtin .imag, #[(.tmp 0)], #[46]⟩), 49, "", #[], none⟩
noncomputable def eqV (u v : Value) : Option Value := runG [u, v] ⟨none, (.binOp .eql 154 (.tmp 0) (.tmp 1) 154), 4, "", #[], none⟩
section
variable {cf:q0F} {e:Env} {H:q0a} {x:Operand} {i j:Nat}
theorem z0P : q0o Tryz.prog cf e H (.gen ⟨none, (.convert 3 49 x), 49, "", #[], none⟩) = (cvtV (ev e x)).map fun v => (v, H) := rfl
theorem z0Q : q0o Tryz.prog cf e H (.gen ⟨none, (.call ⟨.builtin .complex, #[(.tmp i), (.tmp j)], #[49, 49]⟩), 46, "", #[], none⟩) = (cplV (ev e (.tmp i)) (ev e (.tmp j))).map fun v => (v, H) := by
 simp[q0o,q0N,cplV,runG,execOp,Op.operands,Call.operands,resolve]
 rfl
theorem z3T : q0o Tryz.prog cf e H (.gen ⟨none, (.call ⟨.builtin .real, #[(.tmp i)], #[46]⟩), 49, "", #[], none⟩) = (reV (ev e (.tmp i))).map fun v => (v, H) := by
 simp[q0o,q0N,reV,runG,execOp,Op.operands,Call.operands,resolve]
 rfl
theorem st_im : q0o Tryz.prog cf e H (.gen ⟨none, (.call ⟨.builtin .imag, #[(.tmp i)], #[46]⟩), 49, "", #[], none⟩) = (imV (ev e (.tmp i))).map fun v => (v, H) := by
 simp[q0o,q0N,imV,runG,execOp,Op.operands,Call.operands,resolve]
 rfl
theorem z8b : q0o Tryz.prog cf e H (.gen ⟨none, (.binOp .eql 154 (.tmp i) (.tmp j) 154), 4, "", #[], none⟩) = (eqV (ev e (.tmp i)) (ev e (.tmp j))).map fun v => (v, H) := by
 simp[q0o,q0N,eqV,runG,execOp,Op.operands]
 rfl
end
theorem j1v {p:Nat→Prop} (h0:p 0) (h1:p 1) (h2:p 2) (h3:p 3) (h4:p 4) (h5:p 5):∀m,m<6→p m
 | 0,_=>h0
 | 1,_=>h1
 | 2,_=>h2
 | 3,_=>h3
 | 4,_=>h4
 | 5,_=>h5
 | m+6,h=>by omega
theorem z0R:∀m,m<6→cvtV (.int .i64 (m:Nat))=some (.float .f64 (fb m)):=j1v (by kernel_rfl) (by kernel_rfl) (by kernel_rfl) (by kernel_rfl) (by kernel_rfl) (by kernel_rfl)
theorem z0S {a b:Nat}:cplV (.float .f64 a) (.float .f64 b)=some (.complex .f64 a b):=by kernel_rfl
theorem re_is {a b:Nat}:reV (.complex .f64 a b)=some (.float .f64 a):=by kernel_rfl
theorem im_is {a b:Nat}:imV (.complex .f64 a b)=some (.float .f64 b):=by kernel_rfl
theorem q4A {α β:Type} {P:Program} {s:Sem α} {f:α→Sem β}:q0C P (s >>= f)=(q0C P s).bind fun a=>q0C P (f a):=by
 show q0C P (s.bind f)=_
 induction s with
 | pure a=>rfl
 | program k ih=>exact ih _
 | mark m k ih=>exact ih
 | _=>rfl
theorem k5F {α:Type} {P:Program} {a:α}:q0C P (pure a:Sem α)=some a:=rfl
theorem eq_of {b1 b2:Int} {r1 i1 r2 i2:Nat}:q0C Tryz.prog (Op.equalIn 10000 154 (.agg ⟨[.int .i64 b1,.complex .f64 r1 i1]⟩) (.agg ⟨[.int .i64 b2,.complex .f64 r2 i2]⟩))=some (b1==b2&&(Op.floatEq .f64 r1 r2&&Op.floatEq .f64 i1 i2)):=by
 have h1:q0C Tryz.prog (Op.equalIn 9999 3 (.int .i64 b1) (.int .i64 b2))=some (b1==b2):=by kernel_rfl
 have h2:q0C Tryz.prog (Op.equalIn 9999 46 (.complex .f64 r1 i1) (.complex .f64 r2 i2))=some (Op.floatEq .f64 r1 r2&&Op.floatEq .f64 i1 i2):=by kernel_rfl
 have hu : ∃ fs : Array Field, Tryz.prog.underlying 154 = some (.struct fs) ∧ ∃ f g : Field, fs = #[f, g] ∧ f.type = 3 ∧ f.offset = 0 ∧ f.name ≠ "_" ∧ g.type = 46 ∧ g.offset = 1 ∧ g.name ≠ "_" := ⟨_, Tryz.underlying154, _, _, rfl, rfl, rfl, by decide, rfl, rfl, by decide⟩
 obtain ⟨fs,hu,f,g,rfl,f1,f2,f3,g1,g2,g3⟩:=hu
 have pu:q0C Tryz.prog (underlying 154)=some (.struct #[f,g]):=by
  unfold underlying
  simp[q4A,hu,q0C,program]
  rfl
 have ps:q0C Tryz.prog program=some Tryz.prog:=rfl
 have hst:Tryz.prog.stoodInHeld 154=false:=by kernel_rfl
 have p1:∀{a b:Value},q0C Tryz.prog (part 3 ⟨[a,b]⟩ 0)=some a:=by intro a b;kernel_rfl
 have p2:∀{a b:Value},q0C Tryz.prog (part 46 ⟨[a,b]⟩ 1)=some b:=by intro a b;kernel_rfl
 show q0C Tryz.prog (Op.equalIn (9999+1) _ _ _)=_
 unfold Op.equalIn
 simp only[q4A,pu,Option.bind_some,ps,hst]
 rw[if_neg (by decide)]
 cases hb:(b1==b2) with
 | false=>
  rw[hb] at h1
  simp[q4A,f1,f2,f3,p1,h1,k5F]
 | true=>
  rw[hb] at h1
  cases hc:(Op.floatEq .f64 r1 r2&&Op.floatEq .f64 i1 i2) with
  | false=>
   rw[hc] at h2
   simp[q4A,f1,f2,f3,p1,h1,g1,g2,g3,p2,h2,k5F]
  | true=>
   rw[hc] at h2
   simp[q4A,f1,f2,f3,p1,h1,g1,g2,g3,p2,h2,k5F]
theorem z8c {b1 b2:Int} {r1 i1 r2 i2:Nat}:eqV (.agg ⟨[.int .i64 b1,.complex .f64 r1 i1]⟩) (.agg ⟨[.int .i64 b2,.complex .f64 r2 i2]⟩)=some (.bool (b1==b2&&(Op.floatEq .f64 r1 r2&&Op.floatEq .f64 i1 i2))):=by
 have hg:q0C Tryz.prog (eqGuard .eql 154 (.tmp 0) (.tmp 1) (.agg ⟨[.int .i64 b1,.complex .f64 r1 i1]⟩) (.agg ⟨[.int .i64 b2,.complex .f64 r2 i2]⟩))=some ():=by kernel_rfl
 have hb:q0C Tryz.prog (binOp .eql 154 (.agg ⟨[.int .i64 b1,.complex .f64 r1 i1]⟩) (.agg ⟨[.int .i64 b2,.complex .f64 r2 i2]⟩))=some (.bool (b1==b2&&(Op.floatEq .f64 r1 r2&&Op.floatEq .f64 i1 i2))):=by
  have:binOp .eql 154 (.agg ⟨[.int .i64 b1,.complex .f64 r1 i1]⟩) (.agg ⟨[.int .i64 b2,.complex .f64 r2 i2]⟩)=(do pure (.bool (←Op.equalIn 10000 154 (.agg ⟨[.int .i64 b1,.complex .f64 r1 i1]⟩) (.agg ⟨[.int .i64 b2,.complex .f64 r2 i2]⟩))):Sem Value):=rfl
  rw[this,q4A,eq_of]
  rfl
 unfold eqV runG
 rw[if_pos (by rfl)]
 show (match q0C Tryz.prog (do let u ←(do eqGuard .eql 154 (.tmp 0) (.tmp 1) (.agg ⟨[.int .i64 b1,.complex .f64 r1 i1]⟩) (.agg ⟨[.int .i64 b2,.complex .f64 r2 i2]⟩);binOp .eql 154 (.agg ⟨[.int .i64 b1,.complex .f64 r1 i1]⟩) (.agg ⟨[.int .i64 b2,.complex .f64 r2 i2]⟩));pure (.value u):Sem Next) with|some (.value v)=>if q0J v then some v else none|_=>none)=_
 rw[q4A,q4A,hg]
 simp only[Option.bind_some,hb,k5F]
 rfl
def upp (s:Int):Int:=if s<256 then s-32 else s-1
theorem z3U {s:Int} {H:q0a} (h:0≤s∧s<100000):cw Tryz.prog (tabF tab) omA 109 [.int .i64 s] H=some (.int .i64 (upp s),H):=by
 rw[q0g (F:=q6c) rfl rfl rfl]
 unfold q6c k0V upp
 have w1:IntKind.i64.wrap (s-32)=s-32:=q0k (by omega) (by omega)
 have w2:IntKind.i64.wrap (s-1)=s-1:=q0k (by omega) (by omega)
 by_cases hs:s<256
 ·rw[if_pos hs]
  simp only[WA,Nat.reduceEqDiff,reduceCtorEq,hs,w1]
 ·rw[if_neg hs]
  simp only[WA,Nat.reduceEqDiff,reduceCtorEq,hs,w2]
structure Lt where
 base:Int
 mark:Nat
 tone:Nat
 sc:Int
def upB (up:Bool) (s:Int):Int:=if up then upp s else s
def letF (up:Bool) (b:Int) (m:Nat):Nat→List Int→List Lt
 | _,[]=>[]
 | k,s::l=>if s=0 then letF up b m (k+1) l else ⟨upB up b,m,k,upB up s⟩::letF up b m (k+1) l
def ltC (x:Lt):List Value:=[.int .i64 x.base,.complex .f64 (fb x.mark) (fb x.tone)]
structure OwnL (H:q0a) (v w:Value) (L:List Lt):Prop where
 ls:Own H 154 2 v L.length (L.flatMap ltC)
 ss:Own H 3 1 w L.length (ints (L.map (·.sc)))
theorem OwnL.add {H:q0a} {v w:Value} {L:List Lt} {x:Lt} (h:OwnL H v w L) (hl:L.length<1000) :
  ∃v' H1 w' H2,q0m (H.push ⟨ltC x,154,.tip,0,[]⟩) v (.slice (some ⟨H.n,0,none⟩) 1 2) 154 2 24=some (v',H1)∧q0m (H1.push ⟨[.int .i64 x.sc],3,.tip,0,[]⟩) w (.slice (some ⟨H1.n,0,none⟩) 1 2) 3 1 8=some (w',H2)∧OwnL H2 v' w' (L++[x])∧From H.n v'∧From H.n w'∧H.n≤H2.n∧∀i,i<H.n→q0i v i→q0i w i→H2.get i=H.get i:=by
 have x1:=Ext.push H ⟨ltC x,154,.tip,0,[]⟩
 have g1:=q0b (H:=H) (b:=⟨ltC x,154,.tip,0,[]⟩)
 obtain ⟨v',H1,a1,a2,a3,a4,a5,a6⟩:=Own.append2 (bytes:=24) (m:=1) (h.ls.ext x1) (Sl.new (n:=1) (c:=2) g1 q0n rfl) (by omega) rfl (by omega)
 rw[q0a.n_push] at a3 a5 a6
 have hne:(154:TypeId)≠3:=by decide
 have hw1:Own H1 3 1 w L.length (ints (L.map (·.sc))):=Own.move (h.ss.ext x1) fun i b hi he=>by
  rw[a6 i (by have:=q0a.lt_of_get hi;rwa [q0a.n_push] at this) ((h.ls.ext x1).notAt_elem hi (by rw[he];decide))]
  exact hi
 have x2:=Ext.push H1 ⟨[.int .i64 x.sc],3,.tip,0,[]⟩
 have g2:=q0b (H:=H1) (b:=⟨[.int .i64 x.sc],3,.tip,0,[]⟩)
 obtain ⟨w',H2,b1,b2,b3,b4,b5,b6⟩:=Own.append2 (bytes:=8) (m:=1) (hw1.ext x2) (Sl.new (n:=1) (c:=2) g2 q0n rfl) (by omega) rfl (by omega)
 rw[q0a.n_push] at b3 b5 b6
 have hv2:Own H2 154 2 v' (L.length+1) (L.flatMap ltC++ltC x):=Own.move (a2.ext x2) fun i b hi he=>by
  rw[b6 i (by have:=q0a.lt_of_get hi;rwa [q0a.n_push] at this) ((hw1.ext x2).notAt_elem hi (by rw[he];decide))]
  exact hi
 refine ⟨v',H1,w',H2,a1,b1,⟨?_,?_⟩,a3.mono (by omega),b3.mono (by omega),by omega,fun i hi n1 n2=>by rw[b6 i (by omega) n2,x2.2 i (by omega),a6 i (by omega) n1,x1.2 i hi]⟩
 ·rw[List.length_append,List.flatMap_append]
  simpa using hv2
 ·rw[List.length_append,List.map_append]
  simpa[ints] using b2
theorem j1w {H:q0a} {el:TypeId} {x y:Value}:q0D el 1 2 [.int .i64 0,.complex .f64 0 0] [(0,2,.agg ⟨[x,y]⟩)] H=some (.slice (some ⟨H.n,0,none⟩) 1 2,H.push ⟨[x,y],el,.tip,0,[]⟩):=rfl
theorem z0T {H:q0a} {a:Int} {x y:Nat}:q2l [.int .i64 0,.complex .f64 0 0] [(0,1,.int .i64 a),(1,1,.complex .f64 x y)] H=some (.agg ⟨[.int .i64 a,.complex .f64 x y]⟩,H):=rfl
theorem v_ix6 {H:q0a} {l:List Int} {k:Nat} {s:Int} (hl:l.length=6) (hk:l[k]?=some s):k4p (.agg ⟨ints l⟩) (.int .i64 k) 6 false 1 H=some (.int .i64 s,H):=by
 have hk6:=(List.getElem?_eq_some_iff.1 hk).1
 unfold k4p
 simp only
 rw[if_pos ⟨by omega,by omega⟩]
 simp[ints,hk]
def KL (H H':q0a):Prop:=∀j blk,H.get j=some blk→blk.elem≠154→blk.elem≠3→H'.get j=some blk
theorem KL.trans {a b c:q0a} (h:KL a b) (k:KL b c):KL a c:=fun j x h1 h2 h3=>k j x (h j x h1 h2 h3) h2 h3
theorem Ext.kl {H H':q0a} (h:Ext H H'):KL H H':=fun j x h1 _ _=>h.get h1
theorem Sl.kl {H H':q0a} (hk:KL H H') {x:Value} {n:Nat} {cs:List Value} (h:Sl H 8 x n cs) (hc:Cut Tryz.prog H x 8):Sl H' 8 x n cs∧Cut Tryz.prog H' x 8:=by
 obtain ⟨⟨a,c,rfl⟩,h2⟩:=h
 cases a with
 | none=>exact ⟨⟨⟨_,_,rfl⟩,by rw[←h2];cases n<;>cases c<;>rfl⟩,trivial⟩
 | some a=>
  obtain ⟨i,o,sp⟩:=a
  cases sp with
  | some s=>exact ⟨⟨⟨_,_,rfl⟩,by rw[←h2];cases n<;>cases c<;>rfl⟩,trivial⟩
  | none=>
   obtain ⟨b,g1,g2⟩:=hc
   have l2:(Tryz.prog.info? 154).map (·.size)=some 2:=by kernel_rfl
   have l1:(Tryz.prog.info? 3).map (·.size)=some 1:=by kernel_rfl
   have g3:=hk i b g1 (fun e=>by rw[e,l2] at g2;exact absurd g2 (by decide)) (fun e=>by rw[e,l1] at g2;exact absurd g2 (by decide))
   refine ⟨⟨⟨_,_,rfl⟩,?_⟩,b,g3,g2⟩
   rw[←h2]
   unfold cellsOf
   simp only
   rw[g1,g3]
theorem l_A0 {H0:q0a} {z11 z12 z13 z17 z18 z19:Value} {up:Bool} {b:Int} {m q7:Nat} {l:List Int} (hl:l.length=6) (hb:0≤b∧b<100000) (hm:m<6) (hs:∀s∈l,0≤s∧s<100000):∀(c k:Nat) (H:q0a) (v w:Value) (L:List Lt),k+c=6→OwnL H v w L→From H0.n v→From H0.n w→Ext H0 H→H.get q7=some ⟨.int .i64 b::.int .i64 m::ints l,209,.tip,1,[]⟩→L.length+c<900 →
  Out (run Tryz.prog (tabF tab) omA (.loop [2,3,5,7,11,12,13,17,18,19,24,25] q4W) [(2,v),(3,w),(5,.bool up),(7,.pointer (some ⟨q7,0,none⟩)),(11,z11),(12,z12),(13,z13),(17,z17),(18,z18),(19,z19),(24,.agg ⟨ints l⟩),(25,.int .i64 k)] H) fun y e' H'=>y=.exit 4∧eget e' 5=.bool up∧eget e' 11=z11∧eget e' 12=z12∧eget e' 13=z13∧eget e' 17=z17∧eget e' 18=z18∧eget e' 19=z19∧OwnL H' (eget e' 2) (eget e' 3) (L++letF up b m k (l.drop k))∧From H0.n (eget e' 2)∧From H0.n (eget e' 3)∧Ext H0 H'∧KL H H':=by
 intro c
 induction c with
 | zero=>
  intro k H v w L hk ho f1 f2 hx hg hL
  obtain rfl:k=6:=by omega
  have z:(((6:Nat):Int)<6)=False:=by simp
  rw[q0d q4W.eq_1,List.drop_of_length_le (by omega)]
  simp only[WA,Nat.reduceEqDiff,Int.reduceLT,Int.cast_ofNat_Int,letF]
  exact ⟨ho,f1,f2,hx,fun _ _ h _ _=>h⟩
 | succ c ih=>
  intro k H v w L hk ho f1 f2 hx hg hL
  have hlt:(k:Int)<6:=by omega
  obtain ⟨s,hsk,hd⟩:=q0z (L:=l) (i:=k) (by omega)
  have hss:=hs s (List.mem_of_getElem? hsk)
  have ix:=fun H=>v_ix6 (H:=H) hl hsk
  have hw2:IntKind.i64.wrap ((k:Int)+1)=((k+1:Nat):Int):=by rw[q0k (by omega) (by omega)];omega
  rw[hd]
  unfold letF
  by_cases h0:s=0
  ·subst h0
   obtain ⟨y,e',H',r1,r2⟩:=ih (k+1) H v w L (by omega) ho f1 f2 hx hg (by omega)
   have z0:((0:Int)=0)=True:=by simp
   rw[if_pos rfl]
   rw[q0d q4W.eq_1]
   simp only[WA,Nat.reduceEqDiff,hlt,ix,hw2]
   rw[q0e]
   simp only[WA,Nat.reduceEqDiff,r1]
   exact r2
  ·have z0:(s=0)=False:=eq_false h0
   rw[if_neg h0]
   obtain ⟨v',H1,w',H2,a1,a2,a3,a4,a5,a6,a7⟩:=ho.add (x:=⟨upB up b,m,k,upB up s⟩) (by omega)
   have n1:q0i v q7:=ho.ls.notAt_elem hg (by simp only;decide)
   have n2:q0i w q7:=ho.ss.notAt_elem hg (by simp only;decide)
   have hg2:H2.get q7=some ⟨.int .i64 b::.int .i64 m::ints l,209,.tip,1,[]⟩:=by rw[a7 q7 (q0a.lt_of_get hg) n1 n2];exact hg
   have x2:Ext H0 H2:=⟨by have:=hx.1;omega,fun j hj=>by rw[a7 j (by have:=hx.1;omega) (q0i.of_from f1 hj) (q0i.of_from f2 hj)];exact hx.2 j hj⟩
   have kl2:KL H H2:=fun j blk hj e1 e2=>by rw[a7 j (q0a.lt_of_get hj) (ho.ls.notAt_elem hj e1) (ho.ss.notAt_elem hj e2)];exact hj
   obtain ⟨y,e',H',r1,p1,p2,p3,p4,p5,p6,p7,p8,p9,p10,p11,p12,p13⟩:=ih (k+1) H2 v' w' (L++[⟨upB up b,m,k,upB up s⟩]) (by omega) a3 (a4.mono hx.1) (a5.mono hx.1) x2 hg2 (by simp;omega)
   have hap:(L++[⟨upB up b,m,k,upB up s⟩])++letF up b m (k+1) (l.drop (k+1))=L++(⟨upB up b,m,k,upB up s⟩::letF up b m (k+1) (l.drop (k+1))):=by simp
   rw[hap] at p9
   have r2:=(⟨p1,p2,p3,p4,p5,p6,p7,p8,p9,p10,p11,p12,kl2.trans p13⟩:y=.exit 4∧eget e' 5=.bool up∧eget e' 11=z11∧eget e' 12=z12∧eget e' 13=z13∧eget e' 17=z17∧eget e' 18=z18∧eget e' 19=z19∧_∧_∧_∧_∧KL H H')
   have cm:=z0R m hm
   have ck:=z0R k (by omega)
   rw[q0d q4W.eq_1]
   cases up with
   | false=>
    simp only[upB,Bool.false_eq_true,if_false,ltC] at a1 a2
    simp only[WA,Nat.reduceEqDiff,hlt,ix,z0,hg,z0P,cm,ck,z0Q,z0S,z0T,j1w,a1,z0K,a2,hw2]
    rw[q0e]
    simp only[WA,Nat.reduceEqDiff,r1]
    exact r2
   | true=>
    have cb:=z3U (H:=H) hb
    have cs:=z3U (H:=H) hss
    simp only[upB,if_true,ltC] at a1 a2
    simp only[WA,Nat.reduceEqDiff,hlt,ix,z0,hg,cb,cs,z0P,cm,ck,z0Q,z0S,z0T,j1w,a1,z0K,a2,hw2]
    rw[q0e]
    simp only[WA,Nat.reduceEqDiff,r1]
    exact r2
def lets (up:Bool) (r:Int×Int×List Int):List Lt:=letF up r.1 r.2.1.toNat 0 (pad6 r.2.2)
theorem z0U {up:Bool} {b:Int} {m:Nat}:∀{l:List Int} {k:Nat},(letF up b m k l).length≤l.length
 | [],k=>Nat.le_refl _
 | s::l,k=>by
  unfold letF
  have:=z0U (up:=up) (b:=b) (m:=m) (l:=l) (k:=k+1)
  split<;>simp only[List.length_cons]<;>omega
theorem j1x:∀r∈RV,(0≤r.1∧r.1<100000)∧(0≤r.2.1∧r.2.1<6)∧(pad6 r.2.2).length=6∧∀s∈pad6 r.2.2,0≤s∧s<100000:=by
 have h:RV.all (fun r=>(decide (0≤r.1)&&decide (r.1<100000))&&((decide (0≤r.2.1)&&decide (r.2.1<6))&&(Nat.beq (pad6 r.2.2).length 6&&(pad6 r.2.2).all fun s=>decide (0≤s)&&decide (s<100000))))=true:=by kernel_rfl
 intro r hr
 have:=List.all_eq_true.1 h r hr
 simp only[Bool.and_eq_true,decide_eq_true_eq,List.all_eq_true] at this
 exact ⟨this.1,this.2.1,Nat.eq_of_beq_eq_true this.2.2.1,this.2.2.2⟩
theorem k7C:∀(R:List (Int×Int×List Int)) (k:Nat),(∀r∈R,(vrow r).length=8)→(R.flatMap vrow).drop (k*8)=(R.drop k).flatMap vrow
 | [],k,_=>by simp
 | r::R,0,_=>by simp
 | r::R,k+1,h=>by
  have h8:=h r (List.mem_cons_self ..)
  rw[List.flatMap_cons,List.drop_succ_cons,←k7C R k fun x hx=>h x (List.mem_cons_of_mem _ hx)]
  rw[show (k+1)*8=(vrow r).length+k*8 by omega,List.drop_append,List.drop_of_length_le (by omega),List.nil_append]
  congr 1
  omega
theorem k1A {r:Int×Int×List Int} (h:(pad6 r.2.2).length=6):(vrow r).length=8:=by unfold vrow;simp[ints,h]
theorem z9n {H:q0a} {i:Nat} {r:Int×Int×List Int} (h:(pad6 r.2.2).length=6):q0u (some ⟨[.int .i64 0,.int .i64 0,.int .i64 0,.int .i64 0,.int .i64 0,.int .i64 0,.int .i64 0,.int .i64 0],209,.tip,0,[]⟩) i 0 (.agg ⟨vrow r⟩) 8 H=some (.tuple ⟨[]⟩,H.upd i ⟨vrow r,209,.tip,1,[]⟩):=by
 have hl:=k1A h
 have ho:(vrow r).all one=true:=by unfold vrow;simp[one,ints]
 have:=q0x (H:=H) (cells:=[.int .i64 0,.int .i64 0,.int .i64 0,.int .i64 0,.int .i64 0,.int .i64 0,.int .i64 0,.int .i64 0]) (el:=209) (ver:=0) (anc:=[]) (i:=i) (o:=0) (n:=8) (v:=.agg ⟨vrow r⟩) hl ho (Nat.le_refl 8)
 rw[this]
 simp[Value.cells]
 rfl
theorem z9o {H:q0a} {r:Int×Int×List Int} {el:TypeId} {ver:Nat} (h:(pad6 r.2.2).length=6):q0l (some ⟨vrow r,el,.tip,ver,[]⟩) 2 (some 6) H=some (.agg ⟨ints (pad6 r.2.2)⟩,H):=by
 unfold q0l
 have hl:(ints (pad6 r.2.2)).length=6:=by simp[ints,h]
 simp only[vrow,List.length_cons,hl]
 rw[if_pos (by rfl)]
 simp
 exact List.take_of_length_le (by omega)
theorem l_A1 {H0:q0a} {z11 z12 z13 x:Value} {up:Bool}:∀(c k:Nat) (H:q0a) (v w:Value) (L:List Lt),k+c=14→OwnL H v w L→From H0.n v→From H0.n w→Ext H0 H→Sl H 8 x 14 (RV.flatMap vrow)→Cut Tryz.prog H x 8→L.length+6*c<800 →
  Out (run Tryz.prog (tabF tab) omA (.loop [2,3,5,11,12,13,17,18,19] q5X) [(2,v),(3,w),(5,.bool up),(11,z11),(12,z12),(13,z13),(17,x),(18,.int .i64 14),(19,.int .i64 k)] H) fun y e' H'=>y=.exit 2∧eget e' 11=z11∧eget e' 12=z12∧eget e' 13=z13∧OwnL H' (eget e' 2) (eget e' 3) (L++(RV.drop k).flatMap (lets up))∧From H0.n (eget e' 2)∧From H0.n (eget e' 3)∧Ext H0 H'∧KL H H':=by
 intro c
 induction c with
 | zero=>
  intro k H v w L hk ho f1 f2 hx hxr hxc hL
  obtain rfl:k=14:=by omega
  have z:(((14:Nat):Int)<14)=False:=by simp
  rw[q0d q5X.eq_1,show RV.drop 14=[] from rfl,List.flatMap_nil]
  simp only[WA,Nat.reduceEqDiff,Int.reduceLT,Int.cast_ofNat_Int]
  exact ⟨ho,f1,f2,hx,fun _ _ h _ _=>h⟩
 | succ c ih=>
  intro k H v w L hk ho f1 f2 hx hxr hxc hL
  have hlt:(k:Int)<14:=by omega
  obtain ⟨r,hr,hd⟩:=q0z (L:=RV) (i:=k) (by show k<14;omega)
  obtain ⟨⟨r1,r2⟩,⟨r3,r4⟩,r5,r6⟩:=j1x r (List.mem_of_getElem? hr)
  obtain ⟨m,hm⟩:∃m:Nat,r.2.1=m:=⟨r.2.1.toNat,by omega⟩
  obtain ⟨i,o,a1,a2,a3⟩:=Sl.at hxr (k:=k) (by omega)
  rw[k7C RV k fun x hx=>k1A (j1x x hx).2.2.1,hd,List.flatMap_cons,show (8:Nat)=(vrow r).length from (k1A r5).symm,List.take_left,k1A r5] at a3
  have hw2:IntKind.i64.wrap ((k:Int)+1)=((k+1:Nat):Int):=by rw[q0k (by omega) (by omega)];omega
  obtain ⟨H1,hH1⟩:∃H1,H1=H.push ⟨vrow r,209,.tip,1,[]⟩:=⟨_,rfl⟩
  have x1:Ext H H1:=by rw[hH1];exact Ext.push H _
  have g1:H1.get H.n=some ⟨vrow r,209,.tip,1,[]⟩:=by rw[hH1];exact q0b
  have hst:=z9n (H:=H.push ⟨[.int .i64 0,.int .i64 0,.int .i64 0,.int .i64 0,.int .i64 0,.int .i64 0,.int .i64 0,.int .i64 0],209,.tip,0,[]⟩) (i:=H.n) r5
  have g1':H1.get H.n=some ⟨.int .i64 r.1::.int .i64 (m:Nat)::ints (pad6 r.2.2),209,.tip,1,[]⟩:=by rw[g1];unfold vrow;rw[hm]
  have hlen:=z0U (up:=up) (b:=r.1) (m:=m) (l:=pad6 r.2.2) (k:=0)
  obtain ⟨y,e',H2,q1,rfl,q2,q3,q4,q5,q6,q7,q8,q9,q10,q11,q12,q13⟩:=l_A0 (z11:=z11) (z12:=z12) (z13:=z13) (z17:=x) (z18:=.int .i64 14) (z19:=.int .i64 k) (up:=up) r5 ⟨r1,r2⟩ (m:=m) (by omega) r6 6 0 H1 v w L (by omega) ⟨ho.ls.ext x1,ho.ss.ext x1⟩ f1 f2 (hx.trans x1) g1' (by omega)
  rw[List.drop_zero] at q9
  have e1:letF up r.1 m 0 (pad6 r.2.2)=lets up r:=by unfold lets;rw[hm];rfl
  rw[e1] at q9
  have hxk:KL H H2:=(Ext.kl x1).trans q13
  obtain ⟨hx2,hxc2⟩:=Sl.kl hxk hxr hxc
  obtain ⟨y,e2,H3,p1,p2,p3,p4,p5,p6,p7,p8,p9,p10⟩:=ih (k+1) H2 (eget e' 2) (eget e' 3) (L++lets up r) (by omega) q9 q10 q11 q12 hx2 hxc2 (by rw[List.length_append];rw[e1,r5] at hlen;omega)
  have hap:(L++lets up r)++(RV.drop (k+1)).flatMap (lets up)=L++(RV.drop k).flatMap (lets up):=by rw[hd];simp
  rw[hap] at p6
  rw[show ((0:Nat):Int)=0 from rfl] at q1
  rw[q0d q5X.eq_1]
  simp only[WA,Nat.reduceEqDiff,hlt,a1,a3,hst,←hH1,g1,z9o r5]
  rw[q0e]
  simp only[WA,Nat.reduceEqDiff,q1,q8,hw2]
  rw[q0e]
  simp only[WA,Nat.reduceEqDiff,q2,q3,q4,q5,q6,q7,p1]
  exact ⟨p2,p3,p4,p5,p6,p7,p8,p9,hxk.trans p10⟩
def LA (up:Bool):List Lt:=RV.flatMap (lets up)
theorem k2T (up:Bool):(LA up).length=74:=by cases up<;>kernel_rfl
theorem l_A2 {H0:q0a} {qz:Nat}:∀(c k:Nat) (H:q0a) (v w:Value) (L:List Lt),k+c=2→OwnL H v w L→From H0.n v→From H0.n w→Ext H0 H→H.get qz=some ⟨[.bool false,.bool true],4,.tip,0,[]⟩→L.length=74*k →
  Out (run Tryz.prog (tabF tab) omA (.loop [2,3,11,12,13] q5Y) [(2,v),(3,w),(11,.slice (some ⟨qz,0,none⟩) 2 3),(12,.int .i64 2),(13,.int .i64 k)] H) fun y e' H'=>y=.exit 0∧OwnL H' (eget e' 2) (eget e' 3) (L++([false,true].drop k).flatMap LA)∧From H0.n (eget e' 2)∧From H0.n (eget e' 3)∧Ext H0 H':=by
 intro c
 induction c with
 | zero=>
  intro k H v w L hk ho f1 f2 hx hg hL
  obtain rfl:k=2:=by omega
  have z:(((2:Nat):Int)<2)=False:=by simp
  rw[q0d q5Y.eq_1,show ([false,true]:List Bool).drop 2=[] from rfl,List.flatMap_nil]
  simp only[WA,Nat.reduceEqDiff,Int.reduceLT,Int.cast_ofNat_Int]
  exact ⟨ho,f1,f2,hx⟩
 | succ c ih=>
  intro k H v w L hk ho f1 f2 hx hg hL
  have hlt:(k:Int)<2:=by omega
  obtain ⟨up,hup,hd⟩:=q0z (L:=[false,true]) (i:=k) (by show k<2;omega)
  have hs:Sl H 1 (.slice (some ⟨qz,0,none⟩) 2 3) 2 [.bool false,.bool true]:=Sl.new (n:=2) (c:=3) hg q0n rfl
  obtain ⟨i,o,a1,a2,_⟩:=Sl.at hs (k:=k) (by omega)
  have a2':=a2 0 (.bool up) (by decide) (by
   have:([false,true]:List Bool)[k]?=some up:=hup
   match k,hk with
   | 0,_=>simp at this;subst this;rfl
   | 1,_=>simp at this;subst this;rfl)
  rw[Nat.add_zero] at a2'
  obtain ⟨H1,hH1⟩:∃H1,H1=H.push ⟨RV.flatMap vrow,209,.tip,0,[]⟩:=⟨_,rfl⟩
  have x1:Ext H H1:=by rw[hH1];exact Ext.push H _
  have g1:H1.get H.n=some ⟨RV.flatMap vrow,209,.tip,0,[]⟩:=by rw[hH1];exact q0b
  have cr:=z9m H
  rw[←hH1] at cr
  have hw2:IntKind.i64.wrap ((k:Int)+1)=((k+1:Nat):Int):=by rw[q0k (by omega) (by omega)];omega
  obtain ⟨y,e',H2,q1,rfl,q2,q3,q4,q5,q6,q7,q8,q9⟩:=l_A1 (z11:=.slice (some ⟨qz,0,none⟩) 2 3) (z12:=.int .i64 2) (z13:=.int .i64 k) (x:=.slice (some ⟨H.n,0,none⟩) 14 15) (up:=up) 14 0 H1 v w L (by omega) ⟨ho.ls.ext x1,ho.ss.ext x1⟩ f1 f2 (hx.trans x1) (Sl.new (n:=14) (c:=15) g1 q0n (by kernel_rfl)) (Cut.new g1 (by kernel_rfl)) (by omega)
  rw[List.drop_zero] at q5
  have hg2:=q9 qz _ (x1.get hg) (by simp only;decide) (by simp only;decide)
  obtain ⟨y,e2,H3,p1,p2,p3⟩:=ih (k+1) H2 (eget e' 2) (eget e' 3) (L++LA up) (by omega) q5 q6 q7 q8 hg2 (by rw[List.length_append,k2T];omega)
  have hap:(L++LA up)++(([false,true]:List Bool).drop (k+1)).flatMap LA=L++(([false,true]:List Bool).drop k).flatMap LA:=by rw[hd];simp
  rw[hap] at p3
  have hl14:∀H2:q0a,vLen false (.slice (some ⟨H.n,0,none⟩) 14 15) H2=some (.int .i64 14,H2):=fun _=>rfl
  rw[show ((0:Nat):Int)=0 from rfl] at q1
  rw[q0d q5Y.eq_1]
  simp only[WA,Nat.reduceEqDiff,hlt,a1,a2',cr,hl14]
  rw[q0e]
  simp only[WA,Nat.reduceEqDiff,q1,q4,hw2]
  rw[q0e]
  simp only[WA,Nat.reduceEqDiff,q2,q3,p1]
  exact ⟨p2,p3⟩
def VL:List Lt:=LA false++LA true
theorem k7D:VL.length=148:=by unfold VL;rw[List.length_append,k2T,k2T]
theorem z9p {H:q0a}:q0D 4 2 1 [.bool false] [(0,1,.bool false),(1,1,.bool true)] H=some (.slice (some ⟨H.n,0,none⟩) 2 3,H.push ⟨[.bool false,.bool true],4,.tip,0,[]⟩):=rfl
theorem c_All {H:q0a}:q0p (cw Tryz.prog (tabF tab) omA 84 [] H) fun v H'=>Ext H H'∧∃a b,v=.tuple ⟨[a,b]⟩∧OwnL H' a b VL:=by
 rw[q0g (F:=q8o) rfl rfl rfl]
 unfold q8o k4c
 obtain ⟨H1,hH1⟩:∃H1,H1=H.push ⟨[.bool false,.bool true],4,.tip,0,[]⟩:=⟨_,rfl⟩
 have x1:Ext H H1:=by rw[hH1];exact Ext.push H _
 have g1:H1.get H.n=some ⟨[.bool false,.bool true],4,.tip,0,[]⟩:=by rw[hH1];exact q0b
 have cb:=z9p (H:=H)
 rw[←hH1] at cb
 obtain ⟨y,e',H2,q1,rfl,q2,q3,q4,q5⟩:=l_A2 (H0:=H) 2 0 H1 (.slice none 0 0) (.slice none 0 0) [] (by omega) ⟨⟨rfl,.inl ⟨rfl,rfl⟩⟩,⟨rfl,.inl ⟨rfl,rfl⟩⟩⟩ trivial trivial x1 g1 rfl
 have e1:([]:List Lt)++([false,true].drop 0).flatMap LA=VL:=by simp[VL]
 rw[e1] at q2
 rw[show ((0:Nat):Int)=0 from rfl] at q1
 have hl2:∀H2:q0a,vLen false (.slice (some ⟨H.n,0,none⟩) 2 3) H2=some (.int .i64 2,H2):=fun _=>rfl
 simp only[WA,Nat.reduceEqDiff,reduceCtorEq,cb,hl2]
 rw[q0e]
 simp only[WA,Nat.reduceEqDiff,reduceCtorEq,q1]
 exact ⟨q5,_,_,rfl,q2⟩
def j1y (x:Lt) (b:Int) (r i:Nat):Bool:=x.base==b&&(Op.floatEq .f64 (fb x.mark) r&&Op.floatEq .f64 (fb x.tone) i)
def jn:List Lt→Int→Nat→Nat→Option Int
 | [],_,_,_=>none
 | x::L,b,r,i=>if j1y x b r i=true then some x.sc else jn L b r i
theorem z5W {H H':q0a} (hx:Ext H H') {i o:Nat} {k:Option Nat} {v:Value} (h:q0l (H.get i) o k H=some (v,H)):q0l (H'.get i) o k H'=some (v,H'):=by
 cases hg:H.get i with
 | none=>rw[hg] at h;cases h
 | some b=>
  rw[hx.get hg]
  rw[hg] at h
  unfold q0l at h ⊢
  rw[Option.map_eq_some_iff] at h
  obtain ⟨u,h3,h4⟩:=h
  injection h4 with h4 _
  rw[h3,h4]
  rfl
theorem z0V:∀(L:List Lt) (k:Nat),(L.flatMap ltC).drop (k*2)=(L.drop k).flatMap ltC
 | [],k=>by simp
 | x::L,0=>by simp
 | x::L,k+1=>by rw[show (k+1)*2=k*2+1+1 by omega];exact z0V L k
theorem z8d {H:q0a} {a b:Value}:vBox (.agg ⟨[a,b]⟩) 154 H=some (.pointer (some ⟨H.n,0,none⟩),H.push ⟨[a,b],154,.tip,0,[]⟩):=rfl
theorem l_J0 {H0:q0a} {q1:Nat} {a bb:Value} {b:Int} {r i:Nat} (hA:OwnL H0 a bb VL) (hg:H0.get q1=some ⟨[.int .i64 b,.complex .f64 r i],154,.tip,0,[]⟩):∀(c k:Nat) (H:q0a),k+c=148→Ext H0 H →
  Out (run Tryz.prog (tabF tab) omA (.loop [1,5,12,13,14] q5v) [(1,.pointer (some ⟨q1,0,none⟩)),(5,bb),(12,a),(13,.int .i64 148),(14,.int .i64 k)] H) fun y e' H'=>Ext H0 H'∧((jn (VL.drop k) b r i=none∧y=.exit 0)∨(∃s,jn (VL.drop k) b r i=some s∧y=.ret∧eget e' 2=.int .i64 s∧eget e' 3=.bool true)):=by
 intro c
 induction c with
 | zero=>
  intro k H hk hx
  obtain rfl:k=148:=by omega
  have z:(((148:Nat):Int)<148)=False:=by simp
  rw[q0d q5v.eq_1,List.drop_of_length_le (by rw[k7D];exact Nat.le_refl _)]
  simp only[WA,Nat.reduceEqDiff,reduceCtorEq,Int.reduceLT,Int.cast_ofNat_Int]
  exact ⟨hx,.inl rfl⟩
 | succ c ih=>
  intro k H hk hx
  have hlt:(k:Int)<148:=by omega
  obtain ⟨x,hxk,hd⟩:=q0z (L:=VL) (i:=k) (by rw[k7D];omega)
  obtain ⟨i1,o1,a1,a2,a3⟩:=Sl.at (hA.ls.sl.ext hx) (k:=k) (by rw[k7D];omega)
  rw[z0V,hd] at a3
  have a3':q0l (H.get i1) o1 (some 2) H=some (.agg ⟨ltC x⟩,H):=a3
  have hsc:(VL.map (·.sc))[k]?=some x.sc:=by rw[List.getElem?_map,hxk];rfl
  have hss:Ints H bb (VL.map (·.sc)):=by
   have:=hA.ss.sl.ext hx
   unfold Ints
   rw[List.length_map]
   exact this
  obtain ⟨i2,o2,d1,d2⟩:=hss.at hsc
  have hw2:IntKind.i64.wrap ((k:Int)+1)=((k+1:Nat):Int):=by rw[q0k (by omega) (by omega)];omega
  unfold ltC at a3'
  obtain ⟨H1,hH1⟩:∃H1,H1=H.push ⟨[.int .i64 x.base,.complex .f64 (fb x.mark) (fb x.tone)],154,.tip,1,[]⟩:=⟨_,rfl⟩
  have x1:Ext H H1:=by rw[hH1];exact Ext.push H _
  have g1:H1.get H.n=some ⟨[.int .i64 x.base,.complex .f64 (fb x.mark) (fb x.tone)],154,.tip,1,[]⟩:=by rw[hH1];exact q0b
  have x01:=hx.trans x1
  have hq:=x01.get hg
  have d2':=z5W x1 d2
  rw[hd]
  unfold jn
  rw[q0d q5v.eq_1]
  cases he:j1y x b r i with
  | true=>
   have he':(x.base==b&&(Op.floatEq .f64 (fb x.mark) r&&Op.floatEq .f64 (fb x.tone) i))=true:=he
   simp only[WA,Nat.reduceEqDiff,Nat.reduceAdd,reduceCtorEq,hlt,a1,a3',←hH1,g1,hq,z8b,z8c,he',d1,d2']
   exact ⟨x01,.inr ⟨x.sc,rfl,rfl⟩⟩
  | false=>
   have he':(x.base==b&&(Op.floatEq .f64 (fb x.mark) r&&Op.floatEq .f64 (fb x.tone) i))=false:=he
   obtain ⟨y,e',H',r1,r2⟩:=ih (k+1) H1 (by omega) x01
   simp only[WA,Nat.reduceEqDiff,Nat.reduceAdd,hlt,a1,a3',←hH1,g1,hq,z8b,z8c,he',hw2,Bool.false_eq_true]
   rw[q0e]
   simp only[WA,Nat.reduceEqDiff,r1]
   exact r2
theorem j1z {b:Int} {r i:Nat} {H:q0a}:q0p (cw Tryz.prog (tabF tab) omA 110 [.agg ⟨[.int .i64 b,.complex .f64 r i]⟩] H) fun v H'=>Ext H H'∧v=.tuple ⟨[.int .i64 ((jn VL b r i).getD 0),.bool (jn VL b r i).isSome]⟩:=by
 rw[q0g (F:=q7f) rfl rfl rfl]
 unfold q7f k2r
 obtain ⟨H1,hH1⟩:∃H1,H1=H.push ⟨[.int .i64 b,.complex .f64 r i],154,.tip,0,[]⟩:=⟨_,rfl⟩
 have x1:Ext H H1:=by rw[hH1];exact Ext.push H _
 have g1:H1.get H.n=some ⟨[.int .i64 b,.complex .f64 r i],154,.tip,0,[]⟩:=by rw[hH1];exact q0b
 obtain ⟨v2,H2,c2,x2,va,vb,rfl,oA⟩:=c_All (H:=H1)
 have hl:=fun H2=>oA.ls.sl.len (H2:=H2)
 rw[k7D] at hl
 simp only[Int.cast_ofNat_Int] at hl
 obtain ⟨y,e',H3,r1,x3,r2⟩:=l_J0 (q1:=H.n) (b:=b) (r:=r) (i:=i) oA (x2.get g1) 148 0 H2 (by omega) (Ext.refl _)
 rw[List.drop_zero] at r2
 rw[show ((0:Nat):Int)=0 from rfl] at r1
 have xx:=(x1.trans x2).trans x3
 rcases r2 with ⟨n1,rfl⟩|⟨s,n1,rfl,n2,n3⟩
 ·rw[n1]
  simp only[WA,Nat.reduceEqDiff,reduceCtorEq,z8d,←hH1,c2,hl]
  rw[q0e]
  simp only[WA,Nat.reduceEqDiff,reduceCtorEq,r1,Option.getD_none,Option.isSome_none]
  exact xx
 ·rw[n1]
  simp only[WA,Nat.reduceEqDiff,reduceCtorEq,z8d,←hH1,c2,hl]
  rw[q0e]
  simp only[WA,Nat.reduceEqDiff,reduceCtorEq,r1,n2,n3,Option.getD_some,Option.isSome_some]
  exact xx
def low14:List Int:=[0x01,0x02,0x03,0x05,0x06,0x07,0x08,0x09,0x0a,0x0b,0x0e,0x0f,0x10,0x0d,0x12,0x13,0x14,0x11,0x15,0x16,0x17,0x18,0x19,0x1a,0x1b,0x1c,0x1d,0x1e,0x1f,0x20,0x21,0x22,0x23,0x24,0x25,0x26,0x27,0x28,0x29,0x2a,0x2b,0x2c,0x2d,0x2e,0x2f,0x5f,0x30,0x31,0x32,0x33,0x34,0x35,0x36,0x37,0x38,0x39]
def j1A:List Int:=[0x3e,0x3f,0x40,0x41,0x42,0x43,0x46,0x47,0x48,0x45,0x4a,0x4b,0x4c,0x49,0x4d,0x3c]
def plT:List (Int×Bool):=List.replicate 161 (0,false)++(low14.map fun n=>(n,true))++[(0,false)]++(j1A.map fun n=>(n,true))++List.replicate 7 (0,false)++[(102,true),(103,true),(104,true),(105,true),(106,true),(107,true),(108,true),(109,true),(110,true),(111,true),(0,false),(0,false),(0,false),(0,false),(0,false)]
def plV (p:Int×Bool):List Value:=[.int .i64 p.1,.bool p.2]
def pl (c:Int):Int×Bool:=plT.getD c.toNat (0,false)
def isPl (r:Option (Value×q0a)) (p:Int×Bool):Bool:=match r with
 | some (.tuple ⟨[.int .i64 n,.bool b]⟩,_)=>n==p.1&&b==p.2
 | _=>false
theorem z3V {r:Option (Value×q0a)} {p:Int×Bool} (h:isPl r p=true):∃H,r=some (.tuple ⟨plV p⟩,H):=by
 unfold isPl at h
 split at h
 ·rename_i n b H
  simp only[Bool.and_eq_true,beq_iff_eq] at h
  obtain ⟨rfl,rfl⟩:=h
  exact ⟨H,rfl⟩
 ·cases h
theorem z9q:((List.range 256).all fun c=>isPl (k3F Tryz.prog (tabB tab) om0 10 126 [.int .u8 c] q0a.empty) (plT.getD c (0,false)))=true:=by kernel_rfl
theorem z5X {c:Int} (hc:0≤c∧c<256):∃H',cw Tryz.prog (tabF tab) om0 126 [.int .u8 c] q0a.empty=some (.tuple ⟨plV (pl c)⟩,H'):=by
 obtain ⟨j,rfl⟩:∃j:Nat,c=j:=⟨c.toNat,by omega⟩
 obtain ⟨H',h⟩:=z3V (List.all_eq_true.mp z9q j (List.mem_range.mpr (by omega)))
 exact ⟨H',q6m 10 h⟩
theorem z9r (p:Int×Bool):flat (.tuple ⟨plV p⟩)=true:=rfl
def plO (c:Int) (H:q0a):Option (Value×q0a):=match c with
 | .ofNat n=>cond (Nat.blt n 256) (some (.tuple ⟨plV (plT.getD n (0,false))⟩,H)) none
 | _=>none
theorem z5Y {c:Int} {H:q0a} {r:Value×q0a} (h:plO c H=some r):(0≤c∧c<256)∧r=(.tuple ⟨plV (pl c)⟩,H):=by
 unfold plO at h
 split at h
 ·rename_i n
  cases hb:Nat.blt n 256 with
  | false=>rw[hb] at h;cases h
  | true=>
   rw[hb] at h
   injection h with h
   have:n<256:=by simpa[Nat.blt_eq] using hb
   exact ⟨⟨by simp,by simp;omega⟩,h.symm⟩
 ·cases h
noncomputable def omV:q0F:=fun g args H=>match g,args with
 | 110,[.agg ⟨[.int .i64 b,.complex .f64 r i]⟩]=>some (.tuple ⟨[.int .i64 ((jn VL b r i).getD 0),.bool (jn VL b r i).isSome]⟩,H)
 | 126,[.int .u8 c]=>plO c H
 | _,_=>none
theorem omokV {base:Nat}:∀g args H v H',omV g args H=some (v,H')→Sim Tryz.prog base g args H v H':=by
 intro g args H v H' h
 unfold omV at h
 split at h
 ·rename_i b r i
  injection h with h
  injection h with h1 h2
  subst h1 h2
  obtain ⟨v,H',c,x,rfl⟩:=j1z (b:=b) (r:=r) (i:=i) (H:=H)
  exact z5J (q9w (by kernel_rfl) gok z5U c) x rfl
 ·rename_i c
  obtain ⟨hc,h2⟩:=z5Y h
  injection h2 with h1 h2
  subst h1 h2
  obtain ⟨H',hH⟩:=z5X hc
  exact k0E (fun base=>sim0 hH) rfl (z9r _) base _
 ·cases h
theorem simV {base:Nat} {g:FuncId} {args:List Value} {H H':q0a} {v:Value} (h:cw Tryz.prog (tabF tab) omV g args H=some (v,H')):Sim Tryz.prog base g args H v H':=q9w (by kernel_rfl) gok omokV h
end Go.Proofs.YtleiinhaljdcoaaGreatDoor
