/- What is proved here: what the program's functions come to, as far as the claimed statement asks. Conditions: those that each theorem names, and no others. -/
import Derived.Test.YtleiinhaljdcoaaGreatDoorP3
set_option linter.unusedSimpArgs false
set_option linter.unusedVariables false
namespace Lon
open Go
def iLt (a b:Int):Bool:=match a,b with
 | .ofNat m,.ofNat n=>Nat.blt m n
 | .ofNat _,.negSucc _=>false
 | .negSucc _,.ofNat _=>true
 | .negSucc m,.negSucc n=>Nat.blt n m
def iEq (a b:Int):Bool:=match a,b with
 | .ofNat m,.ofNat n=>Nat.beq m n
 | .negSucc m,.negSucc n=>Nat.beq m n
 | _,_=>false
theorem j1c (a b:Int):iLt a b=decide (a<b):=by
 unfold iLt
 split
 ·rename_i m n
  by_cases h:m<n
  ·have:Nat.blt m n=true:=by simp[Nat.blt_eq,h]
   rw[this];symm;simp;omega
  ·have:Nat.blt m n=false:=by
    cases hb:Nat.blt m n with
    | false=>rfl
    | true=>exact absurd (by simpa[Nat.blt_eq] using hb) h
   rw[this];symm;simp;omega
 ·symm;simp;omega
 ·symm;simp;omega
 ·rename_i m n
  by_cases h:n<m
  ·have:Nat.blt n m=true:=by simp[Nat.blt_eq,h]
   rw[this];symm;simp;omega
  ·have:Nat.blt n m=false:=by
    cases hb:Nat.blt n m with
    | false=>rfl
    | true=>exact absurd (by simpa[Nat.blt_eq] using hb) h
   rw[this];symm;simp;omega
theorem z7y (a b:Int):iEq a b=(a==b):=by
 have key:∀m n:Nat,Nat.beq m n=decide (m=n):=fun m n=>by
  by_cases h:m=n
  ·subst h;simp
  ·have:Nat.beq m n=false:=by
    cases hb:Nat.beq m n with
    | false=>rfl
    | true=>exact absurd (Nat.eq_of_beq_eq_true hb) h
   rw[this];simp[h]
 unfold iEq
 split
 ·rename_i m n
  rw[key]
  by_cases h:m=n
  ·simp[h]
  ·simp[h];omega
 ·rename_i m n
  rw[key]
  by_cases h:m=n<;>simp[h]
 ·rename_i h1 h2
  cases a<;>cases b<;>first|rfl|(rename_i m n;exact absurd rfl (h1 m n rfl))|(rename_i m n;exact absurd rfl (h2 m n rfl))|skip
  all_goals first|(exfalso;exact h1 _ _ rfl rfl)|(exfalso;exact h2 _ _ rfl rfl)
def limK:IntKind→Nat
 | .i8=>128|.i16=>32768|.i32=>2147483648|.i64=>9223372036854775808
 | .u8=>256|.u16=>65536|.u32=>4294967296|.u64=>18446744073709551616
def z5K (k:IntKind) (n:Int):Int:=match n with
 | .ofNat m=>cond (Nat.blt m (limK k)) (.ofNat m) (k.wrap (.ofNat m))
 | .negSucc m=>k.wrap (.negSucc m)
theorem z0o (k:IntKind) (n:Int):z5K k n=k.wrap n:=by
 unfold z5K
 split
 ·rename_i m
  cases h:Nat.blt m (limK k) with
  | false=>rfl
  | true=>
   have hlt:m<limK k:=by simpa[Nat.blt_eq] using h
   show (Int.ofNat m)=_
   unfold IntKind.wrap
   cases k<;>simp only[limK] at hlt<;>simp only[IntKind.bits,IntKind.signed]<;>(try simp)<;>(try split)<;>omega
 ·rfl
def nAdd (a b:Int):Int:=match a,b with
 | .ofNat m,.ofNat n=>.ofNat (Nat.add m n)
 | a,b=>a+b
theorem z8Y (a b:Int):nAdd a b=a+b:=by
 unfold nAdd
 split
 ·rfl
 ·rfl
def oAdd (k:IntKind) (a b:Int):Option Value:=some (.int k (z5K k (nAdd a b)))
def oEql (k:IntKind) (a b:Int):Option Value:=some (.bool (iEq a b))
def oNeq (k:IntKind) (a b:Int):Option Value:=some (.bool (not (iEq a b)))
def oLss (k:IntKind) (a b:Int):Option Value:=some (.bool (iLt a b))
def oGtr (k:IntKind) (a b:Int):Option Value:=some (.bool (iLt b a))
def oLeq (k:IntKind) (a b:Int):Option Value:=some (.bool (not (iLt b a)))
def oGeq (k:IntKind) (a b:Int):Option Value:=some (.bool (not (iLt a b)))
def intB:BinOp→IntKind→Int→Int→Option Value
 | .add=>oAdd
 | .eql=>oEql
 | .neq=>oNeq
 | .lss=>oLss
 | .gtr=>oGtr
 | .leq=>oLeq
 | .geq=>oGeq
 | op=>q2P op
theorem z8Z (op:BinOp) (k:IntKind) (a b:Int):intB op k a b=q2P op k a b:=by
 cases op<;>simp only[intB,oAdd,oEql,oNeq,oLss,oGtr,oLeq,oGeq,q2P,z0o,z8Y,z7y,j1c,bne]<;>try rfl
 ·simp only[Option.some.injEq,Value.bool.injEq]
  by_cases h:b<a<;>simp[h]<;>omega
 ·simp only[Option.some.injEq,Value.bool.injEq]
  by_cases h:a<b<;>simp[h]<;>omega
noncomputable def evT (t:Nat) (e:Env):Value:=eget e t
def evC (v:Value) (_:Env):Value:=cond (q0J v) v poison
def evP (_:Env):Value:=poison
def evF (f:FuncId) (_:Env):Value:=.func (.func f) ⟨[]⟩ ⟨[]⟩
noncomputable def evB:Operand→Env→Value
 | .tmp t=>evT t
 | .const v=>evC v
 | .global _=>evP
 | .func f=>evF f
theorem q4u (x:Operand) (e:Env):evB x e=ev e x:=by
 cases x<;>simp only[evB,ev,evT,evC,evP,evF]
 rename_i v
 cases q0J v<;>rfl
abbrev k5x:=Program→q0F→Env→q0a→Option (Value×q0a)
noncomputable def sMv (x:Operand):k5x:=fun _ _ e H=>some (evB x e,H)
def j1d (a b:Value) (H:q0a) (c:Value):Option (Value×q0a):=match c with
 | .bool t=>some (cond t a b,H)
 | _=>none
noncomputable def j1e (c a b:Operand):k5x:=fun _ _ e H=>j1d (evB a e) (evB b e) H (evB c e)
def j1f (op:BinOp) (k:IntKind) (a:Int) (H:q0a) (y:Value):Option (Value×q0a):=match y with
 | .int k' b=>if k=k' then (match intB op k a b with|some v=>some (v,H)|none=>none) else none
 | _=>none
noncomputable def kInt (op:BinOp) (y:Operand) (e:Env) (H:q0a) (x:Value):Option (Value×q0a):=match x with
 | .int k a=>j1f op k a H (evB y e)
 | _=>none
noncomputable def sInt (op:BinOp) (x y:Operand):k5x:=fun _ _ e H=>kInt op y e H (evB x e)
def j1g (k:IntKind) (H:q0a) (x:Value):Option (Value×q0a):=match x with
 | .int _ n=>some (.int k (z5K k n),H)
 | _=>none
noncomputable def j1h (k:IntKind) (x:Operand):k5x:=fun _ _ e H=>j1g k H (evB x e)
def kAt (b o n sz:Nat) (H:q0a) (j:Int):Option (Value×q0a):=match j with
 | .ofNat m=>cond (Nat.blt m n) (some (.pointer (some ⟨b,o+m*sz,none⟩),H)) none
 | .negSucc _=>none
def k5y (b o n sz:Nat) (H:q0a) (i:Value):Option (Value×q0a):=match i with
 | .int _ j=>kAt b o n sz H j
 | _=>none
noncomputable def z7z (i:Operand) (sz:Nat) (e:Env) (H:q0a) (x:Value):Option (Value×q0a):=match x with
 | .slice (some ⟨b,o,none⟩) n _=>k5y b o n sz H (evB i e)
 | _=>none
noncomputable def z7A (x i:Operand) (sz:Nat):k5x:=fun _ _ e H=>z7z i sz e H (evB x e)
noncomputable def z7B (i:Operand) (cnt sz:Nat) (e:Env) (H:q0a) (x:Value):Option (Value×q0a):=match x with
 | .pointer (some ⟨b,o,none⟩)=>k5y b o cnt sz H (evB i e)
 | _=>none
noncomputable def z7C (x i:Operand) (cnt sz:Nat):k5x:=fun _ _ e H=>z7B i cnt sz e H (evB x e)
noncomputable def appB (a b:List Value):List Value:=List.rec (motive:=fun _=>List Value) b (fun x _ ih=>x::ih) a
noncomputable def z9a (n:Nat) (l:List Value):List Value:=Nat.rec (motive:=fun _=>List Value→List Value) (fun l=>l) (fun _ ih l=>List.casesOn l [] (fun _ r=>ih r)) n l
noncomputable def z3j (n:Nat) (l:List Value):List Value:=Nat.rec (motive:=fun _=>List Value→List Value) (fun _=>[]) (fun _ ih l=>List.casesOn l [] (fun x r=>x::ih r)) n l
noncomputable def lenB (l:List Value):Nat:=List.rec (motive:=fun _=>Nat) 0 (fun _ _ ih=>Nat.add ih 1) l
noncomputable def getB (i:Nat) (l:List Value):Option Value:=Nat.rec (motive:=fun _=>List Value→Option Value) (fun l=>List.casesOn l none (fun x _=>some x)) (fun _ ih l=>List.casesOn l none (fun _ r=>ih r)) i l
noncomputable def allB (l:List Value):Bool:=List.rec (motive:=fun _=>Bool) true (fun x _ ih=>cond (one x) ih false) l
theorem k8N (b:List Value):∀a:List Value,appB a b=a++b
 | []=>rfl
 | x::r=>by show x::appB r b=_;rw[k8N b r];rfl
theorem k5z:∀(n:Nat) (l:List Value),z9a n l=l.drop n
 | 0,l=>rfl
 | n+1,[]=>rfl
 | n+1,_::r=>k5z n r
theorem k5A:∀(n:Nat) (l:List Value),z3j n l=l.take n
 | 0,l=>rfl
 | n+1,[]=>rfl
 | n+1,x::r=>by show x::z3j n r=_;rw[k5A n r];rfl
theorem k0F:∀l:List Value,lenB l=l.length
 | []=>rfl
 | x::r=>by show Nat.add (lenB r) 1=_;rw[k0F r];rfl
theorem z3k:∀(i:Nat) (l:List Value),getB i l=l[i]?
 | 0,[]=>rfl
 | 0,_::_=>rfl
 | n+1,[]=>rfl
 | n+1,_::r=>z3k n r
theorem z3l:∀l:List Value,allB l=l.all one
 | []=>rfl
 | x::r=>by
  show cond (one x) (allB r) false=_
  rw[z3l r,List.all_cons]
  cases one x<;>rfl
theorem k8O {α:Type} (m n:Nat) (a b:α):cond (Nat.ble m n) a b=if m≤n then a else b:=by
 by_cases h:m≤n
 ·have:Nat.ble m n=true:=Nat.ble_eq_true_of_le h
  rw[this,if_pos h];rfl
 ·have:Nat.ble m n=false:=by
   cases hb:Nat.ble m n with
   | false=>rfl
   | true=>exact absurd (Nat.le_of_ble_eq_true hb) h
  rw[this,if_neg h];rfl
noncomputable def gotB (o:Nat) (k:Option Nat) (H:q0a) (b:Option ABlk):Option (Value×q0a):=match b with
 | some blk=>cond blk.st.mem (match k with
   | some n=>cond (Nat.ble (o+n) (lenB blk.cells)) (some (.agg ⟨z3j n (z9a o blk.cells)⟩,H)) none
   | none=>match getB o blk.cells with|some v=>some (v,H)|none=>none) none
 | none=>none
noncomputable def z9b (k:Option Nat) (H:q0a) (x:Value):Option (Value×q0a):=match x with
 | .pointer (some ⟨i,o,none⟩)=>gotB o k H (H.get i)
 | _=>none
theorem z5L (k:Option Nat) (H:q0a) (x:Value):z9b k H x=z2U x k H:=by
 unfold z9b
 split
 ·rename_i i o
  rw[z2V]
  unfold gotB q0l
  cases H.get i with
  | none=>rfl
  | some blk=>
   simp only[k0F,k5A,k5z,z3k,k8O]
   cases blk.st.mem with
   | false=>rfl
   | true=>
    simp only[cond_true,if_true]
    cases k with
    | none=>simp only;cases blk.cells[o]?<;>rfl
    | some n=>simp only;split<;>rfl
 ·rename_i h
  unfold z2U
  split
  ·rename_i i o;exact absurd rfl (h i o)
  ·rfl
noncomputable def k1z (sz off:Nat) (ps:List (Nat×Nat×Value)):Bool:=List.rec (motive:=fun _=>Nat→Bool) (fun _=>true) (fun p _ ih off=>cond (Nat.beq p.1 off) (cond (Nat.beq (lenB p.2.2.cells.toList) sz) (ih (off+sz)) false) false) ps off
noncomputable def q7Z (ps:List (Nat×Nat×Value)):List Value:=List.rec (motive:=fun _=>List Value) [] (fun p _ ih=>appB p.2.2.cells.toList ih) ps
theorem q8a (sz:Nat):∀(ps:List (Nat×Nat×Value)) (off:Nat) (cells:List Value),k1z sz off ps=true→off≤cells.length→lay cells (q3T ps)=cells.take off++q7Z ps++cells.drop (off+ps.length*sz)
 | [],off,cells,_,_=>by simp[lay,q3T,q7Z]
 | (o,s,v)::r,off,cells,h,hle=>by
  have h':cond (Nat.beq o off) (cond (Nat.beq (lenB v.cells.toList) sz) (k1z sz (off+sz) r) false) false=true:=h
  rw[q2T,q2T,k0F] at h'
  split at h'
  ·rename_i ho
   subst ho
   split at h'
   ·rename_i hs
    have hf:q7Z ((o,s,v)::r)=v.cells.toList++q7Z r:=k8N _ _
    simp only[q3T,List.map_cons,lay,hf]
    by_cases hfit:o+sz≤cells.length
    ·have ih:=q8a sz r (o+sz) (cells.take o++v.cells.toList++cells.drop (o+v.cells.toList.length)) h' (by simp only[List.length_append,List.length_take,List.length_drop,hs];omega)
     rw[show q3T r=r.map (fun p=>(p.1,p.2.2)) from rfl] at ih
     rw[ih,hs]
     have hlen:(cells.take o++v.cells.toList).length=o+sz:=by simp only[List.length_append,List.length_take,hs];omega
     rw[List.append_assoc (cells.take o),←List.append_assoc (cells.take o),List.take_left' hlen]
     rw[List.drop_append,List.drop_of_length_le (by rw[hlen];omega),hlen,List.nil_append,List.drop_drop]
     simp only[List.append_assoc,List.length_cons,Nat.succ_mul]
     congr 3
     congr 1
     omega
    ·have ih:=q8a sz r (o+sz) (cells.take o++v.cells.toList++cells.drop (o+v.cells.toList.length)) h' (by simp only[List.length_append,List.length_take,List.length_drop,hs];omega)
     rw[show q3T r=r.map (fun p=>(p.1,p.2.2)) from rfl] at ih
     rw[ih,hs]
     have hlen:(cells.take o++v.cells.toList).length=o+sz:=by simp only[List.length_append,List.length_take,hs];omega
     rw[List.append_assoc (cells.take o),←List.append_assoc (cells.take o),List.take_left' hlen]
     rw[List.drop_append,List.drop_of_length_le (by rw[hlen];omega),hlen,List.nil_append,List.drop_drop]
     simp only[List.append_assoc,List.length_cons,Nat.succ_mul]
     congr 3
     congr 1
     omega
   ·cases h'
  ·cases h'
noncomputable def layB (sz n:Nat) (cells:List Value) (ps:List (Nat×Nat×Value)):List Value:=
 cond (k1z sz 0 ps) (cond (Nat.beq n (ps.length*sz)) (q7Z ps) (lay cells (q3T ps))) (lay cells (q3T ps))
theorem z9c (sz n:Nat) (cells:List Value) (ps:List (Nat×Nat×Value)) (hn:cells.length=n):layB sz n cells ps=lay cells (q3T ps):=by
 unfold layB
 cases h:k1z sz 0 ps with
 | false=>rfl
 | true=>
  simp only[cond_true]
  rw[q2T]
  split
  ·rename_i he
   rw[q8a sz ps 0 cells h (Nat.zero_le _)]
   rw[List.drop_of_length_le (by omega)]
   simp
  ·rfl
noncomputable def k8P (el:TypeId) (n sz:Nat) (z:List Value) (ps:List (Nat×Nat×Value)) (H:q0a):Option (Value×q0a):=
 cond (q3S (n*sz) ps) (some (.slice (some ⟨H.n,0,none⟩) n (n+1),H.push ⟨layB sz (n*sz) ((List.replicate n z).flatten) ps,el,.tip,0,[]⟩)) none
theorem z1L (el:TypeId) (n sz:Nat) (z:List Value) (ps:List (Nat×Nat×Value)) (H:q0a) (hz:z.length=sz):k8P el n sz z ps H=q0D el n sz z ps H:=by
 unfold k8P q0D
 rw[z9c sz (n*sz) _ ps (by simp[hz])]
 cases q3S (n*sz) ps<;>rfl
noncomputable def z3m (el:TypeId) (n sz:Nat) (z:List Value) (ps:List (Nat×Nat×Operand)):k5x:=fun P cf e H=>
 cond (Nat.beq (lenB z) sz) (k8P el n sz z (ps.map fun p=>(p.1,p.2.1,evB p.2.2 e)) H) (q0o P cf e H (.bslice el n sz z ps))
noncomputable def k2K (H:q0a) (sz:Nat) (x:Value):Option (List Value):=match x with
 | .slice none 0 0=>some []
 | .slice (some ⟨i,o,none⟩) n _=>cond (Nat.beq n 0) (some []) (match H.get i with
  | some blk=>cond blk.st.mem (cond (Nat.ble (o+n*sz) (lenB blk.cells)) (some (cond (Nat.beq o 0) (cond (Nat.beq (n*sz) (lenB blk.cells)) blk.cells (z3j (n*sz) blk.cells)) (z3j (n*sz) (z9a o blk.cells)))) none) none
  | none=>none)
 | .slice (some ⟨_,_,some _⟩) 0 0=>some []
 | _=>none
theorem k0h (H:q0a) (sz:Nat) (x:Value):k2K H sz x=cellsOf H sz x:=by
 unfold k2K cellsOf
 split
 ·rfl
 ·rename_i i o n c
  simp only[q2T,k8O,k0F,k5A,k5z]
  split
  ·rfl
  ·cases H.get i with
   | none=>rfl
   | some blk=>
    simp only
    cases hm:blk.st.mem with
    | false=>simp
    | true=>
     simp only[cond_true,true_and]
     split
     ·congr 1
      split
      ·rename_i h1
       subst h1
       split
       ·rename_i h2;simp[h2]
       ·simp
      ·rfl
     ·rfl
 ·rfl
 ·rename_i h1 h2 h3
  split
  ·exact absurd rfl h1
  ·rename_i i o n c;exact absurd rfl (h2 i o n c)
  ·rename_i i o k;exact absurd rfl (h3 i o k)
  ·rfl
def j1i:St→Bool|.tip=>true|_=>false
theorem z3n {α:Type} (t:St) (a b:α):cond (j1i t) a b=if t=.tip then a else b:=by cases t<;>rfl
noncomputable def j1j (H:q0a) (i n m o sz:Nat) (el:TypeId) (cells:List Value) (b:Option ABlk):Option (Value×q0a):=match b with
 | some blk=>cond (j1i blk.st) (cond (Nat.beq blk.elem el)
   (cond (Nat.beq n 0) (some (.slice (some ⟨H.n,0,none⟩) (n+m) (n+m+1),(killAll H (i::blk.anc)).push ⟨cells,el,.tip,0,[]⟩))
    (cond (Nat.beq (o+n*sz) (lenB blk.cells))
     (some (.slice (some ⟨H.n,0,none⟩) (n+m) (n+m+1),(H.upd i ⟨blk.cells,blk.elem,.ret,blk.ver,blk.anc⟩).push ⟨cells,el,.tip,0,i::blk.anc⟩))
     (some (.slice (some ⟨H.n,0,none⟩) (n+m) (n+m+1),(killAll H (i::blk.anc)).push ⟨cells,el,.tip,0,[]⟩)))) none) none
 | none=>none
noncomputable def j1k (H:q0a) (n c m sz:Nat) (el:TypeId) (cells:List Value) (a:Option Addr):Option (Value×q0a):=match a with
 | none=>some (.slice (some ⟨H.n,0,none⟩) (n+m) (n+m+1),H.push ⟨cells,el,.tip,0,[]⟩)
 | some a=>cond (Nat.beq c 0) (some (.slice (some ⟨H.n,0,none⟩) (n+m) (n+m+1),H.push ⟨cells,el,.tip,0,[]⟩)) (j1j H a.block n m a.off sz el cells (H.get a.block))
noncomputable def j1l (H:q0a) (a:Option Addr) (n c m bytes sz:Nat) (el:TypeId) (o x:Option (List Value)):Option (Value×q0a):=match o,x with
 | some old,some new=>cond (Nat.beq m 0) (some (.slice a n c,H)) (cond (Nat.ble ((n+m)*bytes) 140737488355328) (cond (allB new) (j1k H n c m sz el (appB old new) a) none) none)
 | _,_=>none
noncomputable def k8Q (H:q0a) (s x:Value) (el:TypeId) (sz bytes:Nat):Option (Value×q0a):=match s,x with
 | .slice a n c,.slice a' m c'=>j1l H a n c m bytes sz el (k2K H sz (.slice a n c)) (k2K H sz (.slice a' m c'))
 | _,_=>none
theorem z1M (H:q0a) (s x:Value) (el:TypeId) (sz bytes:Nat):k8Q H s x el sz bytes=q0m H s x el sz bytes:=by
 unfold k8Q q0m
 split
 ·rename_i a n c a' m c'
  simp only[k0h]
  generalize cellsOf H sz (.slice a n c)=o
  generalize cellsOf H sz (.slice a' m c')=x
  cases o<;>cases x<;>try rfl
  rename_i old new
  simp only[j1l,q2T,k8O,z3l,k8N]
  split
  ·rfl
  ·by_cases h1:(n+m)*bytes≤140737488355328
   ·by_cases h2:new.all one=true
    ·rw[if_pos h1,if_pos ⟨h1,h2⟩,h2]
     simp only[cond_true,j1k,q2T]
     cases a with
     | none=>rfl
     | some a=>
      simp only
      split
      ·rfl
      ·cases H.get a.block with
       | none=>rfl
       | some blk=>
        simp only[j1j,z3n,q2T,k0F]
        by_cases h3:blk.st=.tip
        ·by_cases h4:blk.elem=el
         ·rw[if_pos h3,if_pos h4,if_pos (show blk.st=.tip∧blk.elem=el from ⟨h3,h4⟩)]
          by_cases h5:n=0
          ·rw[if_pos h5,if_neg (show ¬(0<n∧a.off+n*sz=blk.cells.length) by omega)]
          ·rw[if_neg h5]
           by_cases h6:a.off+n*sz=blk.cells.length
           ·rw[if_pos h6,if_pos (show 0<n∧a.off+n*sz=blk.cells.length from ⟨by omega,h6⟩)]
           ·rw[if_neg h6,if_neg (show ¬(0<n∧a.off+n*sz=blk.cells.length) from fun hh=>h6 hh.2)]
         ·rw[if_pos h3,if_neg h4,if_neg (show ¬(blk.st=.tip∧blk.elem=el) from fun hh=>h4 hh.2)]
        ·rw[if_neg h3,if_neg (show ¬(blk.st=.tip∧blk.elem=el) from fun hh=>h3 hh.1)]
    ·rw[if_pos h1,if_neg (by intro hh;exact h2 hh.2)]
     have:new.all one=false:=by cases hb:new.all one with|false=>rfl|true=>exact absurd hb h2
     rw[this];rfl
   ·rw[if_neg h1,if_neg (by intro hh;exact h1 hh.1)]
 ·rename_i h
  split
  ·rename_i a n c a' m c';exact absurd rfl (h a n c a' m c' rfl)
  ·rfl
noncomputable def q7o:AOp→k5x
 | .mv x=>sMv x
 | .pick c a b=>j1e c a b
 | .int op x y=>sInt op x y
 | .conv k x=>j1h k x
 | .iaddr x i sz=>z7A x i sz
 | .aaddr x i cnt sz=>z7C x i cnt sz
 | .ext t ix=>fun P cf e H=>vExt (evB t e) ix H
 | .not x=>fun P cf e H=>vNot (evB x e) H
 | .beq neq x y=>fun P cf e H=>vBeq neq (evB x e) (evB y e) H
 | .len str x=>fun P cf e H=>vLen str (evB x e) H
 | .load x k=>fun P cf e H=>z9b k H (evB x e)
 | .alloc cells el=>fun P cf e H=>some (.pointer (some ⟨H.n,0,none⟩),H.push ⟨cells,el,.tip,0,[]⟩)
 | .store x v n=>fun P cf e H=>k4k (evB x e) (evB v e) n H
 | .call f args=>fun P cf e H=>z1K cf (evB f e) (args.map fun x=>evB x e) H
 | .append x y el sz bytes=>fun P cf e H=>k8Q H (evB x e) (evB y e) el sz bytes
 | .gen o=>fun P cf e H=>q0o P cf e H (.gen o)
 | .field x a o l=>fun P cf e H=>z7w (evB x e) a o l H
 | .index x i c a s=>fun P cf e H=>k4p (evB x e) (evB i e) c a s H
 | .build z ps=>fun P cf e H=>q0o P cf e H (.build z ps)
 | .isNil k n x=>fun P cf e H=>q0o P cf e H (.isNil k n x)
 | .faddr x o=>fun P cf e H=>q0o P cf e H (.faddr x o)
 | .nilChk x=>fun P cf e H=>q0o P cf e H (.nilChk x)
 | .mkfun f a b=>fun P cf e H=>q0o P cf e H (.mkfun f a b)
 | .mkface t x=>fun P cf e H=>q0o P cf e H (.mkface t x)
 | .max2 x y=>fun P cf e H=>q0o P cf e H (.max2 x y)
 | .min2 x y=>fun P cf e H=>q0o P cf e H (.min2 x y)
 | .slice x l h s=>fun P cf e H=>q0o P cf e H (.slice x l h s)
 | .slice0 x=>fun P cf e H=>q0o P cf e H (.slice0 x)
 | .box x el=>fun P cf e H=>q0o P cf e H (.box x el)
 | .bslice el n sz z ps=>z3m el n sz z ps
 | .mop m=>fun P cf e H=>q0o P cf e H (.mop m)
theorem z7D (b o n sz:Nat) (H:q0a) (j:Int):kAt b o n sz H j=(if 0≤j∧j<n then some (.pointer (some ⟨b,o+j.toNat*sz,none⟩)) else none:Option Value).map fun v=>(v,H):=by
 unfold kAt
 split
 ·rename_i m
  cases h:Nat.blt m n with
  | true=>
   have:m<n:=by simpa[Nat.blt_eq] using h
   rw[if_pos ⟨by simp,by simp;omega⟩]
   simp
  | false=>
   rw[if_neg]
   ·rfl
   ·intro ⟨_,h2⟩
    have:Nat.blt m n=true:=by simp at h2;simp[Nat.blt_eq];omega
    rw[h] at this;cases this
 ·rw[if_neg (by intro ⟨h1,_⟩;omega)];rfl
theorem z0p (P:Program) (cf:q0F) (e:Env) (H:q0a) (o:AOp):q7o o P cf e H=q0o P cf e H o:=by
 cases o<;>try rfl
 case mv x=>simp only[q7o,sMv,q4u];rfl
 case pick c a b=>
  simp only[q7o,j1e,q4u,k2C,z2R,j1d]
  cases ev e c<;>first|rfl|(rename_i t;cases t<;>rfl)
 case ext t ix=>simp only[q7o,q4u,k6Z]
 case not x=>simp only[q7o,q4u,k7c]
 case beq neq x y=>simp only[q7o,q4u,k7b]
 case len str x=>simp only[q7o,q4u,k7e]
 case load x k=>simp only[q7o,q4u,k0C,z5L]
 case bslice el n sz z ps=>
  simp only[q7o,z3m,q4u,q2T,k0F]
  split
  ·rename_i hz
   rw[z1L el n sz z _ H hz,q7X];rfl
  ·rfl
 case store x v n=>simp only[q7o,q4u,k0a]
 case field=>simp only[q7o,q4u,k0e]
 case index=>simp only[q7o,q4u,k0f]
 case append=>simp only[q7o,q4u,q7Y,z1M]
 case call f args=>
  simp only[q7o,q4u,k2H]
 case conv k x=>
  simp only[q7o,j1h,q4u,k2D,z5H,j1g,z0o]
  cases ev e x<;>rfl
 case int op x y=>
  simp only[q7o,sInt,q4u,k7a,vInt,kInt]
  generalize ev e x=u
  cases u<;>try rfl
  simp only[j1f]
  generalize ev e y=v
  cases v<;>try rfl
  simp only[z8Z]
  split
  ·cases q2P op _ _ _<;>rfl
  ·rfl
 case iaddr x i sz=>
  simp only[q7o,z7A,q4u,q9X,z7z]
  split
  ·rename_i b o n c hx
   rw[hx]
   simp only[k5y,q2E,z7D]
   generalize ev e i=v
   cases v<;>rfl
  ·rename_i hx
   simp only[q2E]
   split
   ·rename_i b o n c k j h1 h2;exact absurd h1 (hx b o n c)
   ·rfl
 case aaddr x i cnt sz=>
  simp only[q7o,z7C,q4u,q9Y,z7B]
  split
  ·rename_i b o hx
   rw[hx]
   simp only[k5y,k7d,z7D]
   generalize ev e i=v
   cases v<;>rfl
  ·rename_i hx
   simp only[k7d]
   split
   ·rename_i b o k j h1 h2;exact absurd h1 (hx b o)
   ·rfl
noncomputable def z7E (want:Bool) (r:Env→q0a→Option (Value×q0a)) (e:Env) (H:q0a) (v:Value):Option (Value×q0a):=match v with
 | .bool b=>cond (b==want) (r e H) (some (.tuple ⟨[]⟩,H))
 | .tuple ⟨[]⟩=>some (.tuple ⟨[]⟩,H)
 | _=>none
noncomputable def kRow (o:k5x) (P:Program) (cf:q0F) (e:Env) (H:q0a) (g:Option (Nat×Bool)):Option (Value×q0a):=match g with
 | none=>o P cf e H
 | some (t,want)=>z7E want (o P cf) e H (eget e t)
noncomputable def rowB (P:Program) (cf:q0F) (r:ARow) (e:Env) (H:q0a):Option (Value×q0a):=kRow (q7o r.op) P cf e H r.guard
theorem z9d (P:Program) (cf:q0F) (r:ARow) (e:Env) (H:q0a):rowB P cf r e H=rowV P cf r e H:=by
 obtain ⟨d,o,g⟩:=r
 cases g with
 | none=>simp only[rowB,kRow,z0p];rfl
 | some g=>
  obtain ⟨t,want⟩:=g
  rw[q7W]
  simp only[rowB,kRow]
  unfold z7E q7m
  split
  ·rename_i b hb
   simp only[hb,z0p]
   cases b<;>cases want<;>rfl
  ·rename_i hb
   simp only[hb]
  ·rename_i h1 h2
   split
   ·rename_i b hb;exact absurd hb (h1 b)
   ·rename_i hb;exact absurd hb h2
   ·rfl
def kPut (d:Option Nat) (k:Env→q0a→Option (Env×q0a)) (e:Env) (r:Option (Value×q0a)):Option (Env×q0a):=match r with
 | some (v,H)=>k (match d with|some d=>(d,v)::e|none=>e) H
 | none=>none
noncomputable def z5M (rows:List ARow):Program→q0F→Env→q0a→Option (Env×q0a):=
 List.rec (motive:=fun _=>Program→q0F→Env→q0a→Option (Env×q0a)) (fun _ _ e H=>some (e,H)) (fun r _ ih P cf e H=>kPut r.dst (ih P cf) e (rowB P cf r e H)) rows
theorem z0q (P:Program) (cf:q0F):∀(rows:List ARow) (e:Env) (H:q0a),z5M rows P cf e H=q4h P cf rows e H
 | [],_,_=>rfl
 | r::rs,e,H=>by
  show kPut r.dst (z5M rs P cf) e (rowB P cf r e H)=_
  rw[z9d]
  simp only[q4h,rowA]
  cases rowV P cf r e H with
  | none=>rfl
  | some x=>
   obtain ⟨v,H'⟩:=x
   simp only[kPut,Option.map_some]
   rw[z0q P cf rs]
   cases r.dst<;>rfl
def j1m (k:Env→q0a→Option (AEx×Env×q0a)) (r:Option (AEx×Env×q0a)):Option (AEx×Env×q0a):=match r with
 | some (.normal,e,H)=>k e H
 | r=>r
def kIn (id:Nat) (r:Option (AEx×Env×q0a)):Option (AEx×Env×q0a):=match r with
 | some (.exit id',e,H)=>cond (Nat.beq id' id) (some (.normal,e,H)) (some (.exit id',e,H))
 | r=>r
def z9e (a b:Env→q0a→Option (AEx×Env×q0a)) (e:Env) (H:q0a) (v:Value):Option (AEx×Env×q0a):=match v with
 | .bool true=>a e H
 | .bool false=>b e H
 | _=>none
def z5N (r:Option (Env×q0a)):Option (AEx×Env×q0a):=match r with
 | some (e,H)=>some (.normal,e,H)
 | none=>none
noncomputable def k5B (keep:List Nat) (e:Env):Env:=List.rec (motive:=fun _=>Env) [] (fun t _ ih=>(t,eget e t)::ih) keep
theorem k4r (e:Env):∀keep:List Nat,k5B keep e=forget keep e
 | []=>rfl
 | t::ts=>by
  show (t,eget e t)::k5B ts e=_
  rw[k4r e ts];rfl
def z9f (again:Env→q0a→Option (AEx×Env×q0a)) (r:Option (AEx×Env×q0a)):Option (AEx×Env×q0a):=match r with
 | none=>none
 | some (.normal,e,H)=>again e H
 | some r=>some r
noncomputable def z5O (keep:List Nat) (body:Env→q0a→Option (AEx×Env×q0a)) (n:Nat):Env→q0a→Option (AEx×Env×q0a):=
 Nat.rec (motive:=fun _=>Env→q0a→Option (AEx×Env×q0a)) (fun _ _=>none) (fun _ ih e H=>z9f ih (body (k5B keep e) H)) n
theorem z0r (keep:List Nat) (body:Env→q0a→Option (AEx×Env×q0a)):∀(n:Nat) (e:Env) (H:q0a),z5O keep body n e H=q4i keep body n e H
 | 0,_,_=>rfl
 | n+1,e,H=>by
  show z9f (z5O keep body n) (body (k5B keep e) H)=_
  rw[k4r]
  simp only[q4i]
  unfold z9f
  split
  ·rename_i h;simp only[h]
  ·rename_i e' H' h;simp only[h];exact z0r keep body n e' H'
  ·rename_i r hr h
   simp only[h]
abbrev RunF:=Program→q0F→Nat→Env→q0a→Option (AEx×Env×q0a)
noncomputable def k1l (c:q0f):RunF:=
 q0f.rec (motive:=fun _=>RunF)
  (fun _ _ _ e H=>some (.normal,e,H))
  (fun rows P cf _ e H=>z5N (z5M rows P cf e H))
  (fun rows P cf _ e H=>z5N (q3F P cf rows [] [] e H))
  (fun _ _ a b P cf lf e H=>j1m (b P cf lf) (a P cf lf e H))
  (fun q _ _ a b P cf lf e H=>z9e (a P cf lf) (b P cf lf) e H (evB q e))
  (fun id _ a P cf lf e H=>kIn id (a P cf lf e H))
  (fun keep _ a P cf lf e H=>z5O keep (a P cf lf) lf e H)
  (fun id _ _ _ e H=>some (.exit id,e,H))
  (fun _ _ _ e H=>some (.ret,e,H)) c
theorem z5P (P:Program) (cf:q0F) (lf:Nat):∀(c:q0f) (e:Env) (H:q0a),k1l c P cf lf e H=q0t P cf lf c e H:=by
 intro c
 induction c with
 | skip=>intro e H;rfl
 | ops rows=>
  intro e H
  show z5N (z5M rows P cf e H)=_
  rw[z0q]
  simp only[q0t]
  cases q4h P cf rows e H<;>rfl
 | draw rows=>
  intro e H
  show z5N (q3F P cf rows [] [] e H)=_
  simp only[q0t]
  cases q3F P cf rows [] [] e H<;>rfl
 | seq a b iha ihb=>
  intro e H
  show j1m (k1l b P cf lf) (k1l a P cf lf e H)=_
  rw[iha,show k1l b P cf lf=q0t P cf lf b from by funext e H;exact ihb e H]
  simp only[q0t]
  cases q0t P cf lf a e H with
  | none=>rfl
  | some r=>obtain ⟨x,e',H'⟩:=r;cases x<;>rfl
 | cond q a b iha ihb=>
  intro e H
  show z9e (k1l a P cf lf) (k1l b P cf lf) e H (evB q e)=_
  rw[q4u,show k1l b P cf lf=q0t P cf lf b from by funext e H;exact ihb e H,show k1l a P cf lf=q0t P cf lf a from by funext e H;exact iha e H]
  simp only[q0t,z9e]
  cases ev e q<;>rfl
 | block id a iha=>
  intro e H
  show kIn id (k1l a P cf lf e H)=_
  rw[iha]
  simp only[q0t]
  cases q0t P cf lf a e H with
  | none=>rfl
  | some r=>
   obtain ⟨x,e',H'⟩:=r
   cases x with
   | normal=>rfl
   | ret=>rfl
   | exit id'=>
    simp only[kIn]
    by_cases h:id'=id
    ·subst h;simp
    ·have:Nat.beq id' id=false:=by
      cases hb:Nat.beq id' id with
      | false=>rfl
      | true=>exact absurd (Nat.eq_of_beq_eq_true hb) h
     rw[this,if_neg h];rfl
 | loop keep a iha=>
  intro e H
  show z5O keep (k1l a P cf lf) lf e H=_
  rw[z0r,show k1l a P cf lf=q0t P cf lf a from by funext e H;exact iha e H]
  simp only[q0t]
 | exit id=>intro e H;rfl
 | ret=>intro e H;rfl
noncomputable def kFin (P:Program) (rs:List ARes) (r:Option (AEx×Env×q0a)):Option (Value×q0a):=match r with
 | some (.exit _,_,_)=>none
 | some (_,e,H')=>(q5R P e H' rs).map fun vs=>(k0r vs,H')
 | none=>none
noncomputable def z9g (P:Program) (cf:q0F) (n:Nat) (args:List Value) (H:q0a) (F:Option q0h):Option (Value×q0a):=match F with
 | none=>none
 | some F=>cond (Nat.beq args.length F.nargs) (kFin P F.results (k1l F.code P cf n (q5C args) H)) none
noncomputable def kOm (k:Option (Value×q0a)) (r:Option (Value×q0a)):Option (Value×q0a):=match r with
 | some r=>some r
 | none=>k
noncomputable def k3F (P:Program) (Γ:FuncId→Option q0h) (Ω:q0F) (n:Nat):q0F:=
 Nat.rec (motive:=fun _=>q0F) (fun _ _ _=>none) (fun n ih f args H=>kOm (z9g P ih n args H (Γ f)) (Ω f args H)) n
theorem z0s (P:Program) (Γ:FuncId→Option q0h) (Ω:q0F):∀(n:Nat) (f:FuncId) (args:List Value) (H:q0a),k3F P Γ Ω n f args H=q2D P Γ Ω n f args H
 | 0,_,_,_=>rfl
 | n+1,f,args,H=>by
  show kOm (z9g P (k3F P Γ Ω n) n args H (Γ f)) (Ω f args H)=_
  rw[show k3F P Γ Ω n=q2D P Γ Ω n from by funext f args H;exact z0s P Γ Ω n f args H]
  simp only[q2D]
  cases Ω f args H with
  | some r=>rfl
  | none=>
   simp only[kOm]
   cases Γ f with
   | none=>rfl
   | some F=>
    simp only[z9g,z5P]
    by_cases h:args.length=F.nargs
    ·rw[if_pos h,h]
     simp
     cases q0t P (q2D P Γ Ω n) n F.code (q5C args) H with
     | none=>rfl
     | some r=>obtain ⟨x,e',H'⟩:=r;cases x<;>rfl
    ·have:Nat.beq args.length F.nargs=false:=by
      cases hb:Nat.beq args.length F.nargs with
      | false=>rfl
      | true=>exact absurd (Nat.eq_of_beq_eq_true hb) h
     rw[if_neg h,this];rfl
theorem j1n {P:Program} {Γ:FuncId→Option q0h} {Ω:q0F} {g:FuncId} {args:List Value} {H:q0a} {r:Value×q0a} (n:Nat) (h:k3F P Γ Ω n g args H=some r):cw P Γ Ω g args H=some r:=
 k8M n (by rw[←z0s];exact h)
noncomputable def tabB (l:List (FuncId×q0h)) (g:FuncId):Option q0h:=List.rec (motive:=fun _=>Option q0h) none (fun p _ ih=>cond (Nat.beq p.1 g) (some p.2) ih) l
theorem z3o:∀(l:List (FuncId×q0h)) (g:FuncId),tabB l g=tabF l g
 | [],_=>rfl
 | (k,F)::r,g=>by
  show cond (Nat.beq k g) (some F) (tabB r g)=_
  rw[z3o r g]
  simp only[tabF]
  by_cases h:g=k
  ·subst h;simp
  ·have:Nat.beq k g=false:=by
    cases hb:Nat.beq k g with
    | false=>rfl
    | true=>exact absurd (Nat.eq_of_beq_eq_true hb).symm h
   rw[this,if_neg h];rfl
theorem q6m {P:Program} {l:List (FuncId×q0h)} {Ω:q0F} {g:FuncId} {args:List Value} {H:q0a} {r:Value×q0a} (n:Nat) (h:k3F P (tabB l) Ω n g args H=some r):cw P (tabF l) Ω g args H=some r:=
 j1n n (by rw[←show tabB l=tabF l from by funext g;exact z3o l g];exact h)
def Sl (H:q0a) (sz:Nat) (v:Value) (n:Nat) (cs:List Value):Prop:=(∃a c,v=.slice a n c)∧cellsOf H sz v=some cs
theorem q6n {H:q0a} {sz i o n c:Nat} {cs:List Value} (h:cellsOf H sz (.slice (some ⟨i,o,none⟩) n c)=some cs) (hn:n≠0) :
  ∃cells el st ver anc,H.get i=some ⟨cells,el,st,ver,anc⟩∧st.mem=true∧o+n*sz≤cells.length∧(cells.drop o).take (n*sz)=cs:=by
 unfold cellsOf at h
 simp only at h
 rw[if_neg hn] at h
 split at h
 ·rename_i blk hg
  split at h
  ·rename_i hc
   injection h with h
   exact ⟨_,_,_,_,_,hg,hc.1,hc.2,h⟩
  ·cases h
 ·cases h
theorem Sl.length {H:q0a} {sz:Nat} {v:Value} {n:Nat} {cs:List Value} (h:Sl H sz v n cs):cs.length=n*sz:=by
 obtain ⟨⟨a,c,rfl⟩,h⟩:=h
 by_cases hn:n=0
 ·subst hn
  unfold cellsOf at h
  split at h
  ·injection h with h;subst h;simp
  ·rename_i i o n' c' hv
   injection hv with _ hv _
   subst hv
   rw[if_pos rfl] at h
   injection h with h;subst h;simp
  ·injection h with h;subst h;simp
  ·cases h
 ·cases a with
  | none=>
   unfold cellsOf at h
   split at h
   ·rename_i hv;injection hv with _ hv _;exact absurd hv hn
   ·rename_i hv;injection hv with hv _ _;cases hv
   ·rename_i hv;injection hv with hv _ _;cases hv
   ·cases h
  | some a=>
   obtain ⟨i,o,s⟩:=a
   cases s with
   | none=>
    obtain ⟨cells,el,st,ver,anc,h1,h2,h3,h4⟩:=q6n h hn
    subst h4
    simp only[List.length_take,List.length_drop]
    omega
   | some s=>
    unfold cellsOf at h
    split at h
    ·rename_i hv;injection hv with hv _ _;cases hv
    ·rename_i hv;injection hv with hv _ _;cases hv
    ·rename_i hv;injection hv with _ hv _;exact absurd hv hn
    ·cases h
theorem Sl.len {H H2:q0a} {sz:Nat} {v:Value} {n:Nat} {cs:List Value} (h:Sl H sz v n cs):vLen false v H2=some (.int .i64 n,H2):=by
 obtain ⟨⟨a,c,rfl⟩,_⟩:=h
 rfl
theorem Sl.form {H:q0a} {sz:Nat} {v:Value} {n:Nat} {cs:List Value} (h:Sl H sz v n cs) (hn:n≠0) :
  ∃i o c cells el st ver anc,v=.slice (some ⟨i,o,none⟩) n c∧H.get i=some ⟨cells,el,st,ver,anc⟩∧st.mem=true∧o+n*sz≤cells.length∧(cells.drop o).take (n*sz)=cs:=by
 obtain ⟨⟨a,c,rfl⟩,h⟩:=h
 cases a with
 | none=>
  unfold cellsOf at h
  split at h
  ·rename_i hv;injection hv with _ hv _;exact absurd hv hn
  ·rename_i hv;injection hv with hv _ _;cases hv
  ·rename_i hv;injection hv with hv _ _;cases hv
  ·cases h
 | some a=>
  obtain ⟨i,o,s⟩:=a
  cases s with
  | none=>
   obtain ⟨cells,el,st,ver,anc,h1,h2,h3,h4⟩:=q6n h hn
   exact ⟨i,o,c,cells,el,st,ver,anc,rfl,h1,h2,h3,h4⟩
  | some s=>
   unfold cellsOf at h
   split at h
   ·rename_i hv;injection hv with hv _ _;cases hv
   ·rename_i hv;injection hv with hv _ _;cases hv
   ·rename_i hv;injection hv with _ hv _;exact absurd hv hn
   ·cases h
theorem Sl.at {H:q0a} {sz:Nat} {v:Value} {n:Nat} {cs:List Value} (h:Sl H sz v n cs) {k:Nat} (hk:k<n) :
  ∃i o,(∀(kd:IntKind) (H2:q0a),q2E v (.int kd k) sz H2=some (.pointer (some ⟨i,o,none⟩),H2)) ∧
   (∀f u,f<sz→cs[k*sz+f]?=some u→q0l (H.get i) (o+f) none H=some (u,H)) ∧
   q0l (H.get i) o (some sz) H=some (.agg ⟨(cs.drop (k*sz)).take sz⟩,H):=by
 obtain ⟨i,o,c,cells,el,st,ver,anc,rfl,hg,hm,hle,hcs⟩:=h.form (by omega)
 have hkn:k*sz+sz≤n*sz:=by rw[←Nat.succ_mul];exact Nat.mul_le_mul_right _ hk
 refine ⟨i,o+k*sz,fun kd H2=>q4z ⟨by omega,by omega⟩,fun f u hf hu=>?_,?_⟩
 ·rw[hg,q3d hm]
  have:cells[o+k*sz+f]?=some u:=by
   rw[←hcs,List.getElem?_take,if_pos (by omega),List.getElem?_drop] at hu
   rw[←hu]
   congr 1
   omega
  rw[this];rfl
 ·rw[hg,q4e hm (by omega)]
  congr 3
  rw[←hcs]
  rw[List.drop_take,List.take_take,List.drop_drop,Nat.min_eq_left (by omega)]
def k1m (H H':q0a):Prop:=∀i b,H.get i=some b→b.st.mem=true→∃b',H'.get i=some b'∧b'.cells=b.cells∧b'.st.mem=true
theorem k1m.refl (H:q0a):k1m H H:=fun i b h hm=>⟨b,h,rfl,hm⟩
theorem Ext.keeps {H H':q0a} (h:Ext H H'):k1m H H':=fun i b hb hm=>⟨b,h.get hb,rfl,hm⟩
theorem Sl.keeps {H H':q0a} (hk:k1m H H') {sz:Nat} {v:Value} {n:Nat} {cs:List Value} (h:Sl H sz v n cs):Sl H' sz v n cs:=by
 by_cases hn:n=0
 ·obtain ⟨⟨a,c,rfl⟩,h⟩:=h
  refine ⟨⟨a,c,rfl⟩,?_⟩
  subst hn
  unfold cellsOf at h ⊢
  split at h
  ·exact h
  ·rename_i i o n' c' hv
   injection hv with h1 h2 h3
   subst h1 h2 h3
   rw[if_pos rfl] at h
   simp only[if_true]
   exact h
  ·exact h
  ·cases h
 ·obtain ⟨i,o,c,cells,el,st,ver,anc,rfl,hg,hm,hle,hcs⟩:=h.form hn
  obtain ⟨b',h1,h2,h3⟩:=hk i _ hg hm
  refine ⟨⟨_,_,rfl⟩,?_⟩
  unfold cellsOf
  simp only
  rw[if_neg hn,h1]
  simp only
  rw[if_pos ⟨h3,by rw[h2];exact hle⟩,h2,hcs]
theorem Sl.ext {H H':q0a} (hk:Ext H H') {sz:Nat} {v:Value} {n:Nat} {cs:List Value} (h:Sl H sz v n cs):Sl H' sz v n cs:=h.keeps hk.keeps
theorem Sl.nil (H:q0a) (sz:Nat):Sl H sz (.slice none 0 0) 0 []:=⟨⟨_,_,rfl⟩,rfl⟩
theorem Sl.new {H:q0a} {i sz n c:Nat} {cells:List Value} {el:TypeId} {st:St} {ver:Nat} {anc:List Nat} (hg:H.get i=some ⟨cells,el,st,ver,anc⟩) (hm:st.mem=true) (hl:cells.length=n*sz):Sl H sz (.slice (some ⟨i,0,none⟩) n c) n cells:=by
 refine ⟨⟨_,_,rfl⟩,?_⟩
 unfold cellsOf
 simp only
 split
 ·rename_i hn
  subst hn
  simp at hl
  rw[hl]
 ·rw[hg]
  simp only
  rw[if_pos ⟨hm,by omega⟩,List.drop_zero,←hl,List.take_length]
def ints (l:List Int):List Value:=l.map fun x=>.int .i64 x
def Ints (H:q0a) (v:Value) (l:List Int):Prop:=Sl H 1 v l.length (ints l)
theorem Ints.keeps {H H':q0a} (hk:k1m H H') {v:Value} {l:List Int} (h:Ints H v l):Ints H' v l:=Sl.keeps hk h
theorem Ints.ext {H H':q0a} (hk:Ext H H') {v:Value} {l:List Int} (h:Ints H v l):Ints H' v l:=Sl.ext hk h
theorem Ints.at {H:q0a} {v:Value} {l:List Int} (h:Ints H v l) {k:Nat} {x:Int} (hk:l[k]?=some x) :
  ∃i o,(∀(kd:IntKind) (H2:q0a),q2E v (.int kd k) 1 H2=some (.pointer (some ⟨i,o,none⟩),H2))∧q0l (H.get i) o none H=some (.int .i64 x,H):=by
 obtain ⟨i,o,h1,h2,_⟩:=Sl.at h (List.getElem?_eq_some_iff.1 hk).1
 refine ⟨i,o,h1,?_⟩
 exact h2 0 _ (by omega) (by simp[ints,hk])
def Own (H:q0a) (el:TypeId) (sz:Nat) (v:Value) (n:Nat) (cs:List Value):Prop:=
 cs.length=n*sz∧((v=.slice none 0 0∧n=0)∨∃b ver anc,v=.slice (some ⟨b,0,none⟩) n (n+1)∧0<n∧H.get b=some ⟨cs,el,.tip,ver,anc⟩)
def From (B:Nat) (v:Value):Prop:=match v with
 | .slice (some a) _ _=>B≤a.block
 | _=>True
theorem Own.sl {H:q0a} {el:TypeId} {sz:Nat} {v:Value} {n:Nat} {cs:List Value} (h:Own H el sz v n cs):Sl H sz v n cs:=by
 obtain ⟨hl,⟨rfl,rfl⟩|⟨b,ver,anc,rfl,hn,hg⟩⟩:=h
 ·simp at hl
  rw[hl]
  exact Sl.nil H sz
 ·exact Sl.new hg (by decide) hl
section
variable {P:Program} {Γ:FuncId→Option q0h} {Ω:q0F} {cf:q0F} {e e':Env} {H:q0a}
theorem k0i:∀{ps:List (Nat×Nat×Operand)},(∀x∈ps.map (·.2.2),ev e x=ev e' x)→q3m e ps=q3m e' ps:=by
 intro ps h
 unfold q3m
 refine List.map_congr_left fun p hp=>?_
 rw[h _ (List.mem_map.2 ⟨p,hp,rfl⟩)]
theorem k4s {d:Int} {x:Option Operand} (h:∀y∈x.toList,ev e y=ev e' y):bndA e d x=bndA e' d x:=by
 cases x with
 | none=>rfl
 | some x=>unfold bndA;simp only[h x (by simp)]
theorem k8R {o:AOp} (h:∀x∈o.ops,ev e x=ev e' x):q0o P cf e H o=q0o P cf e' H o:=by
 cases o with
 | gen o=>
  have hx:∀x∈o.op.operands,ev e x=ev e' x:=fun x hx=>h x (by simpa[AOp.ops] using hx)
  have hall:(o.op.operands.toList.all fun x=>q0J (ev e x))=(o.op.operands.toList.all fun x=>q0J (ev e' x)):=by
   rw[Bool.eq_iff_iff,List.all_eq_true,List.all_eq_true]
   exact ⟨fun hh x hm=>by rw[←hx x (by simpa using hm)];exact hh x hm,fun hh x hm=>by rw[hx x (by simpa using hm)];exact hh x hm⟩
  simp only[q0o,q0N,hall]
  by_cases hs:∃cs b,o.op=.select cs b
  ·obtain ⟨cs,b,hs⟩:=hs
   have key:∀(ρ:Operand→Value) (v:Value),q0C P (execOp ρ o)≠some (.value v):=by
    intro ρ v hr
    rw[execOp,hs] at hr
    have h1:=q6R hr default
    simp only[Sem.run_bind] at h1
    revert h1
    generalize Sem.run P _ _=r
    cases r with
    | ok x w'=>simp[Result.andThen]
    | halt x w'=>simp[Result.andThen]
   congr 1
   split
   ·split
    ·rename_i v hr;exact absurd hr (key _ _)
    ·split
     ·rename_i v hr;exact absurd hr (key _ _)
     ·rfl
   ·rfl
  ·rw[execOp_congr o (fun cs b hc=>hs ⟨cs,b,hc⟩) hx]
 | mkfun fn a b=>
  simp only[q0o,q0N]
  rw[List.map_congr_left (fun x hx=>h x (by simp[AOp.ops,hx])),List.map_congr_left (f:=ev e) (g:=ev e') (fun x hx=>h x (by simp[AOp.ops,hx]))]
 | call f args=>
  rw[k2H,k2H,h f (by simp[AOp.ops]),List.map_congr_left (f:=ev e) (g:=ev e') (fun x hx=>h x (by simp[AOp.ops,hx]))]
 | build z ps=>rw[k1x,k1x,k0i (fun x hx=>h x (by simpa[AOp.ops] using hx))]
 | bslice el n sz z ps=>rw[q7X,q7X,k0i (fun x hx=>h x (by simpa[AOp.ops] using hx))]
 | slice x lo hi sz=>
  simp only[q0o,q6q]
  have h1:ev e x=ev e' x:=h x (by simp[AOp.ops])
  have h2:∀d,bndA e d lo=bndA e' d lo:=fun d=>k4s (fun y hy=>h y (by simp[AOp.ops] at hy ⊢;exact Or.inr (Or.inl hy)))
  have h3:∀d,bndA e d hi=bndA e' d hi:=fun d=>k4s (fun y hy=>h y (by simp[AOp.ops] at hy ⊢;exact Or.inr (Or.inr hy)))
  simp only[h1,h2,h3]
 | alloc cells el=>rfl
 | mop m=>
  show mapA P cf e H m=mapA P cf e' H m
  cases m with
  | inv r name args=>
   show invA P cf (ev e r) name (args.map (ev e)) H=invA P cf (ev e' r) name (args.map (ev e')) H
   rw[h r (by simp[AOp.ops,q8y.ops]),List.map_congr_left (f:=ev e) (g:=ev e') (fun x hx=>h x (by simp[AOp.ops,q8y.ops,hx]))]
  | b2s x=>
   show (match cellsOf H 1 (ev e x) with|some cs=>(txtB ByteArray.empty cs).map fun s=>(Value.string s,H)|none=>none)=(match cellsOf H 1 (ev e' x) with|some cs=>(txtB ByteArray.empty cs).map fun s=>(Value.string s,H)|none=>none)
   rw[h x (by simp[AOp.ops,q8y.ops])]
  | fix x=>
   show fixA (ev e x) H=fixA (ev e' x) H
   rw[h x (by simp[AOp.ops,q8y.ops])]
  | make t=>rfl
  | get x i z ok=>
   show k1F _ _ z ok H=k1F _ _ z ok H
   rw[h x (by simp[AOp.ops,q8y.ops]),h i (by simp[AOp.ops,q8y.ops])]
  | set m k v=>
   show k1G _ _ _ H=k1G _ _ _ H
   rw[h m (by simp[AOp.ops,q8y.ops]),h k (by simp[AOp.ops,q8y.ops]),h v (by simp[AOp.ops,q8y.ops])]
 | mv x=>rw[z5G,z5G,h x (by simp[AOp.ops])]
 | pick c a b=>rw[k2C,k2C,h c (by simp[AOp.ops]),h a (by simp[AOp.ops]),h b (by simp[AOp.ops])]
 | ext t ix=>rw[k6Z,k6Z,h t (by simp[AOp.ops])]
 | field x a o l=>rw[k0e,k0e,h x (by simp[AOp.ops])]
 | index x i c a s=>rw[k0f,k0f,h x (by simp[AOp.ops]),h i (by simp[AOp.ops])]
 | int op x y=>rw[k7a,k7a,h x (by simp[AOp.ops]),h y (by simp[AOp.ops])]
 | beq n x y=>rw[k7b,k7b,h x (by simp[AOp.ops]),h y (by simp[AOp.ops])]
 | isNil k n x=>rw[k1y,k1y,h x (by simp[AOp.ops])]
 | not x=>rw[k7c,k7c,h x (by simp[AOp.ops])]
 | conv k x=>rw[k2D,k2D,h x (by simp[AOp.ops])]
 | faddr x o=>rw[k1w,k1w,h x (by simp[AOp.ops])]
 | iaddr x i s=>rw[q9X,q9X,h x (by simp[AOp.ops]),h i (by simp[AOp.ops])]
 | aaddr x i c s=>rw[q9Y,q9Y,h x (by simp[AOp.ops]),h i (by simp[AOp.ops])]
 | nilChk x=>rw[q9Z,q9Z,h x (by simp[AOp.ops])]
 | mkface t x=>rw[k0d,k0d,h x (by simp[AOp.ops])]
 | len s x=>rw[k7e,k7e,h x (by simp[AOp.ops])]
 | max2 x y=>rw[z0e,z0e,h x (by simp[AOp.ops]),h y (by simp[AOp.ops])]
 | min2 x y=>rw[z0f,z0f,h x (by simp[AOp.ops]),h y (by simp[AOp.ops])]
 | load x k=>rw[k0C,k0C,h x (by simp[AOp.ops])]
 | slice0 x=>rw[k0g,k0g,h x (by simp[AOp.ops])]
 | box x el=>rw[k9Z,k9Z,h x (by simp[AOp.ops])]
 | store x v n=>rw[k0a,k0a,h x (by simp[AOp.ops]),h v (by simp[AOp.ops])]
 | append s x el sz b=>rw[q7Y,q7Y,h s (by simp[AOp.ops]),h x (by simp[AOp.ops])]
theorem k2L {r:ARow} {x:Operand} (hx:x∈r.op.ops):ev (forget (q2O r) e) x=ev e x:=by
 cases x with
 | tmp t=>
  refine q5O ?_
  unfold q2O
  refine List.mem_append_left _ ?_
  rw[List.mem_filterMap]
  exact ⟨.tmp t,hx,rfl⟩
 | _=>rfl
theorem k8S {r:ARow}:rowV P cf r (forget (q2O r) e) H=rowV P cf r e H:=by
 obtain ⟨d,o,g⟩:=r
 have hs:q0o P cf (forget (q2O ⟨d,o,g⟩) e) H o=q0o P cf e H o:=k8R fun x hx=>k2L (r:=⟨d,o,g⟩) hx
 cases g with
 | none=>rw[q9W,q9W];exact hs
 | some g=>
  obtain ⟨t,want⟩:=g
  rw[q7W,q7W]
  have ht:eget (forget (q2O ⟨d,o,some (t,want)⟩) e) t=eget e t:=q5O (by unfold q2O;simp)
  rw[ht]
  unfold q7m
  rw[hs]
noncomputable def q6I (i:Nat) (b:Option ABlk):List (Nat×Nat):=match b with
 | some b=>[(i,b.ver)]
 | none=>[]
noncomputable def z0t (v:Value) (H:q0a):List (Nat×Nat):=match v with
 | .pointer (some ⟨i,_,none⟩)=>q6I i (H.get i)
 | _=>[]
noncomputable def z7F (v:Value) (H:q0a):List (Nat×Nat):=match v with
 | .slice (some ⟨i,_,none⟩) _ _=>q6I i (H.get i)
 | _=>[]
noncomputable def q1y (o:AOp) (e:Env) (H:q0a):List (Nat×Nat):=match o with
 | .load x _=>z0t (ev e x) H
 | .mop (.b2s x)=>z7F (ev e x) H
 | _=>[]
theorem z3p {r:ARow}:q3p H (forget (q2O r) e) r=q1y r.op e H:=by
 obtain ⟨d,o,g⟩:=r
 cases o<;>try rfl
 case mop m=>
  cases m<;>try rfl
  rename_i x
  have:ev (forget (q2O ⟨d,.mop (.b2s x),g⟩) e) x=ev e x:=k2L (r:=⟨d,.mop (.b2s x),g⟩) (by simp[AOp.ops,q8y.ops])
  simp only[q3p,q1y,this]
  unfold k6f z7F q6I
  split
  ·rename_i i o n c h
   simp only[h]
   cases H.get i<;>rfl
  ·rename_i h
   split
   ·rename_i i o n c h2;exact absurd h2 (h i o n c)
   ·rfl
 rename_i x k
 have:ev (forget (q2O ⟨d,.load x k,g⟩) e) x=ev e x:=k2L (r:=⟨d,.load x k,g⟩) (by simp[AOp.ops])
 simp only[q3p,q1y,this]
 unfold z0t q6I
 split
 ·rename_i i o h
  simp only[h]
  cases H.get i<;>rfl
 ·rename_i h
  split
  ·rename_i i o h2;exact absurd h2 (h i o)
  ·rfl
noncomputable def z0u (b:Bool) (r:Option (Env×q0a)):Option (Env×q0a):=if b=true then r else none
noncomputable def k7n (c:Bool) (H:q0a) (F:List Nat):Bool:=!c||calm H F
noncomputable def z0v (b:Bool) (H:q0a) (l:List (Nat×Nat)):Bool:=!b||q7D H l
noncomputable def z3q (P:Program) (cf:q0F) (rs:List ARow) (e:Env) (d:Option Nat) (l:List (Nat×Nat)) (F':List Nat) (c:Bool) (F:List Nat) (s:Bool) (r:Option (Value×q0a)):Option (Env×q0a):=r.bind fun x=>z0u (k7n c x.2 F&&s) (q3F P cf rs l F' (eput e d x.1) x.2)
theorem z0w {l:List (Nat×Nat)}:z0v false H l=true:=rfl
theorem k7o {l:List (Nat×Nat)}:z0v true H l=q7D H l:=by simp[z0v]
theorem z3r {l:List (Nat×Nat)}:z2i false l=l:=rfl
theorem z0x {l:List (Nat×Nat)}:z2i true l=[]:=rfl
theorem z3s {r:ARow} {rs:List ARow}:q7q r rs=z2h (q0M r.op) rs:=rfl
theorem z7G {rs:List ARow}:z2h false rs=false:=rfl
theorem z7H {rs:List ARow}:z2h true rs=rdL rs:=rfl
theorem z7I:rdL []=true:=rfl
noncomputable def rdB (b:Bool) (rs:List ARow):Bool:=match b with
 | true=>rdL rs
 | false=>false
theorem z3t {r:ARow} {rs:List ARow}:rdL (r::rs)=rdB (noRd r.op) rs:=rfl
theorem rd_t {rs:List ARow}:rdB true rs=rdL rs:=rfl
theorem rd_f {rs:List ARow}:rdB false rs=false:=rfl
theorem j1o {x0:Operand}:noRd (.mv x0)=true:=rfl
theorem z3u {x0:Operand} {x1:Operand} {x2:Operand}:noRd (.pick x0 x1 x2)=false:=rfl
theorem z7J {x0:Operand} {x1:Nat}:noRd (.ext x0 x1)=false:=rfl
theorem z0y {x0:Operand} {x1:Bool} {x2:Nat} {x3:Nat}:noRd (.field x0 x1 x2 x3)=false:=rfl
theorem z0z {x0:Operand} {x1:Operand} {x2:Nat} {x3:Bool} {x4:Nat}:noRd (.index x0 x1 x2 x3 x4)=false:=rfl
theorem z0A {x0:List Value} {x1:List (Nat×Nat×Operand)}:noRd (.build x0 x1)=false:=rfl
theorem z7K {x0:BinOp} {x1:Operand} {x2:Operand}:noRd (.int x0 x1 x2)=true:=rfl
theorem z7L {x0:Bool} {x1:Operand} {x2:Operand}:noRd (.beq x0 x1 x2)=false:=rfl
theorem z0B {x0:Nat} {x1:Bool} {x2:Operand}:noRd (.isNil x0 x1 x2)=false:=rfl
theorem z7M {x0:Operand}:noRd (.not x0)=false:=rfl
theorem z3v {x0:IntKind} {x1:Operand}:noRd (.conv x0 x1)=false:=rfl
theorem z7N {x0:Oper}:noRd (.gen x0)=false:=rfl
theorem z0C {x0:Operand} {x1:Nat}:noRd (.faddr x0 x1)=true:=rfl
theorem z0D {x0:Operand} {x1:Operand} {x2:Nat}:noRd (.iaddr x0 x1 x2)=true:=rfl
theorem z0E {x0:Operand} {x1:Operand} {x2:Nat} {x3:Nat}:noRd (.aaddr x0 x1 x2 x3)=true:=rfl
theorem k7p {x0:Operand}:noRd (.nilChk x0)=true:=rfl
theorem z0F {x0:Fn} {x1:List Operand} {x2:List Operand}:noRd (.mkfun x0 x1 x2)=false:=rfl
theorem k7q {x0:TypeId} {x1:Operand}:noRd (.mkface x0 x1)=false:=rfl
theorem z7O {x0:Bool} {x1:Operand}:noRd (.len x0 x1)=false:=rfl
theorem z3w {x0:Operand} {x1:Operand}:noRd (.max2 x0 x1)=false:=rfl
theorem z3x {x0:Operand} {x1:Operand}:noRd (.min2 x0 x1)=false:=rfl
theorem z3y {x0:Operand} {x1:Option Nat}:noRd (.load x0 x1)=false:=rfl
theorem z0G {x0:Operand} {x1:Option Operand} {x2:Option Operand} {x3:Nat}:noRd (.slice x0 x1 x2 x3)=false:=rfl
theorem k7r {x0:Operand}:noRd (.slice0 x0)=false:=rfl
theorem z0H {x0:List Value} {x1:TypeId}:noRd (.alloc x0 x1)=false:=rfl
theorem z7P {x0:Operand} {x1:TypeId}:noRd (.box x0 x1)=false:=rfl
theorem k7s {x0:TypeId} {x1:Nat} {x2:Nat} {x3:List Value} {x4:List (Nat×Nat×Operand)}:noRd (.bslice x0 x1 x2 x3 x4)=false:=rfl
theorem z0I {x0:Operand} {x1:Operand} {x2:Nat}:noRd (.store x0 x1 x2)=true:=rfl
theorem k7t {x0:Operand} {x1:Operand} {x2:TypeId} {x3:Nat} {x4:Nat}:noRd (.append x0 x1 x2 x3 x4)=false:=rfl
theorem z3z {x0:Operand} {x1:List Operand}:noRd (.call x0 x1)=false:=rfl
theorem z7Q {x0:q8y}:noRd (.mop x0)=false:=rfl
theorem z7R {rows:List ARow}:run P Γ Ω (.draw rows) e H=(q3F P (cw P Γ Ω) rows [] [] e H).map fun x=>(.normal,x.1,x.2):=z8T
theorem z3A {r:ARow} {rs:List ARow} {l:List (Nat×Nat)} {F:List Nat}:q3F P cf (r::rs) l F e H=z3q P cf rs e r.dst (z2i (q7q r rs) (q1y r.op e H++l)) (q1w r.op H.n++F) (q1b r.op) F (z0v (q7q r rs) H l) (rowV P cf r e H):=by
 rw[z2O,k8S,z3p];rfl
theorem z3B {rs:List ARow} {d:Nat} {l:List (Nat×Nat)} {F' F:List Nat} {c s:Bool} {v:Value} {H':q0a}:z3q P cf rs e (some d) l F' c F s (some (v,H'))=z0u (k7n c H' F&&s) (q3F P cf rs l F' ((d,v)::e) H'):=rfl
theorem z3C {rs:List ARow} {l:List (Nat×Nat)} {F' F:List Nat} {c s:Bool} {v:Value} {H':q0a}:z3q P cf rs e none l F' c F s (some (v,H'))=z0u (k7n c H' F&&s) (q3F P cf rs l F' e H'):=rfl
theorem j1p {r:Option (Env×q0a)}:z0u true r=r:=rfl
theorem z3D {F:List Nat}:k7n false H F=true:=rfl
theorem z0J:k7n true H []=true:=rfl
theorem k7u {i:Nat} {F:List Nat}:k7n true H (i::F)=(k6g (H.get i)&&k7n true H F):=by simp[k7n,calm]
theorem k4t {cells:List Value} {el:TypeId}:k6g (some ⟨cells,el,.tip,0,[]⟩)=true:=rfl
noncomputable def z3E (b:Bool) (e:Env) (H:q0a):Option (Env×q0a):=if b=true then some (e,H) else none
theorem z7S {l:List (Nat×Nat)} {F:List Nat}:q3F P cf [] l F e H=z3E (q7D H l) e H:=rfl
theorem z7T:z3E true e H=some (e,H):=rfl
theorem k0j:q7D H []=true:=rfl
noncomputable def k7v (v:Nat) (b:Option ABlk):Bool:=match b with
 | some b=>b.ver==v
 | none=>false
theorem q8r {i v:Nat} {l:List (Nat×Nat)}:q7D H ((i,v)::l)=(k7v v (H.get i)&&q7D H l):=rfl
theorem k2M {cells:List Value} {el:TypeId} {st:St} {ver:Nat} {anc:List Nat}:k7v ver (some ⟨cells,el,st,ver,anc⟩)=true:=by simp[k7v]
theorem k4u {i:Nat} {cells:List Value} {el:TypeId} {st:St} {ver:Nat} {anc:List Nat}:q6I i (some ⟨cells,el,st,ver,anc⟩)=[(i,ver)]:=rfl
theorem k0G {i:Nat} {l:List (Nat×Nat)}:q7D H (q6I i (H.get i)++l)=q7D H l:=by
 unfold q6I
 cases hg:H.get i with
 | none=>rfl
 | some b=>
  simp only[List.cons_append,List.nil_append,q8r,hg]
  simp[k7v]
theorem z3F {H1:q0a} (hx:Ext H H1) {i:Nat} {l:List (Nat×Nat)}:q7D H1 (q6I i (H.get i)++l)=q7D H1 l:=by
 unfold q6I
 cases hg:H.get i with
 | none=>rfl
 | some b=>
  simp only[List.cons_append,List.nil_append,q8r,hx.get hg]
  simp[k7v]
theorem k2N {i:Nat}:q7D H (q6I i (H.get i))=true:=by
 have:=k0G (H:=H) (i:=i) (l:=[])
 rw[List.append_nil] at this
 rw[this,k0j]
theorem z1N {H1:q0a} (hx:Ext H H1) {i:Nat}:q7D H1 (q6I i (H.get i))=true:=by
 have:=z3F hx (i:=i) (l:=[])
 rw[List.append_nil] at this
 rw[this,k0j]
theorem k4v {i o:Nat}:z0t (.pointer (some ⟨i,o,none⟩)) H=q6I i (H.get i):=rfl
theorem k1b {xs:Array Value}:z0t (.tuple xs) H=[]:=rfl
end
abbrev Rl:=List Int×List Int
def z3G (H:q0a) (cs:List Value) (k:Nat) (r:Rl):Prop:=∃vi vo,cs[k*2]?=some vi∧cs[k*2+1]?=some vo∧Ints H vi r.1∧Ints H vo r.2
def tiny (l:List Int):Prop:=l.length<4611686018427387904
def q2g (H:q0a) (v:Value) (L:List Rl):Prop:=L.length<4611686018427387904∧∃cs,Sl H 2 v L.length cs∧∀k r,L[k]?=some r→z3G H cs k r∧tiny r.1∧tiny r.2
theorem q2g.keeps {H H':q0a} (hk:k1m H H') {v:Value} {L:List Rl} (h:q2g H v L):q2g H' v L:=by
 obtain ⟨h0,cs,h1,h2⟩:=h
 refine ⟨h0,cs,h1.keeps hk,fun k r hr=>?_⟩
 obtain ⟨⟨vi,vo,h3,h4,h5,h6⟩,h7⟩:=h2 k r hr
 exact ⟨⟨vi,vo,h3,h4,h5.keeps hk,h6.keeps hk⟩,h7⟩
theorem q2g.ext {H H':q0a} (hk:Ext H H') {v:Value} {L:List Rl} (h:q2g H v L):q2g H' v L:=h.keeps hk.keeps
theorem q2g.len {H H2:q0a} {v:Value} {L:List Rl} (h:q2g H v L):vLen false v H2=some (.int .i64 L.length,H2):=by
 obtain ⟨_,cs,h1,_⟩:=h
 exact h1.len
theorem q2g.at {H:q0a} {v:Value} {L:List Rl} (h:q2g H v L) {k:Nat} {r:Rl} (hr:L[k]?=some r) :
  ∃i o vi vo,(∀(kd:IntKind) (H2:q0a),q2E v (.int kd k) 2 H2=some (.pointer (some ⟨i,o,none⟩),H2))∧q0l (H.get i) o none H=some (vi,H)∧q0l (H.get i) (o+1) none H=some (vo,H) ∧
   q0l (H.get i) o (some 2) H=some (.agg ⟨[vi,vo]⟩,H)∧Ints H vi r.1∧Ints H vo r.2∧tiny r.1∧tiny r.2:=by
 obtain ⟨h0,cs,h1,h2⟩:=h
 obtain ⟨⟨vi,vo,h3,h4,h5,h6⟩,h7,h8⟩:=h2 k r hr
 obtain ⟨i,o,a1,a2,a3⟩:=h1.at (List.getElem?_eq_some_iff.1 hr).1
 refine ⟨i,o,vi,vo,a1,a2 0 vi (by omega) h3,a2 1 vo (by omega) h4,?_,h5,h6,h7,h8⟩
 rw[a3]
 have:(cs.drop (k*2)).take 2=[vi,vo]:=by
  apply List.ext_getElem?
  intro j
  rw[List.getElem?_take]
  rcases j with _|_|j
  ·simp[List.getElem?_drop,h3]
  ·simp[List.getElem?_drop,h4]
  ·simp;omega
 rw[this]
theorem z0K {H:q0a} {el:TypeId} {a:Int}:q0D el 1 1 [.int .i64 0] [(0,1,.int .i64 a)] H=some (.slice (some ⟨H.n,0,none⟩) 1 2,H.push ⟨[.int .i64 a],el,.tip,0,[]⟩):=rfl
theorem z7U {H:q0a} {a b:Option Addr} {n c m d:Nat}:q2l [.slice none 0 0,.slice none 0 0] [(0,1,.slice a n c),(1,1,.slice b m d)] H=some (.agg ⟨[.slice a n c,.slice b m d]⟩,H):=rfl
theorem z3H {H:q0a} {el:TypeId} {x y:Value}:q0D el 1 2 [.slice none 0 0,.slice none 0 0] [(0,2,.agg ⟨[x,y]⟩)] H=some (.slice (some ⟨H.n,0,none⟩) 1 2,H.push ⟨[x,y],el,.tip,0,[]⟩):=rfl
def q1f (H:q0a) (el:TypeId) (v:Value) (L:List Rl):Prop:=∃cs,Own H el 2 v L.length cs∧∀k r,L[k]?=some r→z3G H cs k r∧tiny r.1∧tiny r.2
theorem q1f.nil (H:q0a) (el:TypeId):q1f H el (.slice none 0 0) []:=⟨[],⟨rfl,.inl ⟨rfl,rfl⟩⟩,fun k r h=>by simp at h⟩
theorem q1f.rules {H:q0a} {el:TypeId} {v:Value} {L:List Rl} (h:q1f H el v L) (hs:L.length<4611686018427387904):q2g H v L:=by
 obtain ⟨cs,h1,h2⟩:=h
 exact ⟨hs,cs,h1.sl,h2⟩
theorem Own.ext {H H':q0a} (hx:Ext H H') {el:TypeId} {sz:Nat} {v:Value} {n:Nat} {cs:List Value} (h:Own H el sz v n cs):Own H' el sz v n cs:=by
 obtain ⟨hl,h⟩:=h
 refine ⟨hl,?_⟩
 rcases h with h|⟨b,ver,anc,h1,h2,h3⟩
 ·exact .inl h
 ·exact .inr ⟨b,ver,anc,h1,h2,hx.get h3⟩
theorem q1f.ext {H H':q0a} (hx:Ext H H') {el:TypeId} {v:Value} {L:List Rl} (h:q1f H el v L):q1f H' el v L:=by
 obtain ⟨cs,h1,h2⟩:=h
 refine ⟨cs,h1.ext hx,fun k r hr=>?_⟩
 obtain ⟨⟨vi,vo,h3,h4,h5,h6⟩,h7⟩:=h2 k r hr
 exact ⟨⟨vi,vo,h3,h4,h5.ext hx,h6.ext hx⟩,h7⟩
noncomputable def q8b (H:q0a) (bs:List ABlk):q0a:=bs.foldl q0a.push H
theorem k1c (H:q0a) (b:ABlk) (bs:List ABlk):q8b H (b::bs)=q8b (H.push b) bs:=rfl
theorem k7w:∀(bs:List ABlk) (H:q0a),(q8b H bs).n=H.n+bs.length
 | [],H=>rfl
 | b::bs,H=>by rw[k1c,k7w bs,q0a.n_push,List.length_cons];omega
theorem q9l:∀(bs:List ABlk) (H:q0a),Ext H (q8b H bs)
 | [],H=>Ext.refl H
 | b::bs,H=>(Ext.push H b).trans (q9l bs _)
theorem k2O:∀(bs:List ABlk) (H:q0a) (k:Nat) (b:ABlk),bs[k]?=some b→(q8b H bs).get (H.n+k)=some b
 | [],H,k,b,h=>by simp at h
 | c::bs,H,0,b,h=>by
  simp at h
  subst h
  exact (q9l bs _).get q0b
 | c::bs,H,k+1,b,h=>by
  have:=k2O bs (H.push c) k b (by simpa using h)
  rw[q0a.n_push] at this
  rw[k1c,←this]
  congr 1
  omega
end Lon
