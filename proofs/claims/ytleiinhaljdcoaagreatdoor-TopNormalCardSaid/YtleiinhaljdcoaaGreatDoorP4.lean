/- What is proved here: what the program's functions come to, as far as the claimed statement asks. Conditions: those that each theorem names, and no others. -/
import Derived.Test.YtleiinhaljdcoaaGreatDoorP3
set_option linter.unusedSimpArgs false
set_option linter.unusedVariables false
namespace Lon
open Go
def iLt (a b:Int):Bool:=match a,b with
 | .ofNat m,.ofNat n=>Nat.blt m n
 | .ofNat _,.negSucc _=>false
 | .negSucc _,.ofNat _=>true
 | .negSucc m,.negSucc n=>Nat.blt n m
def iEq (a b:Int):Bool:=match a,b with
 | .ofNat m,.ofNat n=>Nat.beq m n
 | .negSucc m,.negSucc n=>Nat.beq m n
 | _,_=>false
theorem iLt_eq (a b:Int):iLt a b=decide (a<b):=by
 unfold iLt
 split
 ·rename_i m n
  by_cases h:m<n
  ·have:Nat.blt m n=true:=by simp[Nat.blt_eq,h]
   rw[this];symm;simp;omega
  ·have:Nat.blt m n=false:=by
    cases hb:Nat.blt m n with
    | false=>rfl
    | true=>exact absurd (by simpa[Nat.blt_eq] using hb) h
   rw[this];symm;simp;omega
 ·symm;simp;omega
 ·symm;simp;omega
 ·rename_i m n
  by_cases h:n<m
  ·have:Nat.blt n m=true:=by simp[Nat.blt_eq,h]
   rw[this];symm;simp;omega
  ·have:Nat.blt n m=false:=by
    cases hb:Nat.blt n m with
    | false=>rfl
    | true=>exact absurd (by simpa[Nat.blt_eq] using hb) h
   rw[this];symm;simp;omega
theorem iEq_eq (a b:Int):iEq a b=(a == b):=by
 have key:∀ m n:Nat,Nat.beq m n=decide (m=n):=fun m n=>by
  by_cases h:m=n
  ·subst h;simp
  ·have:Nat.beq m n=false:=by
    cases hb:Nat.beq m n with
    | false=>rfl
    | true=>exact absurd (Nat.eq_of_beq_eq_true hb) h
   rw[this];simp[h]
 unfold iEq
 split
 ·rename_i m n
  rw[key]
  by_cases h:m=n
  ·simp[h]
  ·simp[h];omega
 ·rename_i m n
  rw[key]
  by_cases h:m=n <;> simp[h]
 ·rename_i h1 h2
  cases a <;> cases b <;> first | rfl | (rename_i m n;exact absurd rfl (h1 m n rfl)) | (rename_i m n;exact absurd rfl (h2 m n rfl)) | skip
  all_goals first | (exfalso;exact h1 _ _ rfl rfl) | (exfalso;exact h2 _ _ rfl rfl)
def limK:IntKind→Nat
 | .i8=>128 | .i16=>32768 | .i32=>2147483648 | .i64=>9223372036854775808
 | .u8=>256 | .u16=>65536 | .u32=>4294967296 | .u64=>18446744073709551616
def iWrap (k:IntKind) (n:Int):Int:=match n with
 | .ofNat m=>cond (Nat.blt m (limK k)) (.ofNat m) (k.wrap (.ofNat m))
 | .negSucc m=>k.wrap (.negSucc m)
theorem iWrap_eq (k:IntKind) (n:Int):iWrap k n=k.wrap n:=by
 unfold iWrap
 split
 ·rename_i m
  cases h:Nat.blt m (limK k) with
  | false=>rfl
  | true=>
   have hlt:m<limK k:=by simpa[Nat.blt_eq] using h
   show (Int.ofNat m)=_
   unfold IntKind.wrap
   cases k <;> simp only[limK] at hlt <;> simp only[IntKind.bits,IntKind.signed] <;> (try simp) <;> (try split) <;> omega
 ·rfl
def nAdd (a b:Int):Int:=match a,b with
 | .ofNat m,.ofNat n=>.ofNat (Nat.add m n)
 | a,b=>a+b
theorem nAdd_eq (a b:Int):nAdd a b=a+b:=by
 unfold nAdd
 split
 ·rfl
 ·rfl
def oAdd (k:IntKind) (a b:Int):Option Value:=some (.int k (iWrap k (nAdd a b)))
def oEql (k:IntKind) (a b:Int):Option Value:=some (.bool (iEq a b))
def oNeq (k:IntKind) (a b:Int):Option Value:=some (.bool (not (iEq a b)))
def oLss (k:IntKind) (a b:Int):Option Value:=some (.bool (iLt a b))
def oGtr (k:IntKind) (a b:Int):Option Value:=some (.bool (iLt b a))
def oLeq (k:IntKind) (a b:Int):Option Value:=some (.bool (not (iLt b a)))
def oGeq (k:IntKind) (a b:Int):Option Value:=some (.bool (not (iLt a b)))
def intB:BinOp→IntKind→Int→Int→Option Value
 | .add=>oAdd
 | .eql=>oEql
 | .neq=>oNeq
 | .lss=>oLss
 | .gtr=>oGtr
 | .leq=>oLeq
 | .geq=>oGeq
 | op=>intOp op
theorem intB_eq (op:BinOp) (k:IntKind) (a b:Int):intB op k a b=intOp op k a b:=by
 cases op <;> simp only[intB,oAdd,oEql,oNeq,oLss,oGtr,oLeq,oGeq,intOp,iWrap_eq,nAdd_eq,iEq_eq,iLt_eq,bne] <;> try rfl
 ·simp only[Option.some.injEq,Value.bool.injEq]
  by_cases h:b<a <;> simp[h] <;> omega
 ·simp only[Option.some.injEq,Value.bool.injEq]
  by_cases h:a<b <;> simp[h] <;> omega
noncomputable def evT (t:Nat) (e:Env):Value:=eget e t
def evC (v:Value) (_:Env):Value:=cond (ground v) v poison
def evP (_:Env):Value:=poison
def evF (f:FuncId) (_:Env):Value:=.func (.func f) ⟨[]⟩ ⟨[]⟩
noncomputable def evB:Operand→Env→Value
 | .tmp t=>evT t
 | .const v=>evC v
 | .global _=>evP
 | .func f=>evF f
theorem evB_eq (x:Operand) (e:Env):evB x e=ev e x:=by
 cases x <;> simp only[evB,ev,evT,evC,evP,evF]
 rename_i v
 cases ground v <;> rfl
abbrev StepF:=Program→CallF→Env→AHeap→Option (Value × AHeap)
noncomputable def sMv (x:Operand):StepF:=fun _ _ e H=>some (evB x e,H)
def kPick (a b:Value) (H:AHeap) (c:Value):Option (Value × AHeap):=match c with
 | .bool t=>some (cond t a b,H)
 | _=>none
noncomputable def sPick (c a b:Operand):StepF:=fun _ _ e H=>kPick (evB a e) (evB b e) H (evB c e)
def kInt2 (op:BinOp) (k:IntKind) (a:Int) (H:AHeap) (y:Value):Option (Value × AHeap):=match y with
 | .int k' b=>if k=k' then (match intB op k a b with | some v=>some (v,H) | none=>none) else none
 | _=>none
noncomputable def kInt (op:BinOp) (y:Operand) (e:Env) (H:AHeap) (x:Value):Option (Value × AHeap):=match x with
 | .int k a=>kInt2 op k a H (evB y e)
 | _=>none
noncomputable def sInt (op:BinOp) (x y:Operand):StepF:=fun _ _ e H=>kInt op y e H (evB x e)
def kConv (k:IntKind) (H:AHeap) (x:Value):Option (Value × AHeap):=match x with
 | .int _ n=>some (.int k (iWrap k n),H)
 | _=>none
noncomputable def sConv (k:IntKind) (x:Operand):StepF:=fun _ _ e H=>kConv k H (evB x e)
def kAt (b o n sz:Nat) (H:AHeap) (j:Int):Option (Value × AHeap):=match j with
 | .ofNat m=>cond (Nat.blt m n) (some (.pointer (some ⟨b,o+m*sz,none⟩),H)) none
 | .negSucc _=>none
def kIaddr2 (b o n sz:Nat) (H:AHeap) (i:Value):Option (Value × AHeap):=match i with
 | .int _ j=>kAt b o n sz H j
 | _=>none
noncomputable def kIaddr (i:Operand) (sz:Nat) (e:Env) (H:AHeap) (x:Value):Option (Value × AHeap):=match x with
 | .slice (some ⟨b,o,none⟩) n _=>kIaddr2 b o n sz H (evB i e)
 | _=>none
noncomputable def sIaddr (x i:Operand) (sz:Nat):StepF:=fun _ _ e H=>kIaddr i sz e H (evB x e)
noncomputable def kAaddr (i:Operand) (cnt sz:Nat) (e:Env) (H:AHeap) (x:Value):Option (Value × AHeap):=match x with
 | .pointer (some ⟨b,o,none⟩)=>kIaddr2 b o cnt sz H (evB i e)
 | _=>none
noncomputable def sAaddr (x i:Operand) (cnt sz:Nat):StepF:=fun _ _ e H=>kAaddr i cnt sz e H (evB x e)
noncomputable def appB (a b:List Value):List Value:=List.rec (motive:=fun _=>List Value) b (fun x _ ih=>x :: ih) a
noncomputable def dropB (n:Nat) (l:List Value):List Value:=Nat.rec (motive:=fun _=>List Value→List Value) (fun l=>l) (fun _ ih l=>List.casesOn l [] (fun _ r=>ih r)) n l
noncomputable def takeB (n:Nat) (l:List Value):List Value:=Nat.rec (motive:=fun _=>List Value→List Value) (fun _=>[]) (fun _ ih l=>List.casesOn l [] (fun x r=>x :: ih r)) n l
noncomputable def lenB (l:List Value):Nat:=List.rec (motive:=fun _=>Nat) 0 (fun _ _ ih=>Nat.add ih 1) l
noncomputable def getB (i:Nat) (l:List Value):Option Value:=Nat.rec (motive:=fun _=>List Value→Option Value) (fun l=>List.casesOn l none (fun x _=>some x)) (fun _ ih l=>List.casesOn l none (fun _ r=>ih r)) i l
noncomputable def allB (l:List Value):Bool:=List.rec (motive:=fun _=>Bool) true (fun x _ ih=>cond (one x) ih false) l
theorem appB_eq (b:List Value):∀ a:List Value,appB a b=a++b
 | []=>rfl
 | x :: r=>by show x :: appB r b=_;rw[appB_eq b r];rfl
theorem dropB_eq:∀ (n:Nat) (l:List Value),dropB n l=l.drop n
 | 0,l=>rfl
 | n+1,[]=>rfl
 | n+1,_ :: r=>dropB_eq n r
theorem takeB_eq:∀ (n:Nat) (l:List Value),takeB n l=l.take n
 | 0,l=>rfl
 | n+1,[]=>rfl
 | n+1,x :: r=>by show x :: takeB n r=_;rw[takeB_eq n r];rfl
theorem lenB_eq:∀ l:List Value,lenB l=l.length
 | []=>rfl
 | x :: r=>by show Nat.add (lenB r) 1=_;rw[lenB_eq r];rfl
theorem getB_eq:∀ (i:Nat) (l:List Value),getB i l=l[i]?
 | 0,[]=>rfl
 | 0,_ :: _=>rfl
 | n+1,[]=>rfl
 | n+1,_ :: r=>getB_eq n r
theorem allB_eq:∀ l:List Value,allB l=l.all one
 | []=>rfl
 | x :: r=>by
  show cond (one x) (allB r) false=_
  rw[allB_eq r,List.all_cons]
  cases one x <;> rfl
theorem ble_ite {α:Type} (m n:Nat) (a b:α):cond (Nat.ble m n) a b=if m≤n then a else b:=by
 by_cases h:m≤n
 ·have:Nat.ble m n=true:=Nat.ble_eq_true_of_le h
  rw[this,if_pos h];rfl
 ·have:Nat.ble m n=false:=by
   cases hb:Nat.ble m n with
   | false=>rfl
   | true=>exact absurd (Nat.le_of_ble_eq_true hb) h
  rw[this,if_neg h];rfl
noncomputable def gotB (o:Nat) (k:Option Nat) (H:AHeap) (b:Option ABlk):Option (Value × AHeap):=match b with
 | some blk=>cond blk.st.mem (match k with
   | some n=>cond (Nat.ble (o+n) (lenB blk.cells)) (some (.agg ⟨takeB n (dropB o blk.cells)⟩,H)) none
   | none=>match getB o blk.cells with | some v=>some (v,H) | none=>none) none
 | none=>none
noncomputable def kLoad (k:Option Nat) (H:AHeap) (x:Value):Option (Value × AHeap):=match x with
 | .pointer (some ⟨i,o,none⟩)=>gotB o k H (H.get i)
 | _=>none
theorem kLoad_eq (k:Option Nat) (H:AHeap) (x:Value):kLoad k H x=vLoad x k H:=by
 unfold kLoad
 split
 ·rename_i i o
  rw[v_load]
  unfold gotB gotLoad
  cases H.get i with
  | none=>rfl
  | some blk=>
   simp only[lenB_eq,takeB_eq,dropB_eq,getB_eq,ble_ite]
   cases blk.st.mem with
   | false=>rfl
   | true=>
    simp only[cond_true,if_true]
    cases k with
    | none=>simp only;cases blk.cells[o]? <;> rfl
    | some n=>simp only;split <;> rfl
 ·rename_i h
  unfold vLoad
  split
  ·rename_i i o;exact absurd rfl (h i o)
  ·rfl
noncomputable def rowParts (sz off:Nat) (ps:List (Nat × Nat × Value)):Bool:=List.rec (motive:=fun _=>Nat→Bool) (fun _=>true) (fun p _ ih off=>cond (Nat.beq p.1 off) (cond (Nat.beq (lenB p.2.2.cells.toList) sz) (ih (off+sz)) false) false) ps off
noncomputable def flatParts (ps:List (Nat × Nat × Value)):List Value:=List.rec (motive:=fun _=>List Value) [] (fun p _ ih=>appB p.2.2.cells.toList ih) ps
theorem rowParts_lay (sz:Nat):∀ (ps:List (Nat × Nat × Value)) (off:Nat) (cells:List Value),rowParts sz off ps=true→off≤cells.length→lay cells (dropSz ps)=cells.take off++flatParts ps++cells.drop (off+ps.length*sz)
 | [],off,cells,_,_=>by simp[lay,dropSz,flatParts]
 | (o,s,v) :: r,off,cells,h,hle=>by
  have h':cond (Nat.beq o off) (cond (Nat.beq (lenB v.cells.toList) sz) (rowParts sz (off+sz) r) false) false=true:=h
  rw[cond_beq,cond_beq,lenB_eq] at h'
  split at h'
  ·rename_i ho
   subst ho
   split at h'
   ·rename_i hs
    have hf:flatParts ((o,s,v) :: r)=v.cells.toList++flatParts r:=appB_eq _ _
    simp only[dropSz,List.map_cons,lay,hf]
    by_cases hfit:o+sz≤cells.length
    ·have ih:=rowParts_lay sz r (o+sz) (cells.take o++v.cells.toList++cells.drop (o+v.cells.toList.length)) h' (by simp only[List.length_append,List.length_take,List.length_drop,hs];omega)
     rw[show dropSz r=r.map (fun p=>(p.1,p.2.2)) from rfl] at ih
     rw[ih,hs]
     have hlen:(cells.take o++v.cells.toList).length=o+sz:=by simp only[List.length_append,List.length_take,hs];omega
     rw[List.append_assoc (cells.take o),← List.append_assoc (cells.take o),List.take_left' hlen]
     rw[List.drop_append,List.drop_of_length_le (by rw[hlen];omega),hlen,List.nil_append,List.drop_drop]
     simp only[List.append_assoc,List.length_cons,Nat.succ_mul]
     congr 3
     congr 1
     omega
    ·have ih:=rowParts_lay sz r (o+sz) (cells.take o++v.cells.toList++cells.drop (o+v.cells.toList.length)) h' (by simp only[List.length_append,List.length_take,List.length_drop,hs];omega)
     rw[show dropSz r=r.map (fun p=>(p.1,p.2.2)) from rfl] at ih
     rw[ih,hs]
     have hlen:(cells.take o++v.cells.toList).length=o+sz:=by simp only[List.length_append,List.length_take,hs];omega
     rw[List.append_assoc (cells.take o),← List.append_assoc (cells.take o),List.take_left' hlen]
     rw[List.drop_append,List.drop_of_length_le (by rw[hlen];omega),hlen,List.nil_append,List.drop_drop]
     simp only[List.append_assoc,List.length_cons,Nat.succ_mul]
     congr 3
     congr 1
     omega
   ·cases h'
  ·cases h'
noncomputable def layB (sz n:Nat) (cells:List Value) (ps:List (Nat × Nat × Value)):List Value:=
 cond (rowParts sz 0 ps) (cond (Nat.beq n (ps.length*sz)) (flatParts ps) (lay cells (dropSz ps))) (lay cells (dropSz ps))
theorem layB_eq (sz n:Nat) (cells:List Value) (ps:List (Nat × Nat × Value)) (hn:cells.length=n):layB sz n cells ps=lay cells (dropSz ps):=by
 unfold layB
 cases h:rowParts sz 0 ps with
 | false=>rfl
 | true=>
  simp only[cond_true]
  rw[cond_beq]
  split
  ·rename_i he
   rw[rowParts_lay sz ps 0 cells h (Nat.zero_le _)]
   rw[List.drop_of_length_le (by omega)]
   simp
  ·rfl
noncomputable def kBslice (el:TypeId) (n sz:Nat) (z:List Value) (ps:List (Nat × Nat × Value)) (H:AHeap):Option (Value × AHeap):=
 cond (okParts (n*sz) ps) (some (.slice (some ⟨H.n,0,none⟩) n (n+1),H.push ⟨layB sz (n*sz) ((List.replicate n z).flatten) ps,el,.tip,0,[]⟩)) none
theorem kBslice_eq (el:TypeId) (n sz:Nat) (z:List Value) (ps:List (Nat × Nat × Value)) (H:AHeap) (hz:z.length=sz):kBslice el n sz z ps H=vBslice el n sz z ps H:=by
 unfold kBslice vBslice
 rw[layB_eq sz (n*sz) _ ps (by simp[hz])]
 cases okParts (n*sz) ps <;> rfl
noncomputable def sBslice (el:TypeId) (n sz:Nat) (z:List Value) (ps:List (Nat × Nat × Operand)):StepF:=fun P cf e H=>
 cond (Nat.beq (lenB z) sz) (kBslice el n sz z (ps.map fun p=>(p.1,p.2.1,evB p.2.2 e)) H) (stepA P cf e H (.bslice el n sz z ps))
noncomputable def kCells (H:AHeap) (sz:Nat) (x:Value):Option (List Value):=match x with
 | .slice none 0 0=>some []
 | .slice (some ⟨i,o,none⟩) n _=>cond (Nat.beq n 0) (some []) (match H.get i with
  | some blk=>cond blk.st.mem (cond (Nat.ble (o+n*sz) (lenB blk.cells)) (some (cond (Nat.beq o 0) (cond (Nat.beq (n*sz) (lenB blk.cells)) blk.cells (takeB (n*sz) blk.cells)) (takeB (n*sz) (dropB o blk.cells)))) none) none
  | none=>none)
 | .slice (some ⟨_,_,some _⟩) 0 0=>some []
 | _=>none
theorem kCells_eq (H:AHeap) (sz:Nat) (x:Value):kCells H sz x=cellsOf H sz x:=by
 unfold kCells cellsOf
 split
 ·rfl
 ·rename_i i o n c
  simp only[cond_beq,ble_ite,lenB_eq,takeB_eq,dropB_eq]
  split
  ·rfl
  ·cases H.get i with
   | none=>rfl
   | some blk=>
    simp only
    cases hm:blk.st.mem with
    | false=>simp
    | true=>
     simp only[cond_true,true_and]
     split
     ·congr 1
      split
      ·rename_i h1
       subst h1
       split
       ·rename_i h2;simp[h2]
       ·simp
      ·rfl
     ·rfl
 ·rfl
 ·rename_i h1 h2 h3
  split
  ·exact absurd rfl h1
  ·rename_i i o n c;exact absurd rfl (h2 i o n c)
  ·rename_i i o k;exact absurd rfl (h3 i o k)
  ·rfl
def isTip:St→Bool | .tip=>true | _=>false
theorem isTip_ite {α:Type} (t:St) (a b:α):cond (isTip t) a b=if t=.tip then a else b:=by cases t <;> rfl
noncomputable def kApp3 (H:AHeap) (i n m o sz:Nat) (el:TypeId) (cells:List Value) (b:Option ABlk):Option (Value × AHeap):=match b with
 | some blk=>cond (isTip blk.st) (cond (Nat.beq blk.elem el)
   (cond (Nat.beq n 0) (some (.slice (some ⟨H.n,0,none⟩) (n+m) (n+m+1),(killAll H (i :: blk.anc)).push ⟨cells,el,.tip,0,[]⟩))
    (cond (Nat.beq (o+n*sz) (lenB blk.cells))
     (some (.slice (some ⟨H.n,0,none⟩) (n+m) (n+m+1),(H.upd i ⟨blk.cells,blk.elem,.ret,blk.ver,blk.anc⟩).push ⟨cells,el,.tip,0,i :: blk.anc⟩))
     (some (.slice (some ⟨H.n,0,none⟩) (n+m) (n+m+1),(killAll H (i :: blk.anc)).push ⟨cells,el,.tip,0,[]⟩)))) none) none
 | none=>none
noncomputable def kApp2 (H:AHeap) (n c m sz:Nat) (el:TypeId) (cells:List Value) (a:Option Addr):Option (Value × AHeap):=match a with
 | none=>some (.slice (some ⟨H.n,0,none⟩) (n+m) (n+m+1),H.push ⟨cells,el,.tip,0,[]⟩)
 | some a=>cond (Nat.beq c 0) (some (.slice (some ⟨H.n,0,none⟩) (n+m) (n+m+1),H.push ⟨cells,el,.tip,0,[]⟩)) (kApp3 H a.block n m a.off sz el cells (H.get a.block))
noncomputable def kApp1 (H:AHeap) (a:Option Addr) (n c m bytes sz:Nat) (el:TypeId) (o x:Option (List Value)):Option (Value × AHeap):=match o,x with
 | some old,some new=>cond (Nat.beq m 0) (some (.slice a n c,H)) (cond (Nat.ble ((n+m)*bytes) 140737488355328) (cond (allB new) (kApp2 H n c m sz el (appB old new) a) none) none)
 | _,_=>none
noncomputable def kAppend (H:AHeap) (s x:Value) (el:TypeId) (sz bytes:Nat):Option (Value × AHeap):=match s,x with
 | .slice a n c,.slice a' m c'=>kApp1 H a n c m bytes sz el (kCells H sz (.slice a n c)) (kCells H sz (.slice a' m c'))
 | _,_=>none
theorem kAppend_eq (H:AHeap) (s x:Value) (el:TypeId) (sz bytes:Nat):kAppend H s x el sz bytes=appendA H s x el sz bytes:=by
 unfold kAppend appendA
 split
 ·rename_i a n c a' m c'
  simp only[kCells_eq]
  generalize cellsOf H sz (.slice a n c)=o
  generalize cellsOf H sz (.slice a' m c')=x
  cases o <;> cases x <;> try rfl
  rename_i old new
  simp only[kApp1,cond_beq,ble_ite,allB_eq,appB_eq]
  split
  ·rfl
  ·by_cases h1:(n+m)*bytes≤140737488355328
   ·by_cases h2:new.all one=true
    ·rw[if_pos h1,if_pos ⟨h1,h2⟩,h2]
     simp only[cond_true,kApp2,cond_beq]
     cases a with
     | none=>rfl
     | some a=>
      simp only
      split
      ·rfl
      ·cases H.get a.block with
       | none=>rfl
       | some blk=>
        simp only[kApp3,isTip_ite,cond_beq,lenB_eq]
        by_cases h3:blk.st=.tip
        ·by_cases h4:blk.elem=el
         ·rw[if_pos h3,if_pos h4,if_pos (show blk.st=.tip∧blk.elem=el from ⟨h3,h4⟩)]
          by_cases h5:n=0
          ·rw[if_pos h5,if_neg (show ¬ (0<n∧a.off+n*sz=blk.cells.length) by omega)]
          ·rw[if_neg h5]
           by_cases h6:a.off+n*sz=blk.cells.length
           ·rw[if_pos h6,if_pos (show 0<n∧a.off+n*sz=blk.cells.length from ⟨by omega,h6⟩)]
           ·rw[if_neg h6,if_neg (show ¬ (0<n∧a.off+n*sz=blk.cells.length) from fun hh=>h6 hh.2)]
         ·rw[if_pos h3,if_neg h4,if_neg (show ¬ (blk.st=.tip∧blk.elem=el) from fun hh=>h4 hh.2)]
        ·rw[if_neg h3,if_neg (show ¬ (blk.st=.tip∧blk.elem=el) from fun hh=>h3 hh.1)]
    ·rw[if_pos h1,if_neg (by intro hh;exact h2 hh.2)]
     have:new.all one=false:=by cases hb:new.all one with | false=>rfl | true=>exact absurd hb h2
     rw[this];rfl
   ·rw[if_neg h1,if_neg (by intro hh;exact h1 hh.1)]
 ·rename_i h
  split
  ·rename_i a n c a' m c';exact absurd rfl (h a n c a' m c' rfl)
  ·rfl
noncomputable def stepB:AOp→StepF
 | .mv x=>sMv x
 | .pick c a b=>sPick c a b
 | .int op x y=>sInt op x y
 | .conv k x=>sConv k x
 | .iaddr x i sz=>sIaddr x i sz
 | .aaddr x i cnt sz=>sAaddr x i cnt sz
 | .ext t ix=>fun P cf e H=>vExt (evB t e) ix H
 | .not x=>fun P cf e H=>vNot (evB x e) H
 | .beq neq x y=>fun P cf e H=>vBeq neq (evB x e) (evB y e) H
 | .len str x=>fun P cf e H=>vLen str (evB x e) H
 | .load x k=>fun P cf e H=>kLoad k H (evB x e)
 | .alloc cells el=>fun P cf e H=>some (.pointer (some ⟨H.n,0,none⟩),H.push ⟨cells,el,.tip,0,[]⟩)
 | .store x v n=>fun P cf e H=>vStore (evB x e) (evB v e) n H
 | .call f args=>fun P cf e H=>vCall cf (evB f e) (args.map fun x=>evB x e) H
 | .append x y el sz bytes=>fun P cf e H=>kAppend H (evB x e) (evB y e) el sz bytes
 | .gen o=>fun P cf e H=>stepA P cf e H (.gen o)
 | .field x a o l=>fun P cf e H=>vField (evB x e) a o l H
 | .index x i c a s=>fun P cf e H=>vIndex (evB x e) (evB i e) c a s H
 | .build z ps=>fun P cf e H=>stepA P cf e H (.build z ps)
 | .isNil k n x=>fun P cf e H=>stepA P cf e H (.isNil k n x)
 | .faddr x o=>fun P cf e H=>stepA P cf e H (.faddr x o)
 | .nilChk x=>fun P cf e H=>stepA P cf e H (.nilChk x)
 | .mkfun f a b=>fun P cf e H=>stepA P cf e H (.mkfun f a b)
 | .mkface t x=>fun P cf e H=>stepA P cf e H (.mkface t x)
 | .max2 x y=>fun P cf e H=>stepA P cf e H (.max2 x y)
 | .min2 x y=>fun P cf e H=>stepA P cf e H (.min2 x y)
 | .slice x l h s=>fun P cf e H=>stepA P cf e H (.slice x l h s)
 | .slice0 x=>fun P cf e H=>stepA P cf e H (.slice0 x)
 | .box x el=>fun P cf e H=>stepA P cf e H (.box x el)
 | .bslice el n sz z ps=>sBslice el n sz z ps
 | .mop m=>fun P cf e H=>stepA P cf e H (.mop m)
theorem kAt_eq (b o n sz:Nat) (H:AHeap) (j:Int):kAt b o n sz H j=(if 0≤j∧j<n then some (.pointer (some ⟨b,o+j.toNat*sz,none⟩)) else none:Option Value).map fun v=>(v,H):=by
 unfold kAt
 split
 ·rename_i m
  cases h:Nat.blt m n with
  | true=>
   have:m<n:=by simpa[Nat.blt_eq] using h
   rw[if_pos ⟨by simp,by simp;omega⟩]
   simp
  | false=>
   rw[if_neg]
   ·rfl
   ·intro ⟨_,h2⟩
    have:Nat.blt m n=true:=by simp at h2;simp[Nat.blt_eq];omega
    rw[h] at this;cases this
 ·rw[if_neg (by intro ⟨h1,_⟩;omega)];rfl
theorem stepB_eq (P:Program) (cf:CallF) (e:Env) (H:AHeap) (o:AOp):stepB o P cf e H=stepA P cf e H o:=by
 cases o <;> try rfl
 case mv x=>simp only[stepB,sMv,evB_eq];rfl
 case pick c a b=>
  simp only[stepB,sPick,evB_eq,st_pick,vPick,kPick]
  cases ev e c <;> first | rfl | (rename_i t;cases t <;> rfl)
 case ext t ix=>simp only[stepB,evB_eq,st_ext]
 case not x=>simp only[stepB,evB_eq,st_not]
 case beq neq x y=>simp only[stepB,evB_eq,st_beq]
 case len str x=>simp only[stepB,evB_eq,st_len]
 case load x k=>simp only[stepB,evB_eq,st_load,kLoad_eq]
 case bslice el n sz z ps=>
  simp only[stepB,sBslice,evB_eq,cond_beq,lenB_eq]
  split
  ·rename_i hz
   rw[kBslice_eq el n sz z _ H hz,st_bslice];rfl
  ·rfl
 case store x v n=>simp only[stepB,evB_eq,st_store]
 case field=>simp only[stepB,evB_eq,st_field]
 case index=>simp only[stepB,evB_eq,st_index]
 case append=>simp only[stepB,evB_eq,st_append,kAppend_eq]
 case call f args=>
  simp only[stepB,evB_eq,st_call]
 case conv k x=>
  simp only[stepB,sConv,evB_eq,st_conv,vConv,kConv,iWrap_eq]
  cases ev e x <;> rfl
 case int op x y=>
  simp only[stepB,sInt,evB_eq,st_int,vInt,kInt]
  generalize ev e x=u
  cases u <;> try rfl
  simp only[kInt2]
  generalize ev e y=v
  cases v <;> try rfl
  simp only[intB_eq]
  split
  ·cases intOp op _ _ _ <;> rfl
  ·rfl
 case iaddr x i sz=>
  simp only[stepB,sIaddr,evB_eq,st_iaddr,kIaddr]
  split
  ·rename_i b o n c hx
   rw[hx]
   simp only[kIaddr2,vIaddr,kAt_eq]
   generalize ev e i=v
   cases v <;> rfl
  ·rename_i hx
   simp only[vIaddr]
   split
   ·rename_i b o n c k j h1 h2;exact absurd h1 (hx b o n c)
   ·rfl
 case aaddr x i cnt sz=>
  simp only[stepB,sAaddr,evB_eq,st_aaddr,kAaddr]
  split
  ·rename_i b o hx
   rw[hx]
   simp only[kIaddr2,vAaddr,kAt_eq]
   generalize ev e i=v
   cases v <;> rfl
  ·rename_i hx
   simp only[vAaddr]
   split
   ·rename_i b o k j h1 h2;exact absurd h1 (hx b o)
   ·rfl
noncomputable def kGuard (want:Bool) (r:Env→AHeap→Option (Value × AHeap)) (e:Env) (H:AHeap) (v:Value):Option (Value × AHeap):=match v with
 | .bool b=>cond (b == want) (r e H) (some (.tuple ⟨[]⟩,H))
 | .tuple ⟨[]⟩=>some (.tuple ⟨[]⟩,H)
 | _=>none
noncomputable def kRow (o:StepF) (P:Program) (cf:CallF) (e:Env) (H:AHeap) (g:Option (Nat × Bool)):Option (Value × AHeap):=match g with
 | none=>o P cf e H
 | some (t,want)=>kGuard want (o P cf) e H (eget e t)
noncomputable def rowB (P:Program) (cf:CallF) (r:ARow) (e:Env) (H:AHeap):Option (Value × AHeap):=kRow (stepB r.op) P cf e H r.guard
theorem rowB_eq (P:Program) (cf:CallF) (r:ARow) (e:Env) (H:AHeap):rowB P cf r e H=rowV P cf r e H:=by
 obtain ⟨d,o,g⟩:=r
 cases g with
 | none=>simp only[rowB,kRow,stepB_eq];rfl
 | some g=>
  obtain ⟨t,want⟩:=g
  rw[row_guard]
  simp only[rowB,kRow]
  unfold kGuard guarded
  split
  ·rename_i b hb
   simp only[hb,stepB_eq]
   cases b <;> cases want <;> rfl
  ·rename_i hb
   simp only[hb]
  ·rename_i h1 h2
   split
   ·rename_i b hb;exact absurd hb (h1 b)
   ·rename_i hb;exact absurd hb h2
   ·rfl
def kPut (d:Option Nat) (k:Env→AHeap→Option (Env × AHeap)) (e:Env) (r:Option (Value × AHeap)):Option (Env × AHeap):=match r with
 | some (v,H)=>k (match d with | some d=>(d,v) :: e | none=>e) H
 | none=>none
noncomputable def rowsB (rows:List ARow):Program→CallF→Env→AHeap→Option (Env × AHeap):=
 List.rec (motive:=fun _=>Program→CallF→Env→AHeap→Option (Env × AHeap)) (fun _ _ e H=>some (e,H)) (fun r _ ih P cf e H=>kPut r.dst (ih P cf) e (rowB P cf r e H)) rows
theorem rowsB_eq (P:Program) (cf:CallF):∀ (rows:List ARow) (e:Env) (H:AHeap),rowsB rows P cf e H=rowsA P cf rows e H
 | [],_,_=>rfl
 | r :: rs,e,H=>by
  show kPut r.dst (rowsB rs P cf) e (rowB P cf r e H)=_
  rw[rowB_eq]
  simp only[rowsA,rowA]
  cases rowV P cf r e H with
  | none=>rfl
  | some x=>
   obtain ⟨v,H'⟩:=x
   simp only[kPut,Option.map_some]
   rw[rowsB_eq P cf rs]
   cases r.dst <;> rfl
def kThen (k:Env→AHeap→Option (AEx × Env × AHeap)) (r:Option (AEx × Env × AHeap)):Option (AEx × Env × AHeap):=match r with
 | some (.normal,e,H)=>k e H
 | r=>r
def kIn (id:Nat) (r:Option (AEx × Env × AHeap)):Option (AEx × Env × AHeap):=match r with
 | some (.exit id',e,H)=>cond (Nat.beq id' id) (some (.normal,e,H)) (some (.exit id',e,H))
 | r=>r
def kFork (a b:Env→AHeap→Option (AEx × Env × AHeap)) (e:Env) (H:AHeap) (v:Value):Option (AEx × Env × AHeap):=match v with
 | .bool true=>a e H
 | .bool false=>b e H
 | _=>none
def kDone (r:Option (Env × AHeap)):Option (AEx × Env × AHeap):=match r with
 | some (e,H)=>some (.normal,e,H)
 | none=>none
noncomputable def forgetB (keep:List Nat) (e:Env):Env:=List.rec (motive:=fun _=>Env) [] (fun t _ ih=>(t,eget e t) :: ih) keep
theorem forgetB_eq (e:Env):∀ keep:List Nat,forgetB keep e=forget keep e
 | []=>rfl
 | t :: ts=>by
  show (t,eget e t) :: forgetB ts e=_
  rw[forgetB_eq e ts];rfl
def kIter (again:Env→AHeap→Option (AEx × Env × AHeap)) (r:Option (AEx × Env × AHeap)):Option (AEx × Env × AHeap):=match r with
 | none=>none
 | some (.normal,e,H)=>again e H
 | some r=>some r
noncomputable def iterB (keep:List Nat) (body:Env→AHeap→Option (AEx × Env × AHeap)) (n:Nat):Env→AHeap→Option (AEx × Env × AHeap):=
 Nat.rec (motive:=fun _=>Env→AHeap→Option (AEx × Env × AHeap)) (fun _ _=>none) (fun _ ih e H=>kIter ih (body (forgetB keep e) H)) n
theorem iterB_eq (keep:List Nat) (body:Env→AHeap→Option (AEx × Env × AHeap)):∀ (n:Nat) (e:Env) (H:AHeap),iterB keep body n e H=iterA keep body n e H
 | 0,_,_=>rfl
 | n+1,e,H=>by
  show kIter (iterB keep body n) (body (forgetB keep e) H)=_
  rw[forgetB_eq]
  simp only[iterA]
  unfold kIter
  split
  ·rename_i h;simp only[h]
  ·rename_i e' H' h;simp only[h];exact iterB_eq keep body n e' H'
  ·rename_i r hr h
   simp only[h]
abbrev RunF:=Program→CallF→Nat→Env→AHeap→Option (AEx × Env × AHeap)
noncomputable def execB (c:ACode):RunF:=
 ACode.rec (motive:=fun _=>RunF)
  (fun _ _ _ e H=>some (.normal,e,H))
  (fun rows P cf _ e H=>kDone (rowsB rows P cf e H))
  (fun rows P cf _ e H=>kDone (drawA P cf rows [] [] e H))
  (fun _ _ a b P cf lf e H=>kThen (b P cf lf) (a P cf lf e H))
  (fun q _ _ a b P cf lf e H=>kFork (a P cf lf) (b P cf lf) e H (evB q e))
  (fun id _ a P cf lf e H=>kIn id (a P cf lf e H))
  (fun keep _ a P cf lf e H=>iterB keep (a P cf lf) lf e H)
  (fun id _ _ _ e H=>some (.exit id,e,H))
  (fun _ _ _ e H=>some (.ret,e,H)) c
theorem execB_eq (P:Program) (cf:CallF) (lf:Nat):∀ (c:ACode) (e:Env) (H:AHeap),execB c P cf lf e H=execA P cf lf c e H:=by
 intro c
 induction c with
 | skip=>intro e H;rfl
 | ops rows=>
  intro e H
  show kDone (rowsB rows P cf e H)=_
  rw[rowsB_eq]
  simp only[execA]
  cases rowsA P cf rows e H <;> rfl
 | draw rows=>
  intro e H
  show kDone (drawA P cf rows [] [] e H)=_
  simp only[execA]
  cases drawA P cf rows [] [] e H <;> rfl
 | seq a b iha ihb=>
  intro e H
  show kThen (execB b P cf lf) (execB a P cf lf e H)=_
  rw[iha,show execB b P cf lf=execA P cf lf b from by funext e H;exact ihb e H]
  simp only[execA]
  cases execA P cf lf a e H with
  | none=>rfl
  | some r=>obtain ⟨x,e',H'⟩:=r;cases x <;> rfl
 | cond q a b iha ihb=>
  intro e H
  show kFork (execB a P cf lf) (execB b P cf lf) e H (evB q e)=_
  rw[evB_eq,show execB b P cf lf=execA P cf lf b from by funext e H;exact ihb e H,show execB a P cf lf=execA P cf lf a from by funext e H;exact iha e H]
  simp only[execA,kFork]
  cases ev e q <;> rfl
 | block id a iha=>
  intro e H
  show kIn id (execB a P cf lf e H)=_
  rw[iha]
  simp only[execA]
  cases execA P cf lf a e H with
  | none=>rfl
  | some r=>
   obtain ⟨x,e',H'⟩:=r
   cases x with
   | normal=>rfl
   | ret=>rfl
   | exit id'=>
    simp only[kIn]
    by_cases h:id'=id
    ·subst h;simp
    ·have:Nat.beq id' id=false:=by
      cases hb:Nat.beq id' id with
      | false=>rfl
      | true=>exact absurd (Nat.eq_of_beq_eq_true hb) h
     rw[this,if_neg h];rfl
 | loop keep a iha=>
  intro e H
  show iterB keep (execB a P cf lf) lf e H=_
  rw[iterB_eq,show execB a P cf lf=execA P cf lf a from by funext e H;exact iha e H]
  simp only[execA]
 | exit id=>intro e H;rfl
 | ret=>intro e H;rfl
noncomputable def kFin (P:Program) (rs:List ARes) (r:Option (AEx × Env × AHeap)):Option (Value × AHeap):=match r with
 | some (.exit _,_,_)=>none
 | some (_,e,H')=>(ressA P e H' rs).map fun vs=>(packA vs,H')
 | none=>none
noncomputable def kBody (P:Program) (cf:CallF) (n:Nat) (args:List Value) (H:AHeap) (F:Option AFunc):Option (Value × AHeap):=match F with
 | none=>none
 | some F=>cond (Nat.beq args.length F.nargs) (kFin P F.results (execB F.code P cf n (entry args) H)) none
noncomputable def kOm (k:Option (Value × AHeap)) (r:Option (Value × AHeap)):Option (Value × AHeap):=match r with
 | some r=>some r
 | none=>k
noncomputable def callB (P:Program) (Γ:FuncId→Option AFunc) (Ω:CallF) (n:Nat):CallF:=
 Nat.rec (motive:=fun _=>CallF) (fun _ _ _=>none) (fun n ih f args H=>kOm (kBody P ih n args H (Γ f)) (Ω f args H)) n
theorem callB_eq (P:Program) (Γ:FuncId→Option AFunc) (Ω:CallF):∀ (n:Nat) (f:FuncId) (args:List Value) (H:AHeap),callB P Γ Ω n f args H=callA P Γ Ω n f args H
 | 0,_,_,_=>rfl
 | n+1,f,args,H=>by
  show kOm (kBody P (callB P Γ Ω n) n args H (Γ f)) (Ω f args H)=_
  rw[show callB P Γ Ω n=callA P Γ Ω n from by funext f args H;exact callB_eq P Γ Ω n f args H]
  simp only[callA]
  cases Ω f args H with
  | some r=>rfl
  | none=>
   simp only[kOm]
   cases Γ f with
   | none=>rfl
   | some F=>
    simp only[kBody,execB_eq]
    by_cases h:args.length=F.nargs
    ·rw[if_pos h,h]
     simp
     cases execA P (callA P Γ Ω n) n F.code (entry args) H with
     | none=>rfl
     | some r=>obtain ⟨x,e',H'⟩:=r;cases x <;> rfl
    ·have:Nat.beq args.length F.nargs=false:=by
      cases hb:Nat.beq args.length F.nargs with
      | false=>rfl
      | true=>exact absurd (Nat.eq_of_beq_eq_true hb) h
     rw[if_neg h,this];rfl
theorem cw_ofB {P:Program} {Γ:FuncId→Option AFunc} {Ω:CallF} {g:FuncId} {args:List Value} {H:AHeap} {r:Value × AHeap} (n:Nat) (h:callB P Γ Ω n g args H=some r):cw P Γ Ω g args H=some r:=
 cw_of n (by rw[← callB_eq];exact h)
noncomputable def tabB (l:List (FuncId × AFunc)) (g:FuncId):Option AFunc:=List.rec (motive:=fun _=>Option AFunc) none (fun p _ ih=>cond (Nat.beq p.1 g) (some p.2) ih) l
theorem tabB_eq:∀ (l:List (FuncId × AFunc)) (g:FuncId),tabB l g=tabF l g
 | [],_=>rfl
 | (k,F) :: r,g=>by
  show cond (Nat.beq k g) (some F) (tabB r g)=_
  rw[tabB_eq r g]
  simp only[tabF]
  by_cases h:g=k
  ·subst h;simp
  ·have:Nat.beq k g=false:=by
    cases hb:Nat.beq k g with
    | false=>rfl
    | true=>exact absurd (Nat.eq_of_beq_eq_true hb).symm h
   rw[this,if_neg h];rfl
theorem cw_ofT {P:Program} {l:List (FuncId × AFunc)} {Ω:CallF} {g:FuncId} {args:List Value} {H:AHeap} {r:Value × AHeap} (n:Nat) (h:callB P (tabB l) Ω n g args H=some r):cw P (tabF l) Ω g args H=some r:=
 cw_ofB n (by rw[← show tabB l=tabF l from by funext g;exact tabB_eq l g];exact h)
def Sl (H:AHeap) (sz:Nat) (v:Value) (n:Nat) (cs:List Value):Prop:=(∃ a c,v=.slice a n c)∧cellsOf H sz v=some cs
theorem cellsOf_some {H:AHeap} {sz i o n c:Nat} {cs:List Value} (h:cellsOf H sz (.slice (some ⟨i,o,none⟩) n c)=some cs) (hn:n≠0) :
  ∃ cells el st ver anc,H.get i=some ⟨cells,el,st,ver,anc⟩∧st.mem=true∧o+n*sz≤cells.length∧(cells.drop o).take (n*sz)=cs:=by
 unfold cellsOf at h
 simp only at h
 rw[if_neg hn] at h
 split at h
 ·rename_i blk hg
  split at h
  ·rename_i hc
   injection h with h
   exact ⟨_,_,_,_,_,hg,hc.1,hc.2,h⟩
  ·cases h
 ·cases h
theorem Sl.length {H:AHeap} {sz:Nat} {v:Value} {n:Nat} {cs:List Value} (h:Sl H sz v n cs):cs.length=n*sz:=by
 obtain ⟨⟨a,c,rfl⟩,h⟩:=h
 by_cases hn:n=0
 ·subst hn
  unfold cellsOf at h
  split at h
  ·injection h with h;subst h;simp
  ·rename_i i o n' c' hv
   injection hv with _ hv _
   subst hv
   rw[if_pos rfl] at h
   injection h with h;subst h;simp
  ·injection h with h;subst h;simp
  ·cases h
 ·cases a with
  | none=>
   unfold cellsOf at h
   split at h
   ·rename_i hv;injection hv with _ hv _;exact absurd hv hn
   ·rename_i hv;injection hv with hv _ _;cases hv
   ·rename_i hv;injection hv with hv _ _;cases hv
   ·cases h
  | some a=>
   obtain ⟨i,o,s⟩:=a
   cases s with
   | none=>
    obtain ⟨cells,el,st,ver,anc,h1,h2,h3,h4⟩:=cellsOf_some h hn
    subst h4
    simp only[List.length_take,List.length_drop]
    omega
   | some s=>
    unfold cellsOf at h
    split at h
    ·rename_i hv;injection hv with hv _ _;cases hv
    ·rename_i hv;injection hv with hv _ _;cases hv
    ·rename_i hv;injection hv with _ hv _;exact absurd hv hn
    ·cases h
theorem Sl.len {H H2:AHeap} {sz:Nat} {v:Value} {n:Nat} {cs:List Value} (h:Sl H sz v n cs):vLen false v H2=some (.int .i64 n,H2):=by
 obtain ⟨⟨a,c,rfl⟩,_⟩:=h
 rfl
theorem Sl.form {H:AHeap} {sz:Nat} {v:Value} {n:Nat} {cs:List Value} (h:Sl H sz v n cs) (hn:n≠0) :
  ∃ i o c cells el st ver anc,v=.slice (some ⟨i,o,none⟩) n c∧H.get i=some ⟨cells,el,st,ver,anc⟩∧st.mem=true∧o+n*sz≤cells.length∧(cells.drop o).take (n*sz)=cs:=by
 obtain ⟨⟨a,c,rfl⟩,h⟩:=h
 cases a with
 | none=>
  unfold cellsOf at h
  split at h
  ·rename_i hv;injection hv with _ hv _;exact absurd hv hn
  ·rename_i hv;injection hv with hv _ _;cases hv
  ·rename_i hv;injection hv with hv _ _;cases hv
  ·cases h
 | some a=>
  obtain ⟨i,o,s⟩:=a
  cases s with
  | none=>
   obtain ⟨cells,el,st,ver,anc,h1,h2,h3,h4⟩:=cellsOf_some h hn
   exact ⟨i,o,c,cells,el,st,ver,anc,rfl,h1,h2,h3,h4⟩
  | some s=>
   unfold cellsOf at h
   split at h
   ·rename_i hv;injection hv with hv _ _;cases hv
   ·rename_i hv;injection hv with hv _ _;cases hv
   ·rename_i hv;injection hv with _ hv _;exact absurd hv hn
   ·cases h
theorem Sl.at {H:AHeap} {sz:Nat} {v:Value} {n:Nat} {cs:List Value} (h:Sl H sz v n cs) {k:Nat} (hk:k<n) :
  ∃ i o,(∀ (kd:IntKind) (H2:AHeap),vIaddr v (.int kd k) sz H2=some (.pointer (some ⟨i,o,none⟩),H2)) ∧
   (∀ f u,f<sz→cs[k*sz+f]?=some u→gotLoad (H.get i) (o+f) none H=some (u,H)) ∧
   gotLoad (H.get i) o (some sz) H=some (.agg ⟨(cs.drop (k*sz)).take sz⟩,H):=by
 obtain ⟨i,o,c,cells,el,st,ver,anc,rfl,hg,hm,hle,hcs⟩:=h.form (by omega)
 have hkn:k*sz+sz≤n*sz:=by rw[← Nat.succ_mul];exact Nat.mul_le_mul_right _ hk
 refine ⟨i,o+k*sz,fun kd H2=>v_iaddr ⟨by omega,by omega⟩,fun f u hf hu=>?_,?_⟩
 ·rw[hg,got_one hm]
  have:cells[o+k*sz+f]?=some u:=by
   rw[← hcs,List.getElem?_take,if_pos (by omega),List.getElem?_drop] at hu
   rw[← hu]
   congr 1
   omega
  rw[this];rfl
 ·rw[hg,got_row hm (by omega)]
  congr 3
  rw[← hcs]
  rw[List.drop_take,List.take_take,List.drop_drop,Nat.min_eq_left (by omega)]
def Keeps (H H':AHeap):Prop:=∀ i b,H.get i=some b→b.st.mem=true→∃ b',H'.get i=some b'∧b'.cells=b.cells∧b'.st.mem=true
theorem Keeps.refl (H:AHeap):Keeps H H:=fun i b h hm=>⟨b,h,rfl,hm⟩
theorem Ext.keeps {H H':AHeap} (h:Ext H H'):Keeps H H':=fun i b hb hm=>⟨b,h.get hb,rfl,hm⟩
theorem Sl.keeps {H H':AHeap} (hk:Keeps H H') {sz:Nat} {v:Value} {n:Nat} {cs:List Value} (h:Sl H sz v n cs):Sl H' sz v n cs:=by
 by_cases hn:n=0
 ·obtain ⟨⟨a,c,rfl⟩,h⟩:=h
  refine ⟨⟨a,c,rfl⟩,?_⟩
  subst hn
  unfold cellsOf at h ⊢
  split at h
  ·exact h
  ·rename_i i o n' c' hv
   injection hv with h1 h2 h3
   subst h1 h2 h3
   rw[if_pos rfl] at h
   simp only[if_true]
   exact h
  ·exact h
  ·cases h
 ·obtain ⟨i,o,c,cells,el,st,ver,anc,rfl,hg,hm,hle,hcs⟩:=h.form hn
  obtain ⟨b',h1,h2,h3⟩:=hk i _ hg hm
  refine ⟨⟨_,_,rfl⟩,?_⟩
  unfold cellsOf
  simp only
  rw[if_neg hn,h1]
  simp only
  rw[if_pos ⟨h3,by rw[h2];exact hle⟩,h2,hcs]
theorem Sl.ext {H H':AHeap} (hk:Ext H H') {sz:Nat} {v:Value} {n:Nat} {cs:List Value} (h:Sl H sz v n cs):Sl H' sz v n cs:=h.keeps hk.keeps
theorem Sl.nil (H:AHeap) (sz:Nat):Sl H sz (.slice none 0 0) 0 []:=⟨⟨_,_,rfl⟩,rfl⟩
theorem Sl.new {H:AHeap} {i sz n c:Nat} {cells:List Value} {el:TypeId} {st:St} {ver:Nat} {anc:List Nat} (hg:H.get i=some ⟨cells,el,st,ver,anc⟩) (hm:st.mem=true) (hl:cells.length=n*sz):Sl H sz (.slice (some ⟨i,0,none⟩) n c) n cells:=by
 refine ⟨⟨_,_,rfl⟩,?_⟩
 unfold cellsOf
 simp only
 split
 ·rename_i hn
  subst hn
  simp at hl
  rw[hl]
 ·rw[hg]
  simp only
  rw[if_pos ⟨hm,by omega⟩,List.drop_zero,← hl,List.take_length]
def ints (l:List Int):List Value:=l.map fun x=>.int .i64 x
def Ints (H:AHeap) (v:Value) (l:List Int):Prop:=Sl H 1 v l.length (ints l)
theorem Ints.keeps {H H':AHeap} (hk:Keeps H H') {v:Value} {l:List Int} (h:Ints H v l):Ints H' v l:=Sl.keeps hk h
theorem Ints.ext {H H':AHeap} (hk:Ext H H') {v:Value} {l:List Int} (h:Ints H v l):Ints H' v l:=Sl.ext hk h
theorem Ints.at {H:AHeap} {v:Value} {l:List Int} (h:Ints H v l) {k:Nat} {x:Int} (hk:l[k]?=some x) :
  ∃ i o,(∀ (kd:IntKind) (H2:AHeap),vIaddr v (.int kd k) 1 H2=some (.pointer (some ⟨i,o,none⟩),H2))∧gotLoad (H.get i) o none H=some (.int .i64 x,H):=by
 obtain ⟨i,o,h1,h2,_⟩:=Sl.at h (List.getElem?_eq_some_iff.1 hk).1
 refine ⟨i,o,h1,?_⟩
 exact h2 0 _ (by omega) (by simp[ints,hk])
def Own (H:AHeap) (el:TypeId) (sz:Nat) (v:Value) (n:Nat) (cs:List Value):Prop:=
 cs.length=n*sz∧((v=.slice none 0 0∧n=0)∨∃ b ver anc,v=.slice (some ⟨b,0,none⟩) n (n+1)∧0<n∧H.get b=some ⟨cs,el,.tip,ver,anc⟩)
def From (B:Nat) (v:Value):Prop:=match v with
 | .slice (some a) _ _=>B≤a.block
 | _=>True
theorem Own.sl {H:AHeap} {el:TypeId} {sz:Nat} {v:Value} {n:Nat} {cs:List Value} (h:Own H el sz v n cs):Sl H sz v n cs:=by
 obtain ⟨hl,⟨rfl,rfl⟩ | ⟨b,ver,anc,rfl,hn,hg⟩⟩:=h
 ·simp at hl
  rw[hl]
  exact Sl.nil H sz
 ·exact Sl.new hg (by decide) hl
section
variable {P:Program} {Γ:FuncId→Option AFunc} {Ω:CallF} {cf:CallF} {e e':Env} {H:AHeap}
theorem evParts_congr:∀ {ps:List (Nat × Nat × Operand)},(∀ x∈ps.map (·.2.2),ev e x=ev e' x)→evParts e ps=evParts e' ps:=by
 intro ps h
 unfold evParts
 refine List.map_congr_left fun p hp=>?_
 rw[h _ (List.mem_map.2 ⟨p,hp,rfl⟩)]
theorem bndA_congr {d:Int} {x:Option Operand} (h:∀ y∈x.toList,ev e y=ev e' y):bndA e d x=bndA e' d x:=by
 cases x with
 | none=>rfl
 | some x=>unfold bndA;simp only[h x (by simp)]
theorem stepA_congr {o:AOp} (h:∀ x∈o.ops,ev e x=ev e' x):stepA P cf e H o=stepA P cf e' H o:=by
 cases o with
 | gen o=>
  have hx:∀ x∈o.op.operands,ev e x=ev e' x:=fun x hx=>h x (by simpa[AOp.ops] using hx)
  have hall:(o.op.operands.toList.all fun x=>ground (ev e x))=(o.op.operands.toList.all fun x=>ground (ev e' x)):=by
   rw[Bool.eq_iff_iff,List.all_eq_true,List.all_eq_true]
   exact ⟨fun hh x hm=>by rw[← hx x (by simpa using hm)];exact hh x hm,fun hh x hm=>by rw[hx x (by simpa using hm)];exact hh x hm⟩
  simp only[stepA,pureA,hall]
  by_cases hs:∃ cs b,o.op=.select cs b
  ·obtain ⟨cs,b,hs⟩:=hs
   have key:∀ (ρ:Operand→Value) (v:Value),pureRun P (execOp ρ o)≠some (.value v):=by
    intro ρ v hr
    rw[execOp,hs] at hr
    have h1:=pureRun_sound hr default
    simp only[Sem.run_bind] at h1
    revert h1
    generalize Sem.run P _ _=r
    cases r with
    | ok x w'=>simp[Result.andThen]
    | halt x w'=>simp[Result.andThen]
   congr 1
   split
   ·split
    ·rename_i v hr;exact absurd hr (key _ _)
    ·split
     ·rename_i v hr;exact absurd hr (key _ _)
     ·rfl
   ·rfl
  ·rw[execOp_congr o (fun cs b hc=>hs ⟨cs,b,hc⟩) hx]
 | mkfun fn a b=>
  simp only[stepA,pureA]
  rw[List.map_congr_left (fun x hx=>h x (by simp[AOp.ops,hx])),List.map_congr_left (f:=ev e) (g:=ev e') (fun x hx=>h x (by simp[AOp.ops,hx]))]
 | call f args=>
  rw[st_call,st_call,h f (by simp[AOp.ops]),List.map_congr_left (f:=ev e) (g:=ev e') (fun x hx=>h x (by simp[AOp.ops,hx]))]
 | build z ps=>rw[st_build,st_build,evParts_congr (fun x hx=>h x (by simpa[AOp.ops] using hx))]
 | bslice el n sz z ps=>rw[st_bslice,st_bslice,evParts_congr (fun x hx=>h x (by simpa[AOp.ops] using hx))]
 | slice x lo hi sz=>
  simp only[stepA,readA]
  have h1:ev e x=ev e' x:=h x (by simp[AOp.ops])
  have h2:∀ d,bndA e d lo=bndA e' d lo:=fun d=>bndA_congr (fun y hy=>h y (by simp[AOp.ops] at hy ⊢;exact Or.inr (Or.inl hy)))
  have h3:∀ d,bndA e d hi=bndA e' d hi:=fun d=>bndA_congr (fun y hy=>h y (by simp[AOp.ops] at hy ⊢;exact Or.inr (Or.inr hy)))
  simp only[h1,h2,h3]
 | alloc cells el=>rfl
 | mop m=>
  show mapA P cf e H m=mapA P cf e' H m
  cases m with
  | inv r name args=>
   show invA P cf (ev e r) name (args.map (ev e)) H=invA P cf (ev e' r) name (args.map (ev e')) H
   rw[h r (by simp[AOp.ops,MapOp.ops]),List.map_congr_left (f:=ev e) (g:=ev e') (fun x hx=>h x (by simp[AOp.ops,MapOp.ops,hx]))]
  | b2s x=>
   show (match cellsOf H 1 (ev e x) with | some cs=>(txtB ByteArray.empty cs).map fun s=>(Value.string s,H) | none=>none)=(match cellsOf H 1 (ev e' x) with | some cs=>(txtB ByteArray.empty cs).map fun s=>(Value.string s,H) | none=>none)
   rw[h x (by simp[AOp.ops,MapOp.ops])]
  | fix x=>
   show fixA (ev e x) H=fixA (ev e' x) H
   rw[h x (by simp[AOp.ops,MapOp.ops])]
  | make t=>rfl
  | get x i z ok=>
   show mapGet _ _ z ok H=mapGet _ _ z ok H
   rw[h x (by simp[AOp.ops,MapOp.ops]),h i (by simp[AOp.ops,MapOp.ops])]
  | set m k v=>
   show mapSet _ _ _ H=mapSet _ _ _ H
   rw[h m (by simp[AOp.ops,MapOp.ops]),h k (by simp[AOp.ops,MapOp.ops]),h v (by simp[AOp.ops,MapOp.ops])]
 | mv x=>rw[st_mv,st_mv,h x (by simp[AOp.ops])]
 | pick c a b=>rw[st_pick,st_pick,h c (by simp[AOp.ops]),h a (by simp[AOp.ops]),h b (by simp[AOp.ops])]
 | ext t ix=>rw[st_ext,st_ext,h t (by simp[AOp.ops])]
 | field x a o l=>rw[st_field,st_field,h x (by simp[AOp.ops])]
 | index x i c a s=>rw[st_index,st_index,h x (by simp[AOp.ops]),h i (by simp[AOp.ops])]
 | int op x y=>rw[st_int,st_int,h x (by simp[AOp.ops]),h y (by simp[AOp.ops])]
 | beq n x y=>rw[st_beq,st_beq,h x (by simp[AOp.ops]),h y (by simp[AOp.ops])]
 | isNil k n x=>rw[st_isNil,st_isNil,h x (by simp[AOp.ops])]
 | not x=>rw[st_not,st_not,h x (by simp[AOp.ops])]
 | conv k x=>rw[st_conv,st_conv,h x (by simp[AOp.ops])]
 | faddr x o=>rw[st_faddr,st_faddr,h x (by simp[AOp.ops])]
 | iaddr x i s=>rw[st_iaddr,st_iaddr,h x (by simp[AOp.ops]),h i (by simp[AOp.ops])]
 | aaddr x i c s=>rw[st_aaddr,st_aaddr,h x (by simp[AOp.ops]),h i (by simp[AOp.ops])]
 | nilChk x=>rw[st_nilChk,st_nilChk,h x (by simp[AOp.ops])]
 | mkface t x=>rw[st_mkface,st_mkface,h x (by simp[AOp.ops])]
 | len s x=>rw[st_len,st_len,h x (by simp[AOp.ops])]
 | max2 x y=>rw[st_max,st_max,h x (by simp[AOp.ops]),h y (by simp[AOp.ops])]
 | min2 x y=>rw[st_min,st_min,h x (by simp[AOp.ops]),h y (by simp[AOp.ops])]
 | load x k=>rw[st_load,st_load,h x (by simp[AOp.ops])]
 | slice0 x=>rw[st_slice0,st_slice0,h x (by simp[AOp.ops])]
 | box x el=>rw[st_box,st_box,h x (by simp[AOp.ops])]
 | store x v n=>rw[st_store,st_store,h x (by simp[AOp.ops]),h v (by simp[AOp.ops])]
 | append s x el sz b=>rw[st_append,st_append,h s (by simp[AOp.ops]),h x (by simp[AOp.ops])]
theorem ev_forget {r:ARow} {x:Operand} (hx:x∈r.op.ops):ev (forget (slotsR r) e) x=ev e x:=by
 cases x with
 | tmp t=>
  refine eget_forget_mem ?_
  unfold slotsR
  refine List.mem_append_left _ ?_
  rw[List.mem_filterMap]
  exact ⟨.tmp t,hx,rfl⟩
 | _=>rfl
theorem rowV_forget {r:ARow}:rowV P cf r (forget (slotsR r) e) H=rowV P cf r e H:=by
 obtain ⟨d,o,g⟩:=r
 have hs:stepA P cf (forget (slotsR ⟨d,o,g⟩) e) H o=stepA P cf e H o:=stepA_congr fun x hx=>ev_forget (r:=⟨d,o,g⟩) hx
 cases g with
 | none=>rw[row_plain,row_plain];exact hs
 | some g=>
  obtain ⟨t,want⟩:=g
  rw[row_guard,row_guard]
  have ht:eget (forget (slotsR ⟨d,o,some (t,want)⟩) e) t=eget e t:=eget_forget_mem (by unfold slotsR;simp)
  rw[ht]
  unfold guarded
  rw[hs]
noncomputable def stampB (i:Nat) (b:Option ABlk):List (Nat × Nat):=match b with
 | some b=>[(i,b.ver)]
 | none=>[]
noncomputable def stampV (v:Value) (H:AHeap):List (Nat × Nat):=match v with
 | .pointer (some ⟨i,_,none⟩)=>stampB i (H.get i)
 | _=>[]
noncomputable def stampS (v:Value) (H:AHeap):List (Nat × Nat):=match v with
 | .slice (some ⟨i,_,none⟩) _ _=>stampB i (H.get i)
 | _=>[]
noncomputable def stampO (o:AOp) (e:Env) (H:AHeap):List (Nat × Nat):=match o with
 | .load x _=>stampV (ev e x) H
 | .mop (.b2s x)=>stampS (ev e x) H
 | _=>[]
theorem stamps_eq {r:ARow}:stamps H (forget (slotsR r) e) r=stampO r.op e H:=by
 obtain ⟨d,o,g⟩:=r
 cases o <;> try rfl
 case mop m=>
  cases m <;> try rfl
  rename_i x
  have:ev (forget (slotsR ⟨d,.mop (.b2s x),g⟩) e) x=ev e x:=ev_forget (r:=⟨d,.mop (.b2s x),g⟩) (by simp[AOp.ops,MapOp.ops])
  simp only[stamps,stampO,this]
  unfold stampC stampS stampB
  split
  ·rename_i i o n c h
   simp only[h]
   cases H.get i <;> rfl
  ·rename_i h
   split
   ·rename_i i o n c h2;exact absurd h2 (h i o n c)
   ·rfl
 rename_i x k
 have:ev (forget (slotsR ⟨d,.load x k,g⟩) e) x=ev e x:=ev_forget (r:=⟨d,.load x k,g⟩) (by simp[AOp.ops])
 simp only[stamps,stampO,this]
 unfold stampV stampB
 split
 ·rename_i i o h
  simp only[h]
  cases H.get i <;> rfl
 ·rename_i h
  split
  ·rename_i i o h2;exact absurd h2 (h i o)
  ·rfl
noncomputable def drawGo (b:Bool) (r:Option (Env × AHeap)):Option (Env × AHeap):=if b=true then r else none
noncomputable def calmC (c:Bool) (H:AHeap) (F:List Nat):Bool:=!c||calm H F
noncomputable def stillC (b:Bool) (H:AHeap) (l:List (Nat × Nat)):Bool:=!b||still H l
noncomputable def onDraw (P:Program) (cf:CallF) (rs:List ARow) (e:Env) (d:Option Nat) (l:List (Nat × Nat)) (F':List Nat) (c:Bool) (F:List Nat) (s:Bool) (r:Option (Value × AHeap)):Option (Env × AHeap):=r.bind fun x=>drawGo (calmC c x.2 F&&s) (drawA P cf rs l F' (eput e d x.1) x.2)
theorem still_no {l:List (Nat × Nat)}:stillC false H l=true:=rfl
theorem still_yes {l:List (Nat × Nat)}:stillC true H l=still H l:=by simp[stillC]
theorem next_no {l:List (Nat × Nat)}:nextL false l=l:=rfl
theorem next_yes {l:List (Nat × Nat)}:nextL true l=[]:=rfl
theorem last_cons {r r':ARow} {rs:List ARow}:lastSt r (r' :: rs)=false:=rfl
theorem last_nil {r:ARow}:lastSt r []=isStore r.op:=rfl
theorem w_draw {rows:List ARow}:run P Γ Ω (.draw rows) e H=(drawA P (cw P Γ Ω) rows [] [] e H).map fun x=>(.normal,x.1,x.2):=eq_draw
theorem dr_cons {r:ARow} {rs:List ARow} {l:List (Nat × Nat)} {F:List Nat}:drawA P cf (r :: rs) l F e H=onDraw P cf rs e r.dst (nextL (lastSt r rs) (stampO r.op e H++l)) (freshI r.op H.n++F) (isCall r.op) F (stillC (lastSt r rs) H l) (rowV P cf r e H):=by
 rw[draw_cons,rowV_forget,stamps_eq];rfl
theorem dr_some {rs:List ARow} {d:Nat} {l:List (Nat × Nat)} {F' F:List Nat} {c s:Bool} {v:Value} {H':AHeap}:onDraw P cf rs e (some d) l F' c F s (some (v,H'))=drawGo (calmC c H' F&&s) (drawA P cf rs l F' ((d,v) :: e) H'):=rfl
theorem dr_none {rs:List ARow} {l:List (Nat × Nat)} {F' F:List Nat} {c s:Bool} {v:Value} {H':AHeap}:onDraw P cf rs e none l F' c F s (some (v,H'))=drawGo (calmC c H' F&&s) (drawA P cf rs l F' e H'):=rfl
theorem dr_go {r:Option (Env × AHeap)}:drawGo true r=r:=rfl
theorem calm_no {F:List Nat}:calmC false H F=true:=rfl
theorem calm_nil:calmC true H []=true:=rfl
theorem calm_cons {i:Nat} {F:List Nat}:calmC true H (i :: F)=(calmB (H.get i)&&calmC true H F):=by simp[calmC,calm]
theorem calmB_some {cells:List Value} {el:TypeId}:calmB (some ⟨cells,el,.tip,0,[]⟩)=true:=rfl
noncomputable def drawEnd (b:Bool) (e:Env) (H:AHeap):Option (Env × AHeap):=if b=true then some (e,H) else none
theorem dr_nil {l:List (Nat × Nat)} {F:List Nat}:drawA P cf [] l F e H=drawEnd (still H l) e H:=rfl
theorem dr_end:drawEnd true e H=some (e,H):=rfl
theorem still_nil:still H []=true:=rfl
noncomputable def stillB (v:Nat) (b:Option ABlk):Bool:=match b with
 | some b=>b.ver == v
 | none=>false
theorem still_cons {i v:Nat} {l:List (Nat × Nat)}:still H ((i,v) :: l)=(stillB v (H.get i)&&still H l):=rfl
theorem stillB_some {cells:List Value} {el:TypeId} {st:St} {ver:Nat} {anc:List Nat}:stillB ver (some ⟨cells,el,st,ver,anc⟩)=true:=by simp[stillB]
theorem stamp_some {i:Nat} {cells:List Value} {el:TypeId} {st:St} {ver:Nat} {anc:List Nat}:stampB i (some ⟨cells,el,st,ver,anc⟩)=[(i,ver)]:=rfl
theorem still_here {i:Nat} {l:List (Nat × Nat)}:still H (stampB i (H.get i)++l)=still H l:=by
 unfold stampB
 cases hg:H.get i with
 | none=>rfl
 | some b=>
  simp only[List.cons_append,List.nil_append,still_cons,hg]
  simp[stillB]
theorem still_ext {H1:AHeap} (hx:Ext H H1) {i:Nat} {l:List (Nat × Nat)}:still H1 (stampB i (H.get i)++l)=still H1 l:=by
 unfold stampB
 cases hg:H.get i with
 | none=>rfl
 | some b=>
  simp only[List.cons_append,List.nil_append,still_cons,hx.get hg]
  simp[stillB]
theorem still_here0 {i:Nat}:still H (stampB i (H.get i))=true:=by
 have:=still_here (H:=H) (i:=i) (l:=[])
 rw[List.append_nil] at this
 rw[this,still_nil]
theorem still_ext0 {H1:AHeap} (hx:Ext H H1) {i:Nat}:still H1 (stampB i (H.get i))=true:=by
 have:=still_ext hx (i:=i) (l:=[])
 rw[List.append_nil] at this
 rw[this,still_nil]
theorem stampV_ptr {i o:Nat}:stampV (.pointer (some ⟨i,o,none⟩)) H=stampB i (H.get i):=rfl
theorem stampV_tuple {xs:Array Value}:stampV (.tuple xs) H=[]:=rfl
end
abbrev Rl:=List Int × List Int
def RuleAt (H:AHeap) (cs:List Value) (k:Nat) (r:Rl):Prop:=∃ vi vo,cs[k*2]?=some vi∧cs[k*2+1]?=some vo∧Ints H vi r.1∧Ints H vo r.2
def tiny (l:List Int):Prop:=l.length<4611686018427387904
def Rules (H:AHeap) (v:Value) (L:List Rl):Prop:=L.length<4611686018427387904∧∃ cs,Sl H 2 v L.length cs∧∀ k r,L[k]?=some r→RuleAt H cs k r∧tiny r.1∧tiny r.2
theorem Rules.keeps {H H':AHeap} (hk:Keeps H H') {v:Value} {L:List Rl} (h:Rules H v L):Rules H' v L:=by
 obtain ⟨h0,cs,h1,h2⟩:=h
 refine ⟨h0,cs,h1.keeps hk,fun k r hr=>?_⟩
 obtain ⟨⟨vi,vo,h3,h4,h5,h6⟩,h7⟩:=h2 k r hr
 exact ⟨⟨vi,vo,h3,h4,h5.keeps hk,h6.keeps hk⟩,h7⟩
theorem Rules.ext {H H':AHeap} (hk:Ext H H') {v:Value} {L:List Rl} (h:Rules H v L):Rules H' v L:=h.keeps hk.keeps
theorem Rules.len {H H2:AHeap} {v:Value} {L:List Rl} (h:Rules H v L):vLen false v H2=some (.int .i64 L.length,H2):=by
 obtain ⟨_,cs,h1,_⟩:=h
 exact h1.len
theorem Rules.at {H:AHeap} {v:Value} {L:List Rl} (h:Rules H v L) {k:Nat} {r:Rl} (hr:L[k]?=some r) :
  ∃ i o vi vo,(∀ (kd:IntKind) (H2:AHeap),vIaddr v (.int kd k) 2 H2=some (.pointer (some ⟨i,o,none⟩),H2))∧gotLoad (H.get i) o none H=some (vi,H)∧gotLoad (H.get i) (o+1) none H=some (vo,H) ∧
   gotLoad (H.get i) o (some 2) H=some (.agg ⟨[vi,vo]⟩,H)∧Ints H vi r.1∧Ints H vo r.2∧tiny r.1∧tiny r.2:=by
 obtain ⟨h0,cs,h1,h2⟩:=h
 obtain ⟨⟨vi,vo,h3,h4,h5,h6⟩,h7,h8⟩:=h2 k r hr
 obtain ⟨i,o,a1,a2,a3⟩:=h1.at (List.getElem?_eq_some_iff.1 hr).1
 refine ⟨i,o,vi,vo,a1,a2 0 vi (by omega) h3,a2 1 vo (by omega) h4,?_,h5,h6,h7,h8⟩
 rw[a3]
 have:(cs.drop (k*2)).take 2=[vi,vo]:=by
  apply List.ext_getElem?
  intro j
  rw[List.getElem?_take]
  rcases j with _ | _ | j
  ·simp[List.getElem?_drop,h3]
  ·simp[List.getElem?_drop,h4]
  ·simp;omega
 rw[this]
theorem v_int1 {H:AHeap} {el:TypeId} {a:Int}:vBslice el 1 1 [.int .i64 0] [(0,1,.int .i64 a)] H=some (.slice (some ⟨H.n,0,none⟩) 1 2,H.push ⟨[.int .i64 a],el,.tip,0,[]⟩):=rfl
theorem v_rule {H:AHeap} {a b:Option Addr} {n c m d:Nat}:vBuild [.slice none 0 0,.slice none 0 0] [(0,1,.slice a n c),(1,1,.slice b m d)] H=some (.agg ⟨[.slice a n c,.slice b m d]⟩,H):=rfl
theorem v_rule1 {H:AHeap} {el:TypeId} {x y:Value}:vBslice el 1 2 [.slice none 0 0,.slice none 0 0] [(0,2,.agg ⟨[x,y]⟩)] H=some (.slice (some ⟨H.n,0,none⟩) 1 2,H.push ⟨[x,y],el,.tip,0,[]⟩):=rfl
def OwnRules (H:AHeap) (el:TypeId) (v:Value) (L:List Rl):Prop:=∃ cs,Own H el 2 v L.length cs∧∀ k r,L[k]?=some r→RuleAt H cs k r∧tiny r.1∧tiny r.2
theorem OwnRules.nil (H:AHeap) (el:TypeId):OwnRules H el (.slice none 0 0) []:=⟨[],⟨rfl,.inl ⟨rfl,rfl⟩⟩,fun k r h=>by simp at h⟩
theorem OwnRules.rules {H:AHeap} {el:TypeId} {v:Value} {L:List Rl} (h:OwnRules H el v L) (hs:L.length<4611686018427387904):Rules H v L:=by
 obtain ⟨cs,h1,h2⟩:=h
 exact ⟨hs,cs,h1.sl,h2⟩
theorem Own.ext {H H':AHeap} (hx:Ext H H') {el:TypeId} {sz:Nat} {v:Value} {n:Nat} {cs:List Value} (h:Own H el sz v n cs):Own H' el sz v n cs:=by
 obtain ⟨hl,h⟩:=h
 refine ⟨hl,?_⟩
 rcases h with h | ⟨b,ver,anc,h1,h2,h3⟩
 ·exact .inl h
 ·exact .inr ⟨b,ver,anc,h1,h2,hx.get h3⟩
theorem OwnRules.ext {H H':AHeap} (hx:Ext H H') {el:TypeId} {v:Value} {L:List Rl} (h:OwnRules H el v L):OwnRules H' el v L:=by
 obtain ⟨cs,h1,h2⟩:=h
 refine ⟨cs,h1.ext hx,fun k r hr=>?_⟩
 obtain ⟨⟨vi,vo,h3,h4,h5,h6⟩,h7⟩:=h2 k r hr
 exact ⟨⟨vi,vo,h3,h4,h5.ext hx,h6.ext hx⟩,h7⟩
noncomputable def pushAll (H:AHeap) (bs:List ABlk):AHeap:=bs.foldl AHeap.push H
theorem pushAll_cons (H:AHeap) (b:ABlk) (bs:List ABlk):pushAll H (b :: bs)=pushAll (H.push b) bs:=rfl
theorem pushAll_n:∀ (bs:List ABlk) (H:AHeap),(pushAll H bs).n=H.n+bs.length
 | [],H=>rfl
 | b :: bs,H=>by rw[pushAll_cons,pushAll_n bs,AHeap.n_push,List.length_cons];omega
theorem pushAll_ext:∀ (bs:List ABlk) (H:AHeap),Ext H (pushAll H bs)
 | [],H=>Ext.refl H
 | b :: bs,H=>(Ext.push H b).trans (pushAll_ext bs _)
theorem pushAll_get:∀ (bs:List ABlk) (H:AHeap) (k:Nat) (b:ABlk),bs[k]?=some b→(pushAll H bs).get (H.n+k)=some b
 | [],H,k,b,h=>by simp at h
 | c :: bs,H,0,b,h=>by
  simp at h
  subst h
  exact (pushAll_ext bs _).get get_push_self
 | c :: bs,H,k+1,b,h=>by
  have:=pushAll_get bs (H.push c) k b (by simpa using h)
  rw[AHeap.n_push] at this
  rw[pushAll_cons,← this]
  congr 1
  omega
end Lon
