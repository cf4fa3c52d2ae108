/- What is proved here: what the program's functions come to, as far as the claimed statement asks. Conditions: those that each theorem names, and no others. -/
import Derived.Test.YtleiinhaljdcoaaGreatDoorP15
set_option linter.unusedSimpArgs false
set_option linter.unusedVariables false
namespace Go.Proofs.YtleiinhaljdcoaaGreatDoor
open Go Lon
set_option maxRecDepth 100000
theorem e_set2 {H : AHeap} {i ver : Nat} {el : TypeId} {a b c x : Value} (h1 : one x = true) : gotStore (some ⟨[a,b,c],el,.tip,ver,[]⟩) i 2 x 1 H = some (.tuple ⟨[]⟩,H.upd i ⟨[a,b,x],el,.tip,ver + 1,[]⟩) := by
 have hc := cell1 h1
 have := got_store (H := H) (cells := [a,b,c]) (el := el) (ver := ver) (anc := []) (i := i) (o := 2) (n := 1) (v := x) (by rw [hc]; rfl) (by rw [hc]; simp [h1]) (by simp)
 rw [this,hc]
 rfl
theorem joinT_err {L : List Rl} {ah : List Int} {x : Tok} (h : (joinT L ah x).err = 0) : joinT L ah x = x := by
 unfold joinT at h ⊢
 split at h
 ·cases h
 ·rename_i hc
  rw [if_neg hc]
def jnF (L : List Rl) : List Int → List Tok → List Tok × List Int
 | ah,[] => ([],ah)
 | ah,x :: T => (joinT L ah x :: (jnF L (if (joinT L ah x).err = 0 then x.out else ah) T).1,(jnF L (if (joinT L ah x).err = 0 then x.out else ah) T).2)
theorem jnF_len {L : List Rl} : ∀ (T : List Tok) (ah : List Int),(jnF L ah T).1.length = T.length
 | [],ah => rfl
 | x :: T,ah => by unfold jnF; simp [jnF_len T]
theorem jnF_cons {L : List Rl} {ah : List Int} {x : Tok} {T : List Tok} : jnF L ah (x :: T) = (joinT L ah x :: (jnF L (if (joinT L ah x).err = 0 then x.out else ah) T).1,(jnF L (if (joinT L ah x).err = 0 then x.out else ah) T).2) := rfl
theorem jnF_snoc {L : List Rl} : ∀ (T : List Tok) (ah : List Int) (x : Tok),jnF L ah (T ++ [x]) = ((jnF L ah T).1 ++ [joinT L (jnF L ah T).2 x],if (joinT L (jnF L ah T).2 x).err = 0 then x.out else (jnF L ah T).2)
 | [],ah,x => rfl
 | y :: T,ah,x => by
  rw [List.cons_append,jnF_cons,jnF_cons,jnF_snoc T]
  rfl
theorem jnF_ah {L : List Rl} {n : Nat} : ∀ (T : List Tok) (ah : List Int),ah.length ≤ n → (∀ x ∈ T,x.out.length ≤ n) → (jnF L ah T).2.length ≤ n
 | [],ah,h,_ => h
 | x :: T,ah,h,hT => by
  rw [jnF_cons]
  refine jnF_ah T _ ?_ fun y hy => hT y (List.mem_cons_of_mem _ hy)
  split
  ·exact hT x (List.mem_cons_self ..)
  ·exact h
def VA (H : AHeap) (va : Value) (ah : List Int) : Prop := (ah = [] ∧ va = .slice none 0 0) ∨ (ah ≠ [] ∧ Ints H va ah ∧ Cut Tryz.prog H va 1)
theorem VA.ints {H : AHeap} {va : Value} {ah : List Int} (h : VA H va ah) : Ints H va ah := by
 rcases h with ⟨rfl,rfl⟩ | ⟨_,h,_⟩
 ·exact Sl.nil _ 1
 ·exact h
theorem VA.move {H H' : AHeap} {va : Value} {ah : List Int} (h : VA H va ah) (f : Ints H va ah → Cut Tryz.prog H va 1 → Ints H' va ah ∧ Cut Tryz.prog H' va 1) : VA H' va ah := by
 rcases h with h | ⟨h0,h1,h2⟩
 ·exact .inl h
 ·exact .inr ⟨h0,(f h1 h2).1,(f h1 h2).2⟩
structure JT (e B m q : Nat) (v : Value) (H0 H : AHeap) (T : List Tok) (va0 : Value) (ah : List Int) : Prop where
 he : ∃ va ver,H.get e = some ⟨[.pointer (some ⟨m,0,none⟩),.pointer (some ⟨q,0,none⟩),va],150,.tip,ver,[]⟩ ∧ VA H va ah ∧ (va = va0 ∨ From B va)
 ht : OwnTF B H v T
 ha : AncB B H 36 v
 hn : H0.n ≤ H.n
 hl : ∀ j,j < B → j ≠ e → H.get j = H0.get j
 hk : ∀ j b,H0.get j = some b → b.elem ≠ 36 → j ≠ e → H.get j = some b
def PJN (e B m q : Nat) (v : Value) (H0 : AHeap) (va0 : Value) (z : List Tok × List Int) (y : AEx) (e' : Env) (H' : AHeap) : Prop := y = .exit 0 ∧ eget e' 1 = v ∧ JT e B m q v H0 H' z.1 va0 z.2
theorem l_join {e B m q : Nat} {L : List Rl} {v va0 : Value} {H0 : AHeap} {T : List Tok} {ah0 : List Int} (hTb : TableOk H0 q L) (hf : From B v) (heB : e < B) (hBn : B ≤ H0.n) (hTl : T.length < 1000000) (hge : ∃ b,H0.get e = some b ∧ b.elem = 150) (hah : ah0.length ≤ 8) (hT8 : ∀ x ∈ T,x.out.length ≤ 8) (hTn : ∀ x ∈ T,x.err = 0 → x.out ≠ []) : ∀ (c k : Nat) (H : AHeap),k + c = T.length → JT e B m q v H0 H ((jnF L ah0 (T.take k)).1 ++ T.drop k) va0 (jnF L ah0 (T.take k)).2 →
  Out (run Tryz.prog (tabF tab) om1 (.loop [0,1,7,8,9] b_machine_Encoder__join_0) [(0,.pointer (some ⟨e,0,none⟩)),(1,v),(7,v),(8,.int .i64 T.length),(9,.int .i64 k)] H) (PJN e B m q v H0 va0 (jnF L ah0 T)) := by
 intro c
 induction c with
 | zero =>
  intro k H hk h
  obtain rfl : k = T.length := by omega
  have zz : (((T.length : Nat) : Int) < (T.length : Nat)) = False := by simp
  rw [List.take_of_length_le (Nat.le_refl _),List.drop_of_length_le (Nat.le_refl _),List.append_nil] at h
  rw [w_loop_b b_machine_Encoder__join_0.eq_1]
  simp only [WA,isStore,isCall,isK,freshI,stampO,Nat.reduceEqDiff,Int.reduceEq,Nat.reduceAdd,Nat.reduceMul,reduceCtorEq,Int.reduceLT,Int.reduceLE,Int.reduceToNat,Nat.reduceLeDiff,Int.cast_ofNat_Int,zz]
  exact ⟨rfl,rfl,h⟩
 | succ c ih =>
  intro k H hk h
  have hlt : ((k : Int) < (T.length : Nat)) = True := eq_true (by omega)
  obtain ⟨x,hxk,hdx⟩ := drop_at (L := T) (i := k) (by omega)
  have hx8 := hT8 x (List.mem_of_getElem? hxk)
  obtain ⟨ah,hah'⟩ : ∃ ah,(jnF L ah0 (T.take k)).2 = ah := ⟨_,rfl⟩
  obtain ⟨D,hD⟩ : ∃ D,(jnF L ah0 (T.take k)).1 = D := ⟨_,rfl⟩
  have hDl : D.length = k := by rw [← hD,jnF_len,List.length_take]; omega
  have ha8 : ah.length ≤ 8 := by rw [← hah']; exact jnF_ah _ _ hah fun y hy => hT8 y (List.mem_of_mem_take hy)
  have ht1 : T.take (k + 1) = T.take k ++ [x] := by rw [List.take_add_one,hxk]; rfl
  have hj1 : jnF L ah0 (T.take (k + 1)) = (D ++ [joinT L ah x],if (joinT L ah x).err = 0 then x.out else ah) := by rw [ht1,jnF_snoc,hah',hD]
  rw [hah',hD,hdx] at h
  obtain ⟨⟨va,ver,ge,iva,fva⟩,ht,hA,hn,hl,hkk⟩ := h
  have hxn := hTn x (List.mem_of_getElem? hxk)
  have hgk : (D ++ x :: T.drop (k + 1))[k]? = some x := by rw [List.getElem?_append_right (by omega),hDl,Nat.sub_self]; rfl
  obtain ⟨i1,o1,row,a1,_,_,a6,⟨p,cc,hrow,a7,a8,a9⟩,a10⟩ := ht.rws.at hgk
  have hrow : row = tokC p cc x := hrow
  subst hrow
  obtain ⟨H1,hH1⟩ : ∃ H1,H1 = H.push ⟨tokC p cc x,36,.tip,1,[]⟩ := ⟨_,rfl⟩
  have x1 : Ext H H1 := by rw [hH1]; exact Ext.push H _
  have g1 : H1.get H.n = some ⟨tokC p cc x,36,.tip,1,[]⟩ := by rw [hH1]; exact get_push_self
  have ge1 := x1.get ge
  have hnE : ∀ j b,H0.get j = some b → isF b.elem = true → H.get j = some b := fun j b hj hb => hkk j b hj (fun e9 => by rw [e9] at hb; exact absurd hb (by decide)) (fun e9 => by
   subst e9
   obtain ⟨b',hb',he'⟩ := hge
   rw [hj] at hb'
   injection hb' with hb'
   subst hb'
   rw [he'] at hb
   exact absurd hb (by decide))
  have hTH : TableOk H q L := hTb.keep (fun j b hj he => hnE j b hj (by unfold isF; rw [he]; rfl)) fun j b hj he => hnE j b hj (by rw [he]; decide)
  obtain ⟨v2,H2,c2,x2,p',c',rfl,f2,t2⟩ := c_TJoin (hTH.ext x1) (iva.ints.ext x1) ⟨p,cc,rfl,a7.ext x1,a8,a9.ext x1⟩ (by omega) (by omega)
  have x12 := x1.trans x2
  have g2 := x2.get g1
  have ge2 := x2.get ge1
  obtain ⟨b,b1,H3,b2,b3,b4,b5,b6,b7,b8,b9,b10⟩ := (ht.ext tokF_mono x12).storeRow hf (hA.ext x12) hgk (by decide) (new := tokC p' c' (joinT L ah x)) rfl tokC_one (hQtokF B H2)
  have hq := b10 (joinT L ah x) (hQtokF B H2 H3 _ _ b5 (tokF_of t2 (f2 B (a10 p _ cc rfl))))
  have hset : (D ++ x :: T.drop (k + 1)).set k (joinT L ah x) = (D ++ [joinT L ah x]) ++ T.drop (k + 1) := by
   rw [List.set_append_right _ _ (by omega),hDl,Nat.sub_self,List.append_assoc]
   rfl
  rw [hset] at hq
  have hsame := (a1 .i64 H).symm.trans (b1 .i64 H)
  injection hsame with hsame
  injection hsame with hsame _
  injection hsame with hsame
  injection hsame with hsame
  injection hsame with hs1 hs2 _
  subst hs1 hs2
  have g3 : H3.get H.n = some ⟨tokC p cc x,36,.tip,1,[]⟩ := by rw [b6 H.n H.n ht.upto (Nat.le_refl _)]; exact g2
  have ge3 : H3.get e = some ⟨[.pointer (some ⟨m,0,none⟩),.pointer (some ⟨q,0,none⟩),va],150,.tip,ver,[]⟩ := b5 _ _ ge2 (by simp only; decide)
  have b9' := b9 3 _ tk3
  have hw2 : IntKind.i64.wrap ((k : Int) + 1) = ((k + 1 : Nat) : Int) := by rw [wrap64 (by omega) (by omega)]; omega
  have hel4 : (Tryz.prog.info? 36).map (·.size) = some 4 := by kernel_rfl
  have x12n := x12.1
  have hl3 : ∀ j,j < B → j ≠ e → H3.get j = H0.get j := fun j hj hje => by rw [b4 j hj,x12.2 j (by omega),hl j hj hje]
  have hk3 : ∀ j b,H0.get j = some b → b.elem ≠ 36 → j ≠ e → H3.get j = some b := fun j b hj he hje => b5 j b (x12.get (hkk j b hj he hje)) he
  by_cases hz : (joinT L ah x).err = 0
  ·have zz : ((joinT L ah x).err = 0) = True := eq_true hz
   have st4 := e_set2 (H := H3) (i := e) (ver := ver) (el := 150) (a := .pointer (some ⟨m,0,none⟩)) (b := .pointer (some ⟨q,0,none⟩)) (c := va) (x := .slice p x.out.length cc) rfl
   obtain ⟨H4,hH4⟩ : ∃ H4,H4 = H3.upd e ⟨[.pointer (some ⟨m,0,none⟩),.pointer (some ⟨q,0,none⟩),.slice p x.out.length cc],150,.tip,ver + 1,[]⟩ := ⟨_,rfl⟩
   rw [← hH4] at st4
   have g4 : H4.get e = some ⟨[.pointer (some ⟨m,0,none⟩),.pointer (some ⟨q,0,none⟩),.slice p x.out.length cc],150,.tip,ver + 1,[]⟩ := by rw [hH4]; exact upd_self ge3
   have k4 : ∀ j b,H3.get j = some b → b.elem ≠ 150 → H4.get j = some b := fun j b hj he => by
    rw [hH4,upd_other ge3 (fun e1 => by subst e1; rw [ge3] at hj; injection hj with hj; subst hj; exact he rfl)]
    exact hj
   have n4 : H4.n = H3.n := by rw [hH4]; simp
   have helE : (Tryz.prog.info? 150).map (·.size) = some 3 := by kernel_rfl
   obtain ⟨u3,u4⟩ := (a7.ext x12).elem (P := Tryz.prog) (a9.ext x12) hel4 (by decide) b5
   obtain ⟨u5,u6⟩ := u3.elem (P := Tryz.prog) u4 helE (by decide) k4
   have hq4 : OwnTF B H4 v ((D ++ [joinT L ah x]) ++ T.drop (k + 1)) := by
    obtain ⟨q0,cs,q1,q2⟩ := hq
    exact ⟨q0,cs,q1.move fun i b hi he => k4 i b hi (by rw [he]; decide),fun k r hr => tokF_elem helE (by decide) k4 (q2 k r hr)⟩
   have hA4 : AncB B H4 36 v := b7.move (by rw [hH4]; exact VerLe.upd ge3 (Nat.le_succ _) rfl (fun e => by simp only at e; omega)) fun i b hi hna => by
    obtain ⟨_,cs,q1,_⟩ := hq
    obtain ⟨b',hb',he⟩ := own_here q1 hna
    rw [hi] at hb'
    injection hb' with hb'
    subst hb'
    exact k4 i b hi (by rw [he]; decide)
   obtain ⟨y,e',H',r1,r2⟩ := ih (k + 1) H4 (by omega) (by
    rw [hj1,if_pos hz]
    exact ⟨⟨_,_,g4,.inr ⟨hxn (by rw [← joinT_err hz]; exact hz),u5,u6⟩,.inr (a10 p _ cc rfl)⟩,hq4,hA4,by omega,fun j hj hje => by rw [hH4,upd_other ge3 hje,hl3 j hj hje],fun j b hj he hje => by rw [hH4,upd_other ge3 hje]; exact hk3 j b hj he hje⟩)
   rw [w_loop_b b_machine_Encoder__join_0.eq_1]
   simp only [WA,isStore,isCall,isK,freshI,stampO,Nat.reduceEqDiff,Int.reduceEq,Nat.reduceAdd,Nat.reduceMul,reduceCtorEq,Int.reduceLT,Int.reduceLE,Int.reduceToNat,Nat.reduceLeDiff,Int.cast_ofNat_Int,hlt,a1,a6,got_tok,← hH1,g1,ge1,ld_tok,c2,b1,b2,b9',zz,g2,ge2,g3,tk2,ge3,st4,hw2]
   rw [w_enter]
   simp only [WA,isStore,isCall,isK,freshI,stampO,Nat.reduceEqDiff,Int.reduceEq,Nat.reduceAdd,Nat.reduceMul,reduceCtorEq,Int.reduceLT,Int.reduceLE,Int.reduceToNat,Nat.reduceLeDiff,Int.cast_ofNat_Int,r1]
   exact r2
  ·have zz : ((joinT L ah x).err = 0) = False := eq_false hz
   have v1 := iva.move fun h1 h2 => (h1.ext x12).elem (P := Tryz.prog) (h2.ext x12) hel4 (by decide) b5
   obtain ⟨y,e',H',r1,r2⟩ := ih (k + 1) H3 (by omega) (by
    rw [hj1,if_neg hz]
    exact ⟨⟨va,ver,ge3,v1,fva⟩,hq,b7,by omega,hl3,hk3⟩)
   rw [w_loop_b b_machine_Encoder__join_0.eq_1]
   simp only [WA,isStore,isCall,isK,freshI,stampO,Nat.reduceEqDiff,Int.reduceEq,Nat.reduceAdd,Nat.reduceMul,reduceCtorEq,Int.reduceLT,Int.reduceLE,Int.reduceToNat,Nat.reduceLeDiff,Int.cast_ofNat_Int,hlt,a1,a6,got_tok,← hH1,g1,ge1,ld_tok,c2,b1,b2,b9',zz,g2,ge2,hw2]
   rw [w_enter]
   simp only [WA,isStore,isCall,isK,freshI,stampO,Nat.reduceEqDiff,Int.reduceEq,Nat.reduceAdd,Nat.reduceMul,reduceCtorEq,Int.reduceLT,Int.reduceLE,Int.reduceToNat,Nat.reduceLeDiff,Int.cast_ofNat_Int,r1]
   exact r2
theorem c_join {e B m q ver : Nat} {L : List Rl} {v va : Value} {H : AHeap} {T : List Tok} {ah : List Int} (hTb : TableOk H q L) (hf : From B v) (heB : e < B) (hBn : B ≤ H.n) (hTl : T.length < 1000000) (hg : H.get e = some ⟨[.pointer (some ⟨m,0,none⟩),.pointer (some ⟨q,0,none⟩),va],150,.tip,ver,[]⟩) (hva : VA H va ah) (hah : ah.length ≤ 8) (hT8 : ∀ x ∈ T,x.out.length ≤ 8) (hTn : ∀ x ∈ T,x.err = 0 → x.out ≠ []) (ht : OwnTF B H v T) (ha : AncB B H 36 v) :
  Gives (cw Tryz.prog (tabF tab) om1 181 [.pointer (some ⟨e,0,none⟩),v] H) fun w H' => w = v ∧ JT e B m q v H H' (jnF L ah T).1 va (jnF L ah T).2 := by
 rw [cw_run (F := F_machine_Encoder__join) rfl rfl rfl]
 unfold F_machine_Encoder__join k_machine_Encoder__join
 have hw := fun H9 => Rws.len (H2 := H9) ht.rws
 obtain ⟨y,e',H',r1,rfl,r2,r3⟩ := l_join (H0 := H) (T := T) (ah0 := ah) (va0 := va) hTb hf heB hBn hTl ⟨_,hg,rfl⟩ hah hT8 hTn T.length 0 H (by omega) ⟨⟨va,ver,hg,hva,.inl rfl⟩,ht,ha,Nat.le_refl _,fun _ _ _ => rfl,fun j b hj _ _ => hj⟩
 rw [show ((0 : Nat) : Int) = 0 from rfl] at r1
 simp only [WA,isStore,isCall,isK,freshI,stampO,Nat.reduceEqDiff,Int.reduceEq,Nat.reduceAdd,Nat.reduceMul,reduceCtorEq,Int.reduceLT,Int.reduceLE,Int.reduceToNat,Nat.reduceLeDiff,Int.cast_ofNat_Int,hw]
 rw [w_enter]
 simp only [WA,isStore,isCall,isK,freshI,stampO,Nat.reduceEqDiff,Int.reduceEq,Nat.reduceAdd,Nat.reduceMul,reduceCtorEq,Int.reduceLT,Int.reduceLE,Int.reduceToNat,Nat.reduceLeDiff,Int.cast_ofNat_Int,r1,r2]
 exact r3
theorem mx_after {k m t i : Nat} {Hs H H1 H2 : AHeap} {C0 D0 : NS} {L : List Rl} {w w' : List Int} {a s a' s' : Int} (hX : MX k Hs H m t L w a s C0 D0) (hfr : ∀ j,D0 j → ∃ b,H.get j = some b ∧ b.elem ≠ 36) (r1 : MS (cutN H k) H1 m t w' a' s') (r4 : Kx H H1) (r5 : OnlyM m H H1) (di : ¬ D0 i) (hil : i < H.n) (n2 : H1.n ≤ H2.n) (k2 : ∀ j b,H1.get j = some b → b.elem ≠ 36 → j ≠ i → H2.get j = some b) :
  MX k Hs H2 m t L w' a' s' (fun j => C0 j ∨ ¬ NW H1 m j) (fun j => D0 j ∨ ¬ NW H1 m j) ∧ (∀ j,(D0 j ∨ ¬ NW H1 m j) → ∃ b,H2.get j = some b ∧ b.elem ≠ 36) ∧ ¬ (D0 i ∨ ¬ NW H1 m i) ∧ (∀ j,¬ NW H1 m j → j < H.n → C0 j) ∧ (∀ j,D0 j → ¬ C0 j → H2.get j = H.get j) ∧ H1.get i = H.get i := by
 have hon1 := hX.only r5 r4.1
 have hM1 := hX.of r1 r5 r4.1
 have ci : ¬ C0 i := fun h => di (hX.cd i h)
 have hold : ∀ j,¬ NW H1 m j → j < H.n → C0 j := fun j hj hl => hX.old r5 j hl hj
 have D1i : ¬ (D0 i ∨ ¬ NW H1 m i) := fun h => h.elim di fun h => ci (hold i h hil)
 have tokf : ∀ j,(D0 j ∨ ¬ NW H1 m j) → ∃ b,H1.get j = some b ∧ b.elem ≠ 36 := fun j hj => by
  rcases hj with hj | hj
  ·obtain ⟨b0,hb0,he0⟩ := hfr j hj
   by_cases hjm : j = m
   ·subst hjm
    obtain ⟨vw,ver9,q1,_⟩ := hM1.hm
    exact ⟨_,q1,by simp only; decide⟩
   ·by_cases hnw : NW H m j
    ·exact ⟨b0,by rw [r5.k j (AHeap.lt_of_get hb0) hjm hnw]; exact hb0,he0⟩
    ·obtain ⟨vw,ver9,q1,q2,_⟩ := hX.hm
     obtain ⟨b',hb',he⟩ := own_here q2 (fun hx => hnw (NW.of q1 hx))
     rw [hb0] at hb'
     injection hb' with hb'
     subst hb'
     obtain ⟨_,b1,hb1,he1,_⟩ := r4.2 j b0 hb0 (by rw [he]; decide)
     exact ⟨b1,hb1,by rw [he1]; exact he0⟩
  ·obtain ⟨vw,ver9,q1,q2,q3⟩ := hM1.hm
   have hj2 : ¬ NotAt vw j := fun hx => hj (NW.of q1 hx)
   obtain ⟨b',hb',he⟩ := own_here q2 hj2
   exact ⟨b',hb',by rw [he]; decide⟩
 have hkeep : ∀ j,(D0 j ∨ ¬ NW H1 m j) → H2.get j = H1.get j := fun j hj => by
  have hji : j ≠ i := fun e => D1i (e ▸ hj)
  obtain ⟨b,hb,he⟩ := tokf j hj
  rw [hb]
  exact k2 j b hb he hji
 exact ⟨hM1.keep n2 hkeep,fun j hj => by rw [hkeep j hj]; exact tokf j hj,D1i,hold,fun j hj hc => by rw [hkeep j (.inl hj),hon1.2 j (hX.dl j hj) hc],hon1.2 i hil ci⟩
theorem ints_form {H : AHeap} {x : Value} {m : List Int} (h : Ints H x m) (hm : m ≠ []) : ∃ i o c,x = .slice (some ⟨i,o,none⟩) m.length c := by
 obtain ⟨⟨p,c,rfl⟩,h2⟩ := h
 have hm0 : ¬ (m.length = 0) := fun e => hm (List.length_eq_zero_iff.1 e)
 unfold cellsOf at h2
 split at h2
 ·rename_i hv
  injection hv with _ e2 _
  exact absurd e2 hm0
 ·rename_i i o n' c' hv
  injection hv with e1 e2 e3
  subst e1 e2
  exact ⟨i,o,c,rfl⟩
 ·rename_i hv
  injection hv with _ e2 _
  exact absurd e2 hm0
 ·cases h2
theorem ints_same {H H' : AHeap} {x : Value} {m : List Int} (h : Ints H x m) (hm : m ≠ []) (hc : Cut Tryz.prog H x 1) (hk : ∀ j b,¬ NotAt x j → H.get j = some b → (Tryz.prog.info? b.elem).map (·.size) = some 1 → H'.get j = some b) : Ints H' x m ∧ Cut Tryz.prog H' x 1 := by
 obtain ⟨i,o,c,rfl⟩ := ints_form h hm
 obtain ⟨b,hb,hs⟩ := hc
 have hb' := hk i b (fun h => h rfl) hb hs
 have hm0 : ¬ (m.length = 0) := fun e => hm (List.length_eq_zero_iff.1 e)
 have h4' : (if m.length = 0 then some [] else match H.get i with
  | some blk => if blk.st.mem ∧ o + m.length * 1 ≤ blk.cells.length then some ((blk.cells.drop o).take (m.length * 1)) else none
  | none => none) = some (ints m) := h.2
 refine ⟨⟨⟨_,_,rfl⟩,?_⟩,b,hb',hs⟩
 show (if m.length = 0 then some [] else match H'.get i with
  | some blk => if blk.st.mem ∧ o + m.length * 1 ≤ blk.cells.length then some ((blk.cells.drop o).take (m.length * 1)) else none
  | none => none) = some (ints m)
 rw [if_neg hm0] at h4' ⊢
 rw [hb] at h4'
 rw [hb']
 exact h4'
theorem size1 {e : TypeId} (h : (Tryz.prog.info? e).map (·.size) = some 1) : e ≠ 36 ∧ e ≠ 150 ∧ e ≠ 148 := by
 have k1 : (Tryz.prog.info? 36).map (·.size) = some 4 := by kernel_rfl
 have k2 : (Tryz.prog.info? 150).map (·.size) = some 3 := by kernel_rfl
 have k3 : (Tryz.prog.info? 148).map (·.size) = some 4 := by kernel_rfl
 refine ⟨?_,?_,?_⟩ <;> intro e1 <;> subst e1
 ·rw [k1] at h; cases h
 ·rw [k2] at h; cases h
 ·rw [k3] at h; cases h
abbrev ESt := MSt × List Int
def REd (L : List Rl) (e n : Nat) (H : AHeap) (st : ESt) (C D : NS) : Prop := ∃ k m q t va ver Hs C0 D0,H.get e = some ⟨[.pointer (some ⟨m,0,none⟩),.pointer (some ⟨q,0,none⟩),va],150,.tip,ver,[]⟩ ∧ MX k Hs H m t (trn L []) st.1.1 st.1.2.1 st.1.2.2 C0 D0 ∧ TableOk (cutN Hs k) q L ∧ (∀ j b,j < k → Hs.get j = some b → isF b.elem = true → D0 j ∧ H.get j = some b) ∧ VA H va st.2 ∧ (∀ j,¬ NotAt va j → D0 j) ∧ st.2.length ≤ 8 ∧ Mi (trn L []) n st.1 ∧ ¬ D0 e ∧ k ≤ e ∧ (∀ j,D0 j → ∃ b,H.get j = some b ∧ b.elem ≠ 36) ∧ C = (fun j => C0 j ∨ j = e) ∧ D = fun j => D0 j ∨ j = e
section
variable {L : List Rl} {e n : Nat} {H : AHeap} {st : ESt} {C D : NS}
theorem REd.keep {H' : AHeap} (h : REd L e n H st C D) (hn : H.n ≤ H'.n) (hk : ∀ j,D j → H'.get j = H.get j) : REd L e n H' st C D := by
 obtain ⟨k,m,q,t,va,ver,Hs,C0,D0,ge,hX,hT,hsn,hva,hvd,h8,hMi,de,ke,hfr,hC,hD⟩ := h
 subst hD
 refine ⟨k,m,q,t,va,ver,Hs,C0,D0,by rw [hk e (.inr rfl)]; exact ge,hX.keep hn fun j hj => hk j (.inl hj),hT,fun j b hj hb he => ⟨(hsn j b hj hb he).1,by rw [hk j (.inl (hsn j b hj hb he).1)]; exact (hsn j b hj hb he).2⟩,hva.move fun h1 h2 => ?_,hvd,h8,hMi,de,ke,fun j hj => by rw [hk j (.inl hj)]; exact hfr j hj,hC,rfl⟩
 rcases hva with ⟨h3,h4⟩ | ⟨h3,_⟩
 ·rw [h4,h3]
  exact ⟨Sl.nil _ 1,trivial⟩
 ·exact ints_same h1 h3 h2 fun j b hj hb _ => by rw [hk j (.inl (hvd j hj))]; exact hb
theorem REd.lt {j : Nat} (h : REd L e n H st C D) (hj : D j) : j < H.n := by
 obtain ⟨k,m,q,t,va,ver,Hs,C0,D0,ge,hX,hT,hsn,hva,hvd,h8,hMi,de,ke,hfr,hC,hD⟩ := h
 subst hD
 rcases hj with hj | rfl
 ·exact hX.dl j hj
 ·exact AHeap.lt_of_get ge
theorem REd.sub {j : Nat} (h : REd L e n H st C D) (hj : C j) : D j := by
 obtain ⟨k,m,q,t,va,ver,Hs,C0,D0,ge,hX,hT,hsn,hva,hvd,h8,hMi,de,ke,hfr,hC,hD⟩ := h
 subst hC hD
 exact hj.imp (hX.cd j) id
theorem REd.mono {n' : Nat} (h : REd L e n H st C D) (hn : n ≤ n') : REd L e n' H st C D := by
 obtain ⟨k,m,q,t,va,ver,Hs,C0,D0,ge,hX,hT,hsn,hva,hvd,h8,hMi,de,ke,hfr,hC,hD⟩ := h
 exact ⟨k,m,q,t,va,ver,Hs,C0,D0,ge,hX,hT,hsn,hva,hvd,h8,hMi.mono hn,de,ke,hfr,hC,hD⟩
theorem REd.tok (h : REd L e n H st C D) : ∀ j b,D j → H.get j = some b → b.elem ≠ 36 := by
 obtain ⟨k,m,q,t,va,ver,Hs,C0,D0,ge,hX,hT,hsn,hva,hvd,h8,hMi,de,ke,hfr,hC,hD⟩ := h
 subst hD
 intro j b hj hb
 rcases hj with hj | rfl
 ·obtain ⟨b',hb',he⟩ := hfr j hj
  rw [hb] at hb'
  injection hb' with hb'
  subst hb'
  exact he
 ·rw [ge] at hb
  injection hb with hb
  subst hb
  simp only
  decide
structure EP (L : List Rl) (e n' : Nat) (H H' : AHeap) (v : Value) (T : List Tok) (st' : ESt) (C D : NS) : Prop where
 ht : OwnTF H.n H' v T
 hf : From H.n v
 on : Only C H H'
 rd : Rd (fun _ => False) H H'
 all : ∃ C' D',REd L e n' H' st' C' D' ∧ (∀ j,j < H.n → C' j → C j) ∧ ∀ j,j < H.n → D' j → D j
end
theorem takeF_ne {L : List Rl} (hR : Right L) {e : Bool} {w : List Int} {a s : Int} : ∀ x ∈ (takeW L e w a s).1,x.err = 0 → x.out ≠ [] := fun x hx he hx0 => by
 rcases takeF_mem hR w.length w a s x hx with ⟨h,_⟩ | ⟨_,_,r,hr,h⟩
 ·rw [he] at h; cases h
 ·have := (side_len (hR.1 r hr).2).1
  rw [← h,hx0] at this
  simp at this
theorem ed_tail {L : List Rl} {e n' k m q t ver : Nat} {va : Value} {Hs H H1 : AHeap} {C0 D0 : NS} {st : ESt} {b : Bool} {w : List Int} {a s : Int} {x : Value} (hR : Right (trn L [])) (ge : H.get e = some ⟨[.pointer (some ⟨m,0,none⟩),.pointer (some ⟨q,0,none⟩),va],150,.tip,ver,[]⟩) (hX : MX k Hs H m t (trn L []) st.1.1 st.1.2.1 st.1.2.2 C0 D0) (hT : TableOk (cutN Hs k) q L) (hsn : ∀ j b,j < k → Hs.get j = some b → isF b.elem = true → D0 j ∧ H.get j = some b) (hva : VA H va st.2) (hvd : ∀ j,¬ NotAt va j → D0 j) (h8 : st.2.length ≤ 8) (de : ¬ D0 e) (ke : k ≤ e) (hfr : ∀ j,D0 j → ∃ b,H.get j = some b ∧ b.elem ≠ 36)
  (hw : w.length ≤ 8) (r1 : MS (cutN H k) H1 m t (takeW (trn L []) b w a s).2.1 (takeW (trn L []) b w a s).2.2.1 (takeW (trn L []) b w a s).2.2.2) (r3 : From H.n x) (r4 : Kx H H1) (ra : AncB H.n H1 36 x) (r5 : OnlyM m H H1) (r6 : OwnTF H.n H1 x (takeW (trn L []) b w a s).1) (hMi : Mi (trn L []) n' (takeW (trn L []) b w a s).2) :
  ∃ H',cw Tryz.prog (tabF tab) om1 181 [.pointer (some ⟨e,0,none⟩),x] H1 = some (x,H') ∧ H1.get e = some ⟨[.pointer (some ⟨m,0,none⟩),.pointer (some ⟨q,0,none⟩),va],150,.tip,ver,[]⟩ ∧ EP L e n' H H' x (jnF L st.2 (takeW (trn L []) b w a s).1).1 ((takeW (trn L []) b w a s).2,(jnF L st.2 (takeW (trn L []) b w a s).1).2) (fun j => C0 j ∨ j = e) (fun j => D0 j ∨ j = e) := by
 have hel := AHeap.lt_of_get ge
 have r4n := r4.1
 have hon1 := hX.only r5 r4.1
 have hTl : (takeW (trn L []) b w a s).1.length ≤ w.length := by
  obtain ⟨n,n1,_,_,_,_,n6,_⟩ := takeF_bd hR (e := b) w.length w a s
  have : (takeW (trn L []) b w a s).1.length ≤ n := n6
  omega
 have hT8 : ∀ y ∈ (takeW (trn L []) b w a s).1,y.out.length ≤ 8 := fun y hy => by
  rcases takeF_mem hR w.length w a s y hy with ⟨_,h⟩ | ⟨_,h,_⟩
  ·rw [h]; simp
  ·exact h
 have ge1 : H1.get e = some ⟨[.pointer (some ⟨m,0,none⟩),.pointer (some ⟨q,0,none⟩),va],150,.tip,ver,[]⟩ := by rw [hon1.2 e hel (fun h => de (hX.cd e h))]; exact ge
 have hlow : ∀ j b,j < k → Hs.get j = some b → isF b.elem = true → H1.get j = some b := fun j b hj hb he => by
  obtain ⟨g1,g2⟩ := hsn j b hj hb he
  rw [hon1.2 j (hX.dl j g1) (fun hc => by have := hX.ck j hc; omega)]
  exact g2
 have hTb : TableOk H1 q L := hT.keep (fun j b hj he => hlow j b (cutN_lt hj) (by rw [cutN_get hX.ks (cutN_lt hj)] at hj; exact hj) (isF_T he)) fun j b hj he => hlow j b (cutN_lt hj) (by rw [cutN_get hX.ks (cutN_lt hj)] at hj; exact hj) (by rw [he]; decide)
 have hva1 : VA H1 va st.2 := hva.move fun h1 h2 => Ints.kx r4 h1 h2
 obtain ⟨v2,H2,c2,rfl,hJ⟩ := c_join (B := H.n) (T := (takeW (trn L []) b w a s).1) hTb r3 hel r4.1 (by omega) ge1 hva1 h8 hT8 (takeF_ne hR) r6 ra
 obtain ⟨⟨va',ver',ge2,hva2,hvf⟩,ht2,_,n2,l2,k2⟩ := hJ
 obtain ⟨hM2,hfr2,D1e,hold,hk2,_⟩ := mx_after hX hfr r1 r4 r5 de hel n2 k2
 have hon : Only (fun j => C0 j ∨ j = e) H H2 := ⟨by omega,fun j hj hc => by rw [l2 j hj (fun h => hc (.inr h)),hon1.2 j hj (fun h => hc (.inl h))]⟩
 have hvn : ∀ j,¬ NotAt va' j → (∃ b,H2.get j = some b ∧ b.elem ≠ 36 ∧ b.elem ≠ 150) := fun j hj => by
  rcases hva2 with ⟨_,h⟩ | ⟨_,h1,h2⟩
  ·rw [h] at hj; exact absurd trivial hj
  ·rename_i h0
   obtain ⟨i9,o9,c9,e9⟩ := ints_form h1 h0
   rw [e9] at hj h2
   have hij : i9 = j := Classical.byContradiction fun h => hj h
   subst hij
   obtain ⟨b9,hb9,hs9⟩ := h2
   exact ⟨b9,hb9,(size1 hs9).1,(size1 hs9).2.1⟩
 have hvo : ∀ j,j < H.n → ¬ NotAt va' j → D0 j := fun j hj hn => by
  rcases hvf with rfl | hvf
  ·exact hvd j hn
  ·exact absurd (NotAt.of_from hvf hj) hn
 have hM3 := hM2.wide (C' := fun j => C0 j ∨ ¬ NW H1 m j) (D' := fun j => (D0 j ∨ ¬ NW H1 m j) ∨ ¬ NotAt va' j) (fun _ h => h) (fun _ h => .inl h) hM2.ck (fun j h => .inl (hM2.cd j h)) (fun j h => h.elim (hM2.dl j) fun h => by obtain ⟨b9,hb9,_⟩ := hvn j h; exact AHeap.lt_of_get hb9)
 have hrd : Rd (fun _ => False) H H2 := ⟨fun y m' hm h1 h2 _ => by
  obtain ⟨g1,g2⟩ := (Kx.rd (C := fun _ => False) r4).1 y m' hm h1 h2 (fun _ h => absurd h id)
  exact ints_same g1 hm g2 fun j b9 _ hb hs => k2 j b9 hb (size1 hs).1 (fun h => by
   subst h
   rw [ge1] at hb
   injection hb with hb
   subst hb
   exact (size1 hs).2.1 rfl),fun j b9 hj he => by
  rw [l2 j (AHeap.lt_of_get hj) (fun h => by
   subst h
   rw [ge] at hj
   injection hj with hj
   subst hj
   revert he
   simp only
   decide)]
  exact (Kx.rd (C := fun _ => False) r4).2 j b9 hj he⟩
 refine ⟨H2,c2,ge1,ht2,r3,hon,hrd,_,_,⟨k,m,q,t,va',ver',Hs,_,_,ge2,hM3,hT,fun j b9 hj hb he => ⟨.inl (.inl (hsn j b9 hj hb he).1),k2 j b9 (hlow j b9 hj hb he) (fun h => by rw [h] at he; exact absurd he (by decide)) (by omega)⟩,hva2,fun j hj => .inr hj,jnF_ah _ _ h8 hT8,hMi,fun h => h.elim D1e fun h => ?_,ke,fun j hj => ?_,rfl,rfl⟩,fun j hj hc => ?_,fun j hj hc => ?_⟩
 ·obtain ⟨b9,hb9,_,hne⟩ := hvn e h
  rw [ge2] at hb9
  injection hb9 with hb9
  subst hb9
  exact hne rfl
 ·rcases hj with hj | hj
  ·exact hfr2 j hj
  ·obtain ⟨b9,hb9,h9,_⟩ := hvn j hj
   exact ⟨b9,hb9,h9⟩
 ·rcases hc with (hc | hc) | hc
  ·exact .inl hc
  ·exact .inl (hold j hc hj)
  ·exact .inr hc
 ·rcases hc with ((hc | hc) | hc) | hc
  ·exact .inl hc
  ·exact .inl (hX.cd j (hold j hc hj))
  ·exact .inl (hvo j hj hc)
  ·exact .inr hc
def esS (L : List Rl) (st : ESt) (u : Int) : List Tok × ESt := ((jnF L st.2 (rdS (trn L []) st.1 u).1).1,((rdS (trn L []) st.1 u).2,(jnF L st.2 (rdS (trn L []) st.1 u).1).2))
def efS (L : List Rl) (st : ESt) : List Tok × ESt := ((jnF L st.2 (rdF (trn L []) st.1).1).1,((rdF (trn L []) st.1).2,(jnF L st.2 (rdF (trn L []) st.1).1).2))
theorem c_EPut {L : List Rl} {e n : Nat} {H : AHeap} {st : ESt} {C D : NS} {u : Int} (hR : Right (trn L [])) (h : REd L e n H st C D) (hn : n < 300000) : Gives (cw Tryz.prog (tabF tab) om1 180 [.pointer (some ⟨e,0,none⟩),.int .i64 u] H) fun v H' => EP L e (n + 1) H H' v (esS L st u).1 (esS L st u).2 C D := by
 obtain ⟨k,m,q,t,va,ver,Hs,C0,D0,ge,hX,hT,hsn,hva,hvd,h8,hMi,de,ke,hfr,hC,hD⟩ := h
 subst hC hD
 have hl := hMi.wt.len hR
 have h2 := hMi.a0
 have h3 := hMi.an
 have h4 := hMi.s0
 have h5 := hMi.sn
 have hsq : ((st.1.1.length : Int) + 1) * ((st.1.1.length : Int) + 1) ≤ 8 * 8 := Int.mul_le_mul (by omega) (by omega) (by omega) (by omega)
 obtain ⟨x,H1,c1,r1,r2,r3,r4,ra,r5,r6⟩ := c_Put (u := u) hX.md.trie hX.md.ms (by omega) (by omega) (by omega)
 obtain ⟨H2,c2,ge1,hE⟩ := ed_tail (n' := n + 1) (w := st.1.1 ++ [u]) hR ge hX hT hsn hva hvd h8 de ke hfr (by rw [List.length_append,List.length_singleton]; omega) r1 r3 r4 ra r5 r6 (Mi.put hR (u := u) hMi)
 refine ⟨x,H2,?_,hE⟩
 rw [cw_run (F := F_machine_Encoder__Put) rfl rfl rfl]
 unfold F_machine_Encoder__Put k_machine_Encoder__Put
 simp only [WA,isStore,isCall,isK,freshI,stampO,Nat.reduceEqDiff,Int.reduceEq,Nat.reduceAdd,Nat.reduceMul,reduceCtorEq,Int.reduceLT,Int.reduceLE,Int.reduceToNat,Nat.reduceLeDiff,Int.cast_ofNat_Int,ge,c1,c2]
theorem c_EEnd {L : List Rl} {e n : Nat} {H : AHeap} {st : ESt} {C D : NS} (hR : Right (trn L [])) (h : REd L e n H st C D) (hn : n ≤ 300000) : Gives (cw Tryz.prog (tabF tab) om1 176 [.pointer (some ⟨e,0,none⟩)] H) fun v H' => EP L e n H H' v (efS L st).1 (efS L st).2 C D := by
 obtain ⟨k,m,q,t,va,ver,Hs,C0,D0,ge,hX,hT,hsn,hva,hvd,h8,hMi,de,ke,hfr,hC,hD⟩ := h
 subst hC hD
 have hl := hMi.wt.len hR
 have h2 := hMi.a0
 have h3 := hMi.an
 have h4 := hMi.s0
 have h5 := hMi.sn
 have hsq : (st.1.1.length : Int) * (st.1.1.length : Int) ≤ 8 * 8 := Int.mul_le_mul (by omega) (by omega) (by omega) (by omega)
 obtain ⟨x,H1,c1,r1,r2,r3,r4,ra,r5,r6⟩ := c_End hX.md.trie hX.md.ms (by omega) (by omega) (by omega)
 obtain ⟨H2,c2,ge1,hE⟩ := ed_tail (n' := n) (w := st.1.1) hR ge hX hT hsn hva hvd h8 de ke hfr (by omega) r1 r3 r4 ra r5 r6 (Mi.fin hR hMi)
 refine ⟨x,H2,?_,hE⟩
 rw [cw_run (F := F_machine_Encoder__End) rfl rfl rfl]
 unfold F_machine_Encoder__End k_machine_Encoder__End
 simp only [WA,isStore,isCall,isK,freshI,stampO,Nat.reduceEqDiff,Int.reduceEq,Nat.reduceAdd,Nat.reduceMul,reduceCtorEq,Int.reduceLT,Int.reduceLE,Int.reduceToNat,Nat.reduceLeDiff,Int.cast_ofNat_Int,ge,c1,c2]
theorem c_EApart {L : List Rl} {e n : Nat} {H : AHeap} {st : ESt} {C D : NS} (h : REd L e n H st C D) : Gives (cw Tryz.prog (tabF tab) om1 179 [.pointer (some ⟨e,0,none⟩)] H) fun v H' => REd L e n H' (st.1,[]) C D ∧ H'.n = H.n ∧ ∀ j,j ≠ e → H'.get j = H.get j := by
 obtain ⟨k,m,q,t,va,ver,Hs,C0,D0,ge,hX,hT,hsn,hva,hvd,h8,hMi,de,ke,hfr,hC,hD⟩ := h
 rw [cw_run (F := F_machine_Encoder__Apart) rfl rfl rfl]
 unfold F_machine_Encoder__Apart k_machine_Encoder__Apart
 have st2 := e_set2 (H := H) (i := e) (ver := ver) (el := 150) (a := .pointer (some ⟨m,0,none⟩)) (b := .pointer (some ⟨q,0,none⟩)) (c := va) (x := .slice none 0 0) rfl
 obtain ⟨H2,hH2⟩ : ∃ H2,H2 = H.upd e ⟨[.pointer (some ⟨m,0,none⟩),.pointer (some ⟨q,0,none⟩),.slice none 0 0],150,.tip,ver + 1,[]⟩ := ⟨_,rfl⟩
 rw [← hH2] at st2
 have g2 : H2.get e = some ⟨[.pointer (some ⟨m,0,none⟩),.pointer (some ⟨q,0,none⟩),.slice none 0 0],150,.tip,ver + 1,[]⟩ := by rw [hH2]; exact upd_self ge
 have k2 : ∀ j,j ≠ e → H2.get j = H.get j := fun j hj => by rw [hH2]; exact upd_other ge hj
 have n2 : H2.n = H.n := by rw [hH2]; simp
 have kD : ∀ j,D0 j → H2.get j = H.get j := fun j hj => k2 j (fun h => de (h ▸ hj))
 simp only [WA,isStore,isCall,isK,freshI,stampO,Nat.reduceEqDiff,Int.reduceEq,Nat.reduceAdd,Nat.reduceMul,reduceCtorEq,Int.reduceLT,Int.reduceLE,Int.reduceToNat,Nat.reduceLeDiff,Int.cast_ofNat_Int,ge,st2]
 exact ⟨⟨k,m,q,t,.slice none 0 0,ver + 1,Hs,C0,D0,g2,hX.keep (by omega) kD,hT,fun j b hj hb he => ⟨(hsn j b hj hb he).1,by rw [kD j (hsn j b hj hb he).1]; exact (hsn j b hj hb he).2⟩,.inl ⟨rfl,rfl⟩,fun j hj => absurd trivial hj,by simp,hMi,de,ke,fun j hj => by rw [kD j hj]; exact hfr j hj,hC,hD⟩,n2,k2⟩
theorem Rd.any {C : NS} {H H' : AHeap} (h : Rd (fun _ => False) H H') : Rd C H H' := ⟨fun x m hm h1 h2 _ => h.1 x m hm h1 h2 fun _ h => absurd h id,h.2⟩
theorem tokA_mono {Z : NS} {P : Program} : MonoK (tokA Z P) := fun H H' cs t hk ⟨a,c,h1,h2⟩ => ⟨a,c,h1,fun hn => ⟨(h2 hn).1.keeps hk.keeps,(h2 hn).2.1.ver hk.ver,(h2 hn).2.2⟩⟩
theorem Rd.same {Z : NS} {H H' : AHeap} (h : Rd (fun _ => False) H H') : Rt Z H Z H' := ⟨fun x m hm h1 h2 h3 => ⟨(h.1 x m hm h1 h2 fun _ h => absurd h id).1,(h.1 x m hm h1 h2 fun _ h => absurd h id).2,h3⟩,h.2⟩
theorem Ext.rd0 {H H' : AHeap} (h : Ext H H') : Rd (fun _ => False) H H' := ⟨fun x m _ h1 h2 _ => ⟨h1.ext h,h2.ext h⟩,fun j b hj _ => h.get hj⟩
theorem Rd.tr0 {a b c : AHeap} (h : Rd (fun _ => False) a b) (k : Rd (fun _ => False) b c) : Rd (fun _ => False) a c := ⟨fun x m hm h1 h2 h3 => k.1 x m hm (h.1 x m hm h1 h2 h3).1 (h.1 x m hm h1 h2 h3).2 h3,fun j x hj he => k.2 j x (h.2 j x hj he) he⟩
theorem i_set1 {H : AHeap} {i ver : Nat} {el : TypeId} {a b c d x : Value} (h1 : one x = true) : gotStore (some ⟨[a,b,c,d],el,.tip,ver,[]⟩) i 1 x 1 H = some (.tuple ⟨[]⟩,H.upd i ⟨[a,x,c,d],el,.tip,ver + 1,[]⟩) := by
 have hc := cell1 h1
 have := got_store (H := H) (cells := [a,b,c,d]) (el := el) (ver := ver) (anc := []) (i := i) (o := 1) (n := 1) (v := x) (by rw [hc]; rfl) (by rw [hc]; simp [h1]) (by simp)
 rw [this,hc]
 rfl
theorem i_set2 {H : AHeap} {i ver : Nat} {el : TypeId} {a b c d x : Value} (h1 : one x = true) : gotStore (some ⟨[a,b,c,d],el,.tip,ver,[]⟩) i 2 x 1 H = some (.tuple ⟨[]⟩,H.upd i ⟨[a,b,x,d],el,.tip,ver + 1,[]⟩) := by
 have hc := cell1 h1
 have := got_store (H := H) (cells := [a,b,c,d]) (el := el) (ver := ver) (anc := []) (i := i) (o := 2) (n := 1) (v := x) (by rw [hc]; rfl) (by rw [hc]; simp [h1]) (by simp)
 rw [this,hc]
 rfl
theorem v_i2 {H : AHeap} {a b : Int} : ∃ H4,vBslice 3 2 1 [.int .i64 0] [(0,1,.int .i64 a),(1,1,.int .i64 b)] H = some (.slice (some ⟨H.n,0,none⟩) 2 3,H4) ∧ Ext H H4 ∧ Ints H4 (.slice (some ⟨H.n,0,none⟩) 2 3) [a,b] ∧ Cut Tryz.prog H4 (.slice (some ⟨H.n,0,none⟩) 2 3) 1 := ⟨H.push ⟨[.int .i64 a,.int .i64 b],3,.tip,0,[]⟩,rfl,Ext.push H _,Sl.new (n := 2) (c := 3) get_push_self mem_tip rfl,Cut.new get_push_self (by kernel_rfl)⟩
theorem v_tkI {H : AHeap} {a : Int} {p : Option Addr} {n c : Nat} : vBuild [.int .i64 0,.int .i64 0,.slice none 0 0,.int .i64 0] [(0,1,.int .i64 a),(2,1,.slice p n c)] H = some (.agg ⟨[.int .i64 a,.int .i64 0,.slice p n c,.int .i64 0]⟩,H) := rfl
structure JP (i e n : Nat) (H0 H : AHeap) (vo : Value) (To : List Tok) (es : ESt) (scr at_ : Int) (C0 D0 C D : NS) : Prop where
 hi : ∃ ver,H.get i = some ⟨[.pointer (some ⟨e,0,none⟩),.int .i64 scr,.int .i64 at_,.int .i64 0],148,.tip,ver,[]⟩
 hE : REd Rind e n H es C D
 di : ¬ D i
 ho : OwnTA (fun j => j < H0.n) H vo To
 hf : From H0.n vo
 hn : H0.n ≤ H.n
 on : ∀ j,j < H0.n → ¬ C0 j → j ≠ i → H.get j = H0.get j
 rd : Rd (fun _ => False) H0 H
 c : ∀ j,j < H0.n → C j → C0 j
 d : ∀ j,j < H0.n → D j → D0 j
section
variable {i e n : Nat} {H0 H : AHeap} {vo : Value} {To : List Tok} {es : ESt} {scr at_ : Int} {C0 D0 C D : NS}
theorem JP.set (h : JP i e n H0 H vo To es scr at_ C0 D0 C D) {ver : Nat} (hg : H.get i = some ⟨[.pointer (some ⟨e,0,none⟩),.int .i64 scr,.int .i64 at_,.int .i64 0],148,.tip,ver,[]⟩) (scr' at' : Int) : JP i e n H0 (H.upd i ⟨[.pointer (some ⟨e,0,none⟩),.int .i64 scr',.int .i64 at',.int .i64 0],148,.tip,ver + 1,[]⟩) vo To es scr' at' C0 D0 C D := by
 obtain ⟨H1,hH1⟩ : ∃ H1,H1 = H.upd i ⟨[.pointer (some ⟨e,0,none⟩),.int .i64 scr',.int .i64 at',.int .i64 0],148,.tip,ver + 1,[]⟩ := ⟨_,rfl⟩
 rw [← hH1]
 have n1 : H1.n = H.n := by rw [hH1]; simp
 have k1 : ∀ j,j ≠ i → H1.get j = H.get j := fun j hj => by rw [hH1]; exact upd_other hg hj
 have hr : Rd (fun _ => False) H H1 := ⟨fun x m hm h1 h2 _ => ints_same h1 hm h2 fun j b _ hb hs => by
  rw [k1 j (fun e1 => by subst e1; rw [hg] at hb; injection hb with hb; subst hb; exact (size1 hs).2.2 rfl)]
  exact hb,fun j b hj he => by
  rw [k1 j (fun e1 => by subst e1; rw [hg] at hj; injection hj with hj; subst hj; revert he; simp only; decide)]
  exact hj⟩
 have hn := h.hn
 exact ⟨⟨ver + 1,by rw [hH1]; exact upd_self hg⟩,h.hE.keep (by omega) fun j hj => k1 j (fun e1 => h.di (e1 ▸ hj)),h.di,OwnTA.rt hr.same h.ho,h.hf,by omega,fun j hj hc hji => by rw [k1 j hji,h.on j hj hc hji],h.rd.tr0 hr,h.c,h.d⟩
theorem JP.ep (h : JP i e n H0 H vo To es scr at_ C0 D0 C D) {n' : Nat} {H' : AHeap} {v : Value} {T : List Tok} {es' : ESt} (hE : EP Rind e n' H H' v T es' C D) : OwnTF H0.n H' v T ∧ From H0.n v ∧ ∃ C' D',JP i e n' H0 H' vo To es' scr at_ C0 D0 C' D' := by
 obtain ⟨h1,h2,h3,h4,C',D',h5,h6,h7⟩ := hE
 obtain ⟨ver,hi⟩ := h.hi
 have hil := AHeap.lt_of_get hi
 have hn := h.hn
 have h3n := h3.1
 have ci : ¬ C i := fun hc => h.di (h.hE.sub hc)
 refine ⟨h1.mono hn,h2.mono hn,C',D',⟨ver,by rw [h3.2 i hil ci]; exact hi⟩,h5,fun hd => h.di (h7 i hil hd),OwnTA.rt h4.same h.ho,h.hf,by omega,fun j hj hc hji => ?_,h.rd.tr0 h4,fun j hj hc => h.c j hj (h6 j (by omega) hc),fun j hj hd => h.d j hj (h7 j (by omega) hd)⟩
 rw [h3.2 j (by omega) (fun hc' => hc (h.c j hj hc')),h.on j hj hc hji]
theorem JP.app (h : JP i e n H0 H vo To es scr at_ C0 D0 C D) {v : Value} {T : List Tok} (hv : OwnTF H0.n H v T) (hl : To.length + T.length < 1000000) : ∃ vr H',appendA H vo v 36 4 48 = some (vr,H') ∧ JP i e n H0 H' vr (To ++ T) es scr at_ C0 D0 C D := by
 have hva : OwnTA (fun j => j < H0.n) H v T := hv.ta
 obtain ⟨vr,H',m1,m2,m3,m4,m5,m6⟩ := OwnRws.append (bytes := 48) tokA_mono h.ho hva.rws (fun _ cs hs => Rws.ones hv.ot.rws cs hs) (by omega) (by omega)
 have hno : ∀ j b,H.get j = some b → b.elem ≠ 36 → H'.get j = some b := fun j b hb hbe => by
  obtain ⟨_,cs,q1,_⟩ := h.ho
  rw [m6 j (AHeap.lt_of_get hb) (q1.notAt_elem hb hbe)]
  exact hb
 obtain ⟨ver,hi⟩ := h.hi
 have hn := h.hn
 have hkD : ∀ j,D j → H'.get j = H.get j := fun j hj => by
  have hjl := h.hE.lt hj
  refine m6 j hjl ?_
  obtain ⟨_,cs,q1,_⟩ := h.ho
  by_cases hna : NotAt vo j
  ·exact hna
  ·obtain ⟨b,hb,he⟩ := own_here q1 hna
   exact absurd he (h.hE.tok j b hj hb)
 refine ⟨vr,H',m1,⟨ver,hno _ _ hi (by simp only; decide)⟩,h.hE.keep m5 hkD,h.di,m2,?_,by omega,fun j hj hc hji => by rw [m6 j (by omega) (NotAt.of_from h.hf hj),h.on j hj hc hji],⟨fun x m hm h1 h2 h3 => ?_,fun j b hj he => ?_⟩,h.c,h.d⟩
 ·rcases m3 with h9 | rfl
  ·exact h9.mono (by omega)
  ·exact h.hf
 ·obtain ⟨g1,g2⟩ := h.rd.1 x m hm h1 h2 h3
  exact ints_same g1 hm g2 fun j b _ hb hs => hno j b hb (size1 hs).1
 ·rw [m6 j (by have := AHeap.lt_of_get hj; omega) (NotAt.of_from h.hf (AHeap.lt_of_get hj))]
  exact h.rd.2 j b hj he
theorem JP.ext (h : JP i e n H0 H vo To es scr at_ C0 D0 C D) {H' : AHeap} (hx : Ext H H') : JP i e n H0 H' vo To es scr at_ C0 D0 C D := by
 obtain ⟨ver,hi⟩ := h.hi
 have hn := h.hn
 exact ⟨⟨ver,hx.get hi⟩,h.hE.keep hx.1 fun j hj => hx.2 j (h.hE.lt hj),h.di,h.ho.ext tokA_mono hx,h.hf,by have := hx.1; omega,fun j hj hc hji => by rw [hx.2 j (by omega),h.on j hj hc hji],h.rd.tr0 (Ext.rd0 hx),h.c,h.d⟩
end
abbrev JSt := ESt × Int × Int
def unitI (u : Int) : Int := if inS u then u % 128 else 8192 + u
def swI (scr u : Int) : Bool := decide (inS u) && !decide ((u - 2304) / 128 = scr)
def jeS (st : JSt) (u : Int) : List Tok × JSt :=
 if swI st.2.1 u = true then ((efS Rind st.1).1 ++ [⟨st.2.2,0,[239,C14.getD ((u - 2304) / 128).toNat 0],0⟩] ++ (esS Rind ((efS Rind st.1).2.1,[]) (unitI u)).1,((esS Rind ((efS Rind st.1).2.1,[]) (unitI u)).2,(u - 2304) / 128,st.2.2 + 1))
 else ((esS Rind st.1 (unitI u)).1,((esS Rind st.1 (unitI u)).2,st.2.1,st.2.2 + 1))
def jeF (st : JSt) : List Tok × JSt := ((efS Rind st.1).1,((efS Rind st.1).2,st.2))
theorem Rind_trR : Right (trn Rind []) := trn_right Rind_right
section
variable {i e n : Nat} {H0 H : AHeap} {vo : Value} {To : List Tok} {es : ESt} {scr at_ : Int} {C0 D0 C D : NS}
theorem REd.ce {L : List Rl} {st : ESt} (h : REd L e n H st C D) : C e ∧ ∃ b,H.get e = some b ∧ b.elem = 150 := by
 obtain ⟨k,m,q,t,va,ver,Hs,C0,D0,ge,hX,hT,hsn,hva,hvd,h8,hMi,de,ke,hfr,hC,hD⟩ := h
 subst hC
 exact ⟨.inr rfl,_,ge,rfl⟩
theorem JP.with (h : JP i e n H0 H vo To es scr at_ C0 D0 C D) {v : Value} {T : List Tok} (hv : OwnTF H0.n H v T) (hf : From H0.n v) : JP i e n H0 H v T es scr at_ C0 D0 C D := { h with ho := hv.ta,hf := hf }
theorem JP.apart (h : JP i e n H0 H vo To es scr at_ C0 D0 C D) {H' : AHeap} {es' : ESt} (hE : REd Rind e n H' es' C D) (hn : H'.n = H.n) (hk : ∀ j,j ≠ e → H'.get j = H.get j) : JP i e n H0 H' vo To es' scr at_ C0 D0 C D := by
 obtain ⟨ce,b9,hb9,he9⟩ := h.hE.ce
 obtain ⟨ver,hi⟩ := h.hi
 have hie : i ≠ e := fun h9 => h.di (h9 ▸ h.hE.sub ce)
 have hr : Rd (fun _ => False) H H' := ⟨fun x m hm h1 h2 _ => ints_same h1 hm h2 fun j b _ hb hs => by
  rw [hk j (fun e1 => by subst e1; rw [hb9] at hb; injection hb with hb; subst hb; exact (size1 hs).2.1 he9)]
  exact hb,fun j b hj he => by
  rw [hk j (fun e1 => by subst e1; rw [hb9] at hj; injection hj with hj; subst hj; rw [he9] at he; exact absurd he (by decide))]
  exact hj⟩
 have hn0 := h.hn
 exact ⟨⟨ver,by rw [hk i hie]; exact hi⟩,hE,h.di,OwnTA.rt hr.same h.ho,h.hf,by omega,fun j hj hc hji => by rw [hk j (fun e1 => by subst e1; exact hc (h.c j hj ce)),h.on j hj hc hji],h.rd.tr0 hr,h.c,h.d⟩
end
def WrJ (v : Value) (n : Nat) (H : AHeap) (st : JSt) (C D : NS) : Prop := ∃ i e C0 D0,v = .iface 116 (.pointer (some ⟨i,0,none⟩)) ∧ (∃ ver,H.get i = some ⟨[.pointer (some ⟨e,0,none⟩),.int .i64 st.2.1,.int .i64 st.2.2,.int .i64 0],148,.tip,ver,[]⟩) ∧ REd Rind e n H st.1 C0 D0 ∧ ¬ D0 i ∧ (0 ≤ st.2.1 ∧ st.2.1 < 9) ∧ (0 ≤ st.2.2 ∧ st.2.2 ≤ n) ∧ C = (fun j => C0 j ∨ j = i) ∧ D = fun j => D0 j ∨ j = i
theorem jnF_tok {L : List Rl} {b : Bool} {w : List Int} {a s : Int} {ah : List Int} (hR : Right L) (hw : w.length ≤ 8) {L2 : List Rl} : (jnF L2 ah (takeW L b w a s).1).1.length ≤ 8 := by
 rw [jnF_len]
 obtain ⟨n,n1,_,_,_,_,n6,_⟩ := takeF_bd hR (e := b) w.length w a s
 have : (takeW L b w a s).1.length ≤ n := n6
 omega
theorem REd.few {L : List Rl} {e n : Nat} {H : AHeap} {st : ESt} {C D : NS} (hR : Right (trn L [])) (h : REd L e n H st C D) (u : Int) : (esS L st u).1.length ≤ 8 ∧ (efS L st).1.length ≤ 8 := by
 obtain ⟨k,m,q,t,va,ver,Hs,C0,D0,ge,hX,hT,hsn,hva,hvd,h8,hMi,de,ke,hfr,hC,hD⟩ := h
 have hl := hMi.wt.len hR
 exact ⟨jnF_tok hR (by rw [List.length_append,List.length_singleton]; omega),jnF_tok hR (by omega)⟩
theorem me_JjP : methA Tryz.prog 116 "Put" = some (175, none) := by kernel_rfl
theorem me_JjE : methA Tryz.prog 116 "End" = some (173, none) := by kernel_rfl
theorem c_IPut {i e n : Nat} {st : JSt} {u : Int} {H : AHeap} {C D : NS} (hu : okS u) (hg : ∃ ver,H.get i = some ⟨[.pointer (some ⟨e,0,none⟩),.int .i64 st.2.1,.int .i64 st.2.2,.int .i64 0],148,.tip,ver,[]⟩) (hE : REd Rind e n H st.1 C D) (di : ¬ D i) (hs : 0 ≤ st.2.1 ∧ st.2.1 < 9) (ha : 0 ≤ st.2.2 ∧ st.2.2 < 1000000) (hn : n < 300000) :
  Gives (cw Tryz.prog (tabF tab) om1 175 [.pointer (some ⟨i,0,none⟩),.int .i64 u] H) fun v H' => ∃ C' D',JP i e (n + 1) H H' v (jeS st u).1 (jeS st u).2.1 (jeS st u).2.2.1 (jeS st u).2.2.2 C D C' D' := by
 obtain ⟨es,scr,at_⟩ := st
 simp only at hg hE hs ha
 have J0 : JP i e n H H (.slice none 0 0) [] es scr at_ C D C D := ⟨hg,hE,di,OwnRws.nil,trivial,Nat.le_refl _,fun _ _ _ _ => rfl,⟨fun x m _ h1 h2 _ => ⟨h1,h2⟩,fun _ _ h _ => h⟩,fun _ _ h => h,fun _ _ h => h⟩
 obtain ⟨ver,hg⟩ := hg
 have c0 := c_IOf (x := u) H
 have cS := c_Scalar (H := H) (s := u) hu
 have hwa : IntKind.i64.wrap (at_ + 1) = at_ + 1 := wrap64 (by omega) (by omega)
 have tail : ∀ {H1 : AHeap} {vo : Value} {To : List Tok} {es1 : ESt} {scr1 : Int} {C1 D1 : NS} {ver1 : Nat},JP i e n H H1 vo To es1 scr1 at_ C D C1 D1 → H1.get i = some ⟨[.pointer (some ⟨e,0,none⟩),.int .i64 scr1,.int .i64 at_,.int .i64 0],148,.tip,ver1,[]⟩ → To.length < 100 → ∃ H2 v H3 vr H4 ver2,gotStore (some ⟨[.pointer (some ⟨e,0,none⟩),.int .i64 scr1,.int .i64 at_,.int .i64 0],148,.tip,ver1,[]⟩) i 2 (.int .i64 (at_ + 1)) 1 H1 = some (.tuple ⟨[]⟩,H2) ∧ H2.get i = some ⟨[.pointer (some ⟨e,0,none⟩),.int .i64 scr1,.int .i64 (at_ + 1),.int .i64 0],148,.tip,ver2,[]⟩ ∧ cw Tryz.prog (tabF tab) om1 180 [.pointer (some ⟨e,0,none⟩),.int .i64 (unitI u)] H2 = some (v,H3) ∧ appendA H3 vo v 36 4 48 = some (vr,H4) ∧ ∃ C' D',JP i e (n + 1) H H4 vr (To ++ (esS Rind es1 (unitI u)).1) (esS Rind es1 (unitI u)).2 scr1 (at_ + 1) C D C' D' := fun {H1 vo To es1 scr1 C1 D1 ver1} J hg1 hTo => by
  have J2 := J.set hg1 scr1 (at_ + 1)
  have st := i_set2 (H := H1) (i := i) (ver := ver1) (el := 148) (a := .pointer (some ⟨e,0,none⟩)) (b := .int .i64 scr1) (c := .int .i64 at_) (d := .int .i64 0) (x := .int .i64 (at_ + 1)) rfl
  obtain ⟨H2,hH2⟩ : ∃ H2,H2 = H1.upd i ⟨[.pointer (some ⟨e,0,none⟩),.int .i64 scr1,.int .i64 (at_ + 1),.int .i64 0],148,.tip,ver1 + 1,[]⟩ := ⟨_,rfl⟩
  rw [← hH2] at st J2
  obtain ⟨v,H3,c3,hP⟩ := c_EPut (u := unitI u) Rind_trR J2.hE (by omega)
  obtain ⟨h1,h2,C3,D3,J3⟩ := J2.ep hP
  have hf := (J2.hE.few Rind_trR (unitI u)).1
  obtain ⟨vr,H4,m1,J4⟩ := J3.app h1 (by omega)
  exact ⟨H2,v,H3,vr,H4,_,st,by rw [hH2]; exact upd_self hg1,c3,m1,C3,D3,J4⟩
 rw [cw_run (F := F_iscii_Encoder__Put) rfl rfl rfl]
 unfold F_iscii_Encoder__Put k_iscii_Encoder__Put
 by_cases hin : inS u
 ·have hun : unitI u = u % 128 := by unfold unitI; rw [if_pos hin]
  unfold ofS at c0
  rw [if_pos hin] at c0
  by_cases hsc : (u - 2304) / 128 = scr
  ·have hs0 : swI scr u = false := by unfold swI; simp [hsc]
   have hz : ((u - 2304) / 128 ≠ scr) = False := by simp [hsc]
   have hR : jeS (es,scr,at_) u = ((esS Rind es (unitI u)).1,((esS Rind es (unitI u)).2,scr,at_ + 1)) := by
    unfold jeS
    simp only [hs0]
    rfl
   rw [hR]
   obtain ⟨H2,v,H3,vr,H4,ver2,st,g2,c3,m1,C',D',J4⟩ := tail J0 hg (by simp)
   rw [List.nil_append] at J4
   rw [hun] at c3
   simp only [WA,isStore,isCall,isK,freshI,stampO,Nat.reduceEqDiff,Int.reduceEq,Nat.reduceAdd,Nat.reduceMul,reduceCtorEq,Int.reduceLT,Int.reduceLE,Int.reduceToNat,Nat.reduceLeDiff,Int.cast_ofNat_Int,c0,cS,hg,hz,hwa,st,g2,c3,m1]
   exact ⟨C',D',J4⟩
  ·have hs1 : swI scr u = true := by unfold swI; simp [hsc,hin]
   have hz : ((u - 2304) / 128 ≠ scr) = True := by simp [hsc]
   obtain ⟨k,hk⟩ : ∃ k : Nat,(u - 2304) / 128 = k := ⟨((u - 2304) / 128).toNat,by have := hin.1; omega⟩
   have hk9 : k < 9 := by have := hin.2.1; omega
   have hR : jeS (es,scr,at_) u = ((efS Rind es).1 ++ [⟨at_,0,[239,C14.getD k 0],0⟩] ++ (esS Rind ((efS Rind es).2.1,[]) (unitI u)).1,((esS Rind ((efS Rind es).2.1,[]) (unitI u)).2,(u - 2304) / 128,at_ + 1)) := by
    unfold jeS
    simp only [hs1,if_true]
    rw [hk,Int.toNat_natCast]
   rw [hR]
   obtain ⟨v1,H1,c1,hP1⟩ := c_EEnd Rind_trR hE (by omega)
   have hf1 := (hE.few Rind_trR 0).2
   obtain ⟨t1,f1,C1,D1,J1⟩ := J0.ep hP1
   have J1 := J1.with t1 f1
   obtain ⟨ver1,g1⟩ := J1.hi
   have cC := c_Code (H := H1) hk9
   rw [← hk] at cC
   have J2 := J1.set g1 ((u - 2304) / 128) at_
   have st2 := i_set1 (H := H1) (i := i) (ver := ver1) (el := 148) (a := .pointer (some ⟨e,0,none⟩)) (b := .int .i64 scr) (c := .int .i64 at_) (d := .int .i64 0) (x := .int .i64 ((u - 2304) / 128)) rfl
   obtain ⟨H2,hH2⟩ : ∃ H2,H2 = H1.upd i ⟨[.pointer (some ⟨e,0,none⟩),.int .i64 ((u - 2304) / 128),.int .i64 at_,.int .i64 0],148,.tip,ver1 + 1,[]⟩ := ⟨_,rfl⟩
   rw [← hH2] at st2 J2
   have g2 : H2.get i = some ⟨[.pointer (some ⟨e,0,none⟩),.int .i64 ((u - 2304) / 128),.int .i64 at_,.int .i64 0],148,.tip,ver1 + 1,[]⟩ := by rw [hH2]; exact upd_self g1
   obtain ⟨v3,H3,c3,hE3,n3,k3⟩ := c_EApart J2.hE
   have J3 := J2.apart hE3 n3 k3
   obtain ⟨ver3,g3⟩ := J3.hi
   obtain ⟨H4,v4,x4,i4,k4⟩ := v_i2 (H := H3) (a := 239) (b := C14.getD k 0)
   obtain ⟨H5,hH5⟩ : ∃ H5,H5 = H4.push ⟨[.int .i64 at_,.int .i64 0,.slice (some ⟨H3.n,0,none⟩) 2 3,.int .i64 0],36,.tip,0,[]⟩ := ⟨_,rfl⟩
   have x5 : Ext H4 H5 := by rw [hH5]; exact Ext.push H4 _
   have g5 : H5.get H4.n = some ⟨tokC (some ⟨H3.n,0,none⟩) 3 ⟨at_,0,[239,C14.getD k 0],0⟩,36,.tip,0,[]⟩ := by rw [hH5]; exact get_push_self
   have J5 := J3.ext (x4.trans x5)
   have hJ3n := J3.hn
   have t5 : OwnTF H.n H5 (.slice (some ⟨H4.n,0,none⟩) 1 2) [⟨at_,0,[239,C14.getD k 0],0⟩] := tok1F g5 ⟨_,_,rfl,i4.ext x5,by unfold Lon.tiny; simp,k4.ext x5⟩ hJ3n
   obtain ⟨v6,H6,p1,J6⟩ := J5.app t5 (by simp; omega)
   obtain ⟨ver6,g6⟩ := J6.hi
   obtain ⟨H7,v,H8,vr,H9,ver7,st,g7,c7,m1,C',D',J9⟩ := tail J6 g6 (by rw [List.length_append,List.length_singleton]; omega)
   rw [hun] at c7
   simp only [WA,isStore,isCall,isK,freshI,stampO,Nat.reduceEqDiff,Int.reduceEq,Nat.reduceAdd,Nat.reduceMul,reduceCtorEq,Int.reduceLT,Int.reduceLE,Int.reduceToNat,Nat.reduceLeDiff,Int.cast_ofNat_Int,c0,cS,hg,hz,hwa,c1,cC,g1,st2,g2,c3,g3,v4,v_tkI,v_mk1,← hH5,p1,g6,st,g7,c7,m1]
   exact ⟨C',D',J9⟩
 ·have hun : unitI u = 8192 + u := by unfold unitI; rw [if_neg hin]
  unfold ofS at c0
  rw [if_neg hin] at c0
  have hs0 : swI scr u = false := by unfold swI; simp [hin]
  have hwu : IntKind.i64.wrap (8192 + u) = 8192 + u := by have := hu.1; have := hu.2.1; exact wrap64 (by omega) (by omega)
  have hR : jeS (es,scr,at_) u = ((esS Rind es (unitI u)).1,((esS Rind es (unitI u)).2,scr,at_ + 1)) := by
   unfold jeS
   simp only [hs0]
   rfl
  rw [hR]
  obtain ⟨H2,v,H3,vr,H4,ver2,st,g2,c3,m1,C',D',J4⟩ := tail J0 hg (by simp)
  rw [List.nil_append] at J4
  rw [hun] at c3
  simp only [WA,isStore,isCall,isK,freshI,stampO,Nat.reduceEqDiff,Int.reduceEq,Nat.reduceAdd,Nat.reduceMul,reduceCtorEq,Int.reduceLT,Int.reduceLE,Int.reduceToNat,Nat.reduceLeDiff,Int.cast_ofNat_Int,c0,cS,hwu,hg,hwa,st,g2,c3,m1]
  exact ⟨C',D',J4⟩
theorem jeS_st {st : JSt} {u : Int} {n : Nat} (hu : okS u) (hs : 0 ≤ st.2.1 ∧ st.2.1 < 9) (ha : 0 ≤ st.2.2 ∧ st.2.2 ≤ n) : (0 ≤ (jeS st u).2.2.1 ∧ (jeS st u).2.2.1 < 9) ∧ 0 ≤ (jeS st u).2.2.2 ∧ (jeS st u).2.2.2 ≤ (n + 1 : Nat) := by
 unfold jeS
 split
 ·rename_i h
  have hin : inS u := by
   unfold swI at h
   simp only [Bool.and_eq_true,decide_eq_true_eq] at h
   exact h.1
  obtain ⟨h1,h2,_⟩ := hin
  exact ⟨⟨by simp only; omega,by simp only; omega⟩,by simp only; omega,by simp only; push_cast; omega⟩
 ·exact ⟨hs,by simp only; omega,by simp only; push_cast; omega⟩
theorem jp_only {i e n : Nat} {H0 H : AHeap} {vo : Value} {To : List Tok} {es : ESt} {scr at_ : Int} {C0 D0 C D : NS} (h : JP i e n H0 H vo To es scr at_ C0 D0 C D) : Only (fun j => C0 j ∨ j = i) H0 H := ⟨h.hn,fun j hj hc => h.on j hj (fun h => hc (.inl h)) (fun h => hc (.inr h))⟩
theorem mc_J {v : Value} : Mc (WrJ v) v jeS jeF okS 200000 where
 put := by
  intro n H st C D u ⟨i,e,C0,D0,hv,hg,hE,di,hs,ha,hC,hD⟩ hn hu
  subst hv hC hD
  obtain ⟨x,H',c,C',D',J⟩ := c_IPut hu hg hE di hs (by omega) (by omega)
  rw [inv_none me_JjP]
  obtain ⟨q1,q2⟩ := jeS_st hu hs ha
  exact ⟨x,H',c,J.ho,J.rd.any,jp_only J,_,_,⟨i,e,C',D',rfl,J.hi,J.hE,J.di,q1,q2,rfl,rfl⟩,fun j hj hc => hc.imp (J.c j hj) id,fun j hj hc => hc.imp (J.d j hj) id⟩
 fin := by
  intro n H st C D ⟨i,e,C0,D0,hv,⟨ver,hg⟩,hE,di,hs,ha,hC,hD⟩ hn
  subst hv hC hD
  obtain ⟨x,H',c,hP⟩ := c_EEnd Rind_trR hE (by omega)
  have J0 : JP i e n H H (.slice none 0 0) [] st.1 st.2.1 st.2.2 C0 D0 C0 D0 := ⟨⟨ver,hg⟩,hE,di,OwnRws.nil,trivial,Nat.le_refl _,fun _ _ _ _ => rfl,⟨fun x m _ h1 h2 _ => ⟨h1,h2⟩,fun _ _ h _ => h⟩,fun _ _ h => h,fun _ _ h => h⟩
  obtain ⟨t1,f1,C',D',J⟩ := J0.ep hP
  rw [inv_none me_JjE]
  refine ⟨x,H',?_,t1.ta,J.rd.any,jp_only J,_,_,⟨i,e,C',D',rfl,J.hi,J.hE,J.di,hs,ha,rfl,rfl⟩,fun j hj hc => hc.imp (J.c j hj) id,fun j hj hc => hc.imp (J.d j hj) id⟩
  rw [cw_run (F := F_iscii_Encoder__End) rfl rfl rfl]
  unfold F_iscii_Encoder__End k_iscii_Encoder__End
  simp only [WA,isStore,isCall,isK,freshI,stampO,Nat.reduceEqDiff,Int.reduceEq,Nat.reduceAdd,Nat.reduceMul,reduceCtorEq,Int.reduceLT,Int.reduceLE,Int.reduceToNat,Nat.reduceLeDiff,Int.cast_ofNat_Int,hg,c]
 keep := by
  intro n H H' st C D ⟨i,e,C0,D0,hv,⟨ver,hg⟩,hE,di,hs,ha,hC,hD⟩ hn hk
  subst hD
  exact ⟨i,e,C0,D0,hv,⟨ver,by rw [hk i (.inr rfl)]; exact hg⟩,hE.keep hn fun j hj => hk j (.inl hj),di,hs,ha,hC,rfl⟩
 lt := by
  intro n H st C D j ⟨i,e,C0,D0,hv,⟨ver,hg⟩,hE,di,hs,ha,hC,hD⟩ hj
  subst hD
  rcases hj with hj | rfl
  ·exact hE.lt hj
  ·exact AHeap.lt_of_get hg
 sub := by
  intro n H st C D j ⟨i,e,C0,D0,hv,hg,hE,di,hs,ha,hC,hD⟩ hj
  subst hC hD
  exact hj.imp hE.sub id
 mono := by
  intro n m H st C D ⟨i,e,C0,D0,hv,hg,hE,di,hs,ha,hC,hD⟩ hn
  exact ⟨i,e,C0,D0,hv,hg,hE.mono hn,di,hs,by omega,hC,hD⟩
theorem wl_le : ∀ (T : List Tok),(∀ x ∈ T,x.out.length ≤ 8) → wl T ≤ 9 * T.length
 | [],_ => by simp [wl]
 | x :: T,h => by
  rw [wl_cons,List.length_cons]
  have h1 := h x (List.mem_cons_self ..)
  have h2 := wl_le T fun y hy => h y (List.mem_cons_of_mem _ hy)
  omega
def okC (x : Tok) : Prop := (x.err = 0 → ∀ u ∈ x.out,0 ≤ u ∧ u < 256) ∧ x.out.length ≤ 8
theorem jnF_okC {L : List Rl} : ∀ (T : List Tok) (ah : List Int),(∀ x ∈ T,okC x) → ∀ x ∈ (jnF L ah T).1,okC x
 | [],ah,_,x,hx => absurd hx (by unfold jnF; simp)
 | y :: T,ah,h,x,hx => by
  rw [jnF_cons] at hx
  rcases List.mem_cons.1 hx with rfl | hx
  ·unfold joinT
   split
   ·exact ⟨fun h => (by cases h),by simp⟩
   ·exact h y (List.mem_cons_self ..)
  ·exact jnF_okC T _ (fun z hz => h z (List.mem_cons_of_mem _ hz)) x hx
theorem tk_okC {L : List Rl} (hR : Right (trn L [])) (hb : ∀ r ∈ L,∀ u ∈ r.1,0 ≤ u ∧ u < 256) {e : Bool} {w : List Int} {a s : Int} : ∀ x ∈ (takeW (trn L []) e w a s).1,okC x := fun x hx => by
 rcases takeF_mem hR w.length w a s x hx with ⟨h,h2⟩ | ⟨h,h2,r,hr,h3⟩
 ·exact ⟨fun h9 => (by rw [h9] at h; cases h),by rw [h2]; simp⟩
 ·refine ⟨fun _ u hu => ?_,h2⟩
  rw [h3] at hu
  rcases trn_mem hr with hr | hr
  ·exact absurd hr (by simp)
  ·exact hb _ hr u hu
theorem es_okC {L : List Rl} (hR : Right (trn L [])) (hb : ∀ r ∈ L,∀ u ∈ r.1,0 ≤ u ∧ u < 256) (st : ESt) (u : Int) : (∀ x ∈ (esS L st u).1,okC x) ∧ ∀ x ∈ (efS L st).1,okC x := ⟨jnF_okC _ _ (tk_okC hR hb),jnF_okC _ _ (tk_okC hR hb)⟩
theorem okC_of {T : List Tok} (h : ∀ x ∈ T,okC x) (hl : T.length ≤ 40) : okW T ∧ wl T ≤ 400 := ⟨fun x hx he => (h x hx).1 he,by have := wl_le T fun x hx => (h x hx).2; omega⟩
def byL (L : List Rl) : Bool := L.all fun r => r.1.all fun u => decide (0 ≤ u ∧ u < 256)
theorem byL_of {L : List Rl} (h : byL L = true) : ∀ r ∈ L,∀ u ∈ r.1,0 ≤ u ∧ u < 256 := fun r hr u hu => by
 have := List.all_eq_true.1 (List.all_eq_true.1 h r hr) u hu
 rwa [decide_eq_true_eq] at this
theorem Rind_by : byL Rind = true := by kernel_rfl
theorem es_len {w : List Int} {a s : Int} {ah : List Int} {b : Bool} (hw : w.length ≤ 8) : (jnF Rind ah (takeW (trn Rind []) b w a s).1).1.length ≤ 8 := jnF_tok Rind_trR hw
theorem wg_J {v : Value} : Wg (WrJ v) jeS jeF okS where
 good := by
  intro n H st C D u ⟨i,e,C0,D0,hv,hg,hE,di,hs,ha,hC,hD⟩ hu
  have hl : st.1.1.1.length ≤ 7 := by
   obtain ⟨k,m,q,t,va,ver,Hs,C0,D0,ge,hX,hT,hsn,hva,hvd,h8,hMi,de,ke,hfr,hC,hD⟩ := hE
   exact hMi.wt.len Rind_trR
  have hf := hE.few Rind_trR (unitI u)
  have k1 := es_okC Rind_trR (byL_of Rind_by) st.1 (unitI u)
  have k2 := es_okC Rind_trR (byL_of Rind_by) ((efS Rind st.1).2.1,[]) (unitI u)
  have hz : (efS Rind st.1).2.1.1 = [] := by
   unfold efS rdF
   exact (end_is Rind_trR).2.1
  have hf2 : (esS Rind ((efS Rind st.1).2.1,[]) (unitI u)).1.length ≤ 8 := es_len (by rw [hz]; simp)
  unfold jeS
  by_cases hsw : swI st.2.1 u = true
  ·have hin : inS u := by
    unfold swI at hsw
    simp only [Bool.and_eq_true,decide_eq_true_eq] at hsw
    exact hsw.1
   rw [if_pos hsw]
   refine okC_of (fun x hx => ?_) (by simp only [List.length_append,List.length_singleton]; omega)
   rcases List.mem_append.1 hx with hx | hx
   ·rcases List.mem_append.1 hx with hx | hx
    ·exact k1.2 x hx
    ·rw [List.mem_singleton.1 hx]
     refine ⟨fun _ y hy => ?_,by simp⟩
     rcases List.mem_cons.1 hy with rfl | hy
     ·omega
     ·rw [List.mem_singleton.1 hy]
      have h9 : ((u - 2304) / 128).toNat < 9 := by
       have := hin.1
       have := hin.2.1
       omega
      obtain ⟨k,hk⟩ : ∃ k,((u - 2304) / 128).toNat = k := ⟨_,rfl⟩
      rw [hk] at h9 ⊢
      match k,h9 with
      | 0,_ | 1,_ | 2,_ | 3,_ | 4,_ | 5,_ | 6,_ | 7,_ | 8,_ => decide
   ·exact k2.1 x hx
  ·rw [if_neg hsw]
   exact okC_of k1.1 (by simp only; omega)
 goodf := by
  intro n H st C D ⟨i,e,C0,D0,hv,hg,hE,di,hs,ha,hC,hD⟩
  have := (hE.few Rind_trR 0).2
  exact okC_of (es_okC Rind_trR (byL_of Rind_by) st.1 0).2 (by unfold jeF; simp only; omega)
theorem v_enc {H : AHeap} {m q : Nat} : vBuild [.pointer none,.pointer none,.slice none 0 0] [(0,1,.pointer (some ⟨m,0,none⟩)),(1,1,.pointer (some ⟨q,0,none⟩))] H = some (.agg ⟨[.pointer (some ⟨m,0,none⟩),.pointer (some ⟨q,0,none⟩),.slice none 0 0]⟩,H) := rfl
theorem c_MEncode {q : Nat} {L : List Rl} {H : AHeap} (hT : TableOk H q L) : Gives (cw Tryz.prog (tabF tab) om1 51 [.pointer (some ⟨q,0,none⟩)] H) fun v H' => ∃ e C D,v = .pointer (some ⟨e,0,none⟩) ∧ REd L e 0 H' (([],0,0),[]) C D ∧ Ext H H' ∧ (∀ j,C j → H.n ≤ j ∧ ∃ b,H'.get j = some b ∧ isF b.elem = false) ∧ ∀ j,D j → j < H.n → ∀ b,H'.get j = some b → isF b.elem = true := by
 rw [cw_run (F := F_machine_Encode) rfl rfl rfl]
 unfold F_machine_Encode k_machine_Encode
 obtain ⟨ver,t1,t2,hg,hT1,hT2⟩ := hT.rest
 have c1 := c_Write hg
 obtain ⟨v2,H2,c2,x2,m,rfl,hMD⟩ := MD.new hT2
 obtain ⟨H3,hH3⟩ : ∃ H3,H3 = H2.push ⟨[.pointer (some ⟨m,0,none⟩),.pointer (some ⟨q,0,none⟩),.slice none 0 0],150,.tip,0,[]⟩ := ⟨_,rfl⟩
 have x3 : Ext H2 H3 := by rw [hH3]; exact Ext.push H2 _
 have g3 : H3.get H2.n = some ⟨[.pointer (some ⟨m,0,none⟩),.pointer (some ⟨q,0,none⟩),.slice none 0 0],150,.tip,0,[]⟩ := by rw [hH3]; exact get_push_self
 have hbx : vBox (.agg ⟨[.pointer (some ⟨m,0,none⟩),.pointer (some ⟨q,0,none⟩),.slice none 0 0]⟩) 150 H2 = some (.pointer (some ⟨H2.n,0,none⟩),H3) := by rw [hH3]; exact v_box rfl
 obtain ⟨vw,ver2,gm,q2,q3⟩ := hMD.hm
 have hv : vw = .slice none 0 0 := by
  obtain ⟨_,⟨h,_⟩ | ⟨b,ver,anc,_,h,_⟩⟩ := q2
  ·exact h
  ·exact absurd h (by simp)
 subst hv
 have hml := AHeap.lt_of_get gm
 have hkm := hMD.km
 have hkn := hMD.kn
 have hTc : TableOk (cutN H2 H.n) q L := by
  refine hT.keep (fun j blk hj _ => ?_) fun j blk hj _ => ?_ <;>
  ·rw [cutN_get x2.1 (AHeap.lt_of_get hj)]; exact x2.get hj
 have hX : MX H.n H2 H2 m t2 (trn L []) [] 0 0 (fun j => j = m) (fun j => j = m ∨ (j < H.n ∧ ∃ b,H2.get j = some b ∧ isF b.elem = true)) := ⟨hkn,hkn,hkm,hMD.trie,⟨_,ver2,gm,q2,q3⟩,fun j b hj hb he => ⟨.inr ⟨hj,b,hb,isF_T he⟩,hb⟩,rfl,fun j hj => absurd (NW.of gm (vw := .slice none 0 0) trivial) hj,fun j hj => by have hj : j = m := hj; omega,fun j hj => .inl hj,fun j hj => by
  rcases hj with rfl | ⟨hj,_⟩
  ·exact hml
  ·omega⟩
 have hX3 := hX.keep x3.1 fun j hj => x3.2 j (hX.dl j hj)
 simp only [WA,isStore,isCall,isK,freshI,stampO,Nat.reduceEqDiff,Int.reduceEq,Nat.reduceAdd,Nat.reduceMul,reduceCtorEq,Int.reduceLT,Int.reduceLE,Int.reduceToNat,Nat.reduceLeDiff,Int.cast_ofNat_Int,c1,c2,v_enc,hbx]
 refine ⟨H2.n,_,_,rfl,⟨H.n,m,q,t2,.slice none 0 0,0,H2,_,_,g3,hX3,hTc,fun j b hj hb he => ⟨.inr ⟨hj,b,hb,he⟩,x3.get hb⟩,.inl ⟨rfl,rfl⟩,fun j hj => absurd trivial hj,by simp,⟨⟨.inl rfl⟩,by decide,by decide,by decide,by decide⟩,fun h => by have := hX.dl _ h; omega,x2.1,fun j hj => ?_,rfl,rfl⟩,x2.trans x3,fun j hj => ?_,fun j hj hl b hb => ?_⟩
 ·rcases hj with rfl | ⟨hj,b,hb,ht⟩
  ·exact ⟨_,x3.get gm,by simp only; decide⟩
  ·exact ⟨b,x3.get hb,fun e => by rw [e] at ht; exact absurd ht (by decide)⟩
 ·rcases hj with hj | rfl
  ·have hj : j = m := hj
   subst hj
   exact ⟨by omega,_,x3.get gm,by simp only; decide⟩
  ·exact ⟨x2.1,_,g3,by simp only; decide⟩
 ·have x2n := x2.1
  rcases hj with (rfl | ⟨_,b',hb',ht⟩) | rfl
  ·omega
  ·rw [x3.get hb'] at hb
   injection hb with hb
   subst hb
   exact ht
  ·omega
theorem v_isc {H : AHeap} {e : Nat} : vBuild [.pointer none,.int .i64 0,.int .i64 0,.int .i64 0] [(0,1,.pointer (some ⟨e,0,none⟩))] H = some (.agg ⟨[.pointer (some ⟨e,0,none⟩),.int .i64 0,.int .i64 0,.int .i64 0]⟩,H) := rfl
theorem c_IEncode {H : AHeap} : Gives (cw Tryz.prog (tabF tab) om1 50 [] H) fun v H' => ∃ i C D,v = .pointer (some ⟨i,0,none⟩) ∧ WrJ (.iface 116 (.pointer (some ⟨i,0,none⟩))) 0 H' ((([],0,0),[]),0,0) C D ∧ NewM H H' C D := by
 rw [cw_run (F := F_iscii_Encode) rfl rfl rfl]
 unfold F_iscii_Encode k_iscii_Encode
 obtain ⟨v1,H1,c1,x1,q,rfl,hT⟩ := c_Iall (H := H)
 obtain ⟨v2,H2,c2,e,C0,D0,rfl,hE,x2,nc,nd⟩ := c_MEncode hT
 obtain ⟨H3,hH3⟩ : ∃ H3,H3 = H2.push ⟨[.pointer (some ⟨e,0,none⟩),.int .i64 0,.int .i64 0,.int .i64 0],148,.tip,0,[]⟩ := ⟨_,rfl⟩
 have x3 : Ext H2 H3 := by rw [hH3]; exact Ext.push H2 _
 have g3 : H3.get H2.n = some ⟨[.pointer (some ⟨e,0,none⟩),.int .i64 0,.int .i64 0,.int .i64 0],148,.tip,0,[]⟩ := by rw [hH3]; exact get_push_self
 have hbx : vBox (.agg ⟨[.pointer (some ⟨e,0,none⟩),.int .i64 0,.int .i64 0,.int .i64 0]⟩) 148 H2 = some (.pointer (some ⟨H2.n,0,none⟩),H3) := by rw [hH3]; exact v_box rfl
 simp only [WA,isStore,isCall,isK,freshI,stampO,Nat.reduceEqDiff,Int.reduceEq,Nat.reduceAdd,Nat.reduceMul,reduceCtorEq,Int.reduceLT,Int.reduceLE,Int.reduceToNat,Nat.reduceLeDiff,Int.cast_ofNat_Int,c1,c2,v_isc,hbx]
 have x1n := x1.1
 have x2n := x2.1
 refine ⟨H2.n,_,_,rfl,⟨H2.n,e,C0,D0,rfl,⟨0,g3⟩,hE.keep x3.1 fun j hj => x3.2 j (hE.lt hj),fun h => by have := hE.lt h; omega,by decide,by decide,rfl,rfl⟩,(x1.trans x2).trans x3,fun j hj => ?_,fun j hj hl b hb => ?_⟩
 ·rcases hj with hj | rfl
  ·obtain ⟨h1,b,hb,hf⟩ := nc j hj
   exact ⟨by omega,b,x3.get hb,hf⟩
  ·exact ⟨by omega,_,g3,by simp only; decide⟩
 ·rcases hj with hj | rfl
  ·rw [x3.2 j (hE.lt hj)] at hb
   exact nd j hj (by omega) b hb
  ·omega
theorem mk_J {H : AHeap} : Gives (cw Tryz.prog (tabF tab) om1 30 [.string (nm 7)] H) fun v H' => ∃ wv C D,v = .tuple ⟨[wv,.int .i64 0]⟩ ∧ one wv = true ∧ WrJ wv 0 H' ((([],0,0),[]),0,0) C D ∧ NewM H H' C D := by
 rw [cw_run (F := F_codec_Encode) rfl rfl rfl]
 unfold F_codec_Encode k_codec_Encode
 have hn := c_Name (H := H) (k := 7) (by omega)
 have e0 := e_utf 7 (by omega)
 have e7 := e_iscii 7 (by omega)
 rw [show Nat.beq 7 0 = false from rfl] at e0
 rw [show Nat.beq 7 7 = true from rfl] at e7
 obtain ⟨v1,H1,c1,i,C,D,rfl,q1,q2⟩ := c_IEncode (H := H)
 have z0 : ((0 : Int) ≠ 0) = False := by simp
 simp only [WA,isStore,isCall,isK,freshI,stampO,Nat.reduceEqDiff,Int.reduceEq,Nat.reduceAdd,Nat.reduceMul,reduceCtorEq,Int.reduceLT,Int.reduceLE,Int.reduceToNat,Nat.reduceLeDiff,Int.cast_ofNat_Int,hn,z0,st_bin gS,e0,e7,c1]
 exact ⟨_,C,D,rfl,rfl,q1,q2⟩
end Go.Proofs.YtleiinhaljdcoaaGreatDoor
