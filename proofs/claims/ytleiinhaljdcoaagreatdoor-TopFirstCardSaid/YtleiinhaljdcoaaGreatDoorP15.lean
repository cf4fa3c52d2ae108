/- What is proved here: what the program's functions come to, as far as the claimed statement asks. Conditions: those that each theorem names, and no others. -/
import Derived.Test.YtleiinhaljdcoaaGreatDoorP14
set_option linter.unusedSimpArgs false
set_option linter.unusedVariables false
namespace Go.Proofs.YtleiinhaljdcoaaGreatDoor
open Go Lon
set_option maxRecDepth 100000
theorem uaT_at : ∀ (us : List Int) (a : Int) (k : Nat) (u : Int),us[k]? = some u → ∃ b n,(uaT us a)[k]? = some ⟨b,n,[u],0⟩
 | [],a,k,u,h => by simp at h
 | v :: us,a,0,u,h => by
  simp only [List.getElem?_cons_zero,Option.some.injEq] at h
  subst h
  exact ⟨_,_,rfl⟩
 | v :: us,a,k + 1,u,h => by
  unfold uaT
  rw [List.getElem?_cons_succ] at h ⊢
  exact uaT_at us _ k u h
theorem nb_take {us : List Int} {k : Nat} {u : Int} (h : us[k]? = some u) : nb (us.take (k + 1)) = nb (us.take k) ++ if u ≠ 65533 then [u] else [] := by
 rw [List.take_add_one,h,nb_app]
 congr 1
 by_cases hu : u = 65533
 ·subst hu; rfl
 ·rw [if_pos hu]
  unfold nb
  show List.filter _ [u] = [u]
  rw [List.filter_cons_of_pos (by simp [hu])]
  rfl
theorem nb_take_len {us : List Int} {k : Nat} (h : ∀ u ∈ us,okS u) : (ub (nb (us.take k))).length ≤ 4 * us.length := by
 have h1 := ub_len (nb (us.take k)) fun u hu => h u (List.mem_of_mem_take (List.mem_filter.1 hu).1)
 have h2 : (nb (us.take k)).length ≤ us.length := Nat.le_trans (List.length_filter_le ..) (by rw [List.length_take]; omega)
 omega
section
variable {H0 : AHeap} {w : Value} {us : List Int}
def PF (s : Nat) (ks : List (Nat × Value)) (x : Nat) (H0 : AHeap) (l : List Int) (y : AEx) (e' : Env) (H' : AHeap) : Prop := y = .exit x ∧ (∀ p ∈ ks,eget e' p.1 = p.2) ∧ OwnB H' (eget e' s) l ∧ From H0.n (eget e' s) ∧ Ext H0 H'
theorem l_F0 {v1 v5 v6 v8 v9 v11 v12 : Value} (hu : ∀ u ∈ us,okS u) (hl : us.length < 1000000) (ht : OwnToks Tryz.prog H0 36 w (uaT us 0)) : ∀ (c k : Nat) (H : AHeap) (d : Value),k + c = us.length → Ext H0 H → OwnB H d (ub (nb (us.take k))) → From H0.n d →
  Out (run Tryz.prog (tabF tab) om1 (.loop [1,5,6,8,9,11,12,14,52,53,54] b_lontartop_TopFirst_0) [(1,v1),(5,v5),(6,v6),(8,v8),(9,v9),(11,v11),(12,v12),(14,d),(52,w),(53,.int .i64 us.length),(54,.int .i64 k)] H) (PF 14 [(1,v1),(5,v5),(6,v6),(8,v8),(9,v9),(11,v11),(12,v12)] 0 H0 (ub (nb us))) := by
 intro c
 induction c with
 | zero =>
  intro k H d hk hx hd hf
  obtain rfl : k = us.length := by omega
  have zz : (((us.length : Nat) : Int) < (us.length : Nat)) = False := by simp
  rw [List.take_of_length_le (Nat.le_refl _)] at hd
  rw [w_loop_b b_lontartop_TopFirst_0.eq_1]
  simp only [WA,isStore,isCall,isK,freshI,stampO,Nat.reduceEqDiff,Int.reduceEq,Nat.reduceAdd,Nat.reduceMul,reduceCtorEq,Int.reduceLT,Int.reduceLE,Int.reduceToNat,Nat.reduceLeDiff,Int.cast_ofNat_Int,zz]
  refine ⟨rfl,fun p hp => ?_,hd,hf,hx⟩
  simp only [List.mem_cons,List.not_mem_nil,or_false] at hp
  rcases hp with rfl | rfl | rfl | rfl | rfl | rfl | rfl <;> rfl
 | succ c ih =>
  intro k H d hk hx hd hf
  have hlt : ((k : Int) < (us.length : Nat)) = True := eq_true (by omega)
  obtain ⟨u,hu',_⟩ := drop_at (L := us) (i := k) (by omega)
  have hou := hu u (List.mem_of_getElem? hu')
  obtain ⟨b,n,hT⟩ := uaT_at us 0 k u hu'
  obtain ⟨i,o,px,cx,a1,_,_,_,_,a6,a7,a8,a9⟩ := Toks.at' (ht.ext tokQ_mono hx).rws hT
  have a7 : Ints H (.slice px 1 cx) [u] := a7
  obtain ⟨H1,hH1⟩ : ∃ H1,H1 = H.push ⟨tokC px cx ⟨b,n,[u],0⟩,36,.tip,1,[]⟩ := ⟨_,rfl⟩
  have x1 : Ext H H1 := by rw [hH1]; exact Ext.push H _
  have g1 : H1.get H.n = some ⟨tokC px cx ⟨b,n,[u],0⟩,36,.tip,1,[]⟩ := by rw [hH1]; exact get_push_self
  obtain ⟨i1,o1,b1,b2⟩ := (a7.ext x1).at (k := 0) (x := u) rfl
  rw [show ((0 : Nat) : Int) = 0 from rfl] at b1
  have hw2 : IntKind.i64.wrap ((k : Int) + 1) = ((k + 1 : Nat) : Int) := by rw [wrap64 (by omega) (by omega)]; omega
  have ze : ((0 : Int) ≠ 0) = False := by simp
  have z1 : ((1 : Int) ≠ 1) = False := by simp
  have hlen : ((([u] : List Int).length : Nat) : Int) = 1 := rfl
  by_cases hb : u = 65533
  ·have zb : (u ≠ 65533) = False := eq_false (fun h => h hb)
   have hn := nb_take hu'
   rw [if_neg (fun h => h hb),List.append_nil] at hn
   obtain ⟨y,e',H',r1,r2⟩ := ih (k + 1) H1 d (by omega) (hx.trans x1) (by rw [hn]; exact Own.ext x1 hd) hf
   rw [w_loop_b b_lontartop_TopFirst_0.eq_1]
   simp only [WA,isStore,isCall,isK,freshI,stampO,Nat.reduceEqDiff,Int.reduceEq,Nat.reduceAdd,Nat.reduceMul,reduceCtorEq,Int.reduceLT,Int.reduceLE,Int.reduceToNat,Nat.reduceLeDiff,Int.cast_ofNat_Int,hlt,a1,a6,got_tok,← hH1,g1,tk2,tk3,ze,z1,hlen,b1,b2,zb,hw2]
   rw [w_enter]
   simp only [WA,isStore,isCall,isK,freshI,stampO,Nat.reduceEqDiff,Int.reduceEq,Nat.reduceAdd,Nat.reduceMul,reduceCtorEq,Int.reduceLT,Int.reduceLE,Int.reduceToNat,Nat.reduceLeDiff,Int.cast_ofNat_Int,r1]
   exact r2
  ·have zb : (u ≠ 65533) = True := eq_true hb
   have hn := nb_take hu'
   rw [if_pos hb] at hn
   have hnl := nb_take_len (k := k) hu
   obtain ⟨d2,H2,c2,q1,q2,q3,q4⟩ := c_PutB hou (Own.ext x1 hd) (by omega)
   have x1n := x1.1
   have hxn := hx.1
   have hd2 : OwnB H2 d2 (ub (nb (us.take (k + 1)))) := by
    rw [hn,ub_app,show ub [u] = utfB u by unfold ub; simp]
    exact q1
   obtain ⟨y,e',H',r1,r2⟩ := ih (k + 1) H2 d2 (by omega) ⟨by omega,fun j hj => by rw [q4 j (by omega) (NotAt.of_from hf hj),x1.2 j (by omega),hx.2 j hj]⟩ hd2 (q2.mono (by omega))
   rw [w_loop_b b_lontartop_TopFirst_0.eq_1]
   simp only [WA,isStore,isCall,isK,freshI,stampO,Nat.reduceEqDiff,Int.reduceEq,Nat.reduceAdd,Nat.reduceMul,reduceCtorEq,Int.reduceLT,Int.reduceLE,Int.reduceToNat,Nat.reduceLeDiff,Int.cast_ofNat_Int,hlt,a1,a6,got_tok,← hH1,g1,tk2,tk3,ze,z1,hlen,b1,b2,zb,c2,hw2]
   rw [w_enter]
   simp only [WA,isStore,isCall,isK,freshI,stampO,Nat.reduceEqDiff,Int.reduceEq,Nat.reduceAdd,Nat.reduceMul,reduceCtorEq,Int.reduceLT,Int.reduceLE,Int.reduceToNat,Nat.reduceLeDiff,Int.cast_ofNat_Int,r1]
   exact r2
theorem l_F1 {v1 v6 v11 v14 : Value} (hu : ∀ u ∈ us,okS u) (hl : us.length < 1000000) (ht : OwnToks Tryz.prog H0 36 w (uaT us 0)) : ∀ (c k : Nat) (H : AHeap) (d : Value),k + c = us.length → Ext H0 H → OwnB H d (ub (nb (us.take k))) → From H0.n d →
  Out (run Tryz.prog (tabF tab) om1 (.loop [1,6,11,14,17,125,126,127] b_lontartop_TopFirst_1) [(1,v1),(6,v6),(11,v11),(14,v14),(17,d),(125,w),(126,.int .i64 us.length),(127,.int .i64 k)] H) (PF 17 [(1,v1),(6,v6),(11,v11),(14,v14)] 2 H0 (ub (nb us))) := by
 intro c
 induction c with
 | zero =>
  intro k H d hk hx hd hf
  obtain rfl : k = us.length := by omega
  have zz : (((us.length : Nat) : Int) < (us.length : Nat)) = False := by simp
  rw [List.take_of_length_le (Nat.le_refl _)] at hd
  rw [w_loop_b b_lontartop_TopFirst_1.eq_1]
  simp only [WA,isStore,isCall,isK,freshI,stampO,Nat.reduceEqDiff,Int.reduceEq,Nat.reduceAdd,Nat.reduceMul,reduceCtorEq,Int.reduceLT,Int.reduceLE,Int.reduceToNat,Nat.reduceLeDiff,Int.cast_ofNat_Int,zz]
  refine ⟨rfl,fun p hp => ?_,hd,hf,hx⟩
  simp only [List.mem_cons,List.not_mem_nil,or_false] at hp
  rcases hp with rfl | rfl | rfl | rfl <;> rfl
 | succ c ih =>
  intro k H d hk hx hd hf
  have hlt : ((k : Int) < (us.length : Nat)) = True := eq_true (by omega)
  obtain ⟨u,hu',_⟩ := drop_at (L := us) (i := k) (by omega)
  have hou := hu u (List.mem_of_getElem? hu')
  obtain ⟨b,n,hT⟩ := uaT_at us 0 k u hu'
  obtain ⟨i,o,px,cx,a1,_,_,_,_,a6,a7,a8,a9⟩ := Toks.at' (ht.ext tokQ_mono hx).rws hT
  have a7 : Ints H (.slice px 1 cx) [u] := a7
  obtain ⟨H1,hH1⟩ : ∃ H1,H1 = H.push ⟨tokC px cx ⟨b,n,[u],0⟩,36,.tip,1,[]⟩ := ⟨_,rfl⟩
  have x1 : Ext H H1 := by rw [hH1]; exact Ext.push H _
  have g1 : H1.get H.n = some ⟨tokC px cx ⟨b,n,[u],0⟩,36,.tip,1,[]⟩ := by rw [hH1]; exact get_push_self
  obtain ⟨i1,o1,b1,b2⟩ := (a7.ext x1).at (k := 0) (x := u) rfl
  rw [show ((0 : Nat) : Int) = 0 from rfl] at b1
  have hw2 : IntKind.i64.wrap ((k : Int) + 1) = ((k + 1 : Nat) : Int) := by rw [wrap64 (by omega) (by omega)]; omega
  have z1 : ((1 : Int) = 1) = True := by simp
  have hlen : ((([u] : List Int).length : Nat) : Int) = 1 := rfl
  by_cases hb : u = 65533
  ·have zb : (u ≠ 65533) = False := eq_false (fun h => h hb)
   have hn := nb_take hu'
   rw [if_neg (fun h => h hb),List.append_nil] at hn
   obtain ⟨y,e',H',r1,r2⟩ := ih (k + 1) H1 d (by omega) (hx.trans x1) (by rw [hn]; exact Own.ext x1 hd) hf
   rw [w_loop_b b_lontartop_TopFirst_1.eq_1]
   simp only [WA,isStore,isCall,isK,freshI,stampO,Nat.reduceEqDiff,Int.reduceEq,Nat.reduceAdd,Nat.reduceMul,reduceCtorEq,Int.reduceLT,Int.reduceLE,Int.reduceToNat,Nat.reduceLeDiff,Int.cast_ofNat_Int,hlt,a1,a6,got_tok,← hH1,g1,tk2,z1,hlen,b1,b2,zb,hw2]
   rw [w_enter]
   simp only [WA,isStore,isCall,isK,freshI,stampO,Nat.reduceEqDiff,Int.reduceEq,Nat.reduceAdd,Nat.reduceMul,reduceCtorEq,Int.reduceLT,Int.reduceLE,Int.reduceToNat,Nat.reduceLeDiff,Int.cast_ofNat_Int,r1]
   exact r2
  ·have zb : (u ≠ 65533) = True := eq_true hb
   have hn := nb_take hu'
   rw [if_pos hb] at hn
   have hnl := nb_take_len (k := k) hu
   obtain ⟨d2,H2,c2,q1,q2,q3,q4⟩ := c_PutB hou (Own.ext x1 hd) (by omega)
   have x1n := x1.1
   have hxn := hx.1
   have hd2 : OwnB H2 d2 (ub (nb (us.take (k + 1)))) := by
    rw [hn,ub_app,show ub [u] = utfB u by unfold ub; simp]
    exact q1
   obtain ⟨y,e',H',r1,r2⟩ := ih (k + 1) H2 d2 (by omega) ⟨by omega,fun j hj => by rw [q4 j (by omega) (NotAt.of_from hf hj),x1.2 j (by omega),hx.2 j hj]⟩ hd2 (q2.mono (by omega))
   rw [w_loop_b b_lontartop_TopFirst_1.eq_1]
   simp only [WA,isStore,isCall,isK,freshI,stampO,Nat.reduceEqDiff,Int.reduceEq,Nat.reduceAdd,Nat.reduceMul,reduceCtorEq,Int.reduceLT,Int.reduceLE,Int.reduceToNat,Nat.reduceLeDiff,Int.cast_ofNat_Int,hlt,a1,a6,got_tok,← hH1,g1,tk2,z1,hlen,b1,b2,zb,c2,hw2]
   rw [w_enter]
   simp only [WA,isStore,isCall,isK,freshI,stampO,Nat.reduceEqDiff,Int.reduceEq,Nat.reduceAdd,Nat.reduceMul,reduceCtorEq,Int.reduceLT,Int.reduceLE,Int.reduceToNat,Nat.reduceLeDiff,Int.cast_ofNat_Int,r1]
   exact r2
end
end Go.Proofs.YtleiinhaljdcoaaGreatDoor
