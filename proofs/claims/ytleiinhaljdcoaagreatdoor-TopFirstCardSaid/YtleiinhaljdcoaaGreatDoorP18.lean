/- What is proved here: what the program's functions come to, as far as the claimed statement asks. Conditions: those that each theorem names, and no others. -/
import Derived.Test.YtleiinhaljdcoaaGreatDoorP17
set_option linter.unusedSimpArgs false
set_option linter.unusedVariables false
namespace Go.Proofs.YtleiinhaljdcoaaGreatDoor
open Go Lon
set_option maxRecDepth 100000
theorem stampS_tuple {H : AHeap} {xs : Array Value} : stampS (.tuple xs) H = [] := rfl
theorem fl_new {H : AHeap} {z : FT} : ∃ H1,H1 = H.push ⟨[.int .i64 z.1,.int .i64 z.2.1,.int .i64 z.2.2],27,.tip,1,[]⟩ ∧ Ext H H1 ∧ H1.get H.n = some ⟨[.int .i64 z.1,.int .i64 z.2.1,.int .i64 z.2.2],27,.tip,1,[]⟩ ∧ gotStore (some ⟨[.int .i64 0,.int .i64 0,.int .i64 0],27,.tip,0,[]⟩) H.n 0 (fvF z) 3 (H.push ⟨[.int .i64 0,.int .i64 0,.int .i64 0],27,.tip,0,[]⟩) = some (.tuple ⟨[]⟩,(H.push ⟨[.int .i64 0,.int .i64 0,.int .i64 0],27,.tip,0,[]⟩).upd H.n ⟨[.int .i64 z.1,.int .i64 z.2.1,.int .i64 z.2.2],27,.tip,1,[]⟩) := ⟨_,rfl,Ext.push H _,get_push_self,fa_store'⟩
theorem law_First {x : Value} {l : List Int} {n : Int} {H : AHeap} (hx : Nums H .u8 x l) (hc : Cut Tryz.prog H x 1) (hb : ∀ u ∈ l,0 ≤ u ∧ u < 256) (ht : l.length < 4611686018427387904) (hn : 0 ≤ n ∧ n < 256) : Gives (cw Tryz.prog (tabF tab) om1 3 [.int .u8 n,x] H) fun v H' => v = .bool true := by
 rw [cw_run (F := F_lontartop_TopFirst) rfl rfl rfl]
 unfold F_lontartop_TopFirst k_lontartop_TopFirst
 have hl := fun H9 => Nums.len (H2 := H9) hx
 obtain ⟨k,hk,hk80,hmin⟩ : ∃ k : Nat,k ≤ l.length ∧ l.take k = l.take 80 ∧ (if 80 < (l.length : Int) then 80 else (l.length : Int)) = k := by
  by_cases h : l.length ≤ 80
  ·exact ⟨l.length,Nat.le_refl _,by rw [List.take_of_length_le (Nat.le_refl _),List.take_of_length_le (by omega)],by rw [if_neg (by omega)]⟩
  ·exact ⟨80,by omega,rfl,by rw [if_pos (by omega)]; rfl⟩
 obtain ⟨v1,H1,c1,x1,rfl⟩ := c_awake (H := H)
 obtain ⟨x2,s1,s2⟩ := vI_take (P := Tryz.prog) (Nums.ext x1 hx) (hc.ext x1) hk
 rw [hk80] at s2
 obtain ⟨xs,hxs⟩ : ∃ xs,l.take 80 = xs := ⟨_,rfl⟩
 rw [hxs] at s2
 have hxl : xs.length ≤ 80 := by rw [← hxs,List.length_take]; omega
 have hxb : ∀ u ∈ xs,0 ≤ u ∧ u < 256 := fun u hu => hb u (List.mem_of_mem_take (hxs ▸ hu))
 obtain ⟨K,hK⟩ : ∃ K,K = (n % 8).toNat := ⟨_,rfl⟩
 have hK8 : K < 8 := by omega
 obtain ⟨hTok,hTl⟩ := dcK_ok hK8 hxb
 obtain ⟨T,hT⟩ : ∃ T,dcK K xs = T := ⟨_,rfl⟩
 rw [hT] at hTok hTl
 obtain ⟨f,hf⟩ : ∃ f,(sF T).2 = f := ⟨_,rfl⟩
 obtain ⟨a,ha⟩ : ∃ a,(sF T).1 = a := ⟨_,rfl⟩
 obtain ⟨⟨r,hpre⟩,hside,hok,hbad⟩ := sF_pre T
 rw [ha] at hpre hok
 rw [hf] at hside hok hbad
 have g0 : gF 0 T = (a,f) := by unfold gF; rw [if_pos rfl,← ha,← hf]
 have g2 : gF 2 T = (ub (oT 2 T),(0,0,0)) := by unfold gF; rw [if_neg (by decide)]
 have g1 : gF 1 T = (ub (oT 1 T),(0,0,0)) := by unfold gF; rw [if_neg (by decide)]
 have okS2 : ∀ u ∈ oT 2 T,okS u := oT_ok fun x hx => (hTok x hx).2.2.2
 have okS1 : ∀ u ∈ oT 1 T,okS u := oT_ok fun x hx => (hTok x hx).2.2.2
 have l2 := oT_len (pol := 2) T fun x hx => (hTok x hx).2.2.1
 have l1 := oT_len (pol := 1) T fun x hx => (hTok x hx).2.2.1
 have lb2 := ub_len _ okS2
 have lb1 := ub_len _ okS1
 obtain ⟨v3,H3,c3,x3,rfl⟩ := c_nameT (H := H1) hn
 rw [← hK] at c3
 obtain ⟨v4,H4,c4,x4,_,oa,rfl,hoa,_⟩ := c_ToK (pol := 0) hK8 (by omega) (Nums.ext x3 s2) hxb (by omega)
 rw [hT,g0] at c4 hoa
 have c4 : cw Tryz.prog (tabF tab) om1 8 [.string (nm K),.string ⟨#[117,116,102,45,56]⟩,.int .i64 0,x2] H3 = some (.tuple ⟨[oa,fvF f,.int .i64 0]⟩,H4) := c4
 obtain ⟨H5,hH5,x5,g5,st5⟩ := fl_new (H := H4) (z := f)
 obtain ⟨v6,H6,c6,x6,rfl⟩ := c_nameT (H := H5) hn
 rw [← hK] at c6
 have x36 := x4.trans (x5.trans x6)
 obtain ⟨v7,H7,c7,x7,_,ob,rfl,hob,_⟩ := c_ToK (pol := 2) hK8 (by omega) (Nums.ext (x3.trans x36) s2) hxb (by omega)
 rw [hT,g2] at c7 hob
 have c7 : cw Tryz.prog (tabF tab) om1 8 [.string (nm K),.string ⟨#[117,116,102,45,56]⟩,.int .i64 2,x2] H6 = some (.tuple ⟨[ob,fvF (0,0,0),.int .i64 0]⟩,H7) := c7
 obtain ⟨H8,hH8,x8,g8,st8⟩ := fl_new (H := H7) (z := (0,0,0))
 obtain ⟨v9,H9,c9,x9,rfl⟩ := c_nameT (H := H8) hn
 rw [← hK] at c9
 have x69 := x7.trans (x8.trans x9)
 obtain ⟨v10,H10,c10,x10,_,oc,rfl,hoc,_⟩ := c_ToK (pol := 1) hK8 (by omega) (Nums.ext (x3.trans (x36.trans x69)) s2) hxb (by omega)
 rw [hT,g1] at c10 hoc
 have c10 : cw Tryz.prog (tabF tab) om1 8 [.string (nm K),.string ⟨#[117,116,102,45,56]⟩,.int .i64 1,x2] H9 = some (.tuple ⟨[oc,fvF (0,0,0),.int .i64 0]⟩,H10) := c10
 obtain ⟨H11,hH11,x11,g11,st11⟩ := fl_new (H := H10) (z := (0,0,0))
 have hoc11 := Own.ext x11 hoc
 obtain ⟨w12,H12,c12,x12,t12⟩ := c_UAll okS1 hoc11.sl (Own.cut hoc11 (by kernel_rfl)) (by omega) (by omega)
 have hl12 := fun H9 => Rws.len (H2 := H9) t12.rws
 have hul : (uaT (oT 1 T) 0).length = (oT 1 T).length := uaT_len _ _
 rw [hul] at hl12
 obtain ⟨y,e',H13,r1,rfl,p,hd,fd,x13⟩ := l_F0 (v1 := x2) (v5 := oa) (v6 := .pointer (some ⟨H4.n,0,none⟩)) (v8 := ob) (v9 := .pointer (some ⟨H7.n,0,none⟩)) (v11 := oc) (v12 := .pointer (some ⟨H10.n,0,none⟩)) okS1 (by omega) t12 (oT 1 T).length 0 H12 (.slice none 0 0) (by omega) (Ext.refl H12) (by rw [List.take_zero]; exact ⟨rfl,.inl ⟨rfl,rfl⟩⟩) trivial
 rw [show ((0 : Nat) : Int) = 0 from rfl] at r1
 have p1 := p (1,x2) (by simp)
 have p5 := p (5,oa) (by simp)
 have p6 := p (6,.pointer (some ⟨H4.n,0,none⟩)) (by simp)
 have p8 := p (8,ob) (by simp)
 have p9 := p (9,.pointer (some ⟨H7.n,0,none⟩)) (by simp)
 have p11 := p (11,oc) (by simp)
 have p12 := p (12,.pointer (some ⟨H10.n,0,none⟩)) (by simp)
 simp only at p1 p5 p6 p8 p9 p11 p12
 clear p
 obtain ⟨d,hd'⟩ : ∃ d,eget e' 14 = d := ⟨_,rfl⟩
 rw [hd'] at hd fd
 have x1113 := x12.trans x13
 have x813 := x9.trans (x10.trans (x11.trans x1113))
 have x513 := x6.trans (x7.trans (x8.trans x813))
 have q5 := x513.get g5
 have q8 := x813.get g8
 have q11 := x1113.get g11
 have na : Nums H13 .u8 oa a := Nums.ext (x5.trans x513) hoa.sl
 have nb' := Own.ext (x8.trans x813) hob
 have nc : Nums H13 .u8 oc (ub (oT 1 T)) := Nums.ext (x11.trans x1113) hoc.sl
 have nd : Nums H13 .u8 d (ub (nb (oT 1 T))) := hd.sl
 have la := fun H9 => Nums.len (H2 := H9) hoa.sl
 have lb := fun H9 => Nums.len (H2 := H9) hob.sl
 have hal : a.length ≤ (ub (oT 2 T)).length := by rw [hpre,List.length_append]; omega
 obtain ⟨b2,sb,nb2⟩ := vI_take (P := Tryz.prog) nb'.sl (Own.cut nb' (by kernel_rfl)) hal
 have hbt : (ub (oT 2 T)).take a.length = a := by rw [hpre,List.take_left]
 rw [hbt] at nb2
 obtain ⟨sa,hsa⟩ := txt_any a ByteArray.empty
 have ta := txt_num na hsa
 have tb2 := txt_num nb2 hsa
 have zg : ((a.length : Int) > ((ub (oT 2 T)).length : Nat)) = False := eq_false (by omega)
 have z0 : ((0 : Int) ≠ 0) = False := by simp
 have zs : (f.1 = 2) = False := eq_false (by omega)
 by_cases hf0 : f.2.2 = 0
 ·obtain ⟨h1,h2⟩ := hok hf0
  have zf : (f.2.2 = 0) = True := eq_true hf0
  have tb : vText ob H13 = some (.string sa,H13) := txt_num nb'.sl (by rw [← h1]; exact hsa)
  have tc : vText oc H13 = some (.string sa,H13) := txt_num nc (by rw [h2,← h1]; exact hsa)
  simp only [WA,isStore,isCall,isK,freshI,stampO,Nat.reduceEqDiff,Int.reduceEq,Nat.reduceAdd,Nat.reduceMul,reduceCtorEq,Int.reduceLT,Int.reduceLE,Int.reduceToNat,Nat.reduceLeDiff,Int.cast_ofNat_Int,c1,hl,hmin,s1,c3,c4,st5,← hH5,c6,c7,st8,← hH8,c9,c10,st11,← hH11,c12,hl12]
  rw [w_enter]
  simp only [WA,isStore,isCall,isK,freshI,stampO,Nat.reduceEqDiff,Int.reduceEq,Nat.reduceAdd,Nat.reduceMul,reduceCtorEq,Int.reduceLT,Int.reduceLE,Int.reduceToNat,Nat.reduceLeDiff,Int.cast_ofNat_Int,r1,p1,p5,p6,p8,p9,p11,p12,hd',q8,q11,z0,la,lb,zg,st_b2s,ta,sb,tb2,st_bin2,s_neq,q5,zs,still_s,still_s0,stampS_tuple,zf,tb,tc,s_eql]
 ·obtain ⟨⟨t,htm,hat⟩,hm⟩ := hbad hf0
  have zf : (f.2.2 = 0) = False := eq_false hf0
  obtain ⟨w14,H14,c14,x14,t14⟩ := c_UAll okS2 nb'.sl (Own.cut nb' (by kernel_rfl)) (by omega) (by omega)
  have hl14 := fun H9 => Rws.len (H2 := H9) t14.rws
  have hul2 : (uaT (oT 2 T) 0).length = (oT 2 T).length := uaT_len _ _
  rw [hul2] at hl14
  obtain ⟨y,e2,H15,r2,rfl,p',hbd,fbd,x15⟩ := l_F1 (v1 := x2) (v6 := .pointer (some ⟨H4.n,0,none⟩)) (v11 := oc) (v14 := d) okS2 (by omega) t14 (oT 2 T).length 0 H14 (.slice none 0 0) (by omega) (Ext.refl H14) (by rw [List.take_zero]; exact ⟨rfl,.inl ⟨rfl,rfl⟩⟩) trivial
  rw [show ((0 : Nat) : Int) = 0 from rfl] at r2
  have u1 := p' (1,x2) (by simp)
  have u6 := p' (6,.pointer (some ⟨H4.n,0,none⟩)) (by simp)
  have u11 := p' (11,oc) (by simp)
  have u14 := p' (14,d) (by simp)
  simp only at u1 u6 u11 u14
  clear p'
  obtain ⟨bd,hbd'⟩ : ∃ bd,eget e2 17 = bd := ⟨_,rfl⟩
  rw [hbd'] at hbd fbd
  have x1315 := x14.trans x15
  have q15 := x1315.get q5
  rw [nb_oT] at nd hd
  obtain ⟨sd,hsd⟩ := txt_any (ub (nb (oT 2 T))) ByteArray.empty
  have td : vText d H15 = some (.string sd,H15) := txt_num (Nums.ext x1315 nd) hsd
  have tbd : vText bd H15 = some (.string sd,H15) := txt_num hbd.sl hsd
  have lx := fun H9 => Nums.len (H2 := H9) s2
  have lc := fun H9 => Nums.len (H2 := H9) hoc.sl
  have ld := fun H9 => Nums.len (H2 := H9) hd.sl
  have zl : (f.2.1 < (xs.length : Nat)) = True := eq_true (by rw [hat]; exact (hTok t htm).2.1)
  have hlen := (nb_len (oT 1 T)).2 hm
  rw [nb_oT] at hlen
  have zc : (((ub (oT 1 T)).length : Int) > ((ub (nb (oT 2 T))).length : Nat)) = True := eq_true (by omega)
  simp only [WA,isStore,isCall,isK,freshI,stampO,Nat.reduceEqDiff,Int.reduceEq,Nat.reduceAdd,Nat.reduceMul,reduceCtorEq,Int.reduceLT,Int.reduceLE,Int.reduceToNat,Nat.reduceLeDiff,Int.cast_ofNat_Int,c1,hl,hmin,s1,c3,c4,st5,← hH5,c6,c7,st8,← hH8,c9,c10,st11,← hH11,c12,hl12]
  rw [w_enter]
  simp only [WA,isStore,isCall,isK,freshI,stampO,Nat.reduceEqDiff,Int.reduceEq,Nat.reduceAdd,Nat.reduceMul,reduceCtorEq,Int.reduceLT,Int.reduceLE,Int.reduceToNat,Nat.reduceLeDiff,Int.cast_ofNat_Int,r1,p1,p5,p6,p8,p9,p11,p12,hd',q8,q11,z0,la,lb,zg,st_b2s,ta,sb,tb2,st_bin2,s_neq,q5,zs,still_s,still_s0,stampS_tuple,zf,c14,hl14]
  rw [w_enter]
  simp only [WA,isStore,isCall,isK,freshI,stampO,Nat.reduceEqDiff,Int.reduceEq,Nat.reduceAdd,Nat.reduceMul,reduceCtorEq,Int.reduceLT,Int.reduceLE,Int.reduceToNat,Nat.reduceLeDiff,Int.cast_ofNat_Int,p1,p6,p11,hd',r2,u1,u6,u11,u14,hbd',td,tbd,st_b2s,st_bin2,s_eql,q15,lx,zl,lc,ld,zc]
def bytes (l : List Int) : Prop := ∀ u ∈ l,0 ≤ u ∧ u < 256
theorem op_u8s : Opener Tryz.prog 22 1 (List Int) (qSlice Tryz.prog 1 1 (qInt .u8)) := Opener.slice (Opener.int Tryz.underlying5) (qInt_mono _) Tryz.underlying22 (by kernel_rfl) (by kernel_rfl) (by decide) (by kernel_rfl)
abbrev qU8 : AHeap → List Value → List Int → Prop := qSlice Tryz.prog 1 1 (qInt .u8)
theorem bytes_of {L : List Int} (h : ∀ n ∈ L,(Lit.int .u8 n).wf = true) : bytes L := fun u hu => by
 have := h u hu
 simp [Lit.wf,IntKind.min,IntKind.max,IntKind.signed,IntKind.bits] at this
 omega
theorem reach_lt {n b : Nat} (h : n * b ≤ reachBytes) (hb : 0 < b) : n < 4611686018427387904 := by
 have h1 : n ≤ n * b := Nat.le_mul_of_pos_right _ hb
 unfold reachBytes at h
 omega
def U8s (H : AHeap) (v : Value) (L : List Int) : Prop := Nums H .u8 v L ∧ Cut Tryz.prog H v 1 ∧ bytes L ∧ tiny L
theorem u8s_of {H : AHeap} {acs : List Value} {L : List Int} (h : qU8 H acs L) : ∃ v,acs = [v] ∧ U8s H v L := by
 obtain ⟨v,h1,h2,h3,h4,h5⟩ := qSlice_nums h
 exact ⟨v,h1,h2,h3,bytes_of h5,reach_lt h4 (by decide)⟩
theorem slice_cells {W : World} {b : Nat} {t e : TypeId} {v : Value} (ht : Tryz.prog.underlying t = some (.slice e)) (hv : Value.okWide Tryz.prog W .any b t v) : v.cells.toList = [v] := by
 unfold Value.okWide at hv
 rw [ht] at hv
 simp only at hv
 unfold Cell.okWide at hv
 rw [ht] at hv
 cases v <;> first | rfl | (simp [Cell.ok,ht] at hv)
theorem law_FirstU {x : Value} {l : List Int} {n : Int} {H : AHeap} (hx : U8s H x l) (hn : 0 ≤ n ∧ n < 256) : Gives (cw Tryz.prog (tabF tab) om1 3 [.int .u8 n,x] H) fun v H' => v = .bool true := law_First hx.1 hx.2.1 hx.2.2.1 hx.2.2.2 hn
end Go.Proofs.YtleiinhaljdcoaaGreatDoor
