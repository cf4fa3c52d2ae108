/- What is proved here: what the program's functions come to, as far as the claimed statement asks. Conditions: those that each theorem names, and no others. -/
import Derived.Test.YtleiinhaljdcoaaGreatDoorP12
set_option linter.unusedSimpArgs false
set_option linter.unusedVariables false
namespace Go.Proofs.YtleiinhaljdcoaaGreatDoor
open Go Lon
set_option maxRecDepth 100000
theorem Cut.sh {H H0 : AHeap} {v : Value} {el : TypeId} {sz : Nat} (h : cutB H0 v el = true) (hs : (Tryz.prog.info? el).map (·.size) = some sz) : Cut Tryz.prog (joinH H H0) (shV H.n v) sz := by
 unfold cutB at h
 split at h
 ·rename_i i o n c
  split at h
  ·rename_i b hb
   refine ⟨shB H.n b, joinH_get hb, ?_⟩
   show (Tryz.prog.info? b.elem).map (·.size) = some sz
   rw [Nat.eq_of_beq_eq_true h]; exact hs
  ·cases h
 ·cases h
theorem laid_gives {r : Option (Value × AHeap)} {R : List Rl} (h : chkR r R = true) (H : AHeap) : ∃ v H', laidO r H = some (v, H') ∧ GivesR H R v H' := by
 unfold chkR at h
 split at h
 case h_2 => cases h
 rename_i v H0
 simp only [Bool.and_eq_true] at h
 obtain ⟨⟨⟨h1, h2⟩, h3⟩, h4⟩ := h
 refine ⟨_, _, by unfold laidO; simp only; rw [if_pos h1], joinH_ext H H0, (rulesB_spec h2).sh, Cut.sh h3 (by kernel_rfl), ?_⟩
 unfold cutsB at h4
 rw [kCells_eq] at h4
 split at h4
 case h_2 => cases h4
 rename_i cs hcs
 obtain ⟨_, cs', hs, _⟩ := rulesB_spec h2
 obtain rfl : cs' = cs := Option.some.inj (hs.2.symm.trans hcs)
 refine ⟨_, _, Sl.sh hs, fun x hx => ?_⟩
 obtain ⟨y, hy, rfl⟩ := List.mem_map.1 hx
 exact Cut.sh (List.all_eq_true.1 h4 y hy) (by kernel_rfl)
theorem c_rulesO {k : Nat} {R : List Rl} {H : AHeap} (h2 : (nm k).data.toList ≠ (nm 2).data.toList) (h : chkR (runR (nm k)) R = true) : Gives (cw Tryz.prog (tabF tab) om1 39 [.string (nm k)] H) (GivesR H R) := by
 obtain ⟨v, H', h1, r1⟩ := laid_gives h H
 refine ⟨v, H', cw_omega ?_, r1⟩
 unfold om1
 simp only
 rw [if_neg h2]
 exact h1
theorem c_rules1 {H : AHeap} : Gives (cw Tryz.prog (tabF tab) om1 39 [.string (nm 1)] H) (GivesR H ascR) := c_rulesO (by decide) k_rul1
theorem c_rules3 {H : AHeap} : Gives (cw Tryz.prog (tabF tab) om1 39 [.string (nm 3)] H) (GivesR H Rtcvn) := c_rulesO (by decide) k_rul3
theorem c_rules4 {H : AHeap} : Gives (cw Tryz.prog (tabF tab) om1 39 [.string (nm 4)] H) (GivesR H Rvni) := c_rulesO (by decide) k_rul4
theorem c_rules5 {H : AHeap} : Gives (cw Tryz.prog (tabF tab) om1 39 [.string (nm 5)] H) (GivesR H Rtis) := c_rulesO (by decide) k_rul5
theorem c_rules6 {H : AHeap} : Gives (cw Tryz.prog (tabF tab) om1 39 [.string (nm 6)] H) (GivesR H Rtam) := c_rulesO (by decide) k_rul6
theorem c_IRules {H : AHeap} : Gives (cw Tryz.prog (tabF tab) om1 101 [] H) (GivesR H Rind) := by
 obtain ⟨v, H', h1, r1⟩ := laid_gives k_rul7 H
 exact ⟨v, H', cw_omega (by unfold om1; exact h1), r1⟩
def key : List Int → Nat
 | [] => 0
 | u :: l => u.toNat + 1 + 2000000 * key l
def noneB (k : Nat) : List Nat → Bool
 | [] => true
 | a :: l => cond (Nat.beq a k) false (noneB k l)
def distB : List Nat → Bool
 | [] => true
 | a :: l => cond (noneB a l) (distB l) false
theorem noneB_spec {k : Nat} : ∀ {l : List Nat}, noneB k l = true → k ∉ l
 | [], _, h => by cases h
 | a :: l, h, hm => by
  unfold noneB at h
  cases hb : Nat.beq a k with
  | true => rw [hb] at h; cases h
  | false =>
   rw [hb] at h
   rcases List.mem_cons.1 hm with e | hm
   ·subst e; rw [Nat.beq_refl] at hb; cases hb
   ·exact noneB_spec h hm
theorem distB_spec : ∀ {l : List Nat}, distB l = true → l.Nodup
 | [], _ => List.nodup_nil
 | a :: l, h => by
  unfold distB at h
  cases hb : noneB a l with
  | true => rw [hb] at h; exact List.nodup_cons.2 ⟨noneB_spec hb, distB_spec h⟩
  | false => rw [hb] at h; cases h
theorem nodup_of {α : Type} {f : α → Nat} {l : List α} (h : (l.map f).Nodup) : l.Nodup := List.Pairwise.of_map f (fun a b hne e => hne (congrArg f e)) h
theorem pair_good {L : List Rl} (hs : L.all (fun r => sideB r.1 && sideB r.2) = true) (hd : (L.map (·.1)).Nodup) : Right L := by
 refine ⟨fun r hr => by simpa using List.all_eq_true.1 hs r hr, fun k r hr => ?_⟩
 rw [fnd_neg]
 intro x hx e
 obtain ⟨i, hi, rfl⟩ := List.getElem_of_mem hx
 obtain ⟨hk, rfl⟩ := List.getElem?_eq_some_iff.1 hr
 rw [List.length_take] at hi
 rw [List.getElem_take] at e
 have := (List.pairwise_iff_getElem.1 hd) i k (by rw [List.length_map]; omega) (by rw [List.length_map]; exact hk) (by omega)
 rw [List.getElem_map, List.getElem_map] at this
 exact this e
theorem trn_all : ∀ {L T : List Rl}, ((T.map (·.1)) ++ L.map (·.2)).Nodup → trn L T = T ++ L.map fun r => (r.2, r.1)
 | [], T, _ => by simp [trn]
 | r :: L, T, h => by
  unfold trn
  have hn : fnd T r.2 < 0 := by
   rw [fnd_neg]
   intro x hx e
   rw [List.map_cons] at h
   have := (List.nodup_append.1 h).2.2 x.1 (List.mem_map.2 ⟨x, hx, rfl⟩) r.2 (List.mem_cons_self ..)
   exact this e
  rw [if_pos hn, trn_all (by rw [List.map_append, List.map_singleton, List.append_assoc]; simpa using h)]
  simp
theorem ascR_right : Right ascR := pair_good (by kernel_rfl) (nodup_of (f := key) (distB_spec (by kernel_rfl)))
theorem ascR_len : Nat.ble ascR.length 512 = true := by kernel_rfl
theorem Rtcvn_right : Right Rtcvn := pair_good (by kernel_rfl) (nodup_of (f := key) (distB_spec (by kernel_rfl)))
theorem Rtcvn_len : Nat.ble Rtcvn.length 512 = true := by kernel_rfl
theorem Rvni_right : Right Rvni := pair_good (by kernel_rfl) (nodup_of (f := key) (distB_spec (by kernel_rfl)))
theorem Rvni_len : Nat.ble Rvni.length 512 = true := by kernel_rfl
theorem Rtis_right : Right Rtis := pair_good (by kernel_rfl) (nodup_of (f := key) (distB_spec (by kernel_rfl)))
theorem Rtis_len : Nat.ble Rtis.length 512 = true := by kernel_rfl
theorem Rtam_right : Right Rtam := pair_good (by kernel_rfl) (nodup_of (f := key) (distB_spec (by kernel_rfl)))
theorem Rtam_len : Nat.ble Rtam.length 512 = true := by kernel_rfl
theorem Rind_right : Right Rind := pair_good (by kernel_rfl) (nodup_of (f := key) (distB_spec (by kernel_rfl)))
theorem Rind_len : Nat.ble Rind.length 512 = true := by kernel_rfl
theorem ascR_cls : clsF ascR ascR = true := cls_single fun r hr => by simpa using List.all_eq_true.1 (show (ascR.all fun r => decide (r.1.length = 1)) = true by kernel_rfl) r hr
theorem Rtcvn_cls : clsF Rtcvn Rtcvn = true := cls_single fun r hr => by simpa using List.all_eq_true.1 (show (Rtcvn.all fun r => decide (r.1.length = 1)) = true by kernel_rfl) r hr
theorem Rtis_cls : clsF Rtis Rtis = true := cls_single fun r hr => by simpa using List.all_eq_true.1 (show (Rtis.all fun r => decide (r.1.length = 1)) = true by kernel_rfl) r hr
theorem Rvni_cls : clsF Rvni Rvni = true := by kernel_rfl
theorem Rtam_cls : clsF Rtam Rtam = true := by kernel_rfl
theorem Rind_cls : clsF Rind Rind = true := by kernel_rfl
theorem Rind_trn : trn Rind [] = Rind.map fun r => (r.2, r.1) := by
 have := trn_all (L := Rind) (T := []) (by simpa using (nodup_of (f := key) (distB_spec (by kernel_rfl)) : (Rind.map (·.2)).Nodup))
 rwa [List.nil_append] at this
theorem c_Iall {H : AHeap} : Gives (cw Tryz.prog (tabF tab) om1 71 [] H) fun v H' => Ext H H' ∧ ∃ q, v = .pointer (some ⟨q, 0, none⟩) ∧ TableOk H' q Rind := by
 rw [cw_run (F := F_iscii_all) rfl rfl rfl]
 unfold F_iscii_all k_iscii_all
 obtain ⟨v1, H1, c1, x1, r1, k1, q1⟩ := c_IRules (H := H)
 obtain ⟨v2, H2, c2, x2, q, rfl, hT⟩ := c_TOf r1 k1 q1 Rind_right (Nat.le_of_ble_eq_true Rind_len) Rind_cls
 simp only [WA, isStore, isCall, isK, freshI, stampO, List.nil_append, Option.map_some, Option.map_none, Option.bind_some, List.map_cons, List.map_nil, if_true, if_false, Nat.reduceEqDiff, Int.reduceEq, Nat.reduceAdd, Nat.reduceMul, reduceCtorEq, eq_self, Int.reduceLT, Int.reduceLE, Int.reduceToNat, List.length_cons, List.length_nil, List.all_cons, List.all_nil, List.take_zero, List.drop_nil, List.append_nil, List.getElem?_cons_zero, List.getElem?_cons_succ, List.drop_succ_cons, List.drop_zero, List.take_succ_cons, List.cons_append, Nat.reduceLeDiff, Int.cast_ofNat_Int, c1, c2]
 exact ⟨x1.trans x2, q, rfl, hT⟩
theorem v_enc {H : AHeap} {m q : Nat} : vBuild [.pointer none, .pointer none, .slice none 0 0] [(0, 1, .pointer (some ⟨m, 0, none⟩)), (1, 1, .pointer (some ⟨q, 0, none⟩))] H = some (.agg ⟨[.pointer (some ⟨m, 0, none⟩), .pointer (some ⟨q, 0, none⟩), .slice none 0 0]⟩, H) := rfl
theorem c_MEncode {q : Nat} {L : List Rl} {H : AHeap} (hT : TableOk H q L) : Gives (cw Tryz.prog (tabF tab) om1 51 [.pointer (some ⟨q, 0, none⟩)] H) fun v H' => Ext H H' ∧ ∃ e, v = .pointer (some ⟨e, 0, none⟩) ∧ ED H.n H' e L [] 0 0 [] := by
 rw [cw_run (F := F_machine_Encode) rfl rfl rfl]
 unfold F_machine_Encode k_machine_Encode
 obtain ⟨ver, t1, t2, hg, hT1, hT2⟩ := hT.rest
 have c1 := c_Write hg
 obtain ⟨v2, H2, c2, x2, m, rfl, hM⟩ := MD.new hT2
 obtain ⟨H3, hH3⟩ : ∃ H3, H3 = H2.push ⟨[.pointer (some ⟨m, 0, none⟩), .pointer (some ⟨q, 0, none⟩), .slice none 0 0], 150, .tip, 0, []⟩ := ⟨_, rfl⟩
 have x3 : Ext H2 H3 := by rw [hH3]; exact Ext.push H2 _
 have g3 : H3.get H2.n = some ⟨[.pointer (some ⟨m, 0, none⟩), .pointer (some ⟨q, 0, none⟩), .slice none 0 0], 150, .tip, 0, []⟩ := by rw [hH3]; exact get_push_self
 have hbx : vBox (.agg ⟨[.pointer (some ⟨m, 0, none⟩), .pointer (some ⟨q, 0, none⟩), .slice none 0 0]⟩) 150 H2 = some (.pointer (some ⟨H2.n, 0, none⟩), H3) := by rw [hH3]; exact v_box rfl
 have hTc : TableOk (cutN H H.n) q L := by
  refine hT.keep (fun j blk hj _ => ?_) fun j blk hj _ => ?_ <;>
  ·rw [cutN_get (Nat.le_refl _) (AHeap.lt_of_get hj)]; exact hj
 simp only [WA, isStore, isCall, isK, freshI, stampO, List.nil_append, Option.map_some, Option.map_none, Option.bind_some, List.map_cons, List.map_nil, if_true, if_false, Nat.reduceEqDiff, Int.reduceEq, Nat.reduceAdd, Nat.reduceMul, reduceCtorEq, eq_self, Int.reduceLT, Int.reduceLE, Int.reduceToNat, List.length_cons, List.length_nil, List.all_cons, List.all_nil, List.take_zero, List.drop_nil, List.append_nil, List.getElem?_cons_zero, List.getElem?_cons_succ, List.drop_succ_cons, List.drop_zero, List.take_succ_cons, List.cons_append, Nat.reduceLeDiff, Int.cast_ofNat_Int, c1, c2, v_enc, hbx]
 exact ⟨x2.trans x3, _, rfl, ED.of (ah := []) x2.1 g3 (hM.ext x3) (tab_keep (H := H) (k := H.n) (Nat.le_refl _) hTc ⟨(x2.trans x3).1, fun j hj => by rw [(x2.trans x3).2 j hj, cutN_get (H := H) (k := H.n) (Nat.le_refl _) hj]⟩) (Sl.nil _ 1) (.inl rfl)⟩
structure IST where
 w : List Int
 a : Int
 st : Int
 ah : List Int
 scr : Int
 at_ : Int
structure IE (k i : Nat) (H : AHeap) (s : IST) : Prop where
 ki : k ≤ i
 all : ∃ e ver, H.get i = some ⟨[.pointer (some ⟨e, 0, none⟩), .int .i64 s.scr, .int .i64 s.at_, .int .i64 0], 148, .tip, ver, []⟩ ∧ ED k H e Rind s.w s.a s.st s.ah
theorem v_isc {H : AHeap} {e : Nat} : vBuild [.pointer none, .int .i64 0, .int .i64 0, .int .i64 0] [(0, 1, .pointer (some ⟨e, 0, none⟩))] H = some (.agg ⟨[.pointer (some ⟨e, 0, none⟩), .int .i64 0, .int .i64 0, .int .i64 0]⟩, H) := rfl
theorem c_IEncode {H : AHeap} : Gives (cw Tryz.prog (tabF tab) om1 50 [] H) fun v H' => Ext H H' ∧ ∃ i k, v = .pointer (some ⟨i, 0, none⟩) ∧ H.n ≤ k ∧ IE k i H' ⟨[], 0, 0, [], 0, 0⟩ := by
 rw [cw_run (F := F_iscii_Encode) rfl rfl rfl]
 unfold F_iscii_Encode k_iscii_Encode
 obtain ⟨v1, H1, c1, x1, q, rfl, hT⟩ := c_Iall (H := H)
 obtain ⟨v2, H2, c2, x2, e, rfl, hE⟩ := c_MEncode hT
 obtain ⟨H3, hH3⟩ : ∃ H3, H3 = H2.push ⟨[.pointer (some ⟨e, 0, none⟩), .int .i64 0, .int .i64 0, .int .i64 0], 148, .tip, 0, []⟩ := ⟨_, rfl⟩
 have x3 : Ext H2 H3 := by rw [hH3]; exact Ext.push H2 _
 have g3 : H3.get H2.n = some ⟨[.pointer (some ⟨e, 0, none⟩), .int .i64 0, .int .i64 0, .int .i64 0], 148, .tip, 0, []⟩ := by rw [hH3]; exact get_push_self
 have hbx : vBox (.agg ⟨[.pointer (some ⟨e, 0, none⟩), .int .i64 0, .int .i64 0, .int .i64 0]⟩) 148 H2 = some (.pointer (some ⟨H2.n, 0, none⟩), H3) := by rw [hH3]; exact v_box rfl
 simp only [WA, isStore, isCall, isK, freshI, stampO, List.nil_append, Option.map_some, Option.map_none, Option.bind_some, List.map_cons, List.map_nil, if_true, if_false, Nat.reduceEqDiff, Int.reduceEq, Nat.reduceAdd, Nat.reduceMul, reduceCtorEq, eq_self, Int.reduceLT, Int.reduceLE, Int.reduceToNat, List.length_cons, List.length_nil, List.all_cons, List.all_nil, List.take_zero, List.drop_nil, List.append_nil, List.getElem?_cons_zero, List.getElem?_cons_succ, List.drop_succ_cons, List.drop_zero, List.take_succ_cons, List.cons_append, Nat.reduceLeDiff, Int.cast_ofNat_Int, c1, c2, v_isc, hbx]
 exact ⟨(x1.trans x2).trans x3, H2.n, H1.n, rfl, x1.1, x2.1, e, 0, g3, hE.keep x3.1 (fun j b hj _ => x3.get hj) fun j b hj _ _ => x3.get hj⟩
theorem c_EncI {H : AHeap} : Gives (cw Tryz.prog (tabF tab) om1 30 [.string (nm 7)] H) fun v H' => Ext H H' ∧ ∃ rv, v = .tuple ⟨[rv, .int .i64 0]⟩ ∧ one rv = true ∧ ∃ i k, rv = .iface 116 (.pointer (some ⟨i, 0, none⟩)) ∧ H.n ≤ k ∧ IE k i H' ⟨[], 0, 0, [], 0, 0⟩ := by
 rw [cw_run (F := F_codec_Encode) rfl rfl rfl]
 unfold F_codec_Encode k_codec_Encode
 have hn := c_Name (H := H) (k := 7) (by omega)
 have e0 := e_utf 7 (by omega)
 have e7 := e_iscii 7 (by omega)
 rw [show Nat.beq 7 0 = false from rfl] at e0
 rw [show Nat.beq 7 7 = true from rfl] at e7
 obtain ⟨v1, H1, c1, x1, i, k, rfl, hk, hI⟩ := c_IEncode (H := H)
 have z0 : ((0 : Int) ≠ 0) = False := by simp
 simp only [WA, isStore, isCall, isK, freshI, stampO, List.nil_append, Option.map_some, Option.map_none, Option.bind_some, List.map_cons, List.map_nil, if_true, if_false, Nat.reduceEqDiff, Int.reduceEq, Nat.reduceAdd, Nat.reduceMul, reduceCtorEq, eq_self, Int.reduceLT, Int.reduceLE, Int.reduceToNat, List.length_cons, List.length_nil, List.all_cons, List.all_nil, List.take_zero, List.drop_nil, List.append_nil, List.getElem?_cons_zero, List.getElem?_cons_succ, List.drop_succ_cons, List.drop_zero, List.take_succ_cons, List.cons_append, Nat.reduceLeDiff, Int.cast_ofNat_Int, hn, z0, st_bin gS, e0, e7, c1]
 exact ⟨x1, _, rfl, rfl, i, k, rfl, hk, hI⟩
def unitI (u : Int) : Int := if inS u then u % 128 else 8192 + u
def trI : List Rl := Rind.map fun r => (r.2, r.1)
def swI (s : IST) (u : Int) : Bool := decide (inS u) && !decide ((u - 2304) / 128 = s.scr)
def ieR (s : IST) (u : Int) : List Tok × List Int × Int × Int := takeW trI false (s.w ++ [unitI u]) s.a s.st
def ieS (s : IST) (u : Int) : List Tok × IST :=
 if swI s u = true then (⟨s.at_, 0, [239, C14.getD ((u - 2304) / 128).toNat 0], 0⟩ :: (ieR s u).1, ⟨(ieR s u).2.1, (ieR s u).2.2.1, (ieR s u).2.2.2, ahF [] (ieR s u).1, (u - 2304) / 128, s.at_ + 1⟩)
 else ((ieR s u).1, ⟨(ieR s u).2.1, (ieR s u).2.2.1, (ieR s u).2.2.2, ahF s.ah (ieR s u).1, s.scr, s.at_ + 1⟩)
def okJB (ah : List Int) (T : List Tok) : Bool := match T with
 | [] => true
 | [x] => decide (x.err = 0) && !joinsF Rind ah x.out && decide (x.out.length < 1000)
 | _ => false
theorem okJ_of {ah : List Int} {T : List Tok} (h : okJB ah T = true) : okJ Rind ah T := by
 unfold okJB at h
 split at h
 ·exact .inl rfl
 ·rename_i x
  simp only [Bool.and_eq_true, decide_eq_true_eq, Bool.not_eq_true'] at h
  exact .inr ⟨x, rfl, h.1.1, h.1.2, h.2⟩
 ·cases h
def okI (s : IST) (u : Int) : Bool := decide (0 ≤ u ∧ u ≤ 1114111 ∧ (u < 55296 ∨ u > 57343)) && decide (s.w.length < 100 ∧ 0 ≤ s.a ∧ s.a < 100000000 ∧ 0 ≤ s.st ∧ s.st < 100000000 ∧ s.ah.length < 1000 ∧ 0 ≤ s.at_ ∧ s.at_ < 100000000) && okJB (if swI s u = true then [] else s.ah) (ieR s u).1 && (!swI s u || s.w.isEmpty) && goodB (ieS s u).1 && decide ((outs (ieS s u).1).length < 1000)
theorem i_set1 {H : AHeap} {i ver : Nat} {el : TypeId} {a b c d x : Value} (h1 : one x = true) : gotStore (some ⟨[a, b, c, d], el, .tip, ver, []⟩) i 1 x 1 H = some (.tuple ⟨[]⟩, H.upd i ⟨[a, x, c, d], el, .tip, ver + 1, []⟩) := by
 have hc := cell1 h1
 have := got_store (H := H) (cells := [a, b, c, d]) (el := el) (ver := ver) (anc := []) (i := i) (o := 1) (n := 1) (v := x) (by rw [hc]; rfl) (by rw [hc]; simp [h1]) (by simp)
 rw [this, hc]
 rfl
theorem i_set2 {H : AHeap} {i ver : Nat} {el : TypeId} {a b c d x : Value} (h1 : one x = true) : gotStore (some ⟨[a, b, c, d], el, .tip, ver, []⟩) i 2 x 1 H = some (.tuple ⟨[]⟩, H.upd i ⟨[a, b, x, d], el, .tip, ver + 1, []⟩) := by
 have hc := cell1 h1
 have := got_store (H := H) (cells := [a, b, c, d]) (el := el) (ver := ver) (anc := []) (i := i) (o := 2) (n := 1) (v := x) (by rw [hc]; rfl) (by rw [hc]; simp [h1]) (by simp)
 rw [this, hc]
 rfl
theorem ie_tail {k i e ver : Nat} {w : List Int} {a st scr at_ u : Int} {ah : List Int} {vo : Value} {To : List Tok} {H0 H : AHeap} (hg : H.get i = some ⟨[.pointer (some ⟨e, 0, none⟩), .int .i64 scr, .int .i64 at_, .int .i64 0], 148, .tip, ver, []⟩) (hki : k ≤ i) (hE : ED k H e Rind w a st ah) (hb : w.length < 100 ∧ 0 ≤ a ∧ a < 100000000 ∧ 0 ≤ st ∧ st < 100000000 ∧ ah.length < 1000 ∧ 0 ≤ at_ ∧ at_ < 100000000) (hT : okJ Rind ah (takeW trI false (w ++ [u]) a st).1) (h0 : Kq H0 H) (hlow : ∀ j, j < k → H.get j = H0.get j) (hkn : k ≤ H0.n) (ho : OwnToks Tryz.prog H 36 vo To) (hf : From H0.n vo) (hTo : To.length < 10) :
  ∃ H1 v H2 vr H3, H1 = H.upd i ⟨[.pointer (some ⟨e, 0, none⟩), .int .i64 scr, .int .i64 (at_ + 1), .int .i64 0], 148, .tip, ver + 1, []⟩ ∧ H1.get i = some ⟨[.pointer (some ⟨e, 0, none⟩), .int .i64 scr, .int .i64 (at_ + 1), .int .i64 0], 148, .tip, ver + 1, []⟩ ∧ cw Tryz.prog (tabF tab) om1 180 [.pointer (some ⟨e, 0, none⟩), .int .i64 u] H1 = some (v, H2) ∧ appendA H2 vo v 36 4 48 = some (vr, H3) ∧ OwnToks Tryz.prog H3 36 vr (To ++ (takeW trI false (w ++ [u]) a st).1) ∧ IE k i H3 ⟨(takeW trI false (w ++ [u]) a st).2.1, (takeW trI false (w ++ [u]) a st).2.2.1, (takeW trI false (w ++ [u]) a st).2.2.2, ahF ah (takeW trI false (w ++ [u]) a st).1, scr, at_ + 1⟩ ∧ Kq H0 H3 ∧ ∀ j, j < k → H3.get j = H0.get j := by
 obtain ⟨b1, b2, b3, b4, b5, b6, b7, b8⟩ := hb
 have hil := AHeap.lt_of_get hg
 obtain ⟨H1, hH1⟩ : ∃ H1, H1 = H.upd i ⟨[.pointer (some ⟨e, 0, none⟩), .int .i64 scr, .int .i64 (at_ + 1), .int .i64 0], 148, .tip, ver + 1, []⟩ := ⟨_, rfl⟩
 have g1 : H1.get i = some ⟨[.pointer (some ⟨e, 0, none⟩), .int .i64 scr, .int .i64 (at_ + 1), .int .i64 0], 148, .tip, ver + 1, []⟩ := by rw [hH1]; exact upd_self hg
 have n1 : H1.n = H.n := by rw [hH1]; simp
 have k1 : ∀ j, j ≠ i → H1.get j = H.get j := fun j hj => by rw [hH1]; exact upd_other hg hj
 have kb : ∀ j b, H.get j = some b → b.elem ≠ 148 → H1.get j = some b := fun j b hb hbe => by
  rw [k1 j (fun e1 => by subst e1; rw [hg] at hb; injection hb with hb; subst hb; exact hbe rfl)]
  exact hb
 have hsz : (Tryz.prog.info? 148).map (·.size) = some 4 := by kernel_rfl
 have hE1 : ED k H1 e Rind w a st ah := hE.keep (by omega) (fun j b hj hbe => kb j b hj (fun e1 => by rw [e1] at hbe; exact absurd hbe (by decide))) fun j b hj hbs _ => kb j b hj (fun e1 => by rw [e1, hsz] at hbs; cases hbs)
 have hsq : (w.length + 1) * (w.length + 1) ≤ 100 * 100 := Nat.mul_le_mul (by omega) (by omega)
 have hq1 : st + ((w.length : Int) + 1) * ((w.length : Int) + 1) < 1000000000 := by
  have h : (((w.length + 1) * (w.length + 1) : Nat) : Int) ≤ 10000 := by omega
  push_cast at h
  omega
 have htr : trn Rind [] = trI := Rind_trn
 obtain ⟨v, H2, c2, r1, r2, r3, r4, r5⟩ := hE1.put (u := u) (by omega) ⟨b2, by omega⟩ ⟨b4, hq1⟩ (by omega) (by rw [htr]; exact hT)
 rw [htr] at r1 r2
 have q1 : Kq H H1 := Kq.of (by omega) fun j b hb hbe => kb j b hb (pE_ne hbe).2.2
 have ho2 := OwnToks.kq r3 (OwnToks.kq q1 ho)
 have hTl : (takeW trI false (w ++ [u]) a st).1.length < 10 := by
  rcases hT with e1 | ⟨x, e1, _⟩ <;> (rw [e1]; simp)
 obtain ⟨vr, H3, m1, m2, m3, m4, m5, m6⟩ := OwnRws.append (bytes := 48) tokQ_mono ho2 r1.rws (fun _ cs h => Rws.ones r1.rws cs h) (by omega) (by omega)
 have hno : ∀ j b, H2.get j = some b → b.elem ≠ 36 → H3.get j = some b := fun j b hb hbe => by
  obtain ⟨_, cs, q1, _⟩ := ho2
  rw [m6 j (AHeap.lt_of_get hb) (q1.notAt_elem hb hbe)]
  exact hb
 have ht4 : (Tryz.prog.info? 36).map (·.size) = some 4 := hel4
 have hE3 := r2.keep m5 (fun j b hj hbe => hno j b hj (fun e1 => by rw [e1] at hbe; exact absurd hbe (by decide))) fun j b hj hbs _ => hno j b hj (fun e1 => by rw [e1, ht4] at hbs; cases hbs)
 have q2 := (h0.trans q1).trans r3
 have g3 : H3.get i = some ⟨[.pointer (some ⟨e, 0, none⟩), .int .i64 scr, .int .i64 (at_ + 1), .int .i64 0], 148, .tip, ver + 1, []⟩ := hno _ _ (r5 _ _ g1 rfl) (by simp only; decide)
 have low3 : ∀ j, j < k → H3.get j = H0.get j := fun j hj => by
  have hE0 := h0.1
  have hr3 := r3.1
  rw [m6 j (by omega) (NotAt.of_from hf (by omega)), r4 j hj, k1 j (by omega), hlow j hj]
 refine ⟨H1, v, H2, vr, H3, hH1, g1, c2, m1, m2, ⟨hki, e, ver + 1, g3, hE3⟩, ?_, low3⟩
 refine ⟨Nat.le_trans q2.1 m5, fun j b hb hbe => ?_⟩
 obtain ⟨p1, b', p2, p3, p4⟩ := q2.2 j b hb hbe
 have hjl := AHeap.lt_of_get hb
 have hE0 := q2.1
 have hk3 : H3.get j = H2.get j := m6 j (by omega) (NotAt.of_from hf hjl)
 exact ⟨fun hi => by rw [hk3]; exact p1 hi, b', by rw [hk3]; exact p2, p3, p4⟩
theorem v_i2 {H : AHeap} {a b : Int} : ∃ H4, vBslice 3 2 1 [.int .i64 0] [(0, 1, .int .i64 a), (1, 1, .int .i64 b)] H = some (.slice (some ⟨H.n, 0, none⟩) 2 3, H4) ∧ Ext H H4 ∧ Ints H4 (.slice (some ⟨H.n, 0, none⟩) 2 3) [a, b] ∧ Cut Tryz.prog H4 (.slice (some ⟨H.n, 0, none⟩) 2 3) 1 := ⟨H.push ⟨[.int .i64 a, .int .i64 b], 3, .tip, 0, []⟩, rfl, Ext.push H _, Sl.new (n := 2) (c := 3) get_push_self mem_tip rfl, Cut.new get_push_self (by kernel_rfl)⟩
theorem v_tkI {H : AHeap} {a : Int} {p : Option Addr} {n c : Nat} : vBuild [.int .i64 0, .int .i64 0, .slice none 0 0, .int .i64 0] [(0, 1, .int .i64 a), (2, 1, .slice p n c)] H = some (.agg ⟨[.int .i64 a, .int .i64 0, .slice p n c, .int .i64 0]⟩, H) := rfl
theorem toks_nil {H : AHeap} {v : Value} (h : OwnToks Tryz.prog H 36 v []) : v = .slice none 0 0 := by
 obtain ⟨_, cs, ⟨_, ⟨rfl, _⟩ | ⟨b, ver, anc, _, hn, _⟩⟩, _⟩ := h
 ·rfl
 ·simp at hn
theorem c_IPut {k i : Nat} {s : IST} {u : Int} {H : AHeap} (h : IE k i H s) (hkn : k ≤ H.n) (hok : okI s u = true) : Gives (cw Tryz.prog (tabF tab) om1 175 [.pointer (some ⟨i, 0, none⟩), .int .i64 u] H) fun v H' => OwnToks Tryz.prog H' 36 v (ieS s u).1 ∧ IE k i H' (ieS s u).2 ∧ Kq H H' ∧ ∀ j, j < k → H'.get j = H.get j := by
 unfold okI at hok
 simp only [Bool.and_eq_true, decide_eq_true_eq, Bool.or_eq_true, Bool.not_eq_true'] at hok
 obtain ⟨⟨⟨⟨⟨hu, b1, b2, b3, b4, b5, b6, b7, b8⟩, hJ⟩, hsw⟩, hgood⟩, hlen⟩ := hok
 have hki := h.ki
 obtain ⟨e, ver, hg, hE⟩ := h.all
 have hil := AHeap.lt_of_get hg
 have c0 := c_IOf (x := u) H
 have cS := c_Scalar (H := H) (s := u) hu
 have hwa : IntKind.i64.wrap (s.at_ + 1) = s.at_ + 1 := wrap64 (by omega) (by omega)
 rw [cw_run (F := F_iscii_Encoder__Put) rfl rfl rfl]
 unfold F_iscii_Encoder__Put k_iscii_Encoder__Put
 by_cases hin : inS u
 ·have hun : unitI u = u % 128 := by unfold unitI; rw [if_pos hin]
  unfold ofS at c0
  rw [if_pos hin] at c0
  by_cases hsc : (u - 2304) / 128 = s.scr
  ·have hs0 : swI s u = false := by unfold swI; simp [hsc]
   have hz : ((u - 2304) / 128 ≠ s.scr) = False := by simp [hsc]
   rw [hs0] at hJ
   have hR : ieS s u = ((ieR s u).1, ⟨(ieR s u).2.1, (ieR s u).2.2.1, (ieR s u).2.2.2, ahF s.ah (ieR s u).1, s.scr, s.at_ + 1⟩) := by unfold ieS; rw [hs0]; rfl
   rw [hR]
   unfold ieR at hJ ⊢
   rw [hun] at hJ ⊢
   obtain ⟨H1, v, H2, vr, H3, hH1, g1, c1, m1, m2, m3, m4, m5⟩ := ie_tail (u := u % 128) (To := []) (vo := .slice none 0 0) (H0 := H) hg hki hE ⟨b1, b2, b3, b4, b5, b6, b7, b8⟩ (okJ_of hJ) (Ext.kq (Ext.refl H)) (fun _ _ => rfl) hkn OwnRws.nil trivial (by simp)
   have st := i_set2 (H := H) (i := i) (ver := ver) (el := 148) (a := .pointer (some ⟨e, 0, none⟩)) (b := .int .i64 s.scr) (c := .int .i64 s.at_) (d := .int .i64 0) (x := .int .i64 (s.at_ + 1)) rfl
   rw [← hH1] at st
   simp only [WA, isStore, isCall, isK, freshI, stampO, List.nil_append, Option.map_some, Option.map_none, Option.bind_some, List.map_cons, List.map_nil, if_true, if_false, Nat.reduceEqDiff, Int.reduceEq, Nat.reduceAdd, Nat.reduceMul, reduceCtorEq, eq_self, Int.reduceLT, Int.reduceLE, Int.reduceToNat, List.length_cons, List.length_nil, List.all_cons, List.all_nil, List.take_zero, List.drop_nil, List.append_nil, List.getElem?_cons_zero, List.getElem?_cons_succ, List.drop_succ_cons, List.drop_zero, List.take_succ_cons, List.cons_append, Nat.reduceLeDiff, Int.cast_ofNat_Int, c0, cS, hg, hz, hwa, st, g1, c1, m1]
   exact ⟨m2, m3, m4, m5⟩
  ·have hs1 : swI s u = true := by unfold swI; simp [hsc, hin]
   have hz : ((u - 2304) / 128 ≠ s.scr) = True := by simp [hsc]
   have hw0 : s.w = [] := by
    rcases hsw with h1 | h1
    ·rw [hs1] at h1; cases h1
    ·exact List.isEmpty_iff.1 h1
   obtain ⟨w, a, st, ah, scr, at_⟩ := s
   simp only at hw0 b1 b2 b3 b4 b5 b6 b7 b8 hz hE hg hwa hsc
   subst hw0
   obtain ⟨n, hn⟩ : ∃ n : Nat, (u - 2304) / 128 = n := ⟨((u - 2304) / 128).toNat, by have := hin.1; omega⟩
   have hn9 : n < 9 := by have := hin.2.1; omega
   have hR : ieS ⟨[], a, st, ah, scr, at_⟩ u = (⟨at_, 0, [239, C14.getD n 0], 0⟩ :: (takeW trI false ([] ++ [u % 128]) a st).1, ⟨(takeW trI false ([] ++ [u % 128]) a st).2.1, (takeW trI false ([] ++ [u % 128]) a st).2.2.1, (takeW trI false ([] ++ [u % 128]) a st).2.2.2, ahF [] (takeW trI false ([] ++ [u % 128]) a st).1, (u - 2304) / 128, at_ + 1⟩) := by
    unfold ieS ieR
    rw [hs1, if_pos rfl, hun, hn]
    rfl
   rw [hR]
   have hJ' : okJB [] (takeW trI false ([] ++ [u % 128]) a st).1 = true := by
    rw [if_pos hs1] at hJ
    unfold ieR at hJ
    rw [hun] at hJ
    exact hJ
   obtain ⟨v1, H1, c1, t1, e1, q1, low1, ki1⟩ := hE.fin (by omega) ⟨b2, by omega⟩ ⟨b4, by omega⟩
   obtain rfl := toks_nil t1
   have g1 := ki1 _ _ hg rfl
   have cC := c_Code (H := H1) hn9
   rw [← hn] at cC
   have st2 := i_set1 (H := H1) (i := i) (ver := ver) (el := 148) (a := .pointer (some ⟨e, 0, none⟩)) (b := .int .i64 scr) (c := .int .i64 at_) (d := .int .i64 0) (x := .int .i64 ((u - 2304) / 128)) rfl
   obtain ⟨H2, hH2⟩ : ∃ H2, H2 = H1.upd i ⟨[.pointer (some ⟨e, 0, none⟩), .int .i64 ((u - 2304) / 128), .int .i64 at_, .int .i64 0], 148, .tip, ver + 1, []⟩ := ⟨_, rfl⟩
   rw [← hH2] at st2
   have g2 : H2.get i = some ⟨[.pointer (some ⟨e, 0, none⟩), .int .i64 ((u - 2304) / 128), .int .i64 at_, .int .i64 0], 148, .tip, ver + 1, []⟩ := by rw [hH2]; exact upd_self g1
   have n2 : H2.n = H1.n := by rw [hH2]; simp
   have k2 : ∀ j, j ≠ i → H2.get j = H1.get j := fun j hj => by rw [hH2]; exact upd_other g1 hj
   have kb2 : ∀ j b, H1.get j = some b → b.elem ≠ 148 → H2.get j = some b := fun j b hb hbe => by
    rw [k2 j (fun e1 => by subst e1; rw [g1] at hb; injection hb with hb; subst hb; exact hbe rfl)]
    exact hb
   have hsz : (Tryz.prog.info? 148).map (·.size) = some 4 := by kernel_rfl
   have e2 : ED k H2 e Rind [] a st ah := e1.keep (by omega) (fun j b hj hbe => kb2 j b hj (fun e1 => by rw [e1] at hbe; exact absurd hbe (by decide))) fun j b hj hbs _ => kb2 j b hj (fun e1 => by rw [e1, hsz] at hbs; cases hbs)
   have q2 : Kq H1 H2 := Kq.of (by omega) fun j b hb hbe => kb2 j b hb (pE_ne hbe).2.2
   obtain ⟨v3, H3, c3, e3, q3, n3, k3⟩ := e2.apart
   have hie : i ≠ e := fun e9 => by
    obtain ⟨m, q, t, va, ver9, hge, _⟩ := e2.all
    rw [← e9, g2] at hge
    injection hge with hge
    injection hge with _ hge
    exact absurd hge (by decide)
   have g3 : H3.get i = some ⟨[.pointer (some ⟨e, 0, none⟩), .int .i64 ((u - 2304) / 128), .int .i64 at_, .int .i64 0], 148, .tip, ver + 1, []⟩ := by rw [k3 i hie]; exact g2
   obtain ⟨H4, v4, x4, i4, k4⟩ := v_i2 (H := H3) (a := 239) (b := C14.getD n 0)
   obtain ⟨H5, hH5⟩ : ∃ H5, H5 = H4.push ⟨[.int .i64 at_, .int .i64 0, .slice (some ⟨H3.n, 0, none⟩) 2 3, .int .i64 0], 36, .tip, 0, []⟩ := ⟨_, rfl⟩
   have x5 : Ext H4 H5 := by rw [hH5]; exact Ext.push H4 _
   have g5 : H5.get H4.n = some ⟨[.int .i64 at_, .int .i64 0, .slice (some ⟨H3.n, 0, none⟩) 2 3, .int .i64 0], 36, .tip, 0, []⟩ := by rw [hH5]; exact get_push_self
   have tq : tokQ Tryz.prog H5 [.int .i64 at_, .int .i64 0, .slice (some ⟨H3.n, 0, none⟩) 2 3, .int .i64 0] ⟨at_, 0, [239, C14.getD n 0], 0⟩ := ⟨some ⟨H3.n, 0, none⟩, 3, rfl, i4.ext x5, by unfold Lon.tiny; simp, k4.ext x5⟩
   obtain ⟨v6, H6, p1, p2, p3, p4, p5, p6⟩ := (OwnRws.nil (s := 4) (Q := tokQ Tryz.prog) (H := H5) (el := 36)).push tokQ_mono (bytes := 48) (c := 2) g5 rfl tq rfl (by simp) (by simp)
   rw [List.nil_append] at p2
   have x6 : Ext H5 H6 := ⟨p5, fun j hj => p6 j hj trivial⟩
   have x36 := (x4.trans x5).trans x6
   have g6 := x36.get g3
   have e6 : ED k H6 e Rind [] a st [] := e3.keep x36.1 (fun j b hj _ => x36.get hj) fun j b hj _ _ => x36.get hj
   have q6 : Kq H H6 := ((q1.trans q2).trans q3).trans (Ext.kq x36)
   have hq1 := q1.1
   have x4n := x4.1
   have x5n := x5.1
   have low6 : ∀ j, j < k → H6.get j = H.get j := fun j hj => by
    have hke := e3.ke
    rw [x36.2 j (by omega), k3 j (by omega), k2 j (by omega), low1 j hj]
   obtain ⟨H7, v, H8, vr, H9, hH7, g7, c7, m1, m2, m3, m4, m5⟩ := ie_tail (u := u % 128) (To := [⟨at_, 0, [239, C14.getD n 0], 0⟩]) (vo := v6) (H0 := H) g6 hki e6 ⟨b1, b2, b3, b4, b5, by simp, b7, b8⟩ (okJ_of hJ') q6 low6 hkn p2 (p3.mono (by omega)) (by simp)
   have st := i_set2 (H := H6) (i := i) (ver := ver + 1) (el := 148) (a := .pointer (some ⟨e, 0, none⟩)) (b := .int .i64 ((u - 2304) / 128)) (c := .int .i64 at_) (d := .int .i64 0) (x := .int .i64 (at_ + 1)) rfl
   rw [← hH7] at st
   simp only [WA, isStore, isCall, isK, freshI, stampO, List.nil_append, Option.map_some, Option.map_none, Option.bind_some, List.map_cons, List.map_nil, if_true, if_false, Nat.reduceEqDiff, Int.reduceEq, Nat.reduceAdd, Nat.reduceMul, reduceCtorEq, eq_self, Int.reduceLT, Int.reduceLE, Int.reduceToNat, List.length_cons, List.length_nil, List.all_cons, List.all_nil, List.take_zero, List.drop_nil, List.append_nil, List.getElem?_cons_zero, List.getElem?_cons_succ, List.drop_succ_cons, List.drop_zero, List.take_succ_cons, List.cons_append, Nat.reduceLeDiff, Int.cast_ofNat_Int, c0, cS, hg, hz, c1, cC, g1, st2, g2, c3, g3, v4, v_tkI, v_mk1, ← hH5, p1, g6, hwa, st, g7, c7, m1]
   exact ⟨m2, m3, m4, m5⟩
 ·have hun : unitI u = 8192 + u := by unfold unitI; rw [if_neg hin]
  unfold ofS at c0
  rw [if_neg hin] at c0
  have hs0 : swI s u = false := by unfold swI; simp [hin]
  rw [hs0] at hJ
  have hwu : IntKind.i64.wrap (8192 + u) = 8192 + u := wrap64 (by omega) (by omega)
  have hR : ieS s u = ((ieR s u).1, ⟨(ieR s u).2.1, (ieR s u).2.2.1, (ieR s u).2.2.2, ahF s.ah (ieR s u).1, s.scr, s.at_ + 1⟩) := by unfold ieS; rw [hs0]; rfl
  rw [hR]
  unfold ieR at hJ ⊢
  rw [hun] at hJ ⊢
  obtain ⟨H1, v, H2, vr, H3, hH1, g1, c1, m1, m2, m3, m4, m5⟩ := ie_tail (u := 8192 + u) (To := []) (vo := .slice none 0 0) (H0 := H) hg hki hE ⟨b1, b2, b3, b4, b5, b6, b7, b8⟩ (okJ_of hJ) (Ext.kq (Ext.refl H)) (fun _ _ => rfl) hkn OwnRws.nil trivial (by simp)
  have st := i_set2 (H := H) (i := i) (ver := ver) (el := 148) (a := .pointer (some ⟨e, 0, none⟩)) (b := .int .i64 s.scr) (c := .int .i64 s.at_) (d := .int .i64 0) (x := .int .i64 (s.at_ + 1)) rfl
  rw [← hH1] at st
  simp only [WA, isStore, isCall, isK, freshI, stampO, List.nil_append, Option.map_some, Option.map_none, Option.bind_some, List.map_cons, List.map_nil, if_true, if_false, Nat.reduceEqDiff, Int.reduceEq, Nat.reduceAdd, Nat.reduceMul, reduceCtorEq, eq_self, Int.reduceLT, Int.reduceLE, Int.reduceToNat, List.length_cons, List.length_nil, List.all_cons, List.all_nil, List.take_zero, List.drop_nil, List.append_nil, List.getElem?_cons_zero, List.getElem?_cons_succ, List.drop_succ_cons, List.drop_zero, List.take_succ_cons, List.cons_append, Nat.reduceLeDiff, Int.cast_ofNat_Int, c0, cS, hwu, hg, hwa, st, g1, c1, m1]
  exact ⟨m2, m3, m4, m5⟩
theorem me_IP : methA Tryz.prog 116 "Put" = some (175, none) := by kernel_rfl
theorem me_IE : methA Tryz.prog 116 "End" = some (173, none) := by kernel_rfl
def pI (b : ABlk) : Bool := pE b.elem || Nat.beq b.elem 3
theorem pI_kw {H H' : AHeap} (h : Kq H H') : Kw pI H H' := ⟨h.1, fun j b hj he => by
 unfold pI at he
 simp only [Bool.or_eq_false_iff] at he
 exact (h.2 j b hj he.1).1 (fun e => by rw [e] at he; exact absurd he.2 (by decide))⟩
theorem IE.keep {k i : Nat} {s : IST} {H H' : AHeap} (h : IE k i H s) (hn : H.n ≤ H'.n) (hk : ∀ j b, H.get j = some b → isE b.elem = true ∨ b.elem = 148 → H'.get j = some b) (hi : ∀ j b, H.get j = some b → (Tryz.prog.info? b.elem).map (·.size) = some 1 → pure8 b = false → H'.get j = some b) : IE k i H' s := by
 obtain ⟨e, ver, hg, hE⟩ := h.all
 exact ⟨h.ki, e, ver, hk _ _ hg (.inr rfl), hE.keep hn (fun j b hj hbe => hk j b hj (.inl hbe)) hi⟩
def WrI (B i : Nat) (H : AHeap) (s : IST) : Prop := ∃ k, B ≤ k ∧ IE k i H s
theorem pure8_ne {b : ABlk} (h : b.elem ≠ 5) : pure8 b = false := by
 unfold pure8
 cases hb : Nat.beq b.elem 5 with
 | false => rfl
 | true => exact absurd (Nat.eq_of_beq_eq_true hb) h
theorem wm_I {B i : Nat} : Wm B pI (WrI B i) (.iface 116 (.pointer (some ⟨i, 0, none⟩))) ieS (fun s u => okI s u = true) where
 ps := fun b e => by unfold pI; rw [e]; decide
 pt := fun b e => by unfold pI; rw [e]; decide
 p8 := fun b e => by unfold pI; rw [e]; decide
 put := by
  intro H s u ⟨k, hk, h⟩ hok
  have hki := h.ki
  have hil : i < H.n := by
   obtain ⟨e, ver, hg, _⟩ := h.all
   exact AHeap.lt_of_get hg
  obtain ⟨v, H', c, q1, q2, q3, q4⟩ := c_IPut h (by omega) hok
  rw [inv_none me_IP]
  exact ⟨v, H', c, ⟨k, hk, q2⟩, q1, pI_kw q3, fun j hj => q4 j (by omega)⟩
 keep := by
  intro H H' s ⟨k, hk, h⟩ hn hkk
  refine ⟨k, hk, h.keep hn (fun j b hj hbe => hkk j b hj (fun e => ?_) (pure8_ne fun e => ?_)) fun j b hj hbs hp => hkk j b hj (fun e => ?_) hp⟩
  ·rw [e] at hbe; exact absurd hbe (by decide)
  ·rw [e] at hbe; exact absurd hbe (by decide)
  ·rw [e] at hbs
   have h4 : (Tryz.prog.info? 70).map (·.size) = some 11 := by kernel_rfl
   rw [h4] at hbs
   cases hbs
 good := by
  intro s u hok
  unfold okI at hok
  simp only [Bool.and_eq_true, decide_eq_true_eq] at hok
  exact ⟨good_of hok.1.2, hok.2⟩
theorem c_IEnd {k i : Nat} {s : IST} {H : AHeap} (h : IE k i H s) (hw : s.w = [] ∧ s.ah.length < 1000 ∧ 0 ≤ s.a ∧ s.a < 100000000 ∧ 0 ≤ s.st ∧ s.st < 100000000) : Gives (cw Tryz.prog (tabF tab) om1 173 [.pointer (some ⟨i, 0, none⟩)] H) fun v H' => OwnToks Tryz.prog H' 36 v [] ∧ Kq H H' ∧ ∀ j, j < k → H'.get j = H.get j := by
 rw [cw_run (F := F_iscii_Encoder__End) rfl rfl rfl]
 unfold F_iscii_Encoder__End k_iscii_Encoder__End
 obtain ⟨w, a, st, ah, scr, at_⟩ := s
 simp only at hw
 obtain ⟨rfl, h1, h2, h3, h4, h5⟩ := hw
 obtain ⟨e, ver, hg, hE⟩ := h.all
 simp only at hg hE
 obtain ⟨v1, H1, c1, t1, e1, q1, low1, ki1⟩ := hE.fin (by omega) ⟨h2, by omega⟩ ⟨h4, by omega⟩
 simp only [WA, isStore, isCall, isK, freshI, stampO, List.nil_append, Option.map_some, Option.map_none, Option.bind_some, List.map_cons, List.map_nil, if_true, if_false, Nat.reduceEqDiff, Int.reduceEq, Nat.reduceAdd, Nat.reduceMul, reduceCtorEq, eq_self, Int.reduceLT, Int.reduceLE, Int.reduceToNat, List.length_cons, List.length_nil, List.all_cons, List.all_nil, List.take_zero, List.drop_nil, List.append_nil, List.getElem?_cons_zero, List.getElem?_cons_succ, List.drop_succ_cons, List.drop_zero, List.take_succ_cons, List.cons_append, Nat.reduceLeDiff, Int.cast_ofNat_Int, hg, c1]
 exact ⟨t1, q1, low1⟩
def okIF (s : IST) : Prop := s.w = [] ∧ s.ah.length < 1000 ∧ 0 ≤ s.a ∧ s.a < 100000000 ∧ 0 ≤ s.st ∧ s.st < 100000000
theorem fin_I {B i : Nat} {H : AHeap} {s : IST} (h : WrI B i H s) (hok : okIF s) : Gives (invA Tryz.prog (cw Tryz.prog (tabF tab) om1) (.iface 116 (.pointer (some ⟨i, 0, none⟩))) "End" [] H) fun v H' => OwnToks Tryz.prog H' 36 v ((fun _ => []) s) ∧ goodT ((fun _ => []) s) ∧ Kw pI H H' ∧ ∀ j, j < B → H'.get j = H.get j := by
 obtain ⟨k, hk, h⟩ := h
 rw [inv_none me_IE]
 obtain ⟨v, H', c, q1, q2, q3⟩ := c_IEnd h hok
 exact ⟨v, H', c, q1, fun _ h => absurd h (by simp), pI_kw q2, fun j hj => q3 j (by omega)⟩
def txt2 : List Int := [224, 164, 149, 97, 224, 166, 149]
def out2 : List Int := [179, 97, 239, 67, 179]
theorem run2_o : (allF rbS ieS txt2 ([], 0) ⟨[], 0, 0, [], 0, 0⟩ []).2.2 = out2 := by kernel_rfl
theorem run2_w : (allF rbS ieS txt2 ([], 0) ⟨[], 0, 0, [], 0, 0⟩ []).1.1 = [] := by kernel_rfl
theorem run2_s : (fun s : IST => decide (s.w = [] ∧ s.ah.length < 1000 ∧ 0 ≤ s.a ∧ s.a < 100000000 ∧ 0 ≤ s.st ∧ s.st < 100000000)) (allF rbS ieS txt2 ([], 0) ⟨[], 0, 0, [], 0, 0⟩ []).2.1 = true := by kernel_rfl
theorem run2_ok : okAB rbS ieS rbO okI txt2 ([], 0) ⟨[], 0, 0, [], 0, 0⟩ [] = true := by kernel_rfl
theorem WrI.kb {B i : Nat} {H H' : AHeap} {s : IST} (h : WrI B i H s) (hk : Kw qB H H') : WrI B i H' s := by
 obtain ⟨k, h1, h⟩ := h
 refine ⟨k, h1, h.keep hk.1 (fun j b hj hbe => hk.2 j b hj ?_) fun j b hj hbs hp => hk.2 j b hj ?_⟩
 ·unfold qB
  rw [pure8_ne (fun e => by rw [e] at hbe; exact absurd hbe (by decide))]
  cases hb : Nat.beq b.elem 101 with
  | false => rfl
  | true =>
   have := Nat.eq_of_beq_eq_true hb
   rw [this] at hbe
   exact absurd hbe (by decide)
 ·unfold qB
  rw [hp]
  cases hb : Nat.beq b.elem 101 with
  | false => rfl
  | true =>
   have := Nat.eq_of_beq_eq_true hb
   rw [this] at hbs
   have h4 : (Tryz.prog.info? 101).map (·.size) = some 2 := by kernel_rfl
   rw [h4] at hbs
   cases hbs
theorem IE.ks {k i : Nat} {s : IST} {H H' : AHeap} (h : IE k i H s) (hk : Ks H H') : IE k i H' s := h.keep hk.1 (fun j b hj hbe => hk.2 j b hj (fun e => by rw [e] at hbe; exact absurd hbe (by decide))) fun j b hj hbs _ => hk.2 j b hj (fun e => by
 rw [e] at hbs
 have h4 : (Tryz.prog.info? 70).map (·.size) = some 11 := by kernel_rfl
 rw [h4] at hbs
 cases hbs)
theorem c_run2 {x : Value} {H : AHeap} (hx : Nums H .u8 x txt2) : Gives (cw Tryz.prog (tabF tab) om1 8 [.string (nm 0), .string (nm 7), .int .i64 0, x] H) fun v H' => Ext H H' ∧ ∃ ow, v = .tuple ⟨[ow, .agg ⟨[.int .i64 0, .int .i64 0, .int .i64 0]⟩, .int .i64 0]⟩ ∧ OwnB H' ow out2 ∧ From H.n ow := by
 obtain ⟨v, H2, c2, x2, rfl, rv, wv, hSB, ⟨r, hr, rfl, gr⟩, i, k, rfl, hk, hI⟩ := c_Open (f := nm 0) (t := nm 7) (H := H.push ⟨[.int .i64 0, .int .i64 0, .int .i64 0], 27, .tip, 0, []⟩) (B := H.n + 1) (R := fun H9 rv => ∃ r, H.n + 1 ≤ r ∧ rv = .iface 97 (.pointer (some ⟨r, 0, none⟩)) ∧ H9.get r = some ⟨[.slice none 0 0, .int .i64 0], 101, .tip, 0, []⟩) (W := fun H9 wv => ∃ i k, wv = .iface 116 (.pointer (some ⟨i, 0, none⟩)) ∧ H.n + 1 ≤ k ∧ IE k i H9 ⟨[], 0, 0, [], 0, 0⟩)
  (fun H => c_Name (by omega)) (fun H => c_Name (by omega)) (fun H => by
   obtain ⟨v, H', c, x, rv, e, o, q1, q2⟩ := c_DecB (H := H)
   exact ⟨v, H', c, x, rv, e, o, fun hb => ⟨H.n, hb, q1, q2⟩⟩) (fun H => by
   obtain ⟨v, H', c, x, rv, e, o, i, k, q1, q2, q3⟩ := c_EncI (H := H)
   exact ⟨v, H', c, x, rv, e, o, fun hb => ⟨i, k, q1, by omega, q3⟩⟩) (by rw [AHeap.n_push]; omega)
  (fun ⟨r, h1, h2, h3⟩ hk => ⟨r, h1, h2, hk.2 _ _ h3 (by simp only; decide)⟩) (fun ⟨i, k, h1, h2, h3⟩ hk => ⟨i, k, h1, h2, h3.ks hk⟩)
 rw [AHeap.n_push] at c2 hSB
 obtain ⟨z, hz⟩ : ∃ z, allF rbS ieS txt2 ([], 0) ⟨[], 0, 0, [], 0, 0⟩ [] = z := ⟨_, rfl⟩
 have hzo := run2_o
 have hzw := run2_w
 have hzs := run2_s
 rw [hz] at hzo hzw hzs
 simp only [decide_eq_true_eq] at hzs
 have hlast : lastF ieS (fun _ => []) (fun _ => []) z = out2 := by
  unfold lastF
  show z.2.2 ++ outs [] = out2
  rw [hzo]
  rfl
 have hA := c_SAll (B := H.n + 1) (s := H.n + 1) (q := qB) (p := pI) (fnl := fun _ => []) (okf := fun st => st.1 = []) (wfn := fun _ => []) (okwf := okIF) (rm_B (B := H.n + 1) (s := H.n + 1) (r := r) (p := pI) (fun b e => by unfold pI; rw [e]; decide) (fun b e => by unfold pI; rw [e]; decide)) (wm_I (B := H.n + 1) (i := i)) (fun h hk => h.kb hk) (fun h h0 => fin_I h h0) (xs := txt2) (x := x) rfl c2 x2 hSB (r0 := ([], 0)) (st0 := ⟨[], 0, 0, [], 0, 0⟩) ⟨hr, .slice none 0 0, ⟨⟨0, gr⟩, ⟨rfl, .inl ⟨rfl, rfl⟩⟩⟩, fun _ _ => trivial, fun _ _ => trivial⟩ ⟨k, hk, hI⟩ (Nat.le_refl _) hx (by decide) (okA_of _ _ _ _ _ _ _ _ run2_ok) hz hzw trivial hzs (by rw [hlast, hzo]; decide)
 rw [hlast] at hA
 exact hA
theorem v_u5 {H : AHeap} {a b c d e : Int} : ∃ H1, vBslice 5 5 1 [.int .u8 0] [(0, 1, .int .u8 a), (1, 1, .int .u8 b), (2, 1, .int .u8 c), (3, 1, .int .u8 d), (4, 1, .int .u8 e)] H = some (.slice (some ⟨H.n, 0, none⟩) 5 6, H1) ∧ Ext H H1 ∧ Nums H1 .u8 (.slice (some ⟨H.n, 0, none⟩) 5 6) [a, b, c, d, e] := ⟨H.push ⟨[.int .u8 a, .int .u8 b, .int .u8 c, .int .u8 d, .int .u8 e], 5, .tip, 0, []⟩, rfl, Ext.push H _, Sl.new (n := 5) (c := 6) get_push_self mem_tip rfl⟩
theorem v_u7 {H : AHeap} {a b c d e f g : Int} : vBslice 5 7 1 [.int .u8 0] [(0, 1, .int .u8 a), (1, 1, .int .u8 b), (2, 1, .int .u8 c), (3, 1, .int .u8 d), (4, 1, .int .u8 e), (5, 1, .int .u8 f), (6, 1, .int .u8 g)] H = some (.slice (some ⟨H.n, 0, none⟩) 7 8, H.push ⟨[.int .u8 a, .int .u8 b, .int .u8 c, .int .u8 d, .int .u8 e, .int .u8 f, .int .u8 g], 5, .tip, 0, []⟩) := rfl
theorem fix_tip {H : AHeap} {i n c ver : Nat} {cs : List Value} {el : TypeId} (hg : H.get i = some ⟨cs, el, .tip, ver, []⟩) (hc : c ≠ 0) : fixA (.slice (some ⟨i, 0, none⟩) n c) H = some (.slice (some ⟨i, 0, none⟩) n c, H.upd i ⟨cs, el, .ret, ver, []⟩) := by
 unfold fixA
 simp only [hg]
 rw [if_pos ⟨trivial, hc⟩]
theorem txt_own {H : AHeap} {v : Value} {l : List Int} {s : ByteArray} (h : OwnB H v l) (ht : txtB ByteArray.empty (u8s l) = some s) : vText v H = some (.string s, H) := by
 obtain ⟨_, h2⟩ := h.sl
 unfold vText
 rw [h2]
 simp only
 rw [ht]
 rfl
theorem t_out1 : txtB ByteArray.empty (u8s out1) = some ⟨#[84, 105, 225, 186, 191, 110, 103]⟩ := by kernel_rfl
theorem t_out2 : txtB ByteArray.empty (u8s out2) = some ⟨#[179, 97, 239, 67, 179]⟩ := by kernel_rfl
theorem q_out1 : binV .eql 9 (.string ⟨#[84, 105, 225, 186, 191, 110, 103]⟩) (.string ⟨#[84, 105, 225, 186, 191, 110, 103]⟩) = some (.bool true) := by kernel_rfl
theorem q_out2 : binV .eql 9 (.string ⟨#[179, 97, 239, 67, 179]⟩) (.string ⟨#[179, 97, 239, 67, 179]⟩) = some (.bool true) := by kernel_rfl
theorem c_awake {H : AHeap} : Gives (cw Tryz.prog (tabF tab) om1 7 [] H) fun v H' => Ext H H' ∧ v = .bool true := by
 rw [cw_run (F := F_lontartop_awake) rfl rfl rfl]
 unfold F_lontartop_awake k_lontartop_awake
 obtain ⟨H1, v1, x1, i1⟩ := v_u5 (H := H) (a := 84) (b := 105) (c := 170) (d := 110) (e := 103)
 obtain ⟨v2, H2, c2, x2, o2, rfl, ho2, hf2⟩ := c_run1 i1
 have c2 : cw Tryz.prog (tabF tab) om1 8 [.string ⟨#[118, 105, 115, 99, 105, 105]⟩, .string ⟨#[117, 116, 102, 45, 56]⟩, .int .i64 0, .slice (some ⟨H.n, 0, none⟩) 5 6] H1 = some (.tuple ⟨[o2, .agg ⟨[.int .i64 0, .int .i64 0, .int .i64 0]⟩, .int .i64 0]⟩, H2) := c2
 obtain ⟨H3, hH3⟩ : ∃ H3, H3 = H2.push ⟨[.int .i64 0, .int .i64 0, .int .i64 0], 27, .tip, 1, []⟩ := ⟨_, rfl⟩
 have x3 : Ext H2 H3 := by rw [hH3]; exact Ext.push H2 _
 have g3 : H3.get H2.n = some ⟨[.int .i64 0, .int .i64 0, .int .i64 0], 27, .tip, 1, []⟩ := by rw [hH3]; exact get_push_self
 have st3 := fa_store (H := H2.push ⟨[.int .i64 0, .int .i64 0, .int .i64 0], 27, .tip, 0, []⟩) (i := H2.n) (ver := 0) (el := 27) (a := .int .i64 0) (b := .int .i64 0) (c := .int .i64 0) (u := .int .i64 0) (v := .int .i64 0) (x := .int .i64 0) rfl
 simp only [Nat.zero_add] at st3
 obtain ⟨H4, hH4⟩ : ∃ H4, H4 = H3.push ⟨[.int .u8 224, .int .u8 164, .int .u8 149, .int .u8 97, .int .u8 224, .int .u8 166, .int .u8 149], 5, .tip, 0, []⟩ := ⟨_, rfl⟩
 have x4 : Ext H3 H4 := by rw [hH4]; exact Ext.push H3 _
 have g4 : H4.get H3.n = some ⟨[.int .u8 224, .int .u8 164, .int .u8 149, .int .u8 97, .int .u8 224, .int .u8 166, .int .u8 149], 5, .tip, 0, []⟩ := by rw [hH4]; exact get_push_self
 have f4 := fix_tip (n := 7) (c := 8) g4 (by decide)
 obtain ⟨H5, hH5⟩ : ∃ H5, H5 = H4.upd H3.n ⟨[.int .u8 224, .int .u8 164, .int .u8 149, .int .u8 97, .int .u8 224, .int .u8 166, .int .u8 149], 5, .ret, 0, []⟩ := ⟨_, rfl⟩
 rw [← hH5] at f4
 have x5 : Ext H3 H5 := by rw [hH5]; exact Ext.upd x4 g4 (Nat.le_refl _)
 have g5 : H5.get H3.n = some ⟨[.int .u8 224, .int .u8 164, .int .u8 149, .int .u8 97, .int .u8 224, .int .u8 166, .int .u8 149], 5, .ret, 0, []⟩ := by rw [hH5]; exact upd_self g4
 have i5 : Nums H5 .u8 (.slice (some ⟨H3.n, 0, none⟩) 7 8) txt2 := Sl.new (n := 7) (c := 8) g5 mem_ret rfl
 obtain ⟨v6, H6, c6, x6, o6, rfl, ho6, hf6⟩ := c_run2 i5
 have c6 : cw Tryz.prog (tabF tab) om1 8 [.string ⟨#[117, 116, 102, 45, 56]⟩, .string ⟨#[105, 115, 99, 105, 105]⟩, .int .i64 0, .slice (some ⟨H3.n, 0, none⟩) 7 8] H5 = some (.tuple ⟨[o6, .agg ⟨[.int .i64 0, .int .i64 0, .int .i64 0]⟩, .int .i64 0]⟩, H6) := c6
 obtain ⟨H7, hH7⟩ : ∃ H7, H7 = H6.push ⟨[.int .i64 0, .int .i64 0, .int .i64 0], 27, .tip, 1, []⟩ := ⟨_, rfl⟩
 have x7 : Ext H6 H7 := by rw [hH7]; exact Ext.push H6 _
 have g7 : H7.get H6.n = some ⟨[.int .i64 0, .int .i64 0, .int .i64 0], 27, .tip, 1, []⟩ := by rw [hH7]; exact get_push_self
 have st7 := fa_store (H := H6.push ⟨[.int .i64 0, .int .i64 0, .int .i64 0], 27, .tip, 0, []⟩) (i := H6.n) (ver := 0) (el := 27) (a := .int .i64 0) (b := .int .i64 0) (c := .int .i64 0) (u := .int .i64 0) (v := .int .i64 0) (x := .int .i64 0) rfl
 simp only [Nat.zero_add] at st7
 have x37 := (x5.trans x6).trans x7
 have g37 := x37.get g3
 have t2 := txt_own (Own.ext (x3.trans x37) ho2) t_out1
 have t6 := txt_own (Own.ext x7 ho6) t_out2
 have z0 : ((0 : Int) = 0) = True := by simp
 simp only [WA, isStore, isCall, isK, freshI, stampO, List.nil_append, Option.map_some, Option.map_none, Option.bind_some, List.map_cons, List.map_nil, if_true, if_false, Nat.reduceEqDiff, Int.reduceEq, Nat.reduceAdd, Nat.reduceMul, reduceCtorEq, eq_self, Int.reduceLT, Int.reduceLE, Int.reduceToNat, List.length_cons, List.length_nil, List.all_cons, List.all_nil, List.take_zero, List.drop_nil, List.append_nil, List.getElem?_cons_zero, List.getElem?_cons_succ, List.drop_succ_cons, List.drop_zero, List.take_succ_cons, List.cons_append, Nat.reduceLeDiff, Int.cast_ofNat_Int, v1, c2, st3, ← hH3, v_u7, ← hH4, st_fix, f4, c6, st7, ← hH7, z0, g37, g7, st_b2s, t2, t6, st_bin gS, q_out1, q_out2]
 exact (x1.trans (x2.trans (x3.trans x37)))
structure MA (kk : Nat) (H0 H : AHeap) (v out x : Value) (L : List Rl) (us : List Int) (i : Nat) (s : List Tok × List Int × Int × Int) : Prop where
 md : MDec kk H v L s.2.1 s.2.2.1 s.2.2.2
 own : OwnToks Tryz.prog H 36 out s.1
 frm : From H0.n out
 int : Ints H x us
 cut : Cut Tryz.prog H x 1
 n : H0.n ≤ H.n
 low : ∀ j, j < kk → H.get j = H0.get j
 wt : Wt L s.2.1
 a0 : 0 ≤ s.2.2.1
 an : s.2.2.1 + s.2.1.length = i
 st0 : 0 ≤ s.2.2.2
 stn : s.2.2.2 ≤ 8 * s.2.2.1 + 8 * i
 tn : (s.1.length : Int) ≤ s.2.2.1
theorem MDec.right {k : Nat} {H : AHeap} {v : Value} {L : List Rl} {w : List Int} {a st : Int} (h : MDec k H v L w a st) : Right L := by
 obtain ⟨d, m, t, ver, _, _, _, h4⟩ := h.md
 exact h4.trie.right
theorem MA.gather {kk : Nat} {H0 H H1 : AHeap} {v out x tv : Value} {L : List Rl} {us : List Int} {T T' : List Tok} {w : List Int} {a st : Int} (hkk : kk ≤ H0.n) (hown : OwnToks Tryz.prog H 36 out T) (hf : From H0.n out) (hi : Ints H x us) (hc : Cut Tryz.prog H x 1) (hn : H0.n ≤ H.n) (hlow : ∀ j, j < kk → H.get j = H0.get j) (hM : MDec kk H1 v L w a st) (hv : OwnToks Tryz.prog H1 36 tv T') (hk : Kx H H1) (hl1 : ∀ j, j < kk → H1.get j = H.get j) (hlen : T.length + T'.length < 1000000) :
  ∃ v2 H2, appendA H1 out tv 36 4 48 = some (v2, H2) ∧ MDec kk H2 v L w a st ∧ OwnToks Tryz.prog H2 36 v2 (T ++ T') ∧ From H0.n v2 ∧ Ints H2 x us ∧ Cut Tryz.prog H2 x 1 ∧ H0.n ≤ H2.n ∧ ∀ j, j < kk → H2.get j = H0.get j := by
 have hown1 := OwnToks.kx hk hown
 obtain ⟨i1, i2⟩ := Ints.kx hk hi hc
 obtain ⟨v2, H2, m1, m2, m3, m4, m5, m6⟩ := hown1.append tokQ_mono (bytes := 48) hv.rws (fun _ => hv.rws.ones) (by omega) (by omega)
 have hk1 := hk.1
 have hno : ∀ j b, H1.get j = some b → b.elem ≠ 36 → H2.get j = some b := fun j b hj he => by
  obtain ⟨q0, cs, q1, q2⟩ := hown1
  rw [m6 j (AHeap.lt_of_get hj) (q1.notAt_elem hj he)]
  exact hj
 obtain ⟨i3, i4⟩ := i1.elem (P := Tryz.prog) i2 hel4 (by decide) hno
 refine ⟨v2, H2, m1, hM.keep m5 (fun j b hj hbe => hno j b hj (fun e => by rw [e] at hbe; exact absurd hbe (by decide))), m2, ?_, i3, i4, by omega, fun j hj => ?_⟩
 ·rcases m3 with h | rfl
  ·exact h.mono (by omega)
  ·exact hf
 ·rw [m6 j (by omega) (NotAt.of_from hf (by omega)), hl1 j hj, hlow j hj]
theorem MA.put {kk : Nat} {H0 H : AHeap} {v out x : Value} {L : List Rl} {us : List Int} {i : Nat} {s : List Tok × List Int × Int × Int} {u : Int} (hkk : kk ≤ H0.n) (h : MA kk H0 H v out x L us i s) (hi : i < 1000) :
  ∃ tv H1 v2 H2, invA Tryz.prog (cw Tryz.prog (tabF tab) om1) v "Put" [.int .i64 u] H = some (tv, H1) ∧ appendA H1 out tv 36 4 48 = some (v2, H2) ∧ MA kk H0 H2 v v2 x L us (i + 1) (nxt L u s) := by
 have hR := h.md.right
 obtain ⟨T, w, a, st⟩ := s
 obtain ⟨h1, h2, h3, h31, h32, h33, h34, h4, h5, h6, h7, h8, h9⟩ := h
 simp only at h1 h2 h4 h5 h6 h7 h8 h9
 have hl := h4.len hR
 have hsq : ((w.length : Int) + 1) * ((w.length : Int) + 1) ≤ 8 * 8 := Int.mul_le_mul (by omega) (by omega) (by omega) (by omega)
 obtain ⟨tv, H1, c1, r1, r2, r3, r4, r5⟩ := h1.put (u := u) (by omega) (by omega) (by omega)
 obtain ⟨b1, b2, b3, b4, b5⟩ := put_bd hR (u := u) (a := a) (st := st) h4
 obtain ⟨v2, H2, m1, m2, m3, m4, m5, m6, m7, m8⟩ := MA.gather hkk h2 h3 h31 h32 h33 h34 r1 r2 r4 (low_of (Nat.le_refl _) h1.kn r5) (by omega)
 refine ⟨tv, H1, v2, H2, c1, m1, m2, m3, m4, m5, m6, m7, m8, Wt.put hR, ?_, ?_, ?_, ?_, ?_⟩ <;> unfold nxt <;> simp only [List.length_append, Int.natCast_add] <;> omega
theorem MA.finish {kk : Nat} {H0 H : AHeap} {v out x : Value} {L : List Rl} {us : List Int} {i : Nat} {s : List Tok × List Int × Int × Int} (hkk : kk ≤ H0.n) (h : MA kk H0 H v out x L us i s) (hi : i < 1000) :
  ∃ tv H1 v2 H2, invA Tryz.prog (cw Tryz.prog (tabF tab) om1) v "End" [] H = some (tv, H1) ∧ appendA H1 out tv 36 4 48 = some (v2, H2) ∧ OwnToks Tryz.prog H2 36 v2 (s.1 ++ allU L s.2.1 s.2.2.1) ∧ Ints H2 x us ∧ Cut Tryz.prog H2 x 1 ∧ H0.n ≤ H2.n ∧ ∀ j, j < kk → H2.get j = H0.get j := by
 have hR := h.md.right
 obtain ⟨T, w, a, st⟩ := s
 obtain ⟨h1, h2, h3, h31, h32, h33, h34, h4, h5, h6, h7, h8, h9⟩ := h
 simp only at h1 h2 h4 h5 h6 h7 h8 h9
 have hl := h4.len hR
 have hsq : (w.length : Int) * (w.length : Int) ≤ 8 * 8 := Int.mul_le_mul (by omega) (by omega) (by omega) (by omega)
 obtain ⟨tv, H1, c1, r1, r2, r3, r4, r5⟩ := h1.fin (by omega) (by omega) (by omega)
 obtain ⟨e1, e2, e3⟩ := end_is hR (w := w) (a := a) (st := st)
 have hal := allU_len hR w.length w a (Nat.le_refl _)
 rw [e1] at r2
 obtain ⟨v2, H2, m1, m2, m3, m4, m5, m6, m7, m8⟩ := MA.gather hkk h2 h3 h31 h32 h33 h34 r1 r2 r4 (low_of (Nat.le_refl _) h1.kn r5) (by omega)
 exact ⟨tv, H1, v2, H2, c1, m1, m3, m5, m6, m7, m8⟩
def PMA (kk : Nat) (H0 : AHeap) (v x : Value) (L : List Rl) (us : List Int) (i : Nat) (s : List Tok × List Int × Int × Int) (y : AEx) (e' : Env) (H' : AHeap) : Prop := y = .exit 0 ∧ eget e' 0 = v ∧ MA kk H0 H' v (eget e' 5) x L us i s
theorem l_MAll {kk : Nat} {H0 : AHeap} {v x : Value} {L : List Rl} {us : List Int} (hkk : kk ≤ H0.n) (hus : us.length < 100) : ∀ (c i : Nat) (H : AHeap) (out : Value) (s : List Tok × List Int × Int × Int), i + c = us.length → MA kk H0 H v out x L us i s →
  Out (run Tryz.prog (tabF tab) om1 (.loop [0, 5, 8, 9, 10] b_machine_All_0) [(0, v), (5, out), (8, x), (9, .int .i64 us.length), (10, .int .i64 i)] H) (PMA kk H0 v x L us us.length (feed L (us.drop i) s)) := by
 intro c
 induction c with
 | zero =>
  intro i H out s hi h
  obtain rfl : i = us.length := by omega
  have z : (((us.length : Nat) : Int) < (us.length : Nat)) = False := by simp
  rw [w_loop_b b_machine_All_0.eq_1]
  rw [List.drop_of_length_le (Nat.le_refl _)]
  simp only [WA, isStore, isCall, isK, freshI, stampO, List.nil_append, Option.map_some, Option.map_none, Option.bind_some, List.map_cons, List.map_nil, if_true, if_false, Nat.reduceEqDiff, Int.reduceEq, Nat.reduceAdd, Nat.reduceMul, reduceCtorEq, eq_self, Int.reduceLT, Int.reduceLE, Int.reduceToNat, List.length_cons, List.length_nil, List.all_cons, List.all_nil, List.take_zero, List.drop_nil, List.append_nil, List.getElem?_cons_zero, List.getElem?_cons_succ, List.drop_succ_cons, List.drop_zero, List.take_succ_cons, List.cons_append, Nat.reduceLeDiff, Int.cast_ofNat_Int, z]
  exact ⟨rfl, rfl, h⟩
 | succ c ih =>
  intro i H out s hi h
  have hlt : ((i : Int) < (us.length : Nat)) = True := eq_true (by omega)
  obtain ⟨u, hu, hdx⟩ := drop_at (L := us) (i := i) (by omega)
  obtain ⟨ib, io, a1, a2⟩ := h.int.at hu
  have hw2 : IntKind.i64.wrap ((i : Int) + 1) = ((i + 1 : Nat) : Int) := by rw [wrap64 (by omega) (by omega)]; omega
  obtain ⟨tv, H1, v2, H2, c1, m1, m2⟩ := MA.put (u := u) hkk h (by omega)
  obtain ⟨y, e', H', r1, r2⟩ := ih (i + 1) H2 v2 (nxt L u s) (by omega) m2
  rw [hdx, feed_cons]
  rw [w_loop_b b_machine_All_0.eq_1]
  simp only [WA, isStore, isCall, isK, freshI, stampO, List.nil_append, Option.map_some, Option.map_none, Option.bind_some, List.map_cons, List.map_nil, if_true, if_false, Nat.reduceEqDiff, Int.reduceEq, Nat.reduceAdd, Nat.reduceMul, reduceCtorEq, eq_self, Int.reduceLT, Int.reduceLE, Int.reduceToNat, List.length_cons, List.length_nil, List.all_cons, List.all_nil, List.take_zero, List.drop_nil, List.append_nil, List.getElem?_cons_zero, List.getElem?_cons_succ, List.drop_succ_cons, List.drop_zero, List.take_succ_cons, List.cons_append, Nat.reduceLeDiff, Int.cast_ofNat_Int, hlt, a1, a2, st_inv, c1, m1, hw2]
  rw [w_enter]
  simp only [WA, isStore, isCall, isK, freshI, stampO, List.nil_append, Option.map_some, Option.map_none, Option.bind_some, List.map_cons, List.map_nil, if_true, if_false, Nat.reduceEqDiff, Int.reduceEq, Nat.reduceAdd, Nat.reduceMul, reduceCtorEq, eq_self, Int.reduceLT, Int.reduceLE, Int.reduceToNat, List.length_cons, List.length_nil, List.all_cons, List.all_nil, List.take_zero, List.drop_nil, List.append_nil, List.getElem?_cons_zero, List.getElem?_cons_succ, List.drop_succ_cons, List.drop_zero, List.take_succ_cons, List.cons_append, Nat.reduceLeDiff, Int.cast_ofNat_Int, r1]
  exact r2
theorem c_MAll {kk : Nat} {v x : Value} {L : List Rl} {us : List Int} {H : AHeap} (hM : MDec kk H v L [] 0 0) (hi : Ints H x us) (hc : Cut Tryz.prog H x 1) (hus : us.length < 100) : Gives (cw Tryz.prog (tabF tab) om1 21 [v, x] H) fun w H' => OwnToks Tryz.prog H' 36 w (allU L us 0) ∧ Ints H' x us ∧ Cut Tryz.prog H' x 1 ∧ H.n ≤ H'.n ∧ ∀ j, j < kk → H'.get j = H.get j := by
 rw [cw_run (F := F_machine_All) rfl rfl rfl]
 unfold F_machine_All k_machine_All
 have hl := fun H9 => hi.len (H2 := H9)
 have hkk := hM.kn
 obtain ⟨y, e', H1, r1, rfl, r2, r3⟩ := l_MAll (H0 := H) hkk hus us.length 0 H (.slice none 0 0) ([], [], 0, 0) (by omega) ⟨hM, OwnRws.nil, trivial, hi, hc, Nat.le_refl _, fun _ _ => rfl, ⟨.inl rfl⟩, Int.le_refl _, rfl, Int.le_refl _, by decide, Int.le_refl _⟩
 rw [List.drop_zero] at r3
 rw [show ((0 : Nat) : Int) = 0 from rfl] at r1
 obtain ⟨tv, H2, v2, H3, c2, m1, m2, m3, m4, m5, m6⟩ := MA.finish hkk r3 (by omega)
 obtain ⟨f1, _⟩ := feed_all hM.right us ([], [], 0, 0) ⟨.inl rfl⟩
 rw [f1] at m2
 simp only [WA, isStore, isCall, isK, freshI, stampO, List.nil_append, Option.map_some, Option.map_none, Option.bind_some, List.map_cons, List.map_nil, if_true, if_false, Nat.reduceEqDiff, Int.reduceEq, Nat.reduceAdd, Nat.reduceMul, reduceCtorEq, eq_self, Int.reduceLT, Int.reduceLE, Int.reduceToNat, List.length_cons, List.length_nil, List.all_cons, List.all_nil, List.take_zero, List.drop_nil, List.append_nil, List.getElem?_cons_zero, List.getElem?_cons_succ, List.drop_succ_cons, List.drop_zero, List.take_succ_cons, List.cons_append, Nat.reduceLeDiff, Int.cast_ofNat_Int, hl]
 rw [w_enter]
 simp only [WA, isStore, isCall, isK, freshI, stampO, List.nil_append, Option.map_some, Option.map_none, Option.bind_some, List.map_cons, List.map_nil, if_true, if_false, Nat.reduceEqDiff, Int.reduceEq, Nat.reduceAdd, Nat.reduceMul, reduceCtorEq, eq_self, Int.reduceLT, Int.reduceLE, Int.reduceToNat, List.length_cons, List.length_nil, List.all_cons, List.all_nil, List.take_zero, List.drop_nil, List.append_nil, List.getElem?_cons_zero, List.getElem?_cons_succ, List.drop_succ_cons, List.drop_zero, List.take_succ_cons, List.cons_append, Nat.reduceLeDiff, Int.cast_ofNat_Int, r1, r2, st_inv, c2, m1]
 exact ⟨m2, m3, m4, m5, m6⟩
def nmL : List Value := (List.range 8).map fun k => .string (nm k)
theorem c_Names (H : AHeap) : cw Tryz.prog (tabF tab) om1 27 [] H = some (.slice (some ⟨H.n, 0, none⟩) 8 9, H.push ⟨nmL, 9, .tip, 0, []⟩) := cw_of 3 (by kernel_rfl)
theorem nmL_at {k : Nat} (hk : k < 8) : nmL[k]? = some (.string (nm k)) := by
 unfold nmL
 rw [List.getElem?_map, List.getElem?_range hk]
 rfl
theorem c_nameT {n : Int} {H : AHeap} (hn : 0 ≤ n ∧ n < 256) : Gives (cw Tryz.prog (tabF tab) om1 9 [.int .u8 n] H) fun v H' => Ext H H' ∧ v = .string (nm (n % 8).toNat) := by
 rw [cw_run (F := F_lontartop_name) rfl rfl rfl]
 unfold F_lontartop_name k_lontartop_name
 have x1 := Ext.push H ⟨nmL, 9, .tip, 0, []⟩
 have g1 := get_push_self (H := H) (b := ⟨nmL, 9, .tip, 0, []⟩)
 have hs : Sl (H.push ⟨nmL, 9, .tip, 0, []⟩) 1 (.slice (some ⟨H.n, 0, none⟩) 8 9) 8 nmL := Sl.new (n := 8) (c := 9) g1 mem_tip rfl
 have hk : (n % 8).toNat < 8 := by omega
 obtain ⟨i, o, a1, a2, _⟩ := Sl.at hs hk
 have a3 : gotLoad ((H.push ⟨nmL, 9, .tip, 0, []⟩).get i) o none (H.push ⟨nmL, 9, .tip, 0, []⟩) = some (.string (nm (n % 8).toNat), H.push ⟨nmL, 9, .tip, 0, []⟩) := a2 0 _ (by omega) (by rw [Nat.mul_one, Nat.add_zero]; exact nmL_at hk)
 have hl := fun H9 => Sl.len (H2 := H9) hs
 have hw : IntKind.i64.wrap n = n := wrap64 (by omega) (by omega)
 have hq : intOp .rem .i64 n 8 = some (.int .i64 (((n % 8).toNat : Nat) : Int)) := by rw [int_rem (by decide), Int.tmod_eq_emod_of_nonneg hn.1]; congr 2; omega
 have z : ((8 : Int) = 0) = False := by simp
 have z8 : ((8 : Nat) : Int) = 8 := rfl
 rw [z8] at hl
 simp only [WA, isStore, isCall, isK, freshI, stampO, List.nil_append, Option.map_some, Option.map_none, Option.bind_some, List.map_cons, List.map_nil, if_true, if_false, Nat.reduceEqDiff, Int.reduceEq, Nat.reduceAdd, Nat.reduceMul, reduceCtorEq, eq_self, Int.reduceLT, Int.reduceLE, Int.reduceToNat, List.length_cons, List.length_nil, List.all_cons, List.all_nil, List.take_zero, List.drop_nil, List.append_nil, List.getElem?_cons_zero, List.getElem?_cons_succ, List.drop_succ_cons, List.drop_zero, List.take_succ_cons, List.cons_append, Nat.reduceLeDiff, Int.cast_ofNat_Int, c_Names, hl, z, hw, hq, a1, a3]
 exact x1
theorem vI_take {P : Program} {H : AHeap} {v : Value} {l : List Int} {k : Nat} (h : Nums H .u8 v l) (hc : Cut P H v 1) (hk : k ≤ l.length) : ∃ v', (∀ kd : IntKind, vSlice (P := P) v none (some (.int kd k)) 1 H = some (v', H)) ∧ Nums H .u8 v' (l.take k) := by
 obtain ⟨v', g1, g2, _⟩ := Sl.take h hc hk
 refine ⟨v', g1, ?_⟩
 unfold Nums
 rw [List.length_take, Nat.min_eq_left hk]
 simpa [List.map_take] using g2
def PB9 (l : List Int) (H0 : AHeap) (y : AEx) (e' : Env) (H' : AHeap) : Prop := y = .exit 0 ∧ OwnI H' (eget e' 3) l ∧ From H0.n (eget e' 3) ∧ Ext H0 H'
theorem l_B9 {H0 : AHeap} {x : Value} {l : List Int} (hx : Nums H0 .u8 x l) (hb : ∀ u ∈ l, 0 ≤ u ∧ u < 256) (hl : l.length < 100) : ∀ (c k : Nat) (H : AHeap) (v : Value), k + c = l.length → OwnI H v (l.take k) → From H0.n v → Ext H0 H →
  Out (run Tryz.prog (tabF tab) om1 (.loop [3, 10, 11, 12] b_lontarlaw19_Bytes_0) [(3, v), (10, x), (11, .int .i64 l.length), (12, .int .i64 k)] H) (PB9 l H0) := by
 intro c
 induction c with
 | zero =>
  intro k H v hk ho hf he
  obtain rfl : k = l.length := by omega
  have z : (((l.length : Nat) : Int) < (l.length : Nat)) = False := by simp
  rw [w_loop_b b_lontarlaw19_Bytes_0.eq_1]
  simp only [WA, isStore, isCall, isK, freshI, stampO, List.nil_append, Option.map_some, Option.map_none, Option.bind_some, List.map_cons, List.map_nil, if_true, if_false, Nat.reduceEqDiff, Int.reduceEq, Nat.reduceAdd, Nat.reduceMul, reduceCtorEq, eq_self, Int.reduceLT, Int.reduceLE, Int.reduceToNat, List.length_cons, List.length_nil, List.all_cons, List.all_nil, List.take_zero, List.drop_nil, List.append_nil, List.getElem?_cons_zero, List.getElem?_cons_succ, List.drop_succ_cons, List.drop_zero, List.take_succ_cons, List.cons_append, Nat.reduceLeDiff, Int.cast_ofNat_Int, z]
  rw [List.take_of_length_le (Nat.le_refl _)] at ho
  exact ⟨rfl, ho, hf, he⟩
 | succ c ih =>
  intro k H v hk ho hf he
  have hlt : ((k : Int) < (l.length : Nat)) = True := eq_true (by omega)
  obtain ⟨u, hu, _⟩ := drop_at (L := l) (i := k) (by omega)
  obtain ⟨u0, u1⟩ := hb u (List.mem_of_getElem? hu)
  obtain ⟨i, o, a1, a2⟩ := (hx.ext he).at hu
  have hw : IntKind.i64.wrap u = u := wrap64 (by omega) (by omega)
  have hw2 : IntKind.i64.wrap ((k : Int) + 1) = ((k + 1 : Nat) : Int) := by rw [wrap64 (by omega) (by omega)]; omega
  obtain ⟨H1, v1, x1, i1, _⟩ := new_one (H := H) (a := u)
  obtain ⟨w, H2, m1, m2, m3, m4, m5⟩ := OwnI.add2 (Own.ext x1 ho) hf (he.trans x1) i1 (by simp; omega)
  have ht : l.take k ++ [u] = l.take (k + 1) := by rw [List.take_add_one, hu]; rfl
  rw [ht] at m2
  obtain ⟨y, e', H', r1, r2⟩ := ih (k + 1) H2 w (by omega) m2 m3 m4
  rw [w_loop_b b_lontarlaw19_Bytes_0.eq_1]
  simp only [WA, isStore, isCall, isK, freshI, stampO, List.nil_append, Option.map_some, Option.map_none, Option.bind_some, List.map_cons, List.map_nil, if_true, if_false, Nat.reduceEqDiff, Int.reduceEq, Nat.reduceAdd, Nat.reduceMul, reduceCtorEq, eq_self, Int.reduceLT, Int.reduceLE, Int.reduceToNat, List.length_cons, List.length_nil, List.all_cons, List.all_nil, List.take_zero, List.drop_nil, List.append_nil, List.getElem?_cons_zero, List.getElem?_cons_succ, List.drop_succ_cons, List.drop_zero, List.take_succ_cons, List.cons_append, Nat.reduceLeDiff, Int.cast_ofNat_Int, hlt, a1, a2, hw, v1, m1, hw2]
  rw [w_enter]
  simp only [WA, isStore, isCall, isK, freshI, stampO, List.nil_append, Option.map_some, Option.map_none, Option.bind_some, List.map_cons, List.map_nil, if_true, if_false, Nat.reduceEqDiff, Int.reduceEq, Nat.reduceAdd, Nat.reduceMul, reduceCtorEq, eq_self, Int.reduceLT, Int.reduceLE, Int.reduceToNat, List.length_cons, List.length_nil, List.all_cons, List.all_nil, List.take_zero, List.drop_nil, List.append_nil, List.getElem?_cons_zero, List.getElem?_cons_succ, List.drop_succ_cons, List.drop_zero, List.take_succ_cons, List.cons_append, Nat.reduceLeDiff, Int.cast_ofNat_Int, r1]
  exact r2
theorem c_B9 {x : Value} {l : List Int} {H : AHeap} (hx : Nums H .u8 x l) (hc : Cut Tryz.prog H x 1) (hb : ∀ u ∈ l, 0 ≤ u ∧ u < 256) (ht : l.length < 4611686018427387904) : Gives (cw Tryz.prog (tabF tab) om1 19 [x] H) fun v H' => Ext H H' ∧ OwnI H' v (l.take 60) := by
 rw [cw_run (F := F_lontarlaw19_Bytes) rfl rfl rfl]
 unfold F_lontarlaw19_Bytes k_lontarlaw19_Bytes
 have hl := fun H9 => Nums.len (H2 := H9) hx
 obtain ⟨k, hk, hk60, hmin⟩ : ∃ k : Nat, k ≤ l.length ∧ l.take k = l.take 60 ∧ (if 60 < (l.length : Int) then 60 else (l.length : Int)) = k := by
  by_cases h : l.length ≤ 60
  ·exact ⟨l.length, Nat.le_refl _, by rw [List.take_of_length_le (Nat.le_refl _), List.take_of_length_le (by omega)], by rw [if_neg (by omega)]⟩
  ·exact ⟨60, by omega, rfl, by rw [if_pos (by omega)]; rfl⟩
 obtain ⟨x2, s1, s2⟩ := vI_take (P := Tryz.prog) hx hc hk
 rw [hk60] at s2
 have hl2 := fun H9 => Nums.len (H2 := H9) s2
 obtain ⟨y, e', H1, r1, rfl, r2, r3, r4⟩ := l_B9 (x := x2) s2 (fun u hu => hb u (List.mem_of_mem_take hu)) (by rw [List.length_take]; omega) (l.take 60).length 0 H (.slice none 0 0) (by omega) OwnI.nil trivial (Ext.refl _)
 rw [show ((0 : Nat) : Int) = 0 from rfl] at r1
 simp only [WA, isStore, isCall, isK, freshI, stampO, List.nil_append, Option.map_some, Option.map_none, Option.bind_some, List.map_cons, List.map_nil, if_true, if_false, Nat.reduceEqDiff, Int.reduceEq, Nat.reduceAdd, Nat.reduceMul, reduceCtorEq, eq_self, Int.reduceLT, Int.reduceLE, Int.reduceToNat, List.length_cons, List.length_nil, List.all_cons, List.all_nil, List.take_zero, List.drop_nil, List.append_nil, List.getElem?_cons_zero, List.getElem?_cons_succ, List.drop_succ_cons, List.drop_zero, List.take_succ_cons, List.cons_append, Nat.reduceLeDiff, Int.cast_ofNat_Int, hl, hmin, s1, hl2]
 rw [w_enter]
 simp only [WA, isStore, isCall, isK, freshI, stampO, List.nil_append, Option.map_some, Option.map_none, Option.bind_some, List.map_cons, List.map_nil, if_true, if_false, Nat.reduceEqDiff, Int.reduceEq, Nat.reduceAdd, Nat.reduceMul, reduceCtorEq, eq_self, Int.reduceLT, Int.reduceLE, Int.reduceToNat, List.length_cons, List.length_nil, List.all_cons, List.all_nil, List.take_zero, List.drop_nil, List.append_nil, List.getElem?_cons_zero, List.getElem?_cons_succ, List.drop_succ_cons, List.drop_zero, List.take_succ_cons, List.cons_append, Nat.reduceLeDiff, Int.cast_ofNat_Int, r1]
 exact ⟨r4, r2⟩
noncomputable def nilR (x : Option (Value × AHeap)) : Bool := match x with
 | some (.slice none 0 0, H0) => okH H0
 | _ => false
theorem k_nil0 : nilR (runR (nm 0)) = true := by kernel_rfl
theorem k_nil7 : nilR (runR (nm 7)) = true := by kernel_rfl
theorem c_rulesN {k : Nat} {H : AHeap} (h2 : (nm k).data.toList ≠ (nm 2).data.toList) (h : nilR (runR (nm k)) = true) : Gives (cw Tryz.prog (tabF tab) om1 39 [.string (nm k)] H) fun v H' => Ext H H' ∧ v = .slice none 0 0 := by
 unfold nilR at h
 split at h
 case h_2 => cases h
 rename_i H0 he
 refine ⟨_, _, cw_omega ?_, joinH_ext H H0, rfl⟩
 unfold om1
 simp only
 rw [if_neg h2, he]
 unfold laidO
 simp only
 rw [if_pos h]
 rfl
theorem c_TableN {k : Nat} {H : AHeap} (h2 : (nm k).data.toList ≠ (nm 2).data.toList) (h : nilR (runR (nm k)) = true) : Gives (cw Tryz.prog (tabF tab) om1 17 [.string (nm k)] H) fun v H' => Ext H H' ∧ v = .pointer none := by
 rw [cw_run (F := F_codec_Table) rfl rfl rfl]
 unfold F_codec_Table k_codec_Table
 obtain ⟨v1, H1, c1, x1, rfl⟩ := c_rulesN (H := H) h2 h
 have hn : ∀ H2, vIsNil 1 false (.slice none 0 0) H2 = some (.bool true, H2) := fun _ => rfl
 simp only [WA, isStore, isCall, isK, freshI, stampO, List.nil_append, Option.map_some, Option.map_none, Option.bind_some, List.map_cons, List.map_nil, if_true, if_false, Nat.reduceEqDiff, Int.reduceEq, Nat.reduceAdd, Nat.reduceMul, reduceCtorEq, eq_self, Int.reduceLT, Int.reduceLE, Int.reduceToNat, List.length_cons, List.length_nil, List.all_cons, List.all_nil, List.take_zero, List.drop_nil, List.append_nil, List.getElem?_cons_zero, List.getElem?_cons_succ, List.drop_succ_cons, List.drop_zero, List.take_succ_cons, List.cons_append, Nat.reduceLeDiff, Int.cast_ofNat_Int, c1, hn]
 exact x1
theorem v_idec {H : AHeap} {t : TypeId} {d : Nat} : vBuild [.nilIface, .int .i64 0] [(0, 1, .iface t (.pointer (some ⟨d, 0, none⟩)))] H = some (.agg ⟨[.iface t (.pointer (some ⟨d, 0, none⟩)), .int .i64 0]⟩, H) := rfl
theorem c_IDecode {H : AHeap} : Gives (cw Tryz.prog (tabF tab) om1 42 [] H) fun v H' => Ext H H' ∧ ∃ i, v = .pointer (some ⟨i, 0, none⟩) := by
 rw [cw_run (F := F_iscii_Decode) rfl rfl rfl]
 unfold F_iscii_Decode k_iscii_Decode
 obtain ⟨v1, H1, c1, x1, q, rfl, hT⟩ := c_Iall (H := H)
 obtain ⟨v2, H2, c2, x2, hM⟩ := c_MDecode hT
 obtain ⟨d, m, t, ver, rfl, _⟩ := hM.md
 have hbx := v_box (H := H2) (v := .agg ⟨[.iface 139 (.pointer (some ⟨d, 0, none⟩)), .int .i64 0]⟩) (el := 138) rfl
 simp only [WA, isStore, isCall, isK, freshI, stampO, List.nil_append, Option.map_some, Option.map_none, Option.bind_some, List.map_cons, List.map_nil, if_true, if_false, Nat.reduceEqDiff, Int.reduceEq, Nat.reduceAdd, Nat.reduceMul, reduceCtorEq, eq_self, Int.reduceLT, Int.reduceLE, Int.reduceToNat, List.length_cons, List.length_nil, List.all_cons, List.all_nil, List.take_zero, List.drop_nil, List.append_nil, List.getElem?_cons_zero, List.getElem?_cons_succ, List.drop_succ_cons, List.drop_zero, List.take_succ_cons, List.cons_append, Nat.reduceLeDiff, Int.cast_ofNat_Int, c1, c2, v_idec, hbx]
 exact ⟨(x1.trans x2).trans (Ext.push H2 _), _, rfl⟩
theorem c_DecI {H : AHeap} : Gives (cw Tryz.prog (tabF tab) om1 18 [.string (nm 7)] H) fun v H' => Ext H H' ∧ ∃ i, v = .tuple ⟨[.iface 102 (.pointer (some ⟨i, 0, none⟩)), .int .i64 0]⟩ := by
 rw [cw_run (F := F_codec_Decode) rfl rfl rfl]
 unfold F_codec_Decode k_codec_Decode
 have hn := c_Name (H := H) (k := 7) (by omega)
 have e0 := e_utf 7 (by omega)
 have e7 := e_iscii 7 (by omega)
 rw [show Nat.beq 7 0 = false from rfl] at e0
 rw [show Nat.beq 7 7 = true from rfl] at e7
 obtain ⟨v1, H1, c1, x1, i, rfl⟩ := c_IDecode (H := H)
 have z0 : ((0 : Int) ≠ 0) = False := by simp
 simp only [WA, isStore, isCall, isK, freshI, stampO, List.nil_append, Option.map_some, Option.map_none, Option.bind_some, List.map_cons, List.map_nil, if_true, if_false, Nat.reduceEqDiff, Int.reduceEq, Nat.reduceAdd, Nat.reduceMul, reduceCtorEq, eq_self, Int.reduceLT, Int.reduceLE, Int.reduceToNat, List.length_cons, List.length_nil, List.all_cons, List.all_nil, List.take_zero, List.drop_nil, List.append_nil, List.getElem?_cons_zero, List.getElem?_cons_succ, List.drop_succ_cons, List.drop_zero, List.take_succ_cons, List.cons_append, Nat.reduceLeDiff, Int.cast_ofNat_Int, hn, z0, st_bin gS, e0, e7, c1]
 exact ⟨x1, i, rfl⟩
def rulK : Nat → List Rl
 | 1 => ascR
 | 2 => RVis 256
 | 3 => Rtcvn
 | 4 => Rvni
 | 5 => Rtis
 | _ => Rtam
theorem c_TabK : ∀ k, 1 ≤ k → k ≤ 6 → ∀ H, Gives (cw Tryz.prog (tabF tab) om1 17 [.string (nm k)] H) fun v H' => Ext H H' ∧ ∃ q, v = .pointer (some ⟨q, 0, none⟩) ∧ TableOk H' q (rulK k)
 | 1, _, _, H => c_TableK (fun H => c_rules1) (by decide) ascR_right (Nat.le_of_ble_eq_true ascR_len) ascR_cls
 | 2, _, _, H => c_TableK (fun H => c_rules2) (by show (RVis 256).length ≠ 0; rw [RVis_len]; omega) RVis_right (by show (RVis 256).length ≤ 512; rw [RVis_len]; omega) RVis_cls
 | 3, _, _, H => c_TableK (fun H => c_rules3) (by decide) Rtcvn_right (Nat.le_of_ble_eq_true Rtcvn_len) Rtcvn_cls
 | 4, _, _, H => c_TableK (fun H => c_rules4) (by decide) Rvni_right (Nat.le_of_ble_eq_true Rvni_len) Rvni_cls
 | 5, _, _, H => c_TableK (fun H => c_rules5) (by decide) Rtis_right (Nat.le_of_ble_eq_true Rtis_len) Rtis_cls
 | 6, _, _, H => c_TableK (fun H => c_rules6) (by decide) Rtam_right (Nat.le_of_ble_eq_true Rtam_len) Rtam_cls
 | 0, h, _, _ => by omega
 | k + 7, _, h, _ => by omega
theorem allU_outs {L : List Rl} (hR : Right L) : ∀ (c : Nat) (us : List Int) (a : Int), us.length ≤ c → ∀ x ∈ allU L us a, x.out.length ≤ 8 := by
 intro c
 induction c with
 | zero =>
  intro us a h x hx
  have : us = [] := List.length_eq_zero_iff.1 (by omega)
  subst this
  cases hx
 | succ c ih =>
  intro us a h x hx
  by_cases hn : us = []
  ·subst hn; cases hx
  ·obtain ⟨n, e, n1, n2⟩ := oneT_len hR hn a
   rw [allU_cons hR hn, e] at hx
   rcases List.mem_cons.1 hx with rfl | hx
   ·exact oneT_out hR
   ·exact ih _ _ (by rw [List.length_drop, Int.toNat_natCast]; omega) x hx
theorem outs_len : ∀ (T : List Tok), (∀ x ∈ T, x.out.length ≤ 8) → (outs T).length ≤ 8 * T.length
 | [], _ => by simp [outs]
 | x :: T, h => by
  have h1 := h x (List.mem_cons_self ..)
  have h2 := outs_len T fun y hy => h y (List.mem_cons_of_mem _ hy)
  unfold outs at h2 ⊢
  rw [List.flatMap_cons, List.length_append, List.length_cons]
  omega
def PC9 (H0 : AHeap) (y : AEx) (e' : Env) (H' : AHeap) : Prop := y = .exit 0
theorem l_cmp {H0 : AHeap} {a b : Value} {l : List Int} (ha : Ints H0 a l) (hb : Ints H0 b l) (hl : l.length < 1000000000) : ∀ (c k : Nat), k + c = l.length →
  Out (run Tryz.prog (tabF tab) om1 (.loop [9, 11, 78, 79] b_lontartop_TopRewrite_0) [(9, a), (11, b), (78, .int .i64 l.length), (79, .int .i64 k)] H0) (PC9 H0) := by
 intro c
 induction c with
 | zero =>
  intro k hk
  obtain rfl : k = l.length := by omega
  have z : (((l.length : Nat) : Int) < (l.length : Nat)) = False := by simp
  rw [w_loop_b b_lontartop_TopRewrite_0.eq_1]
  simp only [WA, isStore, isCall, isK, freshI, stampO, List.nil_append, Option.map_some, Option.map_none, Option.bind_some, List.map_cons, List.map_nil, if_true, if_false, Nat.reduceEqDiff, Int.reduceEq, Nat.reduceAdd, Nat.reduceMul, reduceCtorEq, eq_self, Int.reduceLT, Int.reduceLE, Int.reduceToNat, List.length_cons, List.length_nil, List.all_cons, List.all_nil, List.take_zero, List.drop_nil, List.append_nil, List.getElem?_cons_zero, List.getElem?_cons_succ, List.drop_succ_cons, List.drop_zero, List.take_succ_cons, List.cons_append, Nat.reduceLeDiff, Int.cast_ofNat_Int, z]
  exact rfl
 | succ c ih =>
  intro k hk
  have hlt : ((k : Int) < (l.length : Nat)) = True := eq_true (by omega)
  obtain ⟨u, hu, _⟩ := drop_at (L := l) (i := k) (by omega)
  obtain ⟨i, o, a1, a2⟩ := ha.at hu
  obtain ⟨i2, o2, b1, b2⟩ := hb.at hu
  have z : (u ≠ u) = False := by simp
  have hw2 : IntKind.i64.wrap ((k : Int) + 1) = ((k + 1 : Nat) : Int) := by rw [wrap64 (by omega) (by omega)]; omega
  obtain ⟨y, e', H', r1, r2⟩ := ih (k + 1) (by omega)
  rw [w_loop_b b_lontartop_TopRewrite_0.eq_1]
  simp only [WA, isStore, isCall, isK, freshI, stampO, List.nil_append, Option.map_some, Option.map_none, Option.bind_some, List.map_cons, List.map_nil, if_true, if_false, Nat.reduceEqDiff, Int.reduceEq, Nat.reduceAdd, Nat.reduceMul, reduceCtorEq, eq_self, Int.reduceLT, Int.reduceLE, Int.reduceToNat, List.length_cons, List.length_nil, List.all_cons, List.all_nil, List.take_zero, List.drop_nil, List.append_nil, List.getElem?_cons_zero, List.getElem?_cons_succ, List.drop_succ_cons, List.drop_zero, List.take_succ_cons, List.cons_append, Nat.reduceLeDiff, Int.cast_ofNat_Int, hlt, a1, a2, b1, b2, z, hw2]
  rw [w_enter]
  simp only [WA, isStore, isCall, isK, freshI, stampO, List.nil_append, Option.map_some, Option.map_none, Option.bind_some, List.map_cons, List.map_nil, if_true, if_false, Nat.reduceEqDiff, Int.reduceEq, Nat.reduceAdd, Nat.reduceMul, reduceCtorEq, eq_self, Int.reduceLT, Int.reduceLE, Int.reduceToNat, List.length_cons, List.length_nil, List.all_cons, List.all_nil, List.take_zero, List.drop_nil, List.append_nil, List.getElem?_cons_zero, List.getElem?_cons_succ, List.drop_succ_cons, List.drop_zero, List.take_succ_cons, List.cons_append, Nat.reduceLeDiff, Int.cast_ofNat_Int, r1]
  exact r2
theorem law_Rewrite {x : Value} {l : List Int} {n : Int} {H : AHeap} (hx : Nums H .u8 x l) (hc : Cut Tryz.prog H x 1) (hb : ∀ u ∈ l, 0 ≤ u ∧ u < 256) (ht : l.length < 4611686018427387904) (hn : 0 ≤ n ∧ n < 256) : Gives (cw Tryz.prog (tabF tab) om1 6 [.int .u8 n, x] H) fun v H' => v = .bool true := by
 rw [cw_run (F := F_lontartop_TopRewrite) rfl rfl rfl]
 unfold F_lontartop_TopRewrite k_lontartop_TopRewrite
 obtain ⟨v1, H1, c1, x1, rfl⟩ := c_awake (H := H)
 obtain ⟨v2, H2, c2, x2, rfl⟩ := c_nameT (H := H1) hn
 obtain ⟨k, hk⟩ : ∃ k, k = (n % 8).toNat := ⟨_, rfl⟩
 rw [← hk] at c2
 have hk8 : k < 8 := by omega
 have zz : ((0 : Int) ≠ 0) = False := by simp
 have hq8 : intOp .rem .u8 n 8 = some (.int .u8 (k : Int)) := by rw [int_rem (by decide), Int.tmod_eq_emod_of_nonneg hn.1, hk]; congr 2; omega
 by_cases h07 : k = 0 ∨ k = 7
 ·obtain ⟨v3, H3, c3, x3, rfl⟩ : Gives (cw Tryz.prog (tabF tab) om1 17 [.string (nm k)] H2) fun v H' => Ext H2 H' ∧ v = .pointer none := by
   rcases h07 with rfl | rfl
   ·exact c_TableN (by decide) k_nil0
   ·exact c_TableN (by decide) k_nil7
  obtain ⟨v4, H4, c4, x4, rfl⟩ := c_nameT (H := H3) hn
  rw [← hk] at c4
  obtain ⟨v5, H5, c5, x5, t, u, rfl⟩ : Gives (cw Tryz.prog (tabF tab) om1 18 [.string (nm k)] H4) fun v H' => Ext H4 H' ∧ ∃ t u, v = .tuple ⟨[.iface t u, .int .i64 0]⟩ := by
   rcases h07 with rfl | rfl
   ·obtain ⟨v, H', c, x, rv, rfl, _, rfl, _⟩ := c_DecB (H := H4)
    exact ⟨_, H', c, x, _, _, rfl⟩
   ·obtain ⟨v, H', c, x, i, rfl⟩ := c_DecI (H := H4)
    exact ⟨_, H', c, x, _, _, rfl⟩
  have ni : ∀ H9, vIsNil 3 false (.iface t u) H9 = some (.bool false, H9) := fun _ => rfl
  have np : ∀ H9, vIsNil 0 false (.pointer none) H9 = some (.bool true, H9) := fun _ => rfl
  rcases h07 with rfl | rfl
  ·have z0 : (((0 : Nat) : Int) = 0) = True := by simp
   simp only [WA, isStore, isCall, isK, freshI, stampO, List.nil_append, Option.map_some, Option.map_none, Option.bind_some, List.map_cons, List.map_nil, if_true, if_false, Nat.reduceEqDiff, Int.reduceEq, Nat.reduceAdd, Nat.reduceMul, reduceCtorEq, eq_self, Int.reduceLT, Int.reduceLE, Int.reduceToNat, List.length_cons, List.length_nil, List.all_cons, List.all_nil, List.take_zero, List.drop_nil, List.append_nil, List.getElem?_cons_zero, List.getElem?_cons_succ, List.drop_succ_cons, List.drop_zero, List.take_succ_cons, List.cons_append, Nat.reduceLeDiff, Int.cast_ofNat_Int, c1, c2, c3, c4, c5, ni, zz, np, hq8, z0]
  ·have z0 : (((7 : Nat) : Int) = 0) = False := by simp
   have z7 : (((7 : Nat) : Int) = 7) = True := by simp
   simp only [WA, isStore, isCall, isK, freshI, stampO, List.nil_append, Option.map_some, Option.map_none, Option.bind_some, List.map_cons, List.map_nil, if_true, if_false, Nat.reduceEqDiff, Int.reduceEq, Nat.reduceAdd, Nat.reduceMul, reduceCtorEq, eq_self, Int.reduceLT, Int.reduceLE, Int.reduceToNat, List.length_cons, List.length_nil, List.all_cons, List.all_nil, List.take_zero, List.drop_nil, List.append_nil, List.getElem?_cons_zero, List.getElem?_cons_succ, List.drop_succ_cons, List.drop_zero, List.take_succ_cons, List.cons_append, Nat.reduceLeDiff, Int.cast_ofNat_Int, c1, c2, c3, c4, c5, ni, zz, np, hq8, z0, z7]
 ·have h07' := not_or.1 h07
  obtain ⟨v3, H3, c3, x3, q, rfl, hT3⟩ := c_TabK k (by omega) (by omega) H2
  obtain ⟨v4, H4, c4, x4, rfl⟩ := c_nameT (H := H3) hn
  rw [← hk] at c4
  obtain ⟨v5, H5, c5, x5, rv, rfl, _, kk, hkk, hM5⟩ := c_DecT (H := H4) hk8 (by omega) (by omega) (c_TabK k (by omega) (by omega))
  have ni : ∀ H9, vIsNil 3 false rv H9 = some (.bool false, H9) := fun _ => by
   obtain ⟨d, m, t, ver, rfl, _⟩ := hM5.md
   rfl
  have np : ∀ H9, vIsNil 0 false (.pointer (some ⟨q, 0, none⟩)) H9 = some (.bool false, H9) := fun _ => rfl
  have x05 : Ext H H5 := x1.trans (x2.trans (x3.trans (x4.trans x5)))
  obtain ⟨us, H6, c6, x6, o6⟩ := c_B9 (hx.ext x05) (hc.ext x05) hb ht
  have hM6 := hM5.keep x6.1 (fun j b hj _ => x6.get hj)
  have hul : (l.take 60).length < 100 := by rw [List.length_take]; omega
  obtain ⟨v7, H7, c7, t7, i7, k7, n7, low7⟩ := c_MAll hM6 o6.asI o6.cutI hul
  have hx34 := x4.1
  have hR := hM5.right
  have hout := allU_outs hR (l.take 60).length (l.take 60) 0 (Nat.le_refl _)
  have hlen := allU_len hR (l.take 60).length (l.take 60) 0 (Nat.le_refl _)
  have hol := outs_len _ hout
  have hol2 : (outs (allU (rulK k) (l.take 60) 0)).length < 1000000 := by omega
  have x37 : Ext H3 H7 := ⟨by have := x5.1; have := x6.1; omega, fun j hj => by
   rw [low7 j (by omega), x6.2 j (by have := x5.1; omega), x5.2 j (by omega), x4.2 j hj]⟩
  obtain ⟨v8, H8, c8, x8, va, p8, cc8, rfl, oa, fa, _⟩ := c_UT t7.rws (by omega)
  generalize hu : fstB tok0 (allU (rulK k) (l.take 60) 0) = u at *
  obtain ⟨H9, hH9⟩ : ∃ H9, H9 = H8.push ⟨tokC p8 cc8 u, 36, .tip, 1, []⟩ := ⟨_, rfl⟩
  have x9 : Ext H8 H9 := by rw [hH9]; exact Ext.push H8 _
  have g9 : H9.get H8.n = some ⟨tokC p8 cc8 u, 36, .tip, 1, []⟩ := by rw [hH9]; exact get_push_self
  have x79 := x8.trans x9
  have hT9 := hT3.ext (x37.trans x79)
  obtain ⟨ver, t1, t2, hg9, hT1, _⟩ := hT9.rest
  have cR := c_Read hg9
  obtain ⟨v10, H10, c10, x10, o10, _, _⟩ := c_AllR hT1 (i7.ext x79) (k7.ext x79) (by omega)
  obtain ⟨v11, H11, c11, x11, vb, p11, cc11, rfl, ob, fb, _⟩ := c_UT o10.rws (by omega)
  rw [hu] at c11
  obtain ⟨H12, hH12⟩ : ∃ H12, H12 = H11.push ⟨tokC p11 cc11 u, 36, .tip, 1, []⟩ := ⟨_, rfl⟩
  have x12 : Ext H11 H12 := by rw [hH12]; exact Ext.push H11 _
  have g12 : H12.get H11.n = some ⟨tokC p11 cc11 u, 36, .tip, 1, []⟩ := by rw [hH12]; exact get_push_self
  have x912 := x10.trans (x11.trans x12)
  have g912 := x912.get g9
  have ia : Ints H12 va (outs (allU (rulK k) (l.take 60) 0)) := (oa.asI.ext x9).ext x912
  have ib : Ints H12 vb (outs (allU (rulK k) (l.take 60) 0)) := ob.asI.ext x12
  have la := fun H9 => ia.len (H2 := H9)
  have lb := fun H9 => ib.len (H2 := H9)
  have nl : (((outs (allU (rulK k) (l.take 60) 0)).length : Int) ≠ ((outs (allU (rulK k) (l.take 60) 0)).length : Int)) = False := by simp
  have na : (u.at_ ≠ u.at_) = False := by simp
  have ne : (u.err ≠ u.err) = False := by simp
  obtain ⟨y, e', H13, r1, rfl⟩ := l_cmp ia ib (by omega) (outs (allU (rulK k) (l.take 60) 0)).length 0 (by omega)
  rw [show ((0 : Nat) : Int) = 0 from rfl] at r1
  simp only [WA, isStore, isCall, isK, freshI, stampO, List.nil_append, Option.map_some, Option.map_none, Option.bind_some, List.map_cons, List.map_nil, if_true, if_false, Nat.reduceEqDiff, Int.reduceEq, Nat.reduceAdd, Nat.reduceMul, reduceCtorEq, eq_self, Int.reduceLT, Int.reduceLE, Int.reduceToNat, List.length_cons, List.length_nil, List.all_cons, List.all_nil, List.take_zero, List.drop_nil, List.append_nil, List.getElem?_cons_zero, List.getElem?_cons_succ, List.drop_succ_cons, List.drop_zero, List.take_succ_cons, List.cons_append, Nat.reduceLeDiff, Int.cast_ofNat_Int, c1, c2, c3, c4, c5, ni, zz, np, c6, c7, c8, got_tok, ← hH9, cR, c10, c11, ← hH12, la, lb, nl, g912, g12, tk0, tk3, na, ne]
  rw [w_enter]
  simp only [WA, isStore, isCall, isK, freshI, stampO, List.nil_append, Option.map_some, Option.map_none, Option.bind_some, List.map_cons, List.map_nil, if_true, if_false, Nat.reduceEqDiff, Int.reduceEq, Nat.reduceAdd, Nat.reduceMul, reduceCtorEq, eq_self, Int.reduceLT, Int.reduceLE, Int.reduceToNat, List.length_cons, List.length_nil, List.all_cons, List.all_nil, List.take_zero, List.drop_nil, List.append_nil, List.getElem?_cons_zero, List.getElem?_cons_succ, List.drop_succ_cons, List.drop_zero, List.take_succ_cons, List.cons_append, Nat.reduceLeDiff, Int.cast_ofNat_Int, r1]
def bytes (l : List Int) : Prop := ∀ u ∈ l, 0 ≤ u ∧ u < 256
theorem op_u8s : Opener Tryz.prog 22 1 (List Int) (qSlice Tryz.prog 1 1 (qInt .u8)) := Opener.slice (Opener.int Tryz.underlying5) (qInt_mono _) Tryz.underlying22 (by kernel_rfl) (by kernel_rfl) (by decide) (by kernel_rfl)
abbrev qU8 : AHeap → List Value → List Int → Prop := qSlice Tryz.prog 1 1 (qInt .u8)
theorem bytes_of {L : List Int} (h : ∀ n ∈ L, (Lit.int .u8 n).wf = true) : bytes L := fun u hu => by
 have := h u hu
 simp [Lit.wf, IntKind.min, IntKind.max, IntKind.signed, IntKind.bits] at this
 omega
theorem reach_lt {n b : Nat} (h : n * b ≤ reachBytes) (hb : 0 < b) : n < 4611686018427387904 := by
 have h1 : n ≤ n * b := Nat.le_mul_of_pos_right _ hb
 unfold reachBytes at h
 omega
def U8s (H : AHeap) (v : Value) (L : List Int) : Prop := Nums H .u8 v L ∧ Cut Tryz.prog H v 1 ∧ bytes L ∧ tiny L
theorem u8s_of {H : AHeap} {acs : List Value} {L : List Int} (h : qU8 H acs L) : ∃ v, acs = [v] ∧ U8s H v L := by
 obtain ⟨v, h1, h2, h3, h4, h5⟩ := qSlice_nums h
 exact ⟨v, h1, h2, h3, bytes_of h5, reach_lt h4 (by decide)⟩
theorem slice_cells {W : World} {b : Nat} {t e : TypeId} {v : Value} (ht : Tryz.prog.underlying t = some (.slice e)) (hv : Value.okWide Tryz.prog W .any b t v) : v.cells.toList = [v] := by
 unfold Value.okWide at hv
 rw [ht] at hv
 simp only at hv
 unfold Cell.okWide at hv
 rw [ht] at hv
 cases v <;> first | rfl | (simp [Cell.ok, ht] at hv)
theorem law_RewriteU {x : Value} {l : List Int} {n : Int} {H : AHeap} (hx : U8s H x l) (hn : 0 ≤ n ∧ n < 256) : Gives (cw Tryz.prog (tabF tab) om1 6 [.int .u8 n, x] H) fun v H' => v = .bool true := law_Rewrite hx.1 hx.2.1 hx.2.2.1 hx.2.2.2 hn
end Go.Proofs.YtleiinhaljdcoaaGreatDoor
