/- What is proved here: what the program's functions come to, as far as the claimed statement asks. Conditions: those that each theorem names, and no others. -/
import Derived.Test.YtleiinhaljdcoaaGreatDoorP9
set_option linter.unusedSimpArgs false
set_option linter.unusedVariables false
namespace Go.Proofs.YtleiinhaljdcoaaGreatDoor
open Go Lon
set_option maxRecDepth 100000
def okS (s : Int) : Prop := 0 ≤ s ∧ s ≤ 1114111 ∧ (s < 55296 ∨ s > 57343)
theorem c_Scalar {s : Int} {H : AHeap} (h : okS s) : cw Tryz.prog (tabF tab) om1 49 [.int .i64 s] H = some (.bool true, H) := by
 obtain ⟨h1, h2, h3⟩ := h
 rw [cw_run (F := F_utf_Scalar) rfl rfl rfl]
 unfold F_utf_Scalar k_utf_Scalar
 have z1 : (s ≥ 0) = True := eq_true h1
 have z2 : (s ≤ 1114111) = True := eq_true h2
 by_cases h4 : s < 55296
 ·have z3 : (s < 55296) = True := eq_true h4
  simp only [WA, isStore, isCall, isK, freshI, stampO, List.nil_append, Option.map_some, Option.map_none, Option.bind_some, List.map_cons, List.map_nil, if_true, if_false, Nat.reduceEqDiff, Int.reduceEq, Nat.reduceAdd, Nat.reduceMul, reduceCtorEq, eq_self, Int.reduceLT, Int.reduceLE, Int.reduceToNat, List.length_cons, List.length_nil, List.all_cons, List.all_nil, List.take_zero, List.drop_nil, List.append_nil, List.getElem?_cons_zero, List.getElem?_cons_succ, List.drop_succ_cons, List.drop_zero, List.take_succ_cons, List.cons_append, Nat.reduceLeDiff, Int.cast_ofNat_Int, z1, z2, z3]
 ·have z3 : (s < 55296) = False := eq_false h4
  have z4 : (s > 57343) = True := eq_true (h3.resolve_left h4)
  simp only [WA, isStore, isCall, isK, freshI, stampO, List.nil_append, Option.map_some, Option.map_none, Option.bind_some, List.map_cons, List.map_nil, if_true, if_false, Nat.reduceEqDiff, Int.reduceEq, Nat.reduceAdd, Nat.reduceMul, reduceCtorEq, eq_self, Int.reduceLT, Int.reduceLE, Int.reduceToNat, List.length_cons, List.length_nil, List.all_cons, List.all_nil, List.take_zero, List.drop_nil, List.append_nil, List.getElem?_cons_zero, List.getElem?_cons_succ, List.drop_succ_cons, List.drop_zero, List.take_succ_cons, List.cons_append, Nat.reduceLeDiff, Int.cast_ofNat_Int, z1, z2, z3, z4]
def szF (s : Int) : Int := if s < 128 then 1 else if s < 2048 then 2 else if s < 65536 then 3 else 4
theorem c_Size {s : Int} {H : AHeap} (h : okS s) : cw Tryz.prog (tabF tab) om1 29 [.int .i64 s] H = some (.int .i64 (szF s), H) := by
 rw [cw_run (F := F_utf_Size) rfl rfl rfl]
 unfold F_utf_Size k_utf_Size szF
 have c1 := c_Scalar (H := H) h
 by_cases h1 : s < 128
 ·have z1 : (s < 128) = True := eq_true h1
  rw [if_pos h1]; simp only [WA, isStore, isCall, isK, freshI, stampO, List.nil_append, Option.map_some, Option.map_none, Option.bind_some, List.map_cons, List.map_nil, if_true, if_false, Nat.reduceEqDiff, Int.reduceEq, Nat.reduceAdd, Nat.reduceMul, reduceCtorEq, eq_self, Int.reduceLT, Int.reduceLE, Int.reduceToNat, List.length_cons, List.length_nil, List.all_cons, List.all_nil, List.take_zero, List.drop_nil, List.append_nil, List.getElem?_cons_zero, List.getElem?_cons_succ, List.drop_succ_cons, List.drop_zero, List.take_succ_cons, List.cons_append, Nat.reduceLeDiff, Int.cast_ofNat_Int, c1, z1]
 have z1 : (s < 128) = False := eq_false h1
 rw [if_neg h1]
 by_cases h2 : s < 2048
 ·have z2 : (s < 2048) = True := eq_true h2
  rw [if_pos h2]; simp only [WA, isStore, isCall, isK, freshI, stampO, List.nil_append, Option.map_some, Option.map_none, Option.bind_some, List.map_cons, List.map_nil, if_true, if_false, Nat.reduceEqDiff, Int.reduceEq, Nat.reduceAdd, Nat.reduceMul, reduceCtorEq, eq_self, Int.reduceLT, Int.reduceLE, Int.reduceToNat, List.length_cons, List.length_nil, List.all_cons, List.all_nil, List.take_zero, List.drop_nil, List.append_nil, List.getElem?_cons_zero, List.getElem?_cons_succ, List.drop_succ_cons, List.drop_zero, List.take_succ_cons, List.cons_append, Nat.reduceLeDiff, Int.cast_ofNat_Int, c1, z1, z2]
 have z2 : (s < 2048) = False := eq_false h2
 rw [if_neg h2]
 by_cases h3 : s < 65536
 ·have z3 : (s < 65536) = True := eq_true h3
  rw [if_pos h3]; simp only [WA, isStore, isCall, isK, freshI, stampO, List.nil_append, Option.map_some, Option.map_none, Option.bind_some, List.map_cons, List.map_nil, if_true, if_false, Nat.reduceEqDiff, Int.reduceEq, Nat.reduceAdd, Nat.reduceMul, reduceCtorEq, eq_self, Int.reduceLT, Int.reduceLE, Int.reduceToNat, List.length_cons, List.length_nil, List.all_cons, List.all_nil, List.take_zero, List.drop_nil, List.append_nil, List.getElem?_cons_zero, List.getElem?_cons_succ, List.drop_succ_cons, List.drop_zero, List.take_succ_cons, List.cons_append, Nat.reduceLeDiff, Int.cast_ofNat_Int, c1, z1, z2, z3]
 have z3 : (s < 65536) = False := eq_false h3
 rw [if_neg h3]; simp only [WA, isStore, isCall, isK, freshI, stampO, List.nil_append, Option.map_some, Option.map_none, Option.bind_some, List.map_cons, List.map_nil, if_true, if_false, Nat.reduceEqDiff, Int.reduceEq, Nat.reduceAdd, Nat.reduceMul, reduceCtorEq, eq_self, Int.reduceLT, Int.reduceLE, Int.reduceToNat, List.length_cons, List.length_nil, List.all_cons, List.all_nil, List.take_zero, List.drop_nil, List.append_nil, List.getElem?_cons_zero, List.getElem?_cons_succ, List.drop_succ_cons, List.drop_zero, List.take_succ_cons, List.cons_append, Nat.reduceLeDiff, Int.cast_ofNat_Int, c1, z1, z2, z3]
noncomputable def binC (op : BinOp) (t : TypeId) (w u : Value) : Option Value := if ground u = true then
  match pureRun Tryz.prog (do eqGuard op t (.const w) (.tmp 0) w u; Next.value <$> binOp op t w u) with
  | some (.value v) => if ground v = true then some v else none
  | _ => none
 else none
theorem st_binc {cf : CallF} {e : Env} {H : AHeap} {i : Nat} {w : Value} {op : BinOp} {t u y : TypeId} (hw : ground w = true) : stepA Tryz.prog cf e H (.gen ⟨none, (.binOp op t (.const w) (.tmp i) u), y, "", #[], none⟩) = (binC op t w (ev e (.tmp i))).map fun v => (v, H) := by
 simp [stepA, pureA, binC, execOp, Op.operands, ev, hw]
 rfl
theorem shr6 {s : Int} : binV .shr 3 (.int .u64 6) (.int .i64 s) = some (.int .i64 (s / 64)) := by
 have h0 : binV .shr 3 (.int .u64 6) (.int .i64 s) = some (.int .i64 (s.fdiv (2 ^ 6))) := by rfl
 rw [h0, show (2 : Int) ^ 6 = 64 from rfl, Int.fdiv_eq_ediv_of_nonneg _ (by decide)]
theorem shr12 {s : Int} : binV .shr 3 (.int .u64 12) (.int .i64 s) = some (.int .i64 (s / 4096)) := by
 have h0 : binV .shr 3 (.int .u64 12) (.int .i64 s) = some (.int .i64 (s.fdiv (2 ^ 12))) := by rfl
 rw [h0, show (2 : Int) ^ 12 = 4096 from rfl, Int.fdiv_eq_ediv_of_nonneg _ (by decide)]
theorem shr18 {s : Int} : binV .shr 3 (.int .u64 18) (.int .i64 s) = some (.int .i64 (s / 262144)) := by
 have h0 : binV .shr 3 (.int .u64 18) (.int .i64 s) = some (.int .i64 (s.fdiv (2 ^ 18))) := by rfl
 rw [h0, show (2 : Int) ^ 18 = 262144 from rfl, Int.fdiv_eq_ediv_of_nonneg _ (by decide)]
theorem andI {s : Int} (h : 0 ≤ s ∧ s < 100000000) : binV .and 3 (.int .i64 63) (.int .i64 s) = some (.int .i64 (s % 64)) := by
 obtain ⟨n, rfl⟩ : ∃ n : Nat, s = n := ⟨s.toNat, by omega⟩
 have h0 : binV .and 3 (.int .i64 63) (.int .i64 (n : Nat)) = some (.int .i64 (IntKind.i64.wrap (((BitVec.ofInt 64 ((n : Nat) : Int) &&& BitVec.ofInt 64 63).toNat : Nat) : Int))) := by rfl
 have h1 : (BitVec.ofInt 64 ((n : Nat) : Int) &&& BitVec.ofInt 64 63).toNat = n % 64 := by
  rw [BitVec.toNat_and, BitVec.ofInt_natCast, BitVec.toNat_ofNat, Nat.mod_eq_of_lt (by omega), show (BitVec.ofInt 64 63).toNat = 2 ^ 6 - 1 from rfl, Nat.and_two_pow_sub_one_eq_mod]
 rw [h0, h1, wrap64 (by omega) (by omega)]
 rfl
theorem orK {a i b : Nat} (hi : i ≤ 8) (ha : 2 ^ i * a < 300) (hb : b < 2 ^ i) : binC .or 3 (.int .i64 ((2 ^ i * a : Nat) : Int)) (.int .i64 (b : Nat)) = some (.int .i64 ((2 ^ i * a + b : Nat) : Int)) := by
 have h8 : (2 : Nat) ^ i ≤ 2 ^ 8 := Nat.pow_le_pow_right (by omega) hi
 have h0 : binC .or 3 (.int .i64 ((2 ^ i * a : Nat) : Int)) (.int .i64 (b : Nat)) = some (.int .i64 (IntKind.i64.wrap (((BitVec.ofInt 64 ((2 ^ i * a : Nat) : Int) ||| BitVec.ofInt 64 (b : Nat)).toNat : Nat) : Int))) := by rfl
 have h1 : (BitVec.ofInt 64 ((2 ^ i * a : Nat) : Int) ||| BitVec.ofInt 64 (b : Nat)).toNat = 2 ^ i * a + b := by
  rw [BitVec.toNat_or]
  have e1 : (BitVec.ofInt 64 ((2 ^ i * a : Nat) : Int)).toNat = 2 ^ i * a := by
   rw [BitVec.ofInt_natCast, BitVec.toNat_ofNat]
   omega
  have e2 : (BitVec.ofInt 64 ((b : Nat) : Int)).toNat = b := by
   rw [BitVec.ofInt_natCast, BitVec.toNat_ofNat]
   omega
  rw [e1, e2, ← Nat.two_pow_add_eq_or_of_lt hb]
 rw [h0, h1, wrap64 (by omega) (by omega)]
theorem or128 {x : Int} (h : 0 ≤ x ∧ x < 64) : binC .or 3 (.int .i64 128) (.int .i64 x) = some (.int .i64 (128 + x)) := by
 obtain ⟨n, rfl⟩ : ∃ n : Nat, x = n := ⟨x.toNat, by omega⟩
 have := orK (a := 2) (i := 6) (b := n) (by omega) (by decide) (by omega)
 rw [show ((2 ^ 6 * 2 + n : Nat) : Int) = 128 + (n : Int) by omega] at this
 exact this
theorem or192 {x : Int} (h : 0 ≤ x ∧ x < 64) : binC .or 3 (.int .i64 192) (.int .i64 x) = some (.int .i64 (192 + x)) := by
 obtain ⟨n, rfl⟩ : ∃ n : Nat, x = n := ⟨x.toNat, by omega⟩
 have := orK (a := 3) (i := 6) (b := n) (by omega) (by decide) (by omega)
 rw [show ((2 ^ 6 * 3 + n : Nat) : Int) = 192 + (n : Int) by omega] at this
 exact this
theorem or224 {x : Int} (h : 0 ≤ x ∧ x < 32) : binC .or 3 (.int .i64 224) (.int .i64 x) = some (.int .i64 (224 + x)) := by
 obtain ⟨n, rfl⟩ : ∃ n : Nat, x = n := ⟨x.toNat, by omega⟩
 have := orK (a := 7) (i := 5) (b := n) (by omega) (by decide) (by omega)
 rw [show ((2 ^ 5 * 7 + n : Nat) : Int) = 224 + (n : Int) by omega] at this
 exact this
theorem or240 {x : Int} (h : 0 ≤ x ∧ x < 16) : binC .or 3 (.int .i64 240) (.int .i64 x) = some (.int .i64 (240 + x)) := by
 obtain ⟨n, rfl⟩ : ∃ n : Nat, x = n := ⟨x.toNat, by omega⟩
 have := orK (a := 15) (i := 4) (b := n) (by omega) (by decide) (by omega)
 rw [show ((2 ^ 4 * 15 + n : Nat) : Int) = 240 + (n : Int) by omega] at this
 exact this
def utfB (s : Int) : List Int := if s < 128 then [s] else if s < 2048 then [192 + s / 64, 128 + s % 64] else if s < 65536 then [224 + s / 4096, 128 + s / 64 % 64, 128 + s % 64] else [240 + s / 262144, 128 + s / 4096 % 64, 128 + s / 64 % 64, 128 + s % 64]
def u8s (l : List Int) : List Value := l.map fun x => .int .u8 x
abbrev OwnB (H : AHeap) (v : Value) (l : List Int) : Prop := Own H 5 1 v l.length (u8s l)
theorem u8s_one (l : List Int) : (u8s l).all one = true := by
 unfold u8s
 rw [List.all_eq_true]
 intro x hx
 obtain ⟨n, _, rfl⟩ := List.mem_map.1 hx
 rfl
theorem OwnB.add {H : AHeap} {v x : Value} {l m : List Int} (ho : OwnB H v l) (hi : Nums H .u8 x m) (hm : m ≠ []) (hs : l.length + m.length < 10000000000) :
  ∃ v' H', appendA H v x 5 1 1 = some (v', H') ∧ OwnB H' v' (l ++ m) ∧ From H.n v' ∧ H.n ≤ H'.n ∧ ∀ i, i < H.n → NotAt v i → H'.get i = H.get i := by
 obtain ⟨v2, H2, q1, q2, q3, q4, q5, q6⟩ := Own.append2 (bytes := 1) ho hi (List.length_pos_iff.2 hm) (u8s_one m) (by omega)
 refine ⟨v2, H2, q1, ?_, q3, q5, q6⟩
 unfold OwnB
 rw [List.length_append]
 have : u8s l ++ u8s m = u8s (l ++ m) := by simp [u8s]
 rw [← this]
 exact q2
theorem v_u1 {H : AHeap} {a : Int} : ∃ H1, vBslice 5 1 1 [.int .u8 0] [(0, 1, .int .u8 a)] H = some (.slice (some ⟨H.n, 0, none⟩) 1 2, H1) ∧ Ext H H1 ∧ Nums H1 .u8 (.slice (some ⟨H.n, 0, none⟩) 1 2) [a] := ⟨_, rfl, Ext.push H _, Sl.new (n := 1) (c := 2) get_push_self mem_tip rfl⟩
theorem v_u2 {H : AHeap} {a b : Int} : ∃ H1, vBslice 5 2 1 [.int .u8 0] [(0, 1, .int .u8 a), (1, 1, .int .u8 b)] H = some (.slice (some ⟨H.n, 0, none⟩) 2 3, H1) ∧ Ext H H1 ∧ Nums H1 .u8 (.slice (some ⟨H.n, 0, none⟩) 2 3) [a, b] := ⟨H.push ⟨[.int .u8 a, .int .u8 b], 5, .tip, 0, []⟩, rfl, Ext.push H _, Sl.new (n := 2) (c := 3) get_push_self mem_tip rfl⟩
theorem v_u3 {H : AHeap} {a b c : Int} : ∃ H1, vBslice 5 3 1 [.int .u8 0] [(0, 1, .int .u8 a), (1, 1, .int .u8 b), (2, 1, .int .u8 c)] H = some (.slice (some ⟨H.n, 0, none⟩) 3 4, H1) ∧ Ext H H1 ∧ Nums H1 .u8 (.slice (some ⟨H.n, 0, none⟩) 3 4) [a, b, c] := ⟨H.push ⟨[.int .u8 a, .int .u8 b, .int .u8 c], 5, .tip, 0, []⟩, rfl, Ext.push H _, Sl.new (n := 3) (c := 4) get_push_self mem_tip rfl⟩
theorem v_u4 {H : AHeap} {a b c d : Int} : ∃ H1, vBslice 5 4 1 [.int .u8 0] [(0, 1, .int .u8 a), (1, 1, .int .u8 b), (2, 1, .int .u8 c), (3, 1, .int .u8 d)] H = some (.slice (some ⟨H.n, 0, none⟩) 4 5, H1) ∧ Ext H H1 ∧ Nums H1 .u8 (.slice (some ⟨H.n, 0, none⟩) 4 5) [a, b, c, d] := ⟨H.push ⟨[.int .u8 a, .int .u8 b, .int .u8 c, .int .u8 d], 5, .tip, 0, []⟩, rfl, Ext.push H _, Sl.new (n := 4) (c := 5) get_push_self mem_tip rfl⟩
theorem c_PutB {s : Int} {v : Value} {l : List Int} {H : AHeap} (h : okS s) (hv : OwnB H v l) (hl : l.length < 1000000000) : Gives (cw Tryz.prog (tabF tab) om1 11 [v, .int .i64 s] H) fun w H' => OwnB H' w (l ++ utfB s) ∧ From H.n w ∧ H.n ≤ H'.n ∧ ∀ i, i < H.n → NotAt v i → H'.get i = H.get i := by
 rw [cw_run (F := F_utf_Put) rfl rfl rfl]
 unfold F_utf_Put k_utf_Put
 have c1 := c_Size (H := H) h
 obtain ⟨h1, h2, h3⟩ := h
 have g1 : ground (.int .u64 6) = true := rfl
 have g2 : ground (.int .u64 12) = true := rfl
 have g3 : ground (.int .u64 18) = true := rfl
 have g4 : ground (.int .i64 63) = true := rfl
 have g5 : ∀ n : Int, ground (.int .i64 n) = true := fun _ => rfl
 have a0 := andI (s := s) (by omega)
 have a1 := andI (s := s / 64) (by omega)
 have a2 := andI (s := s / 4096) (by omega)
 have o0 := or128 (x := s % 64) (by omega)
 have o1 := or128 (x := s / 64 % 64) (by omega)
 have o2 := or128 (x := s / 4096 % 64) (by omega)
 have w0 : IntKind.u8.wrap (128 + s % 64) = 128 + s % 64 := wrap8 (by omega) (by omega)
 have w1 : IntKind.u8.wrap (128 + s / 64 % 64) = 128 + s / 64 % 64 := wrap8 (by omega) (by omega)
 have w2 : IntKind.u8.wrap (128 + s / 4096 % 64) = 128 + s / 4096 % 64 := wrap8 (by omega) (by omega)
 have fin : ∀ {H1 H2 : AHeap} {w : Value} {m : List Int}, Ext H H1 → OwnB H2 w (l ++ m) → From H1.n w → H1.n ≤ H2.n → (∀ i, i < H1.n → NotAt v i → H2.get i = H1.get i) → OwnB H2 w (l ++ m) ∧ From H.n w ∧ H.n ≤ H2.n ∧ ∀ i, i < H.n → NotAt v i → H2.get i = H.get i := fun {H1 H2 w m} hx q1 q2 q3 q4 => ⟨q1, q2.mono hx.1, Nat.le_trans hx.1 q3, fun i hi hn => by rw [q4 i (Nat.lt_of_lt_of_le hi hx.1) hn, hx.2 i hi]⟩
 unfold szF at c1
 unfold utfB
 have e1 : ((1 : Int) = 1) = True := by simp
 by_cases k1 : s < 128
 ·rw [if_pos k1] at c1 ⊢
  have ww : IntKind.u8.wrap s = s := wrap8 (by omega) (by omega)
  obtain ⟨H1, v1, x1, i1⟩ := v_u1 (H := H) (a := s)
  obtain ⟨w, H2, q1, q2, q3, q4, q5⟩ := OwnB.add (hv.ext x1) i1 (by simp) (by simp; omega)
  simp only [WA, isStore, isCall, isK, freshI, stampO, List.nil_append, Option.map_some, Option.map_none, Option.bind_some, List.map_cons, List.map_nil, if_true, if_false, Nat.reduceEqDiff, Int.reduceEq, Nat.reduceAdd, Nat.reduceMul, reduceCtorEq, eq_self, Int.reduceLT, Int.reduceLE, Int.reduceToNat, List.length_cons, List.length_nil, List.all_cons, List.all_nil, List.take_zero, List.drop_nil, List.append_nil, List.getElem?_cons_zero, List.getElem?_cons_succ, List.drop_succ_cons, List.drop_zero, List.take_succ_cons, List.cons_append, Nat.reduceLeDiff, Int.cast_ofNat_Int, c1, ww, v1, q1, e1]
  exact fin x1 q2 q3 q4 q5
 rw [if_neg k1] at c1 ⊢
 by_cases k2 : s < 2048
 ·rw [if_pos k2] at c1 ⊢
  have oo := or192 (x := s / 64) (by omega)
  have ww : IntKind.u8.wrap (192 + s / 64) = 192 + s / 64 := wrap8 (by omega) (by omega)
  obtain ⟨H1, v1, x1, i1⟩ := v_u2 (H := H) (a := 192 + s / 64) (b := 128 + s % 64)
  obtain ⟨w, H2, q1, q2, q3, q4, q5⟩ := OwnB.add (hv.ext x1) i1 (by simp) (by simp; omega)
  have z1 : ((2 : Int) = 1) = False := by simp
  have z2 : ((2 : Int) = 2) = True := by simp
  simp only [WA, isStore, isCall, isK, freshI, stampO, List.nil_append, Option.map_some, Option.map_none, Option.bind_some, List.map_cons, List.map_nil, if_true, if_false, Nat.reduceEqDiff, Int.reduceEq, Nat.reduceAdd, Nat.reduceMul, reduceCtorEq, eq_self, Int.reduceLT, Int.reduceLE, Int.reduceToNat, List.length_cons, List.length_nil, List.all_cons, List.all_nil, List.take_zero, List.drop_nil, List.append_nil, List.getElem?_cons_zero, List.getElem?_cons_succ, List.drop_succ_cons, List.drop_zero, List.take_succ_cons, List.cons_append, Nat.reduceLeDiff, Int.cast_ofNat_Int, c1, z1, z2, st_bin g1, st_bin g4, st_binc (g5 _), shr6, a0, o0, oo, w0, ww, v1, q1]
  exact fin x1 q2 q3 q4 q5
 rw [if_neg k2] at c1 ⊢
 by_cases k3 : s < 65536
 ·rw [if_pos k3] at c1 ⊢
  have oo := or224 (x := s / 4096) (by omega)
  have ww : IntKind.u8.wrap (224 + s / 4096) = 224 + s / 4096 := wrap8 (by omega) (by omega)
  obtain ⟨H1, v1, x1, i1⟩ := v_u3 (H := H) (a := 224 + s / 4096) (b := 128 + s / 64 % 64) (c := 128 + s % 64)
  obtain ⟨w, H2, q1, q2, q3, q4, q5⟩ := OwnB.add (hv.ext x1) i1 (by simp) (by simp; omega)
  have z1 : ((3 : Int) = 1) = False := by simp
  have z2 : ((3 : Int) = 2) = False := by simp
  have z3 : ((3 : Int) = 3) = True := by simp
  simp only [WA, isStore, isCall, isK, freshI, stampO, List.nil_append, Option.map_some, Option.map_none, Option.bind_some, List.map_cons, List.map_nil, if_true, if_false, Nat.reduceEqDiff, Int.reduceEq, Nat.reduceAdd, Nat.reduceMul, reduceCtorEq, eq_self, Int.reduceLT, Int.reduceLE, Int.reduceToNat, List.length_cons, List.length_nil, List.all_cons, List.all_nil, List.take_zero, List.drop_nil, List.append_nil, List.getElem?_cons_zero, List.getElem?_cons_succ, List.drop_succ_cons, List.drop_zero, List.take_succ_cons, List.cons_append, Nat.reduceLeDiff, Int.cast_ofNat_Int, c1, z1, z2, z3, st_bin g1, st_bin g2, st_bin g4, st_binc (g5 _), shr6, shr12, a0, a1, o0, o1, oo, w0, w1, ww, v1, q1]
  exact fin x1 q2 q3 q4 q5
 rw [if_neg k3] at c1 ⊢
 have oo := or240 (x := s / 262144) (by omega)
 have ww : IntKind.u8.wrap (240 + s / 262144) = 240 + s / 262144 := wrap8 (by omega) (by omega)
 obtain ⟨H1, v1, x1, i1⟩ := v_u4 (H := H) (a := 240 + s / 262144) (b := 128 + s / 4096 % 64) (c := 128 + s / 64 % 64) (d := 128 + s % 64)
 obtain ⟨w, H2, q1, q2, q3, q4, q5⟩ := OwnB.add (hv.ext x1) i1 (by simp) (by simp; omega)
 have z1 : ((4 : Int) = 1) = False := by simp
 have z2 : ((4 : Int) = 2) = False := by simp
 have z3 : ((4 : Int) = 3) = False := by simp
 have z4 : ((4 : Int) = 4) = True := by simp
 simp only [WA, isStore, isCall, isK, freshI, stampO, List.nil_append, Option.map_some, Option.map_none, Option.bind_some, List.map_cons, List.map_nil, if_true, if_false, Nat.reduceEqDiff, Int.reduceEq, Nat.reduceAdd, Nat.reduceMul, reduceCtorEq, eq_self, Int.reduceLT, Int.reduceLE, Int.reduceToNat, List.length_cons, List.length_nil, List.all_cons, List.all_nil, List.take_zero, List.drop_nil, List.append_nil, List.getElem?_cons_zero, List.getElem?_cons_succ, List.drop_succ_cons, List.drop_zero, List.take_succ_cons, List.cons_append, Nat.reduceLeDiff, Int.cast_ofNat_Int, c1, z1, z2, z3, z4, st_bin g1, st_bin g2, st_bin g3, st_bin g4, st_binc (g5 _), shr6, shr12, shr18, a0, a1, a2, o0, o1, o2, oo, w0, w1, w2, ww, v1, q1]
 exact fin x1 q2 q3 q4 q5
theorem tk_store {H : AHeap} {i ver : Nat} {el : TypeId} {a b c d u v x y : Value} (h1 : [u, v, x, y].all one = true) : gotStore (some ⟨[a, b, c, d], el, .tip, ver, []⟩) i 0 (.agg ⟨[u, v, x, y]⟩) 4 H = some (.tuple ⟨[]⟩, H.upd i ⟨[u, v, x, y], el, .tip, ver + 1, []⟩) := by
 have := got_store (H := H) (cells := [a, b, c, d]) (el := el) (ver := ver) (anc := []) (i := i) (o := 0) (n := 4) (v := .agg ⟨[u, v, x, y]⟩) rfl h1 (Nat.le_refl 4)
 rw [this]
 rfl
theorem tk_set2 {H : AHeap} {i ver : Nat} {el : TypeId} {a b c d x : Value} (h1 : one x = true) : gotStore (some ⟨[a, b, c, d], el, .tip, ver, []⟩) i 2 x 1 H = some (.tuple ⟨[]⟩, H.upd i ⟨[a, b, x, d], el, .tip, ver + 1, []⟩) := by
 have hc : x.cells.toList = [x] := by cases x <;> simp [one] at h1 <;> rfl
 have := got_store (H := H) (cells := [a, b, c, d]) (el := el) (ver := ver) (anc := []) (i := i) (o := 2) (n := 1) (v := x) (by rw [hc]; rfl) (by rw [hc]; simp [h1]) (by simp)
 rw [this, hc]
 rfl
theorem tok1 {H : AHeap} {i ver : Nat} {anc : List Nat} {a b c d : Value} {t : Tok} (hg : H.get i = some ⟨[a, b, c, d], 36, .tip, ver, anc⟩) (hq : tokQ Tryz.prog H [a, b, c, d] t) : OwnToks Tryz.prog H 36 (.slice (some ⟨i, 0, none⟩) 1 2) [t] := by
 refine ⟨by simp, [a, b, c, d], ⟨by simp, .inr ⟨i, ver, anc, rfl, by simp, hg⟩⟩, fun k r hr => ?_⟩
 cases k with
 | zero =>
  simp only [List.getElem?_cons_zero, Option.some.injEq] at hr
  subst hr
  exact hq
 | succ k => simp at hr
def PSP (q5 sc : Nat) (at_ : Int) (l : List Int) (H0 : AHeap) (y : AEx) (e' : Env) (H' : AHeap) : Prop := y = .exit 0 ∧ eget e' 0 = .pointer (some ⟨sc, 0, none⟩) ∧ eget e' 5 = .pointer (some ⟨q5, 0, none⟩) ∧ Ext H0 H' ∧ ∃ p c ver, H'.get q5 = some ⟨[.int .i64 at_, .int .i64 1, .slice p l.length c, .int .i64 0], 36, .tip, ver, []⟩ ∧ OwnI H' (.slice p l.length c) l
theorem l_sp {H0 : AHeap} {q5 sc : Nat} {at_ : Int} {x : Value} {l : List Int} (hq : H0.n ≤ q5) (hb : ∀ u ∈ l, 0 ≤ u ∧ u < 256) (hl : l.length < 100) : ∀ (c k ver : Nat) (H : AHeap) (p : Option Addr) (cc : Nat), k + c = l.length → Ext H0 H → OwnB H x l → H.get q5 = some ⟨[.int .i64 at_, .int .i64 1, .slice p (l.take k).length cc, .int .i64 0], 36, .tip, ver, []⟩ → OwnI H (.slice p (l.take k).length cc) (l.take k) → From H0.n (.slice p (l.take k).length cc) →
  Out (run Tryz.prog (tabF tab) om1 (.loop [0, 5, 17, 18, 19] b_codec_scalars__Put_0) [(0, .pointer (some ⟨sc, 0, none⟩)), (5, .pointer (some ⟨q5, 0, none⟩)), (17, x), (18, .int .i64 l.length), (19, .int .i64 k)] H) (PSP q5 sc at_ l H0) := by
 intro c
 induction c with
 | zero =>
  intro k ver H p cc hk hx hi hg ho hf
  obtain rfl : k = l.length := by omega
  have z : (((l.length : Nat) : Int) < (l.length : Nat)) = False := by simp
  rw [w_loop_b b_codec_scalars__Put_0.eq_1]
  simp only [WA, isStore, isCall, isK, freshI, stampO, List.nil_append, Option.map_some, Option.map_none, Option.bind_some, List.map_cons, List.map_nil, if_true, if_false, Nat.reduceEqDiff, Int.reduceEq, Nat.reduceAdd, Nat.reduceMul, reduceCtorEq, eq_self, Int.reduceLT, Int.reduceLE, Int.reduceToNat, List.length_cons, List.length_nil, List.all_cons, List.all_nil, List.take_zero, List.drop_nil, List.append_nil, List.getElem?_cons_zero, List.getElem?_cons_succ, List.drop_succ_cons, List.drop_zero, List.take_succ_cons, List.cons_append, Nat.reduceLeDiff, Int.cast_ofNat_Int, z]
  rw [List.take_of_length_le (Nat.le_refl _)] at hg ho
  exact ⟨rfl, rfl, rfl, hx, p, cc, ver, hg, ho⟩
 | succ c ih =>
  intro k ver H p cc hk hx hi hg ho hf
  have hlt : ((k : Int) < (l.length : Nat)) = True := eq_true (by omega)
  obtain ⟨u, hu, _⟩ := drop_at (L := l) (i := k) (by omega)
  obtain ⟨u0, u1⟩ := hb u (List.mem_of_getElem? hu)
  obtain ⟨i, o, a1, a2⟩ := Nums.at (H := H) (kd := .u8) (v := x) (l := l) hi.sl hu
  have hw : IntKind.i64.wrap u = u := wrap64 (by omega) (by omega)
  have hw2 : IntKind.i64.wrap ((k : Int) + 1) = ((k + 1 : Nat) : Int) := by rw [wrap64 (by omega) (by omega)]; omega
  obtain ⟨H1, v1, x1, i1, _⟩ := new_one (H := H) (a := u)
  have g1 := x1.get hg
  obtain ⟨w, H2, m1, m2, m3, m4, m5⟩ := OwnI.add2 (ho.ext x1) hf (hx.trans x1) i1 (by simp; omega)
  have g2 := m5 _ _ g1 (by simp only; decide)
  have ht : l.take k ++ [u] = l.take (k + 1) := by rw [List.take_add_one, hu]; rfl
  rw [ht] at m2
  have hw3 := m2.sl
  obtain ⟨⟨p2, c2, rfl⟩, _⟩ := hw3
  obtain ⟨H3, hH3⟩ : ∃ H3, H3 = H2.upd q5 ⟨[.int .i64 at_, .int .i64 1, .slice p2 (l.take (k + 1)).length c2, .int .i64 0], 36, .tip, ver + 1, []⟩ := ⟨_, rfl⟩
  have g3 : H3.get q5 = some ⟨[.int .i64 at_, .int .i64 1, .slice p2 (l.take (k + 1)).length c2, .int .i64 0], 36, .tip, ver + 1, []⟩ := by rw [hH3]; exact upd_self g2
  have x3 : Ext H0 H3 := by rw [hH3]; exact Ext.upd m4 g2 hq
  have kk : ∀ i b, H2.get i = some b → b.elem ≠ 36 → H3.get i = some b := fun i b hi he => by
   rw [hH3, upd_other g2 (fun e => by subst e; rw [g2] at hi; injection hi with hi; subst hi; exact he rfl)]
   exact hi
  have o3 : OwnI H3 (.slice p2 (l.take (k + 1)).length c2) (l.take (k + 1)) := m2.move fun i b hi he => kk i b hi (by rw [he]; decide)
  have i3 : OwnB H3 x l := (hi.ext x1).move fun i b hi he => kk i b (m5 i b hi (by rw [he]; decide)) (by rw [he]; decide)
  have hst := tk_set2 (H := H2) (i := q5) (ver := ver) (el := 36) (a := .int .i64 at_) (b := .int .i64 1) (c := .slice p (l.take k).length cc) (d := .int .i64 0) (x := .slice p2 (l.take (k + 1)).length c2) rfl
  rw [← hH3] at hst
  obtain ⟨y, e', H', r1, r2⟩ := ih (k + 1) (ver + 1) H3 p2 c2 (by omega) x3 i3 g3 o3 m3
  rw [w_loop_b b_codec_scalars__Put_0.eq_1]
  simp only [WA, isStore, isCall, isK, freshI, stampO, List.nil_append, Option.map_some, Option.map_none, Option.bind_some, List.map_cons, List.map_nil, if_true, if_false, Nat.reduceEqDiff, Int.reduceEq, Nat.reduceAdd, Nat.reduceMul, reduceCtorEq, eq_self, Int.reduceLT, Int.reduceLE, Int.reduceToNat, List.length_cons, List.length_nil, List.all_cons, List.all_nil, List.take_zero, List.drop_nil, List.append_nil, List.getElem?_cons_zero, List.getElem?_cons_succ, List.drop_succ_cons, List.drop_zero, List.take_succ_cons, List.cons_append, Nat.reduceLeDiff, Int.cast_ofNat_Int, hlt, a1, a2, hw, hg, v1, g1, m1, g2, hst, hw2]
  rw [w_enter]
  simp only [WA, isStore, isCall, isK, freshI, stampO, List.nil_append, Option.map_some, Option.map_none, Option.bind_some, List.map_cons, List.map_nil, if_true, if_false, Nat.reduceEqDiff, Int.reduceEq, Nat.reduceAdd, Nat.reduceMul, reduceCtorEq, eq_self, Int.reduceLT, Int.reduceLE, Int.reduceToNat, List.length_cons, List.length_nil, List.all_cons, List.all_nil, List.take_zero, List.drop_nil, List.append_nil, List.getElem?_cons_zero, List.getElem?_cons_succ, List.drop_succ_cons, List.drop_zero, List.take_succ_cons, List.cons_append, Nat.reduceLeDiff, Int.cast_ofNat_Int, r1]
  exact r2
theorem utfB_ok {s : Int} (h : okS s) : (∀ u ∈ utfB s, 0 ≤ u ∧ u < 256) ∧ (utfB s).length < 5 ∧ utfB s ≠ [] := by
 obtain ⟨h1, h2, h3⟩ := h
 unfold utfB
 split
 ·exact ⟨fun u hu => by simp at hu; omega, by simp, by simp⟩
 split
 ·exact ⟨fun u hu => by simp at hu; omega, by simp, by simp⟩
 split
 ·exact ⟨fun u hu => by simp at hu; omega, by simp, by simp⟩
 ·exact ⟨fun u hu => by simp at hu; omega, by simp, by simp⟩
theorem v_tokS {H : AHeap} {a b c d : Value} : vBslice 36 1 4 [.int .i64 0, .int .i64 0, .slice none 0 0, .int .i64 0] [(0, 4, .agg ⟨[a, b, c, d]⟩)] H = some (.slice (some ⟨H.n, 0, none⟩) 1 2, H.push ⟨[a, b, c, d], 36, .tip, 0, []⟩) := rfl
theorem v_tokB {H : AHeap} {n : Int} : vBuild [.int .i64 0, .int .i64 0, .slice none 0 0, .int .i64 0] [(0, 1, .int .i64 n), (1, 1, .int .i64 1), (3, 1, .int .i64 3)] H = some (.agg ⟨[.int .i64 n, .int .i64 1, .slice none 0 0, .int .i64 3]⟩, H) := rfl
theorem v_bl1 {H : AHeap} {n : Int} : vBuild [.int .i64 0] [] H = some (.agg ⟨[.int .i64 0]⟩, H) := rfl
theorem c_SPut {sc ver : Nat} {at_ u : Int} {H : AHeap} (hs : okS u) (hg : H.get sc = some ⟨[.int .i64 at_], 115, .tip, ver, []⟩) (ha : 0 ≤ at_ ∧ at_ < 1000000000) : Gives (cw Tryz.prog (tabF tab) om1 172 [.pointer (some ⟨sc, 0, none⟩), .int .i64 u] H) fun v H' => OwnToks Tryz.prog H' 36 v [⟨at_, 1, utfB u, 0⟩] ∧ From H.n v ∧ H'.get sc = some ⟨[.int .i64 (at_ + 1)], 115, .tip, ver + 1, []⟩ ∧ H.n ≤ H'.n ∧ ∀ j, j < H.n → j ≠ sc → H'.get j = H.get j := by
 rw [cw_run (F := F_codec_scalars__Put) rfl rfl rfl]
 unfold F_codec_scalars__Put k_codec_scalars__Put
 have hsl := AHeap.lt_of_get hg
 obtain ⟨ub, ul, un⟩ := utfB_ok hs
 obtain ⟨H1, hH1⟩ : ∃ H1, H1 = H.push ⟨[.int .i64 at_, .int .i64 1, .slice none 0 0, .int .i64 3], 36, .tip, 1, []⟩ := ⟨_, rfl⟩
 have x1 : Ext H H1 := by rw [hH1]; exact Ext.push H _
 have g1 : H1.get H.n = some ⟨[.int .i64 at_, .int .i64 1, .slice none 0 0, .int .i64 3], 36, .tip, 1, []⟩ := by rw [hH1]; exact get_push_self
 have hst := tk_store (H := H.push ⟨[.int .i64 0, .int .i64 0, .slice none 0 0, .int .i64 0], 36, .tip, 0, []⟩) (i := H.n) (ver := 0) (el := 36) (a := .int .i64 0) (b := .int .i64 0) (c := .slice none 0 0) (d := .int .i64 0) (u := .int .i64 at_) (v := .int .i64 1) (x := .slice none 0 0) (y := .int .i64 3) rfl
 simp only [Nat.zero_add] at hst
 have cs := c_Scalar (H := H1) hs
 obtain ⟨H2, hH2⟩ : ∃ H2, H2 = H1.upd H.n ⟨[.int .i64 at_, .int .i64 1, .slice none 0 0, .int .i64 0], 36, .tip, 1 + 1, []⟩ := ⟨_, rfl⟩
 have g2 : H2.get H.n = some ⟨[.int .i64 at_, .int .i64 1, .slice none 0 0, .int .i64 0], 36, .tip, 1 + 1, []⟩ := by rw [hH2]; exact upd_self g1
 have x2 : Ext H H2 := by rw [hH2]; exact Ext.upd x1 g1 (Nat.le_refl _)
 have hst3 : gotStore (some ⟨[.int .i64 at_, .int .i64 1, .slice none 0 0, .int .i64 3], 36, .tip, 1, []⟩) H.n 3 (.int .i64 0) 1 H1 = some (.tuple ⟨[]⟩, H2) := by
  have := got_store (H := H1) (cells := [.int .i64 at_, .int .i64 1, .slice none 0 0, .int .i64 3]) (el := 36) (ver := 1) (anc := []) (i := H.n) (o := 3) (n := 1) (v := .int .i64 0) rfl rfl (by simp)
  rw [this, hH2]
  rfl
 obtain ⟨w, H3, c3, b3, f3, n3, k3⟩ := c_PutB (v := .slice none 0 0) (l := []) (H := H2) hs ⟨rfl, .inl ⟨rfl, rfl⟩⟩ (by simp)
 rw [List.nil_append] at b3
 have x23 : Ext H2 H3 := ⟨n3, fun i hi => k3 i hi trivial⟩
 have hi3 : Nums H3 .u8 w (utfB u) := b3.sl
 have hlw := fun H9 => Nums.len (H2 := H9) hi3
 have g3 := x23.get g2
 obtain ⟨y, e', H4, p1, rfl, p2, p3, x4, p, cc, ver4, g4, o4⟩ := l_sp (H0 := H) (q5 := H.n) (sc := sc) (at_ := at_) (x := w) (l := utfB u) (Nat.le_refl _) ub (by omega) (utfB u).length 0 2 H3 none 0 (by omega) (x2.trans x23) b3 g3 OwnI.nil trivial
 have z0 : ((0 : Nat) : Int) = 0 := rfl
 rw [z0] at p1
 have hsc4 := x4.get hg
 obtain ⟨H5, hH5⟩ : ∃ H5, H5 = H4.upd sc ⟨[.int .i64 (at_ + 1)], 115, .tip, ver + 1, []⟩ := ⟨_, rfl⟩
 have g5 : H5.get sc = some ⟨[.int .i64 (at_ + 1)], 115, .tip, ver + 1, []⟩ := by rw [hH5]; exact upd_self hsc4
 have k5 : ∀ j, j ≠ sc → H5.get j = H4.get j := fun j hj => by rw [hH5]; exact upd_other hsc4 hj
 have hst5 : gotStore (some ⟨[.int .i64 at_], 115, .tip, ver, []⟩) sc 0 (.int .i64 (at_ + 1)) 1 H4 = some (.tuple ⟨[]⟩, H5) := by
  have := got_store (H := H4) (cells := [.int .i64 at_]) (el := 115) (ver := ver) (anc := []) (i := sc) (o := 0) (n := 1) (v := .int .i64 (at_ + 1)) rfl rfl (by simp)
  rw [this, hH5]
  rfl
 have gt5 : H5.get H.n = some ⟨[.int .i64 at_, .int .i64 1, .slice p (utfB u).length cc, .int .i64 0], 36, .tip, ver4, []⟩ := by rw [k5 _ (by omega)]; exact g4
 have hwa : IntKind.i64.wrap (at_ + 1) = at_ + 1 := wrap64 (by omega) (by omega)
 have n5 : H5.n = H4.n := by rw [hH5]; simp
 have o5 : OwnI H5 (.slice p (utfB u).length cc) (utfB u) := o4.move fun i b hi he => by
  rw [k5 i (fun e => by subst e; rw [hsc4] at hi; injection hi with hi; subst hi; revert he; simp only; decide)]
  exact hi
 have hld : gotLoad (some ⟨[.int .i64 at_, .int .i64 1, .slice p (utfB u).length cc, .int .i64 0], 36, .tip, ver4, []⟩) 0 (some 4) H5 = some (.agg ⟨[.int .i64 at_, .int .i64 1, .slice p (utfB u).length cc, .int .i64 0]⟩, H5) := by
  rw [got_row mem_tip (by simp)]; rfl
 simp only [WA, isStore, isCall, isK, freshI, stampO, List.nil_append, Option.map_some, Option.map_none, Option.bind_some, List.map_cons, List.map_nil, if_true, if_false, Nat.reduceEqDiff, Int.reduceEq, Nat.reduceAdd, Nat.reduceMul, reduceCtorEq, eq_self, Int.reduceLT, Int.reduceLE, Int.reduceToNat, List.length_cons, List.length_nil, List.all_cons, List.all_nil, List.take_zero, List.drop_nil, List.append_nil, List.getElem?_cons_zero, List.getElem?_cons_succ, List.drop_succ_cons, List.drop_zero, List.take_succ_cons, List.cons_append, Nat.reduceLeDiff, Int.cast_ofNat_Int, hg, v_tokB, hst, ← hH1, cs, g1, hst3, g2, c3, hlw]
 rw [w_enter]
 simp only [WA, isStore, isCall, isK, freshI, stampO, List.nil_append, Option.map_some, Option.map_none, Option.bind_some, List.map_cons, List.map_nil, if_true, if_false, Nat.reduceEqDiff, Int.reduceEq, Nat.reduceAdd, Nat.reduceMul, reduceCtorEq, eq_self, Int.reduceLT, Int.reduceLE, Int.reduceToNat, List.length_cons, List.length_nil, List.all_cons, List.all_nil, List.take_zero, List.drop_nil, List.append_nil, List.getElem?_cons_zero, List.getElem?_cons_succ, List.drop_succ_cons, List.drop_zero, List.take_succ_cons, List.cons_append, Nat.reduceLeDiff, Int.cast_ofNat_Int, p1, p2, p3, hsc4, hwa, hst5, gt5, hld, v_tokS]
 obtain ⟨H6, hH6⟩ : ∃ H6, H6 = H5.push ⟨[.int .i64 at_, .int .i64 1, .slice p (utfB u).length cc, .int .i64 0], 36, .tip, 0, []⟩ := ⟨_, rfl⟩
 have x6 : Ext H5 H6 := by rw [hH6]; exact Ext.push H5 _
 have g6 : H6.get H5.n = some ⟨[.int .i64 at_, .int .i64 1, .slice p (utfB u).length cc, .int .i64 0], 36, .tip, 0, []⟩ := by rw [hH6]; exact get_push_self
 rw [← hH6]
 have x4n := x4.1
 have o6 : OwnI H6 (.slice p (utfB u).length cc) (utfB u) := Own.ext x6 o5
 refine ⟨tok1 g6 ⟨p, cc, rfl, OwnI.asI o6, ?_, OwnI.cutI o6⟩, ?_, ?_, ?_, fun j hj hjs => ?_⟩
 ·unfold Lon.tiny; simp only; omega
 ·show H.n ≤ H5.n
  omega
 ·exact x6.get g5
 ·have := x6.1; omega
 ·rw [x6.2 j (by omega), k5 j hjs, x4.2 j hj]
def SC (f t rd wr ow : Value) : List Value := [f, t, .int .i64 0, rd, wr, ow, .int .i64 0, .int .i64 0, .int .i64 0, .bool false, .bool false]
theorem sc3 {f t rd wr ow : Value} : (SC f t rd wr ow)[3]? = some rd := rfl
theorem sc4 {f t rd wr ow : Value} : (SC f t rd wr ow)[4]? = some wr := rfl
theorem sc5 {f t rd wr ow : Value} : (SC f t rd wr ow)[5]? = some ow := rfl
theorem sc8 {f t rd wr ow : Value} : (SC f t rd wr ow)[8]? = some (.int .i64 0) := rfl
theorem sc_set5 {H : AHeap} {i ver : Nat} {el : TypeId} {f t rd wr ow x : Value} (h1 : one x = true) : gotStore (some ⟨SC f t rd wr ow, el, .tip, ver, []⟩) i 5 x 1 H = some (.tuple ⟨[]⟩, H.upd i ⟨SC f t rd wr x, el, .tip, ver + 1, []⟩) := by
 have hc : x.cells.toList = [x] := by cases x <;> simp [one] at h1 <;> rfl
 have := got_store (H := H) (cells := SC f t rd wr ow) (el := el) (ver := ver) (anc := []) (i := i) (o := 5) (n := 1) (v := x) (by rw [hc]; rfl) (by rw [hc]; simp [h1]) (by simp [SC])
 rw [this, hc]
 rfl
structure SB (H : AHeap) (s : Nat) (f t rd wr ow : Value) (l : List Int) : Prop where
 hs : ∃ ver, H.get s = some ⟨SC f t rd wr ow, 70, .tip, ver, []⟩
 ho : OwnB H ow l
structure Fw (s : Nat) (ow0 : Value) (H0 H : AHeap) (ow : Value) : Prop where
 n : H0.n ≤ H.n
 k : ∀ j, j < H0.n → j ≠ s → NotAt ow0 j → H.get j = H0.get j
 o : ∀ j, j < H0.n → NotAt ow0 j → NotAt ow j
theorem Fw.refl (s : Nat) (ow : Value) (H : AHeap) : Fw s ow H H ow := ⟨Nat.le_refl _, fun _ _ _ _ => rfl, fun _ _ h => h⟩
theorem Fw.trans {s : Nat} {o1 o2 o3 : Value} {H1 H2 H3 : AHeap} (a : Fw s o1 H1 H2 o2) (b : Fw s o2 H2 H3 o3) : Fw s o1 H1 H3 o3 :=
 ⟨Nat.le_trans a.n b.n, fun j hj hs hn => by rw [b.k j (Nat.lt_of_lt_of_le hj a.n) hs (a.o j hj hn), a.k j hj hs hn], fun j hj hn => b.o j (Nat.lt_of_lt_of_le hj a.n) (a.o j hj hn)⟩
theorem Fw.ext {s : Nat} {o1 o2 : Value} {H1 H2 H3 : AHeap} (a : Fw s o1 H1 H2 o2) (x : Ext H2 H3) : Fw s o1 H1 H3 o2 :=
 ⟨Nat.le_trans a.n x.1, fun j hj hs hn => by rw [x.2 j (Nat.lt_of_lt_of_le hj a.n), a.k j hj hs hn], a.o⟩
theorem Fw.get {s : Nat} {o1 o2 f t rd wr : Value} {l : List Int} {H1 H2 : AHeap} (h : SB H1 s f t rd wr o1 l) (a : Fw s o1 H1 H2 o2) {j : Nat} {b : ABlk} (hj : H1.get j = some b) (e1 : b.elem ≠ 70) (e2 : b.elem = 5 → NotAt o1 j) : H2.get j = some b := by
 obtain ⟨ver, hs⟩ := h.hs
 rw [a.k j (AHeap.lt_of_get hj) (fun e => by subst e; rw [hs] at hj; injection hj with hj; subst hj; exact e1 rfl) (by
  by_cases e : b.elem = 5
  ·exact e2 e
  ·exact h.ho.notAt_elem hj e)]
 exact hj
theorem Ints.fw {s : Nat} {o1 o2 f t rd wr : Value} {l : List Int} {H1 H2 : AHeap} (h : SB H1 s f t rd wr o1 l) (a : Fw s o1 H1 H2 o2) {x : Value} {m : List Int} (hi : Ints H1 x m) (hc : Cut Tryz.prog H1 x 1) (hm : m ≠ []) : Ints H2 x m ∧ Cut Tryz.prog H2 x 1 := by
 obtain ⟨⟨p, c, rfl⟩, h2⟩ := hi
 have hm0 : ¬ (m.length = 0) := fun e => hm (List.length_eq_zero_iff.1 e)
 unfold cellsOf at h2
 split at h2
 ·rename_i hv
  injection hv with _ e2 _
  exact absurd e2 hm0
 ·rename_i i o n' c' hv
  injection hv with e1 e2 e3
  subst e1 e2 e3
  obtain ⟨b, hb1, hb2⟩ := hc
  rw [if_neg hm0, hb1] at h2
  simp only at h2
  split at h2
  case isFalse => cases h2
  rename_i hmm
  injection h2 with h2
  have hget : H2.get i = some b := by
   refine Fw.get h a hb1 (fun e => ?_) (fun e => ?_)
   ·rw [e] at hb2
    have h4 : (Tryz.prog.info? 70).map (·.size) = some 11 := by kernel_rfl
    rw [h4] at hb2
    injection hb2 with hb2
    omega
   ·obtain ⟨_, ⟨rfl, _⟩ | ⟨j, ver, anc, rfl, hn, hg⟩⟩ := h.ho
    ·trivial
    ·intro e3
     simp only at e3
     subst e3
     rw [hg] at hb1
     injection hb1 with hb1
     subst hb1
     obtain ⟨u, m', rfl⟩ := List.exists_cons_of_ne_nil hm
     have hmem : (Value.int .i64 u) ∈ ((u8s l).drop o).take ((u :: m').length * 1) := by rw [h2]; simp [ints]
     have hmem2 := List.mem_of_mem_drop (List.mem_of_mem_take hmem)
     unfold u8s at hmem2
     obtain ⟨q, _, hq⟩ := List.mem_map.1 hmem2
     injection hq with hq _
     cases hq
  refine ⟨⟨⟨_, _, rfl⟩, ?_⟩, ⟨b, hget, hb2⟩⟩
  unfold cellsOf
  simp only [hget]
  rw [if_neg hm0, if_pos hmm, h2]
 ·rename_i hv
  injection hv with _ e2 _
  exact absurd e2 hm0
 ·cases h2
theorem OwnToks.fw {s : Nat} {o1 o2 f t rd wr : Value} {l : List Int} {H1 H2 : AHeap} (h : SB H1 s f t rd wr o1 l) (a : Fw s o1 H1 H2 o2) {v : Value} {L : List Tok} (hL : ∀ x ∈ L, x.out ≠ []) (ht : OwnToks Tryz.prog H1 36 v L) : OwnToks Tryz.prog H2 36 v L := by
 obtain ⟨q0, cs, q1, q2⟩ := ht
 refine ⟨q0, cs, q1.move fun i b hi he => Fw.get h a hi (by rw [he]; decide) (fun e => absurd (he.symm.trans e) (by decide)), fun k r hr => ?_⟩
 obtain ⟨p, c, h1, h2, h3, h4⟩ := q2 k r hr
 obtain ⟨g1, g2⟩ := Ints.fw h a h2 h4 (hL r (List.mem_of_getElem? hr))
 exact ⟨p, c, h1, g1, h3, g2⟩
theorem SB.ext {s : Nat} {ow f t rd wr : Value} {l : List Int} {H1 H2 : AHeap} (h : SB H1 s f t rd wr ow l) (x : Ext H1 H2) : SB H2 s f t rd wr ow l := by
 obtain ⟨ver, hs⟩ := h.hs
 exact ⟨⟨ver, x.get hs⟩, Own.ext x h.ho⟩
theorem SB.add {s : Nat} {ow f t rd wr : Value} {l : List Int} {u : Int} {H : AHeap} (h : SB H s f t rd wr ow l) (hl : l.length < 1000000000) : ∃ ver H1 v' H2 H3, H.get s = some ⟨SC f t rd wr ow, 70, .tip, ver, []⟩ ∧ vBslice 5 1 1 [.int .u8 0] [(0, 1, .int .u8 u)] H = some (.slice (some ⟨H.n, 0, none⟩) 1 2, H1) ∧ appendA H1 ow (.slice (some ⟨H.n, 0, none⟩) 1 2) 5 1 1 = some (v', H2) ∧ H2.get s = some ⟨SC f t rd wr ow, 70, .tip, ver, []⟩ ∧ one v' = true ∧ H3 = H2.upd s ⟨SC f t rd wr v', 70, .tip, ver + 1, []⟩ ∧ SB H3 s f t rd wr v' (l ++ [u]) ∧ Fw s ow H H3 v' := by
 obtain ⟨ver, hs⟩ := h.hs
 have hos : NotAt ow s := h.ho.notAt_elem hs (by simp only; decide)
 obtain ⟨H1, v1, x1, i1⟩ := v_u1 (H := H) (a := u)
 obtain ⟨v', H2, m1, m2, m3, m4, m5⟩ := OwnB.add (Own.ext x1 h.ho) i1 (by simp) (by simp; omega)
 have hsl := AHeap.lt_of_get hs
 have x1n := x1.1
 have g2 : H2.get s = some ⟨SC f t rd wr ow, 70, .tip, ver, []⟩ := by rw [m5 s (by omega) hos]; exact x1.get hs
 have hone : one v' = true := by
  obtain ⟨⟨a1, c1, rfl⟩, _⟩ := m2.sl
  rfl
 obtain ⟨H3, hH3⟩ : ∃ H3, H3 = H2.upd s ⟨SC f t rd wr v', 70, .tip, ver + 1, []⟩ := ⟨_, rfl⟩
 refine ⟨ver, H1, v', H2, H3, hs, v1, m1, g2, hone, hH3, ⟨⟨ver + 1, by rw [hH3]; exact upd_self g2⟩, Own.move m2 fun i b hi he => ?_⟩, ?_, fun j hj hjs hn => ?_, fun j hj _ => NotAt.of_from m3 (by omega)⟩
 ·rw [hH3, upd_other g2 (fun e => by subst e; rw [g2] at hi; injection hi with hi; subst hi; revert he; simp only; decide)]
  exact hi
 ·have : H3.n = H2.n := by rw [hH3]; simp
  omega
 ·rw [hH3, upd_other g2 hjs, m5 j (by omega) hn, x1.2 j hj]
def PW0 (s : Nat) (f t rd wr v8 v9 v10 ow0 : Value) (l : List Int) (H0 : AHeap) (y : AEx) (e' : Env) (H' : AHeap) : Prop := y = .exit 3 ∧ eget e' 0 = .pointer (some ⟨s, 0, none⟩) ∧ eget e' 8 = v8 ∧ eget e' 9 = v9 ∧ eget e' 10 = v10 ∧ ∃ ow', SB H' s f t rd wr ow' l ∧ Fw s ow0 H0 H' ow'
theorem l_wr0 {s : Nat} {f t rd wr x v8 v9 v10 ow0 : Value} {l m : List Int} {H0 : AHeap} (hb : ∀ u ∈ m, 0 ≤ u ∧ u < 256) (hl : l.length + m.length < 1000000000) : ∀ (c k : Nat) (H : AHeap) (ow : Value), k + c = m.length → SB H s f t rd wr ow (l ++ m.take k) → (m ≠ [] → Ints H x m ∧ Cut Tryz.prog H x 1) → Fw s ow0 H0 H ow →
  Out (run Tryz.prog (tabF tab) om1 (.loop [0, 8, 9, 10, 26, 27, 28] b_stream_Stream__written_0) [(0, .pointer (some ⟨s, 0, none⟩)), (8, v8), (9, v9), (10, v10), (26, x), (27, .int .i64 m.length), (28, .int .i64 k)] H) (PW0 s f t rd wr v8 v9 v10 ow0 (l ++ m) H0) := by
 intro c
 induction c with
 | zero =>
  intro k H ow hk h hi hf
  obtain rfl : k = m.length := by omega
  have z : (((m.length : Nat) : Int) < (m.length : Nat)) = False := by simp
  rw [w_loop_b b_stream_Stream__written_0.eq_1]
  simp only [WA, isStore, isCall, isK, freshI, stampO, List.nil_append, Option.map_some, Option.map_none, Option.bind_some, List.map_cons, List.map_nil, if_true, if_false, Nat.reduceEqDiff, Int.reduceEq, Nat.reduceAdd, Nat.reduceMul, reduceCtorEq, eq_self, Int.reduceLT, Int.reduceLE, Int.reduceToNat, List.length_cons, List.length_nil, List.all_cons, List.all_nil, List.take_zero, List.drop_nil, List.append_nil, List.getElem?_cons_zero, List.getElem?_cons_succ, List.drop_succ_cons, List.drop_zero, List.take_succ_cons, List.cons_append, Nat.reduceLeDiff, Int.cast_ofNat_Int, z]
  rw [List.take_of_length_le (Nat.le_refl _)] at h
  exact ⟨rfl, rfl, rfl, rfl, rfl, ow, h, hf⟩
 | succ c ih =>
  intro k H ow hk h hi hf
  have hlt : ((k : Int) < (m.length : Nat)) = True := eq_true (by omega)
  obtain ⟨u, hu, _⟩ := drop_at (L := m) (i := k) (by omega)
  obtain ⟨u0, u1⟩ := hb u (List.mem_of_getElem? hu)
  have hm : m ≠ [] := fun e => by subst e; simp at hu
  obtain ⟨hi1, hi2⟩ := hi hm
  obtain ⟨i, o, a1, a2⟩ := hi1.at hu
  have hw : IntKind.u8.wrap u = u := wrap8 u0 u1
  have hw2 : IntKind.i64.wrap ((k : Int) + 1) = ((k + 1 : Nat) : Int) := by rw [wrap64 (by omega) (by omega)]; omega
  obtain ⟨ver, H1, v', H2, H3, g0, v1, m1, g2, hone, hH3, h3, f3⟩ := SB.add (u := u) h (by rw [List.length_append, List.length_take]; omega)
  have ht : l ++ m.take k ++ [u] = l ++ m.take (k + 1) := by rw [List.append_assoc, List.take_add_one, hu]; rfl
  rw [ht] at h3
  obtain ⟨y, e', H', r1, r2⟩ := ih (k + 1) H3 v' (by omega) h3 (fun hm => Ints.fw h f3 hi1 hi2 hm) (hf.trans f3)
  have st := sc_set5 (H := H2) (i := s) (ver := ver) (el := 70) (f := f) (t := t) (rd := rd) (wr := wr) (ow := ow) (x := v') hone
  rw [← hH3] at st
  rw [w_loop_b b_stream_Stream__written_0.eq_1]
  simp only [WA, isStore, isCall, isK, freshI, stampO, List.nil_append, Option.map_some, Option.map_none, Option.bind_some, List.map_cons, List.map_nil, if_true, if_false, Nat.reduceEqDiff, Int.reduceEq, Nat.reduceAdd, Nat.reduceMul, reduceCtorEq, eq_self, Int.reduceLT, Int.reduceLE, Int.reduceToNat, List.length_cons, List.length_nil, List.all_cons, List.all_nil, List.take_zero, List.drop_nil, List.append_nil, List.getElem?_cons_zero, List.getElem?_cons_succ, List.drop_succ_cons, List.drop_zero, List.take_succ_cons, List.cons_append, Nat.reduceLeDiff, Int.cast_ofNat_Int, hlt, a1, a2, g0, sc5, hw, v1, m1, g2, st, hw2]
  rw [w_enter]
  simp only [WA, isStore, isCall, isK, freshI, stampO, List.nil_append, Option.map_some, Option.map_none, Option.bind_some, List.map_cons, List.map_nil, if_true, if_false, Nat.reduceEqDiff, Int.reduceEq, Nat.reduceAdd, Nat.reduceMul, reduceCtorEq, eq_self, Int.reduceLT, Int.reduceLE, Int.reduceToNat, List.length_cons, List.length_nil, List.all_cons, List.all_nil, List.take_zero, List.drop_nil, List.append_nil, List.getElem?_cons_zero, List.getElem?_cons_succ, List.drop_succ_cons, List.drop_zero, List.take_succ_cons, List.cons_append, Nat.reduceLeDiff, Int.cast_ofNat_Int, r1]
  exact r2
def PW1 (s : Nat) (f t rd wr ow0 : Value) (l : List Int) (H0 : AHeap) (y : AEx) (e' : Env) (H' : AHeap) : Prop := y = .exit 0 ∧ ∃ ow', SB H' s f t rd wr ow' l ∧ Fw s ow0 H0 H' ow'
def goodT (T : List Tok) : Prop := ∀ x ∈ T, x.err = 0 ∧ x.out ≠ [] ∧ ∀ u ∈ x.out, 0 ≤ u ∧ u < 256
theorem l_wr1 {s : Nat} {f t rd wr w ow0 : Value} {l : List Int} {T : List Tok} {H0 : AHeap} (hT : goodT T) (hl : l.length + (outs T).length < 1000000000) : ∀ (c k : Nat) (H : AHeap) (ow : Value) (l1 : List Int), k + c = T.length → SB H s f t rd wr ow l1 → l1 ++ outs (T.drop k) = l ++ outs T → OwnToks Tryz.prog H 36 w T → Fw s ow0 H0 H ow →
  Out (run Tryz.prog (tabF tab) om1 (.loop [0, 8, 9, 10] b_stream_Stream__written_1) [(0, .pointer (some ⟨s, 0, none⟩)), (8, w), (9, .int .i64 T.length), (10, .int .i64 k)] H) (PW1 s f t rd wr ow0 (l ++ outs T) H0) := by
 intro c
 induction c with
 | zero =>
  intro k H ow l1 hk h he ht hf
  obtain rfl : k = T.length := by omega
  have z : (((T.length : Nat) : Int) < (T.length : Nat)) = False := by simp
  rw [w_loop_b b_stream_Stream__written_1.eq_1]
  simp only [WA, isStore, isCall, isK, freshI, stampO, List.nil_append, Option.map_some, Option.map_none, Option.bind_some, List.map_cons, List.map_nil, if_true, if_false, Nat.reduceEqDiff, Int.reduceEq, Nat.reduceAdd, Nat.reduceMul, reduceCtorEq, eq_self, Int.reduceLT, Int.reduceLE, Int.reduceToNat, List.length_cons, List.length_nil, List.all_cons, List.all_nil, List.take_zero, List.drop_nil, List.append_nil, List.getElem?_cons_zero, List.getElem?_cons_succ, List.drop_succ_cons, List.drop_zero, List.take_succ_cons, List.cons_append, Nat.reduceLeDiff, Int.cast_ofNat_Int, z]
  rw [List.drop_of_length_le (Nat.le_refl _), show outs [] = [] from rfl, List.append_nil] at he
  subst he
  exact ⟨rfl, ow, h, hf⟩
 | succ c ih =>
  intro k H ow l1 hk h he ht hf
  have hTl := ht.1
  have hlt : ((k : Int) < (T.length : Nat)) = True := eq_true (by omega)
  obtain ⟨x, hxk, hdx⟩ := drop_at (L := T) (i := k) (by omega)
  obtain ⟨xe, xo, xb⟩ := hT x (List.mem_of_getElem? hxk)
  obtain ⟨i, o, px, cx, a1, _, _, _, _, a6, a7, a8, a9⟩ := Toks.at' ht.rws hxk
  obtain ⟨H1, hH1⟩ : ∃ H1, H1 = H.push ⟨tokC px cx x, 36, .tip, 1, []⟩ := ⟨_, rfl⟩
  have x1 : Ext H H1 := by rw [hH1]; exact Ext.push H _
  have g1 : H1.get H.n = some ⟨tokC px cx x, 36, .tip, 1, []⟩ := by rw [hH1]; exact get_push_self
  have h1 := h.ext x1
  have hlen : l1.length + x.out.length ≤ l.length + (outs T).length := by
   have := congrArg List.length he
   rw [hdx] at this
   simp only [outs, List.flatMap_cons, List.length_append] at this
   unfold outs
   omega
  obtain ⟨ver, gs⟩ := h1.hs
  obtain ⟨y', e2, H3, p1, rfl, p2, p3, p4, p5, ow3, p6, p7⟩ := l_wr0 (s := s) (f := f) (t := t) (rd := rd) (wr := wr) (x := .slice px x.out.length cx) (v8 := w) (v9 := .int .i64 T.length) (v10 := .int .i64 k) (ow0 := ow) (l := l1) (m := x.out) (H0 := H1) xb (by omega) x.out.length 0 H1 ow (by omega) (by rw [List.take_zero, List.append_nil]; exact h1) (fun _ => ⟨a7.ext x1, a9.ext x1⟩) (Fw.refl _ _ _)
  rw [show ((0 : Nat) : Int) = 0 from rfl] at p1
  have ht3 := OwnToks.fw h1 p7 (fun x hx => (hT x hx).2.1) (ht.ext tokQ_mono x1)
  have he3 : (l1 ++ x.out) ++ outs (T.drop (k + 1)) = l ++ outs T := by rw [← he, hdx]; simp [outs]
  have hw2 : IntKind.i64.wrap ((k : Int) + 1) = ((k + 1 : Nat) : Int) := by rw [wrap64 (by omega) (by omega)]; omega
  obtain ⟨y, e', H4, r1, r2⟩ := ih (k + 1) H3 ow3 (l1 ++ x.out) (by omega) p6 he3 ht3 ((hf.ext x1).trans p7)
  have z8 : ((0 : Int) ≠ 0) = False := by simp
  have z0 : (x.err = 0) = True := eq_true xe
  rw [w_loop_b b_stream_Stream__written_1.eq_1]
  simp only [WA, isStore, isCall, isK, freshI, stampO, List.nil_append, Option.map_some, Option.map_none, Option.bind_some, List.map_cons, List.map_nil, if_true, if_false, Nat.reduceEqDiff, Int.reduceEq, Nat.reduceAdd, Nat.reduceMul, reduceCtorEq, eq_self, Int.reduceLT, Int.reduceLE, Int.reduceToNat, List.length_cons, List.length_nil, List.all_cons, List.all_nil, List.take_zero, List.drop_nil, List.append_nil, List.getElem?_cons_zero, List.getElem?_cons_succ, List.drop_succ_cons, List.drop_zero, List.take_succ_cons, List.cons_append, Nat.reduceLeDiff, Int.cast_ofNat_Int, hlt, a1, a6, got_tok, ← hH1, g1, tk2, tk3, gs, sc8, z8, z0]
  rw [w_enter]
  simp only [WA, isStore, isCall, isK, freshI, stampO, List.nil_append, Option.map_some, Option.map_none, Option.bind_some, List.map_cons, List.map_nil, if_true, if_false, Nat.reduceEqDiff, Int.reduceEq, Nat.reduceAdd, Nat.reduceMul, reduceCtorEq, eq_self, Int.reduceLT, Int.reduceLE, Int.reduceToNat, List.length_cons, List.length_nil, List.all_cons, List.all_nil, List.take_zero, List.drop_nil, List.append_nil, List.getElem?_cons_zero, List.getElem?_cons_succ, List.drop_succ_cons, List.drop_zero, List.take_succ_cons, List.cons_append, Nat.reduceLeDiff, Int.cast_ofNat_Int, p1, p2, p3, p4, p5, hw2]
  rw [w_enter]
  simp only [WA, isStore, isCall, isK, freshI, stampO, List.nil_append, Option.map_some, Option.map_none, Option.bind_some, List.map_cons, List.map_nil, if_true, if_false, Nat.reduceEqDiff, Int.reduceEq, Nat.reduceAdd, Nat.reduceMul, reduceCtorEq, eq_self, Int.reduceLT, Int.reduceLE, Int.reduceToNat, List.length_cons, List.length_nil, List.all_cons, List.all_nil, List.take_zero, List.drop_nil, List.append_nil, List.getElem?_cons_zero, List.getElem?_cons_succ, List.drop_succ_cons, List.drop_zero, List.take_succ_cons, List.cons_append, Nat.reduceLeDiff, Int.cast_ofNat_Int, p2, p3, p4, p5, r1]
  exact r2
theorem c_written {s : Nat} {f t rd wr w ow : Value} {l : List Int} {T : List Tok} {H : AHeap} (hT : goodT T) (hl : l.length + (outs T).length < 1000000000) (h : SB H s f t rd wr ow l) (ht : OwnToks Tryz.prog H 36 w T) : Gives (cw Tryz.prog (tabF tab) om1 26 [.pointer (some ⟨s, 0, none⟩), w] H) fun v H' => ∃ ow', SB H' s f t rd wr ow' (l ++ outs T) ∧ Fw s ow H H' ow' := by
 rw [cw_run (F := F_stream_Stream__written) rfl rfl rfl]
 unfold F_stream_Stream__written k_stream_Stream__written
 obtain ⟨y, e', H', r1, rfl, ow', r2, r3⟩ := l_wr1 (ow0 := ow) (w := w) (H0 := H) hT hl T.length 0 H ow l (by omega) h rfl ht (Fw.refl _ _ _)
 rw [show ((0 : Nat) : Int) = 0 from rfl] at r1
 have hw := ht.rws
 obtain ⟨u1, u2, hw⟩ : ∃ u1 u2, w = .slice u1 T.length u2 := by
  obtain ⟨_, cs, h1, _⟩ := hw
  obtain ⟨u1, u2, e⟩ := h1.1
  exact ⟨u1, u2, e⟩
 subst hw
 simp only [WA, isStore, isCall, isK, freshI, stampO, List.nil_append, Option.map_some, Option.map_none, Option.bind_some, List.map_cons, List.map_nil, if_true, if_false, Nat.reduceEqDiff, Int.reduceEq, Nat.reduceAdd, Nat.reduceMul, reduceCtorEq, eq_self, Int.reduceLT, Int.reduceLE, Int.reduceToNat, List.length_cons, List.length_nil, List.all_cons, List.all_nil, List.take_zero, List.drop_nil, List.append_nil, List.getElem?_cons_zero, List.getElem?_cons_succ, List.drop_succ_cons, List.drop_zero, List.take_succ_cons, List.cons_append, Nat.reduceLeDiff, Int.cast_ofNat_Int]
 rw [w_enter]
 simp only [WA, isStore, isCall, isK, freshI, stampO, List.nil_append, Option.map_some, Option.map_none, Option.bind_some, List.map_cons, List.map_nil, if_true, if_false, Nat.reduceEqDiff, Int.reduceEq, Nat.reduceAdd, Nat.reduceMul, reduceCtorEq, eq_self, Int.reduceLT, Int.reduceLE, Int.reduceToNat, List.length_cons, List.length_nil, List.all_cons, List.all_nil, List.take_zero, List.drop_nil, List.append_nil, List.getElem?_cons_zero, List.getElem?_cons_succ, List.drop_succ_cons, List.drop_zero, List.take_succ_cons, List.cons_append, Nat.reduceLeDiff, Int.cast_ofNat_Int, r1]
 exact ⟨ow', r2, r3⟩
def Kw (p : ABlk → Bool) (H H' : AHeap) : Prop := H.n ≤ H'.n ∧ ∀ j b, H.get j = some b → p b = false → H'.get j = some b
def isU8 : Value → Bool
 | .int .u8 _ => true
 | _ => false
def pure8 (b : ABlk) : Bool := Nat.beq b.elem 5 && b.cells.all isU8
theorem pure8_of {H : AHeap} {v : Value} {l : List Int} {j : Nat} {b : ABlk} (h : OwnB H v l) (hj : H.get j = some b) (hp : pure8 b = false) : NotAt v j := by
 obtain ⟨_, ⟨rfl, _⟩ | ⟨i, ver, anc, rfl, hn, hg⟩⟩ := h
 ·trivial
 ·intro e
  simp only at e
  subst e
  rw [hg] at hj
  injection hj with hj
  subst hj
  have : pure8 ⟨u8s l, 5, .tip, ver, anc⟩ = true := by
   unfold pure8
   rw [Bool.and_eq_true]
   refine ⟨rfl, List.all_eq_true.2 fun c hc => ?_⟩
   unfold u8s at hc
   obtain ⟨n, _, rfl⟩ := List.mem_map.1 hc
   rfl
  rw [this] at hp
  cases hp
structure Wm {τ : Type} (B : Nat) (p : ABlk → Bool) (W : AHeap → τ → Prop) (wv : Value) (stp : τ → Int → List Tok × τ) (ok : τ → Int → Prop) : Prop where
 ps : ∀ b, b.elem = 70 → p b = false
 pt : ∀ b, b.elem = 36 → p b = false
 p8 : ∀ b, b.elem = 5 → p b = false
 put : ∀ {H st u}, W H st → ok st u → Gives (invA Tryz.prog (cw Tryz.prog (tabF tab) om1) wv "Put" [.int .i64 u] H) fun v H' => W H' (stp st u).2 ∧ OwnToks Tryz.prog H' 36 v (stp st u).1 ∧ Kw p H H' ∧ ∀ j, j < B → H'.get j = H.get j
 keep : ∀ {H H' st}, W H st → H.n ≤ H'.n → (∀ j b, H.get j = some b → b.elem ≠ 70 → pure8 b = false → H'.get j = some b) → W H' st
 good : ∀ {st u}, ok st u → goodT (stp st u).1 ∧ (outs (stp st u).1).length < 1000
structure Ft (B : Nat) (p : ABlk → Bool) (s : Nat) (ow0 : Value) (H0 H : AHeap) (ow : Value) : Prop where
 n : H0.n ≤ H.n
 k : ∀ j b, H0.get j = some b → (b.elem = 5 → NotAt ow0 j) → b.elem ≠ 70 → p b = false → H.get j = some b
 o : ∀ j, j < H0.n → NotAt ow0 j → NotAt ow j
 low : ∀ j, j < B → H.get j = H0.get j ∧ NotAt ow j
theorem SB.kw {p : ABlk → Bool} {s : Nat} {ow f t rd wr : Value} {l : List Int} {H1 H2 : AHeap} (h : SB H1 s f t rd wr ow l) (ps : ∀ b, b.elem = 70 → p b = false) (p8 : ∀ b, b.elem = 5 → p b = false) (x : Kw p H1 H2) : SB H2 s f t rd wr ow l := by
 obtain ⟨ver, hs⟩ := h.hs
 exact ⟨⟨ver, x.2 _ _ hs (ps _ rfl)⟩, Own.move h.ho fun i b hi he => x.2 i b hi (p8 _ he)⟩
theorem c_taken0 {s : Nat} {w : Value} {H : AHeap} (ht : OwnToks Tryz.prog H 36 w []) : Gives (cw Tryz.prog (tabF tab) om1 25 [.pointer (some ⟨s, 0, none⟩), w] H) fun v H' => H' = H := by
 rw [cw_run (F := F_stream_Stream__taken) rfl rfl rfl]
 unfold F_stream_Stream__taken k_stream_Stream__taken
 obtain ⟨_, cs, ⟨_, ⟨rfl, _⟩ | ⟨b, ver, anc, _, hn, _⟩⟩, _⟩ := ht
 ·have z : ((0 : Int) < 0) = False := by simp
  simp only [WA, isStore, isCall, isK, freshI, stampO, List.nil_append, Option.map_some, Option.map_none, Option.bind_some, List.map_cons, List.map_nil, if_true, if_false, Nat.reduceEqDiff, Int.reduceEq, Nat.reduceAdd, Nat.reduceMul, reduceCtorEq, eq_self, Int.reduceLT, Int.reduceLE, Int.reduceToNat, List.length_cons, List.length_nil, List.all_cons, List.all_nil, List.take_zero, List.drop_nil, List.append_nil, List.getElem?_cons_zero, List.getElem?_cons_succ, List.drop_succ_cons, List.drop_zero, List.take_succ_cons, List.cons_append, Nat.reduceLeDiff, Int.cast_ofNat_Int]
  rw [w_enter]
  rw [w_loop_b b_stream_Stream__taken_1.eq_1]
  simp only [WA, isStore, isCall, isK, freshI, stampO, List.nil_append, Option.map_some, Option.map_none, Option.bind_some, List.map_cons, List.map_nil, if_true, if_false, Nat.reduceEqDiff, Int.reduceEq, Nat.reduceAdd, Nat.reduceMul, reduceCtorEq, eq_self, Int.reduceLT, Int.reduceLE, Int.reduceToNat, List.length_cons, List.length_nil, List.all_cons, List.all_nil, List.take_zero, List.drop_nil, List.append_nil, List.getElem?_cons_zero, List.getElem?_cons_succ, List.drop_succ_cons, List.drop_zero, List.take_succ_cons, List.cons_append, Nat.reduceLeDiff, Int.cast_ofNat_Int, z]
 ·simp at hn
theorem c_taken1 {τ : Type} {B : Nat} {p : ABlk → Bool} {W : AHeap → τ → Prop} {wv : Value} {stp : τ → Int → List Tok × τ} {ok : τ → Int → Prop} (hm : Wm B p W wv stp ok) {s : Nat} {f t rd w ow : Value} {l : List Int} {st : τ} {a n u : Int} {H : AHeap} (h : SB H s f t rd wv ow l) (hl : l.length < 100000000) (hB : B ≤ H.n ∧ B ≤ s ∧ ∀ j, j < B → NotAt ow j) (hW : W H st) (hok : ok st u) (ht : OwnToks Tryz.prog H 36 w [⟨a, n, [u], 0⟩]) :
  Gives (cw Tryz.prog (tabF tab) om1 25 [.pointer (some ⟨s, 0, none⟩), w] H) fun v H' => ∃ ow', SB H' s f t rd wv ow' (l ++ outs (stp st u).1) ∧ W H' (stp st u).2 ∧ Ft B p s ow H H' ow' := by
 rw [cw_run (F := F_stream_Stream__taken) rfl rfl rfl]
 unfold F_stream_Stream__taken k_stream_Stream__taken
 obtain ⟨gT, gl⟩ := hm.good hok
 obtain ⟨i, o, px, cx, a1, _, _, _, _, a6, a7, a8, a9⟩ := Toks.at' ht.rws (k := 0) (x := ⟨a, n, [u], 0⟩) rfl
 have a7 : Ints H (.slice px 1 cx) [u] := a7
 obtain ⟨u1, u2, hw⟩ : ∃ u1 u2, w = .slice u1 1 u2 := by
  obtain ⟨_, cs, h1, _⟩ := ht.rws
  obtain ⟨u1, u2, e⟩ := h1.1
  exact ⟨u1, u2, e⟩
 subst hw
 obtain ⟨H1, hH1⟩ : ∃ H1, H1 = H.push ⟨tokC px cx ⟨a, n, [u], 0⟩, 36, .tip, 1, []⟩ := ⟨_, rfl⟩
 have x1 : Ext H H1 := by rw [hH1]; exact Ext.push H _
 have g1 : H1.get H.n = some ⟨tokC px cx ⟨a, n, [u], 0⟩, 36, .tip, 1, []⟩ := by rw [hH1]; exact get_push_self
 have h1 := h.ext x1
 obtain ⟨ver, gs⟩ := h1.hs
 have W1 : W H1 st := hm.keep hW x1.1 fun j b hj _ _ => x1.get hj
 obtain ⟨i1, o1, b1, b2⟩ := (a7.ext x1).at (k := 0) (x := u) rfl
 obtain ⟨tv, H2, c2, W2, t2, k2, low2⟩ := hm.put W1 hok
 have h2 := h1.kw hm.ps hm.p8 k2
 obtain ⟨vw, H3, c3, ow3, h3, f3⟩ := c_written gT (by omega) h2 t2
 have W3 : W H3 (stp st u).2 := hm.keep W2 f3.n fun j b hj e1 e2 => Fw.get h2 f3 hj e1 (fun _ => pure8_of h2.ho hj e2)
 have g2 := k2.2 _ _ g1 (hm.pt _ rfl)
 have g3 : H3.get H.n = some ⟨tokC px cx ⟨a, n, [u], 0⟩, 36, .tip, 1, []⟩ := Fw.get h2 f3 g2 (by simp only; decide) (fun e => absurd e (by simp only; decide))
 have z : ((0 : Int) < 1) = True := by simp
 have z8 : ((0 : Int) ≠ 0) = False := by simp
 have z1 : ((1 : Int) < 1) = False := by simp
 have zz : ((0 : Int) = 0) = True := by simp
 have w1 : IntKind.i64.wrap ((0 : Int) + 1) = 1 := by decide
 rw [show ((0 : Nat) : Int) = 0 from rfl] at a1 b1
 have hlen : ((([u] : List Int).length : Nat) : Int) = 1 := rfl
 have hcast : ((1 : Nat) : Int) = 1 := rfl
 simp only [WA, isStore, isCall, isK, freshI, stampO, List.nil_append, Option.map_some, Option.map_none, Option.bind_some, List.map_cons, List.map_nil, if_true, if_false, Nat.reduceEqDiff, Int.reduceEq, Nat.reduceAdd, Nat.reduceMul, reduceCtorEq, eq_self, Int.reduceLT, Int.reduceLE, Int.reduceToNat, List.length_cons, List.length_nil, List.all_cons, List.all_nil, List.take_zero, List.drop_nil, List.append_nil, List.getElem?_cons_zero, List.getElem?_cons_succ, List.drop_succ_cons, List.drop_zero, List.take_succ_cons, List.cons_append, Nat.reduceLeDiff, Int.cast_ofNat_Int]
 rw [w_enter]
 rw [w_loop_b b_stream_Stream__taken_1.eq_1]
 simp only [WA, isStore, isCall, isK, freshI, stampO, List.nil_append, Option.map_some, Option.map_none, Option.bind_some, List.map_cons, List.map_nil, if_true, if_false, Nat.reduceEqDiff, Int.reduceEq, Nat.reduceAdd, Nat.reduceMul, reduceCtorEq, eq_self, Int.reduceLT, Int.reduceLE, Int.reduceToNat, List.length_cons, List.length_nil, List.all_cons, List.all_nil, List.take_zero, List.drop_nil, List.append_nil, List.getElem?_cons_zero, List.getElem?_cons_succ, List.drop_succ_cons, List.drop_zero, List.take_succ_cons, List.cons_append, Nat.reduceLeDiff, Int.cast_ofNat_Int, hcast, z, a1, a6, got_tok, ← hH1, g1, tk2, tk3, z8]
 rw [w_enter]
 rw [w_loop_b b_stream_Stream__taken_0.eq_1]
 simp only [WA, isStore, isCall, isK, freshI, stampO, List.nil_append, Option.map_some, Option.map_none, Option.bind_some, List.map_cons, List.map_nil, if_true, if_false, Nat.reduceEqDiff, Int.reduceEq, Nat.reduceAdd, Nat.reduceMul, reduceCtorEq, eq_self, Int.reduceLT, Int.reduceLE, Int.reduceToNat, List.length_cons, List.length_nil, List.all_cons, List.all_nil, List.take_zero, List.drop_nil, List.append_nil, List.getElem?_cons_zero, List.getElem?_cons_succ, List.drop_succ_cons, List.drop_zero, List.take_succ_cons, List.cons_append, Nat.reduceLeDiff, Int.cast_ofNat_Int, hcast, hlen, z, b1, b2, gs, sc8, sc4, zz, st_inv, c2, c3, w1]
 rw [w_enter]
 rw [w_loop_b b_stream_Stream__taken_0.eq_1]
 simp only [WA, isStore, isCall, isK, freshI, stampO, List.nil_append, Option.map_some, Option.map_none, Option.bind_some, List.map_cons, List.map_nil, if_true, if_false, Nat.reduceEqDiff, Int.reduceEq, Nat.reduceAdd, Nat.reduceMul, reduceCtorEq, eq_self, Int.reduceLT, Int.reduceLE, Int.reduceToNat, List.length_cons, List.length_nil, List.all_cons, List.all_nil, List.take_zero, List.drop_nil, List.append_nil, List.getElem?_cons_zero, List.getElem?_cons_succ, List.drop_succ_cons, List.drop_zero, List.take_succ_cons, List.cons_append, Nat.reduceLeDiff, Int.cast_ofNat_Int, hcast, hlen, z1, g3, tk3, z8, w1]
 rw [w_enter]
 rw [w_loop_b b_stream_Stream__taken_1.eq_1]
 simp only [WA, isStore, isCall, isK, freshI, stampO, List.nil_append, Option.map_some, Option.map_none, Option.bind_some, List.map_cons, List.map_nil, if_true, if_false, Nat.reduceEqDiff, Int.reduceEq, Nat.reduceAdd, Nat.reduceMul, reduceCtorEq, eq_self, Int.reduceLT, Int.reduceLE, Int.reduceToNat, List.length_cons, List.length_nil, List.all_cons, List.all_nil, List.take_zero, List.drop_nil, List.append_nil, List.getElem?_cons_zero, List.getElem?_cons_succ, List.drop_succ_cons, List.drop_zero, List.take_succ_cons, List.cons_append, Nat.reduceLeDiff, Int.cast_ofNat_Int, hcast, z1]
 have hnn := k2.1
 have f3n := f3.n
 refine ⟨ow3, h3, W3, by have := x1.1; omega, fun j b hj e8 es ep => ?_, fun j hj hn => f3.o j (by have := x1.1; omega) hn, fun j hj => ?_⟩
 ·have q1 := k2.2 _ _ (x1.get hj) ep
  exact Fw.get h2 f3 q1 es e8
 ·obtain ⟨hB1, hB2, hB3⟩ := hB
  have hn := hB3 j hj
  have hx := x1.1
  exact ⟨by rw [f3.k j (by omega) (by omega) hn, low2 j hj, x1.2 j (by omega)], f3.o j (by omega) hn⟩
def one1 (T : List Tok) : Prop := T = [] ∨ ∃ a n u, T = [⟨a, n, [u], 0⟩]
def fdT {τ : Type} (ws : τ → Int → List Tok × τ) (T : List Tok) (st : τ) (l : List Int) : τ × List Int := match T with
 | ⟨_, _, [u], _⟩ :: _ => ((ws st u).2, l ++ outs (ws st u).1)
 | _ => (st, l)
def okT {τ : Type} (okw : τ → Int → Prop) (T : List Tok) (st : τ) : Prop := match T with
 | ⟨_, _, [u], _⟩ :: _ => okw st u
 | _ => True
theorem c_taken {τ : Type} {B : Nat} {p : ABlk → Bool} {W : AHeap → τ → Prop} {wv : Value} {stp : τ → Int → List Tok × τ} {ok : τ → Int → Prop} (hm : Wm B p W wv stp ok) {s : Nat} {f t rd w ow : Value} {l : List Int} {T : List Tok} {st : τ} {H : AHeap} (hT : one1 T) (h : SB H s f t rd wv ow l) (hl : l.length < 100000000) (hB : B ≤ H.n ∧ B ≤ s ∧ ∀ j, j < B → NotAt ow j) (hW : W H st) (hok : okT ok T st) (ht : OwnToks Tryz.prog H 36 w T) :
  Gives (cw Tryz.prog (tabF tab) om1 25 [.pointer (some ⟨s, 0, none⟩), w] H) fun v H' => ∃ ow', SB H' s f t rd wv ow' (fdT stp T st l).2 ∧ W H' (fdT stp T st l).1 ∧ Ft B p s ow H H' ow' := by
 rcases hT with rfl | ⟨a, n, u, rfl⟩
 ·obtain ⟨v, H', c, rfl⟩ := c_taken0 (s := s) ht
  exact ⟨v, _, c, ow, h, hW, Nat.le_refl _, fun _ _ h _ _ _ => h, fun _ _ h => h, fun j hj => ⟨rfl, hB.2.2 j hj⟩⟩
 ·exact c_taken1 hm h hl hB hW hok ht
structure Rm {ρ : Type} (B s : Nat) (q p : ABlk → Bool) (R : AHeap → ρ → Value → Prop) (rv : Value) (stp : ρ → Int → List Tok × ρ) (ok : ρ → Int → Prop) (fnl : ρ → List Tok) (okf : ρ → Prop) : Prop where
 qs : ∀ b, b.elem = 70 → q b = false
 put : ∀ {H r ow l u}, R H r ow → OwnB H ow l → ok r u → Gives (invA Tryz.prog (cw Tryz.prog (tabF tab) om1) rv "Put" [.int .i64 u] H) fun v H' => R H' (stp r u).2 ow ∧ OwnToks Tryz.prog H' 36 v (stp r u).1 ∧ OwnB H' ow l ∧ Kw q H H' ∧ ∀ j, j < B → H'.get j = H.get j
 fin : ∀ {H r ow l}, R H r ow → OwnB H ow l → okf r → Gives (invA Tryz.prog (cw Tryz.prog (tabF tab) om1) rv "End" [] H) fun v H' => OwnToks Tryz.prog H' 36 v (fnl r) ∧ OwnB H' ow l ∧ Kw q H H' ∧ ∀ j, j < B → H'.get j = H.get j
 keep : ∀ {H H' r ow ow' l}, R H r ow → OwnB H ow l → Ft B p s ow H H' ow' → R H' r ow'
 good : ∀ {r u}, ok r u → one1 (stp r u).1
 goodf : ∀ {r}, okf r → one1 (fnl r)
section
variable {ρ τ : Type} (rs : ρ → Int → List Tok × ρ) (ws : τ → Int → List Tok × τ) (okr : ρ → Int → Prop) (okw : τ → Int → Prop)
def allF : List Int → ρ → τ → List Int → ρ × τ × List Int
 | [], r, st, l => (r, st, l)
 | u :: us, r, st, l => allF us (rs r u).2 (fdT ws (rs r u).1 st l).1 (fdT ws (rs r u).1 st l).2
def okA : List Int → ρ → τ → List Int → Prop
 | [], _, _, _ => True
 | u :: us, r, st, l => (0 ≤ u ∧ u < 256) ∧ okr r u ∧ okT okw (rs r u).1 st ∧ l.length < 100000000 ∧ okA us (rs r u).2 (fdT ws (rs r u).1 st l).1 (fdT ws (rs r u).1 st l).2
end
def PA {ρ τ : Type} (B s q9 : Nat) (f t rd wr : Value) (R : AHeap → ρ → Value → Prop) (W : AHeap → τ → Prop) (z : ρ × τ × List Int) (H0 : AHeap) (y : AEx) (e' : Env) (H' : AHeap) : Prop := y = .exit 0 ∧ eget e' 9 = .pointer (some ⟨q9, 0, none⟩) ∧ eget e' 11 = .pointer (some ⟨s, 0, none⟩) ∧ H0.n ≤ H'.n ∧ (∀ j, j < B → H'.get j = H0.get j) ∧ ∃ ow', SB H' s f t rd wr ow' z.2.2 ∧ R H' z.1 ow' ∧ W H' z.2.1 ∧ ∀ j, j < B → NotAt ow' j
theorem l_All {ρ τ : Type} {B s q9 : Nat} {q p : ABlk → Bool} {R : AHeap → ρ → Value → Prop} {W : AHeap → τ → Prop} {rv wv f t x : Value} {rs : ρ → Int → List Tok × ρ} {ws : τ → Int → List Tok × τ} {okr : ρ → Int → Prop} {okw : τ → Int → Prop} {fnl : ρ → List Tok} {okf : ρ → Prop} (hR : Rm B s q p R rv rs okr fnl okf) (hW : Wm B p W wv ws okw) (hWR : ∀ {H H' st}, W H st → Kw q H H' → W H' st) {xs : List Int} {H0 : AHeap} (hxl : xs.length < 100000000) (hBn : B = H0.n) (hBs : B ≤ s) (hx : Nums H0 .u8 x xs) :
  ∀ (c k : Nat) (H : AHeap) (r : ρ) (st : τ) (l : List Int) (ow : Value), k + c = xs.length → SB H s f t rv wv ow l → R H r ow → W H st → H0.n ≤ H.n → (∀ j, j < B → H.get j = H0.get j) → (∀ j, j < B → NotAt ow j) → okA rs ws okr okw (xs.drop k) r st l →
  Out (run Tryz.prog (tabF tab) om1 (.loop [9, 11, 26, 27, 28] b_stream_All_0) [(9, .pointer (some ⟨q9, 0, none⟩)), (11, .pointer (some ⟨s, 0, none⟩)), (26, x), (27, .int .i64 xs.length), (28, .int .i64 k)] H) (PA B s q9 f t rv wv R W (allF rs ws (xs.drop k) r st l) H0) := by
 intro c
 induction c with
 | zero =>
  intro k H r st l ow hk h hr hw hn hlow hno hok
  obtain rfl : k = xs.length := by omega
  have z : (((xs.length : Nat) : Int) < (xs.length : Nat)) = False := by simp
  rw [w_loop_b b_stream_All_0.eq_1]
  rw [List.drop_of_length_le (Nat.le_refl _)]
  simp only [WA, isStore, isCall, isK, freshI, stampO, List.nil_append, Option.map_some, Option.map_none, Option.bind_some, List.map_cons, List.map_nil, if_true, if_false, Nat.reduceEqDiff, Int.reduceEq, Nat.reduceAdd, Nat.reduceMul, reduceCtorEq, eq_self, Int.reduceLT, Int.reduceLE, Int.reduceToNat, List.length_cons, List.length_nil, List.all_cons, List.all_nil, List.take_zero, List.drop_nil, List.append_nil, List.getElem?_cons_zero, List.getElem?_cons_succ, List.drop_succ_cons, List.drop_zero, List.take_succ_cons, List.cons_append, Nat.reduceLeDiff, Int.cast_ofNat_Int, z]
  exact ⟨rfl, rfl, rfl, hn, hlow, ow, h, hr, hw, hno⟩
 | succ c ih =>
  intro k H r st l ow hk h hr hw hn hlow hno hok
  have hlt : ((k : Int) < (xs.length : Nat)) = True := eq_true (by omega)
  obtain ⟨u, hu, hdx⟩ := drop_at (L := xs) (i := k) (by omega)
  rw [hdx] at hok ⊢
  obtain ⟨⟨u0, u1⟩, o1, o2, o3, o4⟩ := hok
  have hxe : Ext H0 H := ⟨hn, fun j hj => hlow j (by omega)⟩
  obtain ⟨i, o, a1, a2⟩ := (hx.ext hxe).at hu
  have hwr : IntKind.i64.wrap u = u := wrap64 (by omega) (by omega)
  have hw2 : IntKind.i64.wrap ((k : Int) + 1) = ((k + 1 : Nat) : Int) := by rw [wrap64 (by omega) (by omega)]; omega
  obtain ⟨ver, gs⟩ := h.hs
  obtain ⟨tv, H1, c1, r1, t1, b1, k1, low1⟩ := hR.put hr h.ho o1
  have h1 : SB H1 s f t rv wv ow l := ⟨⟨ver, k1.2 _ _ gs (hR.qs _ rfl)⟩, b1⟩
  have w1 := hWR hw k1
  have k1n := k1.1
  obtain ⟨v2, H2, c2, ow2, h2, w2, f2⟩ := c_taken hW (hR.good o1) h1 o3 ⟨by omega, hBs, hno⟩ w1 o2 t1
  have r2 := hR.keep r1 b1 f2
  have f2n := f2.n
  obtain ⟨ver2, gs2⟩ := h2.hs
  obtain ⟨y, e', H', p1, p2⟩ := ih (k + 1) H2 _ _ _ ow2 (by omega) h2 r2 w2 (by omega) (fun j hj => by rw [(f2.low j hj).1, low1 j hj, hlow j hj]) (fun j hj => (f2.low j hj).2) o4
  have z8 : ((0 : Int) ≠ 0) = False := by simp
  rw [w_loop_b b_stream_All_0.eq_1]
  simp only [WA, isStore, isCall, isK, freshI, stampO, List.nil_append, Option.map_some, Option.map_none, Option.bind_some, List.map_cons, List.map_nil, if_true, if_false, Nat.reduceEqDiff, Int.reduceEq, Nat.reduceAdd, Nat.reduceMul, reduceCtorEq, eq_self, Int.reduceLT, Int.reduceLE, Int.reduceToNat, List.length_cons, List.length_nil, List.all_cons, List.all_nil, List.take_zero, List.drop_nil, List.append_nil, List.getElem?_cons_zero, List.getElem?_cons_succ, List.drop_succ_cons, List.drop_zero, List.take_succ_cons, List.cons_append, Nat.reduceLeDiff, Int.cast_ofNat_Int, hlt, a1, a2, gs, sc3, hwr, st_inv, c1, c2, gs2, sc8, z8, hw2]
  rw [w_enter]
  simp only [WA, isStore, isCall, isK, freshI, stampO, List.nil_append, Option.map_some, Option.map_none, Option.bind_some, List.map_cons, List.map_nil, if_true, if_false, Nat.reduceEqDiff, Int.reduceEq, Nat.reduceAdd, Nat.reduceMul, reduceCtorEq, eq_self, Int.reduceLT, Int.reduceLE, Int.reduceToNat, List.length_cons, List.length_nil, List.all_cons, List.all_nil, List.take_zero, List.drop_nil, List.append_nil, List.getElem?_cons_zero, List.getElem?_cons_succ, List.drop_succ_cons, List.drop_zero, List.take_succ_cons, List.cons_append, Nat.reduceLeDiff, Int.cast_ofNat_Int, p1]
  exact p2
theorem sc6r {H : AHeap} {el : TypeId} {ver : Nat} {f t rd wr ow : Value} : gotLoad (some ⟨SC f t rd wr ow, el, .tip, ver, []⟩) 6 (some 3) H = some (.agg ⟨[.int .i64 0, .int .i64 0, .int .i64 0]⟩, H) := by
 rw [got_row mem_tip (by simp [SC])]; rfl
theorem fa_store {H : AHeap} {i ver : Nat} {el : TypeId} {a b c u v x : Value} (h1 : [u, v, x].all one = true) : gotStore (some ⟨[a, b, c], el, .tip, ver, []⟩) i 0 (.agg ⟨[u, v, x]⟩) 3 H = some (.tuple ⟨[]⟩, H.upd i ⟨[u, v, x], el, .tip, ver + 1, []⟩) := by
 have := got_store (H := H) (cells := [a, b, c]) (el := el) (ver := ver) (anc := []) (i := i) (o := 0) (n := 3) (v := .agg ⟨[u, v, x]⟩) rfl h1 (Nat.le_refl 3)
 rw [this]
 rfl
theorem fa_load {H : AHeap} {ver : Nat} {el : TypeId} {a b c : Value} : gotLoad (some ⟨[a, b, c], el, .tip, ver, []⟩) 0 (some 3) H = some (.agg ⟨[a, b, c]⟩, H) := by
 rw [got_row mem_tip (by simp)]; rfl
def lastF {ρ τ : Type} (ws : τ → Int → List Tok × τ) (fnl : ρ → List Tok) (wfn : τ → List Tok) (z : ρ × τ × List Int) : List Int := (fdT ws (fnl z.1) z.2.1 z.2.2).2 ++ outs (wfn (fdT ws (fnl z.1) z.2.1 z.2.2).1)
theorem c_SAll {ρ τ : Type} {B s : Nat} {q p : ABlk → Bool} {R : AHeap → ρ → Value → Prop} {W : AHeap → τ → Prop} {rv wv f t f0 t0 x : Value} {rs : ρ → Int → List Tok × ρ} {ws : τ → Int → List Tok × τ} {okr : ρ → Int → Prop} {okw : τ → Int → Prop} {fnl : ρ → List Tok} {okf : ρ → Prop} {wfn : τ → List Tok} {okwf : τ → Prop} (hR : Rm B s q p R rv rs okr fnl okf) (hW : Wm B p W wv ws okw) (hWR : ∀ {H H' st}, W H st → Kw q H H' → W H' st)
  (hWF : ∀ {H st}, W H st → okwf st → Gives (invA Tryz.prog (cw Tryz.prog (tabF tab) om1) wv "End" [] H) fun v H' => OwnToks Tryz.prog H' 36 v (wfn st) ∧ goodT (wfn st) ∧ Kw p H H' ∧ ∀ j, j < B → H'.get j = H.get j)
  {xs : List Int} {H H2 : AHeap} {r0 : ρ} {st0 : τ} (hB : B = H.n + 1) (hO : cw Tryz.prog (tabF tab) om1 24 [f0, t0, .int .i64 0] (H.push ⟨[.int .i64 0, .int .i64 0, .int .i64 0], 27, .tip, 0, []⟩) = some (.tuple ⟨[.pointer (some ⟨s, 0, none⟩), .int .i64 0]⟩, H2))
  (hx2 : Ext (H.push ⟨[.int .i64 0, .int .i64 0, .int .i64 0], 27, .tip, 0, []⟩) H2) (h2 : SB H2 s f t rv wv (.slice none 0 0) []) (hr2 : R H2 r0 (.slice none 0 0)) (hw2 : W H2 st0) (hs : B ≤ s) (hx : Nums H .u8 x xs) (hxl : xs.length < 100000000) (ok : okA rs ws okr okw xs r0 st0 [])
  {z : ρ × τ × List Int} (hz : allF rs ws xs r0 st0 [] = z) (ok1 : okf z.1) (ok2 : okT okw (fnl z.1) z.2.1) (ok3 : okwf (fdT ws (fnl z.1) z.2.1 z.2.2).1) (ok4 : z.2.2.length < 10000 ∧ (lastF ws fnl wfn z).length < 10000) :
  Gives (cw Tryz.prog (tabF tab) om1 8 [f0, t0, .int .i64 0, x] H) fun v H' => Ext H H' ∧ ∃ ow, v = .tuple ⟨[ow, .agg ⟨[.int .i64 0, .int .i64 0, .int .i64 0]⟩, .int .i64 0]⟩ ∧ OwnB H' ow (lastF ws fnl wfn z) ∧ From H.n ow := by
 rw [cw_run (F := F_stream_All) rfl rfl rfl]
 unfold F_stream_All k_stream_All
 obtain ⟨H1, hH1⟩ : ∃ H1, H1 = H.push ⟨[.int .i64 0, .int .i64 0, .int .i64 0], 27, .tip, 0, []⟩ := ⟨_, rfl⟩
 have x1 : Ext H H1 := by rw [hH1]; exact Ext.push H _
 have g1 : H1.get H.n = some ⟨[.int .i64 0, .int .i64 0, .int .i64 0], 27, .tip, 0, []⟩ := by rw [hH1]; exact get_push_self
 have n1 : H1.n = H.n + 1 := by rw [hH1, AHeap.n_push]
 rw [← hH1] at hO hx2
 have hl := fun H9 => Nums.len (H2 := H9) hx
 obtain ⟨y, e', H3, p1, rfl, p2, p3, n3, low3, ow3, h3, r3, w3, no3⟩ := l_All (q9 := H.n) hR hW hWR (xs := xs) (x := x) (H0 := H1) hxl (by omega) hs (hx.ext x1) xs.length 0 H2 r0 st0 [] (.slice none 0 0) (by omega) h2 hr2 hw2 hx2.1 (fun j hj => hx2.2 j (by omega)) (fun j _ => trivial) ok
 rw [List.drop_zero, hz] at h3 r3 w3
 rw [show ((0 : Nat) : Int) = 0 from rfl] at p1
 obtain ⟨ver3, gs3⟩ := h3.hs
 obtain ⟨tv, H4, c4, t4, b4, k4, low4⟩ := hR.fin r3 h3.ho ok1
 have h4 : SB H4 s f t rv wv ow3 z.2.2 := ⟨⟨ver3, k4.2 _ _ gs3 (hR.qs _ rfl)⟩, b4⟩
 have w4 := hWR w3 k4
 have k4n := k4.1
 obtain ⟨v5, H5, c5, ow5, h5, w5, f5⟩ := c_taken hW (hR.goodf ok1) h4 (by omega) ⟨by omega, hs, no3⟩ w4 ok2 t4
 have f5n := f5.n
 obtain ⟨ver5, gs5⟩ := h5.hs
 obtain ⟨tv6, H6, c6, t6, good6, k6, low6⟩ := hWF w5 ok3
 have h6 := h5.kw hW.ps hW.p8 k6
 have hlf : (fdT ws (fnl z.1) z.2.1 z.2.2).2.length + (outs (wfn (fdT ws (fnl z.1) z.2.1 z.2.2).1)).length < 10000 := by
  have := ok4.2
  unfold lastF at this
  rw [List.length_append] at this
  exact this
 obtain ⟨v7, H7, c7, ow7, h7, f7⟩ := c_written good6 (by omega) h6 t6
 obtain ⟨ver7, gs7⟩ := h7.hs
 have k6n := k6.1
 have f7n := f7.n
 have lowA : ∀ j, j < B → H7.get j = H1.get j ∧ NotAt ow7 j := fun j hj => by
  have hn5 := (f5.low j hj).2
  have hjb : j < H6.n := by omega
  refine ⟨?_, f7.o j hjb hn5⟩
  rw [f7.k j hjb (by omega) hn5, low6 j hj, (f5.low j hj).1, low4 j hj, low3 j hj]
 have g7 : H7.get H.n = some ⟨[.int .i64 0, .int .i64 0, .int .i64 0], 27, .tip, 0, []⟩ := by rw [(lowA _ (by omega)).1]; exact g1
 have st7 := fa_store (H := H7) (i := H.n) (ver := 0) (el := 27) (a := .int .i64 0) (b := .int .i64 0) (c := .int .i64 0) (u := .int .i64 0) (v := .int .i64 0) (x := .int .i64 0) rfl
 obtain ⟨H8, hH8⟩ : ∃ H8, H8 = H7.upd H.n ⟨[.int .i64 0, .int .i64 0, .int .i64 0], 27, .tip, 0 + 1, []⟩ := ⟨_, rfl⟩
 rw [← hH8] at st7
 have g8 : H8.get H.n = some ⟨[.int .i64 0, .int .i64 0, .int .i64 0], 27, .tip, 0 + 1, []⟩ := by rw [hH8]; exact upd_self g7
 have g8s : H8.get s = some ⟨SC f t rv wv ow7, 70, .tip, ver7, []⟩ := by rw [hH8, upd_other g7 (by omega)]; exact gs7
 have z8 : ((0 : Int) ≠ 0) = False := by simp
 have z0 : ((0 : Int) = 0) = True := by simp
 simp only [WA, isStore, isCall, isK, freshI, stampO, List.nil_append, Option.map_some, Option.map_none, Option.bind_some, List.map_cons, List.map_nil, if_true, if_false, Nat.reduceEqDiff, Int.reduceEq, Nat.reduceAdd, Nat.reduceMul, reduceCtorEq, eq_self, Int.reduceLT, Int.reduceLE, Int.reduceToNat, List.length_cons, List.length_nil, List.all_cons, List.all_nil, List.take_zero, List.drop_nil, List.append_nil, List.getElem?_cons_zero, List.getElem?_cons_succ, List.drop_succ_cons, List.drop_zero, List.take_succ_cons, List.cons_append, Nat.reduceLeDiff, Int.cast_ofNat_Int, ← hH1, hO, z8, hl]
 rw [w_enter]
 simp only [WA, isStore, isCall, isK, freshI, stampO, List.nil_append, Option.map_some, Option.map_none, Option.bind_some, List.map_cons, List.map_nil, if_true, if_false, Nat.reduceEqDiff, Int.reduceEq, Nat.reduceAdd, Nat.reduceMul, reduceCtorEq, eq_self, Int.reduceLT, Int.reduceLE, Int.reduceToNat, List.length_cons, List.length_nil, List.all_cons, List.all_nil, List.take_zero, List.drop_nil, List.append_nil, List.getElem?_cons_zero, List.getElem?_cons_succ, List.drop_succ_cons, List.drop_zero, List.take_succ_cons, List.cons_append, Nat.reduceLeDiff, Int.cast_ofNat_Int, p1, p2, p3, gs3, sc3, st_inv, c4, c5, gs5, sc8, z0, sc4, c6, c7, gs7, sc5, sc6r, g7, st7, g8s, ress_cell, rd_load, g8, fa_load, Option.map_some]
 have n8 : H8.n = H7.n := by rw [hH8]; simp
 refine ⟨⟨by omega, fun j hj => ?_⟩, ow7, rfl, Own.move h7.ho fun i b hi he => ?_, ?_⟩
 ·rw [hH8, upd_other g7 (by omega), (lowA j (by omega)).1, x1.2 j hj]
 ·rw [hH8, upd_other g7 (fun e => by subst e; rw [g7] at hi; injection hi with hi; subst hi; revert he; simp only; decide)]
  exact hi
 ·obtain ⟨_, ⟨rfl, _⟩ | ⟨j, ver, anc, rfl, hn, hg⟩⟩ := h7.ho
  ·trivial
  ·show H.n ≤ j
   have := fun hj => (lowA j hj).2
   unfold NotAt at this
   by_cases hjj : j < B
   ·exact absurd rfl (this hjj)
   ·omega
def SZ (f t rd wr : Value) : List Value := [f, t, .int .i64 0, rd, wr, .slice none 0 0, .int .i64 0, .int .i64 0, .int .i64 0, .bool false, .bool false]
theorem sz0 {f t rd wr : Value} : (SZ f t rd wr)[0]? = some f := rfl
theorem sz1 {f t rd wr : Value} : (SZ f t rd wr)[1]? = some t := rfl
theorem cell1 {x : Value} (h1 : one x = true) : x.cells.toList = [x] := by cases x <;> simp [one] at h1 <;> rfl
theorem sz_set3 {H : AHeap} {i ver : Nat} {el : TypeId} {f t rd wr x : Value} (h1 : one x = true) : gotStore (some ⟨SZ f t rd wr, el, .tip, ver, []⟩) i 3 x 1 H = some (.tuple ⟨[]⟩, H.upd i ⟨SZ f t x wr, el, .tip, ver + 1, []⟩) := by
 have hc := cell1 h1
 have := got_store (H := H) (cells := SZ f t rd wr) (el := el) (ver := ver) (anc := []) (i := i) (o := 3) (n := 1) (v := x) (by rw [hc]; rfl) (by rw [hc]; simp [h1]) (by simp [SZ])
 rw [this, hc]
 rfl
theorem sz_set4 {H : AHeap} {i ver : Nat} {el : TypeId} {f t rd wr x : Value} (h1 : one x = true) : gotStore (some ⟨SZ f t rd wr, el, .tip, ver, []⟩) i 4 x 1 H = some (.tuple ⟨[]⟩, H.upd i ⟨SZ f t rd x, el, .tip, ver + 1, []⟩) := by
 have hc := cell1 h1
 have := got_store (H := H) (cells := SZ f t rd wr) (el := el) (ver := ver) (anc := []) (i := i) (o := 4) (n := 1) (v := x) (by rw [hc]; rfl) (by rw [hc]; simp [h1]) (by simp [SZ])
 rw [this, hc]
 rfl
theorem sz_set5 {H : AHeap} {i ver : Nat} {el : TypeId} {f t rd wr : Value} : gotStore (some ⟨SZ f t rd wr, el, .tip, ver, []⟩) i 5 (.slice none 0 0) 1 H = some (.tuple ⟨[]⟩, H.upd i ⟨SZ f t rd wr, el, .tip, ver + 1, []⟩) := by
 have := got_store (H := H) (cells := SZ f t rd wr) (el := el) (ver := ver) (anc := []) (i := i) (o := 5) (n := 1) (v := .slice none 0 0) rfl rfl (by simp [SZ])
 rw [this]
 rfl
theorem sz_set6 {H : AHeap} {i ver : Nat} {el : TypeId} {f t rd wr : Value} : gotStore (some ⟨SZ f t rd wr, el, .tip, ver, []⟩) i 6 (.agg ⟨[.int .i64 0, .int .i64 0, .int .i64 0]⟩) 3 H = some (.tuple ⟨[]⟩, H.upd i ⟨SZ f t rd wr, el, .tip, ver + 1, []⟩) := by
 have := got_store (H := H) (cells := SZ f t rd wr) (el := el) (ver := ver) (anc := []) (i := i) (o := 6) (n := 3) (v := .agg ⟨[.int .i64 0, .int .i64 0, .int .i64 0]⟩) rfl rfl (by simp [SZ])
 rw [this]
 rfl
theorem sz_set9 {H : AHeap} {i ver : Nat} {el : TypeId} {f t rd wr : Value} : gotStore (some ⟨SZ f t rd wr, el, .tip, ver, []⟩) i 9 (.bool false) 1 H = some (.tuple ⟨[]⟩, H.upd i ⟨SZ f t rd wr, el, .tip, ver + 1, []⟩) := by
 have := got_store (H := H) (cells := SZ f t rd wr) (el := el) (ver := ver) (anc := []) (i := i) (o := 9) (n := 1) (v := .bool false) rfl rfl (by simp [SZ])
 rw [this]
 rfl
theorem sz_set10 {H : AHeap} {i ver : Nat} {el : TypeId} {f t rd wr : Value} : gotStore (some ⟨SZ f t rd wr, el, .tip, ver, []⟩) i 10 (.bool false) 1 H = some (.tuple ⟨[]⟩, H.upd i ⟨SZ f t rd wr, el, .tip, ver + 1, []⟩) := by
 have := got_store (H := H) (cells := SZ f t rd wr) (el := el) (ver := ver) (anc := []) (i := i) (o := 10) (n := 1) (v := .bool false) rfl rfl (by simp [SZ])
 rw [this]
 rfl
def Ks (H H' : AHeap) : Prop := H.n ≤ H'.n ∧ ∀ j b, H.get j = some b → b.elem ≠ 70 → H'.get j = some b
theorem Ks.trans {a b c : AHeap} (h : Ks a b) (k : Ks b c) : Ks a c := ⟨Nat.le_trans h.1 k.1, fun j x hj he => k.2 j x (h.2 j x hj he) he⟩
theorem Ext.ks {a b : AHeap} (h : Ext a b) : Ks a b := ⟨h.1, fun j x hj _ => h.get hj⟩
theorem Ks.upd {H : AHeap} {i ver : Nat} {cs : List Value} {c : ABlk} (hg : H.get i = some ⟨cs, 70, .tip, ver, []⟩) : Ks H (H.upd i c) := ⟨by simp, fun j b hj he => by
 rw [upd_other hg (fun e => by subst e; rw [hg] at hj; injection hj with hj; subst hj; exact he rfl)]
 exact hj⟩
theorem v_stream {H : AHeap} {f t : ByteArray} : vBuild [.string ⟨#[]⟩, .string ⟨#[]⟩, .int .i64 0, .nilIface, .nilIface, .slice none 0 0, .int .i64 0, .int .i64 0, .int .i64 0, .bool false, .bool false] [(0, 1, .string f), (1, 1, .string t), (2, 1, .int .i64 0)] H = some (.agg ⟨SZ (.string f) (.string t) .nilIface .nilIface⟩, H) := rfl
theorem c_Reset {s ver : Nat} {f t rd wr : Value} {H : AHeap} {B : Nat} {R W : AHeap → Value → Prop} (hg : H.get s = some ⟨SZ f t rd wr, 70, .tip, ver, []⟩)
  (hD : ∀ H, Gives (cw Tryz.prog (tabF tab) om1 18 [f] H) fun v H' => Ext H H' ∧ ∃ rv, v = .tuple ⟨[rv, .int .i64 0]⟩ ∧ one rv = true ∧ (B ≤ H.n → R H' rv))
  (hE : ∀ H, Gives (cw Tryz.prog (tabF tab) om1 30 [t] H) fun v H' => Ext H H' ∧ ∃ wv, v = .tuple ⟨[wv, .int .i64 0]⟩ ∧ one wv = true ∧ (B ≤ H.n → W H' wv)) (hB : B ≤ H.n)
  (hRk : ∀ {H H' v}, R H v → Ks H H' → R H' v) (hWk : ∀ {H H' v}, W H v → Ks H H' → W H' v) :
  Gives (cw Tryz.prog (tabF tab) om1 45 [.pointer (some ⟨s, 0, none⟩)] H) fun v H' => H.n ≤ H'.n ∧ (∀ j, j < H.n → j ≠ s → H'.get j = H.get j) ∧ ∃ rv wv ver', H'.get s = some ⟨SZ f t rv wv, 70, .tip, ver', []⟩ ∧ R H' rv ∧ W H' wv := by
 rw [cw_run (F := F_stream_Stream__Reset) rfl rfl rfl]
 unfold F_stream_Stream__Reset k_stream_Stream__Reset
 obtain ⟨v1, H1, c1, x1, rv, rfl, o1, r1⟩ := hD H
 have g1 := x1.get hg
 have s1 := sz_set3 (H := H1) (i := s) (ver := ver) (el := 70) (f := f) (t := t) (rd := rd) (wr := wr) (x := rv) o1
 obtain ⟨H2, hH2⟩ : ∃ H2, H2 = H1.upd s ⟨SZ f t rv wr, 70, .tip, ver + 1, []⟩ := ⟨_, rfl⟩
 rw [← hH2] at s1
 have g2 : H2.get s = some ⟨SZ f t rv wr, 70, .tip, ver + 1, []⟩ := by rw [hH2]; exact upd_self g1
 have ks2 : Ks H1 H2 := by rw [hH2]; exact Ks.upd g1
 have n2 : H2.n = H1.n := by rw [hH2]; simp
 obtain ⟨v3, H3, c3, x3, wv, rfl, o3, w3⟩ := hE H2
 have g3 := x3.get g2
 have s3 := sz_set4 (H := H3) (i := s) (ver := ver + 1) (el := 70) (f := f) (t := t) (rd := rv) (wr := wr) (x := wv) o3
 obtain ⟨H4, hH4⟩ : ∃ H4, H4 = H3.upd s ⟨SZ f t rv wv, 70, .tip, ver + 1 + 1, []⟩ := ⟨_, rfl⟩
 rw [← hH4] at s3
 have g4 : H4.get s = some ⟨SZ f t rv wv, 70, .tip, ver + 1 + 1, []⟩ := by rw [hH4]; exact upd_self g3
 have ks4 : Ks H3 H4 := by rw [hH4]; exact Ks.upd g3
 obtain ⟨H5, hH5⟩ : ∃ H5, H5 = H4.upd s ⟨SZ f t rv wv, 70, .tip, ver + 1 + 1 + 1, []⟩ := ⟨_, rfl⟩
 have g5 : H5.get s = some ⟨SZ f t rv wv, 70, .tip, ver + 1 + 1 + 1, []⟩ := by rw [hH5]; exact upd_self g4
 have ks5 : Ks H4 H5 := by rw [hH5]; exact Ks.upd g4
 obtain ⟨H6, hH6⟩ : ∃ H6, H6 = H5.upd s ⟨SZ f t rv wv, 70, .tip, ver + 1 + 1 + 1 + 1, []⟩ := ⟨_, rfl⟩
 have g6 : H6.get s = some ⟨SZ f t rv wv, 70, .tip, ver + 1 + 1 + 1 + 1, []⟩ := by rw [hH6]; exact upd_self g5
 have ks6 : Ks H5 H6 := by rw [hH6]; exact Ks.upd g5
 obtain ⟨H7, hH7⟩ : ∃ H7, H7 = H6.upd s ⟨SZ f t rv wv, 70, .tip, ver + 1 + 1 + 1 + 1 + 1, []⟩ := ⟨_, rfl⟩
 have g7 : H7.get s = some ⟨SZ f t rv wv, 70, .tip, ver + 1 + 1 + 1 + 1 + 1, []⟩ := by rw [hH7]; exact upd_self g6
 have ks7 : Ks H6 H7 := by rw [hH7]; exact Ks.upd g6
 obtain ⟨H8, hH8⟩ : ∃ H8, H8 = H7.upd s ⟨SZ f t rv wv, 70, .tip, ver + 1 + 1 + 1 + 1 + 1 + 1, []⟩ := ⟨_, rfl⟩
 have g8 : H8.get s = some ⟨SZ f t rv wv, 70, .tip, ver + 1 + 1 + 1 + 1 + 1 + 1, []⟩ := by rw [hH8]; exact upd_self g7
 have ks8 : Ks H7 H8 := by rw [hH8]; exact Ks.upd g7
 have hb : ∀ H, vBuild [.int .i64 0, .int .i64 0, .int .i64 0] [] H = some (.agg ⟨[.int .i64 0, .int .i64 0, .int .i64 0]⟩, H) := fun H => rfl
 simp only [WA, isStore, isCall, isK, freshI, stampO, List.nil_append, Option.map_some, Option.map_none, Option.bind_some, List.map_cons, List.map_nil, if_true, if_false, Nat.reduceEqDiff, Int.reduceEq, Nat.reduceAdd, Nat.reduceMul, reduceCtorEq, eq_self, Int.reduceLT, Int.reduceLE, Int.reduceToNat, List.length_cons, List.length_nil, List.all_cons, List.all_nil, List.take_zero, List.drop_nil, List.append_nil, List.getElem?_cons_zero, List.getElem?_cons_succ, List.drop_succ_cons, List.drop_zero, List.take_succ_cons, List.cons_append, Nat.reduceLeDiff, Int.cast_ofNat_Int, hg, sz0, c1, g1, s1, g2, sz1, c3, g3, s3, hb, g4, sz_set5, ← hH5, g5, sz_set6, ← hH6, g6, sz_set9, ← hH7, g7, sz_set10, ← hH8]
 have kk := ((ks4.trans ks5).trans ks6).trans (ks7.trans ks8)
 have x1n := x1.1
 have x3n := x3.1
 refine ⟨by have := kk.1; omega, fun j hj hjs => ?_, rv, wv, _, g8, hRk (r1 hB) (ks2.trans ((Ext.ks x3).trans kk)), hWk (w3 (by omega)) kk⟩
 rw [hH8, upd_other g7 hjs, hH7, upd_other g6 hjs, hH6, upd_other g5 hjs, hH5, upd_other g4 hjs, hH4, upd_other g3 hjs, x3.2 j (by omega), hH2, upd_other g1 hjs, x1.2 j hj]
theorem c_Open {f t : ByteArray} {H : AHeap} {B : Nat} {R W : AHeap → Value → Prop}
  (hf : ∀ H, cw Tryz.prog (tabF tab) om1 41 [.string f] H = some (.tuple ⟨[.string f, .int .i64 0]⟩, H)) (ht : ∀ H, cw Tryz.prog (tabF tab) om1 41 [.string t] H = some (.tuple ⟨[.string t, .int .i64 0]⟩, H))
  (hD : ∀ H, Gives (cw Tryz.prog (tabF tab) om1 18 [.string f] H) fun v H' => Ext H H' ∧ ∃ rv, v = .tuple ⟨[rv, .int .i64 0]⟩ ∧ one rv = true ∧ (B ≤ H.n → R H' rv))
  (hE : ∀ H, Gives (cw Tryz.prog (tabF tab) om1 30 [.string t] H) fun v H' => Ext H H' ∧ ∃ wv, v = .tuple ⟨[wv, .int .i64 0]⟩ ∧ one wv = true ∧ (B ≤ H.n → W H' wv)) (hB : B ≤ H.n)
  (hRk : ∀ {H H' v}, R H v → Ks H H' → R H' v) (hWk : ∀ {H H' v}, W H v → Ks H H' → W H' v) :
  Gives (cw Tryz.prog (tabF tab) om1 24 [.string f, .string t, .int .i64 0] H) fun v H' => Ext H H' ∧ v = .tuple ⟨[.pointer (some ⟨H.n, 0, none⟩), .int .i64 0]⟩ ∧ ∃ rv wv, SB H' H.n (.string f) (.string t) rv wv (.slice none 0 0) [] ∧ R H' rv ∧ W H' wv := by
 rw [cw_run (F := F_stream_Open) rfl rfl rfl]
 unfold F_stream_Open k_stream_Open
 obtain ⟨H1, hH1⟩ : ∃ H1, H1 = H.push ⟨SZ (.string f) (.string t) .nilIface .nilIface, 70, .tip, 0, []⟩ := ⟨_, rfl⟩
 have x1 : Ext H H1 := by rw [hH1]; exact Ext.push H _
 have g1 : H1.get H.n = some ⟨SZ (.string f) (.string t) .nilIface .nilIface, 70, .tip, 0, []⟩ := by rw [hH1]; exact get_push_self
 have hbx : vBox (.agg ⟨SZ (.string f) (.string t) .nilIface .nilIface⟩) 70 H = some (.pointer (some ⟨H.n, 0, none⟩), H1) := by rw [hH1]; exact v_box rfl
 have x1n := x1.1
 obtain ⟨v, H2, c2, n2, k2, rv, wv, ver, g2, r2, w2⟩ := c_Reset g1 hD hE (by omega) hRk hWk
 have z0 : ((0 : Int) ≠ 0) = False := by simp
 have z1 : ((0 : Int) < 0) = False := by simp
 have z2 : ((0 : Int) ≥ 3) = False := by simp
 simp only [WA, isStore, isCall, isK, freshI, stampO, List.nil_append, Option.map_some, Option.map_none, Option.bind_some, List.map_cons, List.map_nil, if_true, if_false, Nat.reduceEqDiff, Int.reduceEq, Nat.reduceAdd, Nat.reduceMul, reduceCtorEq, eq_self, Int.reduceLT, Int.reduceLE, Int.reduceToNat, List.length_cons, List.length_nil, List.all_cons, List.all_nil, List.take_zero, List.drop_nil, List.append_nil, List.getElem?_cons_zero, List.getElem?_cons_succ, List.drop_succ_cons, List.drop_zero, List.take_succ_cons, List.cons_append, Nat.reduceLeDiff, Int.cast_ofNat_Int, hf, ht, z0, z1, z2, v_stream, hbx, c2]
 exact ⟨⟨by omega, fun j hj => by rw [k2 j (by omega) (by omega), x1.2 j hj]⟩, rv, wv, ⟨⟨ver, g2⟩, ⟨rfl, .inl ⟨rfl, rfl⟩⟩⟩, r2, w2⟩
theorem MDec.one {k : Nat} {H : AHeap} {v : Value} {L : List Rl} {w : List Int} {a st : Int} (h : MDec k H v L w a st) : one v = true := by
 obtain ⟨d, m, t, ver, rfl, _⟩ := h.md
 rfl
theorem c_DecT {k : Nat} {L : List Rl} {H : AHeap} (hk : k < 8) (h0 : k ≠ 0) (h7 : k ≠ 7) (hT : ∀ H, Gives (cw Tryz.prog (tabF tab) om1 17 [.string (nm k)] H) fun v H' => Ext H H' ∧ ∃ q, v = .pointer (some ⟨q, 0, none⟩) ∧ TableOk H' q L) :
  Gives (cw Tryz.prog (tabF tab) om1 18 [.string (nm k)] H) fun v H' => Ext H H' ∧ ∃ rv, v = .tuple ⟨[rv, .int .i64 0]⟩ ∧ one rv = true ∧ ∃ k, H.n ≤ k ∧ MDec k H' rv L [] 0 0 := by
 rw [cw_run (F := F_codec_Decode) rfl rfl rfl]
 unfold F_codec_Decode k_codec_Decode
 obtain ⟨v1, H1, c1, x1, q, rfl, hT1⟩ := hT H
 obtain ⟨v2, H2, c2, x2, hM⟩ := c_MDecode hT1
 have hn := c_Name (H := H) hk
 have e0 := e_utf k hk
 have e7 := e_iscii k hk
 have b0 : Nat.beq k 0 = false := by cases h : Nat.beq k 0 with | false => rfl | true => exact absurd (Nat.eq_of_beq_eq_true h) h0
 have b7 : Nat.beq k 7 = false := by cases h : Nat.beq k 7 with | false => rfl | true => exact absurd (Nat.eq_of_beq_eq_true h) h7
 rw [b0] at e0
 rw [b7] at e7
 have z0 : ((0 : Int) ≠ 0) = False := by simp
 simp only [WA, isStore, isCall, isK, freshI, stampO, List.nil_append, Option.map_some, Option.map_none, Option.bind_some, List.map_cons, List.map_nil, if_true, if_false, Nat.reduceEqDiff, Int.reduceEq, Nat.reduceAdd, Nat.reduceMul, reduceCtorEq, eq_self, Int.reduceLT, Int.reduceLE, Int.reduceToNat, List.length_cons, List.length_nil, List.all_cons, List.all_nil, List.take_zero, List.drop_nil, List.append_nil, List.getElem?_cons_zero, List.getElem?_cons_succ, List.drop_succ_cons, List.drop_zero, List.take_succ_cons, List.cons_append, Nat.reduceLeDiff, Int.cast_ofNat_Int, hn, z0, st_bin gS, e0, e7, c1, c2]
 exact ⟨x1.trans x2, _, rfl, hM.one, H1.n, x1.1, hM⟩
theorem c_EncS {H : AHeap} : Gives (cw Tryz.prog (tabF tab) om1 30 [.string (nm 0)] H) fun v H' => Ext H H' ∧ ∃ rv, v = .tuple ⟨[rv, .int .i64 0]⟩ ∧ one rv = true ∧ rv = .iface 113 (.pointer (some ⟨H.n, 0, none⟩)) ∧ H'.get H.n = some ⟨[.int .i64 0], 115, .tip, 0, []⟩ := by
 rw [cw_run (F := F_codec_Encode) rfl rfl rfl]
 unfold F_codec_Encode k_codec_Encode
 have hn := c_Name (H := H) (k := 0) (by omega)
 have e0 := e_utf 0 (by omega)
 rw [show Nat.beq 0 0 = true from rfl] at e0
 have hbx : vBox (.agg ⟨[.int .i64 0]⟩) 115 H = some (.pointer (some ⟨H.n, 0, none⟩), H.push ⟨[.int .i64 0], 115, .tip, 0, []⟩) := v_box rfl
 have z0 : ((0 : Int) ≠ 0) = False := by simp
 simp only [WA, isStore, isCall, isK, freshI, stampO, List.nil_append, Option.map_some, Option.map_none, Option.bind_some, List.map_cons, List.map_nil, if_true, if_false, Nat.reduceEqDiff, Int.reduceEq, Nat.reduceAdd, Nat.reduceMul, reduceCtorEq, eq_self, Int.reduceLT, Int.reduceLE, Int.reduceToNat, List.length_cons, List.length_nil, List.all_cons, List.all_nil, List.take_zero, List.drop_nil, List.append_nil, List.getElem?_cons_zero, List.getElem?_cons_succ, List.drop_succ_cons, List.drop_zero, List.take_succ_cons, List.cons_append, Nat.reduceLeDiff, Int.cast_ofNat_Int, hn, z0, st_bin gS, e0, v_bl1, hbx]
 exact ⟨Ext.push H _, _, rfl, rfl, rfl⟩
theorem v_bytes {H : AHeap} : vBuild [.slice none 0 0, .int .i64 0] [] H = some (.agg ⟨[.slice none 0 0, .int .i64 0]⟩, H) := rfl
theorem c_DecB {H : AHeap} : Gives (cw Tryz.prog (tabF tab) om1 18 [.string (nm 0)] H) fun v H' => Ext H H' ∧ ∃ rv, v = .tuple ⟨[rv, .int .i64 0]⟩ ∧ one rv = true ∧ rv = .iface 97 (.pointer (some ⟨H.n, 0, none⟩)) ∧ H'.get H.n = some ⟨[.slice none 0 0, .int .i64 0], 101, .tip, 0, []⟩ := by
 rw [cw_run (F := F_codec_Decode) rfl rfl rfl]
 unfold F_codec_Decode k_codec_Decode
 have hn := c_Name (H := H) (k := 0) (by omega)
 have e0 := e_utf 0 (by omega)
 rw [show Nat.beq 0 0 = true from rfl] at e0
 have hbx : vBox (.agg ⟨[.slice none 0 0, .int .i64 0]⟩) 101 H = some (.pointer (some ⟨H.n, 0, none⟩), H.push ⟨[.slice none 0 0, .int .i64 0], 101, .tip, 0, []⟩) := v_box rfl
 have z0 : ((0 : Int) ≠ 0) = False := by simp
 simp only [WA, isStore, isCall, isK, freshI, stampO, List.nil_append, Option.map_some, Option.map_none, Option.bind_some, List.map_cons, List.map_nil, if_true, if_false, Nat.reduceEqDiff, Int.reduceEq, Nat.reduceAdd, Nat.reduceMul, reduceCtorEq, eq_self, Int.reduceLT, Int.reduceLE, Int.reduceToNat, List.length_cons, List.length_nil, List.all_cons, List.all_nil, List.take_zero, List.drop_nil, List.append_nil, List.getElem?_cons_zero, List.getElem?_cons_succ, List.drop_succ_cons, List.drop_zero, List.take_succ_cons, List.cons_append, Nat.reduceLeDiff, Int.cast_ofNat_Int, hn, z0, st_bin gS, e0, v_bytes, hbx]
 exact ⟨Ext.push H _, _, rfl, rfl, rfl⟩
def one1B : List Tok → Bool
 | [] => true
 | [⟨_, _, [_], e⟩] => decide (e = 0)
 | _ => false
theorem one1_of {T : List Tok} (h : one1B T = true) : one1 T := by
 unfold one1B at h
 split at h
 ·exact .inl rfl
 ·rename_i a n u e
  simp only [decide_eq_true_eq] at h
  subst h
  exact .inr ⟨_, _, _, rfl⟩
 ·cases h
def goodB (T : List Tok) : Bool := T.all fun x => decide (x.err = 0) && !x.out.isEmpty && x.out.all fun u => decide (0 ≤ u ∧ u < 256)
theorem good_of {T : List Tok} (h : goodB T = true) : goodT T := fun x hx => by
 have := List.all_eq_true.1 h x hx
 simp only [Bool.and_eq_true, decide_eq_true_eq, Bool.not_eq_true'] at this
 refine ⟨this.1.1, fun e => by rw [e] at this; simp at this, fun u hu => ?_⟩
 have := List.all_eq_true.1 this.2 u hu
 simpa using this
section
variable {ρ τ : Type} (rs : ρ → Int → List Tok × ρ) (ws : τ → Int → List Tok × τ) (okr : ρ → Int → Bool) (okw : τ → Int → Bool)
def okTB (T : List Tok) (st : τ) : Bool := match T with
 | ⟨_, _, [u], _⟩ :: _ => okw st u
 | _ => true
def okAB : List Int → ρ → τ → List Int → Bool
 | [], _, _, _ => true
 | u :: us, r, st, l => decide (0 ≤ u ∧ u < 256) && okr r u && okTB okw (rs r u).1 st && decide (l.length < 100000000) && okAB us (rs r u).2 (fdT ws (rs r u).1 st l).1 (fdT ws (rs r u).1 st l).2
theorem okT_of {T : List Tok} {st : τ} (h : okTB okw T st = true) : okT (fun s u => okw s u = true) T st := by
 rcases T with _ | ⟨⟨a, n, o, e⟩, T⟩
 ·trivial
 ·rcases o with _ | ⟨u, _ | ⟨_, _⟩⟩
  ·trivial
  ·exact h
  ·trivial
theorem okA_of : ∀ (us : List Int) (r : ρ) (st : τ) (l : List Int), okAB rs ws okr okw us r st l = true → okA rs ws (fun r u => okr r u = true) (fun s u => okw s u = true) us r st l
 | [], _, _, _, _ => trivial
 | u :: us, r, st, l, h => by
  unfold okAB at h
  simp only [Bool.and_eq_true, decide_eq_true_eq] at h
  exact ⟨h.1.1.1.1, h.1.1.1.2, okT_of _ h.1.1.2, h.1.2, okA_of us _ _ _ h.2⟩
end
abbrev MSt := List Int × Int × Int
def rdS (L : List Rl) (r : MSt) (u : Int) : List Tok × MSt := takeW L false (r.1 ++ [u]) r.2.1 r.2.2
def rdF (L : List Rl) (r : MSt) : List Tok := (takeW L true r.1 r.2.1 r.2.2).1
def okM (r : MSt) : Bool := decide (r.1.length < 100 ∧ 0 ≤ r.2.1 ∧ r.2.1 < 100000000 ∧ 0 ≤ r.2.2 ∧ r.2.2 < 100000000)
def rdO (L : List Rl) (r : MSt) (u : Int) : Bool := okM r && one1B (rdS L r u).1
def rdOF (L : List Rl) (r : MSt) : Bool := okM r && one1B (rdF L r)
def qM (b : ABlk) : Bool := Nat.beq b.elem 197 || Nat.beq b.elem 3
def pS (b : ABlk) : Bool := Nat.beq b.elem 115
theorem qM_ne {b : ABlk} (h : qM b = false) : b.elem ≠ 197 ∧ b.elem ≠ 3 := by
 unfold qM at h
 constructor <;> (intro e1; rw [e1] at h; revert h; decide)
theorem kx_kw {H H' : AHeap} (h : Kx H H') : Kw qM H H' := ⟨h.1, fun j b hj he => (h.2 j b hj (qM_ne he).1).1 (qM_ne he).2⟩
def RdT (B : Nat) (L : List Rl) (rv : Value) (H : AHeap) (r : MSt) (_ : Value) : Prop := ∃ k, B ≤ k ∧ MDec k H rv L r.1 r.2.1 r.2.2
theorem low_of {k B : Nat} {H H' : AHeap} (hk : B ≤ k) (hn : k ≤ H.n) (h : Ext (cutN H k) H') : ∀ j, j < B → H'.get j = H.get j := fun j hj => by
 have hjk : j < k := Nat.lt_of_lt_of_le hj hk
 rw [h.2 j hjk, cutN_get hn hjk]
theorem MDec.kn {k : Nat} {H : AHeap} {v : Value} {L : List Rl} {w : List Int} {a st : Int} (h : MDec k H v L w a st) : k ≤ H.n := by
 obtain ⟨d, m, t, ver, _, _, _, h4⟩ := h.md
 exact h4.kn
theorem rm_T {B s : Nat} {L : List Rl} {rv : Value} {p : ABlk → Bool} (hp : ∀ b, isD b.elem = true → p b = false) : Rm B s qM p (RdT B L rv) rv (rdS L) (fun r u => rdO L r u = true) (rdF L) (fun r => rdOF L r = true) where
 qs := fun b e => by unfold qM; rw [e]; decide
 put := by
  intro H r ow l u ⟨k, hk, hM⟩ ho hok
  unfold rdO okM at hok
  simp only [Bool.and_eq_true, decide_eq_true_eq] at hok
  obtain ⟨⟨b1, b2, b3, b4, b5⟩, _⟩ := hok
  have hsq : (r.1.length + 1) * (r.1.length + 1) ≤ 100 * 100 := Nat.mul_le_mul (by omega) (by omega)
  have hq1 : r.2.2 + ((r.1.length : Int) + 1) * ((r.1.length : Int) + 1) < 1000000000 := by
   have h : (((r.1.length + 1) * (r.1.length + 1) : Nat) : Int) ≤ 10000 := by omega
   push_cast at h
   omega
  obtain ⟨v, H', c, q1, q2, q3, q4, q5⟩ := hM.put (u := u) ⟨b2, by omega⟩ ⟨b4, hq1⟩ (by omega)
  refine ⟨v, H', c, ⟨k, hk, q1⟩, q2, Own.move ho fun i b hi he => (q4.2 i b hi (by rw [he]; decide)).1 (by rw [he]; decide), kx_kw q4, low_of hk hM.kn q5⟩
 fin := by
  intro H r ow l ⟨k, hk, hM⟩ ho hok
  unfold rdOF okM at hok
  simp only [Bool.and_eq_true, decide_eq_true_eq] at hok
  obtain ⟨⟨b1, b2, b3, b4, b5⟩, _⟩ := hok
  have hsq : r.1.length * r.1.length ≤ 100 * 100 := Nat.mul_le_mul (by omega) (by omega)
  have hq1 : r.2.2 + (r.1.length : Int) * (r.1.length : Int) < 1000000000 := by
   have h : ((r.1.length * r.1.length : Nat) : Int) ≤ 10000 := by omega
   push_cast at h
   omega
  obtain ⟨v, H', c, q1, q2, q3, q4, q5⟩ := hM.fin ⟨b2, by omega⟩ ⟨b4, hq1⟩ (by omega)
  exact ⟨v, H', c, q2, Own.move ho fun i b hi he => (q4.2 i b hi (by rw [he]; decide)).1 (by rw [he]; decide), kx_kw q4, low_of hk hM.kn q5⟩
 keep := by
  intro H H' r ow ow' l ⟨k, hk, hM⟩ ho hf
  refine ⟨k, hk, hM.keep hf.n fun j b hj he => hf.k j b hj (fun e => ?_) (fun e => ?_) (hp _ he)⟩
  ·rw [e] at he; exact absurd he (by decide)
  ·rw [e] at he; exact absurd he (by decide)
 good := by
  intro r u h
  unfold rdO at h
  simp only [Bool.and_eq_true] at h
  exact one1_of h.2
 goodf := by
  intro r h
  unfold rdOF at h
  simp only [Bool.and_eq_true] at h
  exact one1_of h.2
def wrS (a : Int) (u : Int) : List Tok × Int := ([⟨a, 1, utfB u, 0⟩], a + 1)
def okSB (a : Int) (u : Int) : Bool := decide (0 ≤ a ∧ a < 100000000) && decide (0 ≤ u ∧ u ≤ 1114111 ∧ (u < 55296 ∨ u > 57343))
def WrS (B sc : Nat) (H : AHeap) (a : Int) : Prop := B ≤ sc ∧ ∃ ver, H.get sc = some ⟨[.int .i64 a], 115, .tip, ver, []⟩
theorem me_SP : methA Tryz.prog 113 "Put" = some (172, none) := by kernel_rfl
theorem me_SE : methA Tryz.prog 113 "End" = some (170, none) := by kernel_rfl
theorem c_SEnd {v : Value} {H : AHeap} : cw Tryz.prog (tabF tab) om1 170 [v] H = some (.slice none 0 0, H) := by
 rw [cw_run (F := F_codec_scalars__End) rfl rfl rfl]
 unfold F_codec_scalars__End k_codec_scalars__End
 simp only [WA, isStore, isCall, isK, freshI, stampO, List.nil_append, Option.map_some, Option.map_none, Option.bind_some, List.map_cons, List.map_nil, if_true, if_false, Nat.reduceEqDiff, Int.reduceEq, Nat.reduceAdd, Nat.reduceMul, reduceCtorEq, eq_self, Int.reduceLT, Int.reduceLE, Int.reduceToNat, List.length_cons, List.length_nil, List.all_cons, List.all_nil, List.take_zero, List.drop_nil, List.append_nil, List.getElem?_cons_zero, List.getElem?_cons_succ, List.drop_succ_cons, List.drop_zero, List.take_succ_cons, List.cons_append, Nat.reduceLeDiff, Int.cast_ofNat_Int]
theorem wm_S {B sc : Nat} : Wm B pS (WrS B sc) (.iface 113 (.pointer (some ⟨sc, 0, none⟩))) wrS (fun a u => okSB a u = true) where
 ps := fun b e => by unfold pS; rw [e]; decide
 pt := fun b e => by unfold pS; rw [e]; decide
 p8 := fun b e => by unfold pS; rw [e]; decide
 put := by
  intro H a u ⟨hB, ver, hg⟩ hok
  unfold okSB at hok
  simp only [Bool.and_eq_true, decide_eq_true_eq] at hok
  obtain ⟨v, H', c, q1, q2, q3, q4, q5⟩ := c_SPut (u := u) hok.2 hg ⟨hok.1.1, by omega⟩
  rw [inv_none me_SP]
  refine ⟨v, H', c, ⟨hB, _, q3⟩, q1, ⟨q4, fun j b hj he => ?_⟩, fun j hj => q5 j (by have := AHeap.lt_of_get hg; omega) (by omega)⟩
  rw [q5 j (AHeap.lt_of_get hj) (fun e => by subst e; rw [hg] at hj; injection hj with hj; subst hj; exact absurd he (show ¬ (Nat.beq 115 115 = false) by decide))]
  exact hj
 keep := by
  intro H H' a ⟨hB, ver, hg⟩ hn hk
  exact ⟨hB, ver, hk _ _ hg (by simp only; decide) (by rfl)⟩
 good := by
  intro a u hok
  unfold okSB at hok
  simp only [Bool.and_eq_true, decide_eq_true_eq] at hok
  obtain ⟨h1, h2, h3⟩ := utfB_ok (s := u) hok.2
  refine ⟨fun x hx => ?_, ?_⟩
  ·unfold wrS at hx
   simp only [List.mem_singleton] at hx
   subst hx
   exact ⟨rfl, h3, h1⟩
  ·unfold wrS outs
   simp only [List.flatMap_cons, List.flatMap_nil, List.append_nil]
   omega
theorem fin_S {B sc : Nat} {H : AHeap} {a : Int} (h : WrS B sc H a) (_ : True) : Gives (invA Tryz.prog (cw Tryz.prog (tabF tab) om1) (.iface 113 (.pointer (some ⟨sc, 0, none⟩))) "End" [] H) fun v H' => OwnToks Tryz.prog H' 36 v ((fun _ => []) a) ∧ goodT ((fun _ => []) a) ∧ Kw pS H H' ∧ ∀ j, j < B → H'.get j = H.get j := by
 rw [inv_none me_SE]
 exact ⟨_, _, c_SEnd, OwnRws.nil, fun _ h => absurd h (by simp), ⟨Nat.le_refl _, fun _ _ h _ => h⟩, fun _ _ => rfl⟩
def txt1 : List Int := [84, 105, 170, 110, 103]
def out1 : List Int := [84, 105, 225, 186, 191, 110, 103]
theorem run1_z : allF (rdS (RVis 256)) wrS txt1 ([], 0, 0) 0 [] = (([], 5, 5), 5, out1) := by kernel_rfl
theorem run1_ok : okAB (rdS (RVis 256)) wrS (rdO (RVis 256)) okSB txt1 ([], 0, 0) 0 [] = true := by kernel_rfl
theorem run1_f : rdOF (RVis 256) ([], 5, 5) = true := by kernel_rfl
theorem run1_f2 : rdF (RVis 256) ([], 5, 5) = [] := by kernel_rfl
theorem run1_l : lastF wrS (rdF (RVis 256)) (fun _ => []) (([], 5, 5), 5, out1) = out1 := by unfold lastF; simp only [run1_f2]; rfl
theorem MDec.ks {k : Nat} {H H' : AHeap} {v : Value} {L : List Rl} {w : List Int} {a st : Int} (hk : Ks H H') (h : MDec k H v L w a st) : MDec k H' v L w a st := h.keep hk.1 fun j b hj he => hk.2 j b hj (fun e => by rw [e] at he; exact absurd he (by decide))
theorem c_run1 {x : Value} {H : AHeap} (hx : Nums H .u8 x txt1) : Gives (cw Tryz.prog (tabF tab) om1 8 [.string (nm 2), .string (nm 0), .int .i64 0, x] H) fun v H' => Ext H H' ∧ ∃ ow, v = .tuple ⟨[ow, .agg ⟨[.int .i64 0, .int .i64 0, .int .i64 0]⟩, .int .i64 0]⟩ ∧ OwnB H' ow out1 ∧ From H.n ow := by
 obtain ⟨v, H2, c2, x2, rfl, rv, wv, hSB, ⟨k, hk, hM⟩, sc, hsc, rfl, gsc⟩ := c_Open (f := nm 2) (t := nm 0) (H := H.push ⟨[.int .i64 0, .int .i64 0, .int .i64 0], 27, .tip, 0, []⟩) (B := H.n + 1) (R := fun H9 rv => ∃ k, H.n + 1 ≤ k ∧ MDec k H9 rv (RVis 256) [] 0 0) (W := fun H9 wv => ∃ sc, H.n + 1 ≤ sc ∧ wv = .iface 113 (.pointer (some ⟨sc, 0, none⟩)) ∧ H9.get sc = some ⟨[.int .i64 0], 115, .tip, 0, []⟩)
  (fun H => c_Name (by omega)) (fun H => c_Name (by omega)) (fun H => by
   obtain ⟨v, H', c, x, rv, e, o, k, q1, q2⟩ := c_DecT (k := 2) (L := RVis 256) (H := H) (by omega) (by omega) (by omega) fun H => c_TableK (fun H => c_rules2) (by rw [RVis_len]; omega) RVis_right (by rw [RVis_len]; omega) RVis_cls
   exact ⟨v, H', c, x, rv, e, o, fun hb => ⟨k, by omega, q2⟩⟩) (fun H => by
   obtain ⟨v, H', c, x, rv, e, o, q1, q2⟩ := c_EncS (H := H)
   exact ⟨v, H', c, x, rv, e, o, fun hb => ⟨H.n, hb, q1, q2⟩⟩) (by rw [AHeap.n_push]; omega)
  (fun ⟨k, h1, h2⟩ hk => ⟨k, h1, h2.ks hk⟩) (fun ⟨sc, h1, h2, h3⟩ hk => ⟨sc, h1, h2, hk.2 _ _ h3 (by simp only; decide)⟩)
 rw [AHeap.n_push] at c2 hSB
 have hz := c_SAll (B := H.n + 1) (s := H.n + 1) (q := qM) (p := pS) (okf := fun r => rdOF (RVis 256) r = true) (wfn := fun _ => []) (okwf := fun _ => True) (rm_T (B := H.n + 1) (s := H.n + 1) (L := RVis 256) (rv := rv) (p := pS) (fun b he => by
   cases h : pS b with
   | false => rfl
   | true =>
    have := Nat.eq_of_beq_eq_true h
    rw [this] at he
    exact absurd he (by decide))) (wm_S (B := H.n + 1) (sc := sc)) (fun ⟨h1, ver, h2⟩ hk => ⟨h1, ver, hk.2 _ _ h2 (by rfl)⟩) (fun h h0 => fin_S h h0) (xs := txt1) rfl c2 x2 hSB ⟨k, hk, hM⟩ ⟨hsc, 0, gsc⟩ (Nat.le_refl _) hx (by decide) (okA_of _ _ _ _ _ _ _ _ run1_ok) run1_z run1_f (by rw [run1_f2]; trivial) trivial (by rw [run1_l]; decide)
 rw [run1_l] at hz
 exact hz
theorem app_none {H : AHeap} {x : Value} {el : TypeId} {sz by_ : Nat} (h : Sl H sz x 0 []) : appendA H (.slice none 0 0) x el sz by_ = some (.slice none 0 0, H) := by
 obtain ⟨⟨a, c, rfl⟩, h2⟩ := h
 unfold appendA
 simp only [h2]
 rfl
theorem wr_set0 {H : AHeap} {i ver : Nat} {el : TypeId} {a b x : Value} (h1 : one x = true) : gotStore (some ⟨[a, b], el, .tip, ver, []⟩) i 0 x 1 H = some (.tuple ⟨[]⟩, H.upd i ⟨[x, b], el, .tip, ver + 1, []⟩) := by
 have hc := cell1 h1
 have := got_store (H := H) (cells := [a, b]) (el := el) (ver := ver) (anc := []) (i := i) (o := 0) (n := 1) (v := x) (by rw [hc]; rfl) (by rw [hc]; simp [h1]) (by simp)
 rw [this, hc]
 rfl
theorem wr_set1 {H : AHeap} {i ver : Nat} {el : TypeId} {a b x : Value} (h1 : one x = true) : gotStore (some ⟨[a, b], el, .tip, ver, []⟩) i 1 x 1 H = some (.tuple ⟨[]⟩, H.upd i ⟨[a, x], el, .tip, ver + 1, []⟩) := by
 have hc := cell1 h1
 have := got_store (H := H) (cells := [a, b]) (el := el) (ver := ver) (anc := []) (i := i) (o := 1) (n := 1) (v := x) (by rw [hc]; rfl) (by rw [hc]; simp [h1]) (by simp)
 rw [this, hc]
 rfl
theorem v_tk0 {H : AHeap} {a n : Int} : vBuild [.int .i64 0, .int .i64 0, .slice none 0 0, .int .i64 0] [(0, 1, .int .i64 a), (1, 1, .int .i64 n), (3, 1, .int .i64 0)] H = some (.agg ⟨[.int .i64 a, .int .i64 n, .slice none 0 0, .int .i64 0]⟩, H) := rfl
theorem c_RTake {r ver : Nat} {a s : Int} {w : List Int} {vw : Value} {H : AHeap} (hg : H.get r = some ⟨[vw, .int .i64 a], 101, .tip, ver, []⟩) (ho : OwnB H vw w) (ha : 0 ≤ a ∧ a < 100000000) (hw : w.length < 1000) :
  Gives (cw Tryz.prog (tabF tab) om1 163 [.pointer (some ⟨r, 0, none⟩), .int .i64 s, .int .i64 w.length, .int .i64 0] H) fun v H' => H.n ≤ H'.n ∧ (∀ j, j < H.n → j ≠ r → H'.get j = H.get j) ∧ (∃ ver, H'.get r = some ⟨[.slice none 0 0, .int .i64 (a + w.length)], 101, .tip, ver, []⟩) ∧ ∃ p c, v = .agg ⟨tokC p c ⟨a, w.length, [s], 0⟩⟩ ∧ tokQ Tryz.prog H' (tokC p c ⟨a, w.length, [s], 0⟩) ⟨a, w.length, [s], 0⟩ := by
 rw [cw_run (F := F_carry_Reader__take) rfl rfl rfl]
 unfold F_carry_Reader__take k_carry_Reader__take
 have hrl := AHeap.lt_of_get hg
 obtain ⟨H1, hH1⟩ : ∃ H1, H1 = H.push ⟨[.int .i64 0, .int .i64 0, .slice none 0 0, .int .i64 0], 36, .tip, 0, []⟩ := ⟨_, rfl⟩
 have x1 : Ext H H1 := by rw [hH1]; exact Ext.push H _
 have g1 : H1.get H.n = some ⟨[.int .i64 0, .int .i64 0, .slice none 0 0, .int .i64 0], 36, .tip, 0, []⟩ := by rw [hH1]; exact get_push_self
 have n1 : H1.n = H.n + 1 := by rw [hH1, AHeap.n_push]
 obtain ⟨H2, hH2⟩ : ∃ H2, H2 = H1.push ⟨[.int .i64 a, .int .i64 w.length, .slice none 0 0, .int .i64 0], 36, .tip, 1, []⟩ := ⟨_, rfl⟩
 have x2 : Ext H1 H2 := by rw [hH2]; exact Ext.push H1 _
 have g2 : H2.get H1.n = some ⟨[.int .i64 a, .int .i64 w.length, .slice none 0 0, .int .i64 0], 36, .tip, 1, []⟩ := by rw [hH2]; exact get_push_self
 have hst := tk_store (H := H1.push ⟨[.int .i64 0, .int .i64 0, .slice none 0 0, .int .i64 0], 36, .tip, 0, []⟩) (i := H1.n) (ver := 0) (el := 36) (a := .int .i64 0) (b := .int .i64 0) (c := .slice none 0 0) (d := .int .i64 0) (u := .int .i64 a) (v := .int .i64 w.length) (x := .slice none 0 0) (y := .int .i64 0) rfl
 simp only [Nat.zero_add] at hst
 obtain ⟨H3, v3, x3, i3, k3⟩ := new_one (H := H2) (a := s)
 have g3 := x3.get g2
 have hst3 := tk_set2 (H := H3) (i := H1.n) (ver := 1) (el := 36) (a := .int .i64 a) (b := .int .i64 w.length) (c := .slice none 0 0) (d := .int .i64 0) (x := .slice (some ⟨H2.n, 0, none⟩) 1 2) rfl
 obtain ⟨H4, hH4⟩ : ∃ H4, H4 = H3.upd H1.n ⟨[.int .i64 a, .int .i64 w.length, .slice (some ⟨H2.n, 0, none⟩) 1 2, .int .i64 0], 36, .tip, 1 + 1, []⟩ := ⟨_, rfl⟩
 rw [← hH4] at hst3
 have g4 : H4.get H1.n = some ⟨[.int .i64 a, .int .i64 w.length, .slice (some ⟨H2.n, 0, none⟩) 1 2, .int .i64 0], 36, .tip, 1 + 1, []⟩ := by rw [hH4]; exact upd_self g3
 have x4 : Ext H H4 := by rw [hH4]; exact Ext.upd (x1.trans (x2.trans x3)) g3 (by omega)
 have gr4 := x4.get hg
 have o4 := Own.ext x4 ho
 obtain ⟨v5, s5, s5', _⟩ := Sl.drop (P := Tryz.prog) (j := w.length) o4.sl (o4.cut (by kernel_rfl)) (Nat.le_refl _)
 have s6 : Sl H4 1 v5 0 [] := by
  have := s5'
  rw [Nat.sub_self, List.drop_of_length_le (by simp [u8s])] at this
  exact this
 have a5 := app_none (el := 5) (by_ := 1) s6
 have st5 := wr_set0 (H := H4) (i := r) (ver := ver) (el := 101) (a := vw) (b := .int .i64 a) (x := .slice none 0 0) rfl
 obtain ⟨H5, hH5⟩ : ∃ H5, H5 = H4.upd r ⟨[.slice none 0 0, .int .i64 a], 101, .tip, ver + 1, []⟩ := ⟨_, rfl⟩
 rw [← hH5] at st5
 have g5 : H5.get r = some ⟨[.slice none 0 0, .int .i64 a], 101, .tip, ver + 1, []⟩ := by rw [hH5]; exact upd_self gr4
 have hwa : IntKind.i64.wrap (a + w.length) = a + w.length := wrap64 (by omega) (by omega)
 have st6 := wr_set1 (H := H5) (i := r) (ver := ver + 1) (el := 101) (a := .slice none 0 0) (b := .int .i64 a) (x := .int .i64 (a + w.length)) rfl
 obtain ⟨H6, hH6⟩ : ∃ H6, H6 = H5.upd r ⟨[.slice none 0 0, .int .i64 (a + w.length)], 101, .tip, ver + 1 + 1, []⟩ := ⟨_, rfl⟩
 rw [← hH6] at st6
 have g6 : H6.get r = some ⟨[.slice none 0 0, .int .i64 (a + w.length)], 101, .tip, ver + 1 + 1, []⟩ := by rw [hH6]; exact upd_self g5
 have k6 : ∀ j, j ≠ r → H6.get j = H4.get j := fun j hj => by rw [hH6, upd_other g5 hj, hH5, upd_other gr4 hj]
 have gt6 : H6.get H1.n = some ⟨[.int .i64 a, .int .i64 w.length, .slice (some ⟨H2.n, 0, none⟩) 1 2, .int .i64 0], 36, .tip, 1 + 1, []⟩ := by rw [k6 _ (by omega)]; exact g4
 have ld6 : gotLoad (some ⟨[.int .i64 a, .int .i64 w.length, .slice (some ⟨H2.n, 0, none⟩) 1 2, .int .i64 0], 36, .tip, 1 + 1, []⟩) 0 (some 4) H6 = some (.agg ⟨[.int .i64 a, .int .i64 w.length, .slice (some ⟨H2.n, 0, none⟩) 1 2, .int .i64 0]⟩, H6) := by
  rw [got_row mem_tip (by simp)]; rfl
 have g1' : H6.get H.n = some ⟨[.int .i64 0, .int .i64 0, .slice none 0 0, .int .i64 0], 36, .tip, 0, []⟩ := by
  rw [k6 _ (by omega), hH4, upd_other g3 (by omega)]
  exact x3.get (x2.get g1)
 have st7 := tk_store (H := H6) (i := H.n) (ver := 0) (el := 36) (a := .int .i64 0) (b := .int .i64 0) (c := .slice none 0 0) (d := .int .i64 0) (u := .int .i64 a) (v := .int .i64 w.length) (x := .slice (some ⟨H2.n, 0, none⟩) 1 2) (y := .int .i64 0) rfl
 obtain ⟨H7, hH7⟩ : ∃ H7, H7 = H6.upd H.n ⟨[.int .i64 a, .int .i64 w.length, .slice (some ⟨H2.n, 0, none⟩) 1 2, .int .i64 0], 36, .tip, 0 + 1, []⟩ := ⟨_, rfl⟩
 rw [← hH7] at st7
 have g7 : H7.get H.n = some ⟨[.int .i64 a, .int .i64 w.length, .slice (some ⟨H2.n, 0, none⟩) 1 2, .int .i64 0], 36, .tip, 0 + 1, []⟩ := by rw [hH7]; exact upd_self g1'
 have ld7 : gotLoad (some ⟨[.int .i64 a, .int .i64 w.length, .slice (some ⟨H2.n, 0, none⟩) 1 2, .int .i64 0], 36, .tip, 0 + 1, []⟩) 0 (some 4) H7 = some (.agg ⟨[.int .i64 a, .int .i64 w.length, .slice (some ⟨H2.n, 0, none⟩) 1 2, .int .i64 0]⟩, H7) := by
  rw [got_row mem_tip (by simp)]; rfl
 have z0 : ((0 : Int) = 0) = True := by simp
 simp only [WA, isStore, isCall, isK, freshI, stampO, List.nil_append, Option.map_some, Option.map_none, Option.bind_some, List.map_cons, List.map_nil, if_true, if_false, Nat.reduceEqDiff, Int.reduceEq, Nat.reduceAdd, Nat.reduceMul, reduceCtorEq, eq_self, Int.reduceLT, Int.reduceLE, Int.reduceToNat, List.length_cons, List.length_nil, List.all_cons, List.all_nil, List.take_zero, List.drop_nil, List.append_nil, List.getElem?_cons_zero, List.getElem?_cons_succ, List.drop_succ_cons, List.drop_zero, List.take_succ_cons, List.cons_append, Nat.reduceLeDiff, Int.cast_ofNat_Int, ← hH1, hg, x1.get hg, v_tk0, hst, ← hH2, z0, v3, g3, hst3, gr4, s5, a5, st5, g5, hwa, st6, gt6, ld6, g1', st7, ress_cell, rd_load, g7, ld7, Option.map_some]
 have n2 : H2.n = H1.n + 1 := by rw [hH2, AHeap.n_push]
 have n3 := x3.1
 have n4 : H4.n = H3.n := by rw [hH4]; simp
 have n6 : H6.n = H4.n := by rw [hH6, hH5]; simp
 have n7 : H7.n = H6.n := by rw [hH7]; simp
 have na : ∀ j, j ≠ H2.n → NotAt (.slice (some ⟨H2.n, 0, none⟩) 1 2) j := fun j hj e => hj e.symm
 have i7 : Ints H7 (.slice (some ⟨H2.n, 0, none⟩) 1 2) [s] := by
  rw [hH7]
  refine Sl.upd ?_ g1' (na _ (by omega))
  rw [hH6]
  refine Sl.upd ?_ g5 (na _ (by omega))
  rw [hH5]
  refine Sl.upd ?_ gr4 (na _ (by omega))
  rw [hH4]
  exact Sl.upd i3 g3 (na _ (by omega))
 have k7 : Cut Tryz.prog H7 (.slice (some ⟨H2.n, 0, none⟩) 1 2) 1 := by
  rw [hH7]
  refine Cut.upd ?_ g1' rfl
  rw [hH6]
  refine Cut.upd ?_ g5 rfl
  rw [hH5]
  refine Cut.upd ?_ gr4 rfl
  rw [hH4]
  exact Cut.upd k3 g3 rfl
 refine ⟨by omega, fun j hj hjr => ?_, ⟨_, by rw [hH7, upd_other g1' (by omega)]; exact g6⟩, some ⟨H2.n, 0, none⟩, 2, rfl, _, _, rfl, i7, by unfold Lon.tiny; simp, k7⟩
 rw [hH7, upd_other g1' (by omega), k6 j hjr, x4.2 j hj]
theorem v_mkT {H : AHeap} {el : TypeId} {p : Option Addr} {c : Nat} {x : Tok} : vBslice el 1 4 [.int .i64 0, .int .i64 0, .slice none 0 0, .int .i64 0] [(0, 4, .agg ⟨tokC p c x⟩)] H = some (.slice (some ⟨H.n, 0, none⟩) 1 2, H.push ⟨tokC p c x, el, .tip, 0, []⟩) := rfl
structure RB (r : Nat) (H : AHeap) (vw : Value) (w : List Int) (a : Int) : Prop where
 hg : ∃ ver, H.get r = some ⟨[vw, .int .i64 a], 101, .tip, ver, []⟩
 ho : OwnB H vw w
theorem RB.lay {r : Nat} {H : AHeap} {vw : Value} {w : List Int} {a u : Int} (h : RB r H vw w a) (hw : w.length < 1000) : ∃ ver H1 v' H2 H3, H.get r = some ⟨[vw, .int .i64 a], 101, .tip, ver, []⟩ ∧ vBslice 5 1 1 [.int .u8 0] [(0, 1, .int .u8 u)] H = some (.slice (some ⟨H.n, 0, none⟩) 1 2, H1) ∧ H1.get r = some ⟨[vw, .int .i64 a], 101, .tip, ver, []⟩ ∧ appendA H1 vw (.slice (some ⟨H.n, 0, none⟩) 1 2) 5 1 1 = some (v', H2) ∧ H2.get r = some ⟨[vw, .int .i64 a], 101, .tip, ver, []⟩ ∧ one v' = true ∧ H3 = H2.upd r ⟨[v', .int .i64 a], 101, .tip, ver + 1, []⟩ ∧ H3.get r = some ⟨[v', .int .i64 a], 101, .tip, ver + 1, []⟩ ∧ RB r H3 v' (w ++ [u]) a ∧ From H.n v' ∧ H.n ≤ H3.n ∧ ∀ j, j < H.n → j ≠ r → NotAt vw j → H3.get j = H.get j := by
 obtain ⟨ver, hs⟩ := h.hg
 have hos : NotAt vw r := h.ho.notAt_elem hs (by simp only; decide)
 obtain ⟨H1, v1, x1, i1⟩ := v_u1 (H := H) (a := u)
 obtain ⟨v', H2, m1, m2, m3, m4, m5⟩ := OwnB.add (Own.ext x1 h.ho) i1 (by simp) (by simp; omega)
 have hsl := AHeap.lt_of_get hs
 have x1n := x1.1
 have g1 := x1.get hs
 have g2 : H2.get r = some ⟨[vw, .int .i64 a], 101, .tip, ver, []⟩ := by rw [m5 r (by omega) hos]; exact g1
 have hone : one v' = true := by
  obtain ⟨⟨a1, c1, rfl⟩, _⟩ := m2.sl
  rfl
 obtain ⟨H3, hH3⟩ : ∃ H3, H3 = H2.upd r ⟨[v', .int .i64 a], 101, .tip, ver + 1, []⟩ := ⟨_, rfl⟩
 have g3 : H3.get r = some ⟨[v', .int .i64 a], 101, .tip, ver + 1, []⟩ := by rw [hH3]; exact upd_self g2
 have n3 : H3.n = H2.n := by rw [hH3]; simp
 refine ⟨ver, H1, v', H2, H3, hs, v1, g1, m1, g2, hone, hH3, g3, ⟨⟨_, g3⟩, Own.move m2 fun i b hi he => ?_⟩, m3.mono (by omega), by omega, fun j hj hjs hn => ?_⟩
 ·rw [hH3, upd_other g2 (fun e => by subst e; rw [g2] at hi; injection hi with hi; subst hi; revert he; simp only; decide)]
  exact hi
 ·rw [hH3, upd_other g2 hjs, m5 j (by omega) hn, x1.2 j hj]
def rbS (st : List Int × Int) (u : Int) : List Tok × (List Int × Int) := if (oneF (st.1 ++ [u])).2.2 = 2 then ([], (st.1 ++ [u], st.2)) else ([⟨st.2, (st.1 ++ [u]).length, [(oneF (st.1 ++ [u])).1], 0⟩], ([], st.2 + (st.1 ++ [u]).length))
def rbO (st : List Int × Int) (u : Int) : Bool := decide (0 ≤ u ∧ u < 256) && (st.1.all fun x => decide (0 ≤ x ∧ x < 256)) && decide (st.1.length < 100 ∧ 0 ≤ st.2 ∧ st.2 < 10000000) && (decide ((oneF (st.1 ++ [u])).2.2 = 2) || (decide ((oneF (st.1 ++ [u])).2.2 = 0) && decide ((oneF (st.1 ++ [u])).2.1 = (st.1 ++ [u]).length)))
theorem c_BPut {r : Nat} {H : AHeap} {vw : Value} {st : List Int × Int} {u : Int} (h : RB r H vw st.1 st.2) (hok : rbO st u = true) : Gives (cw Tryz.prog (tabF tab) om1 162 [.pointer (some ⟨r, 0, none⟩), .int .i64 u] H) fun v H' => (∃ vw', RB r H' vw' (rbS st u).2.1 (rbS st u).2.2 ∧ From H.n vw') ∧ OwnToks Tryz.prog H' 36 v (rbS st u).1 ∧ H.n ≤ H'.n ∧ ∀ j, j < H.n → j ≠ r → NotAt vw j → H'.get j = H.get j := by
 obtain ⟨w, a⟩ := st
 unfold rbO at hok
 simp only [Bool.and_eq_true, decide_eq_true_eq, Bool.or_eq_true] at hok
 obtain ⟨⟨⟨hu, hall⟩, hw, ha⟩, hone⟩ := hok
 have hby : ∀ x ∈ w ++ [u], 0 ≤ x ∧ x < 256 := fun x hx => by
  rcases List.mem_append.1 hx with hx | hx
  ·simpa using List.all_eq_true.1 hall x hx
  ·simp only [List.mem_singleton] at hx
   subst hx
   exact hu
 have hwu : IntKind.u8.wrap u = u := wrap8 hu.1 hu.2
 obtain ⟨ver, H1, v', H2, H3, g0, v1, g1, m1, g2, ho1, hH3, g3, h3, f3, n3, k3⟩ := h.lay (u := u) (by show w.length < 1000; omega)
 simp only at g0 v1 g1 m1 g2 hH3 g3 h3 k3
 have st3 := wr_set0 (H := H2) (i := r) (ver := ver) (el := 101) (a := vw) (b := .int .i64 a) (x := v') ho1
 rw [← hH3] at st3
 have hi3 : Nums H3 .u8 v' (w ++ [u]) := h3.ho.sl
 have hl3 := fun H9 => Nums.len (H2 := H9) hi3
 have c3 := c_One hi3 hby
 have zl : (((w ++ [u]).length : Int) > 0) = True := eq_true (by rw [List.length_append, List.length_singleton]; omega)
 have key : Gives (cw Tryz.prog (tabF tab) om1 164 [.pointer (some ⟨r, 0, none⟩), .int .u8 u] H) fun v H' => (∃ vw', RB r H' vw' (rbS (w, a) u).2.1 (rbS (w, a) u).2.2 ∧ From H.n vw') ∧ OwnToks Tryz.prog H' 36 v (rbS (w, a) u).1 ∧ H.n ≤ H'.n ∧ ∀ j, j < H.n → j ≠ r → NotAt vw j → H'.get j = H.get j := by
  rw [cw_run (F := F_carry_Reader__Put) rfl rfl rfl]
  unfold F_carry_Reader__Put k_carry_Reader__Put rbS
  unfold oneV at c3
  by_cases he : (oneF (w ++ [u])).2.2 = 2
  ·rw [if_pos he]
   have z2 : ((2 : Int) = 2) = True := by simp
   rw [he] at c3
   simp only [WA, isStore, isCall, isK, freshI, stampO, List.nil_append, Option.map_some, Option.map_none, Option.bind_some, List.map_cons, List.map_nil, if_true, if_false, Nat.reduceEqDiff, Int.reduceEq, Nat.reduceAdd, Nat.reduceMul, reduceCtorEq, eq_self, Int.reduceLT, Int.reduceLE, Int.reduceToNat, List.length_cons, List.length_nil, List.all_cons, List.all_nil, List.take_zero, List.drop_nil, List.append_nil, List.getElem?_cons_zero, List.getElem?_cons_succ, List.drop_succ_cons, List.drop_zero, List.take_succ_cons, List.cons_append, Nat.reduceLeDiff, Int.cast_ofNat_Int, g0, v1, g1, m1, g2, st3]
   rw [w_enter]
   rw [w_loop_b b_carry_Reader__Put_0.eq_1]
   simp only [WA, isStore, isCall, isK, freshI, stampO, List.nil_append, Option.map_some, Option.map_none, Option.bind_some, List.map_cons, List.map_nil, if_true, if_false, Nat.reduceEqDiff, Int.reduceEq, Nat.reduceAdd, Nat.reduceMul, reduceCtorEq, eq_self, Int.reduceLT, Int.reduceLE, Int.reduceToNat, List.length_cons, List.length_nil, List.all_cons, List.all_nil, List.take_zero, List.drop_nil, List.append_nil, List.getElem?_cons_zero, List.getElem?_cons_succ, List.drop_succ_cons, List.drop_zero, List.take_succ_cons, List.cons_append, Nat.reduceLeDiff, Int.cast_ofNat_Int, g3, hl3, zl, c3, z2]
   exact ⟨⟨v', h3, f3⟩, OwnRws.nil, n3, k3⟩
  ·rw [if_neg he]
   obtain ⟨e0, e1⟩ := hone.resolve_left he
   rw [e0, e1] at c3
   have z2 : ((0 : Int) = 2) = False := by simp
   obtain ⟨v4, H4, c4, n4, k4, ⟨ver4, g4⟩, p, c, rfl, t4⟩ := c_RTake (s := (oneF (w ++ [u])).1) g3 h3.ho ⟨ha.1, by omega⟩ (by simp; omega)
   generalize hx : (⟨a, ((w ++ [u]).length : Int), [(oneF (w ++ [u])).1], 0⟩ : Tok) = x at *
   have x5 := Ext.push H4 ⟨tokC p c x, 36, .tip, 0, []⟩
   have g5 := get_push_self (H := H4) (b := ⟨tokC p c x, 36, .tip, 0, []⟩)
   obtain ⟨v6, H6, q1, q2, q3, q4, q5, q6⟩ := (OwnRws.nil (s := 4) (Q := tokQ Tryz.prog) (H := H4.push ⟨tokC p c x, 36, .tip, 0, []⟩) (el := 36)).push tokQ_mono (bytes := 48) (c := 2) g5 rfl (tokQ_mono x5.kp t4) tokC_one (by simp) (by simp)
   rw [List.nil_append] at q2
   have g6 : H6.get r = some ⟨[.slice none 0 0, .int .i64 (a + (w ++ [u]).length)], 101, .tip, ver4, []⟩ := by
    have := AHeap.lt_of_get g4
    rw [q6 r (by rw [AHeap.n_push]; omega) trivial]
    exact x5.get g4
   have z0 : ((0 : Int) > 0) = False := by simp
   simp only [WA, isStore, isCall, isK, freshI, stampO, List.nil_append, Option.map_some, Option.map_none, Option.bind_some, List.map_cons, List.map_nil, if_true, if_false, Nat.reduceEqDiff, Int.reduceEq, Nat.reduceAdd, Nat.reduceMul, reduceCtorEq, eq_self, Int.reduceLT, Int.reduceLE, Int.reduceToNat, List.length_cons, List.length_nil, List.all_cons, List.all_nil, List.take_zero, List.drop_nil, List.append_nil, List.getElem?_cons_zero, List.getElem?_cons_succ, List.drop_succ_cons, List.drop_zero, List.take_succ_cons, List.cons_append, Nat.reduceLeDiff, Int.cast_ofNat_Int, g0, v1, g1, m1, g2, st3]
   rw [w_enter]
   rw [w_loop_b b_carry_Reader__Put_0.eq_1]
   simp only [WA, isStore, isCall, isK, freshI, stampO, List.nil_append, Option.map_some, Option.map_none, Option.bind_some, List.map_cons, List.map_nil, if_true, if_false, Nat.reduceEqDiff, Int.reduceEq, Nat.reduceAdd, Nat.reduceMul, reduceCtorEq, eq_self, Int.reduceLT, Int.reduceLE, Int.reduceToNat, List.length_cons, List.length_nil, List.all_cons, List.all_nil, List.take_zero, List.drop_nil, List.append_nil, List.getElem?_cons_zero, List.getElem?_cons_succ, List.drop_succ_cons, List.drop_zero, List.take_succ_cons, List.cons_append, Nat.reduceLeDiff, Int.cast_ofNat_Int, g3, hl3, zl, c3, z2, c4, v_mkT, q1]
   rw [w_enter]
   rw [w_loop_b b_carry_Reader__Put_0.eq_1]
   simp only [WA, isStore, isCall, isK, freshI, stampO, List.nil_append, Option.map_some, Option.map_none, Option.bind_some, List.map_cons, List.map_nil, if_true, if_false, Nat.reduceEqDiff, Int.reduceEq, Nat.reduceAdd, Nat.reduceMul, reduceCtorEq, eq_self, Int.reduceLT, Int.reduceLE, Int.reduceToNat, List.length_cons, List.length_nil, List.all_cons, List.all_nil, List.take_zero, List.drop_nil, List.append_nil, List.getElem?_cons_zero, List.getElem?_cons_succ, List.drop_succ_cons, List.drop_zero, List.take_succ_cons, List.cons_append, Nat.reduceLeDiff, Int.cast_ofNat_Int, g6, z0]
   subst hx
   have x5n := x5.1
   rw [AHeap.n_push] at q3 q5 q6
   refine ⟨⟨.slice none 0 0, ⟨⟨ver4, g6⟩, ⟨rfl, .inl ⟨rfl, rfl⟩⟩⟩, trivial⟩, q2, by omega, fun j hj hjr hn => ?_⟩
   rw [q6 j (by omega) trivial, x5.2 j (by omega), k4 j (by omega) hjr, k3 j hj hjr hn]
 rw [cw_run (F := F_codec_bytes__Put) rfl rfl rfl]
 unfold F_codec_bytes__Put k_codec_bytes__Put
 obtain ⟨v9, H9, c9, r9⟩ := key
 simp only [WA, isStore, isCall, isK, freshI, stampO, List.nil_append, Option.map_some, Option.map_none, Option.bind_some, List.map_cons, List.map_nil, if_true, if_false, Nat.reduceEqDiff, Int.reduceEq, Nat.reduceAdd, Nat.reduceMul, reduceCtorEq, eq_self, Int.reduceLT, Int.reduceLE, Int.reduceToNat, List.length_cons, List.length_nil, List.all_cons, List.all_nil, List.take_zero, List.drop_nil, List.append_nil, List.getElem?_cons_zero, List.getElem?_cons_succ, List.drop_succ_cons, List.drop_zero, List.take_succ_cons, List.cons_append, Nat.reduceLeDiff, Int.cast_ofNat_Int, hwu, c9]
 exact r9
theorem me_BP : methA Tryz.prog 97 "Put" = some (162, none) := by kernel_rfl
theorem me_BE : methA Tryz.prog 97 "End" = some (160, some (false, 0)) := by kernel_rfl
theorem c_BEnd {r : Nat} {H : AHeap} {vw : Value} {a : Int} (h : RB r H vw [] a) : cw Tryz.prog (tabF tab) om1 160 [.pointer (some ⟨r, 0, none⟩)] H = some (.slice none 0 0, H) := by
 rw [cw_run (F := F_carry_Reader__End) rfl rfl rfl]
 unfold F_carry_Reader__End k_carry_Reader__End
 obtain ⟨ver, hg⟩ := h.hg
 have hi : Nums H .u8 vw [] := h.ho.sl
 have hl := fun H9 => Nums.len (H2 := H9) hi
 have z0 : ((([] : List Int).length : Nat) : Int) = 0 := rfl
 have z1 : ((0 : Int) = 0) = True := by simp
 simp only [z0] at hl
 simp only [WA, isStore, isCall, isK, freshI, stampO, List.nil_append, Option.map_some, Option.map_none, Option.bind_some, List.map_cons, List.map_nil, if_true, if_false, Nat.reduceEqDiff, Int.reduceEq, Nat.reduceAdd, Nat.reduceMul, reduceCtorEq, eq_self, Int.reduceLT, Int.reduceLE, Int.reduceToNat, List.length_cons, List.length_nil, List.all_cons, List.all_nil, List.take_zero, List.drop_nil, List.append_nil, List.getElem?_cons_zero, List.getElem?_cons_succ, List.drop_succ_cons, List.drop_zero, List.take_succ_cons, List.cons_append, Nat.reduceLeDiff, Int.cast_ofNat_Int, hg, hl, z1]
def qB (b : ABlk) : Bool := Nat.beq b.elem 101 || pure8 b
theorem qB_ne {b : ABlk} (h : qB b = false) : b.elem ≠ 101 ∧ pure8 b = false := by
 unfold qB at h
 simp only [Bool.or_eq_false_iff] at h
 exact ⟨fun e => by rw [e] at h; exact absurd h.1 (by decide), h.2⟩
def RdB (B r : Nat) (H : AHeap) (st : List Int × Int) (ow : Value) : Prop := B ≤ r ∧ ∃ vw, RB r H vw st.1 st.2 ∧ (∀ j, j < B → NotAt vw j) ∧ ∀ j, ¬ NotAt ow j → NotAt vw j
theorem own_lt {H : AHeap} {el : TypeId} {sz n j : Nat} {v : Value} {cs : List Value} (h : Own H el sz v n cs) (hj : ¬ NotAt v j) : j < H.n := by
 by_cases hlt : j < H.n
 ·exact hlt
 ·exact absurd (h.notAt (by omega)) hj
theorem rm_B {B s r : Nat} {p : ABlk → Bool} (hp : ∀ b, b.elem = 101 → p b = false) (hp8 : ∀ b, b.elem = 5 → p b = false) : Rm B s qB p (RdB B r) (.iface 97 (.pointer (some ⟨r, 0, none⟩))) rbS (fun st u => rbO st u = true) (fun _ => []) (fun st => st.1 = []) where
 qs := fun b e => by unfold qB pure8; rw [e]; rfl
 put := by
  intro H st ow l u ⟨hB, vw, h, hlow, hsep⟩ ho hok
  obtain ⟨v, H', c, ⟨vw', q1, q2⟩, q3, q4, q5⟩ := c_BPut h hok
  obtain ⟨ver, hg⟩ := h.hg
  have hrl := AHeap.lt_of_get hg
  have hor : NotAt ow r := ho.notAt_elem hg (by simp only; decide)
  rw [inv_none me_BP]
  refine ⟨v, H', c, ⟨hB, vw', q1, fun j hj => NotAt.of_from q2 (by omega), fun j hj => NotAt.of_from q2 (own_lt ho hj)⟩, q3, ?_, ⟨q4, fun j b hj he => ?_⟩, fun j hj => q5 j (by omega) (by omega) (hlow j hj)⟩
  ·obtain ⟨hl0, ⟨rfl, h0⟩ | ⟨b, ver, anc, rfl, hn, hgb⟩⟩ := ho
   ·exact ⟨hl0, .inl ⟨rfl, h0⟩⟩
   ·refine ⟨hl0, .inr ⟨b, ver, anc, rfl, hn, ?_⟩⟩
    rw [q5 b (AHeap.lt_of_get hgb) (fun e => by subst e; exact hor rfl) (hsep b (fun hna => hna rfl))]
    exact hgb
  ·have hne := qB_ne he
   rw [q5 j (AHeap.lt_of_get hj) (fun e => by subst e; rw [hg] at hj; injection hj with hj; subst hj; exact hne.1 rfl) (pure8_of h.ho hj hne.2)]
   exact hj
 fin := by
  intro H st ow l ⟨hB, vw, h, hlow, hsep⟩ ho hok
  obtain ⟨w, a⟩ := st
  subst hok
  rw [inv_addr me_BE]
  exact ⟨_, H, c_BEnd h, OwnRws.nil, ho, ⟨Nat.le_refl _, fun _ _ h _ => h⟩, fun _ _ => rfl⟩
 keep := by
  intro H H' st ow ow' l ⟨hB, vw, h, hlow, hsep⟩ ho hf
  obtain ⟨ver, hg⟩ := h.hg
  refine ⟨hB, vw, ⟨⟨ver, hf.k _ _ hg (fun e => absurd e (by simp only; decide)) (by simp only; decide) (hp _ rfl)⟩, ?_⟩, hlow, fun j hj => ?_⟩
  ·obtain ⟨hl0, ⟨rfl, h0⟩ | ⟨b, ver, anc, rfl, hn, hgb⟩⟩ := h.ho
   ·exact ⟨hl0, .inl ⟨rfl, h0⟩⟩
   ·refine ⟨hl0, .inr ⟨b, ver, anc, rfl, hn, hf.k _ _ hgb (fun _ => ?_) (by simp only; decide) (hp8 _ rfl)⟩⟩
    by_cases hna : NotAt ow b
    ·exact hna
    ·exact absurd rfl (hsep b hna)
  ·by_cases hna : NotAt vw j
   ·exact hna
   ·by_cases ho2 : NotAt ow j
    ·exact absurd (hf.o j (own_lt h.ho hna) ho2) hj
    ·exact hsep j ho2
 good := by
  intro st u h
  unfold rbS
  split
  ·exact .inl rfl
  ·exact .inr ⟨_, _, _, rfl⟩
 goodf := by
  intro st h
  exact .inl rfl
theorem hel4 : (Tryz.prog.info? 36).map (·.size) = some 4 := by kernel_rfl
theorem hQtok (H : AHeap) : ∀ (H' : AHeap) (row : List Value) (r : Tok), (∀ j blk, H.get j = some blk → blk.elem ≠ 36 → H'.get j = some blk) → tokQ Tryz.prog H row r → tokQ Tryz.prog H' row r := fun H' row r hk h => tokQ_elem hel4 (by decide) hk h
theorem MD.putA {k : Nat} {H : AHeap} {m t : Nat} {L : List Rl} {w : List Int} {a st u : Int} (h : MD k H m t L w a st) (ha : 0 ≤ a ∧ a + (w.length + 1) < 1000000000) (hst : 0 ≤ st ∧ st + (w.length + 1) * (w.length + 1) < 1000000000) (hw1 : w.length + 1 < 10000) :
  Gives (cw Tryz.prog (tabF tab) om1 183 [.pointer (some ⟨m, 0, none⟩), .int .i64 u] H) fun x H' => MD k H' m t L (takeW L false (w ++ [u]) a st).2.1 (takeW L false (w ++ [u]) a st).2.2.1 (takeW L false (w ++ [u]) a st).2.2.2 ∧ OwnToks Tryz.prog H' 36 x (takeW L false (w ++ [u]) a st).1 ∧ From H.n x ∧ Kx H H' ∧ Ext (cutN H k) H' ∧ AncB H.n H' 36 x := by
 obtain ⟨x, H', c, r1, r2, r3, r4, r5⟩ := c_Put (u := u) h.trie h.ms ha hst hw1
 exact ⟨x, H', c, h.of r1, r2, r3, r4, r1.ext, r5⟩
theorem MD.finA {k : Nat} {H : AHeap} {m t : Nat} {L : List Rl} {w : List Int} {a st : Int} (h : MD k H m t L w a st) (ha : 0 ≤ a ∧ a + w.length < 1000000000) (hst : 0 ≤ st ∧ st + w.length * w.length < 1000000000) (hw1 : w.length < 10000) :
  Gives (cw Tryz.prog (tabF tab) om1 182 [.pointer (some ⟨m, 0, none⟩)] H) fun x H' => MD k H' m t L (takeW L true w a st).2.1 (takeW L true w a st).2.2.1 (takeW L true w a st).2.2.2 ∧ OwnToks Tryz.prog H' 36 x (takeW L true w a st).1 ∧ From H.n x ∧ Kx H H' ∧ Ext (cutN H k) H' ∧ AncB H.n H' 36 x := by
 obtain ⟨x, H', c, r1, r2, r3, r4, r5⟩ := c_End h.trie h.ms ha hst hw1
 exact ⟨x, H', c, h.of r1, r2, r3, r4, r1.ext, r5⟩
structure ED (k : Nat) (H : AHeap) (e : Nat) (L : List Rl) (w : List Int) (a st : Int) (ah : List Int) : Prop where
 ke : k ≤ e
 all : ∃ m q t va ver, H.get e = some ⟨[.pointer (some ⟨m, 0, none⟩), .pointer (some ⟨q, 0, none⟩), va], 150, .tip, ver, []⟩ ∧ MD k H m t (trn L []) w a st ∧ TableOk (cutN H k) q L ∧ Ints H va ah ∧ (ah = [] ∨ Cut Tryz.prog H va 1)
theorem ints_nil {H H' : AHeap} {v : Value} (h : Ints H v []) : Ints H' v [] := by
 obtain ⟨⟨a, c, rfl⟩, h2⟩ := h
 refine ⟨⟨a, c, rfl⟩, ?_⟩
 unfold cellsOf at h2
 split at h2
 ·rename_i hv
  rw [hv]
  rfl
 ·rename_i i o n' c' hv
  injection hv with e1 e2 e3
  subst e1 e3
  rfl
 ·rename_i hv
  rw [hv]
  rfl
 ·cases h2
theorem va_move {H H' : AHeap} {v : Value} {l : List Int} (h : Ints H v l) (hc : l = [] ∨ Cut Tryz.prog H v 1) (f : l ≠ [] → Cut Tryz.prog H v 1 → Ints H' v l ∧ Cut Tryz.prog H' v 1) : Ints H' v l ∧ (l = [] ∨ Cut Tryz.prog H' v 1) := by
 by_cases hl : l = []
 ·subst hl
  exact ⟨ints_nil h, .inl rfl⟩
 ·obtain ⟨h1, h2⟩ := f hl (hc.resolve_left hl)
  exact ⟨h1, .inr h2⟩
theorem tab_keep {k q : Nat} {H H' : AHeap} {L : List Rl} (hk : k ≤ H.n) (h : TableOk (cutN H k) q L) (hx : Ext (cutN H k) H') : TableOk (cutN H' k) q L := by
 have hkn : k ≤ H'.n := hx.1
 have hx2 : Ext (cutN H k) (cutN H' k) := ⟨Nat.le_refl _, fun i hi => by rw [cutN_get hkn hi]; exact hx.2 i hi⟩
 exact h.ext hx2
theorem e_set2 {H : AHeap} {i ver : Nat} {el : TypeId} {a b c x : Value} (h1 : one x = true) : gotStore (some ⟨[a, b, c], el, .tip, ver, []⟩) i 2 x 1 H = some (.tuple ⟨[]⟩, H.upd i ⟨[a, b, x], el, .tip, ver + 1, []⟩) := by
 have hc := cell1 h1
 have := got_store (H := H) (cells := [a, b, c]) (el := el) (ver := ver) (anc := []) (i := i) (o := 2) (n := 1) (v := x) (by rw [hc]; rfl) (by rw [hc]; simp [h1]) (by simp)
 rw [this, hc]
 rfl
theorem c_join0 {e : Nat} {v : Value} {H : AHeap} (ht : OwnToks Tryz.prog H 36 v []) : cw Tryz.prog (tabF tab) om1 181 [.pointer (some ⟨e, 0, none⟩), v] H = some (v, H) := by
 rw [cw_run (F := F_machine_Encoder__join) rfl rfl rfl]
 unfold F_machine_Encoder__join k_machine_Encoder__join
 obtain ⟨_, cs, ⟨_, ⟨rfl, _⟩ | ⟨b, ver, anc, _, hn, _⟩⟩, _⟩ := ht
 ·have z : ((0 : Int) < 0) = False := by simp
  simp only [WA, isStore, isCall, isK, freshI, stampO, List.nil_append, Option.map_some, Option.map_none, Option.bind_some, List.map_cons, List.map_nil, if_true, if_false, Nat.reduceEqDiff, Int.reduceEq, Nat.reduceAdd, Nat.reduceMul, reduceCtorEq, eq_self, Int.reduceLT, Int.reduceLE, Int.reduceToNat, List.length_cons, List.length_nil, List.all_cons, List.all_nil, List.take_zero, List.drop_nil, List.append_nil, List.getElem?_cons_zero, List.getElem?_cons_succ, List.drop_succ_cons, List.drop_zero, List.take_succ_cons, List.cons_append, Nat.reduceLeDiff, Int.cast_ofNat_Int]
  rw [w_enter]
  rw [w_loop_b b_machine_Encoder__join_0.eq_1]
  simp only [WA, isStore, isCall, isK, freshI, stampO, List.nil_append, Option.map_some, Option.map_none, Option.bind_some, List.map_cons, List.map_nil, if_true, if_false, Nat.reduceEqDiff, Int.reduceEq, Nat.reduceAdd, Nat.reduceMul, reduceCtorEq, eq_self, Int.reduceLT, Int.reduceLE, Int.reduceToNat, List.length_cons, List.length_nil, List.all_cons, List.all_nil, List.take_zero, List.drop_nil, List.append_nil, List.getElem?_cons_zero, List.getElem?_cons_succ, List.drop_succ_cons, List.drop_zero, List.take_succ_cons, List.cons_append, Nat.reduceLeDiff, Int.cast_ofNat_Int, z]
 ·simp at hn
theorem c_join1 {B e m q ver : Nat} {L : List Rl} {va v : Value} {ah : List Int} {x : Tok} {H : AHeap} (hg : H.get e = some ⟨[.pointer (some ⟨m, 0, none⟩), .pointer (some ⟨q, 0, none⟩), va], 150, .tip, ver, []⟩) (heB : e < B) (hBn : B ≤ H.n) (hT : TableOk H q L) (hva : Ints H va ah) (hah : ah.length < 1000000) (hxl : x.out.length < 1000000) (ht : OwnToks Tryz.prog H 36 v [x]) (hf : From B v) (hA : AncB B H 36 v) (h0 : x.err = 0) (hj : joinsF L ah x.out = false) :
  Gives (cw Tryz.prog (tabF tab) om1 181 [.pointer (some ⟨e, 0, none⟩), v] H) fun v' H' => v' = v ∧ OwnToks Tryz.prog H' 36 v [x] ∧ H.n ≤ H'.n ∧ (∀ j, j < B → j ≠ e → H'.get j = H.get j) ∧ (∀ j b, H.get j = some b → b.elem ≠ 36 → j ≠ e → H'.get j = some b) ∧ ∃ va' ver', H'.get e = some ⟨[.pointer (some ⟨m, 0, none⟩), .pointer (some ⟨q, 0, none⟩), va'], 150, .tip, ver', []⟩ ∧ Ints H' va' x.out ∧ Cut Tryz.prog H' va' 1 := by
 rw [cw_run (F := F_machine_Encoder__join) rfl rfl rfl]
 unfold F_machine_Encoder__join k_machine_Encoder__join
 have hJ : joinT L ah x = x := by unfold joinT; rw [if_neg (fun h => by rw [hj] at h; cases h.2)]
 obtain ⟨u1, u2, hw⟩ : ∃ u1 u2, v = .slice u1 1 u2 := by
  obtain ⟨_, cs, h1, _⟩ := ht.rws
  obtain ⟨u1, u2, e⟩ := h1.1
  exact ⟨u1, u2, e⟩
 subst hw
 have hel := AHeap.lt_of_get hg
 obtain ⟨i1, o1, p, cc, a1, a2, a3, a4, a5, a6, a7, a8, a9⟩ := Toks.at' ht.rws (k := 0) (x := x) rfl
 obtain ⟨H1, hH1⟩ : ∃ H1, H1 = H.push ⟨tokC p cc x, 36, .tip, 1, []⟩ := ⟨_, rfl⟩
 have x1 : Ext H H1 := by rw [hH1]; exact Ext.push H _
 have g1 : H1.get H.n = some ⟨tokC p cc x, 36, .tip, 1, []⟩ := by rw [hH1]; exact get_push_self
 have ge1 := x1.get hg
 obtain ⟨v2, H2, c2, x2, p', c', rfl, t2⟩ := c_TJoin (hT.ext x1) (hva.ext x1) ⟨p, cc, rfl, a7.ext x1, a8, a9.ext x1⟩ hah hxl
 rw [hJ] at c2 t2
 have x12 := x1.trans x2
 have g2 := x2.get g1
 have ge2 := x2.get ge1
 obtain ⟨b, b1, H3, b2, b3, b4, b5, b6, b7, b8, b9, b10⟩ := (ht.ext tokQ_mono x12).storeRow hf (hA.ext x12) (k := 0) (r := x) rfl (by decide) (new := tokC p' c' x) rfl tokC_one (hQtok H2)
 have hq := b10 x (hQtok H2 H3 _ _ b5 t2)
 have hset : ([x] : List Tok).set 0 x = [x] := rfl
 rw [hset] at hq
 have hsame := (a1 .i64 H).symm.trans (b1 .i64 H)
 injection hsame with hsame
 injection hsame with hsame _
 injection hsame with hsame
 injection hsame with hsame
 injection hsame with hs1 hs2 _
 subst hs1 hs2
 have g3 : H3.get H.n = some ⟨tokC p cc x, 36, .tip, 1, []⟩ := by rw [b6 H.n H.n ht.upto (Nat.le_refl _)]; exact g2
 have ge3 : H3.get e = some ⟨[.pointer (some ⟨m, 0, none⟩), .pointer (some ⟨q, 0, none⟩), va], 150, .tip, ver, []⟩ := b5 _ _ ge2 (by simp only; decide)
 have b9' := b9 3 _ tk3
 have st4 := e_set2 (H := H3) (i := e) (ver := ver) (el := 150) (a := .pointer (some ⟨m, 0, none⟩)) (b := .pointer (some ⟨q, 0, none⟩)) (c := va) (x := .slice p x.out.length cc) rfl
 obtain ⟨H4, hH4⟩ : ∃ H4, H4 = H3.upd e ⟨[.pointer (some ⟨m, 0, none⟩), .pointer (some ⟨q, 0, none⟩), .slice p x.out.length cc], 150, .tip, ver + 1, []⟩ := ⟨_, rfl⟩
 rw [← hH4] at st4
 have g4 : H4.get e = some ⟨[.pointer (some ⟨m, 0, none⟩), .pointer (some ⟨q, 0, none⟩), .slice p x.out.length cc], 150, .tip, ver + 1, []⟩ := by rw [hH4]; exact upd_self ge3
 have z : ((0 : Int) < 1) = True := by simp
 have z1 : ((1 : Int) < 1) = False := by simp
 have z0 : (x.err = 0) = True := eq_true h0
 have w1 : IntKind.i64.wrap ((0 : Int) + 1) = 1 := by decide
 rw [show ((0 : Nat) : Int) = 0 from rfl] at a1 b1
 have hcast : ((1 : Nat) : Int) = 1 := rfl
 simp only [WA, isStore, isCall, isK, freshI, stampO, List.nil_append, Option.map_some, Option.map_none, Option.bind_some, List.map_cons, List.map_nil, if_true, if_false, Nat.reduceEqDiff, Int.reduceEq, Nat.reduceAdd, Nat.reduceMul, reduceCtorEq, eq_self, Int.reduceLT, Int.reduceLE, Int.reduceToNat, List.length_cons, List.length_nil, List.all_cons, List.all_nil, List.take_zero, List.drop_nil, List.append_nil, List.getElem?_cons_zero, List.getElem?_cons_succ, List.drop_succ_cons, List.drop_zero, List.take_succ_cons, List.cons_append, Nat.reduceLeDiff, Int.cast_ofNat_Int]
 rw [w_enter]
 rw [w_loop_b b_machine_Encoder__join_0.eq_1]
 simp only [WA, isStore, isCall, isK, freshI, stampO, List.nil_append, Option.map_some, Option.map_none, Option.bind_some, List.map_cons, List.map_nil, if_true, if_false, Nat.reduceEqDiff, Int.reduceEq, Nat.reduceAdd, Nat.reduceMul, reduceCtorEq, eq_self, Int.reduceLT, Int.reduceLE, Int.reduceToNat, List.length_cons, List.length_nil, List.all_cons, List.all_nil, List.take_zero, List.drop_nil, List.append_nil, List.getElem?_cons_zero, List.getElem?_cons_succ, List.drop_succ_cons, List.drop_zero, List.take_succ_cons, List.cons_append, Nat.reduceLeDiff, Int.cast_ofNat_Int, hcast, z, a1, a6, got_tok, ← hH1, g1, ge1, ld_tok, c2, b1, b2, b9', z0, g2, ge2, g3, tk2, ge3, st4, w1]
 rw [w_enter]
 rw [w_loop_b b_machine_Encoder__join_0.eq_1]
 simp only [WA, isStore, isCall, isK, freshI, stampO, List.nil_append, Option.map_some, Option.map_none, Option.bind_some, List.map_cons, List.map_nil, if_true, if_false, Nat.reduceEqDiff, Int.reduceEq, Nat.reduceAdd, Nat.reduceMul, reduceCtorEq, eq_self, Int.reduceLT, Int.reduceLE, Int.reduceToNat, List.length_cons, List.length_nil, List.all_cons, List.all_nil, List.take_zero, List.drop_nil, List.append_nil, List.getElem?_cons_zero, List.getElem?_cons_succ, List.drop_succ_cons, List.drop_zero, List.take_succ_cons, List.cons_append, Nat.reduceLeDiff, Int.cast_ofNat_Int, hcast, z1]
 have n4 : H4.n = H3.n := by rw [hH4]; simp
 have k4 : ∀ j b, H3.get j = some b → b.elem ≠ 150 → H4.get j = some b := fun j b hj he => by
  rw [hH4, upd_other ge3 (fun e1 => by subst e1; rw [ge3] at hj; injection hj with hj; subst hj; exact he rfl)]
  exact hj
 have x12n := x12.1
 obtain ⟨u3, u4⟩ := (a7.ext x12).elem (P := Tryz.prog) (a9.ext x12) hel4 (by decide) b5
 have helE : (Tryz.prog.info? 150).map (·.size) = some 3 := by kernel_rfl
 obtain ⟨u5, u6⟩ := u3.elem (P := Tryz.prog) u4 helE (by decide) k4
 refine ⟨?_, by omega, fun j hj hje => ?_, fun j b hj he hje => ?_, _, _, g4, u5, u6⟩
 ·obtain ⟨q0, cs, q1, q2⟩ := hq
  exact ⟨q0, cs, q1.move fun i b hi he => k4 i b hi (by rw [he]; decide), fun k r hr => tokQ_elem helE (by decide) k4 (q2 k r hr)⟩
 ·rw [hH4, upd_other ge3 hje, b4 j hj]
  rw [x12.2 j (by omega)]
 ·rw [hH4, upd_other ge3 hje]
  exact b5 _ _ (x12.get hj) he
theorem int_rem {k : IntKind} {a b : Int} (h : b ≠ 0) : intOp .rem k a b = some (.int k (a.tmod b)) := by simp only [intOp, if_neg h]
theorem int_quo {k : IntKind} {a b : Int} (h : b ≠ 0) : intOp .quo k a b = some (.int k (k.wrap (a.tdiv b))) := by simp only [intOp, if_neg h]
def inS (x : Int) : Prop := 2304 ≤ x ∧ x < 3456 ∧ x ≠ 2404
instance (x : Int) : Decidable (inS x) := by unfold inS; infer_instance
def ofS (x : Int) : List Value := if inS x then [.int .i64 ((x - 2304) / 128), .int .i64 (x % 128), .bool true] else [.int .i64 0, .int .i64 0, .bool false]
theorem c_IOf {x : Int} (H : AHeap) : cw Tryz.prog (tabF tab) om1 177 [.int .i64 x] H = some (.tuple ⟨ofS x⟩, H) := by
 rw [cw_run (F := F_indic_Of) rfl rfl rfl]
 unfold F_indic_Of k_indic_Of ofS
 by_cases h1 : x < 2304
 ·have h : ¬ inS x := fun h => by have := h.1; omega
  rw [if_neg h]
  simp only [WA, isStore, isCall, isK, freshI, stampO, List.nil_append, Option.map_some, Option.map_none, Option.bind_some, List.map_cons, List.map_nil, if_true, if_false, Nat.reduceEqDiff, Int.reduceEq, Nat.reduceAdd, Nat.reduceMul, reduceCtorEq, eq_self, Int.reduceLT, Int.reduceLE, Int.reduceToNat, List.length_cons, List.length_nil, List.all_cons, List.all_nil, List.take_zero, List.drop_nil, List.append_nil, List.getElem?_cons_zero, List.getElem?_cons_succ, List.drop_succ_cons, List.drop_zero, List.take_succ_cons, List.cons_append, Nat.reduceLeDiff, Int.cast_ofNat_Int, h1]
 ·by_cases h2 : x ≥ 3456
  ·have h : ¬ inS x := fun h => by have := h.2.1; omega
   rw [if_neg h]
   simp only [WA, isStore, isCall, isK, freshI, stampO, List.nil_append, Option.map_some, Option.map_none, Option.bind_some, List.map_cons, List.map_nil, if_true, if_false, Nat.reduceEqDiff, Int.reduceEq, Nat.reduceAdd, Nat.reduceMul, reduceCtorEq, eq_self, Int.reduceLT, Int.reduceLE, Int.reduceToNat, List.length_cons, List.length_nil, List.all_cons, List.all_nil, List.take_zero, List.drop_nil, List.append_nil, List.getElem?_cons_zero, List.getElem?_cons_succ, List.drop_succ_cons, List.drop_zero, List.take_succ_cons, List.cons_append, Nat.reduceLeDiff, Int.cast_ofNat_Int, h1, h2]
  ·by_cases h3 : x = 2404
   ·have h : ¬ inS x := fun h => h.2.2 h3
    rw [if_neg h]
    have h3t : (x = 2404) = True := eq_true h3
    simp only [WA, isStore, isCall, isK, freshI, stampO, List.nil_append, Option.map_some, Option.map_none, Option.bind_some, List.map_cons, List.map_nil, if_true, if_false, Nat.reduceEqDiff, Int.reduceEq, Nat.reduceAdd, Nat.reduceMul, reduceCtorEq, eq_self, Int.reduceLT, Int.reduceLE, Int.reduceToNat, List.length_cons, List.length_nil, List.all_cons, List.all_nil, List.take_zero, List.drop_nil, List.append_nil, List.getElem?_cons_zero, List.getElem?_cons_succ, List.drop_succ_cons, List.drop_zero, List.take_succ_cons, List.cons_append, Nat.reduceLeDiff, Int.cast_ofNat_Int, h1, h2, h3t]
   ·have h : inS x := ⟨by omega, by omega, h3⟩
    rw [if_pos h]
    have w1 : IntKind.i64.wrap (x - 2304) = x - 2304 := wrap64 (by omega) (by omega)
    have q0 : (x - 2304).tdiv 128 = (x - 2304) / 128 := Int.tdiv_eq_ediv_of_nonneg (by omega)
    have q1 : intOp .quo .i64 (x - 2304) 128 = some (.int .i64 ((x - 2304) / 128)) := by rw [int_quo (by decide), q0, wrap64 (by omega) (by omega)]
    have q2 : intOp .rem .i64 (x - 2304) 128 = some (.int .i64 (x % 128)) := by rw [int_rem (by decide), Int.tmod_eq_emod_of_nonneg (by omega)]; congr 2; omega
    simp only [WA, isStore, isCall, isK, freshI, stampO, List.nil_append, Option.map_some, Option.map_none, Option.bind_some, List.map_cons, List.map_nil, if_true, if_false, Nat.reduceEqDiff, Int.reduceEq, Nat.reduceAdd, Nat.reduceMul, reduceCtorEq, eq_self, Int.reduceLT, Int.reduceLE, Int.reduceToNat, List.length_cons, List.length_nil, List.all_cons, List.all_nil, List.take_zero, List.drop_nil, List.append_nil, List.getElem?_cons_zero, List.getElem?_cons_succ, List.drop_succ_cons, List.drop_zero, List.take_succ_cons, List.cons_append, Nat.reduceLeDiff, Int.cast_ofNat_Int, h1, h2, h3, w1, q1, q2]
def C14 : List Int := [66, 67, 75, 74, 71, 68, 69, 72, 73]
theorem c_code {k : Nat} (hk : k < 9) (H : AHeap) : cw Tryz.prog (tabF tab) om1 128 [.int .i64 (k : Int)] H = some (.int .i64 (C14.getD k 0), H) := by
 match k, hk with
 | 0, _ => exact cw_ofT 3 (by kernel_rfl)
 | 1, _ => exact cw_ofT 3 (by kernel_rfl)
 | 2, _ => exact cw_ofT 3 (by kernel_rfl)
 | 3, _ => exact cw_ofT 3 (by kernel_rfl)
 | 4, _ => exact cw_ofT 3 (by kernel_rfl)
 | 5, _ => exact cw_ofT 3 (by kernel_rfl)
 | 6, _ => exact cw_ofT 3 (by kernel_rfl)
 | 7, _ => exact cw_ofT 3 (by kernel_rfl)
 | 8, _ => exact cw_ofT 3 (by kernel_rfl)
theorem c_Code {k : Nat} (hk : k < 9) (H : AHeap) : cw Tryz.prog (tabF tab) om1 178 [.int .i64 (k : Int)] H = some (.tuple ⟨[.int .i64 (C14.getD k 0), .bool true]⟩, H) := by
 rw [cw_run (F := F_indic_Code) rfl rfl rfl]
 unfold F_indic_Code k_indic_Code
 have h1 : ¬ (k : Int) < 0 := by omega
 have h2 : ¬ (k : Int) ≥ 9 := by omega
 have h3 := c_code hk H
 simp only [WA, isStore, isCall, isK, freshI, stampO, List.nil_append, Option.map_some, Option.map_none, Option.bind_some, List.map_cons, List.map_nil, if_true, if_false, Nat.reduceEqDiff, Int.reduceEq, Nat.reduceAdd, Nat.reduceMul, reduceCtorEq, eq_self, Int.reduceLT, Int.reduceLE, Int.reduceToNat, List.length_cons, List.length_nil, List.all_cons, List.all_nil, List.take_zero, List.drop_nil, List.append_nil, List.getElem?_cons_zero, List.getElem?_cons_succ, List.drop_succ_cons, List.drop_zero, List.take_succ_cons, List.cons_append, Nat.reduceLeDiff, Int.cast_ofNat_Int, h1, h2, h3]
def pE (e : TypeId) : Bool := Nat.beq e 197 || (Nat.beq e 150 || Nat.beq e 148)
theorem pE_ne {e : TypeId} (h : pE e = false) : e ≠ 197 ∧ e ≠ 150 ∧ e ≠ 148 := by
 refine ⟨?_, ?_, ?_⟩ <;> (intro e1; subst e1; revert h; decide)
theorem pE_size {e : TypeId} (h : (Tryz.prog.info? e).map (·.size) = some 1) : pE e = false := by
 cases hp : pE e with
 | false => rfl
 | true =>
  unfold pE at hp
  simp only [Bool.or_eq_true] at hp
  have k1 : (Tryz.prog.info? 197).map (·.size) = some 4 := by kernel_rfl
  have k2 : (Tryz.prog.info? 150).map (·.size) = some 3 := by kernel_rfl
  have k3 : (Tryz.prog.info? 148).map (·.size) = some 4 := by kernel_rfl
  rcases hp with hp | hp | hp <;>
  ·have := Nat.eq_of_beq_eq_true hp
   subst this
   first
    | (rw [k1] at h; cases h)
    | (rw [k2] at h; cases h)
    | (rw [k3] at h; cases h)
def Kq (H H' : AHeap) : Prop := H.n ≤ H'.n ∧ ∀ j b, H.get j = some b → pE b.elem = false → (b.elem ≠ 3 → H'.get j = some b) ∧ ∃ b', H'.get j = some b' ∧ b'.elem = b.elem ∧ (b.st.mem = true → b'.cells = b.cells ∧ b'.st.mem = true)
theorem Kq.trans {a b c : AHeap} (h : Kq a b) (k : Kq b c) : Kq a c := ⟨Nat.le_trans h.1 k.1, fun j x hj he => by
 obtain ⟨h1, y, hy, h2, h3⟩ := h.2 j x hj he
 obtain ⟨k1, z, hz, k2, k3⟩ := k.2 j y hy (by rw [h2]; exact he)
 refine ⟨fun hi => (k.2 j x (h1 hi) he).1 hi, z, hz, k2.trans h2, fun hm => ?_⟩
 obtain ⟨p1, p2⟩ := h3 hm
 obtain ⟨q1, q2⟩ := k3 p2
 exact ⟨q1.trans p1, q2⟩⟩
theorem Ext.kq {H H' : AHeap} (h : Ext H H') : Kq H H' := ⟨h.1, fun j b hj _ => ⟨fun _ => h.get hj, b, h.get hj, rfl, fun hm => ⟨rfl, hm⟩⟩⟩
theorem kx_kq {H H' : AHeap} (h : Kx H H') : Kq H H' := ⟨h.1, fun j b hj he => h.2 j b hj (pE_ne he).1⟩
theorem Kq.of {H H' : AHeap} (hn : H.n ≤ H'.n) (h : ∀ j b, H.get j = some b → pE b.elem = false → H'.get j = some b) : Kq H H' := ⟨hn, fun j b hj he => ⟨fun _ => h j b hj he, b, h j b hj he, rfl, fun hm => ⟨rfl, hm⟩⟩⟩
theorem Ints.kq {H H' : AHeap} (hk : Kq H H') {v : Value} {l : List Int} (h : Ints H v l) (hc : Cut Tryz.prog H v 1) : Ints H' v l ∧ Cut Tryz.prog H' v 1 := by
 obtain ⟨⟨a, c, rfl⟩, h2⟩ := h
 unfold cellsOf at h2
 split at h2
 ·rename_i hv
  exact ⟨⟨⟨_, _, rfl⟩, by rw [hv]; unfold cellsOf; exact h2⟩, by rw [hv]; trivial⟩
 ·rename_i i o n' c' hv
  injection hv with e1 e2 e3
  subst e1 e2 e3
  obtain ⟨b, hb1, hb2⟩ := hc
  obtain ⟨_, b', hb', hbe, hbm⟩ := hk.2 _ _ hb1 (pE_size hb2)
  refine ⟨⟨⟨_, _, rfl⟩, ?_⟩, ⟨b', hb', by rw [hbe]; exact hb2⟩⟩
  unfold cellsOf
  simp only [hb']
  rw [hb1] at h2
  simp only at h2
  split at h2
  ·rename_i h0
   rw [if_pos h0]; exact h2
  ·rename_i h0
   rw [if_neg h0]
   split at h2
   ·rename_i h1
    obtain ⟨p1, p2⟩ := hbm h1.1
    rw [if_pos ⟨p2, by rw [p1]; exact h1.2⟩, p1]
    exact h2
   ·cases h2
 ·rename_i hv
  exact ⟨⟨⟨_, _, rfl⟩, by rw [hv]; unfold cellsOf; exact h2⟩, by rw [hv]; trivial⟩
 ·cases h2
theorem OwnToks.kq {H H' : AHeap} (hk : Kq H H') {v : Value} {L : List Tok} (h : OwnToks Tryz.prog H 36 v L) : OwnToks Tryz.prog H' 36 v L := by
 obtain ⟨q0, cs, q1, q2⟩ := h
 refine ⟨q0, cs, q1.move fun i b hi he => (hk.2 i b hi (by rw [he]; decide)).1 (by rw [he]; decide), fun k r hr => ?_⟩
 obtain ⟨a, c, h1, h2, h3, h4⟩ := q2 k r hr
 obtain ⟨g1, g2⟩ := Ints.kq hk h2 h4
 exact ⟨a, c, h1, g1, h3, g2⟩
def okJ (L : List Rl) (ah : List Int) (T : List Tok) : Prop := T = [] ∨ ∃ x, T = [x] ∧ x.err = 0 ∧ joinsF L ah x.out = false ∧ x.out.length < 1000
def ahF (ah : List Int) : List Tok → List Int
 | x :: _ => x.out
 | [] => ah
theorem joinED {k e : Nat} {L : List Rl} {w : List Int} {a st : Int} {ah : List Int} {v : Value} {T : List Tok} {H0 H : AHeap} (h : ED k H e L w a st ah) (h0n : H0.n ≤ H.n) (he : e < H0.n) (hah : ah.length < 1000) (hT : okJ L ah T) (ht : OwnToks Tryz.prog H 36 v T) (hf : From H0.n v) (hA : AncB H0.n H 36 v) :
  Gives (cw Tryz.prog (tabF tab) om1 181 [.pointer (some ⟨e, 0, none⟩), v] H) fun v' H' => v' = v ∧ OwnToks Tryz.prog H' 36 v T ∧ ED k H' e L w a st (ahF ah T) ∧ H.n ≤ H'.n ∧ (∀ j, j < k → H'.get j = H.get j) ∧ (∀ j b, j < H0.n → H.get j = some b → b.elem ≠ 150 → H'.get j = some b) := by
 rcases hT with rfl | ⟨x, rfl, h0, hj, hx⟩
 ·exact ⟨v, H, c_join0 ht, rfl, ht, h, Nat.le_refl _, fun _ _ => rfl, fun _ _ _ h _ => h⟩
 ·have hke := h.ke
  obtain ⟨m, q, t, va, ver, hg, hM, hTb, hva, hvc⟩ := h.all
  have hTH : TableOk H q L := hTb.ext (cutN_ext hM.kn)
  obtain ⟨v', H', c, rfl, r1, r2, r3, r4, va', ver', r5, r6, r7⟩ := c_join1 hg he h0n hTH hva (by omega) (by omega) ht hf hA h0 hj
  have low : ∀ j, j < k → H'.get j = H.get j := fun j hj => r3 j (by omega) (by omega)
  have hx : Ext (cutN H k) H' := ⟨by have := hM.kn; show k ≤ H'.n; omega, fun j hj => by rw [low j hj, cutN_get hM.kn hj]⟩
  refine ⟨_, H', c, rfl, r1, ⟨hke, m, q, t, va', ver', r5, ?_, tab_keep hM.kn hTb hx, r6, .inr r7⟩, r2, low, fun j b hj hb hbe => ?_⟩
  ·refine hM.keep r2 fun j b hb hbe => r4 j b hb (fun e1 => by rw [e1] at hbe; exact absurd hbe (by decide)) (fun e1 => ?_)
   subst e1
   rw [hg] at hb
   injection hb with hb
   subst hb
   exact absurd hbe (show ¬ (isM 150 = true) by decide)
  ·rw [r3 j hj (fun e1 => by subst e1; rw [hg] at hb; injection hb with hb; subst hb; exact hbe rfl)]
   exact hb
theorem ED.of {k e m q t ver : Nat} {L : List Rl} {w : List Int} {a st : Int} {ah : List Int} {va : Value} {H : AHeap} (hke : k ≤ e) (hg : H.get e = some ⟨[.pointer (some ⟨m, 0, none⟩), .pointer (some ⟨q, 0, none⟩), va], 150, .tip, ver, []⟩) (hM : MD k H m t (trn L []) w a st) (hT : TableOk (cutN H k) q L) (hi : Ints H va ah) (hc : ah = [] ∨ Cut Tryz.prog H va 1) : ED k H e L w a st ah := ⟨hke, m, q, t, va, ver, hg, hM, hT, hi, hc⟩
theorem ED.put {k e : Nat} {L : List Rl} {w : List Int} {a st u : Int} {ah : List Int} {H : AHeap} (h : ED k H e L w a st ah) (hah : ah.length < 1000) (ha : 0 ≤ a ∧ a + (w.length + 1) < 1000000000) (hst : 0 ≤ st ∧ st + (w.length + 1) * (w.length + 1) < 1000000000) (hw1 : w.length + 1 < 10000) (hT : okJ L ah (takeW (trn L []) false (w ++ [u]) a st).1) :
  Gives (cw Tryz.prog (tabF tab) om1 180 [.pointer (some ⟨e, 0, none⟩), .int .i64 u] H) fun v H' => OwnToks Tryz.prog H' 36 v (takeW (trn L []) false (w ++ [u]) a st).1 ∧ ED k H' e L (takeW (trn L []) false (w ++ [u]) a st).2.1 (takeW (trn L []) false (w ++ [u]) a st).2.2.1 (takeW (trn L []) false (w ++ [u]) a st).2.2.2 (ahF ah (takeW (trn L []) false (w ++ [u]) a st).1) ∧ Kq H H' ∧ (∀ j, j < k → H'.get j = H.get j) ∧ ∀ j b, H.get j = some b → b.elem = 148 → H'.get j = some b := by
 rw [cw_run (F := F_machine_Encoder__Put) rfl rfl rfl]
 unfold F_machine_Encoder__Put k_machine_Encoder__Put
 have hke := h.ke
 obtain ⟨m, q, t, va, ver, hg, hM, hTb, hva, hvc⟩ := h.all
 obtain ⟨v1, H1, c1, r1, r2, r3, r4, r5, r6⟩ := hM.putA (u := u) ha hst hw1
 have hg1 := (r4.2 _ _ hg (by simp only; decide)).1 (by simp only; decide)
 obtain ⟨i1, i2⟩ := va_move hva hvc fun _ hc => Ints.kq (kx_kq r4) hva hc
 have e1 : ED k H1 e L _ _ _ ah := ED.of hke hg1 r1 (tab_keep hM.kn hTb r5) i1 i2
 obtain ⟨v2, H2, c2, rfl, s1, s2, s3, s4, s5⟩ := joinED (H0 := H) e1 r4.1 (AHeap.lt_of_get hg) hah hT r2 r3 r6
 simp only [WA, isStore, isCall, isK, freshI, stampO, List.nil_append, Option.map_some, Option.map_none, Option.bind_some, List.map_cons, List.map_nil, if_true, if_false, Nat.reduceEqDiff, Int.reduceEq, Nat.reduceAdd, Nat.reduceMul, reduceCtorEq, eq_self, Int.reduceLT, Int.reduceLE, Int.reduceToNat, List.length_cons, List.length_nil, List.all_cons, List.all_nil, List.take_zero, List.drop_nil, List.append_nil, List.getElem?_cons_zero, List.getElem?_cons_succ, List.drop_succ_cons, List.drop_zero, List.take_succ_cons, List.cons_append, Nat.reduceLeDiff, Int.cast_ofNat_Int, hg, c1, c2]
 have hkn := hM.kn
 refine ⟨s1, s2, ?_, fun j hj => ?_, fun j b hb hbe => s5 j b (AHeap.lt_of_get hb) ((r4.2 j b hb (by rw [hbe]; decide)).1 (by rw [hbe]; decide)) (by rw [hbe]; decide)⟩
 ·refine ⟨Nat.le_trans r4.1 s3, fun j b hb hbe => ?_⟩
  obtain ⟨q1, b', q2, q3, q4⟩ := (kx_kq r4).2 j b hb hbe
  have hjl := AHeap.lt_of_get hb
  have hne := (pE_ne hbe).2.1
  exact ⟨fun hi => s5 j b hjl (q1 hi) hne, b', s5 j b' hjl q2 (by rw [q3]; exact hne), q3, q4⟩
 ·rw [s4 j hj, r5.2 j hj, cutN_get hkn hj]
theorem takeW_nil {L : List Rl} {e : Bool} {a st : Int} : takeW L e [] a st = ([], [], a, st) := rfl
theorem ED.fin {k e : Nat} {L : List Rl} {a st : Int} {ah : List Int} {H : AHeap} (h : ED k H e L [] a st ah) (hah : ah.length < 1000) (ha : 0 ≤ a ∧ a < 1000000000) (hst : 0 ≤ st ∧ st < 1000000000) :
  Gives (cw Tryz.prog (tabF tab) om1 176 [.pointer (some ⟨e, 0, none⟩)] H) fun v H' => OwnToks Tryz.prog H' 36 v [] ∧ ED k H' e L [] a st ah ∧ Kq H H' ∧ (∀ j, j < k → H'.get j = H.get j) ∧ ∀ j b, H.get j = some b → b.elem = 148 → H'.get j = some b := by
 rw [cw_run (F := F_machine_Encoder__End) rfl rfl rfl]
 unfold F_machine_Encoder__End k_machine_Encoder__End
 have hke := h.ke
 obtain ⟨m, q, t, va, ver, hg, hM, hTb, hva, hvc⟩ := h.all
 obtain ⟨v1, H1, c1, r1, r2, r3, r4, r5, r6⟩ := hM.finA ⟨ha.1, by simp; omega⟩ ⟨hst.1, by simp; omega⟩ (by simp)
 rw [takeW_nil] at r1 r2
 have hg1 := (r4.2 _ _ hg (by simp only; decide)).1 (by simp only; decide)
 obtain ⟨i1, i2⟩ := va_move hva hvc fun _ hc => Ints.kq (kx_kq r4) hva hc
 have e1 : ED k H1 e L [] a st ah := ED.of hke hg1 r1 (tab_keep hM.kn hTb r5) i1 i2
 have c2 := c_join0 (e := e) r2
 simp only [WA, isStore, isCall, isK, freshI, stampO, List.nil_append, Option.map_some, Option.map_none, Option.bind_some, List.map_cons, List.map_nil, if_true, if_false, Nat.reduceEqDiff, Int.reduceEq, Nat.reduceAdd, Nat.reduceMul, reduceCtorEq, eq_self, Int.reduceLT, Int.reduceLE, Int.reduceToNat, List.length_cons, List.length_nil, List.all_cons, List.all_nil, List.take_zero, List.drop_nil, List.append_nil, List.getElem?_cons_zero, List.getElem?_cons_succ, List.drop_succ_cons, List.drop_zero, List.take_succ_cons, List.cons_append, Nat.reduceLeDiff, Int.cast_ofNat_Int, hg, c1, c2]
 exact ⟨r2, e1, kx_kq r4, fun j hj => by rw [r5.2 j hj, cutN_get hM.kn hj], fun j b hb hbe => (r4.2 j b hb (by rw [hbe]; decide)).1 (by rw [hbe]; decide)⟩
theorem ED.apart {k e : Nat} {L : List Rl} {w : List Int} {a st : Int} {ah : List Int} {H : AHeap} (h : ED k H e L w a st ah) : Gives (cw Tryz.prog (tabF tab) om1 179 [.pointer (some ⟨e, 0, none⟩)] H) fun v H' => ED k H' e L w a st [] ∧ Kq H H' ∧ H'.n = H.n ∧ ∀ j, j ≠ e → H'.get j = H.get j := by
 rw [cw_run (F := F_machine_Encoder__Apart) rfl rfl rfl]
 unfold F_machine_Encoder__Apart k_machine_Encoder__Apart
 have hke := h.ke
 obtain ⟨m, q, t, va, ver, hg, hM, hTb, hva, hvc⟩ := h.all
 have st4 := e_set2 (H := H) (i := e) (ver := ver) (el := 150) (a := .pointer (some ⟨m, 0, none⟩)) (b := .pointer (some ⟨q, 0, none⟩)) (c := va) (x := .slice none 0 0) rfl
 obtain ⟨H4, hH4⟩ : ∃ H4, H4 = H.upd e ⟨[.pointer (some ⟨m, 0, none⟩), .pointer (some ⟨q, 0, none⟩), .slice none 0 0], 150, .tip, ver + 1, []⟩ := ⟨_, rfl⟩
 rw [← hH4] at st4
 have g4 : H4.get e = some ⟨[.pointer (some ⟨m, 0, none⟩), .pointer (some ⟨q, 0, none⟩), .slice none 0 0], 150, .tip, ver + 1, []⟩ := by rw [hH4]; exact upd_self hg
 have n4 : H4.n = H.n := by rw [hH4]; simp
 have k4 : ∀ j, j ≠ e → H4.get j = H.get j := fun j hj => by rw [hH4]; exact upd_other hg hj
 have kb : ∀ j b, H.get j = some b → b.elem ≠ 150 → H4.get j = some b := fun j b hb hbe => by
  rw [k4 j (fun e1 => by subst e1; rw [hg] at hb; injection hb with hb; subst hb; exact hbe rfl)]
  exact hb
 have hx : Ext (cutN H k) H4 := ⟨by have := hM.kn; show k ≤ H4.n; omega, fun j hj => by rw [k4 j (by have : j < k := hj; omega), cutN_get hM.kn hj]⟩
 simp only [WA, isStore, isCall, isK, freshI, stampO, List.nil_append, Option.map_some, Option.map_none, Option.bind_some, List.map_cons, List.map_nil, if_true, if_false, Nat.reduceEqDiff, Int.reduceEq, Nat.reduceAdd, Nat.reduceMul, reduceCtorEq, eq_self, Int.reduceLT, Int.reduceLE, Int.reduceToNat, List.length_cons, List.length_nil, List.all_cons, List.all_nil, List.take_zero, List.drop_nil, List.append_nil, List.getElem?_cons_zero, List.getElem?_cons_succ, List.drop_succ_cons, List.drop_zero, List.take_succ_cons, List.cons_append, Nat.reduceLeDiff, Int.cast_ofNat_Int, hg, st4]
 refine ⟨ED.of (t := t) hke g4 ?_ (tab_keep hM.kn hTb hx) (Sl.nil _ 1) (.inl rfl), Kq.of (by omega) fun j b hb hbe => kb j b hb (pE_ne hbe).2.1, n4, k4⟩
 exact hM.keep (by omega) fun j b hb hbe => kb j b hb (fun e1 => by rw [e1] at hbe; exact absurd hbe (by decide))
theorem ints_blk {H H' : AHeap} {v : Value} {l : List Int} (h : Ints H v l) (hc : Cut Tryz.prog H v 1) (hl : l ≠ []) (hk : ∀ j b, H.get j = some b → (Tryz.prog.info? b.elem).map (·.size) = some 1 → pure8 b = false → H'.get j = some b) : Ints H' v l ∧ Cut Tryz.prog H' v 1 := by
 obtain ⟨⟨p, c, rfl⟩, h2⟩ := h
 have hm0 : ¬ (l.length = 0) := fun e => hl (List.length_eq_zero_iff.1 e)
 unfold cellsOf at h2
 split at h2
 ·rename_i hv
  injection hv with _ e2 _
  exact absurd e2 hm0
 ·rename_i i o n' c' hv
  injection hv with e1 e2 e3
  subst e1 e2 e3
  obtain ⟨b, hb1, hb2⟩ := hc
  rw [if_neg hm0, hb1] at h2
  simp only at h2
  split at h2
  case isFalse => cases h2
  rename_i hmm
  injection h2 with h2
  have hp : pure8 b = false := by
   cases hp : pure8 b with
   | false => rfl
   | true =>
    unfold pure8 at hp
    rw [Bool.and_eq_true] at hp
    obtain ⟨u, m', rfl⟩ := List.exists_cons_of_ne_nil hl
    have hmem : (Value.int .i64 u) ∈ (b.cells.drop o).take ((u :: m').length * 1) := by rw [h2]; simp [ints]
    have := List.all_eq_true.1 hp.2 _ (List.mem_of_mem_drop (List.mem_of_mem_take hmem))
    cases this
  have hget := hk _ _ hb1 hb2 hp
  refine ⟨⟨⟨_, _, rfl⟩, ?_⟩, ⟨b, hget, hb2⟩⟩
  unfold cellsOf
  simp only [hget]
  rw [if_neg hm0, if_pos hmm, h2]
 ·rename_i hv
  injection hv with _ e2 _
  exact absurd e2 hm0
 ·cases h2
def isE (e : TypeId) : Bool := isM e || (Nat.beq e 150 || Nat.beq e 107)
theorem ED.keep {k e : Nat} {L : List Rl} {w : List Int} {a st : Int} {ah : List Int} {H H' : AHeap} (h : ED k H e L w a st ah) (hn : H.n ≤ H'.n) (hk : ∀ j b, H.get j = some b → isE b.elem = true → H'.get j = some b) (hi : ∀ j b, H.get j = some b → (Tryz.prog.info? b.elem).map (·.size) = some 1 → pure8 b = false → H'.get j = some b) : ED k H' e L w a st ah := by
 obtain ⟨m, q, t, va, ver, hg, hM, hTb, hva, hvc⟩ := h.all
 obtain ⟨i1, i2⟩ := va_move hva hvc fun hl hc => ints_blk hva hc hl hi
 refine ⟨h.ke, m, q, t, va, ver, hk _ _ hg (by rfl), hM.keep hn fun j b hb hbe => hk j b hb (by unfold isE; rw [hbe]; rfl), ?_, i1, i2⟩
 have hkn := hM.kn
 refine hTb.keep (cutN_kt hkn (by omega) fun j b _ hb hbe => hk j b hb (by unfold isE isM; rw [hbe]; rfl)) fun j b hb hbe => ?_
 have hj := cutN_lt hb
 rw [cutN_get hkn hj] at hb
 rw [cutN_get (by omega) hj]
 exact hk j b hb (by rw [hbe]; rfl)
end Go.Proofs.YtleiinhaljdcoaaGreatDoor
