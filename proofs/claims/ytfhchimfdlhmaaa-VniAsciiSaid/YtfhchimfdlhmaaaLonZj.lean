/- What is proved here: a part of a statement's proof. Conditions: those that each theorem names, and no others. -/
import Derived.Test.YtfhchimfdlhmaaaLonZi
/-! Slices from a place on; rows of cells, of each of which something is told. -/
set_option linter.unusedSimpArgs false
set_option linter.unusedVariables false
namespace Lon
open Go

section
variable {P : Program} {H H' : AHeap}
/-- What lies between two places of a slice. -/
theorem Sl.part {sz n j k : Nat} {v : Value} {cs : List Value} (h : Sl H sz v n cs) (hc : Cut P H v sz) (hjk : j ≤ k) (hk : k ≤ n) :
    ∃ v', (∀ kd kd' : IntKind, vSlice (P := P) v (some (.int kd j)) (some (.int kd' k)) sz H = some (v', H)) ∧ (k = n → ∀ kd : IntKind, vSlice (P := P) v (some (.int kd j)) none sz H = some (v', H)) ∧ Sl H sz v' (k - j) ((cs.take (k * sz)).drop (j * sz)) ∧ Cut P H v' sz := by
  obtain ⟨⟨a, c, rfl⟩, h2⟩ := h
  have hlen := Sl.length ⟨⟨a, c, rfl⟩, h2⟩
  cases a with
  | none =>
    have h3 := h2
    unfold cellsOf at h2
    split at h2
    · rename_i hv
      injection hv with _ hv1 hv2
      subst hv1 hv2
      obtain rfl : k = 0 := by omega
      obtain rfl : j = 0 := by omega
      injection h2 with h2
      subst h2
      exact ⟨.slice none 0 0, fun kd kd' => rfl, fun _ kd => rfl, ⟨⟨_, _, rfl⟩, by simp [cellsOf]⟩, trivial⟩
    · rename_i hv; injection hv with hv _ _; cases hv
    · rename_i hv; injection hv with hv _ _; cases hv
    · cases h2
  | some a =>
    obtain ⟨i, o, s⟩ := a
    cases s with
    | none =>
      obtain ⟨b, hb, hs⟩ := hc
      refine ⟨.slice (some ⟨i, o + (j : Int).toNat * sz, none⟩) ((k : Int).toNat - (j : Int).toNat) (if c = 0 then 0 else max ((k : Int).toNat - (j : Int).toNat) (c - 1 - (j : Int).toNat) + 1), fun kd kd' => ?_, fun e kd => ?_, ⟨⟨_, _, by simp only [Int.toNat_natCast]; exact rfl⟩, ?_⟩, ?_⟩
      · simp only [vSlice, bndV, hb, Option.map_some, hs]
        rw [if_pos ⟨by omega, by omega, by omega, trivial⟩]
        rfl
      · subst e
        simp only [vSlice, bndV, hb, Option.map_some, hs]
        rw [if_pos ⟨by omega, by omega, by omega, trivial⟩]
        rfl
      · by_cases hk0 : k - j = 0
        · have hle : k * sz ≤ j * sz := Nat.mul_le_mul_right _ (by omega)
          have : ((cs.take (k * sz)).drop (j * sz)) = [] := List.drop_eq_nil_of_le (by rw [List.length_take]; omega)
          rw [this]
          simp only [Int.toNat_natCast, hk0]
          unfold cellsOf
          simp
        · have hn : n ≠ 0 := by omega
          obtain ⟨cells, el, st, ver, anc, g1, g2, g3, g4⟩ := cellsOf_some h2 hn
          unfold cellsOf
          simp only [Int.toNat_natCast]
          rw [if_neg hk0, g1]
          simp only
          have hle : k * sz ≤ n * sz := Nat.mul_le_mul_right _ hk
          have hkj : k * sz = j * sz + (k - j) * sz := by rw [← Nat.add_mul]; congr 1; omega
          rw [if_pos ⟨g2, by omega⟩, ← g4, List.take_take, Nat.min_eq_left hle, List.drop_take, List.drop_drop]
          congr 2
          omega
      · exact ⟨b, hb, hs⟩
    | some s =>
      have h3 := h2
      unfold cellsOf at h2
      split at h2
      · rename_i hv; injection hv with hv _ _; cases hv
      · rename_i hv; injection hv with hv _ _; cases hv
      · rename_i hv
        injection hv with _ hv1 hv2
        subst hv1 hv2
        obtain rfl : k = 0 := by omega
        obtain rfl : j = 0 := by omega
        injection h2 with h2
        subst h2
        exact ⟨.slice (some ⟨i, o, some s⟩) 0 0, fun kd kd' => rfl, fun _ kd => rfl, ⟨⟨_, _, rfl⟩, by simp [cellsOf]⟩, trivial⟩
      · cases h2
theorem Sl.drop {sz n j : Nat} {v : Value} {cs : List Value} (h : Sl H sz v n cs) (hc : Cut P H v sz) (hj : j ≤ n) :
    ∃ v', (∀ kd : IntKind, vSlice (P := P) v (some (.int kd j)) none sz H = some (v', H)) ∧ Sl H sz v' (n - j) (cs.drop (j * sz)) ∧ Cut P H v' sz := by
  obtain ⟨v', _, h1, h2, h3⟩ := h.part hc hj (Nat.le_refl n)
  refine ⟨v', h1 rfl, ?_, h3⟩
  rwa [List.take_of_length_le (by rw [h.length]; exact Nat.le_refl _)] at h2
theorem Ints.drop {v : Value} {l : List Int} {j : Nat} (h : Ints H v l) (hc : Cut P H v 1) (hj : j ≤ l.length) :
    ∃ v', (∀ kd : IntKind, vSlice (P := P) v (some (.int kd j)) none 1 H = some (v', H)) ∧ Ints H v' (l.drop j) ∧ Cut P H v' 1 := by
  obtain ⟨v', g1, g2, g3⟩ := Sl.drop h hc hj
  refine ⟨v', g1, ?_, g3⟩
  unfold Ints
  rw [List.length_drop]
  simpa [ints] using g2
end

theorem Ext.ver {H H' : AHeap} (h : Ext H H') : VerLe H H' := ⟨h.1, fun i b hb => ⟨b, h.get hb, Nat.le_refl _, rfl, fun _ => ⟨rfl, id, id⟩⟩⟩
/-- What is read stays, and what blocks are made of. -/
structure Kp (H H' : AHeap) : Prop where
  keeps : Keeps H H'
  ver : VerLe H H'
theorem Kp.trans {a b c : AHeap} (h : Kp a b) (k : Kp b c) : Kp a c := ⟨h.1.trans k.1, h.2.trans k.2⟩
theorem Kp.refl (a : AHeap) : Kp a a := ⟨Keeps.refl a, VerLe.refl a⟩
theorem Ext.kp {H H' : AHeap} (h : Ext H H') : Kp H H' := ⟨h.keeps, h.ver⟩
section
variable {ρ : Type} {s : Nat} {Q : AHeap → List Value → ρ → Prop} {H H' : AHeap}
def MonoK (Q : AHeap → List Value → ρ → Prop) : Prop := ∀ ⦃H H' : AHeap⦄ ⦃cs : List Value⦄ ⦃r : ρ⦄, Kp H H' → Q H cs r → Q H' cs r
def rowC (cs : List Value) (s k : Nat) : List Value := (cs.drop (k * s)).take s
/-- A slice of rows. -/
def Rws (s : Nat) (Q : AHeap → List Value → ρ → Prop) (H : AHeap) (v : Value) (L : List ρ) : Prop := L.length < 1000000000 ∧ ∃ cs, Sl H s v L.length cs ∧ ∀ k r, L[k]? = some r → Q H (rowC cs s k) r
/-- A function's own. -/
def OwnRws (s : Nat) (Q : AHeap → List Value → ρ → Prop) (H : AHeap) (el : TypeId) (v : Value) (L : List ρ) : Prop := L.length < 1000000000 ∧ ∃ cs, Own H el s v L.length cs ∧ ∀ k r, L[k]? = some r → Q H (rowC cs s k) r
theorem Rws.kp (hQ : MonoK Q) (hk : Kp H H') {v : Value} {L : List ρ} (h : Rws s Q H v L) : Rws s Q H' v L := by
  obtain ⟨h0, cs, h1, h2⟩ := h
  exact ⟨h0, cs, h1.keeps hk.keeps, fun k r hr => hQ hk (h2 k r hr)⟩
theorem Rws.ext (hQ : MonoK Q) (hk : Ext H H') {v : Value} {L : List ρ} (h : Rws s Q H v L) : Rws s Q H' v L := h.kp hQ hk.kp
theorem OwnRws.ext (hQ : MonoK Q) (hk : Ext H H') {el : TypeId} {v : Value} {L : List ρ} (h : OwnRws s Q H el v L) : OwnRws s Q H' el v L := by
  obtain ⟨h0, cs, h1, h2⟩ := h
  exact ⟨h0, cs, h1.ext hk, fun k r hr => hQ hk.kp (h2 k r hr)⟩
theorem OwnRws.rws {el : TypeId} {v : Value} {L : List ρ} (h : OwnRws s Q H el v L) : Rws s Q H v L := by
  obtain ⟨h0, cs, h1, h2⟩ := h
  exact ⟨h0, cs, h1.sl, h2⟩
theorem OwnRws.nil {H : AHeap} {el : TypeId} : OwnRws s Q H el (.slice none 0 0) [] := ⟨by simp, [], ⟨by simp, .inl ⟨rfl, rfl⟩⟩, fun k r h => by simp at h⟩
theorem Rws.nil {H : AHeap} : Rws s Q H (.slice none 0 0) [] := ⟨by simp, [], Sl.nil H s, fun k r h => by simp at h⟩
theorem OwnRws.cut {P : Program} {el : TypeId} {v : Value} {L : List ρ} (h : OwnRws s Q H el v L) (hs : (P.info? el).map (·.size) = some s) : Cut P H v s := by
  obtain ⟨_, cs, h1, _⟩ := h
  exact h1.cut hs
theorem Rws.len {H2 : AHeap} {v : Value} {L : List ρ} (h : Rws s Q H v L) : vLen false v H2 = some (.int .i64 L.length, H2) := by
  obtain ⟨_, cs, h1, _⟩ := h
  exact h1.len
theorem Rws.form {v : Value} {L : List ρ} (h : Rws s Q H v L) : ∃ a c, v = .slice a L.length c := by
  obtain ⟨_, cs, ⟨⟨a, c, rfl⟩, _⟩, _⟩ := h
  exact ⟨_, _, rfl⟩
theorem rowC_at {cs : List Value} {k f : Nat} {u : Value} (h : (rowC cs s k)[f]? = some u) : f < s ∧ cs[k * s + f]? = some u := by
  unfold rowC at h
  rw [List.getElem?_take] at h
  split at h
  · rename_i hf
    rw [List.getElem?_drop] at h
    exact ⟨hf, h⟩
  · cases h
theorem Rws.at {v : Value} {L : List ρ} (h : Rws s Q H v L) {k : Nat} {r : ρ} (hr : L[k]? = some r) :
    ∃ i o row, (∀ (kd : IntKind) (H2 : AHeap), vIaddr v (.int kd k) s H2 = some (.pointer (some ⟨i, o, none⟩), H2)) ∧ (∀ u, row[0]? = some u → gotLoad (H.get i) o none H = some (u, H)) ∧ (∀ f u, row[f]? = some u → gotLoad (H.get i) (o + f) none H = some (u, H)) ∧ gotLoad (H.get i) o (some s) H = some (.agg ⟨row⟩, H) ∧ Q H row r := by
  obtain ⟨h0, cs, h1, h2⟩ := h
  obtain ⟨i, o, a1, a2, a3⟩ := h1.at (List.getElem?_eq_some_iff.1 hr).1
  have a2' : ∀ f u, (rowC cs s k)[f]? = some u → gotLoad (H.get i) (o + f) none H = some (u, H) := fun f u hu => by
    obtain ⟨b1, b2⟩ := rowC_at hu
    exact a2 f u b1 b2
  exact ⟨i, o, rowC cs s k, a1, fun u hu => a2' 0 u hu, a2', a3, h2 k r hr⟩
theorem Rws.part {P : Program} {v : Value} {L : List ρ} {j k : Nat} (h : Rws s Q H v L) (hc : Cut P H v s) (hjk : j ≤ k) (hk : k ≤ L.length) :
    ∃ v', (∀ kd kd' : IntKind, vSlice (P := P) v (some (.int kd j)) (some (.int kd' k)) s H = some (v', H)) ∧ (k = L.length → ∀ kd : IntKind, vSlice (P := P) v (some (.int kd j)) none s H = some (v', H)) ∧ Rws s Q H v' ((L.take k).drop j) ∧ Cut P H v' s := by
  obtain ⟨h0, cs, h1, h2⟩ := h
  obtain ⟨v', g1, g2, g3, g4⟩ := h1.part hc hjk hk
  have hlen : ((L.take k).drop j).length = k - j := by rw [List.length_drop, List.length_take]; omega
  refine ⟨v', g1, g2, ⟨by omega, (cs.take (k * s)).drop (j * s), by rw [hlen]; exact g3, fun m r hr => ?_⟩, g4⟩
  rw [List.getElem?_drop, List.getElem?_take] at hr
  split at hr
  · rename_i hm
    have hq := h2 _ r hr
    have he : rowC ((cs.take (k * s)).drop (j * s)) s m = rowC cs s (j + m) := by
      unfold rowC
      have hle : j * s + m * s + s ≤ k * s := by
        rw [← Nat.add_mul, ← Nat.succ_mul]
        exact Nat.mul_le_mul_right _ (by omega)
      rw [List.drop_drop, List.drop_take, List.take_take, Nat.min_eq_left (by omega), ← Nat.add_mul]
    rw [he]
    exact hq
  · cases hr
theorem Rws.drop {P : Program} {v : Value} {L : List ρ} {j : Nat} (h : Rws s Q H v L) (hc : Cut P H v s) (hj : j ≤ L.length) :
    ∃ v', (∀ kd : IntKind, vSlice (P := P) v (some (.int kd j)) none s H = some (v', H)) ∧ Rws s Q H v' (L.drop j) ∧ Cut P H v' s := by
  obtain ⟨v', _, h1, h2, h3⟩ := h.part hc hj (Nat.le_refl _)
  rw [List.take_length] at h2
  exact ⟨v', h1 rfl, h2, h3⟩
theorem Rws.take {P : Program} {v : Value} {L : List ρ} {k : Nat} (h : Rws s Q H v L) (hc : Cut P H v s) (hk : k ≤ L.length) :
    ∃ v', (∀ kd : IntKind, vSlice (P := P) v none (some (.int kd k)) s H = some (v', H)) ∧ Rws s Q H v' (L.take k) ∧ Cut P H v' s := by
  obtain ⟨h0, cs, h1, h2⟩ := h
  obtain ⟨v', g1, g2, g3⟩ := h1.take hc hk
  have hlen : (L.take k).length = k := by rw [List.length_take]; omega
  refine ⟨v', g1, ⟨by omega, cs.take (k * s), by rw [hlen]; exact g2, fun m r hr => ?_⟩, g3⟩
  rw [List.getElem?_take] at hr
  split at hr
  · rename_i hm
    have hq := h2 _ r hr
    have he : rowC (cs.take (k * s)) s m = rowC cs s m := by
      unfold rowC
      have hle : m * s + s ≤ k * s := by
        rw [← Nat.succ_mul]
        exact Nat.mul_le_mul_right _ (by omega)
      rw [List.drop_take, List.take_take, Nat.min_eq_left (by omega)]
    rw [he]
    exact hq
  · cases hr
theorem rowC_left {a b : List Value} {n k : Nat} (ha : a.length = n * s) (hk : k < n) : rowC (a ++ b) s k = rowC a s k := by
  unfold rowC
  have hle : k * s + s ≤ n * s := by rw [← Nat.succ_mul]; exact Nat.mul_le_mul_right _ hk
  rw [List.drop_append_of_le_length (by omega), List.take_append_of_le_length (by rw [List.length_drop]; omega)]
theorem rowC_right {a b : List Value} {n k : Nat} (ha : a.length = n * s) : rowC (a ++ b) s (n + k) = rowC b s k := by
  unfold rowC
  rw [Nat.add_mul, ← ha, List.drop_append, List.drop_eq_nil_of_le (by omega), List.nil_append]
  congr 2
  omega
/-- Rows laid behind one's own. -/
theorem OwnRws.append (hQ : MonoK Q) {el : TypeId} {bytes : Nat} {v x : Value} {L M : List ρ} (h : OwnRws s Q H el v L) (hx : Rws s Q H x M) (hone : M ≠ [] → ∀ cs, Sl H s x M.length cs → cs.all one = true) (hb : (L.length + M.length) * bytes ≤ 140737488355328) (hsm : L.length + M.length < 1000000000) :
    ∃ v' H', appendA H v x el s bytes = some (v', H') ∧ OwnRws s Q H' el v' (L ++ M) ∧ (From H.n v' ∨ v' = v) ∧ Kp H H' ∧ H.n ≤ H'.n ∧ (∀ i, i < H.n → NotAt v i → H'.get i = H.get i) := by
  obtain ⟨h0, cs, h1, h2⟩ := h
  obtain ⟨x0, cx, x1, x2⟩ := hx
  by_cases hm : M = []
  · subst hm
    refine ⟨v, H, ?_, ⟨by simpa using h0, cs, by simpa using h1, by simpa using h2⟩, .inr rfl, Kp.refl H, Nat.le_refl _, fun _ _ _ => rfl⟩
    have hl := x1.length
    simp at hl
    subst hl
    obtain ⟨⟨a, c, rfl⟩, hc⟩ := x1
    obtain ⟨⟨av, cv, rfl⟩, hv⟩ := h1.sl
    unfold appendA
    simp only [hc, hv]
    exact if_pos List.length_nil
  · have hpos : 0 < M.length := List.length_pos_iff.2 hm
    obtain ⟨v', H', q1, q2, q3, q4', q5, q6⟩ := h1.append2 x1 hpos (hone hm cx x1) hb
    have q4 : Kp H H' := ⟨q4', appendA_ver q1⟩
    refine ⟨v', H', q1, ⟨by rw [List.length_append]; exact hsm, cs ++ cx, by rw [List.length_append]; exact q2, fun k r hr => ?_⟩, .inl q3, q4, q5, q6⟩
    rcases Nat.lt_or_ge k L.length with hk | hk
    · rw [List.getElem?_append_left hk] at hr
      rw [rowC_left h1.1 hk]
      exact hQ q4 (h2 k r hr)
    · rw [List.getElem?_append_right hk] at hr
      obtain ⟨d, rfl⟩ : ∃ d, k = L.length + d := ⟨k - L.length, by omega⟩
      rw [rowC_right h1.1]
      rw [Nat.add_sub_cancel_left] at hr
      exact hQ q4 (x2 d r hr)
/-- A row laid behind one's own. -/
theorem OwnRws.push (hQ : MonoK Q) {el el' : TypeId} {bytes i ver c : Nat} {anc : List Nat} {v : Value} {new : List Value} {L : List ρ} {r : ρ} (h : OwnRws s Q H el v L) (hg : H.get i = some ⟨new, el', .tip, ver, anc⟩) (hl : new.length = s) (hr : Q H new r) (hone : new.all one = true) (hb : (L.length + 1) * bytes ≤ 140737488355328) (hsm : L.length + 1 < 1000000000) :
    ∃ v' H', appendA H v (.slice (some ⟨i, 0, none⟩) 1 c) el s bytes = some (v', H') ∧ OwnRws s Q H' el v' (L ++ [r]) ∧ From H.n v' ∧ Kp H H' ∧ H.n ≤ H'.n ∧ (∀ i, i < H.n → NotAt v i → H'.get i = H.get i) := by
  have hx : Sl H s (.slice (some ⟨i, 0, none⟩) 1 c) 1 new := Sl.new hg mem_tip (by rw [hl, Nat.one_mul])
  obtain ⟨h0, cs, h1, h2⟩ := h
  obtain ⟨v', H', q1, q2, q3, q4', q5, q6⟩ := h1.append2 hx (by decide) hone hb
  have q4 : Kp H H' := ⟨q4', appendA_ver q1⟩
  refine ⟨v', H', q1, ⟨by rw [List.length_append]; exact hsm, cs ++ new, by rw [List.length_append]; exact q2, fun k r' hr' => ?_⟩, q3, q4, q5, q6⟩
  rcases Nat.lt_or_ge k L.length with hk | hk
  · rw [List.getElem?_append_left hk] at hr'
    rw [rowC_left h1.1 hk]
    exact hQ q4 (h2 k r' hr')
  · have hk0 : k = L.length := by
      have := (List.getElem?_eq_some_iff.1 hr').1
      simp at this
      omega
    subst hk0
    have he : r' = r := by simpa using hr'.symm
    subst he
    have := rowC_right (b := new) (k := 0) h1.1
    rw [Nat.add_zero] at this
    rw [this]
    have : rowC new s 0 = new := by unfold rowC; rw [Nat.zero_mul, List.drop_zero, ← hl, List.take_length]
    rw [this]
    exact hQ q4 hr
end

theorem Own.notAt {H : AHeap} {el : TypeId} {sz n i : Nat} {v : Value} {cs : List Value} (h : Own H el sz v n cs) (hi : H.n ≤ i) : NotAt v i := by
  obtain ⟨_, ⟨rfl, _⟩ | ⟨b, ver, anc, rfl, _, hg⟩⟩ := h
  · trivial
  · have := AHeap.lt_of_get hg
    show b ≠ i
    omega
theorem OwnRws.notAt {ρ : Type} {s : Nat} {Q : AHeap → List Value → ρ → Prop} {H : AHeap} {el : TypeId} {i : Nat} {v : Value} {L : List ρ} (h : OwnRws s Q H el v L) (hi : H.n ≤ i) : NotAt v i := by
  obtain ⟨_, cs, h1, _⟩ := h
  exact h1.notAt hi
/-- What was there, and is not one's own slice, stays. -/
theorem Ext.grow {H0 H H' : AHeap} {v : Value} (hx : Ext H0 H) (hn : H.n ≤ H'.n) (hk : ∀ i, i < H.n → NotAt v i → H'.get i = H.get i) (hf : From H0.n v) : Ext H0 H' :=
  ⟨Nat.le_trans hx.1 hn, fun i hi => by rw [hk i (Nat.lt_of_lt_of_le hi hx.1) (NotAt.of_from hf hi), hx.2 i hi]⟩
/-- The elder rows of a slice of one's own: where they lie. -/
def AncB (B : Nat) (H : AHeap) (el : TypeId) (v : Value) : Prop := match v with
  | .slice (some a) _ _ => ∃ blk, H.get a.block = some blk ∧ ∀ x ∈ blk.anc, B ≤ x ∧ x < a.block ∧ ∃ b', H.get x = some b' ∧ b'.elem = el
  | _ => True
theorem AncB.nil {B : Nat} {H : AHeap} {el : TypeId} : AncB B H el (.slice none 0 0) := trivial
theorem AncB.ext {B : Nat} {H H' : AHeap} (hx : Ext H H') {el : TypeId} {v : Value} (h : AncB B H el v) : AncB B H' el v := by
  unfold AncB at h ⊢
  split
  · obtain ⟨blk, h1, h2⟩ := h
    refine ⟨blk, hx.get h1, fun x hm => ?_⟩
    obtain ⟨a1, al, b', a2, a3⟩ := h2 x hm
    exact ⟨a1, al, b', hx.get a2, a3⟩
  · trivial
theorem AncB.mono {A B : Nat} (hAB : A ≤ B) {H : AHeap} {el : TypeId} {v : Value} (h : AncB B H el v) : AncB A H el v := by
  unfold AncB at h ⊢
  split
  · obtain ⟨blk, h1, h2⟩ := h
    exact ⟨blk, h1, fun x hm => ⟨Nat.le_trans hAB (h2 x hm).1, (h2 x hm).2⟩⟩
  · trivial
theorem appendA_anc {B : Nat} {H H' : AHeap} {v x v' : Value} {el : TypeId} {sz bytes : Nat} (h : appendA H v x el sz bytes = some (v', H')) (hf : From B v) (ha : AncB B H el v) : AncB B H' el v' := by
  have hver := appendA_ver h
  have fresh : ∀ {K : AHeap} {cs : List Value} {n c : Nat}, K.n = H.n → AncB B (K.push ⟨cs, el, .tip, 0, []⟩) el (.slice (some ⟨H.n, 0, none⟩) n c) := fun {K cs n c} hK => ⟨⟨cs, el, .tip, 0, []⟩, by rw [← hK]; exact get_push_self, fun x hx => by cases hx⟩
  unfold appendA at h
  split at h
  · rename_i a n c a' m c'
    split at h
    · rename_i old new hold hnew
      split at h
      · injection h with h
        injection h with h1 h2
        subst h1 h2
        exact ha
      · split at h
        · split at h
          · injection h with h
            injection h with h1 h2
            subst h1 h2
            exact fresh rfl
          · rename_i aa
            split at h
            · injection h with h
              injection h with h1 h2
              subst h1 h2
              exact fresh rfl
            · split at h
              · rename_i blk hblk
                split at h
                · rename_i hst
                  split at h
                  · injection h with h
                    injection h with h1 h2
                    subst h1 h2
                    obtain ⟨blk', g1, g2⟩ := ha
                    rw [hblk] at g1
                    injection g1 with g1
                    subst g1
                    refine ⟨_, by have := get_push_self (H := H.upd aa.block { blk with st := .ret }) (b := ⟨old ++ new, el, .tip, 0, aa.block :: blk.anc⟩); simpa using this, fun x hx => ?_⟩
                    rcases List.mem_cons.1 hx with rfl | hx
                    · obtain ⟨b', e1, _, e2, _⟩ := hver.2 _ _ hblk
                      exact ⟨hf, AHeap.lt_of_get hblk, b', e1, e2.trans hst.2⟩
                    · obtain ⟨a1, al, b0, a2, a3⟩ := g2 x hx
                      obtain ⟨b', e1, _, e2, _⟩ := hver.2 _ _ a2
                      exact ⟨a1, Nat.lt_trans al (AHeap.lt_of_get hblk), b', e1, e2.trans a3⟩
                  · injection h with h
                    injection h with h1 h2
                    subst h1 h2
                    exact fresh (killAll_n _ _)
                · cases h
              · cases h
        · cases h
    · cases h
  · cases h
/-- A cell of one's own slice is overwritten. -/
theorem OwnRws.store {ρ : Type} {s : Nat} {Q : AHeap → List Value → ρ → Prop} {B : Nat} {H : AHeap} {el : TypeId} {v u : Value} {L : List ρ} {k f : Nat} {r : ρ} (h : OwnRws s Q H el v L) (hf : From B v) (ha : AncB B H el v) (hk : L[k]? = some r) (hfs : f < s) (hu : u.cells.toList = [u]) (hone : one u = true)
    (hQ : ∀ (H' : AHeap) (row : List Value) (r : ρ), (∀ j blk, H.get j = some blk → blk.elem ≠ el → H'.get j = some blk) → Q H row r → Q H' row r) :
    ∃ b, (∀ (kd : IntKind) (H2 : AHeap), vIaddr v (.int kd k) s H2 = some (.pointer (some ⟨b, k * s, none⟩), H2)) ∧ ∃ row, (∀ g w, row[g]? = some w → gotLoad (H.get b) (k * s + g) none H = some (w, H)) ∧ row.length = s ∧ Q H row r ∧
      ∃ H', gotStore (H.get b) b (k * s + f) u 1 H = some (.tuple ⟨[]⟩, H') ∧ H'.n = H.n ∧ (∀ j, j < B → H'.get j = H.get j) ∧ (∀ j blk, H.get j = some blk → blk.elem ≠ el → H'.get j = some blk) ∧ AncB B H' el v ∧ VerLe H H' ∧ ∀ r', Q H' (row.set f u) r' → OwnRws s Q H' el v (L.set k r') := by
  obtain ⟨h0, cs, h1, h2⟩ := h
  have hkl := (List.getElem?_eq_some_iff.1 hk).1
  obtain ⟨hcl, ⟨rfl, hn0⟩ | ⟨b, ver, anc, rfl, hn, hg⟩⟩ := h1
  · omega
  have hle : k * s + s ≤ cs.length := by rw [hcl, ← Nat.succ_mul]; exact Nat.mul_le_mul_right _ hkl
  have hrl : (rowC cs s k).length = s := by unfold rowC; rw [List.length_take, List.length_drop]; omega
  obtain ⟨blk, g1, g2⟩ := ha
  have g1' : blk = ⟨cs, el, .tip, ver, anc⟩ := by
    have := g1.symm.trans hg
    injection this
  subst g1'
  simp only at g2
  have hbn : b ∉ anc := fun hm => by
    have := (g2 b hm).2.1
    exact Nat.lt_irrefl _ this
  have hgk : (killAll H anc).get b = some ⟨cs, el, .tip, ver, anc⟩ := by rw [killAll_get_not _ _ _ hbn]; exact hg
  have hlow : ∀ j, j < B → ((killAll H anc).upd b ⟨cs.set (k * s + f) u, el, .tip, ver + 1, []⟩).get j = H.get j := fun j hj => by
    have hbB : B ≤ b := hf
    rw [AHeap.get_upd hgk, if_neg (by omega), killAll_get_not _ _ _ (fun hm => by have := (g2 j hm).1; omega)]
  have hoth : ∀ j blk, H.get j = some blk → blk.elem ≠ el → ((killAll H anc).upd b ⟨cs.set (k * s + f) u, el, .tip, ver + 1, []⟩).get j = some blk := fun j blk hj he => by
    have hjb : j ≠ b := fun e => by subst e; rw [hg] at hj; injection hj with hj; subst hj; exact he rfl
    rw [AHeap.get_upd hgk, if_neg hjb, killAll_get_not _ _ _ (fun hm => by
      obtain ⟨_, _, b', a2, a3⟩ := g2 j hm
      rw [hj] at a2
      injection a2 with a2
      subst a2
      exact he a3)]
    exact hj
  have hself : ((killAll H anc).upd b ⟨cs.set (k * s + f) u, el, .tip, ver + 1, []⟩).get b = some ⟨cs.set (k * s + f) u, el, .tip, ver + 1, []⟩ := by rw [AHeap.get_upd hgk, if_pos rfl]
  refine ⟨b, fun kd H2 => ?_, rowC cs s k, fun g w hw => ?_, hrl, h2 k r hk, (killAll H anc).upd b ⟨cs.set (k * s + f) u, el, .tip, ver + 1, []⟩, ?_, ?_, hlow, hoth, ⟨_, hself, fun x hx => by cases hx⟩, ?_, fun r' hr' => ⟨by rw [List.length_set]; exact h0, cs.set (k * s + f) u, ⟨by rw [List.length_set, List.length_set]; exact hcl, .inr ⟨b, ver + 1, [], by rw [List.length_set], by rw [List.length_set]; exact hn, hself⟩⟩, fun m r2 hm => ?_⟩⟩
  · rw [v_iaddr ⟨by omega, by omega⟩]
    simp
  · obtain ⟨w1, w2⟩ := rowC_at hw
    rw [hg, got_one mem_tip, w2]
    rfl
  · rw [hg, got_store (by rw [hu]; rfl) (by rw [hu]; simpa using hone) (by omega), hu]
    congr 4
    rw [List.set_eq_take_append_cons_drop, if_pos (by omega)]
    simp
  · simp [killAll_n]
  · exact (VerLe.kill H anc).trans (VerLe.upd hgk (Nat.le_succ ver) rfl (fun e => by simp only at e; omega))
  · rw [List.getElem?_set] at hm
    split at hm
    · rename_i e
      subst e
      have hm : r' = r2 := by simpa [hkl] using hm
      subst hm
      have : rowC (cs.set (k * s + f) u) s k = (rowC cs s k).set f u := by
        unfold rowC
        rw [List.drop_set, if_neg (by omega), List.take_set]
        congr 1
        omega
      rw [this]
      exact hr'
    · rename_i e
      have hml := (List.getElem?_eq_some_iff.1 hm).1
      have : rowC (cs.set (k * s + f) u) s m = rowC cs s m := by
        unfold rowC
        rcases Nat.lt_or_ge k m with hlt | hge
        · have : (k + 1) * s ≤ m * s := Nat.mul_le_mul_right _ hlt
          rw [Nat.succ_mul] at this
          rw [List.drop_set, if_pos (by omega)]
        · have : (m + 1) * s ≤ k * s := Nat.mul_le_mul_right _ (by omega)
          rw [Nat.succ_mul] at this
          rw [List.drop_set, if_neg (by omega), List.take_set_of_le (by omega)]
      rw [this]
      exact hQ _ _ _ hoth (h2 m r2 hm)
theorem Cut.upd {P : Program} {H : AHeap} {i sz : Nat} {v : Value} {b c : ABlk} (h : Cut P H v sz) (hg : H.get i = some b) (he : c.elem = b.elem) : Cut P (H.upd i c) v sz := by
  unfold Cut at h ⊢
  split at h
  · rename_i j _ _ _
    obtain ⟨b', h1, h2⟩ := h
    by_cases hj : j = i
    · subst hj
      rw [hg] at h1
      injection h1 with h1
      subst h1
      exact ⟨c, upd_self hg, by rw [he]; exact h2⟩
    · exact ⟨b', by rw [upd_other hg hj]; exact h1, h2⟩
  · trivial
theorem Own.notAt_elem {H : AHeap} {el : TypeId} {sz n i : Nat} {v : Value} {cs : List Value} {b : ABlk} (h : Own H el sz v n cs) (hg : H.get i = some b) (he : b.elem ≠ el) : NotAt v i := by
  obtain ⟨_, ⟨rfl, _⟩ | ⟨q, ver, anc, rfl, _, h3⟩⟩ := h
  · trivial
  · intro e
    have e : q = i := e
    subst e
    rw [hg] at h3
    injection h3 with h3
    subst h3
    exact he rfl
theorem Own.move {H H' : AHeap} {el : TypeId} {sz n : Nat} {v : Value} {cs : List Value} (h : Own H el sz v n cs) (hk : ∀ i b, H.get i = some b → b.elem = el → H'.get i = some b) : Own H' el sz v n cs := by
  obtain ⟨hl, h⟩ := h
  refine ⟨hl, ?_⟩
  rcases h with h | ⟨q, ver, anc, h1, h2, h3⟩
  · exact .inl h
  · exact .inr ⟨q, ver, anc, h1, h2, hk _ _ h3 rfl⟩
theorem AncB.move {B : Nat} {H H' : AHeap} {el : TypeId} {v : Value} (h : AncB B H el v) (hv : VerLe H H') (hk : ∀ i b, H.get i = some b → ¬ NotAt v i → H'.get i = some b) : AncB B H' el v := by
  unfold AncB at h ⊢
  split
  · rename_i a _ _
    obtain ⟨blk, h1, h2⟩ := h
    refine ⟨blk, hk _ _ h1 (fun hn => hn rfl), fun x hm => ?_⟩
    obtain ⟨a1, al, b', a2, a3⟩ := h2 x hm
    obtain ⟨b2, e1, _, e2, _⟩ := hv.2 _ _ a2
    exact ⟨a1, al, b2, e1, e2.trans a3⟩
  · trivial
/-- 'append([]int(nil), x...)', a slice of one's own. -/
theorem app_own {H : AHeap} {x : Value} {l : List Int} {el : TypeId} (hx : Ints H x l) (hb : l.length * 8 ≤ 140737488355328) :
    ∃ v H', appendA H (.slice none 0 0) x el 1 8 = some (v, H') ∧ Ext H H' ∧ Own H' el 1 v l.length (ints l) ∧ From H.n v ∧ AncB H.n H' el v := by
  by_cases hl : l = []
  · subst hl
    refine ⟨.slice none 0 0, H, ?_, Ext.refl _, ⟨rfl, .inl ⟨rfl, rfl⟩⟩, trivial, trivial⟩
    obtain ⟨⟨a, c, rfl⟩, hc⟩ := hx
    have h2 : cellsOf H 1 (.slice none 0 0) = some [] := rfl
    unfold appendA
    simp only [h2, hc]
    exact if_pos List.length_nil
  · have hown : Own H el 1 (.slice none 0 0) 0 [] := ⟨rfl, .inl ⟨rfl, rfl⟩⟩
    obtain ⟨v', H', q1, q2, q3, q4, q5, q6⟩ := hown.append2 (bytes := 8) hx (List.length_pos_iff.2 hl) (ones_ints l) (by omega)
    refine ⟨v', H', q1, ⟨q5, fun i hi => q6 i hi trivial⟩, by simpa using q2, q3, appendA_anc q1 trivial trivial⟩
/-! ### Tokens -/
structure Tok where
  at_ : Int
  len : Int
  out : List Int
  err : Int
deriving DecidableEq
def tokQ (P : Program) (H : AHeap) (cs : List Value) (t : Tok) : Prop := ∃ a c, cs = [.int .i64 t.at_, .int .i64 t.len, .slice a t.out.length c, .int .i64 t.err] ∧ Ints H (.slice a t.out.length c) t.out ∧ tiny t.out ∧ Cut P H (.slice a t.out.length c) 1
theorem tokQ_mono {P : Program} : MonoK (tokQ P) := fun H H' cs t hk ⟨a, c, h1, h2, h3, h4⟩ => ⟨a, c, h1, h2.keeps hk.keeps, h3, h4.ver hk.ver⟩
/-- Whole numbers stay where blocks of another kind are written. -/
theorem Ints.elem {P : Program} {H H' : AHeap} {v : Value} {l : List Int} {el : TypeId} {s : Nat} (h : Ints H v l) (hc : Cut P H v 1) (hel : (P.info? el).map (·.size) = some s) (hs : s ≠ 1) (hk : ∀ j blk, H.get j = some blk → blk.elem ≠ el → H'.get j = some blk) : Ints H' v l ∧ Cut P H' v 1 := by
  have ne : ∀ {b : ABlk}, (P.info? b.elem).map (·.size) = some 1 → b.elem ≠ el := fun hb e => by
    rw [e, hel] at hb
    injection hb with hb
    exact hs hb
  obtain ⟨⟨a, c, rfl⟩, h2⟩ := h
  unfold cellsOf at h2
  split at h2
  · rename_i hv
    exact ⟨⟨⟨_, _, rfl⟩, by rw [hv]; unfold cellsOf; exact h2⟩, by rw [hv]; trivial⟩
  · rename_i i o n' c' hv
    injection hv with e1 e2 e3
    subst e1 e2 e3
    obtain ⟨b, hb1, hb2⟩ := hc
    have hb' := hk _ _ hb1 (ne hb2)
    refine ⟨⟨⟨_, _, rfl⟩, ?_⟩, ⟨b, hb', hb2⟩⟩
    unfold cellsOf
    simp only [hb'] 
    rw [hb1] at h2
    exact h2
  · rename_i hv
    exact ⟨⟨⟨_, _, rfl⟩, by rw [hv]; unfold cellsOf; exact h2⟩, by rw [hv]; trivial⟩
  · cases h2
theorem tokQ_elem {P : Program} {H H' : AHeap} {cs : List Value} {t : Tok} {el : TypeId} {s : Nat} (hel : (P.info? el).map (·.size) = some s) (hs : s ≠ 1) (hk : ∀ j blk, H.get j = some blk → blk.elem ≠ el → H'.get j = some blk) (h : tokQ P H cs t) : tokQ P H' cs t := by
  obtain ⟨a, c, h1, h2, h3, h4⟩ := h
  obtain ⟨g1, g2⟩ := h2.elem h4 hel hs hk
  exact ⟨a, c, h1, g1, h3, g2⟩
abbrev Toks (P : Program) := Rws 4 (tokQ P)
abbrev OwnToks (P : Program) := OwnRws 4 (tokQ P)
theorem Rws.ones {P : Program} {H : AHeap} {v : Value} {L : List Tok} (h : Toks P H v L) : ∀ cs, Sl H 4 v L.length cs → cs.all one = true := by
  intro cs hcs
  obtain ⟨h0, cs', h1, h2⟩ := h
  have : cs' = cs := Option.some.inj (h1.2.symm.trans hcs.2)
  subst this
  rw [List.all_eq_true]
  intro x hx
  obtain ⟨j, hj, rfl⟩ := List.getElem_of_mem hx
  have hl := h1.length
  have hk : j / 4 < L.length := by omega
  obtain ⟨a, c, e, _⟩ := h2 (j / 4) _ (List.getElem?_eq_getElem hk)
  have hrow : (rowC cs' 4 (j / 4))[j % 4]? = some cs'[j] := by
    unfold rowC
    rw [List.getElem?_take, if_pos (Nat.mod_lt _ (by decide)), List.getElem?_drop, show j / 4 * 4 + j % 4 = j by omega, List.getElem?_eq_getElem hj]
  rw [e] at hrow
  have := List.mem_of_getElem? hrow
  simp at this
  rcases this with h | h | h | h <;> rw [h] <;> rfl
end Lon
