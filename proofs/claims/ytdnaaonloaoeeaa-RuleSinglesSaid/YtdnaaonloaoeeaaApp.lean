/- What is proved here: what the program's functions come to, as far as the claimed statement asks. Conditions: those that each theorem names, and no others. -/
import Derived.Test.YtdnaaonloaoeeaaSame
/-! One rule more. -/
set_option linter.unusedSimpArgs false
set_option linter.unusedVariables false
namespace Go.Proofs.Ytdnaaonloaoeeaa
open Go Lon
theorem tiny1 (x : Int) : tiny [x] := by unfold tiny; simp
theorem app_single {H : AHeap} {out : Value} {L : List Rl} {a b : Int} (ho : OwnRules H 28 out L) (hb : (L.length + 1) * 48 ≤ 140737488355328) {B : Nat} (hB : B ≤ H.n) (hf : From B out) :
    ∃ v' H5, appendA (((H.push ⟨[.int .i64 a], 3, .tip, 0, []⟩).push ⟨[.int .i64 b], 3, .tip, 0, []⟩).push ⟨[.slice (some ⟨H.n, 0, none⟩) 1 2, .slice (some ⟨H.n + 1, 0, none⟩) 1 2], 28, .tip, 0, []⟩) out (.slice (some ⟨H.n + 1 + 1, 0, none⟩) 1 2) 28 2 48 = some (v', H5) ∧
      OwnRules H5 28 v' (L ++ [([a], [b])]) ∧ From B v' ∧ Keeps H H5 ∧ B ≤ H5.n ∧ (∀ j, j < B → H5.get j = H.get j) := by
  have hx1 : Ext H (((H.push ⟨[.int .i64 a], 3, .tip, 0, []⟩).push ⟨[.int .i64 b], 3, .tip, 0, []⟩).push ⟨[.slice (some ⟨H.n, 0, none⟩) 1 2, .slice (some ⟨H.n + 1, 0, none⟩) 1 2], 28, .tip, 0, []⟩) := ((Ext.push _ _).trans (Ext.push _ _)).trans (Ext.push _ _)
  obtain ⟨v', H5, q1, q2, q3, q4, q5, q6⟩ := OwnRules.append (H := ((H.push ⟨[.int .i64 a], 3, .tip, 0, []⟩).push ⟨[.int .i64 b], 3, .tip, 0, []⟩).push ⟨[.slice (some ⟨H.n, 0, none⟩) 1 2, .slice (some ⟨H.n + 1, 0, none⟩) 1 2], 28, .tip, 0, []⟩)
      (el := 28) (bytes := 48) (v := out) (x := .slice (some ⟨H.n + 1 + 1, 0, none⟩) 1 2) (vi := .slice (some ⟨H.n, 0, none⟩) 1 2) (vo := .slice (some ⟨H.n + 1, 0, none⟩) 1 2) (r := ([a], [b])) (B := B)
      (ho.ext hx1) (Sl.new (el := 28) (st := .tip) (ver := 0) (anc := []) (by have := get_push_self (H := (H.push ⟨[.int .i64 a], 3, .tip, 0, []⟩).push ⟨[.int .i64 b], 3, .tip, 0, []⟩) (b := ⟨[.slice (some ⟨H.n, 0, none⟩) 1 2, .slice (some ⟨H.n + 1, 0, none⟩) 1 2], 28, .tip, 0, []⟩); simpa using this) mem_tip rfl)
      (Sl.new (el := 3) (st := .tip) (ver := 0) (anc := []) (by have := get_push3 (H := H) (a := ⟨[.int .i64 a], 3, .tip, 0, []⟩) (b := ⟨[.int .i64 b], 3, .tip, 0, []⟩) (c := ⟨[.slice (some ⟨H.n, 0, none⟩) 1 2, .slice (some ⟨H.n + 1, 0, none⟩) 1 2], 28, .tip, 0, []⟩); simpa [ints] using this) mem_tip rfl)
      (Sl.new (el := 3) (st := .tip) (ver := 0) (anc := []) (by have := get_push2 (H := H.push ⟨[.int .i64 a], 3, .tip, 0, []⟩) (a := ⟨[.int .i64 b], 3, .tip, 0, []⟩) (b := ⟨[.slice (some ⟨H.n, 0, none⟩) 1 2, .slice (some ⟨H.n + 1, 0, none⟩) 1 2], 28, .tip, 0, []⟩); simpa [ints] using this) mem_tip rfl)
      (tiny1 _) (tiny1 _) hb (by simp; omega) hf
  exact ⟨v', H5, q1, q2, q3, hx1.keeps.trans q4, by simp at q5; omega, fun j hj => by rw [q6 j hj, hx1.2 j (by omega)]⟩
end Go.Proofs.Ytdnaaonloaoeeaa
