/- What is proved here: what the program's functions come to, as far as the claimed statement asks. Conditions: those that each theorem names, and no others. -/
import Derived.Test.YtjigddebmbhbjaaY12
import Derived.Test.YtjigddebmbhbjaaLonZe
/-! Layer 9: the letters' rows. -/
set_option linter.unusedSimpArgs false
set_option linter.unusedVariables false
namespace Go.Proofs.Ytjigddebmbhbjaa
open Go Lon
set_option maxRecDepth 100000
abbrev Lr := Int × Int × List Int
def R09 : List Lr := [(97, 0, [97, 224, 225, 7843, 227, 7841]), (97, 1, [259, 7857, 7855, 7859, 7861, 7863]), (97, 2, [226, 7847, 7845, 7849, 7851, 7853]), (101, 0, [101, 232, 233, 7867, 7869, 7865]), (101, 2, [234, 7873, 7871, 7875, 7877, 7879]), (105, 0, [105, 236, 237, 7881, 297, 7883]), (111, 0, [111, 242, 243, 7887, 245, 7885]), (111, 2, [244, 7891, 7889, 7893, 7895, 7897]), (111, 3, [417, 7901, 7899, 7903, 7905, 7907]), (117, 0, [117, 249, 250, 7911, 361, 7909]), (117, 3, [432, 7915, 7913, 7917, 7919, 7921]), (121, 0, [121, 7923, 253, 7927, 7929, 7925]), (100, 0, [100]), (100, 4, [273])]
def cell3 (n0 : Nat) (p : Lr × Nat) : List Value := [.int .i64 p.1.1, .int .i64 p.1.2.1, .slice (some ⟨n0 + p.2, 0, none⟩) p.1.2.2.length (p.1.2.2.length + 1)]
def blk09 (n0 : Nat) : List ABlk := (R09.map fun r => ⟨ints r.2.2, 3, .tip, 0, []⟩) ++ [⟨R09.zipIdx.flatMap (cell3 n0), 54, .tip, 0, []⟩]
theorem c_Rows09 (H : AHeap) : cw Try.prog (tabF tab) om1 21 [] H = some (.slice (some ⟨H.n + 14, 0, none⟩) 14 15, pushAll H (blk09 H.n)) := cw_of 3 (by kernel_rfl)
/-- The letters' rows in the heap. -/
def LRows (H : AHeap) (v : Value) : Prop := ∃ cs, Sl H 3 v 14 cs ∧ ∀ k r, R09[k]? = some r → ∃ va, (cs.drop (k * 3)).take 3 = [.int .i64 r.1, .int .i64 r.2.1, va] ∧ Ints H va r.2.2
theorem g_Rows09 (H : AHeap) : Gives (cw Try.prog (tabF tab) om1 21 [] H) fun v H' => Ext H H' ∧ LRows H' v := by
  rw [c_Rows09, w_gives]
  refine ⟨pushAll_ext _ _, R09.zipIdx.flatMap (cell3 H.n), ?_, fun k r hr => ?_⟩
  · have hg := pushAll_get (blk09 H.n) H 14 ⟨R09.zipIdx.flatMap (cell3 H.n), 54, .tip, 0, []⟩ rfl
    exact Sl.new hg mem_tip rfl
  · have hz : R09.zipIdx[k]? = some (r, k) := by rw [List.getElem?_zipIdx, hr]; simp
    have hrow := (row_at (f := cell3 H.n) (s := 3) (fun _ => rfl) hz).1
    refine ⟨_, hrow, ?_⟩
    have hk : k < R09.length := (List.getElem?_eq_some_iff.1 hr).1
    have hg := pushAll_get (blk09 H.n) H k ⟨ints r.2.2, 3, .tip, 0, []⟩ (by unfold blk09; rw [List.getElem?_append_left (by rw [List.length_map]; exact hk), List.getElem?_map, hr]; rfl)
    exact Sl.new hg mem_tip (by simp [ints])
end Go.Proofs.Ytjigddebmbhbjaa
