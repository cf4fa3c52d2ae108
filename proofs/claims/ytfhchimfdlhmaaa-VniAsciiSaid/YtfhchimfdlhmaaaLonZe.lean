/- What is proved here: a part of a statement's proof. Conditions: those that each theorem names, and no others. -/
import Derived.Test.YtfhchimfdlhmaaaLonZd
/-! Several blocks laid one behind the other. -/
set_option linter.unusedSimpArgs false
set_option linter.unusedVariables false
namespace Lon
open Go

noncomputable def pushAll (H : AHeap) (bs : List ABlk) : AHeap := bs.foldl AHeap.push H
theorem pushAll_cons (H : AHeap) (b : ABlk) (bs : List ABlk) : pushAll H (b :: bs) = pushAll (H.push b) bs := rfl
theorem pushAll_n : ∀ (bs : List ABlk) (H : AHeap), (pushAll H bs).n = H.n + bs.length
  | [], H => rfl
  | b :: bs, H => by rw [pushAll_cons, pushAll_n bs, AHeap.n_push, List.length_cons]; omega
theorem pushAll_ext : ∀ (bs : List ABlk) (H : AHeap), Ext H (pushAll H bs)
  | [], H => Ext.refl H
  | b :: bs, H => (Ext.push H b).trans (pushAll_ext bs _)
theorem pushAll_get : ∀ (bs : List ABlk) (H : AHeap) (k : Nat) (b : ABlk), bs[k]? = some b → (pushAll H bs).get (H.n + k) = some b
  | [], H, k, b, h => by simp at h
  | c :: bs, H, 0, b, h => by
    simp at h
    subst h
    exact (pushAll_ext bs _).get get_push_self
  | c :: bs, H, k + 1, b, h => by
    have := pushAll_get bs (H.push c) k b (by simpa using h)
    rw [AHeap.n_push] at this
    rw [pushAll_cons, ← this]
    congr 1
    omega
end Lon
