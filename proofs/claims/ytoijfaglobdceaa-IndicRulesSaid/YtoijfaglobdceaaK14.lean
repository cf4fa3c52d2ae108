/- What is proved here: what the program's functions come to, as far as the claimed statement asks. Conditions: those that each theorem names, and no others. -/
import Derived.Test.YtoijfaglobdceaaAw
import Derived.Test.YtoijfaglobdceaaLonZi
/-! Layer 14: the rules, run by the kernel. -/
set_option linter.unusedSimpArgs false
set_option linter.unusedVariables false
namespace Go.Proofs.Ytoijfaglobdceaa
open Go Lon
set_option maxRecDepth 100000
def N14 : List (Int × Int) := [(0xa1, 0x50), (0xa6, 0x0c), (0xa7, 0x61), (0xaa, 0x60), (0xb3, 0x58), (0xb4, 0x59), (0xb5, 0x5a), (0xba, 0x5b), (0xbf, 0x5c), (0xc0, 0x5d), (0xc9, 0x5e), (0xdb, 0x62), (0xdc, 0x63), (0xdf, 0x44)]
def K14 : List Int := [0x42, 0x43, 0x4b, 0x4a, 0x47, 0x44, 0x45, 0x48, 0x49]
/-- The rules of layer 14. -/
def R14 : List Rl := ((List.range 128).map fun (c : Nat) => ([(c : Int)], [(0x2000 : Int) + c])) ++ ((List.range 95).flatMap fun (c : Nat) => let p := plT.getD (161 + c) (0, false); cond p.2 [([((161 + c : Nat) : Int)], [p.1])] []) ++
  (N14.map fun p => ([p.1, 0xe9], [p.2])) ++ ((List.range 9).map fun (k : Nat) => ([0xef, K14.getD k 0], [(0x1000 : Int) + k])) ++
  [([0xd9], [0x400d]), ([0xea], [0x2964]), ([0xea, 0xe9], [0x3d]), ([0xe8, 0xe8], [0x4d, 0x400c]), ([0xe8, 0xe9], [0x4d, 0x400d]), ([0xf0, 0xb8], [0x52]), ([0xf0, 0xbf], [0x70])]
/-- What the rules' slice lies on. -/
noncomputable def cutB (H : AHeap) (v : Value) (el : Nat) : Bool := match v with
  | .slice (some ⟨i, _, none⟩) _ _ => (match H.get i with | some b => Nat.beq b.elem el | none => false)
  | _ => false
theorem cutB_spec {H : AHeap} {v : Value} {el : TypeId} {sz : Nat} (h : cutB H v el = true) (hs : (Try.prog.info? el).map (·.size) = some sz) : Cut Try.prog H v sz := by
  unfold cutB at h
  split at h
  · rename_i i o n c
    split at h
    · rename_i b hb
      exact ⟨b, hb, by rw [Nat.eq_of_beq_eq_true h]; exact hs⟩
    · cases h
  · cases h
/-- The heap in which the nukta's statement asks for the rules. -/
noncomputable def HN (r0 r1 : Int) : AHeap := ((AHeap.empty.push ⟨N14.flatMap fun p => [.int .i64 p.1, .int .i64 p.2], 39, .tip, 0, []⟩).push ⟨[.int .i64 r0, .int .i64 r1], 39, .tip, 1, []⟩).push ⟨[.int .i64 r0, .int .i64 233], 3, .tip, 0, []⟩
theorem k_Nukta (r0 r1 : Int) : (callB Try.prog (tabB tab) om1 2000 20 [] (HN r0 r1)).map (fun x => (rulesB x.2 x.1 R14, x.2.get 1, x.2.get 2)) = some (true, some ⟨[.int .i64 r0, .int .i64 r1], 39, .tip, 1, []⟩, some ⟨[.int .i64 r0, .int .i64 233], 3, .tip, 0, []⟩) := by kernel_rfl
theorem k_Empty : (callB Try.prog (tabB tab) om1 2000 20 [] AHeap.empty).map (fun x => rulesB x.2 x.1 R14 && cutB x.2 x.1 50) = some true := by kernel_rfl
end Go.Proofs.Ytoijfaglobdceaa
