/- What is proved here: what the program's functions come to, as far as the claimed statement asks. Conditions: those that each theorem names, and no others. -/
import Derived.Test.YtdnaaonloaoeeaaLonW
import Derived.Test.YtdnaaonloaoeeaaRows
/-! The functions in the interpreter's form. Written by program. -/
set_option linter.unusedSimpArgs false
namespace Go.Proofs.Ytdnaaonloaoeeaa
open Go Lon

-- lontar/lontarlaw03.RuleCheck
@[reducible] def i_lontarlaw03_RuleCheck : Nat := 3
/-- lontarlaw03_RuleCheck: the body of loop 0 -/
def b_lontarlaw03_RuleCheck_0 : ACode :=
 (.seq (.ops [⟨(some 43), .int .lss (.tmp 42) (.tmp 41), none⟩])
 (.seq (.cond (.tmp 43)
  .skip
  (.exit 0))
 (.seq (.block 1 (.seq (.ops [⟨(some 44), .mv (.tmp 42), none⟩,
   ⟨(some 45), .iaddr (.tmp 40) (.tmp 42) 2, none⟩,
   ⟨(some 46), .load (.tmp 45) (some 2), none⟩,
   ⟨(some 9), .alloc [(.slice none 0 0), (.slice none 0 0)] 28, none⟩,
   ⟨(some 8), .mv (.tmp 44), none⟩,
   ⟨none, .store (.tmp 9) (.tmp 46) 2, none⟩])
 (.seq (.ops [⟨(some 10), .mv (.const (.int .i64 0)), none⟩])
 (.seq (.seq (.ops [⟨(some 47), .faddr (.tmp 9) 0, none⟩,
   ⟨(some 48), .load (.tmp 47) none, none⟩,
   ⟨(some 49), .call (.func 13) [(.tmp 48)], none⟩,
   ⟨(some 50), .not (.tmp 49), none⟩,
   ⟨(some 51), .mv (.tmp 50), none⟩,
   ⟨(some 52), .faddr (.tmp 9) 1, some (51, false)⟩,
   ⟨(some 53), .load (.tmp 52) none, some (51, false)⟩,
   ⟨(some 54), .call (.func 13) [(.tmp 53)], some (51, false)⟩,
   ⟨(some 55), .not (.tmp 54), some (51, false)⟩,
   ⟨(some 56), .pick (.tmp 51) (.const (.bool true)) (.tmp 55), none⟩])
 (.cond (.tmp 56)
  (.ops [⟨(some 10), .mv (.const (.int .i64 9)), none⟩])
  (.seq (.draw [⟨(some 57), .mv (.tmp 5), none⟩,
    ⟨(some 58), .mv (.tmp 8), none⟩,
    ⟨(some 59), .slice (.tmp 57) none (some (.tmp 58)) 2, none⟩,
    ⟨(some 60), .faddr (.tmp 9) 0, none⟩,
    ⟨(some 61), .load (.tmp 60) none, none⟩,
    ⟨(some 62), .call (.func 14) [(.tmp 59), (.tmp 61)], none⟩,
    ⟨(some 63), .int .geq (.tmp 62) (.const (.int .i64 0)), none⟩])
  (.cond (.tmp 63)
   (.ops [⟨(some 10), .mv (.const (.int .i64 8)), none⟩])
   .skip))))
 (.seq (.ops [⟨(some 64), .mv (.tmp 10), none⟩,
   ⟨(some 65), .int .neq (.tmp 64) (.const (.int .i64 0)), none⟩])
 (.cond (.tmp 65)
  (.seq (.ops [⟨(some 66), .mv (.tmp 6), none⟩,
    ⟨(some 67), .mv (.tmp 8), none⟩,
    ⟨(some 68), .int .eql (.tmp 66) (.tmp 67), none⟩,
    ⟨(some 69), .mv (.tmp 68), none⟩,
    ⟨(some 70), .mv (.tmp 7), some (69, true)⟩,
    ⟨(some 71), .mv (.tmp 10), some (69, true)⟩,
    ⟨(some 72), .int .eql (.tmp 70) (.tmp 71), some (69, true)⟩,
    ⟨(some 73), .pick (.tmp 69) (.tmp 72) (.const (.bool false)), none⟩,
    ⟨(some 4), .mv (.tmp 73), none⟩])
  .ret)
  .skip))))))
 (.ops [⟨(some 74), .int .add (.tmp 42) (.const (.int .i64 1)), none⟩,
   ⟨(some 42), .mv (.tmp 74), none⟩]))))

def k_lontarlaw03_RuleCheck : ACode :=
 (.seq (.ops [⟨(some 4), .mv (.const (.bool false)), none⟩])
 (.seq (.seq (.ops [⟨(some 11), .call (.func 10) [], none⟩,
   ⟨(some 12), .not (.tmp 11), none⟩])
 (.cond (.tmp 12)
  (.seq (.ops [⟨(some 4), .mv (.const (.bool false)), none⟩])
  .ret)
  .skip))
 (.seq (.ops [⟨(some 13), .mv (.tmp 0), none⟩,
   ⟨(some 14), .call (.func 11) [(.tmp 13)], none⟩,
   ⟨(some 5), .mv (.tmp 14), none⟩])
 (.seq (.seq (.ops [⟨(some 15), .mv (.tmp 1), none⟩,
   ⟨(some 16), .int .rem (.tmp 15) (.const (.int .u8 4)), none⟩,
   ⟨(some 17), .int .eql (.tmp 16) (.const (.int .u8 0)), none⟩,
   ⟨(some 18), .mv (.tmp 17), none⟩,
   ⟨(some 19), .mv (.tmp 5), some (18, true)⟩,
   ⟨(some 20), .len false (.tmp 19), some (18, true)⟩,
   ⟨(some 21), .int .gtr (.tmp 20) (.const (.int .i64 0)), some (18, true)⟩,
   ⟨(some 22), .pick (.tmp 18) (.tmp 21) (.const (.bool false)), none⟩])
 (.cond (.tmp 22)
  (.ops [⟨(some 23), .mv (.tmp 5), none⟩,
    ⟨(some 24), .mv (.tmp 5), none⟩,
    ⟨(some 25), .mv (.tmp 1), none⟩,
    ⟨(some 26), .int .quo (.tmp 25) (.const (.int .u8 4)), none⟩,
    ⟨(some 27), .conv .i64 (.tmp 26), none⟩,
    ⟨(some 28), .mv (.tmp 5), none⟩,
    ⟨(some 29), .len false (.tmp 28), none⟩,
    ⟨(some 30), .int .rem (.tmp 27) (.tmp 29), none⟩,
    ⟨(some 31), .iaddr (.tmp 24) (.tmp 30) 2, none⟩,
    ⟨(some 32), .load (.tmp 31) (some 2), none⟩,
    ⟨(some 33), .bslice 28 1 2 [(.slice none 0 0), (.slice none 0 0)] [(0, 2, (.tmp 32))], none⟩,
    ⟨(some 34), .append (.tmp 23) (.tmp 33) 28 2 48, none⟩,
    ⟨(some 5), .mv (.tmp 34), none⟩])
  .skip))
 (.seq (.ops [⟨(some 36), .mv (.tmp 5), none⟩,
   ⟨(some 37), .call (.func 12) [(.tmp 36)], none⟩,
   ⟨(some 35), .mv (.tmp 37), none⟩,
   ⟨(some 38), .ext (.tmp 35) 0, none⟩,
   ⟨(some 39), .ext (.tmp 35) 1, none⟩,
   ⟨(some 6), .mv (.tmp 38), none⟩,
   ⟨(some 7), .mv (.tmp 39), none⟩])
 (.seq (.seq (.ops [⟨(some 40), .mv (.tmp 5), none⟩,
   ⟨(some 41), .len false (.tmp 40), none⟩,
   ⟨(some 42), .mv (.const (.int .i64 0)), none⟩])
 (.block 0 (.loop [5, 6, 7, 40, 41, 42] b_lontarlaw03_RuleCheck_0)))
 (.seq (.ops [⟨(some 75), .mv (.tmp 6), none⟩,
   ⟨(some 76), .int .eql (.tmp 75) (.const (.int .i64 (-1))), none⟩,
   ⟨(some 77), .mv (.tmp 76), none⟩,
   ⟨(some 78), .mv (.tmp 7), some (77, true)⟩,
   ⟨(some 79), .int .eql (.tmp 78) (.const (.int .i64 0)), some (77, true)⟩,
   ⟨(some 80), .pick (.tmp 77) (.tmp 79) (.const (.bool false)), none⟩,
   ⟨(some 4), .mv (.tmp 80), none⟩])
 .ret)))))))
def F_lontarlaw03_RuleCheck : AFunc := ⟨2, 81, [.tmp 4], k_lontarlaw03_RuleCheck⟩
theorem ok_lontarlaw03_RuleCheck : FOK Try.prog 3 F_lontarlaw03_RuleCheck := FOK.of [[5, 6, 7, 40, 41, 42], [0, 1, 2, 3, 4, 5, 6]] Try.func3 (by kernel_rfl) (by kernel_rfl)

-- lontar/lontarlaw03.RuleMany
@[reducible] def i_lontarlaw03_RuleMany : Nat := 4
/-- lontarlaw03_RuleMany: the body of loop 0 -/
def b_lontarlaw03_RuleMany_0 : ACode :=
 (.seq (.seq (.ops [⟨(some 9), .mv (.tmp 4), none⟩,
   ⟨(some 10), .mv (.tmp 0), none⟩,
   ⟨(some 11), .int .rem (.tmp 10) (.const (.int .u16 600)), none⟩,
   ⟨(some 12), .conv .i64 (.tmp 11), none⟩,
   ⟨(some 13), .int .lss (.tmp 9) (.tmp 12), none⟩])
 (.cond (.tmp 13)
  .skip
  (.exit 0)))
 (.seq (.block 1 (.ops [⟨(some 16), .mv (.tmp 3), none⟩,
   ⟨(some 17), .mv (.tmp 4), none⟩,
   ⟨(some 18), .bslice 3 1 1 [(.int .i64 0)] [(0, 1, (.tmp 17))], none⟩,
   ⟨(some 19), .bslice 3 1 1 [(.int .i64 0)] [(0, 1, (.const (.int .i64 1)))], none⟩,
   ⟨(some 20), .build [(.slice none 0 0), (.slice none 0 0)] [(0, 1, (.tmp 18)), (1, 1, (.tmp 19))], none⟩,
   ⟨(some 21), .bslice 28 1 2 [(.slice none 0 0), (.slice none 0 0)] [(0, 2, (.tmp 20))], none⟩,
   ⟨(some 22), .append (.tmp 16) (.tmp 21) 28 2 48, none⟩,
   ⟨(some 3), .mv (.tmp 22), none⟩]))
 (.ops [⟨(some 14), .mv (.tmp 4), none⟩,
   ⟨(some 15), .int .add (.tmp 14) (.const (.int .i64 1)), none⟩,
   ⟨(some 4), .mv (.tmp 15), none⟩])))

def k_lontarlaw03_RuleMany : ACode :=
 (.seq (.ops [⟨(some 2), .mv (.const (.bool false)), none⟩])
 (.seq (.seq (.ops [⟨(some 7), .call (.func 10) [], none⟩,
   ⟨(some 8), .not (.tmp 7), none⟩])
 (.cond (.tmp 8)
  (.seq (.ops [⟨(some 2), .mv (.const (.bool false)), none⟩])
  .ret)
  .skip))
 (.seq (.ops [⟨(some 3), .mv (.const (.slice none 0 0)), none⟩])
 (.seq (.seq (.ops [⟨(some 4), .mv (.const (.int .i64 0)), none⟩])
 (.block 0 (.loop [0, 3, 4] b_lontarlaw03_RuleMany_0)))
 (.seq (.ops [⟨(some 24), .mv (.tmp 3), none⟩,
   ⟨(some 25), .call (.func 12) [(.tmp 24)], none⟩,
   ⟨(some 23), .mv (.tmp 25), none⟩,
   ⟨(some 26), .ext (.tmp 23) 0, none⟩,
   ⟨(some 27), .ext (.tmp 23) 1, none⟩,
   ⟨(some 5), .mv (.tmp 26), none⟩,
   ⟨(some 6), .mv (.tmp 27), none⟩])
 (.seq (.seq (.ops [⟨(some 28), .mv (.tmp 3), none⟩,
   ⟨(some 29), .len false (.tmp 28), none⟩,
   ⟨(some 30), .int .gtr (.tmp 29) (.const (.int .i64 512)), none⟩])
 (.cond (.tmp 30)
  (.seq (.ops [⟨(some 31), .mv (.tmp 5), none⟩,
    ⟨(some 32), .int .eql (.tmp 31) (.const (.int .i64 512)), none⟩,
    ⟨(some 33), .mv (.tmp 32), none⟩,
    ⟨(some 34), .mv (.tmp 6), some (33, true)⟩,
    ⟨(some 35), .int .eql (.tmp 34) (.const (.int .i64 7)), some (33, true)⟩,
    ⟨(some 36), .pick (.tmp 33) (.tmp 35) (.const (.bool false)), none⟩,
    ⟨(some 2), .mv (.tmp 36), none⟩])
  .ret)
  .skip))
 (.seq (.ops [⟨(some 37), .mv (.tmp 5), none⟩,
   ⟨(some 38), .int .eql (.tmp 37) (.const (.int .i64 (-1))), none⟩,
   ⟨(some 39), .mv (.tmp 38), none⟩,
   ⟨(some 40), .mv (.tmp 6), some (39, true)⟩,
   ⟨(some 41), .int .eql (.tmp 40) (.const (.int .i64 0)), some (39, true)⟩,
   ⟨(some 42), .pick (.tmp 39) (.tmp 41) (.const (.bool false)), none⟩,
   ⟨(some 43), .mv (.tmp 42), none⟩,
   ⟨(some 44), .mv (.tmp 3), some (43, true)⟩,
   ⟨(some 45), .call (.func 15) [(.tmp 44)], some (43, true)⟩,
   ⟨(some 46), .mv (.tmp 3), some (43, true)⟩,
   ⟨(some 47), .len false (.tmp 46), some (43, true)⟩,
   ⟨(some 48), .min2 (.const (.int .i64 1)) (.tmp 47), some (43, true)⟩,
   ⟨(some 49), .int .eql (.tmp 45) (.tmp 48), some (43, true)⟩,
   ⟨(some 50), .pick (.tmp 43) (.tmp 49) (.const (.bool false)), none⟩,
   ⟨(some 2), .mv (.tmp 50), none⟩])
 .ret)))))))
def F_lontarlaw03_RuleMany : AFunc := ⟨1, 51, [.tmp 2], k_lontarlaw03_RuleMany⟩
theorem ok_lontarlaw03_RuleMany : FOK Try.prog 4 F_lontarlaw03_RuleMany := FOK.of [[0, 3, 4]] Try.func4 (by kernel_rfl) (by kernel_rfl)

-- lontar/lontarlaw03.RuleFind
@[reducible] def i_lontarlaw03_RuleFind : Nat := 5
def k_lontarlaw03_RuleFind : ACode :=
 (.seq (.ops [⟨(some 6), .mv (.const (.bool false)), none⟩])
 (.seq (.seq (.ops [⟨(some 9), .call (.func 10) [], none⟩,
   ⟨(some 10), .not (.tmp 9), none⟩])
 (.cond (.tmp 10)
  (.seq (.ops [⟨(some 6), .mv (.const (.bool false)), none⟩])
  .ret)
  .skip))
 (.seq (.ops [⟨(some 11), .mv (.tmp 0), none⟩,
   ⟨(some 12), .call (.func 11) [(.tmp 11)], none⟩,
   ⟨(some 7), .mv (.tmp 12), none⟩])
 (.seq (.seq (.ops [⟨(some 13), .mv (.tmp 7), none⟩,
   ⟨(some 14), .len false (.tmp 13), none⟩,
   ⟨(some 15), .int .eql (.tmp 14) (.const (.int .i64 0)), none⟩])
 (.cond (.tmp 15)
  (.seq (.ops [⟨(some 16), .mv (.tmp 7), none⟩,
    ⟨(some 17), .mv (.tmp 1), none⟩,
    ⟨(some 18), .call (.func 16) [(.tmp 16), (.tmp 17)], none⟩,
    ⟨(some 19), .int .eql (.tmp 18) (.const (.int .i64 (-1))), none⟩,
    ⟨(some 6), .mv (.tmp 19), none⟩])
  .ret)
  .skip))
 (.seq (.ops [⟨(some 20), .mv (.tmp 7), none⟩,
   ⟨(some 21), .mv (.tmp 2), none⟩,
   ⟨(some 22), .conv .i64 (.tmp 21), none⟩,
   ⟨(some 23), .mv (.tmp 7), none⟩,
   ⟨(some 24), .len false (.tmp 23), none⟩,
   ⟨(some 25), .int .rem (.tmp 22) (.tmp 24), none⟩,
   ⟨(some 26), .iaddr (.tmp 20) (.tmp 25) 2, none⟩,
   ⟨(some 27), .faddr (.tmp 26) 0, none⟩,
   ⟨(some 28), .load (.tmp 27) none, none⟩,
   ⟨(some 8), .mv (.tmp 28), none⟩])
 (.seq (.ops [⟨(some 29), .mv (.tmp 7), none⟩,
   ⟨(some 30), .mv (.tmp 1), none⟩,
   ⟨(some 31), .call (.func 16) [(.tmp 29), (.tmp 30)], none⟩,
   ⟨(some 32), .mv (.tmp 7), none⟩,
   ⟨(some 33), .mv (.tmp 1), none⟩,
   ⟨(some 34), .call (.func 14) [(.tmp 32), (.tmp 33)], none⟩,
   ⟨(some 35), .int .eql (.tmp 31) (.tmp 34), none⟩,
   ⟨(some 36), .mv (.tmp 35), none⟩,
   ⟨(some 37), .mv (.tmp 7), some (36, true)⟩,
   ⟨(some 38), .mv (.tmp 8), some (36, true)⟩,
   ⟨(some 39), .call (.func 16) [(.tmp 37), (.tmp 38)], some (36, true)⟩,
   ⟨(some 40), .mv (.tmp 7), some (36, true)⟩,
   ⟨(some 41), .mv (.tmp 8), some (36, true)⟩,
   ⟨(some 42), .call (.func 14) [(.tmp 40), (.tmp 41)], some (36, true)⟩,
   ⟨(some 43), .int .eql (.tmp 39) (.tmp 42), some (36, true)⟩,
   ⟨(some 44), .pick (.tmp 36) (.tmp 43) (.const (.bool false)), none⟩,
   ⟨(some 6), .mv (.tmp 44), none⟩])
 .ret))))))
def F_lontarlaw03_RuleFind : AFunc := ⟨3, 45, [.tmp 6], k_lontarlaw03_RuleFind⟩
theorem ok_lontarlaw03_RuleFind : FOK Try.prog 5 F_lontarlaw03_RuleFind := FOK.of [] Try.func5 (by kernel_rfl) (by kernel_rfl)

-- lontar/lontarlaw03.RuleTurn
@[reducible] def i_lontarlaw03_RuleTurn : Nat := 6
/-- lontarlaw03_RuleTurn: the body of loop 0 -/
def b_lontarlaw03_RuleTurn_0 : ACode :=
 (.seq (.ops [⟨(some 19), .int .lss (.tmp 18) (.tmp 17), none⟩])
 (.seq (.cond (.tmp 19)
  .skip
  (.exit 0))
 (.seq (.block 1 (.seq (.ops [⟨(some 20), .iaddr (.tmp 16) (.tmp 18) 2, none⟩,
   ⟨(some 21), .load (.tmp 20) (some 2), none⟩,
   ⟨(some 6), .alloc [(.slice none 0 0), (.slice none 0 0)] 28, none⟩,
   ⟨none, .store (.tmp 6) (.tmp 21) 2, none⟩])
 (.seq (.ops [⟨(some 22), .mv (.tmp 4), none⟩,
   ⟨(some 23), .faddr (.tmp 6) 1, none⟩,
   ⟨(some 24), .load (.tmp 23) none, none⟩,
   ⟨(some 25), .call (.func 14) [(.tmp 22), (.tmp 24)], none⟩,
   ⟨(some 26), .int .lss (.tmp 25) (.const (.int .i64 0)), none⟩])
 (.cond (.tmp 26)
  (.ops [⟨(some 27), .mv (.tmp 4), none⟩,
    ⟨(some 28), .faddr (.tmp 6) 1, none⟩,
    ⟨(some 29), .load (.tmp 28) none, none⟩,
    ⟨(some 30), .faddr (.tmp 6) 0, none⟩,
    ⟨(some 31), .load (.tmp 30) none, none⟩,
    ⟨(some 32), .build [(.slice none 0 0), (.slice none 0 0)] [(0, 1, (.tmp 29)), (1, 1, (.tmp 31))], none⟩,
    ⟨(some 33), .bslice 28 1 2 [(.slice none 0 0), (.slice none 0 0)] [(0, 2, (.tmp 32))], none⟩,
    ⟨(some 34), .append (.tmp 27) (.tmp 33) 28 2 48, none⟩,
    ⟨(some 4), .mv (.tmp 34), none⟩])
  .skip))))
 (.ops [⟨(some 35), .int .add (.tmp 18) (.const (.int .i64 1)), none⟩,
   ⟨(some 18), .mv (.tmp 35), none⟩]))))

/-- lontarlaw03_RuleTurn: the body of loop 1 -/
def b_lontarlaw03_RuleTurn_1 : ACode :=
 (.seq (.ops [⟨(some 47), .int .lss (.tmp 46) (.tmp 45), none⟩])
 (.seq (.cond (.tmp 47)
  .skip
  (.exit 2))
 (.seq (.block 3 (.seq (.ops [⟨(some 48), .iaddr (.tmp 44) (.tmp 46) 2, none⟩,
   ⟨(some 49), .load (.tmp 48) (some 2), none⟩,
   ⟨(some 10), .alloc [(.slice none 0 0), (.slice none 0 0)] 28, none⟩,
   ⟨none, .store (.tmp 10) (.tmp 49) 2, none⟩])
 (.seq (.ops [⟨(some 50), .mv (.tmp 3), none⟩,
   ⟨(some 51), .faddr (.tmp 10) 0, none⟩,
   ⟨(some 52), .load (.tmp 51) none, none⟩,
   ⟨(some 53), .call (.func 14) [(.tmp 50), (.tmp 52)], none⟩,
   ⟨(some 11), .mv (.tmp 53), none⟩])
 (.seq (.ops [⟨(some 54), .mv (.tmp 11), none⟩,
   ⟨(some 55), .int .lss (.tmp 54) (.const (.int .i64 0)), none⟩])
 (.cond (.tmp 55)
  (.seq (.ops [⟨(some 2), .mv (.const (.bool false)), none⟩])
  .ret)
  .skip)))))
 (.ops [⟨(some 56), .int .add (.tmp 46) (.const (.int .i64 1)), none⟩,
   ⟨(some 46), .mv (.tmp 56), none⟩]))))

def k_lontarlaw03_RuleTurn : ACode :=
 (.seq (.ops [⟨(some 2), .mv (.const (.bool false)), none⟩])
 (.seq (.seq (.ops [⟨(some 12), .call (.func 10) [], none⟩,
   ⟨(some 13), .not (.tmp 12), none⟩])
 (.cond (.tmp 13)
  (.seq (.ops [⟨(some 2), .mv (.const (.bool false)), none⟩])
  .ret)
  .skip))
 (.seq (.ops [⟨(some 14), .mv (.tmp 0), none⟩,
   ⟨(some 15), .call (.func 11) [(.tmp 14)], none⟩,
   ⟨(some 3), .mv (.tmp 15), none⟩])
 (.seq (.ops [⟨(some 4), .mv (.const (.slice none 0 0)), none⟩])
 (.seq (.seq (.ops [⟨(some 16), .mv (.tmp 3), none⟩,
   ⟨(some 17), .len false (.tmp 16), none⟩,
   ⟨(some 18), .mv (.const (.int .i64 0)), none⟩])
 (.block 0 (.loop [3, 4, 16, 17, 18] b_lontarlaw03_RuleTurn_0)))
 (.seq (.ops [⟨(some 36), .mv (.tmp 3), none⟩,
   ⟨(some 37), .call (.func 17) [(.tmp 36)], none⟩,
   ⟨(some 7), .mv (.tmp 37), none⟩])
 (.seq (.seq (.ops [⟨(some 38), .mv (.tmp 7), none⟩,
   ⟨(some 39), .mv (.tmp 4), none⟩,
   ⟨(some 40), .call (.func 18) [(.tmp 38), (.tmp 39)], none⟩,
   ⟨(some 41), .not (.tmp 40), none⟩])
 (.cond (.tmp 41)
  (.seq (.ops [⟨(some 2), .mv (.const (.bool false)), none⟩])
  .ret)
  .skip))
 (.seq (.ops [⟨(some 42), .mv (.tmp 7), none⟩,
   ⟨(some 43), .call (.func 17) [(.tmp 42)], none⟩,
   ⟨(some 8), .mv (.tmp 43), none⟩])
 (.seq (.seq (.ops [⟨(some 44), .mv (.tmp 8), none⟩,
   ⟨(some 45), .len false (.tmp 44), none⟩,
   ⟨(some 46), .mv (.const (.int .i64 0)), none⟩])
 (.block 2 (.loop [3, 7, 8, 44, 45, 46] b_lontarlaw03_RuleTurn_1)))
 (.seq (.ops [⟨(some 57), .mv (.tmp 8), none⟩,
   ⟨(some 58), .len false (.tmp 57), none⟩,
   ⟨(some 59), .mv (.tmp 7), none⟩,
   ⟨(some 60), .len false (.tmp 59), none⟩,
   ⟨(some 61), .int .leq (.tmp 58) (.tmp 60), none⟩,
   ⟨(some 2), .mv (.tmp 61), none⟩])
 .ret))))))))))
def F_lontarlaw03_RuleTurn : AFunc := ⟨1, 62, [.tmp 2], k_lontarlaw03_RuleTurn⟩
theorem ok_lontarlaw03_RuleTurn : FOK Try.prog 6 F_lontarlaw03_RuleTurn := FOK.of [[3, 4, 16, 17, 18], [3, 7, 8, 44, 45, 46]] Try.func6 (by kernel_rfl) (by kernel_rfl)

-- lontar/lontarlaw03.RuleSingles
@[reducible] def i_lontarlaw03_RuleSingles : Nat := 7
/-- lontarlaw03_RuleSingles: the body of loop 0 -/
def b_lontarlaw03_RuleSingles_0 : ACode :=
 (.seq (.seq (.ops [⟨(some 16), .mv (.tmp 8), none⟩,
   ⟨(some 17), .mv (.tmp 5), none⟩,
   ⟨(some 18), .int .lss (.tmp 16) (.tmp 17), none⟩])
 (.cond (.tmp 18)
  .skip
  (.exit 0)))
 (.seq (.block 1 (.seq (.draw [⟨(some 21), .mv (.tmp 6), none⟩,
   ⟨(some 22), .mv (.tmp 0), none⟩,
   ⟨(some 23), .mv (.tmp 8), none⟩,
   ⟨(some 24), .iaddr (.tmp 22) (.tmp 23) 1, none⟩,
   ⟨(some 25), .load (.tmp 24) none, none⟩,
   ⟨(some 26), .mv (.tmp 1), none⟩,
   ⟨(some 27), .mv (.tmp 8), none⟩,
   ⟨(some 28), .iaddr (.tmp 26) (.tmp 27) 1, none⟩,
   ⟨(some 29), .load (.tmp 28) none, none⟩,
   ⟨(some 30), .build [(.int .i64 0), (.int .i64 0)] [(0, 1, (.tmp 25)), (1, 1, (.tmp 29))], none⟩,
   ⟨(some 31), .bslice 43 1 2 [(.int .i64 0), (.int .i64 0)] [(0, 2, (.tmp 30))], none⟩,
   ⟨(some 32), .append (.tmp 21) (.tmp 31) 43 2 16, none⟩,
   ⟨(some 6), .mv (.tmp 32), none⟩])
 (.draw [⟨(some 33), .mv (.tmp 7), none⟩,
   ⟨(some 34), .mv (.tmp 0), none⟩,
   ⟨(some 35), .mv (.tmp 8), none⟩,
   ⟨(some 36), .iaddr (.tmp 34) (.tmp 35) 1, none⟩,
   ⟨(some 37), .load (.tmp 36) none, none⟩,
   ⟨(some 39), .mv (.tmp 1), none⟩,
   ⟨(some 40), .mv (.tmp 8), none⟩,
   ⟨(some 41), .iaddr (.tmp 39) (.tmp 40) 1, none⟩,
   ⟨(some 42), .load (.tmp 41) none, none⟩,
   ⟨(some 38), .bslice 3 1 1 [(.int .i64 0)] [(0, 1, (.tmp 37))], none⟩,
   ⟨(some 43), .bslice 3 1 1 [(.int .i64 0)] [(0, 1, (.tmp 42))], none⟩,
   ⟨(some 44), .build [(.slice none 0 0), (.slice none 0 0)] [(0, 1, (.tmp 38)), (1, 1, (.tmp 43))], none⟩,
   ⟨(some 45), .bslice 28 1 2 [(.slice none 0 0), (.slice none 0 0)] [(0, 2, (.tmp 44))], none⟩,
   ⟨(some 46), .append (.tmp 33) (.tmp 45) 28 2 48, none⟩,
   ⟨(some 7), .mv (.tmp 46), none⟩])))
 (.ops [⟨(some 19), .mv (.tmp 8), none⟩,
   ⟨(some 20), .int .add (.tmp 19) (.const (.int .i64 1)), none⟩,
   ⟨(some 8), .mv (.tmp 20), none⟩])))

def k_lontarlaw03_RuleSingles : ACode :=
 (.seq (.ops [⟨(some 4), .mv (.const (.bool false)), none⟩])
 (.seq (.seq (.ops [⟨(some 9), .call (.func 10) [], none⟩,
   ⟨(some 10), .not (.tmp 9), none⟩])
 (.cond (.tmp 10)
  (.seq (.ops [⟨(some 4), .mv (.const (.bool false)), none⟩])
  .ret)
  .skip))
 (.seq (.ops [⟨(some 11), .mv (.tmp 0), none⟩,
   ⟨(some 12), .len false (.tmp 11), none⟩,
   ⟨(some 13), .mv (.tmp 1), none⟩,
   ⟨(some 14), .len false (.tmp 13), none⟩,
   ⟨(some 15), .gen ⟨none, (.call ⟨.builtin .min, #[(.tmp 12), (.tmp 14), (.const (.int .i64 60))], #[3, 3, 3]⟩), 3, "", #[], none⟩, none⟩,
   ⟨(some 5), .mv (.tmp 15), none⟩])
 (.seq (.ops [⟨(some 6), .mv (.const (.slice none 0 0)), none⟩])
 (.seq (.ops [⟨(some 7), .mv (.const (.slice none 0 0)), none⟩])
 (.seq (.seq (.ops [⟨(some 8), .mv (.const (.int .i64 0)), none⟩])
 (.block 0 (.loop [0, 1, 5, 6, 7, 8] b_lontarlaw03_RuleSingles_0)))
 (.seq (.ops [⟨(some 47), .mv (.tmp 6), none⟩,
   ⟨(some 48), .call (.func 19) [(.tmp 47)], none⟩,
   ⟨(some 49), .mv (.tmp 7), none⟩,
   ⟨(some 50), .call (.func 18) [(.tmp 48), (.tmp 49)], none⟩,
   ⟨(some 4), .mv (.tmp 50), none⟩])
 .ret)))))))
def F_lontarlaw03_RuleSingles : AFunc := ⟨2, 51, [.tmp 4], k_lontarlaw03_RuleSingles⟩
theorem ok_lontarlaw03_RuleSingles : FOK Try.prog 7 F_lontarlaw03_RuleSingles := FOK.of [[0, 1, 5, 6, 7, 8], [0, 1, 2, 3, 4, 5, 6, 7, 8, 9, 10, 11, 12], [0, 1, 2, 3, 4, 6, 7, 8, 9, 5, 10, 11, 12, 13, 14]] Try.func7 (by kernel_rfl) (by kernel_rfl)

-- lontar/lontarlaw03.RuleLongest
@[reducible] def i_lontarlaw03_RuleLongest : Nat := 8
/-- lontarlaw03_RuleLongest: the body of loop 0 -/
def b_lontarlaw03_RuleLongest_0 : ACode :=
 (.seq (.ops [⟨(some 26), .int .lss (.tmp 25) (.tmp 24), none⟩])
 (.seq (.cond (.tmp 26)
  .skip
  (.exit 0))
 (.seq (.block 1 (.seq (.ops [⟨(some 27), .iaddr (.tmp 23) (.tmp 25) 2, none⟩,
   ⟨(some 28), .load (.tmp 27) (some 2), none⟩,
   ⟨(some 9), .alloc [(.slice none 0 0), (.slice none 0 0)] 28, none⟩,
   ⟨none, .store (.tmp 9) (.tmp 28) 2, none⟩])
 (.seq (.seq (.ops [⟨(some 29), .faddr (.tmp 9) 0, none⟩,
   ⟨(some 30), .load (.tmp 29) none, none⟩,
   ⟨(some 31), .len false (.tmp 30), none⟩,
   ⟨(some 32), .mv (.tmp 6), none⟩,
   ⟨(some 33), .int .gtr (.tmp 31) (.tmp 32), none⟩])
 (.cond (.tmp 33)
  (.seq (.ops [⟨(some 4), .mv (.const (.bool false)), none⟩])
  .ret)
  .skip))
 (.ops [⟨(some 34), .mv (.tmp 7), none⟩,
   ⟨(some 35), .mv (.tmp 34), none⟩,
   ⟨(some 36), .faddr (.tmp 9) 0, some (35, false)⟩,
   ⟨(some 37), .load (.tmp 36) none, some (35, false)⟩,
   ⟨(some 38), .len false (.tmp 37), some (35, false)⟩,
   ⟨(some 39), .mv (.tmp 6), some (35, false)⟩,
   ⟨(some 40), .int .eql (.tmp 38) (.tmp 39), some (35, false)⟩,
   ⟨(some 41), .pick (.tmp 35) (.const (.bool true)) (.tmp 40), none⟩,
   ⟨(some 7), .mv (.tmp 41), none⟩]))))
 (.ops [⟨(some 42), .int .add (.tmp 25) (.const (.int .i64 1)), none⟩,
   ⟨(some 25), .mv (.tmp 42), none⟩]))))

def k_lontarlaw03_RuleLongest : ACode :=
 (.seq (.ops [⟨(some 4), .mv (.const (.bool false)), none⟩])
 (.seq (.seq (.ops [⟨(some 10), .call (.func 10) [], none⟩,
   ⟨(some 11), .not (.tmp 10), none⟩])
 (.cond (.tmp 11)
  (.seq (.ops [⟨(some 4), .mv (.const (.bool false)), none⟩])
  .ret)
  .skip))
 (.seq (.ops [⟨(some 12), .mv (.tmp 0), none⟩,
   ⟨(some 13), .call (.func 11) [(.tmp 12)], none⟩,
   ⟨(some 5), .mv (.tmp 13), none⟩])
 (.seq (.ops [⟨(some 14), .mv (.tmp 5), none⟩,
   ⟨(some 15), .call (.func 15) [(.tmp 14)], none⟩,
   ⟨(some 6), .mv (.tmp 15), none⟩])
 (.seq (.ops [⟨(some 16), .mv (.tmp 5), none⟩,
   ⟨(some 17), .len false (.tmp 16), none⟩,
   ⟨(some 18), .int .eql (.tmp 17) (.const (.int .i64 0)), none⟩,
   ⟨(some 19), .mv (.tmp 18), none⟩,
   ⟨(some 20), .mv (.tmp 6), some (19, true)⟩,
   ⟨(some 21), .int .eql (.tmp 20) (.const (.int .i64 0)), some (19, true)⟩,
   ⟨(some 22), .pick (.tmp 19) (.tmp 21) (.const (.bool false)), none⟩,
   ⟨(some 7), .mv (.tmp 22), none⟩])
 (.seq (.seq (.ops [⟨(some 23), .mv (.tmp 5), none⟩,
   ⟨(some 24), .len false (.tmp 23), none⟩,
   ⟨(some 25), .mv (.const (.int .i64 0)), none⟩])
 (.block 0 (.loop [1, 5, 6, 7, 23, 24, 25] b_lontarlaw03_RuleLongest_0)))
 (.seq (.ops [⟨(some 43), .mv (.tmp 7), none⟩,
   ⟨(some 44), .mv (.tmp 43), none⟩,
   ⟨(some 45), .mv (.tmp 5), some (44, true)⟩,
   ⟨(some 46), .mv (.tmp 1), some (44, true)⟩,
   ⟨(some 47), .conv .i64 (.tmp 46), some (44, true)⟩,
   ⟨(some 48), .mv (.tmp 5), some (44, true)⟩,
   ⟨(some 49), .len false (.tmp 48), some (44, true)⟩,
   ⟨(some 50), .int .add (.tmp 49) (.const (.int .i64 1)), some (44, true)⟩,
   ⟨(some 51), .int .rem (.tmp 47) (.tmp 50), some (44, true)⟩,
   ⟨(some 52), .slice (.tmp 45) none (some (.tmp 51)) 2, some (44, true)⟩,
   ⟨(some 53), .call (.func 15) [(.tmp 52)], some (44, true)⟩,
   ⟨(some 54), .mv (.tmp 6), some (44, true)⟩,
   ⟨(some 55), .int .leq (.tmp 53) (.tmp 54), some (44, true)⟩,
   ⟨(some 56), .pick (.tmp 44) (.tmp 55) (.const (.bool false)), none⟩,
   ⟨(some 4), .mv (.tmp 56), none⟩])
 .ret)))))))
def F_lontarlaw03_RuleLongest : AFunc := ⟨2, 57, [.tmp 4], k_lontarlaw03_RuleLongest⟩
theorem ok_lontarlaw03_RuleLongest : FOK Try.prog 8 F_lontarlaw03_RuleLongest := FOK.of [[1, 5, 6, 7, 23, 24, 25]] Try.func8 (by kernel_rfl) (by kernel_rfl)

-- lontar/lontarlaw03.RuleRight
@[reducible] def i_lontarlaw03_RuleRight : Nat := 9
def k_lontarlaw03_RuleRight : ACode :=
 (.seq (.ops [⟨(some 2), .mv (.const (.bool false)), none⟩])
 (.seq (.seq (.ops [⟨(some 8), .call (.func 10) [], none⟩,
   ⟨(some 9), .not (.tmp 8), none⟩])
 (.cond (.tmp 9)
  (.seq (.ops [⟨(some 2), .mv (.const (.bool false)), none⟩])
  .ret)
  .skip))
 (.seq (.ops [⟨(some 10), .mv (.tmp 0), none⟩,
   ⟨(some 11), .call (.func 20) [(.tmp 10)], none⟩,
   ⟨(some 3), .mv (.tmp 11), none⟩])
 (.seq (.ops [⟨(some 13), .mv (.tmp 3), none⟩,
   ⟨(some 14), .call (.func 12) [(.tmp 13)], none⟩,
   ⟨(some 12), .mv (.tmp 14), none⟩,
   ⟨(some 15), .ext (.tmp 12) 0, none⟩,
   ⟨(some 16), .ext (.tmp 12) 1, none⟩,
   ⟨(some 4), .mv (.tmp 15), none⟩,
   ⟨(some 5), .mv (.tmp 16), none⟩])
 (.seq (.ops [⟨(some 18), .mv (.tmp 3), none⟩,
   ⟨(some 19), .call (.func 17) [(.tmp 18)], none⟩,
   ⟨(some 20), .call (.func 12) [(.tmp 19)], none⟩,
   ⟨(some 17), .mv (.tmp 20), none⟩,
   ⟨(some 21), .ext (.tmp 17) 0, none⟩,
   ⟨(some 22), .ext (.tmp 17) 1, none⟩,
   ⟨(some 6), .mv (.tmp 21), none⟩,
   ⟨(some 7), .mv (.tmp 22), none⟩])
 (.seq (.ops [⟨(some 23), .mv (.tmp 4), none⟩,
   ⟨(some 24), .int .eql (.tmp 23) (.const (.int .i64 (-1))), none⟩,
   ⟨(some 25), .mv (.tmp 24), none⟩,
   ⟨(some 26), .mv (.tmp 5), some (25, true)⟩,
   ⟨(some 27), .int .eql (.tmp 26) (.const (.int .i64 0)), some (25, true)⟩,
   ⟨(some 28), .pick (.tmp 25) (.tmp 27) (.const (.bool false)), none⟩,
   ⟨(some 29), .mv (.tmp 28), none⟩,
   ⟨(some 30), .mv (.tmp 6), some (29, true)⟩,
   ⟨(some 31), .int .eql (.tmp 30) (.const (.int .i64 (-1))), some (29, true)⟩,
   ⟨(some 32), .pick (.tmp 29) (.tmp 31) (.const (.bool false)), none⟩,
   ⟨(some 33), .mv (.tmp 32), none⟩,
   ⟨(some 34), .mv (.tmp 7), some (33, true)⟩,
   ⟨(some 35), .int .eql (.tmp 34) (.const (.int .i64 0)), some (33, true)⟩,
   ⟨(some 36), .pick (.tmp 33) (.tmp 35) (.const (.bool false)), none⟩,
   ⟨(some 37), .mv (.tmp 36), none⟩,
   ⟨(some 38), .mv (.tmp 3), some (37, true)⟩,
   ⟨(some 39), .call (.func 17) [(.tmp 38)], some (37, true)⟩,
   ⟨(some 40), .len false (.tmp 39), some (37, true)⟩,
   ⟨(some 41), .mv (.tmp 3), some (37, true)⟩,
   ⟨(some 42), .len false (.tmp 41), some (37, true)⟩,
   ⟨(some 43), .int .leq (.tmp 40) (.tmp 42), some (37, true)⟩,
   ⟨(some 44), .pick (.tmp 37) (.tmp 43) (.const (.bool false)), none⟩,
   ⟨(some 2), .mv (.tmp 44), none⟩])
 .ret))))))
def F_lontarlaw03_RuleRight : AFunc := ⟨1, 45, [.tmp 2], k_lontarlaw03_RuleRight⟩
theorem ok_lontarlaw03_RuleRight : FOK Try.prog 9 F_lontarlaw03_RuleRight := FOK.of [] Try.func9 (by kernel_rfl) (by kernel_rfl)

-- lontar/lontarlaw03.awake
@[reducible] def i_lontarlaw03_awake : Nat := 10
def k_lontarlaw03_awake : ACode :=
 (.seq (.ops [⟨(some 0), .mv (.const (.bool false)), none⟩])
 (.seq (.ops [⟨(some 5), .build [(.int .i64 0), (.int .i64 0)] [(0, 1, (.const (.int .i64 1))), (1, 1, (.const (.int .i64 2)))], none⟩,
   ⟨(some 6), .build [(.int .i64 0), (.int .i64 0)] [(0, 1, (.const (.int .i64 3))), (1, 1, (.const (.int .i64 2)))], none⟩,
   ⟨(some 7), .bslice 43 2 2 [(.int .i64 0), (.int .i64 0)] [(0, 2, (.tmp 5)), (2, 2, (.tmp 6))], none⟩,
   ⟨(some 8), .call (.func 19) [(.tmp 7)], none⟩,
   ⟨(some 1), .mv (.tmp 8), none⟩])
 (.seq (.ops [⟨(some 9), .mv (.tmp 1), none⟩,
   ⟨(some 10), .call (.func 17) [(.tmp 9)], none⟩,
   ⟨(some 2), .mv (.tmp 10), none⟩])
 (.seq (.ops [⟨(some 12), .mv (.tmp 1), none⟩,
   ⟨(some 13), .mv (.tmp 1), none⟩,
   ⟨(some 14), .append (.tmp 12) (.tmp 13) 28 2 48, none⟩,
   ⟨(some 15), .call (.func 12) [(.tmp 14)], none⟩,
   ⟨(some 11), .mv (.tmp 15), none⟩,
   ⟨(some 16), .ext (.tmp 11) 0, none⟩,
   ⟨(some 17), .ext (.tmp 11) 1, none⟩,
   ⟨(some 3), .mv (.tmp 16), none⟩,
   ⟨(some 4), .mv (.tmp 17), none⟩])
 (.seq (.ops [⟨(some 18), .mv (.tmp 1), none⟩,
   ⟨(some 19), .len false (.tmp 18), none⟩,
   ⟨(some 20), .int .eql (.tmp 19) (.const (.int .i64 2)), none⟩,
   ⟨(some 21), .mv (.tmp 20), none⟩,
   ⟨(some 22), .mv (.tmp 2), some (21, true)⟩,
   ⟨(some 23), .len false (.tmp 22), some (21, true)⟩,
   ⟨(some 24), .int .eql (.tmp 23) (.const (.int .i64 1)), some (21, true)⟩,
   ⟨(some 25), .pick (.tmp 21) (.tmp 24) (.const (.bool false)), none⟩,
   ⟨(some 26), .mv (.tmp 25), none⟩,
   ⟨(some 27), .mv (.tmp 3), some (26, true)⟩,
   ⟨(some 28), .int .eql (.tmp 27) (.const (.int .i64 2)), some (26, true)⟩,
   ⟨(some 29), .pick (.tmp 26) (.tmp 28) (.const (.bool false)), none⟩,
   ⟨(some 30), .mv (.tmp 29), none⟩,
   ⟨(some 31), .mv (.tmp 4), some (30, true)⟩,
   ⟨(some 32), .int .eql (.tmp 31) (.const (.int .i64 8)), some (30, true)⟩,
   ⟨(some 33), .pick (.tmp 30) (.tmp 32) (.const (.bool false)), none⟩,
   ⟨(some 34), .mv (.tmp 33), none⟩,
   ⟨(some 35), .mv (.tmp 1), some (34, true)⟩,
   ⟨(some 36), .bslice 3 1 1 [(.int .i64 0)] [(0, 1, (.const (.int .i64 3)))], some (34, true)⟩,
   ⟨(some 37), .call (.func 16) [(.tmp 35), (.tmp 36)], some (34, true)⟩,
   ⟨(some 38), .int .eql (.tmp 37) (.const (.int .i64 1)), some (34, true)⟩,
   ⟨(some 39), .pick (.tmp 34) (.tmp 38) (.const (.bool false)), none⟩,
   ⟨(some 40), .mv (.tmp 39), none⟩,
   ⟨(some 41), .mv (.tmp 1), some (40, true)⟩,
   ⟨(some 42), .call (.func 15) [(.tmp 41)], some (40, true)⟩,
   ⟨(some 43), .int .eql (.tmp 42) (.const (.int .i64 1)), some (40, true)⟩,
   ⟨(some 44), .pick (.tmp 40) (.tmp 43) (.const (.bool false)), none⟩,
   ⟨(some 0), .mv (.tmp 44), none⟩])
 .ret)))))
def F_lontarlaw03_awake : AFunc := ⟨0, 45, [.tmp 0], k_lontarlaw03_awake⟩
theorem ok_lontarlaw03_awake : FOK Try.prog 10 F_lontarlaw03_awake := FOK.of [] Try.func10 (by kernel_rfl) (by kernel_rfl)

-- lontar/lontarlaw03.Rules
@[reducible] def i_lontarlaw03_Rules : Nat := 11
/-- lontarlaw03_Rules: the body of loop 0 -/
def b_lontarlaw03_Rules_0 : ACode :=
 (.seq (.ops [⟨(some 14), .int .lss (.tmp 13) (.tmp 12), none⟩])
 (.seq (.cond (.tmp 14)
  .skip
  (.exit 0))
 (.seq (.block 1 (.seq (.ops [⟨(some 15), .iaddr (.tmp 11) (.tmp 13) 5, none⟩,
   ⟨(some 16), .load (.tmp 15) (some 5), none⟩,
   ⟨(some 5), .alloc [(.slice none 0 0), (.slice none 0 0), (.bool false), (.slice none 0 0), (.slice none 0 0)] 48, none⟩,
   ⟨none, .store (.tmp 5) (.tmp 16) 5, none⟩])
 (.seq (.draw [⟨(some 17), .faddr (.tmp 5) 0, none⟩,
   ⟨(some 18), .load (.tmp 17) none, none⟩,
   ⟨(some 20), .faddr (.tmp 5) 1, none⟩,
   ⟨(some 21), .load (.tmp 20) none, none⟩,
   ⟨(some 6), .alloc [(.slice none 0 0), (.slice none 0 0)] 28, none⟩,
   ⟨(some 19), .call (.func 21) [(.tmp 18), (.const (.int .i64 97))], none⟩,
   ⟨(some 22), .call (.func 21) [(.tmp 21), (.const (.int .i64 97))], none⟩,
   ⟨(some 23), .build [(.slice none 0 0), (.slice none 0 0)] [(0, 1, (.tmp 19)), (1, 1, (.tmp 22))], none⟩,
   ⟨none, .store (.tmp 6) (.tmp 23) 2, none⟩])
 (.seq (.seq (.ops [⟨(some 24), .faddr (.tmp 5) 2, none⟩,
   ⟨(some 25), .load (.tmp 24) none, none⟩])
 (.cond (.tmp 25)
  (.ops [⟨(some 26), .faddr (.tmp 5) 3, none⟩,
    ⟨(some 27), .load (.tmp 26) (some 2), none⟩,
    ⟨none, .store (.tmp 6) (.tmp 27) 2, none⟩])
  .skip))
 (.ops [⟨(some 28), .mv (.tmp 3), none⟩,
   ⟨(some 29), .load (.tmp 6) (some 2), none⟩,
   ⟨(some 30), .bslice 28 1 2 [(.slice none 0 0), (.slice none 0 0)] [(0, 2, (.tmp 29))], none⟩,
   ⟨(some 31), .append (.tmp 28) (.tmp 30) 28 2 48, none⟩,
   ⟨(some 3), .mv (.tmp 31), none⟩])))))
 (.ops [⟨(some 32), .int .add (.tmp 13) (.const (.int .i64 1)), none⟩,
   ⟨(some 13), .mv (.tmp 32), none⟩]))))

def k_lontarlaw03_Rules : ACode :=
 (.seq (.ops [⟨(some 2), .mv (.const (.slice none 0 0)), none⟩])
 (.seq (.ops [⟨(some 3), .mv (.const (.slice none 0 0)), none⟩])
 (.seq (.seq (.ops [⟨(some 7), .mv (.tmp 0), none⟩,
   ⟨(some 8), .mv (.tmp 0), none⟩,
   ⟨(some 9), .len false (.tmp 8), none⟩,
   ⟨(some 10), .min2 (.tmp 9) (.const (.int .i64 40)), none⟩,
   ⟨(some 11), .slice (.tmp 7) none (some (.tmp 10)) 5, none⟩,
   ⟨(some 12), .len false (.tmp 11), none⟩,
   ⟨(some 13), .mv (.const (.int .i64 0)), none⟩])
 (.block 0 (.loop [3, 11, 12, 13] b_lontarlaw03_Rules_0)))
 (.seq (.ops [⟨(some 33), .mv (.tmp 3), none⟩,
   ⟨(some 2), .mv (.tmp 33), none⟩])
 .ret))))
def F_lontarlaw03_Rules : AFunc := ⟨1, 34, [.tmp 2], k_lontarlaw03_Rules⟩
theorem ok_lontarlaw03_Rules : FOK Try.prog 11 F_lontarlaw03_Rules := FOK.of [[3, 11, 12, 13], [0, 1, 3, 4, 7, 2, 5, 6, 8]] Try.func11 (by kernel_rfl) (by kernel_rfl)

-- lontar/rule.Check
@[reducible] def i_rule_Check : Nat := 12
/-- rule_Check: the body of loop 0 -/
def b_rule_Check_0 : ACode :=
 (.seq (.ops [⟨(some 9), .int .lss (.tmp 8) (.tmp 7), none⟩])
 (.seq (.cond (.tmp 9)
  .skip
  (.exit 0))
 (.seq (.block 1 (.seq (.ops [⟨(some 10), .mv (.tmp 8), none⟩,
   ⟨(some 11), .iaddr (.tmp 6) (.tmp 8) 2, none⟩,
   ⟨(some 12), .load (.tmp 11) (some 2), none⟩,
   ⟨(some 5), .alloc [(.slice none 0 0), (.slice none 0 0)] 28, none⟩,
   ⟨(some 4), .mv (.tmp 10), none⟩,
   ⟨none, .store (.tmp 5) (.tmp 12) 2, none⟩])
 (.block 2 (.seq (.ops [⟨(some 14), .mv (.tmp 4), none⟩,
   ⟨(some 15), .int .geq (.tmp 14) (.const (.int .i64 512)), none⟩,
   ⟨(some 13), .mv (.tmp 15), none⟩])
 (.cond (.tmp 13)
  (.seq (.ops [⟨(some 16), .mv (.tmp 4), none⟩,
    ⟨(some 2), .mv (.tmp 16), none⟩,
    ⟨(some 3), .mv (.const (.int .i64 7)), none⟩])
  .ret)
  (.seq (.ops [⟨(some 18), .faddr (.tmp 5) 0, none⟩,
    ⟨(some 19), .load (.tmp 18) none, none⟩,
    ⟨(some 20), .call (.func 22) [(.tmp 19)], none⟩,
    ⟨(some 21), .not (.tmp 20), none⟩,
    ⟨(some 22), .mv (.tmp 21), none⟩,
    ⟨(some 23), .faddr (.tmp 5) 1, some (22, false)⟩,
    ⟨(some 24), .load (.tmp 23) none, some (22, false)⟩,
    ⟨(some 25), .call (.func 22) [(.tmp 24)], some (22, false)⟩,
    ⟨(some 26), .not (.tmp 25), some (22, false)⟩,
    ⟨(some 27), .pick (.tmp 22) (.const (.bool true)) (.tmp 26), none⟩,
    ⟨(some 17), .mv (.tmp 27), none⟩])
  (.cond (.tmp 17)
   (.seq (.ops [⟨(some 28), .mv (.tmp 4), none⟩,
     ⟨(some 2), .mv (.tmp 28), none⟩,
     ⟨(some 3), .mv (.const (.int .i64 9)), none⟩])
   .ret)
   (.seq (.draw [⟨(some 30), .mv (.tmp 0), none⟩,
     ⟨(some 31), .mv (.tmp 4), none⟩,
     ⟨(some 32), .slice (.tmp 30) none (some (.tmp 31)) 2, none⟩,
     ⟨(some 33), .faddr (.tmp 5) 0, none⟩,
     ⟨(some 34), .load (.tmp 33) none, none⟩,
     ⟨(some 35), .call (.func 16) [(.tmp 32), (.tmp 34)], none⟩,
     ⟨(some 36), .int .geq (.tmp 35) (.const (.int .i64 0)), none⟩,
     ⟨(some 29), .mv (.tmp 36), none⟩])
   (.cond (.tmp 29)
    (.seq (.ops [⟨(some 37), .mv (.tmp 4), none⟩,
      ⟨(some 2), .mv (.tmp 37), none⟩,
      ⟨(some 3), .mv (.const (.int .i64 8)), none⟩])
    .ret)
    .skip)))))))))
 (.ops [⟨(some 38), .int .add (.tmp 8) (.const (.int .i64 1)), none⟩,
   ⟨(some 8), .mv (.tmp 38), none⟩]))))

def k_rule_Check : ACode :=
 (.seq (.ops [⟨(some 2), .mv (.const (.int .i64 0)), none⟩,
   ⟨(some 3), .mv (.const (.int .i64 0)), none⟩])
 (.seq (.seq (.ops [⟨(some 6), .mv (.tmp 0), none⟩,
   ⟨(some 7), .len false (.tmp 6), none⟩,
   ⟨(some 8), .mv (.const (.int .i64 0)), none⟩])
 (.block 0 (.loop [0, 6, 7, 8] b_rule_Check_0)))
 (.seq (.ops [⟨(some 2), .mv (.const (.int .i64 (-1))), none⟩,
   ⟨(some 3), .mv (.const (.int .i64 0)), none⟩])
 .ret)))
def F_rule_Check : AFunc := ⟨1, 39, [.tmp 2, .tmp 3], k_rule_Check⟩
theorem ok_rule_Check : FOK Try.prog 12 F_rule_Check := FOK.of [[0, 6, 7, 8], [0, 1, 2, 3, 4, 5, 6, 7]] Try.func12 (by kernel_rfl) (by kernel_rfl)

-- lontar/lontarlaw03.may
@[reducible] def i_lontarlaw03_may : Nat := 13
/-- lontarlaw03_may: the body of loop 0 -/
def b_lontarlaw03_may_0 : ACode :=
 (.seq (.ops [⟨(some 8), .int .lss (.tmp 7) (.tmp 6), none⟩])
 (.seq (.cond (.tmp 8)
  .skip
  (.exit 0))
 (.seq (.block 1 (.seq (.ops [⟨(some 9), .iaddr (.tmp 5) (.tmp 7) 1, none⟩,
   ⟨(some 10), .load (.tmp 9) none, none⟩,
   ⟨(some 4), .mv (.tmp 10), none⟩])
 (.seq (.ops [⟨(some 11), .mv (.tmp 4), none⟩,
   ⟨(some 12), .int .lss (.tmp 11) (.const (.int .i64 0)), none⟩,
   ⟨(some 13), .mv (.tmp 12), none⟩,
   ⟨(some 14), .mv (.tmp 4), some (13, false)⟩,
   ⟨(some 15), .int .gtr (.tmp 14) (.const (.int .i64 1114111)), some (13, false)⟩,
   ⟨(some 16), .pick (.tmp 13) (.const (.bool true)) (.tmp 15), none⟩])
 (.cond (.tmp 16)
  (.seq (.ops [⟨(some 2), .mv (.const (.bool false)), none⟩])
  .ret)
  .skip))))
 (.ops [⟨(some 17), .int .add (.tmp 7) (.const (.int .i64 1)), none⟩,
   ⟨(some 7), .mv (.tmp 17), none⟩]))))

def k_lontarlaw03_may : ACode :=
 (.seq (.ops [⟨(some 2), .mv (.const (.bool false)), none⟩])
 (.seq (.seq (.ops [⟨(some 5), .mv (.tmp 0), none⟩,
   ⟨(some 6), .len false (.tmp 5), none⟩,
   ⟨(some 7), .mv (.const (.int .i64 0)), none⟩])
 (.block 0 (.loop [0, 5, 6, 7] b_lontarlaw03_may_0)))
 (.seq (.ops [⟨(some 18), .mv (.tmp 0), none⟩,
   ⟨(some 19), .len false (.tmp 18), none⟩,
   ⟨(some 20), .int .gtr (.tmp 19) (.const (.int .i64 0)), none⟩,
   ⟨(some 21), .mv (.tmp 20), none⟩,
   ⟨(some 22), .mv (.tmp 0), some (21, true)⟩,
   ⟨(some 23), .len false (.tmp 22), some (21, true)⟩,
   ⟨(some 24), .int .lss (.tmp 23) (.const (.int .i64 9)), some (21, true)⟩,
   ⟨(some 25), .pick (.tmp 21) (.tmp 24) (.const (.bool false)), none⟩,
   ⟨(some 2), .mv (.tmp 25), none⟩])
 .ret)))
def F_lontarlaw03_may : AFunc := ⟨1, 26, [.tmp 2], k_lontarlaw03_may⟩
theorem ok_lontarlaw03_may : FOK Try.prog 13 F_lontarlaw03_may := FOK.of [[0, 5, 6, 7]] Try.func13 (by kernel_rfl) (by kernel_rfl)

-- lontar/lontarlaw03.find
@[reducible] def i_lontarlaw03_find : Nat := 14
/-- lontarlaw03_find: the body of loop 0 -/
def b_lontarlaw03_find_0 : ACode :=
 (.seq (.ops [⟨(some 10), .int .lss (.tmp 9) (.tmp 8), none⟩])
 (.seq (.cond (.tmp 10)
  .skip
  (.exit 0))
 (.seq (.block 1 (.seq (.ops [⟨(some 11), .mv (.tmp 9), none⟩,
   ⟨(some 12), .iaddr (.tmp 7) (.tmp 9) 2, none⟩,
   ⟨(some 13), .load (.tmp 12) (some 2), none⟩,
   ⟨(some 6), .alloc [(.slice none 0 0), (.slice none 0 0)] 28, none⟩,
   ⟨(some 5), .mv (.tmp 11), none⟩,
   ⟨none, .store (.tmp 6) (.tmp 13) 2, none⟩])
 (.seq (.ops [⟨(some 14), .faddr (.tmp 6) 0, none⟩,
   ⟨(some 15), .load (.tmp 14) none, none⟩,
   ⟨(some 16), .mv (.tmp 1), none⟩,
   ⟨(some 17), .call (.func 23) [(.tmp 15), (.tmp 16)], none⟩])
 (.cond (.tmp 17)
  (.seq (.ops [⟨(some 18), .mv (.tmp 5), none⟩,
    ⟨(some 4), .mv (.tmp 18), none⟩])
  .ret)
  .skip))))
 (.ops [⟨(some 19), .int .add (.tmp 9) (.const (.int .i64 1)), none⟩,
   ⟨(some 9), .mv (.tmp 19), none⟩]))))

def k_lontarlaw03_find : ACode :=
 (.seq (.ops [⟨(some 4), .mv (.const (.int .i64 0)), none⟩])
 (.seq (.seq (.ops [⟨(some 7), .mv (.tmp 0), none⟩,
   ⟨(some 8), .len false (.tmp 7), none⟩,
   ⟨(some 9), .mv (.const (.int .i64 0)), none⟩])
 (.block 0 (.loop [1, 7, 8, 9] b_lontarlaw03_find_0)))
 (.seq (.ops [⟨(some 4), .mv (.const (.int .i64 (-1))), none⟩])
 .ret)))
def F_lontarlaw03_find : AFunc := ⟨2, 20, [.tmp 4], k_lontarlaw03_find⟩
theorem ok_lontarlaw03_find : FOK Try.prog 14 F_lontarlaw03_find := FOK.of [[1, 7, 8, 9]] Try.func14 (by kernel_rfl) (by kernel_rfl)

-- lontar/rule.Longest
@[reducible] def i_rule_Longest : Nat := 15
/-- rule_Longest: the body of loop 0 -/
def b_rule_Longest_0 : ACode :=
 (.seq (.ops [⟨(some 9), .int .lss (.tmp 8) (.tmp 7), none⟩])
 (.seq (.cond (.tmp 9)
  .skip
  (.exit 0))
 (.seq (.block 1 (.seq (.ops [⟨(some 10), .iaddr (.tmp 6) (.tmp 8) 2, none⟩,
   ⟨(some 11), .load (.tmp 10) (some 2), none⟩,
   ⟨(some 5), .alloc [(.slice none 0 0), (.slice none 0 0)] 28, none⟩,
   ⟨none, .store (.tmp 5) (.tmp 11) 2, none⟩])
 (.ops [⟨(some 12), .mv (.tmp 3), none⟩,
   ⟨(some 13), .faddr (.tmp 5) 0, none⟩,
   ⟨(some 14), .load (.tmp 13) none, none⟩,
   ⟨(some 15), .len false (.tmp 14), none⟩,
   ⟨(some 16), .max2 (.tmp 12) (.tmp 15), none⟩,
   ⟨(some 3), .mv (.tmp 16), none⟩])))
 (.ops [⟨(some 17), .int .add (.tmp 8) (.const (.int .i64 1)), none⟩,
   ⟨(some 8), .mv (.tmp 17), none⟩]))))

def k_rule_Longest : ACode :=
 (.seq (.ops [⟨(some 2), .mv (.const (.int .i64 0)), none⟩])
 (.seq (.ops [⟨(some 3), .mv (.const (.int .i64 0)), none⟩])
 (.seq (.seq (.ops [⟨(some 6), .mv (.tmp 0), none⟩,
   ⟨(some 7), .len false (.tmp 6), none⟩,
   ⟨(some 8), .mv (.const (.int .i64 0)), none⟩])
 (.block 0 (.loop [3, 6, 7, 8] b_rule_Longest_0)))
 (.seq (.ops [⟨(some 18), .mv (.tmp 3), none⟩,
   ⟨(some 2), .mv (.tmp 18), none⟩])
 .ret))))
def F_rule_Longest : AFunc := ⟨1, 19, [.tmp 2], k_rule_Longest⟩
theorem ok_rule_Longest : FOK Try.prog 15 F_rule_Longest := FOK.of [[3, 6, 7, 8]] Try.func15 (by kernel_rfl) (by kernel_rfl)

-- lontar/rule.Find
@[reducible] def i_rule_Find : Nat := 16
def k_rule_Find : ACode :=
 (.seq (.ops [⟨(some 3), .box (.tmp 1) 26, none⟩,
   ⟨(some 4), .mv (.const (.int .i64 0)), none⟩])
 (.seq (.ops [⟨(some 5), .mv (.tmp 0), none⟩,
   ⟨(some 6), .mkfun (.func 25) [] [(.tmp 3)], none⟩,
   ⟨(some 7), .call (.func 24) [(.tmp 5), (.tmp 6)], none⟩,
   ⟨(some 4), .mv (.tmp 7), none⟩])
 .ret))
def F_rule_Find : AFunc := ⟨2, 8, [.tmp 4], k_rule_Find⟩
theorem ok_rule_Find : FOK Try.prog 16 F_rule_Find := FOK.of [] Try.func16 (by kernel_rfl) (by kernel_rfl)

-- lontar/rule.Turn
@[reducible] def i_rule_Turn : Nat := 17
/-- rule_Turn: the body of loop 0 -/
def b_rule_Turn_0 : ACode :=
 (.seq (.ops [⟨(some 9), .int .lss (.tmp 8) (.tmp 7), none⟩])
 (.seq (.cond (.tmp 9)
  .skip
  (.exit 0))
 (.seq (.block 1 (.seq (.ops [⟨(some 10), .iaddr (.tmp 6) (.tmp 8) 2, none⟩,
   ⟨(some 11), .load (.tmp 10) (some 2), none⟩,
   ⟨(some 5), .alloc [(.slice none 0 0), (.slice none 0 0)] 28, none⟩,
   ⟨none, .store (.tmp 5) (.tmp 11) 2, none⟩])
 (.seq (.ops [⟨(some 12), .mv (.tmp 3), none⟩,
   ⟨(some 13), .faddr (.tmp 5) 1, none⟩,
   ⟨(some 14), .load (.tmp 13) none, none⟩,
   ⟨(some 15), .call (.func 16) [(.tmp 12), (.tmp 14)], none⟩,
   ⟨(some 16), .int .lss (.tmp 15) (.const (.int .i64 0)), none⟩])
 (.cond (.tmp 16)
  (.draw [⟨(some 17), .mv (.tmp 3), none⟩,
    ⟨(some 18), .faddr (.tmp 5) 1, none⟩,
    ⟨(some 19), .load (.tmp 18) none, none⟩,
    ⟨(some 21), .faddr (.tmp 5) 0, none⟩,
    ⟨(some 22), .load (.tmp 21) none, none⟩,
    ⟨(some 20), .call (.func 27) [(.tmp 19)], none⟩,
    ⟨(some 23), .call (.func 27) [(.tmp 22)], none⟩,
    ⟨(some 24), .build [(.slice none 0 0), (.slice none 0 0)] [(0, 1, (.tmp 20)), (1, 1, (.tmp 23))], none⟩,
    ⟨(some 25), .bslice 28 1 2 [(.slice none 0 0), (.slice none 0 0)] [(0, 2, (.tmp 24))], none⟩,
    ⟨(some 26), .append (.tmp 17) (.tmp 25) 28 2 48, none⟩,
    ⟨(some 3), .mv (.tmp 26), none⟩])
  .skip))))
 (.ops [⟨(some 27), .int .add (.tmp 8) (.const (.int .i64 1)), none⟩,
   ⟨(some 8), .mv (.tmp 27), none⟩]))))

def k_rule_Turn : ACode :=
 (.seq (.ops [⟨(some 2), .mv (.const (.slice none 0 0)), none⟩])
 (.seq (.ops [⟨(some 3), .mv (.const (.slice none 0 0)), none⟩])
 (.seq (.seq (.ops [⟨(some 6), .mv (.tmp 0), none⟩,
   ⟨(some 7), .len false (.tmp 6), none⟩,
   ⟨(some 8), .mv (.const (.int .i64 0)), none⟩])
 (.block 0 (.loop [3, 6, 7, 8] b_rule_Turn_0)))
 (.seq (.ops [⟨(some 28), .mv (.tmp 3), none⟩,
   ⟨(some 2), .mv (.tmp 28), none⟩])
 .ret))))
def F_rule_Turn : AFunc := ⟨1, 29, [.tmp 2], k_rule_Turn⟩
theorem ok_rule_Turn : FOK Try.prog 17 F_rule_Turn := FOK.of [[3, 6, 7, 8], [0, 1, 2, 4, 5, 3, 6, 7, 8, 9, 10]] Try.func17 (by kernel_rfl) (by kernel_rfl)

-- lontar/lontarlaw03.Same
@[reducible] def i_lontarlaw03_Same : Nat := 18
/-- lontarlaw03_Same: the body of loop 0 -/
def b_lontarlaw03_Same_0 : ACode :=
 (.seq (.ops [⟨(some 14), .int .lss (.tmp 13) (.tmp 12), none⟩])
 (.seq (.cond (.tmp 14)
  .skip
  (.exit 0))
 (.seq (.block 1 (.seq (.ops [⟨(some 15), .mv (.tmp 13), none⟩,
   ⟨(some 5), .mv (.tmp 15), none⟩])
 (.seq (.draw [⟨(some 16), .mv (.tmp 0), none⟩,
   ⟨(some 17), .mv (.tmp 5), none⟩,
   ⟨(some 18), .iaddr (.tmp 16) (.tmp 17) 2, none⟩,
   ⟨(some 19), .faddr (.tmp 18) 0, none⟩,
   ⟨(some 20), .load (.tmp 19) none, none⟩,
   ⟨(some 21), .mv (.tmp 1), none⟩,
   ⟨(some 22), .mv (.tmp 5), none⟩,
   ⟨(some 23), .iaddr (.tmp 21) (.tmp 22) 2, none⟩,
   ⟨(some 24), .faddr (.tmp 23) 0, none⟩,
   ⟨(some 25), .load (.tmp 24) none, none⟩,
   ⟨(some 26), .call (.func 23) [(.tmp 20), (.tmp 25)], none⟩,
   ⟨(some 27), .not (.tmp 26), none⟩,
   ⟨(some 28), .mv (.tmp 27), none⟩,
   ⟨(some 29), .mv (.tmp 0), some (28, false)⟩,
   ⟨(some 30), .mv (.tmp 5), some (28, false)⟩,
   ⟨(some 31), .iaddr (.tmp 29) (.tmp 30) 2, some (28, false)⟩,
   ⟨(some 32), .faddr (.tmp 31) 1, some (28, false)⟩,
   ⟨(some 33), .load (.tmp 32) none, some (28, false)⟩,
   ⟨(some 34), .mv (.tmp 1), some (28, false)⟩,
   ⟨(some 35), .mv (.tmp 5), some (28, false)⟩,
   ⟨(some 36), .iaddr (.tmp 34) (.tmp 35) 2, some (28, false)⟩,
   ⟨(some 37), .faddr (.tmp 36) 1, some (28, false)⟩,
   ⟨(some 38), .load (.tmp 37) none, some (28, false)⟩,
   ⟨(some 39), .call (.func 23) [(.tmp 33), (.tmp 38)], some (28, false)⟩,
   ⟨(some 40), .not (.tmp 39), some (28, false)⟩,
   ⟨(some 41), .pick (.tmp 28) (.const (.bool true)) (.tmp 40), none⟩])
 (.cond (.tmp 41)
  (.seq (.ops [⟨(some 4), .mv (.const (.bool false)), none⟩])
  .ret)
  .skip))))
 (.ops [⟨(some 42), .int .add (.tmp 13) (.const (.int .i64 1)), none⟩,
   ⟨(some 13), .mv (.tmp 42), none⟩]))))

def k_lontarlaw03_Same : ACode :=
 (.seq (.ops [⟨(some 4), .mv (.const (.bool false)), none⟩])
 (.seq (.seq (.ops [⟨(some 6), .mv (.tmp 0), none⟩,
   ⟨(some 7), .len false (.tmp 6), none⟩,
   ⟨(some 8), .mv (.tmp 1), none⟩,
   ⟨(some 9), .len false (.tmp 8), none⟩,
   ⟨(some 10), .int .neq (.tmp 7) (.tmp 9), none⟩])
 (.cond (.tmp 10)
  (.seq (.ops [⟨(some 4), .mv (.const (.bool false)), none⟩])
  .ret)
  .skip))
 (.seq (.seq (.ops [⟨(some 11), .mv (.tmp 0), none⟩,
   ⟨(some 12), .len false (.tmp 11), none⟩,
   ⟨(some 13), .mv (.const (.int .i64 0)), none⟩])
 (.block 0 (.loop [0, 1, 12, 13] b_lontarlaw03_Same_0)))
 (.seq (.ops [⟨(some 4), .mv (.const (.bool true)), none⟩])
 .ret))))
def F_lontarlaw03_Same : AFunc := ⟨2, 43, [.tmp 4], k_lontarlaw03_Same⟩
theorem ok_lontarlaw03_Same : FOK Try.prog 18 F_lontarlaw03_Same := FOK.of [[0, 1, 12, 13], [0, 1, 2, 3, 4, 5, 6, 7, 8, 9, 10, 11, 12, 13, 14, 15, 16, 17, 18, 19, 20, 21, 22, 23, 24, 25]] Try.func18 (by kernel_rfl) (by kernel_rfl)

-- lontar/rule.Singles
@[reducible] def i_rule_Singles : Nat := 19
/-- rule_Singles: the body of loop 0 -/
def b_rule_Singles_0 : ACode :=
 (.seq (.ops [⟨(some 9), .int .lss (.tmp 8) (.tmp 7), none⟩])
 (.seq (.cond (.tmp 9)
  .skip
  (.exit 0))
 (.seq (.block 1 (.seq (.ops [⟨(some 10), .iaddr (.tmp 6) (.tmp 8) 2, none⟩,
   ⟨(some 11), .load (.tmp 10) (some 2), none⟩,
   ⟨(some 5), .alloc [(.int .i64 0), (.int .i64 0)] 43, none⟩,
   ⟨none, .store (.tmp 5) (.tmp 11) 2, none⟩])
 (.ops [⟨(some 12), .mv (.tmp 3), none⟩,
   ⟨(some 13), .aaddr (.tmp 5) (.const (.int .i64 0)) 2 1, none⟩,
   ⟨(some 14), .load (.tmp 13) none, none⟩,
   ⟨(some 15), .bslice 3 1 1 [(.int .i64 0)] [(0, 1, (.tmp 14))], none⟩,
   ⟨(some 16), .aaddr (.tmp 5) (.const (.int .i64 1)) 2 1, none⟩,
   ⟨(some 17), .load (.tmp 16) none, none⟩,
   ⟨(some 18), .bslice 3 1 1 [(.int .i64 0)] [(0, 1, (.tmp 17))], none⟩,
   ⟨(some 19), .build [(.slice none 0 0), (.slice none 0 0)] [(0, 1, (.tmp 15)), (1, 1, (.tmp 18))], none⟩,
   ⟨(some 20), .bslice 28 1 2 [(.slice none 0 0), (.slice none 0 0)] [(0, 2, (.tmp 19))], none⟩,
   ⟨(some 21), .append (.tmp 12) (.tmp 20) 28 2 48, none⟩,
   ⟨(some 3), .mv (.tmp 21), none⟩])))
 (.ops [⟨(some 22), .int .add (.tmp 8) (.const (.int .i64 1)), none⟩,
   ⟨(some 8), .mv (.tmp 22), none⟩]))))

def k_rule_Singles : ACode :=
 (.seq (.ops [⟨(some 2), .mv (.const (.slice none 0 0)), none⟩])
 (.seq (.ops [⟨(some 3), .mv (.const (.slice none 0 0)), none⟩])
 (.seq (.seq (.ops [⟨(some 6), .mv (.tmp 0), none⟩,
   ⟨(some 7), .len false (.tmp 6), none⟩,
   ⟨(some 8), .mv (.const (.int .i64 0)), none⟩])
 (.block 0 (.loop [3, 6, 7, 8] b_rule_Singles_0)))
 (.seq (.ops [⟨(some 23), .mv (.tmp 3), none⟩,
   ⟨(some 2), .mv (.tmp 23), none⟩])
 .ret))))
def F_rule_Singles : AFunc := ⟨1, 24, [.tmp 2], k_rule_Singles⟩
theorem ok_rule_Singles : FOK Try.prog 19 F_rule_Singles := FOK.of [[3, 6, 7, 8]] Try.func19 (by kernel_rfl) (by kernel_rfl)

-- lontar/lontarlaw03.Right
@[reducible] def i_lontarlaw03_Right : Nat := 20
/-- lontarlaw03_Right: the body of loop 0 -/
def b_lontarlaw03_Right_0 : ACode :=
 (.seq (.ops [⟨(some 10), .int .lss (.tmp 9) (.tmp 8), none⟩])
 (.seq (.cond (.tmp 10)
  .skip
  (.exit 0))
 (.seq (.block 1 (.seq (.ops [⟨(some 11), .iaddr (.tmp 7) (.tmp 9) 2, none⟩,
   ⟨(some 12), .load (.tmp 11) (some 2), none⟩,
   ⟨(some 5), .alloc [(.slice none 0 0), (.slice none 0 0)] 28, none⟩,
   ⟨none, .store (.tmp 5) (.tmp 12) 2, none⟩])
 (.seq (.ops [⟨(some 13), .faddr (.tmp 5) 0, none⟩,
   ⟨(some 14), .load (.tmp 13) none, none⟩,
   ⟨(some 15), .call (.func 13) [(.tmp 14)], none⟩,
   ⟨(some 16), .mv (.tmp 15), none⟩,
   ⟨(some 17), .faddr (.tmp 5) 1, some (16, true)⟩,
   ⟨(some 18), .load (.tmp 17) none, some (16, true)⟩,
   ⟨(some 19), .call (.func 13) [(.tmp 18)], some (16, true)⟩,
   ⟨(some 20), .pick (.tmp 16) (.tmp 19) (.const (.bool false)), none⟩,
   ⟨(some 21), .mv (.tmp 20), none⟩,
   ⟨(some 22), .mv (.tmp 3), some (21, true)⟩,
   ⟨(some 23), .faddr (.tmp 5) 0, some (21, true)⟩,
   ⟨(some 24), .load (.tmp 23) none, some (21, true)⟩,
   ⟨(some 25), .call (.func 14) [(.tmp 22), (.tmp 24)], some (21, true)⟩,
   ⟨(some 26), .int .lss (.tmp 25) (.const (.int .i64 0)), some (21, true)⟩,
   ⟨(some 27), .pick (.tmp 21) (.tmp 26) (.const (.bool false)), none⟩])
 (.cond (.tmp 27)
  (.ops [⟨(some 28), .mv (.tmp 3), none⟩,
    ⟨(some 29), .load (.tmp 5) (some 2), none⟩,
    ⟨(some 30), .bslice 28 1 2 [(.slice none 0 0), (.slice none 0 0)] [(0, 2, (.tmp 29))], none⟩,
    ⟨(some 31), .append (.tmp 28) (.tmp 30) 28 2 48, none⟩,
    ⟨(some 3), .mv (.tmp 31), none⟩])
  .skip))))
 (.ops [⟨(some 32), .int .add (.tmp 9) (.const (.int .i64 1)), none⟩,
   ⟨(some 9), .mv (.tmp 32), none⟩]))))

def k_lontarlaw03_Right : ACode :=
 (.seq (.ops [⟨(some 2), .mv (.const (.slice none 0 0)), none⟩])
 (.seq (.ops [⟨(some 3), .mv (.const (.slice none 0 0)), none⟩])
 (.seq (.seq (.ops [⟨(some 6), .mv (.tmp 0), none⟩,
   ⟨(some 7), .call (.func 11) [(.tmp 6)], none⟩,
   ⟨(some 8), .len false (.tmp 7), none⟩,
   ⟨(some 9), .mv (.const (.int .i64 0)), none⟩])
 (.block 0 (.loop [3, 7, 8, 9] b_lontarlaw03_Right_0)))
 (.seq (.ops [⟨(some 33), .mv (.tmp 3), none⟩,
   ⟨(some 2), .mv (.tmp 33), none⟩])
 .ret))))
def F_lontarlaw03_Right : AFunc := ⟨1, 34, [.tmp 2], k_lontarlaw03_Right⟩
theorem ok_lontarlaw03_Right : FOK Try.prog 20 F_lontarlaw03_Right := FOK.of [[3, 7, 8, 9]] Try.func20 (by kernel_rfl) (by kernel_rfl)

-- lontar/lontarlaw03.units
@[reducible] def i_lontarlaw03_units : Nat := 21
/-- lontarlaw03_units: the body of loop 0 -/
def b_lontarlaw03_units_0 : ACode :=
 (.seq (.ops [⟨(some 15), .int .lss (.tmp 14) (.tmp 13), none⟩])
 (.seq (.cond (.tmp 15)
  .skip
  (.exit 0))
 (.seq (.block 1 (.seq (.ops [⟨(some 16), .iaddr (.tmp 12) (.tmp 14) 1, none⟩,
   ⟨(some 17), .load (.tmp 16) none, none⟩,
   ⟨(some 7), .mv (.tmp 17), none⟩])
 (.ops [⟨(some 18), .mv (.tmp 5), none⟩,
   ⟨(some 19), .mv (.tmp 1), none⟩,
   ⟨(some 20), .mv (.tmp 7), none⟩,
   ⟨(some 21), .int .rem (.tmp 20) (.const (.int .u8 5)), none⟩,
   ⟨(some 22), .conv .i64 (.tmp 21), none⟩,
   ⟨(some 23), .int .add (.tmp 19) (.tmp 22), none⟩,
   ⟨(some 24), .bslice 3 1 1 [(.int .i64 0)] [(0, 1, (.tmp 23))], none⟩,
   ⟨(some 25), .append (.tmp 18) (.tmp 24) 3 1 8, none⟩,
   ⟨(some 5), .mv (.tmp 25), none⟩])))
 (.ops [⟨(some 26), .int .add (.tmp 14) (.const (.int .i64 1)), none⟩,
   ⟨(some 14), .mv (.tmp 26), none⟩]))))

def k_lontarlaw03_units : ACode :=
 (.seq (.ops [⟨(some 4), .mv (.const (.slice none 0 0)), none⟩])
 (.seq (.ops [⟨(some 5), .mv (.const (.slice none 0 0)), none⟩])
 (.seq (.seq (.ops [⟨(some 8), .mv (.tmp 0), none⟩,
   ⟨(some 9), .mv (.tmp 0), none⟩,
   ⟨(some 10), .len false (.tmp 9), none⟩,
   ⟨(some 11), .min2 (.tmp 10) (.const (.int .i64 4)), none⟩,
   ⟨(some 12), .slice (.tmp 8) none (some (.tmp 11)) 1, none⟩,
   ⟨(some 13), .len false (.tmp 12), none⟩,
   ⟨(some 14), .mv (.const (.int .i64 0)), none⟩])
 (.block 0 (.loop [1, 5, 12, 13, 14] b_lontarlaw03_units_0)))
 (.seq (.ops [⟨(some 27), .mv (.tmp 5), none⟩,
   ⟨(some 28), .mv (.tmp 1), none⟩,
   ⟨(some 29), .bslice 3 1 1 [(.int .i64 0)] [(0, 1, (.tmp 28))], none⟩,
   ⟨(some 30), .append (.tmp 27) (.tmp 29) 3 1 8, none⟩,
   ⟨(some 31), .mv (.tmp 5), none⟩,
   ⟨(some 32), .len false (.tmp 31), none⟩,
   ⟨(some 33), .max2 (.const (.int .i64 1)) (.tmp 32), none⟩,
   ⟨(some 34), .slice (.tmp 30) none (some (.tmp 33)) 1, none⟩,
   ⟨(some 4), .mv (.tmp 34), none⟩])
 .ret))))
def F_lontarlaw03_units : AFunc := ⟨2, 35, [.tmp 4], k_lontarlaw03_units⟩
theorem ok_lontarlaw03_units : FOK Try.prog 21 F_lontarlaw03_units := FOK.of [[1, 5, 12, 13, 14]] Try.func21 (by kernel_rfl) (by kernel_rfl)

-- lontar/rule.side
@[reducible] def i_rule_side : Nat := 22
def k_rule_side : ACode :=
 (.seq (.ops [⟨(some 2), .mv (.const (.bool false)), none⟩])
 (.seq (.ops [⟨(some 3), .mv (.tmp 0), none⟩,
   ⟨(some 4), .len false (.tmp 3), none⟩,
   ⟨(some 5), .int .gtr (.tmp 4) (.const (.int .i64 0)), none⟩,
   ⟨(some 6), .mv (.tmp 5), none⟩,
   ⟨(some 7), .mv (.tmp 0), some (6, true)⟩,
   ⟨(some 8), .len false (.tmp 7), some (6, true)⟩,
   ⟨(some 9), .int .leq (.tmp 8) (.const (.int .i64 8)), some (6, true)⟩,
   ⟨(some 10), .pick (.tmp 6) (.tmp 9) (.const (.bool false)), none⟩,
   ⟨(some 11), .mv (.tmp 10), none⟩,
   ⟨(some 12), .mv (.tmp 0), some (11, true)⟩,
   ⟨(some 13), .call (.func 28) [(.tmp 12), (.func 29)], some (11, true)⟩,
   ⟨(some 14), .not (.tmp 13), some (11, true)⟩,
   ⟨(some 15), .pick (.tmp 11) (.tmp 14) (.const (.bool false)), none⟩,
   ⟨(some 2), .mv (.tmp 15), none⟩])
 .ret))
def F_rule_side : AFunc := ⟨1, 16, [.tmp 2], k_rule_side⟩
theorem ok_rule_side : FOK Try.prog 22 F_rule_side := FOK.of [] Try.func22 (by kernel_rfl) (by kernel_rfl)

-- lontar/lontarlaw01.Units
@[reducible] def i_lontarlaw01_Units : Nat := 23
/-- lontarlaw01_Units: the body of loop 0 -/
def b_lontarlaw01_Units_0 : ACode :=
 (.seq (.ops [⟨(some 14), .int .lss (.tmp 13) (.tmp 12), none⟩])
 (.seq (.cond (.tmp 14)
  .skip
  (.exit 0))
 (.seq (.block 1 (.seq (.ops [⟨(some 15), .mv (.tmp 13), none⟩,
   ⟨(some 5), .mv (.tmp 15), none⟩])
 (.seq (.draw [⟨(some 16), .mv (.tmp 0), none⟩,
   ⟨(some 17), .mv (.tmp 5), none⟩,
   ⟨(some 18), .iaddr (.tmp 16) (.tmp 17) 1, none⟩,
   ⟨(some 19), .load (.tmp 18) none, none⟩,
   ⟨(some 20), .mv (.tmp 1), none⟩,
   ⟨(some 21), .mv (.tmp 5), none⟩,
   ⟨(some 22), .iaddr (.tmp 20) (.tmp 21) 1, none⟩,
   ⟨(some 23), .load (.tmp 22) none, none⟩,
   ⟨(some 24), .int .neq (.tmp 19) (.tmp 23), none⟩])
 (.cond (.tmp 24)
  (.seq (.ops [⟨(some 4), .mv (.const (.bool false)), none⟩])
  .ret)
  .skip))))
 (.ops [⟨(some 25), .int .add (.tmp 13) (.const (.int .i64 1)), none⟩,
   ⟨(some 13), .mv (.tmp 25), none⟩]))))

def k_lontarlaw01_Units : ACode :=
 (.seq (.ops [⟨(some 4), .mv (.const (.bool false)), none⟩])
 (.seq (.seq (.ops [⟨(some 6), .mv (.tmp 0), none⟩,
   ⟨(some 7), .len false (.tmp 6), none⟩,
   ⟨(some 8), .mv (.tmp 1), none⟩,
   ⟨(some 9), .len false (.tmp 8), none⟩,
   ⟨(some 10), .int .neq (.tmp 7) (.tmp 9), none⟩])
 (.cond (.tmp 10)
  (.seq (.ops [⟨(some 4), .mv (.const (.bool false)), none⟩])
  .ret)
  .skip))
 (.seq (.seq (.ops [⟨(some 11), .mv (.tmp 0), none⟩,
   ⟨(some 12), .len false (.tmp 11), none⟩,
   ⟨(some 13), .mv (.const (.int .i64 0)), none⟩])
 (.block 0 (.loop [0, 1, 12, 13] b_lontarlaw01_Units_0)))
 (.seq (.ops [⟨(some 4), .mv (.const (.bool true)), none⟩])
 .ret))))
def F_lontarlaw01_Units : AFunc := ⟨2, 26, [.tmp 4], k_lontarlaw01_Units⟩
theorem ok_lontarlaw01_Units : FOK Try.prog 23 F_lontarlaw01_Units := FOK.of [[0, 1, 12, 13], [0, 1, 2, 3, 4, 5, 6, 7, 8]] Try.func23 (by kernel_rfl) (by kernel_rfl)

-- slices.IndexFunc[[]lontar/api.Rule,lontar/api.Rule]
@[reducible] def i_api_Rule_ : Nat := 24
/-- api_Rule_: the body of loop 0 -/
def b_api_Rule__0 : ACode :=
 (.seq (.ops [⟨(some 9), .int .lss (.tmp 8) (.tmp 7), none⟩])
 (.seq (.cond (.tmp 9)
  .skip
  (.exit 0))
 (.seq (.block 1 (.seq (.ops [⟨(some 10), .mv (.tmp 8), none⟩,
   ⟨(some 5), .mv (.tmp 10), none⟩])
 (.seq (.ops [⟨(some 11), .mv (.tmp 1), none⟩,
   ⟨(some 12), .mv (.tmp 0), none⟩,
   ⟨(some 13), .mv (.tmp 5), none⟩,
   ⟨(some 14), .iaddr (.tmp 12) (.tmp 13) 2, none⟩,
   ⟨(some 15), .load (.tmp 14) (some 2), none⟩,
   ⟨(some 16), .call (.tmp 11) [(.tmp 15)], none⟩])
 (.cond (.tmp 16)
  (.seq (.ops [⟨(some 17), .mv (.tmp 5), none⟩,
    ⟨(some 4), .mv (.tmp 17), none⟩])
  .ret)
  .skip))))
 (.ops [⟨(some 18), .int .add (.tmp 8) (.const (.int .i64 1)), none⟩,
   ⟨(some 8), .mv (.tmp 18), none⟩]))))

def k_api_Rule_ : ACode :=
 (.seq (.ops [⟨(some 4), .mv (.const (.int .i64 0)), none⟩])
 (.seq (.seq (.ops [⟨(some 6), .mv (.tmp 0), none⟩,
   ⟨(some 7), .len false (.tmp 6), none⟩,
   ⟨(some 8), .mv (.const (.int .i64 0)), none⟩])
 (.block 0 (.loop [0, 1, 7, 8] b_api_Rule__0)))
 (.seq (.ops [⟨(some 4), .mv (.const (.int .i64 (-1))), none⟩])
 .ret)))
def F_api_Rule_ : AFunc := ⟨2, 19, [.tmp 4], k_api_Rule_⟩
theorem ok_api_Rule_ : FOK Try.prog 24 F_api_Rule_ := FOK.of [[0, 1, 7, 8]] Try.func24 (by kernel_rfl) (by kernel_rfl)

-- lontar/rule.Find$1
@[reducible] def i_rule_Find_1 : Nat := 25
def k_rule_Find_1 : ACode :=
 (.seq (.ops [⟨(some 2), .box (.tmp 0) 28, none⟩,
   ⟨(some 3), .mv (.const (.bool false)), none⟩])
 (.seq (.ops [⟨(some 4), .faddr (.tmp 2) 0, none⟩,
   ⟨(some 5), .load (.tmp 4) none, none⟩,
   ⟨(some 6), .load (.tmp 1) none, none⟩,
   ⟨(some 7), .call (.func 26) [(.tmp 5), (.tmp 6)], none⟩,
   ⟨(some 3), .mv (.tmp 7), none⟩])
 .ret))
def F_rule_Find_1 : AFunc := ⟨2, 8, [.tmp 3], k_rule_Find_1⟩
theorem ok_rule_Find_1 : FOK Try.prog 25 F_rule_Find_1 := FOK.of [] Try.func25 (by kernel_rfl) (by kernel_rfl)

-- slices.Equal[[]int,int]
@[reducible] def i_slices_Equal___int_int_ : Nat := 26
/-- slices_Equal___int_int_: the body of loop 0 -/
def b_slices_Equal___int_int__0 : ACode :=
 (.seq (.ops [⟨(some 14), .int .lss (.tmp 13) (.tmp 12), none⟩])
 (.seq (.cond (.tmp 14)
  .skip
  (.exit 0))
 (.seq (.block 1 (.seq (.ops [⟨(some 15), .mv (.tmp 13), none⟩,
   ⟨(some 5), .mv (.tmp 15), none⟩])
 (.seq (.draw [⟨(some 16), .mv (.tmp 0), none⟩,
   ⟨(some 17), .mv (.tmp 5), none⟩,
   ⟨(some 18), .iaddr (.tmp 16) (.tmp 17) 1, none⟩,
   ⟨(some 19), .load (.tmp 18) none, none⟩,
   ⟨(some 20), .mv (.tmp 1), none⟩,
   ⟨(some 21), .mv (.tmp 5), none⟩,
   ⟨(some 22), .iaddr (.tmp 20) (.tmp 21) 1, none⟩,
   ⟨(some 23), .load (.tmp 22) none, none⟩,
   ⟨(some 24), .int .neq (.tmp 19) (.tmp 23), none⟩])
 (.cond (.tmp 24)
  (.seq (.ops [⟨(some 4), .mv (.const (.bool false)), none⟩])
  .ret)
  .skip))))
 (.ops [⟨(some 25), .int .add (.tmp 13) (.const (.int .i64 1)), none⟩,
   ⟨(some 13), .mv (.tmp 25), none⟩]))))

def k_slices_Equal___int_int_ : ACode :=
 (.seq (.ops [⟨(some 4), .mv (.const (.bool false)), none⟩])
 (.seq (.seq (.ops [⟨(some 6), .mv (.tmp 0), none⟩,
   ⟨(some 7), .len false (.tmp 6), none⟩,
   ⟨(some 8), .mv (.tmp 1), none⟩,
   ⟨(some 9), .len false (.tmp 8), none⟩,
   ⟨(some 10), .int .neq (.tmp 7) (.tmp 9), none⟩])
 (.cond (.tmp 10)
  (.seq (.ops [⟨(some 4), .mv (.const (.bool false)), none⟩])
  .ret)
  .skip))
 (.seq (.seq (.ops [⟨(some 11), .mv (.tmp 0), none⟩,
   ⟨(some 12), .len false (.tmp 11), none⟩,
   ⟨(some 13), .mv (.const (.int .i64 0)), none⟩])
 (.block 0 (.loop [0, 1, 12, 13] b_slices_Equal___int_int__0)))
 (.seq (.ops [⟨(some 4), .mv (.const (.bool true)), none⟩])
 .ret))))
def F_slices_Equal___int_int_ : AFunc := ⟨2, 26, [.tmp 4], k_slices_Equal___int_int_⟩
theorem ok_slices_Equal___int_int_ : FOK Try.prog 26 F_slices_Equal___int_int_ := FOK.of [[0, 1, 12, 13], [0, 1, 2, 3, 4, 5, 6, 7, 8]] Try.func26 (by kernel_rfl) (by kernel_rfl)

-- slices.Clone[[]int,int]
@[reducible] def i_slices_Clone___int_int_ : Nat := 27
def k_slices_Clone___int_int_ : ACode :=
 (.seq (.ops [⟨(some 2), .mv (.const (.slice none 0 0)), none⟩])
 (.seq (.seq (.ops [⟨(some 3), .mv (.tmp 0), none⟩,
   ⟨(some 4), .isNil 1 false (.tmp 3), none⟩])
 (.cond (.tmp 4)
  (.seq (.ops [⟨(some 2), .mv (.const (.slice none 0 0)), none⟩])
  .ret)
  .skip))
 (.seq (.ops [⟨(some 5), .bslice 3 0 1 [(.int .i64 0)] [], none⟩,
   ⟨(some 6), .mv (.tmp 0), none⟩,
   ⟨(some 7), .append (.tmp 5) (.tmp 6) 3 1 8, none⟩,
   ⟨(some 2), .mv (.tmp 7), none⟩])
 .ret)))
def F_slices_Clone___int_int_ : AFunc := ⟨1, 8, [.tmp 2], k_slices_Clone___int_int_⟩
theorem ok_slices_Clone___int_int_ : FOK Try.prog 27 F_slices_Clone___int_int_ := FOK.of [] Try.func27 (by kernel_rfl) (by kernel_rfl)

-- slices.ContainsFunc[[]int,int]
@[reducible] def i_slices_ContainsFunc___int_int_ : Nat := 28
def k_slices_ContainsFunc___int_int_ : ACode :=
 (.seq (.ops [⟨(some 4), .mv (.const (.bool false)), none⟩])
 (.seq (.ops [⟨(some 5), .mv (.tmp 0), none⟩,
   ⟨(some 6), .mv (.tmp 1), none⟩,
   ⟨(some 7), .call (.func 30) [(.tmp 5), (.tmp 6)], none⟩,
   ⟨(some 8), .int .geq (.tmp 7) (.const (.int .i64 0)), none⟩,
   ⟨(some 4), .mv (.tmp 8), none⟩])
 .ret))
def F_slices_ContainsFunc___int_int_ : AFunc := ⟨2, 9, [.tmp 4], k_slices_ContainsFunc___int_int_⟩
theorem ok_slices_ContainsFunc___int_int_ : FOK Try.prog 28 F_slices_ContainsFunc___int_int_ := FOK.of [] Try.func28 (by kernel_rfl) (by kernel_rfl)

-- lontar/rule.side$1
@[reducible] def i_rule_side_1 : Nat := 29
def k_rule_side_1 : ACode :=
 (.seq (.ops [⟨(some 2), .mv (.const (.bool false)), none⟩])
 (.seq (.ops [⟨(some 3), .mv (.tmp 0), none⟩,
   ⟨(some 4), .int .lss (.tmp 3) (.const (.int .i64 0)), none⟩,
   ⟨(some 5), .mv (.tmp 4), none⟩,
   ⟨(some 6), .mv (.tmp 0), some (5, false)⟩,
   ⟨(some 7), .int .gtr (.tmp 6) (.const (.int .i64 1114111)), some (5, false)⟩,
   ⟨(some 8), .pick (.tmp 5) (.const (.bool true)) (.tmp 7), none⟩,
   ⟨(some 2), .mv (.tmp 8), none⟩])
 .ret))
def F_rule_side_1 : AFunc := ⟨1, 9, [.tmp 2], k_rule_side_1⟩
theorem ok_rule_side_1 : FOK Try.prog 29 F_rule_side_1 := FOK.of [] Try.func29 (by kernel_rfl) (by kernel_rfl)

-- slices.IndexFunc[[]int,int]
@[reducible] def i_slices_IndexFunc___int_int_ : Nat := 30
/-- slices_IndexFunc___int_int_: the body of loop 0 -/
def b_slices_IndexFunc___int_int__0 : ACode :=
 (.seq (.ops [⟨(some 9), .int .lss (.tmp 8) (.tmp 7), none⟩])
 (.seq (.cond (.tmp 9)
  .skip
  (.exit 0))
 (.seq (.block 1 (.seq (.ops [⟨(some 10), .mv (.tmp 8), none⟩,
   ⟨(some 5), .mv (.tmp 10), none⟩])
 (.seq (.ops [⟨(some 11), .mv (.tmp 1), none⟩,
   ⟨(some 12), .mv (.tmp 0), none⟩,
   ⟨(some 13), .mv (.tmp 5), none⟩,
   ⟨(some 14), .iaddr (.tmp 12) (.tmp 13) 1, none⟩,
   ⟨(some 15), .load (.tmp 14) none, none⟩,
   ⟨(some 16), .call (.tmp 11) [(.tmp 15)], none⟩])
 (.cond (.tmp 16)
  (.seq (.ops [⟨(some 17), .mv (.tmp 5), none⟩,
    ⟨(some 4), .mv (.tmp 17), none⟩])
  .ret)
  .skip))))
 (.ops [⟨(some 18), .int .add (.tmp 8) (.const (.int .i64 1)), none⟩,
   ⟨(some 8), .mv (.tmp 18), none⟩]))))

def k_slices_IndexFunc___int_int_ : ACode :=
 (.seq (.ops [⟨(some 4), .mv (.const (.int .i64 0)), none⟩])
 (.seq (.seq (.ops [⟨(some 6), .mv (.tmp 0), none⟩,
   ⟨(some 7), .len false (.tmp 6), none⟩,
   ⟨(some 8), .mv (.const (.int .i64 0)), none⟩])
 (.block 0 (.loop [0, 1, 7, 8] b_slices_IndexFunc___int_int__0)))
 (.seq (.ops [⟨(some 4), .mv (.const (.int .i64 (-1))), none⟩])
 .ret)))
def F_slices_IndexFunc___int_int_ : AFunc := ⟨2, 19, [.tmp 4], k_slices_IndexFunc___int_int_⟩
theorem ok_slices_IndexFunc___int_int_ : FOK Try.prog 30 F_slices_IndexFunc___int_int_ := FOK.of [[0, 1, 7, 8]] Try.func30 (by kernel_rfl) (by kernel_rfl)

end Go.Proofs.Ytdnaaonloaoeeaa
