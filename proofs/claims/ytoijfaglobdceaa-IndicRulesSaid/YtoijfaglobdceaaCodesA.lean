/- What is proved here: what the program's functions come to, as far as the claimed statement asks. Conditions: those that each theorem names, and no others. -/
import Derived.Test.YtoijfaglobdceaaLonW
import Derived.Test.YtoijfaglobdceaaRows
/-! The functions in the interpreter's form. Written by program. -/
set_option linter.unusedSimpArgs false
namespace Go.Proofs.Ytoijfaglobdceaa
open Go Lon

-- lontar/lontarlaw14.IndicPlace
@[reducible] def i_lontarlaw14_IndicPlace : Nat := 3
def k_lontarlaw14_IndicPlace : ACode :=
 (.seq (.ops [⟨(some 2), .mv (.const (.bool false)), none⟩])
 (.seq (.seq (.ops [⟨(some 7), .call (.func 10) [], none⟩,
   ⟨(some 8), .not (.tmp 7), none⟩])
 (.cond (.tmp 8)
  (.seq (.ops [⟨(some 2), .mv (.const (.bool false)), none⟩])
  .ret)
  .skip))
 (.seq (.ops [⟨(some 10), .mv (.tmp 0), none⟩,
   ⟨(some 11), .call (.func 11) [(.tmp 10)], none⟩,
   ⟨(some 9), .mv (.tmp 11), none⟩,
   ⟨(some 12), .ext (.tmp 9) 0, none⟩,
   ⟨(some 13), .ext (.tmp 9) 1, none⟩,
   ⟨(some 3), .mv (.tmp 12), none⟩,
   ⟨(some 4), .mv (.tmp 13), none⟩])
 (.seq (.ops [⟨(some 15), .mv (.tmp 0), none⟩,
   ⟨(some 16), .call (.func 12) [(.tmp 15)], none⟩,
   ⟨(some 14), .mv (.tmp 16), none⟩,
   ⟨(some 17), .ext (.tmp 14) 0, none⟩,
   ⟨(some 18), .ext (.tmp 14) 1, none⟩,
   ⟨(some 5), .mv (.tmp 17), none⟩,
   ⟨(some 6), .mv (.tmp 18), none⟩])
 (.seq (.ops [⟨(some 19), .mv (.tmp 3), none⟩,
   ⟨(some 20), .mv (.tmp 5), none⟩,
   ⟨(some 21), .int .eql (.tmp 19) (.tmp 20), none⟩,
   ⟨(some 22), .mv (.tmp 21), none⟩,
   ⟨(some 23), .mv (.tmp 4), some (22, true)⟩,
   ⟨(some 24), .mv (.tmp 6), some (22, true)⟩,
   ⟨(some 25), .beq false (.tmp 23) (.tmp 24), some (22, true)⟩,
   ⟨(some 26), .pick (.tmp 22) (.tmp 25) (.const (.bool false)), none⟩,
   ⟨(some 2), .mv (.tmp 26), none⟩])
 .ret)))))
def F_lontarlaw14_IndicPlace : AFunc := ⟨1, 27, [.tmp 2], k_lontarlaw14_IndicPlace⟩
theorem ok_lontarlaw14_IndicPlace : FOK Try.prog 3 F_lontarlaw14_IndicPlace := FOK.of [] Try.func3 (by kernel_rfl) (by kernel_rfl)

-- lontar/lontarlaw14.IndicOf
@[reducible] def i_lontarlaw14_IndicOf : Nat := 4
/-- lontarlaw14_IndicOf: the body of loop 0 -/
def b_lontarlaw14_IndicOf_0 : ACode :=
 (.seq (.ops [⟨(some 21), .int .lss (.tmp 20) (.tmp 19), none⟩])
 (.seq (.cond (.tmp 21)
  .skip
  (.exit 0))
 (.seq (.block 1 (.seq (.ops [⟨(some 22), .iaddr (.tmp 18) (.tmp 20) 1, none⟩,
   ⟨(some 23), .load (.tmp 22) none, none⟩,
   ⟨(some 6), .mv (.tmp 23), none⟩])
 (.seq (.ops [⟨(some 25), .mv (.tmp 6), none⟩,
   ⟨(some 26), .call (.func 13) [(.tmp 25)], none⟩,
   ⟨(some 24), .mv (.tmp 26), none⟩,
   ⟨(some 27), .ext (.tmp 24) 0, none⟩,
   ⟨(some 28), .ext (.tmp 24) 1, none⟩,
   ⟨(some 29), .ext (.tmp 24) 2, none⟩,
   ⟨(some 7), .mv (.tmp 27), none⟩,
   ⟨(some 8), .mv (.tmp 28), none⟩,
   ⟨(some 9), .mv (.tmp 29), none⟩])
 (.seq (.ops [⟨(some 30), .mv (.tmp 6), none⟩,
   ⟨(some 31), .int .geq (.tmp 30) (.const (.int .i64 2304)), none⟩,
   ⟨(some 32), .mv (.tmp 31), none⟩,
   ⟨(some 33), .mv (.tmp 6), some (32, true)⟩,
   ⟨(some 34), .int .lss (.tmp 33) (.const (.int .i64 3456)), some (32, true)⟩,
   ⟨(some 35), .pick (.tmp 32) (.tmp 34) (.const (.bool false)), none⟩,
   ⟨(some 36), .mv (.tmp 35), none⟩,
   ⟨(some 37), .mv (.tmp 6), some (36, true)⟩,
   ⟨(some 38), .int .neq (.tmp 37) (.const (.int .i64 2404)), some (36, true)⟩,
   ⟨(some 39), .pick (.tmp 36) (.tmp 38) (.const (.bool false)), none⟩,
   ⟨(some 10), .mv (.tmp 39), none⟩])
 (.seq (.ops [⟨(some 40), .mv (.tmp 9), none⟩,
   ⟨(some 41), .mv (.tmp 10), none⟩,
   ⟨(some 42), .beq true (.tmp 40) (.tmp 41), none⟩,
   ⟨(some 43), .mv (.tmp 42), none⟩,
   ⟨(some 44), .mv (.tmp 9), some (43, false)⟩,
   ⟨(some 45), .not (.tmp 44), some (43, false)⟩,
   ⟨(some 46), .mv (.tmp 45), some (43, false)⟩,
   ⟨(some 47), .mv (.tmp 7), some (46, true)⟩,
   ⟨(some 48), .int .neq (.tmp 47) (.const (.int .i64 0)), some (46, true)⟩,
   ⟨(some 49), .mv (.tmp 48), some (46, true)⟩,
   ⟨(some 50), .mv (.tmp 8), some (49, false)⟩,
   ⟨(some 51), .int .neq (.tmp 50) (.const (.int .i64 0)), some (49, false)⟩,
   ⟨(some 52), .pick (.tmp 49) (.const (.bool true)) (.tmp 51), some (46, true)⟩,
   ⟨(some 53), .pick (.tmp 46) (.tmp 52) (.const (.bool false)), some (43, false)⟩,
   ⟨(some 54), .pick (.tmp 43) (.const (.bool true)) (.tmp 53), none⟩,
   ⟨(some 55), .mv (.tmp 54), none⟩,
   ⟨(some 56), .mv (.tmp 9), some (55, false)⟩,
   ⟨(some 57), .mv (.tmp 56), some (55, false)⟩,
   ⟨(some 58), .mv (.tmp 7), some (57, true)⟩,
   ⟨(some 59), .mv (.tmp 6), some (57, true)⟩,
   ⟨(some 60), .int .sub (.tmp 59) (.const (.int .i64 2304)), some (57, true)⟩,
   ⟨(some 61), .int .quo (.tmp 60) (.const (.int .i64 128)), some (57, true)⟩,
   ⟨(some 62), .int .neq (.tmp 58) (.tmp 61), some (57, true)⟩,
   ⟨(some 63), .mv (.tmp 62), some (57, true)⟩,
   ⟨(some 64), .mv (.tmp 8), some (63, false)⟩,
   ⟨(some 65), .mv (.tmp 6), some (63, false)⟩,
   ⟨(some 66), .int .rem (.tmp 65) (.const (.int .i64 128)), some (63, false)⟩,
   ⟨(some 67), .int .neq (.tmp 64) (.tmp 66), some (63, false)⟩,
   ⟨(some 68), .pick (.tmp 63) (.const (.bool true)) (.tmp 67), some (57, true)⟩,
   ⟨(some 69), .mv (.tmp 68), some (57, true)⟩,
   ⟨(some 70), .mv (.tmp 7), some (69, false)⟩,
   ⟨(some 71), .mv (.tmp 8), some (69, false)⟩,
   ⟨(some 72), .call (.func 14) [(.tmp 70), (.tmp 71)], some (69, false)⟩,
   ⟨(some 73), .mv (.tmp 6), some (69, false)⟩,
   ⟨(some 74), .int .neq (.tmp 72) (.tmp 73), some (69, false)⟩,
   ⟨(some 75), .pick (.tmp 69) (.const (.bool true)) (.tmp 74), some (57, true)⟩,
   ⟨(some 76), .pick (.tmp 57) (.tmp 75) (.const (.bool false)), some (55, false)⟩,
   ⟨(some 77), .pick (.tmp 55) (.const (.bool true)) (.tmp 76), none⟩])
 (.cond (.tmp 77)
  (.seq (.ops [⟨(some 4), .mv (.const (.bool false)), none⟩])
  .ret)
  .skip))))))
 (.ops [⟨(some 78), .int .add (.tmp 20) (.const (.int .i64 1)), none⟩,
   ⟨(some 20), .mv (.tmp 78), none⟩]))))

def k_lontarlaw14_IndicOf : ACode :=
 (.seq (.ops [⟨(some 4), .mv (.const (.bool false)), none⟩])
 (.seq (.seq (.ops [⟨(some 11), .call (.func 10) [], none⟩,
   ⟨(some 12), .not (.tmp 11), none⟩])
 (.cond (.tmp 12)
  (.seq (.ops [⟨(some 4), .mv (.const (.bool false)), none⟩])
  .ret)
  .skip))
 (.seq (.seq (.ops [⟨(some 13), .mv (.tmp 0), none⟩,
   ⟨(some 14), .mv (.tmp 1), none⟩,
   ⟨(some 15), .int .rem (.tmp 14) (.const (.int .u16 1200)), none⟩,
   ⟨(some 16), .conv .i64 (.tmp 15), none⟩,
   ⟨(some 17), .int .add (.const (.int .i64 2288)) (.tmp 16), none⟩,
   ⟨(some 18), .bslice 3 2 1 [(.int .i64 0)] [(0, 1, (.tmp 13)), (1, 1, (.tmp 17))], none⟩,
   ⟨(some 19), .len false (.tmp 18), none⟩,
   ⟨(some 20), .mv (.const (.int .i64 0)), none⟩])
 (.block 0 (.loop [18, 19, 20] b_lontarlaw14_IndicOf_0)))
 (.seq (.ops [⟨(some 4), .mv (.const (.bool true)), none⟩])
 .ret))))
def F_lontarlaw14_IndicOf : AFunc := ⟨2, 79, [.tmp 4], k_lontarlaw14_IndicOf⟩
theorem ok_lontarlaw14_IndicOf : FOK Try.prog 4 F_lontarlaw14_IndicOf := FOK.of [[18, 19, 20]] Try.func4 (by kernel_rfl) (by kernel_rfl)

-- lontar/lontarlaw14.IndicCode
@[reducible] def i_lontarlaw14_IndicCode : Nat := 5
def k_lontarlaw14_IndicCode : ACode :=
 (.seq (.ops [⟨(some 4), .mv (.const (.bool false)), none⟩])
 (.seq (.seq (.ops [⟨(some 9), .call (.func 10) [], none⟩,
   ⟨(some 10), .not (.tmp 9), none⟩])
 (.cond (.tmp 10)
  (.seq (.ops [⟨(some 4), .mv (.const (.bool false)), none⟩])
  .ret)
  .skip))
 (.seq (.ops [⟨(some 12), .mv (.tmp 0), none⟩,
   ⟨(some 13), .conv .i64 (.tmp 12), none⟩,
   ⟨(some 14), .call (.func 15) [(.tmp 13)], none⟩,
   ⟨(some 11), .mv (.tmp 14), none⟩,
   ⟨(some 15), .ext (.tmp 11) 0, none⟩,
   ⟨(some 16), .ext (.tmp 11) 1, none⟩,
   ⟨(some 5), .mv (.tmp 15), none⟩,
   ⟨(some 6), .mv (.tmp 16), none⟩])
 (.seq (.seq (.ops [⟨(some 17), .mv (.tmp 0), none⟩,
   ⟨(some 18), .int .lss (.tmp 17) (.const (.int .i8 0)), none⟩,
   ⟨(some 19), .mv (.tmp 18), none⟩,
   ⟨(some 20), .mv (.tmp 0), some (19, false)⟩,
   ⟨(some 21), .int .gtr (.tmp 20) (.const (.int .i8 8)), some (19, false)⟩,
   ⟨(some 22), .pick (.tmp 19) (.const (.bool true)) (.tmp 21), none⟩])
 (.cond (.tmp 22)
  (.seq (.ops [⟨(some 23), .mv (.tmp 6), none⟩,
    ⟨(some 24), .not (.tmp 23), none⟩,
    ⟨(some 25), .mv (.tmp 24), none⟩,
    ⟨(some 26), .mv (.tmp 5), some (25, true)⟩,
    ⟨(some 27), .int .eql (.tmp 26) (.const (.int .i64 0)), some (25, true)⟩,
    ⟨(some 28), .pick (.tmp 25) (.tmp 27) (.const (.bool false)), none⟩,
    ⟨(some 4), .mv (.tmp 28), none⟩])
  .ret)
  .skip))
 (.seq (.ops [⟨(some 30), .mv (.tmp 1), none⟩,
   ⟨(some 31), .int .rem (.tmp 30) (.const (.int .u8 9)), none⟩,
   ⟨(some 32), .conv .i64 (.tmp 31), none⟩,
   ⟨(some 33), .call (.func 15) [(.tmp 32)], none⟩,
   ⟨(some 29), .mv (.tmp 33), none⟩,
   ⟨(some 34), .ext (.tmp 29) 0, none⟩,
   ⟨(some 35), .ext (.tmp 29) 1, none⟩,
   ⟨(some 7), .mv (.tmp 34), none⟩,
   ⟨(some 8), .mv (.tmp 35), none⟩])
 (.seq (.ops [⟨(some 36), .mv (.tmp 6), none⟩,
   ⟨(some 37), .mv (.tmp 36), none⟩,
   ⟨(some 38), .mv (.tmp 8), some (37, true)⟩,
   ⟨(some 39), .pick (.tmp 37) (.tmp 38) (.const (.bool false)), none⟩,
   ⟨(some 40), .mv (.tmp 39), none⟩,
   ⟨(some 41), .mv (.tmp 5), some (40, true)⟩,
   ⟨(some 42), .call (.func 16) [], some (40, true)⟩,
   ⟨(some 43), .mv (.tmp 0), some (40, true)⟩,
   ⟨(some 44), .iaddr (.tmp 42) (.tmp 43) 1, some (40, true)⟩,
   ⟨(some 45), .load (.tmp 44) none, some (40, true)⟩,
   ⟨(some 46), .int .eql (.tmp 41) (.tmp 45), some (40, true)⟩,
   ⟨(some 47), .pick (.tmp 40) (.tmp 46) (.const (.bool false)), none⟩,
   ⟨(some 48), .mv (.tmp 47), none⟩,
   ⟨(some 49), .mv (.tmp 7), some (48, true)⟩,
   ⟨(some 50), .call (.func 16) [], some (48, true)⟩,
   ⟨(some 51), .mv (.tmp 1), some (48, true)⟩,
   ⟨(some 52), .int .rem (.tmp 51) (.const (.int .u8 9)), some (48, true)⟩,
   ⟨(some 53), .iaddr (.tmp 50) (.tmp 52) 1, some (48, true)⟩,
   ⟨(some 54), .load (.tmp 53) none, some (48, true)⟩,
   ⟨(some 55), .int .eql (.tmp 49) (.tmp 54), some (48, true)⟩,
   ⟨(some 56), .pick (.tmp 48) (.tmp 55) (.const (.bool false)), none⟩,
   ⟨(some 4), .mv (.tmp 56), none⟩])
 .ret))))))
def F_lontarlaw14_IndicCode : AFunc := ⟨2, 57, [.tmp 4], k_lontarlaw14_IndicCode⟩
theorem ok_lontarlaw14_IndicCode : FOK Try.prog 5 F_lontarlaw14_IndicCode := FOK.of [] Try.func5 (by kernel_rfl) (by kernel_rfl)

-- lontar/lontarlaw14.IndicRules
@[reducible] def i_lontarlaw14_IndicRules : Nat := 6
/-- lontarlaw14_IndicRules: the body of loop 0 -/
def b_lontarlaw14_IndicRules_0 : ACode :=
 (.seq (.ops [⟨(some 17), .int .lss (.tmp 16) (.tmp 15), none⟩])
 (.seq (.cond (.tmp 17)
  .skip
  (.exit 0))
 (.seq (.block 1 (.seq (.ops [⟨(some 18), .mv (.tmp 16), none⟩,
   ⟨(some 19), .iaddr (.tmp 14) (.tmp 16) 2, none⟩,
   ⟨(some 20), .load (.tmp 19) (some 2), none⟩,
   ⟨(some 5), .alloc [(.int .i64 0), (.int .i64 0)] 39, none⟩,
   ⟨(some 4), .mv (.tmp 18), none⟩,
   ⟨none, .store (.tmp 5) (.tmp 20) 2, none⟩])
 (.seq (.draw [⟨(some 21), .mv (.tmp 3), none⟩,
   ⟨(some 22), .mv (.tmp 4), none⟩,
   ⟨(some 23), .iaddr (.tmp 21) (.tmp 22) 2, none⟩,
   ⟨(some 24), .load (.tmp 23) (some 2), none⟩,
   ⟨(some 25), .load (.tmp 5) (some 2), none⟩,
   ⟨(some 26), .gen ⟨none, (.binOp .neq 39 (.tmp 24) (.tmp 25) 39), 4, "", #[], none⟩, none⟩])
 (.cond (.tmp 26)
  (.seq (.ops [⟨(some 2), .mv (.const (.bool false)), none⟩])
  .ret)
  .skip))))
 (.ops [⟨(some 27), .int .add (.tmp 16) (.const (.int .i64 1)), none⟩,
   ⟨(some 16), .mv (.tmp 27), none⟩]))))

def k_lontarlaw14_IndicRules : ACode :=
 (.seq (.ops [⟨(some 2), .mv (.const (.bool false)), none⟩])
 (.seq (.seq (.ops [⟨(some 6), .call (.func 10) [], none⟩,
   ⟨(some 7), .not (.tmp 6), none⟩])
 (.cond (.tmp 7)
  (.seq (.ops [⟨(some 2), .mv (.const (.bool false)), none⟩])
  .ret)
  .skip))
 (.seq (.ops [⟨(some 8), .call (.func 17) [], none⟩,
   ⟨(some 3), .mv (.tmp 8), none⟩])
 (.seq (.seq (.ops [⟨(some 9), .mv (.tmp 3), none⟩,
   ⟨(some 10), .len false (.tmp 9), none⟩,
   ⟨(some 11), .call (.func 18) [], none⟩,
   ⟨(some 12), .len false (.tmp 11), none⟩,
   ⟨(some 13), .int .neq (.tmp 10) (.tmp 12), none⟩])
 (.cond (.tmp 13)
  (.seq (.ops [⟨(some 2), .mv (.const (.bool false)), none⟩])
  .ret)
  .skip))
 (.seq (.seq (.ops [⟨(some 14), .call (.func 18) [], none⟩,
   ⟨(some 15), .len false (.tmp 14), none⟩,
   ⟨(some 16), .mv (.const (.int .i64 0)), none⟩])
 (.block 0 (.loop [0, 3, 14, 15, 16] b_lontarlaw14_IndicRules_0)))
 (.seq (.ops [⟨(some 28), .call (.func 20) [], none⟩,
   ⟨(some 29), .call (.func 21) [], none⟩,
   ⟨(some 30), .call (.func 19) [(.tmp 28), (.tmp 29)], none⟩,
   ⟨(some 31), .mv (.tmp 30), none⟩,
   ⟨(some 32), .call (.func 20) [], some (31, true)⟩,
   ⟨(some 33), .len false (.tmp 32), some (31, true)⟩,
   ⟨(some 34), .mv (.tmp 0), some (31, true)⟩,
   ⟨(some 35), .int .rem (.tmp 34) (.const (.int .u8 200)), some (31, true)⟩,
   ⟨(some 36), .conv .i64 (.tmp 35), some (31, true)⟩,
   ⟨(some 37), .int .gtr (.tmp 33) (.tmp 36), some (31, true)⟩,
   ⟨(some 38), .pick (.tmp 31) (.tmp 37) (.const (.bool false)), none⟩,
   ⟨(some 2), .mv (.tmp 38), none⟩])
 .ret))))))
def F_lontarlaw14_IndicRules : AFunc := ⟨1, 39, [.tmp 2], k_lontarlaw14_IndicRules⟩
theorem ok_lontarlaw14_IndicRules : FOK Try.prog 6 F_lontarlaw14_IndicRules := FOK.of [[0, 3, 14, 15, 16], [0, 1, 2, 3, 4, 5]] Try.func6 (by kernel_rfl) (by kernel_rfl)

-- lontar/lontarlaw14.IndicScalar
@[reducible] def i_lontarlaw14_IndicScalar : Nat := 7
def k_lontarlaw14_IndicScalar : ACode :=
 (.seq (.ops [⟨(some 6), .mv (.const (.bool false)), none⟩])
 (.seq (.seq (.ops [⟨(some 12), .call (.func 10) [], none⟩,
   ⟨(some 13), .not (.tmp 12), none⟩])
 (.cond (.tmp 13)
  (.seq (.ops [⟨(some 6), .mv (.const (.bool false)), none⟩])
  .ret)
  .skip))
 (.seq (.ops [⟨(some 14), .mv (.tmp 0), none⟩,
   ⟨(some 15), .int .rem (.tmp 14) (.const (.int .u8 9)), none⟩,
   ⟨(some 16), .conv .i64 (.tmp 15), none⟩,
   ⟨(some 17), .mv (.tmp 1), none⟩,
   ⟨(some 18), .int .rem (.tmp 17) (.const (.int .u8 128)), none⟩,
   ⟨(some 19), .conv .i64 (.tmp 18), none⟩,
   ⟨(some 20), .call (.func 14) [(.tmp 16), (.tmp 19)], none⟩,
   ⟨(some 21), .mv (.tmp 0), none⟩,
   ⟨(some 22), .int .quo (.tmp 21) (.const (.int .u8 9)), none⟩,
   ⟨(some 23), .int .rem (.tmp 22) (.const (.int .u8 9)), none⟩,
   ⟨(some 24), .conv .i64 (.tmp 23), none⟩,
   ⟨(some 25), .mv (.tmp 2), none⟩,
   ⟨(some 26), .int .rem (.tmp 25) (.const (.int .u8 128)), none⟩,
   ⟨(some 27), .conv .i64 (.tmp 26), none⟩,
   ⟨(some 28), .call (.func 14) [(.tmp 24), (.tmp 27)], none⟩,
   ⟨(some 7), .mv (.tmp 20), none⟩,
   ⟨(some 8), .mv (.tmp 28), none⟩])
 (.seq (.ops [⟨(some 30), .mv (.tmp 7), none⟩,
   ⟨(some 31), .call (.func 13) [(.tmp 30)], none⟩,
   ⟨(some 29), .mv (.tmp 31), none⟩,
   ⟨(some 32), .ext (.tmp 29) 0, none⟩,
   ⟨(some 33), .ext (.tmp 29) 1, none⟩,
   ⟨(some 34), .ext (.tmp 29) 2, none⟩,
   ⟨(some 9), .mv (.tmp 32), none⟩,
   ⟨(some 10), .mv (.tmp 33), none⟩,
   ⟨(some 11), .mv (.tmp 34), none⟩])
 (.seq (.ops [⟨(some 35), .mv (.tmp 7), none⟩,
   ⟨(some 36), .mv (.tmp 8), none⟩,
   ⟨(some 37), .int .eql (.tmp 35) (.tmp 36), none⟩,
   ⟨(some 38), .mv (.tmp 0), none⟩,
   ⟨(some 39), .int .rem (.tmp 38) (.const (.int .u8 9)), none⟩,
   ⟨(some 40), .mv (.tmp 0), none⟩,
   ⟨(some 41), .int .quo (.tmp 40) (.const (.int .u8 9)), none⟩,
   ⟨(some 42), .int .rem (.tmp 41) (.const (.int .u8 9)), none⟩,
   ⟨(some 43), .int .eql (.tmp 39) (.tmp 42), none⟩,
   ⟨(some 44), .mv (.tmp 43), none⟩,
   ⟨(some 45), .mv (.tmp 1), some (44, true)⟩,
   ⟨(some 46), .int .rem (.tmp 45) (.const (.int .u8 128)), some (44, true)⟩,
   ⟨(some 47), .mv (.tmp 2), some (44, true)⟩,
   ⟨(some 48), .int .rem (.tmp 47) (.const (.int .u8 128)), some (44, true)⟩,
   ⟨(some 49), .int .eql (.tmp 46) (.tmp 48), some (44, true)⟩,
   ⟨(some 50), .pick (.tmp 44) (.tmp 49) (.const (.bool false)), none⟩,
   ⟨(some 51), .beq false (.tmp 37) (.tmp 50), none⟩,
   ⟨(some 52), .mv (.tmp 51), none⟩,
   ⟨(some 53), .mv (.tmp 11), some (52, true)⟩,
   ⟨(some 54), .mv (.tmp 53), some (52, true)⟩,
   ⟨(some 55), .mv (.tmp 9), some (54, true)⟩,
   ⟨(some 56), .mv (.tmp 0), some (54, true)⟩,
   ⟨(some 57), .int .rem (.tmp 56) (.const (.int .u8 9)), some (54, true)⟩,
   ⟨(some 58), .conv .i64 (.tmp 57), some (54, true)⟩,
   ⟨(some 59), .int .eql (.tmp 55) (.tmp 58), some (54, true)⟩,
   ⟨(some 60), .pick (.tmp 54) (.tmp 59) (.const (.bool false)), some (52, true)⟩,
   ⟨(some 61), .mv (.tmp 60), some (52, true)⟩,
   ⟨(some 62), .mv (.tmp 10), some (61, true)⟩,
   ⟨(some 63), .mv (.tmp 1), some (61, true)⟩,
   ⟨(some 64), .int .rem (.tmp 63) (.const (.int .u8 128)), some (61, true)⟩,
   ⟨(some 65), .conv .i64 (.tmp 64), some (61, true)⟩,
   ⟨(some 66), .int .eql (.tmp 62) (.tmp 65), some (61, true)⟩,
   ⟨(some 67), .pick (.tmp 61) (.tmp 66) (.const (.bool false)), some (52, true)⟩,
   ⟨(some 68), .mv (.tmp 67), some (52, true)⟩,
   ⟨(some 69), .mv (.tmp 11), some (68, false)⟩,
   ⟨(some 70), .not (.tmp 69), some (68, false)⟩,
   ⟨(some 71), .mv (.tmp 70), some (68, false)⟩,
   ⟨(some 72), .mv (.tmp 7), some (71, true)⟩,
   ⟨(some 73), .int .eql (.tmp 72) (.const (.int .i64 2404)), some (71, true)⟩,
   ⟨(some 74), .pick (.tmp 71) (.tmp 73) (.const (.bool false)), some (68, false)⟩,
   ⟨(some 75), .pick (.tmp 68) (.const (.bool true)) (.tmp 74), some (52, true)⟩,
   ⟨(some 76), .pick (.tmp 52) (.tmp 75) (.const (.bool false)), none⟩,
   ⟨(some 6), .mv (.tmp 76), none⟩])
 .ret)))))
def F_lontarlaw14_IndicScalar : AFunc := ⟨3, 77, [.tmp 6], k_lontarlaw14_IndicScalar⟩
theorem ok_lontarlaw14_IndicScalar : FOK Try.prog 7 F_lontarlaw14_IndicScalar := FOK.of [] Try.func7 (by kernel_rfl) (by kernel_rfl)

-- lontar/lontarlaw14.IndicNukta
@[reducible] def i_lontarlaw14_IndicNukta : Nat := 8
def k_lontarlaw14_IndicNukta : ACode :=
 (.seq (.ops [⟨(some 2), .mv (.const (.bool false)), none⟩])
 (.seq (.seq (.ops [⟨(some 7), .call (.func 10) [], none⟩,
   ⟨(some 8), .not (.tmp 7), none⟩])
 (.cond (.tmp 8)
  (.seq (.ops [⟨(some 2), .mv (.const (.bool false)), none⟩])
  .ret)
  .skip))
 (.seq (.ops [⟨(some 9), .call (.func 17) [], none⟩,
   ⟨(some 3), .mv (.tmp 9), none⟩])
 (.seq (.seq (.ops [⟨(some 10), .mv (.tmp 3), none⟩,
   ⟨(some 11), .len false (.tmp 10), none⟩,
   ⟨(some 12), .int .eql (.tmp 11) (.const (.int .i64 0)), none⟩])
 (.cond (.tmp 12)
  (.seq (.ops [⟨(some 2), .mv (.const (.bool false)), none⟩])
  .ret)
  .skip))
 (.seq (.ops [⟨(some 13), .mv (.tmp 3), none⟩,
   ⟨(some 14), .mv (.tmp 0), none⟩,
   ⟨(some 15), .conv .i64 (.tmp 14), none⟩,
   ⟨(some 16), .mv (.tmp 3), none⟩,
   ⟨(some 17), .len false (.tmp 16), none⟩,
   ⟨(some 18), .int .rem (.tmp 15) (.tmp 17), none⟩,
   ⟨(some 19), .iaddr (.tmp 13) (.tmp 18) 2, none⟩,
   ⟨(some 20), .load (.tmp 19) (some 2), none⟩,
   ⟨(some 4), .alloc [(.int .i64 0), (.int .i64 0)] 39, none⟩,
   ⟨none, .store (.tmp 4) (.tmp 20) 2, none⟩])
 (.seq (.ops [⟨(some 22), .aaddr (.tmp 4) (.const (.int .i64 0)) 2 1, none⟩,
   ⟨(some 23), .load (.tmp 22) none, none⟩,
   ⟨(some 24), .conv .u8 (.tmp 23), none⟩,
   ⟨(some 25), .call (.func 11) [(.tmp 24)], none⟩,
   ⟨(some 21), .mv (.tmp 25), none⟩,
   ⟨(some 26), .ext (.tmp 21) 0, none⟩,
   ⟨(some 27), .ext (.tmp 21) 1, none⟩,
   ⟨(some 5), .mv (.tmp 26), none⟩,
   ⟨(some 6), .mv (.tmp 27), none⟩])
 (.seq (.draw [⟨(some 28), .mv (.tmp 6), none⟩,
   ⟨(some 29), .mv (.tmp 28), none⟩,
   ⟨(some 30), .mv (.tmp 5), some (29, true)⟩,
   ⟨(some 31), .aaddr (.tmp 4) (.const (.int .i64 1)) 2 1, some (29, true)⟩,
   ⟨(some 32), .load (.tmp 31) none, some (29, true)⟩,
   ⟨(some 33), .int .neq (.tmp 30) (.tmp 32), some (29, true)⟩,
   ⟨(some 34), .pick (.tmp 29) (.tmp 33) (.const (.bool false)), none⟩,
   ⟨(some 35), .mv (.tmp 34), none⟩,
   ⟨(some 36), .aaddr (.tmp 4) (.const (.int .i64 1)) 2 1, some (35, true)⟩,
   ⟨(some 37), .load (.tmp 36) none, some (35, true)⟩,
   ⟨(some 38), .int .gtr (.tmp 37) (.const (.int .i64 0)), some (35, true)⟩,
   ⟨(some 39), .pick (.tmp 35) (.tmp 38) (.const (.bool false)), none⟩,
   ⟨(some 40), .mv (.tmp 39), none⟩,
   ⟨(some 41), .aaddr (.tmp 4) (.const (.int .i64 1)) 2 1, some (40, true)⟩,
   ⟨(some 42), .load (.tmp 41) none, some (40, true)⟩,
   ⟨(some 43), .int .lss (.tmp 42) (.const (.int .i64 128)), some (40, true)⟩,
   ⟨(some 44), .pick (.tmp 40) (.tmp 43) (.const (.bool false)), none⟩,
   ⟨(some 45), .mv (.tmp 44), none⟩,
   ⟨(some 47), .aaddr (.tmp 4) (.const (.int .i64 0)) 2 1, some (45, true)⟩,
   ⟨(some 48), .load (.tmp 47) none, some (45, true)⟩,
   ⟨(some 49), .bslice 3 2 1 [(.int .i64 0)] [(0, 1, (.tmp 48)), (1, 1, (.const (.int .i64 233)))], some (45, true)⟩,
   ⟨(some 46), .call (.func 20) [], some (45, true)⟩,
   ⟨(some 50), .call (.func 22) [(.tmp 46), (.tmp 49)], some (45, true)⟩,
   ⟨(some 51), .int .geq (.tmp 50) (.const (.int .i64 0)), some (45, true)⟩,
   ⟨(some 52), .pick (.tmp 45) (.tmp 51) (.const (.bool false)), none⟩,
   ⟨(some 2), .mv (.tmp 52), none⟩])
 .ret)))))))
def F_lontarlaw14_IndicNukta : AFunc := ⟨1, 53, [.tmp 2], k_lontarlaw14_IndicNukta⟩
theorem ok_lontarlaw14_IndicNukta : FOK Try.prog 8 F_lontarlaw14_IndicNukta := FOK.of [[0, 1, 2, 3, 4, 5, 6, 7, 8, 9, 10, 11, 12, 13, 14, 15, 16, 17, 19, 20, 21, 18, 22, 23, 24, 25]] Try.func8 (by kernel_rfl) (by kernel_rfl)

-- lontar/lontarlaw14.IndicRight
@[reducible] def i_lontarlaw14_IndicRight : Nat := 9
def k_lontarlaw14_IndicRight : ACode :=
 (.seq (.ops [⟨(some 4), .mv (.const (.bool false)), none⟩])
 (.seq (.seq (.ops [⟨(some 11), .call (.func 10) [], none⟩,
   ⟨(some 12), .not (.tmp 11), none⟩])
 (.cond (.tmp 12)
  (.seq (.ops [⟨(some 4), .mv (.const (.bool false)), none⟩])
  .ret)
  .skip))
 (.seq (.ops [⟨(some 13), .call (.func 20) [], none⟩,
   ⟨(some 5), .mv (.tmp 13), none⟩])
 (.seq (.ops [⟨(some 15), .mv (.tmp 5), none⟩,
   ⟨(some 16), .call (.func 23) [(.tmp 15)], none⟩,
   ⟨(some 14), .mv (.tmp 16), none⟩,
   ⟨(some 17), .ext (.tmp 14) 0, none⟩,
   ⟨(some 18), .ext (.tmp 14) 1, none⟩,
   ⟨(some 6), .mv (.tmp 17), none⟩,
   ⟨(some 7), .mv (.tmp 18), none⟩])
 (.seq (.ops [⟨(some 19), .mv (.tmp 5), none⟩,
   ⟨(some 20), .call (.func 24) [(.tmp 19)], none⟩,
   ⟨(some 8), .mv (.tmp 20), none⟩])
 (.seq (.seq (.ops [⟨(some 21), .mv (.tmp 7), none⟩,
   ⟨(some 22), .int .neq (.tmp 21) (.const (.int .i64 0)), none⟩,
   ⟨(some 23), .mv (.tmp 22), none⟩,
   ⟨(some 24), .mv (.tmp 8), some (23, false)⟩,
   ⟨(some 25), .len false (.tmp 24), some (23, false)⟩,
   ⟨(some 26), .mv (.tmp 5), some (23, false)⟩,
   ⟨(some 27), .len false (.tmp 26), some (23, false)⟩,
   ⟨(some 28), .int .neq (.tmp 25) (.tmp 27), some (23, false)⟩,
   ⟨(some 29), .pick (.tmp 23) (.const (.bool true)) (.tmp 28), none⟩,
   ⟨(some 30), .mv (.tmp 29), none⟩,
   ⟨(some 31), .mv (.tmp 5), some (30, false)⟩,
   ⟨(some 32), .len false (.tmp 31), some (30, false)⟩,
   ⟨(some 33), .int .eql (.tmp 32) (.const (.int .i64 0)), some (30, false)⟩,
   ⟨(some 34), .pick (.tmp 30) (.const (.bool true)) (.tmp 33), none⟩])
 (.cond (.tmp 34)
  (.seq (.ops [⟨(some 4), .mv (.const (.bool false)), none⟩])
  .ret)
  .skip))
 (.seq (.draw [⟨(some 35), .mv (.tmp 0), none⟩,
   ⟨(some 36), .conv .i64 (.tmp 35), none⟩,
   ⟨(some 37), .mv (.tmp 5), none⟩,
   ⟨(some 38), .len false (.tmp 37), none⟩,
   ⟨(some 39), .int .rem (.tmp 36) (.tmp 38), none⟩,
   ⟨(some 40), .mv (.tmp 1), none⟩,
   ⟨(some 41), .conv .i64 (.tmp 40), none⟩,
   ⟨(some 42), .mv (.tmp 5), none⟩,
   ⟨(some 43), .len false (.tmp 42), none⟩,
   ⟨(some 44), .int .rem (.tmp 41) (.tmp 43), none⟩,
   ⟨(some 9), .mv (.tmp 39), none⟩,
   ⟨(some 10), .mv (.tmp 44), none⟩])
 (.seq (.ops [⟨(some 45), .mv (.tmp 5), none⟩,
   ⟨(some 46), .mv (.tmp 5), none⟩,
   ⟨(some 47), .mv (.tmp 9), none⟩,
   ⟨(some 48), .iaddr (.tmp 46) (.tmp 47) 2, none⟩,
   ⟨(some 49), .faddr (.tmp 48) 0, none⟩,
   ⟨(some 50), .load (.tmp 49) none, none⟩,
   ⟨(some 51), .call (.func 22) [(.tmp 45), (.tmp 50)], none⟩,
   ⟨(some 52), .mv (.tmp 10), none⟩,
   ⟨(some 53), .int .eql (.tmp 51) (.tmp 52), none⟩,
   ⟨(some 54), .mv (.tmp 9), none⟩,
   ⟨(some 55), .mv (.tmp 10), none⟩,
   ⟨(some 56), .int .eql (.tmp 54) (.tmp 55), none⟩,
   ⟨(some 57), .beq false (.tmp 53) (.tmp 56), none⟩,
   ⟨(some 58), .mv (.tmp 57), none⟩,
   ⟨(some 59), .mv (.tmp 8), some (58, true)⟩,
   ⟨(some 60), .mv (.tmp 5), some (58, true)⟩,
   ⟨(some 61), .mv (.tmp 9), some (58, true)⟩,
   ⟨(some 62), .iaddr (.tmp 60) (.tmp 61) 2, some (58, true)⟩,
   ⟨(some 63), .faddr (.tmp 62) 1, some (58, true)⟩,
   ⟨(some 64), .load (.tmp 63) none, some (58, true)⟩,
   ⟨(some 65), .call (.func 22) [(.tmp 59), (.tmp 64)], some (58, true)⟩,
   ⟨(some 66), .mv (.tmp 10), some (58, true)⟩,
   ⟨(some 67), .int .eql (.tmp 65) (.tmp 66), some (58, true)⟩,
   ⟨(some 68), .mv (.tmp 9), some (58, true)⟩,
   ⟨(some 69), .mv (.tmp 10), some (58, true)⟩,
   ⟨(some 70), .int .eql (.tmp 68) (.tmp 69), some (58, true)⟩,
   ⟨(some 71), .beq false (.tmp 67) (.tmp 70), some (58, true)⟩,
   ⟨(some 72), .pick (.tmp 58) (.tmp 71) (.const (.bool false)), none⟩,
   ⟨(some 4), .mv (.tmp 72), none⟩])
 .ret))))))))
def F_lontarlaw14_IndicRight : AFunc := ⟨2, 73, [.tmp 4], k_lontarlaw14_IndicRight⟩
theorem ok_lontarlaw14_IndicRight : FOK Try.prog 9 F_lontarlaw14_IndicRight := FOK.of [[0, 1, 2, 3, 4, 5, 6, 7, 8, 9, 10, 11]] Try.func9 (by kernel_rfl) (by kernel_rfl)

-- lontar/lontarlaw14.awake
@[reducible] def i_lontarlaw14_awake : Nat := 10
def k_lontarlaw14_awake : ACode :=
 (.seq (.ops [⟨(some 0), .mv (.const (.bool false)), none⟩])
 (.seq (.ops [⟨(some 12), .call (.func 11) [(.const (.int .u8 179))], none⟩,
   ⟨(some 11), .mv (.tmp 12), none⟩,
   ⟨(some 13), .ext (.tmp 11) 0, none⟩,
   ⟨(some 14), .ext (.tmp 11) 1, none⟩,
   ⟨(some 1), .mv (.tmp 13), none⟩,
   ⟨(some 2), .mv (.tmp 14), none⟩])
 (.seq (.ops [⟨(some 16), .call (.func 13) [(.const (.int .i64 2453))], none⟩,
   ⟨(some 15), .mv (.tmp 16), none⟩,
   ⟨(some 17), .ext (.tmp 15) 0, none⟩,
   ⟨(some 18), .ext (.tmp 15) 1, none⟩,
   ⟨(some 19), .ext (.tmp 15) 2, none⟩,
   ⟨(some 3), .mv (.tmp 17), none⟩,
   ⟨(some 4), .mv (.tmp 18), none⟩,
   ⟨(some 5), .mv (.tmp 19), none⟩])
 (.seq (.ops [⟨(some 21), .call (.func 15) [(.const (.int .i64 8))], none⟩,
   ⟨(some 20), .mv (.tmp 21), none⟩,
   ⟨(some 22), .ext (.tmp 20) 0, none⟩,
   ⟨(some 23), .ext (.tmp 20) 1, none⟩,
   ⟨(some 6), .mv (.tmp 22), none⟩,
   ⟨(some 7), .mv (.tmp 23), none⟩])
 (.seq (.ops [⟨(some 25), .call (.func 13) [(.const (.int .i64 2404))], none⟩,
   ⟨(some 24), .mv (.tmp 25), none⟩,
   ⟨(some 26), .ext (.tmp 24) 0, none⟩,
   ⟨(some 27), .ext (.tmp 24) 1, none⟩,
   ⟨(some 28), .ext (.tmp 24) 2, none⟩,
   ⟨(some 8), .mv (.tmp 26), none⟩,
   ⟨(some 9), .mv (.tmp 27), none⟩,
   ⟨(some 10), .mv (.tmp 28), none⟩])
 (.seq (.ops [⟨(some 29), .mv (.tmp 2), none⟩,
   ⟨(some 30), .mv (.tmp 29), none⟩,
   ⟨(some 31), .mv (.tmp 1), some (30, true)⟩,
   ⟨(some 32), .int .eql (.tmp 31) (.const (.int .i64 21)), some (30, true)⟩,
   ⟨(some 33), .pick (.tmp 30) (.tmp 32) (.const (.bool false)), none⟩,
   ⟨(some 34), .mv (.tmp 33), none⟩,
   ⟨(some 35), .mv (.tmp 1), some (34, true)⟩,
   ⟨(some 36), .call (.func 14) [(.const (.int .i64 0)), (.tmp 35)], some (34, true)⟩,
   ⟨(some 37), .int .eql (.tmp 36) (.const (.int .i64 2325)), some (34, true)⟩,
   ⟨(some 38), .pick (.tmp 34) (.tmp 37) (.const (.bool false)), none⟩,
   ⟨(some 39), .mv (.tmp 38), none⟩,
   ⟨(some 40), .mv (.tmp 5), some (39, true)⟩,
   ⟨(some 41), .pick (.tmp 39) (.tmp 40) (.const (.bool false)), none⟩,
   ⟨(some 42), .mv (.tmp 41), none⟩,
   ⟨(some 43), .mv (.tmp 3), some (42, true)⟩,
   ⟨(some 44), .int .eql (.tmp 43) (.const (.int .i64 1)), some (42, true)⟩,
   ⟨(some 45), .pick (.tmp 42) (.tmp 44) (.const (.bool false)), none⟩,
   ⟨(some 46), .mv (.tmp 45), none⟩,
   ⟨(some 47), .mv (.tmp 4), some (46, true)⟩,
   ⟨(some 48), .int .eql (.tmp 47) (.const (.int .i64 21)), some (46, true)⟩,
   ⟨(some 49), .pick (.tmp 46) (.tmp 48) (.const (.bool false)), none⟩,
   ⟨(some 50), .mv (.tmp 49), none⟩,
   ⟨(some 51), .mv (.tmp 7), some (50, true)⟩,
   ⟨(some 52), .pick (.tmp 50) (.tmp 51) (.const (.bool false)), none⟩,
   ⟨(some 53), .mv (.tmp 52), none⟩,
   ⟨(some 54), .mv (.tmp 6), some (53, true)⟩,
   ⟨(some 55), .int .eql (.tmp 54) (.const (.int .i64 73)), some (53, true)⟩,
   ⟨(some 56), .pick (.tmp 53) (.tmp 55) (.const (.bool false)), none⟩,
   ⟨(some 57), .mv (.tmp 56), none⟩,
   ⟨(some 58), .mv (.tmp 10), some (57, true)⟩,
   ⟨(some 59), .not (.tmp 58), some (57, true)⟩,
   ⟨(some 60), .pick (.tmp 57) (.tmp 59) (.const (.bool false)), none⟩,
   ⟨(some 61), .mv (.tmp 60), none⟩,
   ⟨(some 62), .call (.func 20) [], some (61, true)⟩,
   ⟨(some 63), .len false (.tmp 62), some (61, true)⟩,
   ⟨(some 64), .int .eql (.tmp 63) (.const (.int .i64 240)), some (61, true)⟩,
   ⟨(some 65), .pick (.tmp 61) (.tmp 64) (.const (.bool false)), none⟩,
   ⟨(some 0), .mv (.tmp 65), none⟩])
 .ret))))))
def F_lontarlaw14_awake : AFunc := ⟨0, 66, [.tmp 0], k_lontarlaw14_awake⟩
theorem ok_lontarlaw14_awake : FOK Try.prog 10 F_lontarlaw14_awake := FOK.of [] Try.func10 (by kernel_rfl) (by kernel_rfl)

-- lontar/indic.Place
@[reducible] def i_indic_Place : Nat := 11
def k_indic_Place : ACode :=
 (.seq (.ops [⟨(some 2), .mv (.const (.int .i64 0)), none⟩,
   ⟨(some 3), .mv (.const (.bool false)), none⟩])
 (.seq (.block 0 (.seq (.ops [⟨(some 6), .mv (.tmp 0), none⟩,
   ⟨(some 7), .int .geq (.tmp 6) (.const (.int .u8 161)), none⟩,
   ⟨(some 8), .mv (.tmp 7), none⟩,
   ⟨(some 9), .mv (.tmp 0), some (8, true)⟩,
   ⟨(some 10), .int .leq (.tmp 9) (.const (.int .u8 234)), some (8, true)⟩,
   ⟨(some 11), .pick (.tmp 8) (.tmp 10) (.const (.bool false)), none⟩,
   ⟨(some 5), .mv (.tmp 11), none⟩])
 (.cond (.tmp 5)
  (.seq (.ops [⟨(some 12), .call (.func 25) [], none⟩,
    ⟨(some 13), .mv (.tmp 0), none⟩,
    ⟨(some 14), .int .sub (.tmp 13) (.const (.int .u8 161)), none⟩,
    ⟨(some 15), .index (.tmp 12) (.tmp 14) 74 false 1, none⟩,
    ⟨(some 4), .mv (.tmp 15), none⟩])
  (.seq (.ops [⟨(some 16), .mv (.tmp 4), none⟩,
    ⟨(some 17), .max2 (.const (.int .i64 0)) (.tmp 16), none⟩,
    ⟨(some 18), .mv (.tmp 4), none⟩,
    ⟨(some 19), .int .geq (.tmp 18) (.const (.int .i64 0)), none⟩,
    ⟨(some 2), .mv (.tmp 17), none⟩,
    ⟨(some 3), .mv (.tmp 19), none⟩])
  .ret))
  (.seq (.ops [⟨(some 21), .mv (.tmp 0), none⟩,
    ⟨(some 22), .int .geq (.tmp 21) (.const (.int .u8 241)), none⟩,
    ⟨(some 23), .mv (.tmp 22), none⟩,
    ⟨(some 24), .mv (.tmp 0), some (23, true)⟩,
    ⟨(some 25), .int .leq (.tmp 24) (.const (.int .u8 250)), some (23, true)⟩,
    ⟨(some 26), .pick (.tmp 23) (.tmp 25) (.const (.bool false)), none⟩,
    ⟨(some 20), .mv (.tmp 26), none⟩])
  (.cond (.tmp 20)
   (.seq (.ops [⟨(some 27), .mv (.tmp 0), none⟩,
     ⟨(some 28), .conv .i64 (.tmp 27), none⟩,
     ⟨(some 29), .int .add (.const (.int .i64 102)) (.tmp 28), none⟩,
     ⟨(some 30), .int .sub (.tmp 29) (.const (.int .i64 241)), none⟩,
     ⟨(some 2), .mv (.tmp 30), none⟩,
     ⟨(some 3), .mv (.const (.bool true)), none⟩])
   .ret)
   .skip)))))
 (.seq (.ops [⟨(some 2), .mv (.const (.int .i64 0)), none⟩,
   ⟨(some 3), .mv (.const (.bool false)), none⟩])
 .ret)))
def F_indic_Place : AFunc := ⟨1, 31, [.tmp 2, .tmp 3], k_indic_Place⟩
theorem ok_indic_Place : FOK Try.prog 11 F_indic_Place := FOK.of [] Try.func11 (by kernel_rfl) (by kernel_rfl)

-- lontar/lontarlaw14.Place
@[reducible] def i_lontarlaw14_Place : Nat := 12
def k_lontarlaw14_Place : ACode :=
 (.seq (.ops [⟨(some 2), .mv (.const (.int .i64 0)), none⟩,
   ⟨(some 3), .mv (.const (.bool false)), none⟩])
 (.seq (.ops [⟨(some 7), .bslice 3 56 1 [(.int .i64 0)] [(0, 1, (.const (.int .i64 1))), (1, 1, (.const (.int .i64 2))), (2, 1, (.const (.int .i64 3))), (3, 1, (.const (.int .i64 5))), (4, 1, (.const (.int .i64 6))), (5, 1, (.const (.int .i64 7))), (6, 1, (.const (.int .i64 8))), (7, 1, (.const (.int .i64 9))), (8, 1, (.const (.int .i64 10))), (9, 1, (.const (.int .i64 11))), (10, 1, (.const (.int .i64 14))), (11, 1, (.const (.int .i64 15))), (12, 1, (.const (.int .i64 16))), (13, 1, (.const (.int .i64 13))), (14, 1, (.const (.int .i64 18))), (15, 1, (.const (.int .i64 19))), (16, 1, (.const (.int .i64 20))), (17, 1, (.const (.int .i64 17))), (18, 1, (.const (.int .i64 21))), (19, 1, (.const (.int .i64 22))), (20, 1, (.const (.int .i64 23))), (21, 1, (.const (.int .i64 24))), (22, 1, (.const (.int .i64 25))), (23, 1, (.const (.int .i64 26))), (24, 1, (.const (.int .i64 27))), (25, 1, (.const (.int .i64 28))), (26, 1, (.const (.int .i64 29))), (27, 1, (.const (.int .i64 30))), (28, 1, (.const (.int .i64 31))), (29, 1, (.const (.int .i64 32))), (30, 1, (.const (.int .i64 33))), (31, 1, (.const (.int .i64 34))), (32, 1, (.const (.int .i64 35))), (33, 1, (.const (.int .i64 36))), (34, 1, (.const (.int .i64 37))), (35, 1, (.const (.int .i64 38))), (36, 1, (.const (.int .i64 39))), (37, 1, (.const (.int .i64 40))), (38, 1, (.const (.int .i64 41))), (39, 1, (.const (.int .i64 42))), (40, 1, (.const (.int .i64 43))), (41, 1, (.const (.int .i64 44))), (42, 1, (.const (.int .i64 45))), (43, 1, (.const (.int .i64 46))), (44, 1, (.const (.int .i64 47))), (45, 1, (.const (.int .i64 95))), (46, 1, (.const (.int .i64 48))), (47, 1, (.const (.int .i64 49))), (48, 1, (.const (.int .i64 50))), (49, 1, (.const (.int .i64 51))), (50, 1, (.const (.int .i64 52))), (51, 1, (.const (.int .i64 53))), (52, 1, (.const (.int .i64 54))), (53, 1, (.const (.int .i64 55))), (54, 1, (.const (.int .i64 56))), (55, 1, (.const (.int .i64 57)))], none⟩,
   ⟨(some 4), .mv (.tmp 7), none⟩])
 (.seq (.ops [⟨(some 8), .bslice 3 16 1 [(.int .i64 0)] [(0, 1, (.const (.int .i64 62))), (1, 1, (.const (.int .i64 63))), (2, 1, (.const (.int .i64 64))), (3, 1, (.const (.int .i64 65))), (4, 1, (.const (.int .i64 66))), (5, 1, (.const (.int .i64 67))), (6, 1, (.const (.int .i64 70))), (7, 1, (.const (.int .i64 71))), (8, 1, (.const (.int .i64 72))), (9, 1, (.const (.int .i64 69))), (10, 1, (.const (.int .i64 74))), (11, 1, (.const (.int .i64 75))), (12, 1, (.const (.int .i64 76))), (13, 1, (.const (.int .i64 73))), (14, 1, (.const (.int .i64 77))), (15, 1, (.const (.int .i64 60)))], none⟩,
   ⟨(some 5), .mv (.tmp 8), none⟩])
 (.seq (.ops [⟨(some 9), .mv (.tmp 0), none⟩,
   ⟨(some 10), .conv .i64 (.tmp 9), none⟩,
   ⟨(some 6), .mv (.tmp 10), none⟩])
 (.seq (.seq (.ops [⟨(some 11), .mv (.tmp 6), none⟩,
   ⟨(some 12), .int .geq (.tmp 11) (.const (.int .i64 161)), none⟩,
   ⟨(some 13), .mv (.tmp 12), none⟩,
   ⟨(some 14), .mv (.tmp 6), some (13, true)⟩,
   ⟨(some 15), .int .leq (.tmp 14) (.const (.int .i64 216)), some (13, true)⟩,
   ⟨(some 16), .pick (.tmp 13) (.tmp 15) (.const (.bool false)), none⟩])
 (.cond (.tmp 16)
  (.seq (.ops [⟨(some 17), .mv (.tmp 4), none⟩,
    ⟨(some 18), .mv (.tmp 6), none⟩,
    ⟨(some 19), .int .sub (.tmp 18) (.const (.int .i64 161)), none⟩,
    ⟨(some 20), .iaddr (.tmp 17) (.tmp 19) 1, none⟩,
    ⟨(some 21), .load (.tmp 20) none, none⟩,
    ⟨(some 2), .mv (.tmp 21), none⟩,
    ⟨(some 3), .mv (.const (.bool true)), none⟩])
  .ret)
  .skip))
 (.seq (.seq (.ops [⟨(some 22), .mv (.tmp 6), none⟩,
   ⟨(some 23), .int .geq (.tmp 22) (.const (.int .i64 218)), none⟩,
   ⟨(some 24), .mv (.tmp 23), none⟩,
   ⟨(some 25), .mv (.tmp 6), some (24, true)⟩,
   ⟨(some 26), .int .leq (.tmp 25) (.const (.int .i64 233)), some (24, true)⟩,
   ⟨(some 27), .pick (.tmp 24) (.tmp 26) (.const (.bool false)), none⟩])
 (.cond (.tmp 27)
  (.seq (.ops [⟨(some 28), .mv (.tmp 5), none⟩,
    ⟨(some 29), .mv (.tmp 6), none⟩,
    ⟨(some 30), .int .sub (.tmp 29) (.const (.int .i64 218)), none⟩,
    ⟨(some 31), .iaddr (.tmp 28) (.tmp 30) 1, none⟩,
    ⟨(some 32), .load (.tmp 31) none, none⟩,
    ⟨(some 2), .mv (.tmp 32), none⟩,
    ⟨(some 3), .mv (.const (.bool true)), none⟩])
  .ret)
  .skip))
 (.seq (.seq (.ops [⟨(some 33), .mv (.tmp 6), none⟩,
   ⟨(some 34), .int .geq (.tmp 33) (.const (.int .i64 241)), none⟩,
   ⟨(some 35), .mv (.tmp 34), none⟩,
   ⟨(some 36), .mv (.tmp 6), some (35, true)⟩,
   ⟨(some 37), .int .leq (.tmp 36) (.const (.int .i64 250)), some (35, true)⟩,
   ⟨(some 38), .pick (.tmp 35) (.tmp 37) (.const (.bool false)), none⟩])
 (.cond (.tmp 38)
  (.seq (.ops [⟨(some 39), .mv (.tmp 6), none⟩,
    ⟨(some 40), .int .sub (.tmp 39) (.const (.int .i64 241)), none⟩,
    ⟨(some 41), .int .add (.tmp 40) (.const (.int .i64 102)), none⟩,
    ⟨(some 2), .mv (.tmp 41), none⟩,
    ⟨(some 3), .mv (.const (.bool true)), none⟩])
  .ret)
  .skip))
 (.seq (.ops [⟨(some 2), .mv (.const (.int .i64 0)), none⟩,
   ⟨(some 3), .mv (.const (.bool false)), none⟩])
 .ret))))))))
def F_lontarlaw14_Place : AFunc := ⟨1, 42, [.tmp 2, .tmp 3], k_lontarlaw14_Place⟩
theorem ok_lontarlaw14_Place : FOK Try.prog 12 F_lontarlaw14_Place := FOK.of [] Try.func12 (by kernel_rfl) (by kernel_rfl)

-- lontar/indic.Of
@[reducible] def i_indic_Of : Nat := 13
def k_indic_Of : ACode :=
 (.seq (.ops [⟨(some 2), .mv (.const (.int .i64 0)), none⟩,
   ⟨(some 3), .mv (.const (.int .i64 0)), none⟩,
   ⟨(some 4), .mv (.const (.bool false)), none⟩])
 (.seq (.seq (.ops [⟨(some 5), .mv (.tmp 0), none⟩,
   ⟨(some 6), .int .lss (.tmp 5) (.const (.int .i64 2304)), none⟩,
   ⟨(some 7), .mv (.tmp 6), none⟩,
   ⟨(some 8), .mv (.tmp 0), some (7, false)⟩,
   ⟨(some 9), .int .geq (.tmp 8) (.const (.int .i64 3456)), some (7, false)⟩,
   ⟨(some 10), .pick (.tmp 7) (.const (.bool true)) (.tmp 9), none⟩,
   ⟨(some 11), .mv (.tmp 10), none⟩,
   ⟨(some 12), .mv (.tmp 0), some (11, false)⟩,
   ⟨(some 13), .int .eql (.tmp 12) (.const (.int .i64 2404)), some (11, false)⟩,
   ⟨(some 14), .pick (.tmp 11) (.const (.bool true)) (.tmp 13), none⟩])
 (.cond (.tmp 14)
  (.seq (.ops [⟨(some 2), .mv (.const (.int .i64 0)), none⟩,
    ⟨(some 3), .mv (.const (.int .i64 0)), none⟩,
    ⟨(some 4), .mv (.const (.bool false)), none⟩])
  .ret)
  .skip))
 (.seq (.ops [⟨(some 15), .mv (.tmp 0), none⟩,
   ⟨(some 16), .int .sub (.tmp 15) (.const (.int .i64 2304)), none⟩,
   ⟨(some 17), .int .quo (.tmp 16) (.const (.int .i64 128)), none⟩,
   ⟨(some 18), .mv (.tmp 0), none⟩,
   ⟨(some 19), .int .sub (.tmp 18) (.const (.int .i64 2304)), none⟩,
   ⟨(some 20), .int .rem (.tmp 19) (.const (.int .i64 128)), none⟩,
   ⟨(some 2), .mv (.tmp 17), none⟩,
   ⟨(some 3), .mv (.tmp 20), none⟩,
   ⟨(some 4), .mv (.const (.bool true)), none⟩])
 .ret)))
def F_indic_Of : AFunc := ⟨1, 21, [.tmp 2, .tmp 3, .tmp 4], k_indic_Of⟩
theorem ok_indic_Of : FOK Try.prog 13 F_indic_Of := FOK.of [] Try.func13 (by kernel_rfl) (by kernel_rfl)

-- lontar/indic.Scalar
@[reducible] def i_indic_Scalar : Nat := 14
def k_indic_Scalar : ACode :=
 (.seq (.ops [⟨(some 4), .mv (.const (.int .i64 0)), none⟩])
 (.seq (.ops [⟨(some 5), .mv (.tmp 0), none⟩,
   ⟨(some 6), .int .mul (.const (.int .i64 128)) (.tmp 5), none⟩,
   ⟨(some 7), .int .add (.const (.int .i64 2304)) (.tmp 6), none⟩,
   ⟨(some 8), .mv (.tmp 1), none⟩,
   ⟨(some 9), .int .add (.tmp 7) (.tmp 8), none⟩,
   ⟨(some 4), .mv (.tmp 9), none⟩])
 .ret))
def F_indic_Scalar : AFunc := ⟨2, 10, [.tmp 4], k_indic_Scalar⟩
theorem ok_indic_Scalar : FOK Try.prog 14 F_indic_Scalar := FOK.of [] Try.func14 (by kernel_rfl) (by kernel_rfl)

-- lontar/indic.Code
@[reducible] def i_indic_Code : Nat := 15
def k_indic_Code : ACode :=
 (.seq (.ops [⟨(some 2), .mv (.const (.int .i64 0)), none⟩,
   ⟨(some 3), .mv (.const (.bool false)), none⟩])
 (.seq (.seq (.ops [⟨(some 4), .mv (.tmp 0), none⟩,
   ⟨(some 5), .int .lss (.tmp 4) (.const (.int .i64 0)), none⟩,
   ⟨(some 6), .mv (.tmp 5), none⟩,
   ⟨(some 7), .mv (.tmp 0), some (6, false)⟩,
   ⟨(some 8), .int .geq (.tmp 7) (.const (.int .i64 9)), some (6, false)⟩,
   ⟨(some 9), .pick (.tmp 6) (.const (.bool true)) (.tmp 8), none⟩])
 (.cond (.tmp 9)
  (.seq (.ops [⟨(some 2), .mv (.const (.int .i64 0)), none⟩,
    ⟨(some 3), .mv (.const (.bool false)), none⟩])
  .ret)
  .skip))
 (.seq (.ops [⟨(some 10), .mv (.tmp 0), none⟩,
   ⟨(some 11), .call (.func 26) [(.tmp 10)], none⟩,
   ⟨(some 2), .mv (.tmp 11), none⟩,
   ⟨(some 3), .mv (.const (.bool true)), none⟩])
 .ret)))
def F_indic_Code : AFunc := ⟨1, 12, [.tmp 2, .tmp 3], k_indic_Code⟩
theorem ok_indic_Code : FOK Try.prog 15 F_indic_Code := FOK.of [] Try.func15 (by kernel_rfl) (by kernel_rfl)

-- lontar/lontarlaw14.Codes
@[reducible] def i_lontarlaw14_Codes : Nat := 16
def k_lontarlaw14_Codes : ACode :=
 (.seq (.ops [⟨(some 0), .mv (.const (.slice none 0 0)), none⟩])
 (.seq (.ops [⟨(some 1), .bslice 3 9 1 [(.int .i64 0)] [(0, 1, (.const (.int .i64 66))), (1, 1, (.const (.int .i64 67))), (2, 1, (.const (.int .i64 75))), (3, 1, (.const (.int .i64 74))), (4, 1, (.const (.int .i64 71))), (5, 1, (.const (.int .i64 68))), (6, 1, (.const (.int .i64 69))), (7, 1, (.const (.int .i64 72))), (8, 1, (.const (.int .i64 73)))], none⟩,
   ⟨(some 0), .mv (.tmp 1), none⟩])
 .ret))
def F_lontarlaw14_Codes : AFunc := ⟨0, 2, [.tmp 0], k_lontarlaw14_Codes⟩
theorem ok_lontarlaw14_Codes : FOK Try.prog 16 F_lontarlaw14_Codes := FOK.of [] Try.func16 (by kernel_rfl) (by kernel_rfl)

-- lontar/indic.Nukta
@[reducible] def i_indic_Nukta : Nat := 17
def k_indic_Nukta : ACode :=
 (.seq (.ops [⟨(some 0), .mv (.const (.slice none 0 0)), none⟩])
 (.seq (.ops [⟨(some 1), .build [(.int .i64 0), (.int .i64 0)] [(0, 1, (.const (.int .i64 161))), (1, 1, (.const (.int .i64 80)))], none⟩,
   ⟨(some 2), .build [(.int .i64 0), (.int .i64 0)] [(0, 1, (.const (.int .i64 166))), (1, 1, (.const (.int .i64 12)))], none⟩,
   ⟨(some 3), .build [(.int .i64 0), (.int .i64 0)] [(0, 1, (.const (.int .i64 167))), (1, 1, (.const (.int .i64 97)))], none⟩,
   ⟨(some 4), .build [(.int .i64 0), (.int .i64 0)] [(0, 1, (.const (.int .i64 170))), (1, 1, (.const (.int .i64 96)))], none⟩,
   ⟨(some 5), .build [(.int .i64 0), (.int .i64 0)] [(0, 1, (.const (.int .i64 179))), (1, 1, (.const (.int .i64 88)))], none⟩,
   ⟨(some 6), .build [(.int .i64 0), (.int .i64 0)] [(0, 1, (.const (.int .i64 180))), (1, 1, (.const (.int .i64 89)))], none⟩,
   ⟨(some 7), .build [(.int .i64 0), (.int .i64 0)] [(0, 1, (.const (.int .i64 181))), (1, 1, (.const (.int .i64 90)))], none⟩,
   ⟨(some 8), .build [(.int .i64 0), (.int .i64 0)] [(0, 1, (.const (.int .i64 186))), (1, 1, (.const (.int .i64 91)))], none⟩,
   ⟨(some 9), .build [(.int .i64 0), (.int .i64 0)] [(0, 1, (.const (.int .i64 191))), (1, 1, (.const (.int .i64 92)))], none⟩,
   ⟨(some 10), .build [(.int .i64 0), (.int .i64 0)] [(0, 1, (.const (.int .i64 192))), (1, 1, (.const (.int .i64 93)))], none⟩,
   ⟨(some 11), .build [(.int .i64 0), (.int .i64 0)] [(0, 1, (.const (.int .i64 201))), (1, 1, (.const (.int .i64 94)))], none⟩,
   ⟨(some 12), .build [(.int .i64 0), (.int .i64 0)] [(0, 1, (.const (.int .i64 219))), (1, 1, (.const (.int .i64 98)))], none⟩,
   ⟨(some 13), .build [(.int .i64 0), (.int .i64 0)] [(0, 1, (.const (.int .i64 220))), (1, 1, (.const (.int .i64 99)))], none⟩,
   ⟨(some 14), .build [(.int .i64 0), (.int .i64 0)] [(0, 1, (.const (.int .i64 223))), (1, 1, (.const (.int .i64 68)))], none⟩,
   ⟨(some 15), .bslice 39 14 2 [(.int .i64 0), (.int .i64 0)] [(0, 2, (.tmp 1)), (2, 2, (.tmp 2)), (4, 2, (.tmp 3)), (6, 2, (.tmp 4)), (8, 2, (.tmp 5)), (10, 2, (.tmp 6)), (12, 2, (.tmp 7)), (14, 2, (.tmp 8)), (16, 2, (.tmp 9)), (18, 2, (.tmp 10)), (20, 2, (.tmp 11)), (22, 2, (.tmp 12)), (24, 2, (.tmp 13)), (26, 2, (.tmp 14))], none⟩,
   ⟨(some 0), .mv (.tmp 15), none⟩])
 .ret))
def F_indic_Nukta : AFunc := ⟨0, 16, [.tmp 0], k_indic_Nukta⟩
theorem ok_indic_Nukta : FOK Try.prog 17 F_indic_Nukta := FOK.of [] Try.func17 (by kernel_rfl) (by kernel_rfl)

-- lontar/lontarlaw14.Nukta
@[reducible] def i_lontarlaw14_Nukta : Nat := 18
def k_lontarlaw14_Nukta : ACode :=
 (.seq (.ops [⟨(some 0), .mv (.const (.slice none 0 0)), none⟩])
 (.seq (.ops [⟨(some 1), .build [(.int .i64 0), (.int .i64 0)] [(0, 1, (.const (.int .i64 161))), (1, 1, (.const (.int .i64 80)))], none⟩,
   ⟨(some 2), .build [(.int .i64 0), (.int .i64 0)] [(0, 1, (.const (.int .i64 166))), (1, 1, (.const (.int .i64 12)))], none⟩,
   ⟨(some 3), .build [(.int .i64 0), (.int .i64 0)] [(0, 1, (.const (.int .i64 167))), (1, 1, (.const (.int .i64 97)))], none⟩,
   ⟨(some 4), .build [(.int .i64 0), (.int .i64 0)] [(0, 1, (.const (.int .i64 170))), (1, 1, (.const (.int .i64 96)))], none⟩,
   ⟨(some 5), .build [(.int .i64 0), (.int .i64 0)] [(0, 1, (.const (.int .i64 179))), (1, 1, (.const (.int .i64 88)))], none⟩,
   ⟨(some 6), .build [(.int .i64 0), (.int .i64 0)] [(0, 1, (.const (.int .i64 180))), (1, 1, (.const (.int .i64 89)))], none⟩,
   ⟨(some 7), .build [(.int .i64 0), (.int .i64 0)] [(0, 1, (.const (.int .i64 181))), (1, 1, (.const (.int .i64 90)))], none⟩,
   ⟨(some 8), .build [(.int .i64 0), (.int .i64 0)] [(0, 1, (.const (.int .i64 186))), (1, 1, (.const (.int .i64 91)))], none⟩,
   ⟨(some 9), .build [(.int .i64 0), (.int .i64 0)] [(0, 1, (.const (.int .i64 191))), (1, 1, (.const (.int .i64 92)))], none⟩,
   ⟨(some 10), .build [(.int .i64 0), (.int .i64 0)] [(0, 1, (.const (.int .i64 192))), (1, 1, (.const (.int .i64 93)))], none⟩,
   ⟨(some 11), .build [(.int .i64 0), (.int .i64 0)] [(0, 1, (.const (.int .i64 201))), (1, 1, (.const (.int .i64 94)))], none⟩,
   ⟨(some 12), .build [(.int .i64 0), (.int .i64 0)] [(0, 1, (.const (.int .i64 219))), (1, 1, (.const (.int .i64 98)))], none⟩,
   ⟨(some 13), .build [(.int .i64 0), (.int .i64 0)] [(0, 1, (.const (.int .i64 220))), (1, 1, (.const (.int .i64 99)))], none⟩,
   ⟨(some 14), .build [(.int .i64 0), (.int .i64 0)] [(0, 1, (.const (.int .i64 223))), (1, 1, (.const (.int .i64 68)))], none⟩,
   ⟨(some 15), .bslice 39 14 2 [(.int .i64 0), (.int .i64 0)] [(0, 2, (.tmp 1)), (2, 2, (.tmp 2)), (4, 2, (.tmp 3)), (6, 2, (.tmp 4)), (8, 2, (.tmp 5)), (10, 2, (.tmp 6)), (12, 2, (.tmp 7)), (14, 2, (.tmp 8)), (16, 2, (.tmp 9)), (18, 2, (.tmp 10)), (20, 2, (.tmp 11)), (22, 2, (.tmp 12)), (24, 2, (.tmp 13)), (26, 2, (.tmp 14))], none⟩,
   ⟨(some 0), .mv (.tmp 15), none⟩])
 .ret))
def F_lontarlaw14_Nukta : AFunc := ⟨0, 16, [.tmp 0], k_lontarlaw14_Nukta⟩
theorem ok_lontarlaw14_Nukta : FOK Try.prog 18 F_lontarlaw14_Nukta := FOK.of [] Try.func18 (by kernel_rfl) (by kernel_rfl)

-- lontar/lontarlaw03.Same
@[reducible] def i_lontarlaw03_Same : Nat := 19
/-- lontarlaw03_Same: the body of loop 0 -/
def b_lontarlaw03_Same_0 : ACode :=
 (.seq (.ops [⟨(some 14), .int .lss (.tmp 13) (.tmp 12), none⟩])
 (.seq (.cond (.tmp 14)
  .skip
  (.exit 0))
 (.seq (.block 1 (.seq (.ops [⟨(some 15), .mv (.tmp 13), none⟩,
   ⟨(some 5), .mv (.tmp 15), none⟩])
 (.seq (.draw [⟨(some 16), .mv (.tmp 0), none⟩,
   ⟨(some 17), .mv (.tmp 5), none⟩,
   ⟨(some 18), .iaddr (.tmp 16) (.tmp 17) 2, none⟩,
   ⟨(some 19), .faddr (.tmp 18) 0, none⟩,
   ⟨(some 20), .load (.tmp 19) none, none⟩,
   ⟨(some 21), .mv (.tmp 1), none⟩,
   ⟨(some 22), .mv (.tmp 5), none⟩,
   ⟨(some 23), .iaddr (.tmp 21) (.tmp 22) 2, none⟩,
   ⟨(some 24), .faddr (.tmp 23) 0, none⟩,
   ⟨(some 25), .load (.tmp 24) none, none⟩,
   ⟨(some 26), .call (.func 27) [(.tmp 20), (.tmp 25)], none⟩,
   ⟨(some 27), .not (.tmp 26), none⟩,
   ⟨(some 28), .mv (.tmp 27), none⟩,
   ⟨(some 29), .mv (.tmp 0), some (28, false)⟩,
   ⟨(some 30), .mv (.tmp 5), some (28, false)⟩,
   ⟨(some 31), .iaddr (.tmp 29) (.tmp 30) 2, some (28, false)⟩,
   ⟨(some 32), .faddr (.tmp 31) 1, some (28, false)⟩,
   ⟨(some 33), .load (.tmp 32) none, some (28, false)⟩,
   ⟨(some 34), .mv (.tmp 1), some (28, false)⟩,
   ⟨(some 35), .mv (.tmp 5), some (28, false)⟩,
   ⟨(some 36), .iaddr (.tmp 34) (.tmp 35) 2, some (28, false)⟩,
   ⟨(some 37), .faddr (.tmp 36) 1, some (28, false)⟩,
   ⟨(some 38), .load (.tmp 37) none, some (28, false)⟩,
   ⟨(some 39), .call (.func 27) [(.tmp 33), (.tmp 38)], some (28, false)⟩,
   ⟨(some 40), .not (.tmp 39), some (28, false)⟩,
   ⟨(some 41), .pick (.tmp 28) (.const (.bool true)) (.tmp 40), none⟩])
 (.cond (.tmp 41)
  (.seq (.ops [⟨(some 4), .mv (.const (.bool false)), none⟩])
  .ret)
  .skip))))
 (.ops [⟨(some 42), .int .add (.tmp 13) (.const (.int .i64 1)), none⟩,
   ⟨(some 13), .mv (.tmp 42), none⟩]))))

def k_lontarlaw03_Same : ACode :=
 (.seq (.ops [⟨(some 4), .mv (.const (.bool false)), none⟩])
 (.seq (.seq (.ops [⟨(some 6), .mv (.tmp 0), none⟩,
   ⟨(some 7), .len false (.tmp 6), none⟩,
   ⟨(some 8), .mv (.tmp 1), none⟩,
   ⟨(some 9), .len false (.tmp 8), none⟩,
   ⟨(some 10), .int .neq (.tmp 7) (.tmp 9), none⟩])
 (.cond (.tmp 10)
  (.seq (.ops [⟨(some 4), .mv (.const (.bool false)), none⟩])
  .ret)
  .skip))
 (.seq (.seq (.ops [⟨(some 11), .mv (.tmp 0), none⟩,
   ⟨(some 12), .len false (.tmp 11), none⟩,
   ⟨(some 13), .mv (.const (.int .i64 0)), none⟩])
 (.block 0 (.loop [0, 1, 12, 13] b_lontarlaw03_Same_0)))
 (.seq (.ops [⟨(some 4), .mv (.const (.bool true)), none⟩])
 .ret))))
def F_lontarlaw03_Same : AFunc := ⟨2, 43, [.tmp 4], k_lontarlaw03_Same⟩
theorem ok_lontarlaw03_Same : FOK Try.prog 19 F_lontarlaw03_Same := FOK.of [[0, 1, 12, 13], [0, 1, 2, 3, 4, 5, 6, 7, 8, 9, 10, 11, 12, 13, 14, 15, 16, 17, 18, 19, 20, 21, 22, 23, 24, 25]] Try.func19 (by kernel_rfl) (by kernel_rfl)

-- lontar/indic.Rules
@[reducible] def i_indic_Rules : Nat := 20
/-- indic_Rules: the body of loop 0 -/
def b_indic_Rules_0 : ACode :=
 (.seq (.ops [⟨(some 10), .int .lss (.tmp 9) (.const (.int .i64 128)), none⟩])
 (.seq (.cond (.tmp 10)
  .skip
  (.exit 0))
 (.seq (.block 1 (.seq (.ops [⟨(some 11), .mv (.tmp 9), none⟩,
   ⟨(some 2), .mv (.tmp 11), none⟩])
 (.ops [⟨(some 12), .mv (.tmp 1), none⟩,
   ⟨(some 13), .mv (.tmp 2), none⟩,
   ⟨(some 14), .bslice 3 1 1 [(.int .i64 0)] [(0, 1, (.tmp 13))], none⟩,
   ⟨(some 15), .mv (.tmp 2), none⟩,
   ⟨(some 16), .int .add (.const (.int .i64 8192)) (.tmp 15), none⟩,
   ⟨(some 17), .bslice 3 1 1 [(.int .i64 0)] [(0, 1, (.tmp 16))], none⟩,
   ⟨(some 18), .build [(.slice none 0 0), (.slice none 0 0)] [(0, 1, (.tmp 14)), (1, 1, (.tmp 17))], none⟩,
   ⟨(some 19), .bslice 50 1 2 [(.slice none 0 0), (.slice none 0 0)] [(0, 2, (.tmp 18))], none⟩,
   ⟨(some 20), .append (.tmp 12) (.tmp 19) 50 2 48, none⟩,
   ⟨(some 1), .mv (.tmp 20), none⟩])))
 (.ops [⟨(some 21), .int .add (.tmp 9) (.const (.int .i64 1)), none⟩,
   ⟨(some 9), .mv (.tmp 21), none⟩]))))

/-- indic_Rules: the body of loop 1 -/
def b_indic_Rules_1 : ACode :=
 (.seq (.seq (.ops [⟨(some 22), .mv (.tmp 3), none⟩,
   ⟨(some 23), .int .leq (.tmp 22) (.const (.int .i64 250)), none⟩])
 (.cond (.tmp 23)
  .skip
  (.exit 2)))
 (.seq (.block 3 (.seq (.ops [⟨(some 27), .mv (.tmp 3), none⟩,
   ⟨(some 28), .conv .u8 (.tmp 27), none⟩,
   ⟨(some 29), .call (.func 11) [(.tmp 28)], none⟩,
   ⟨(some 26), .mv (.tmp 29), none⟩,
   ⟨(some 30), .ext (.tmp 26) 0, none⟩,
   ⟨(some 31), .ext (.tmp 26) 1, none⟩,
   ⟨(some 4), .mv (.tmp 30), none⟩,
   ⟨(some 5), .mv (.tmp 31), none⟩])
 (.seq (.ops [⟨(some 32), .mv (.tmp 5), none⟩])
 (.cond (.tmp 32)
  (.ops [⟨(some 33), .mv (.tmp 1), none⟩,
    ⟨(some 34), .mv (.tmp 3), none⟩,
    ⟨(some 35), .bslice 3 1 1 [(.int .i64 0)] [(0, 1, (.tmp 34))], none⟩,
    ⟨(some 36), .mv (.tmp 4), none⟩,
    ⟨(some 37), .bslice 3 1 1 [(.int .i64 0)] [(0, 1, (.tmp 36))], none⟩,
    ⟨(some 38), .build [(.slice none 0 0), (.slice none 0 0)] [(0, 1, (.tmp 35)), (1, 1, (.tmp 37))], none⟩,
    ⟨(some 39), .bslice 50 1 2 [(.slice none 0 0), (.slice none 0 0)] [(0, 2, (.tmp 38))], none⟩,
    ⟨(some 40), .append (.tmp 33) (.tmp 39) 50 2 48, none⟩,
    ⟨(some 1), .mv (.tmp 40), none⟩])
  .skip))))
 (.ops [⟨(some 24), .mv (.tmp 3), none⟩,
   ⟨(some 25), .int .add (.tmp 24) (.const (.int .i64 1)), none⟩,
   ⟨(some 3), .mv (.tmp 25), none⟩])))

/-- indic_Rules: the body of loop 2 -/
def b_indic_Rules_2 : ACode :=
 (.seq (.ops [⟨(some 44), .int .lss (.tmp 43) (.tmp 42), none⟩])
 (.seq (.cond (.tmp 44)
  .skip
  (.exit 4))
 (.seq (.block 5 (.seq (.ops [⟨(some 45), .iaddr (.tmp 41) (.tmp 43) 2, none⟩,
   ⟨(some 46), .load (.tmp 45) (some 2), none⟩,
   ⟨(some 7), .alloc [(.int .i64 0), (.int .i64 0)] 39, none⟩,
   ⟨none, .store (.tmp 7) (.tmp 46) 2, none⟩])
 (.ops [⟨(some 47), .mv (.tmp 1), none⟩,
   ⟨(some 48), .aaddr (.tmp 7) (.const (.int .i64 0)) 2 1, none⟩,
   ⟨(some 49), .load (.tmp 48) none, none⟩,
   ⟨(some 50), .bslice 3 2 1 [(.int .i64 0)] [(0, 1, (.tmp 49)), (1, 1, (.const (.int .i64 233)))], none⟩,
   ⟨(some 51), .aaddr (.tmp 7) (.const (.int .i64 1)) 2 1, none⟩,
   ⟨(some 52), .load (.tmp 51) none, none⟩,
   ⟨(some 53), .bslice 3 1 1 [(.int .i64 0)] [(0, 1, (.tmp 52))], none⟩,
   ⟨(some 54), .build [(.slice none 0 0), (.slice none 0 0)] [(0, 1, (.tmp 50)), (1, 1, (.tmp 53))], none⟩,
   ⟨(some 55), .bslice 50 1 2 [(.slice none 0 0), (.slice none 0 0)] [(0, 2, (.tmp 54))], none⟩,
   ⟨(some 56), .append (.tmp 47) (.tmp 55) 50 2 48, none⟩,
   ⟨(some 1), .mv (.tmp 56), none⟩])))
 (.ops [⟨(some 57), .int .add (.tmp 43) (.const (.int .i64 1)), none⟩,
   ⟨(some 43), .mv (.tmp 57), none⟩]))))

/-- indic_Rules: the body of loop 3 -/
def b_indic_Rules_3 : ACode :=
 (.seq (.ops [⟨(some 59), .int .lss (.tmp 58) (.const (.int .i64 9)), none⟩])
 (.seq (.cond (.tmp 59)
  .skip
  (.exit 6))
 (.seq (.block 7 (.seq (.ops [⟨(some 60), .mv (.tmp 58), none⟩,
   ⟨(some 8), .mv (.tmp 60), none⟩])
 (.ops [⟨(some 61), .mv (.tmp 1), none⟩,
   ⟨(some 62), .mv (.tmp 8), none⟩,
   ⟨(some 63), .call (.func 26) [(.tmp 62)], none⟩,
   ⟨(some 64), .bslice 3 2 1 [(.int .i64 0)] [(0, 1, (.const (.int .i64 239))), (1, 1, (.tmp 63))], none⟩,
   ⟨(some 65), .mv (.tmp 8), none⟩,
   ⟨(some 66), .int .add (.const (.int .i64 4096)) (.tmp 65), none⟩,
   ⟨(some 67), .bslice 3 1 1 [(.int .i64 0)] [(0, 1, (.tmp 66))], none⟩,
   ⟨(some 68), .build [(.slice none 0 0), (.slice none 0 0)] [(0, 1, (.tmp 64)), (1, 1, (.tmp 67))], none⟩,
   ⟨(some 69), .bslice 50 1 2 [(.slice none 0 0), (.slice none 0 0)] [(0, 2, (.tmp 68))], none⟩,
   ⟨(some 70), .append (.tmp 61) (.tmp 69) 50 2 48, none⟩,
   ⟨(some 1), .mv (.tmp 70), none⟩])))
 (.ops [⟨(some 71), .int .add (.tmp 58) (.const (.int .i64 1)), none⟩,
   ⟨(some 58), .mv (.tmp 71), none⟩]))))

def k_indic_Rules : ACode :=
 (.seq (.ops [⟨(some 0), .mv (.const (.slice none 0 0)), none⟩])
 (.seq (.ops [⟨(some 1), .mv (.const (.slice none 0 0)), none⟩])
 (.seq (.seq (.ops [⟨(some 9), .mv (.const (.int .i64 0)), none⟩])
 (.block 0 (.loop [1, 9] b_indic_Rules_0)))
 (.seq (.seq (.ops [⟨(some 3), .mv (.const (.int .i64 161)), none⟩])
 (.block 2 (.loop [1, 3] b_indic_Rules_1)))
 (.seq (.seq (.ops [⟨(some 41), .call (.func 17) [], none⟩,
   ⟨(some 42), .len false (.tmp 41), none⟩,
   ⟨(some 43), .mv (.const (.int .i64 0)), none⟩])
 (.block 4 (.loop [1, 41, 42, 43] b_indic_Rules_2)))
 (.seq (.seq (.ops [⟨(some 58), .mv (.const (.int .i64 0)), none⟩])
 (.block 6 (.loop [1, 58] b_indic_Rules_3)))
 (.seq (.ops [⟨(some 72), .mv (.tmp 1), none⟩,
   ⟨(some 73), .bslice 3 1 1 [(.int .i64 0)] [(0, 1, (.const (.int .i64 217)))], none⟩,
   ⟨(some 74), .bslice 3 1 1 [(.int .i64 0)] [(0, 1, (.const (.int .i64 16397)))], none⟩,
   ⟨(some 75), .build [(.slice none 0 0), (.slice none 0 0)] [(0, 1, (.tmp 73)), (1, 1, (.tmp 74))], none⟩,
   ⟨(some 76), .bslice 3 1 1 [(.int .i64 0)] [(0, 1, (.const (.int .i64 234)))], none⟩,
   ⟨(some 77), .bslice 3 1 1 [(.int .i64 0)] [(0, 1, (.const (.int .i64 10596)))], none⟩,
   ⟨(some 78), .build [(.slice none 0 0), (.slice none 0 0)] [(0, 1, (.tmp 76)), (1, 1, (.tmp 77))], none⟩,
   ⟨(some 79), .bslice 3 2 1 [(.int .i64 0)] [(0, 1, (.const (.int .i64 234))), (1, 1, (.const (.int .i64 233)))], none⟩,
   ⟨(some 80), .bslice 3 1 1 [(.int .i64 0)] [(0, 1, (.const (.int .i64 61)))], none⟩,
   ⟨(some 81), .build [(.slice none 0 0), (.slice none 0 0)] [(0, 1, (.tmp 79)), (1, 1, (.tmp 80))], none⟩,
   ⟨(some 82), .bslice 3 2 1 [(.int .i64 0)] [(0, 1, (.const (.int .i64 232))), (1, 1, (.const (.int .i64 232)))], none⟩,
   ⟨(some 83), .bslice 3 2 1 [(.int .i64 0)] [(0, 1, (.const (.int .i64 77))), (1, 1, (.const (.int .i64 16396)))], none⟩,
   ⟨(some 84), .build [(.slice none 0 0), (.slice none 0 0)] [(0, 1, (.tmp 82)), (1, 1, (.tmp 83))], none⟩,
   ⟨(some 85), .bslice 3 2 1 [(.int .i64 0)] [(0, 1, (.const (.int .i64 232))), (1, 1, (.const (.int .i64 233)))], none⟩,
   ⟨(some 86), .bslice 3 2 1 [(.int .i64 0)] [(0, 1, (.const (.int .i64 77))), (1, 1, (.const (.int .i64 16397)))], none⟩,
   ⟨(some 87), .build [(.slice none 0 0), (.slice none 0 0)] [(0, 1, (.tmp 85)), (1, 1, (.tmp 86))], none⟩,
   ⟨(some 88), .bslice 3 2 1 [(.int .i64 0)] [(0, 1, (.const (.int .i64 240))), (1, 1, (.const (.int .i64 184)))], none⟩,
   ⟨(some 89), .bslice 3 1 1 [(.int .i64 0)] [(0, 1, (.const (.int .i64 82)))], none⟩,
   ⟨(some 90), .build [(.slice none 0 0), (.slice none 0 0)] [(0, 1, (.tmp 88)), (1, 1, (.tmp 89))], none⟩,
   ⟨(some 91), .bslice 3 2 1 [(.int .i64 0)] [(0, 1, (.const (.int .i64 240))), (1, 1, (.const (.int .i64 191)))], none⟩,
   ⟨(some 92), .bslice 3 1 1 [(.int .i64 0)] [(0, 1, (.const (.int .i64 112)))], none⟩,
   ⟨(some 93), .build [(.slice none 0 0), (.slice none 0 0)] [(0, 1, (.tmp 91)), (1, 1, (.tmp 92))], none⟩,
   ⟨(some 94), .bslice 50 7 2 [(.slice none 0 0), (.slice none 0 0)] [(0, 2, (.tmp 75)), (2, 2, (.tmp 78)), (4, 2, (.tmp 81)), (6, 2, (.tmp 84)), (8, 2, (.tmp 87)), (10, 2, (.tmp 90)), (12, 2, (.tmp 93))], none⟩,
   ⟨(some 95), .append (.tmp 72) (.tmp 94) 50 2 48, none⟩,
   ⟨(some 0), .mv (.tmp 95), none⟩])
 .ret)))))))
def F_indic_Rules : AFunc := ⟨0, 96, [.tmp 0], k_indic_Rules⟩
theorem ok_indic_Rules : FOK Try.prog 20 F_indic_Rules := FOK.of [[1, 9], [1, 3], [1, 41, 42, 43], [1, 58]] Try.func20 (by kernel_rfl) (by kernel_rfl)

-- lontar/lontarlaw14.Rules
@[reducible] def i_lontarlaw14_Rules : Nat := 21
/-- lontarlaw14_Rules: the body of loop 0 -/
def b_lontarlaw14_Rules_0 : ACode :=
 (.seq (.seq (.ops [⟨(some 12), .mv (.tmp 3), none⟩,
   ⟨(some 13), .int .lss (.tmp 12) (.const (.int .i64 128)), none⟩])
 (.cond (.tmp 13)
  .skip
  (.exit 0)))
 (.seq (.block 1 (.ops [⟨(some 16), .mv (.tmp 2), none⟩,
   ⟨(some 17), .mv (.tmp 3), none⟩,
   ⟨(some 18), .bslice 3 1 1 [(.int .i64 0)] [(0, 1, (.tmp 17))], none⟩,
   ⟨(some 19), .mv (.tmp 3), none⟩,
   ⟨(some 20), .int .add (.const (.int .i64 8192)) (.tmp 19), none⟩,
   ⟨(some 21), .bslice 3 1 1 [(.int .i64 0)] [(0, 1, (.tmp 20))], none⟩,
   ⟨(some 22), .call (.tmp 16) [(.tmp 18), (.tmp 21)], none⟩]))
 (.ops [⟨(some 14), .mv (.tmp 3), none⟩,
   ⟨(some 15), .int .add (.tmp 14) (.const (.int .i64 1)), none⟩,
   ⟨(some 3), .mv (.tmp 15), none⟩])))

/-- lontarlaw14_Rules: the body of loop 1 -/
def b_lontarlaw14_Rules_1 : ACode :=
 (.seq (.seq (.ops [⟨(some 23), .mv (.tmp 4), none⟩,
   ⟨(some 24), .int .lss (.tmp 23) (.const (.int .i64 256)), none⟩])
 (.cond (.tmp 24)
  .skip
  (.exit 2)))
 (.seq (.block 3 (.seq (.ops [⟨(some 28), .mv (.tmp 4), none⟩,
   ⟨(some 29), .conv .u8 (.tmp 28), none⟩,
   ⟨(some 30), .call (.func 12) [(.tmp 29)], none⟩,
   ⟨(some 27), .mv (.tmp 30), none⟩,
   ⟨(some 31), .ext (.tmp 27) 0, none⟩,
   ⟨(some 32), .ext (.tmp 27) 1, none⟩,
   ⟨(some 5), .mv (.tmp 31), none⟩,
   ⟨(some 6), .mv (.tmp 32), none⟩])
 (.seq (.ops [⟨(some 33), .mv (.tmp 6), none⟩])
 (.cond (.tmp 33)
  (.ops [⟨(some 34), .mv (.tmp 2), none⟩,
    ⟨(some 35), .mv (.tmp 4), none⟩,
    ⟨(some 36), .bslice 3 1 1 [(.int .i64 0)] [(0, 1, (.tmp 35))], none⟩,
    ⟨(some 37), .mv (.tmp 5), none⟩,
    ⟨(some 38), .bslice 3 1 1 [(.int .i64 0)] [(0, 1, (.tmp 37))], none⟩,
    ⟨(some 39), .call (.tmp 34) [(.tmp 36), (.tmp 38)], none⟩])
  .skip))))
 (.ops [⟨(some 25), .mv (.tmp 4), none⟩,
   ⟨(some 26), .int .add (.tmp 25) (.const (.int .i64 1)), none⟩,
   ⟨(some 4), .mv (.tmp 26), none⟩])))

/-- lontarlaw14_Rules: the body of loop 2 -/
def b_lontarlaw14_Rules_2 : ACode :=
 (.seq (.ops [⟨(some 43), .int .lss (.tmp 42) (.tmp 41), none⟩])
 (.seq (.cond (.tmp 43)
  .skip
  (.exit 4))
 (.seq (.block 5 (.seq (.ops [⟨(some 44), .iaddr (.tmp 40) (.tmp 42) 2, none⟩,
   ⟨(some 45), .load (.tmp 44) (some 2), none⟩,
   ⟨(some 8), .alloc [(.int .i64 0), (.int .i64 0)] 39, none⟩,
   ⟨none, .store (.tmp 8) (.tmp 45) 2, none⟩])
 (.ops [⟨(some 46), .mv (.tmp 2), none⟩,
   ⟨(some 47), .aaddr (.tmp 8) (.const (.int .i64 0)) 2 1, none⟩,
   ⟨(some 48), .load (.tmp 47) none, none⟩,
   ⟨(some 49), .bslice 3 2 1 [(.int .i64 0)] [(0, 1, (.tmp 48)), (1, 1, (.const (.int .i64 233)))], none⟩,
   ⟨(some 50), .aaddr (.tmp 8) (.const (.int .i64 1)) 2 1, none⟩,
   ⟨(some 51), .load (.tmp 50) none, none⟩,
   ⟨(some 52), .bslice 3 1 1 [(.int .i64 0)] [(0, 1, (.tmp 51))], none⟩,
   ⟨(some 53), .call (.tmp 46) [(.tmp 49), (.tmp 52)], none⟩])))
 (.ops [⟨(some 54), .int .add (.tmp 42) (.const (.int .i64 1)), none⟩,
   ⟨(some 42), .mv (.tmp 54), none⟩]))))

/-- lontarlaw14_Rules: the body of loop 3 -/
def b_lontarlaw14_Rules_3 : ACode :=
 (.seq (.ops [⟨(some 58), .int .lss (.tmp 57) (.tmp 56), none⟩])
 (.seq (.cond (.tmp 58)
  .skip
  (.exit 6))
 (.seq (.block 7 (.seq (.ops [⟨(some 59), .mv (.tmp 57), none⟩,
   ⟨(some 60), .iaddr (.tmp 55) (.tmp 57) 1, none⟩,
   ⟨(some 61), .load (.tmp 60) none, none⟩,
   ⟨(some 9), .mv (.tmp 59), none⟩,
   ⟨(some 10), .mv (.tmp 61), none⟩])
 (.ops [⟨(some 62), .mv (.tmp 2), none⟩,
   ⟨(some 63), .mv (.tmp 10), none⟩,
   ⟨(some 64), .bslice 3 2 1 [(.int .i64 0)] [(0, 1, (.const (.int .i64 239))), (1, 1, (.tmp 63))], none⟩,
   ⟨(some 65), .mv (.tmp 9), none⟩,
   ⟨(some 66), .int .add (.const (.int .i64 4096)) (.tmp 65), none⟩,
   ⟨(some 67), .bslice 3 1 1 [(.int .i64 0)] [(0, 1, (.tmp 66))], none⟩,
   ⟨(some 68), .call (.tmp 62) [(.tmp 64), (.tmp 67)], none⟩])))
 (.ops [⟨(some 69), .int .add (.tmp 57) (.const (.int .i64 1)), none⟩,
   ⟨(some 57), .mv (.tmp 69), none⟩]))))

def k_lontarlaw14_Rules : ACode :=
 (.seq (.ops [⟨(some 0), .mv (.const (.slice none 0 0)), none⟩])
 (.seq (.ops [⟨(some 1), .alloc [(.slice none 0 0)] 41, none⟩])
 (.seq (.ops [⟨(some 11), .mkfun (.func 28) [] [(.tmp 1)], none⟩,
   ⟨(some 2), .mv (.tmp 11), none⟩])
 (.seq (.seq (.ops [⟨(some 3), .mv (.const (.int .i64 0)), none⟩])
 (.block 0 (.loop [1, 2, 3] b_lontarlaw14_Rules_0)))
 (.seq (.seq (.ops [⟨(some 4), .mv (.const (.int .i64 161)), none⟩])
 (.block 2 (.loop [1, 2, 4] b_lontarlaw14_Rules_1)))
 (.seq (.seq (.ops [⟨(some 40), .call (.func 18) [], none⟩,
   ⟨(some 41), .len false (.tmp 40), none⟩,
   ⟨(some 42), .mv (.const (.int .i64 0)), none⟩])
 (.block 4 (.loop [1, 2, 40, 41, 42] b_lontarlaw14_Rules_2)))
 (.seq (.seq (.ops [⟨(some 55), .call (.func 16) [], none⟩,
   ⟨(some 56), .len false (.tmp 55), none⟩,
   ⟨(some 57), .mv (.const (.int .i64 0)), none⟩])
 (.block 6 (.loop [1, 2, 55, 56, 57] b_lontarlaw14_Rules_3)))
 (.seq (.ops [⟨(some 70), .mv (.tmp 2), none⟩,
   ⟨(some 71), .bslice 3 1 1 [(.int .i64 0)] [(0, 1, (.const (.int .i64 217)))], none⟩,
   ⟨(some 72), .bslice 3 1 1 [(.int .i64 0)] [(0, 1, (.const (.int .i64 16397)))], none⟩,
   ⟨(some 73), .call (.tmp 70) [(.tmp 71), (.tmp 72)], none⟩])
 (.seq (.ops [⟨(some 74), .mv (.tmp 2), none⟩,
   ⟨(some 75), .bslice 3 1 1 [(.int .i64 0)] [(0, 1, (.const (.int .i64 234)))], none⟩,
   ⟨(some 76), .bslice 3 1 1 [(.int .i64 0)] [(0, 1, (.const (.int .i64 10596)))], none⟩,
   ⟨(some 77), .call (.tmp 74) [(.tmp 75), (.tmp 76)], none⟩])
 (.seq (.ops [⟨(some 78), .mv (.tmp 2), none⟩,
   ⟨(some 79), .bslice 3 2 1 [(.int .i64 0)] [(0, 1, (.const (.int .i64 234))), (1, 1, (.const (.int .i64 233)))], none⟩,
   ⟨(some 80), .bslice 3 1 1 [(.int .i64 0)] [(0, 1, (.const (.int .i64 61)))], none⟩,
   ⟨(some 81), .call (.tmp 78) [(.tmp 79), (.tmp 80)], none⟩])
 (.seq (.ops [⟨(some 82), .mv (.tmp 2), none⟩,
   ⟨(some 83), .bslice 3 2 1 [(.int .i64 0)] [(0, 1, (.const (.int .i64 232))), (1, 1, (.const (.int .i64 232)))], none⟩,
   ⟨(some 84), .bslice 3 2 1 [(.int .i64 0)] [(0, 1, (.const (.int .i64 77))), (1, 1, (.const (.int .i64 16396)))], none⟩,
   ⟨(some 85), .call (.tmp 82) [(.tmp 83), (.tmp 84)], none⟩])
 (.seq (.ops [⟨(some 86), .mv (.tmp 2), none⟩,
   ⟨(some 87), .bslice 3 2 1 [(.int .i64 0)] [(0, 1, (.const (.int .i64 232))), (1, 1, (.const (.int .i64 233)))], none⟩,
   ⟨(some 88), .bslice 3 2 1 [(.int .i64 0)] [(0, 1, (.const (.int .i64 77))), (1, 1, (.const (.int .i64 16397)))], none⟩,
   ⟨(some 89), .call (.tmp 86) [(.tmp 87), (.tmp 88)], none⟩])
 (.seq (.ops [⟨(some 90), .mv (.tmp 2), none⟩,
   ⟨(some 91), .bslice 3 2 1 [(.int .i64 0)] [(0, 1, (.const (.int .i64 240))), (1, 1, (.const (.int .i64 184)))], none⟩,
   ⟨(some 92), .bslice 3 1 1 [(.int .i64 0)] [(0, 1, (.const (.int .i64 82)))], none⟩,
   ⟨(some 93), .call (.tmp 90) [(.tmp 91), (.tmp 92)], none⟩])
 (.seq (.ops [⟨(some 94), .mv (.tmp 2), none⟩,
   ⟨(some 95), .bslice 3 2 1 [(.int .i64 0)] [(0, 1, (.const (.int .i64 240))), (1, 1, (.const (.int .i64 191)))], none⟩,
   ⟨(some 96), .bslice 3 1 1 [(.int .i64 0)] [(0, 1, (.const (.int .i64 112)))], none⟩,
   ⟨(some 97), .call (.tmp 94) [(.tmp 95), (.tmp 96)], none⟩])
 (.seq (.ops [⟨(some 98), .load (.tmp 1) none, none⟩,
   ⟨(some 0), .mv (.tmp 98), none⟩])
 .ret)))))))))))))))
def F_lontarlaw14_Rules : AFunc := ⟨0, 99, [.tmp 0], k_lontarlaw14_Rules⟩
theorem ok_lontarlaw14_Rules : FOK Try.prog 21 F_lontarlaw14_Rules := FOK.of [[1, 2, 3], [1, 2, 4], [1, 2, 40, 41, 42], [1, 2, 55, 56, 57]] Try.func21 (by kernel_rfl) (by kernel_rfl)

-- lontar/rule.Find
@[reducible] def i_rule_Find : Nat := 22
def k_rule_Find : ACode :=
 (.seq (.ops [⟨(some 3), .box (.tmp 1) 27, none⟩,
   ⟨(some 4), .mv (.const (.int .i64 0)), none⟩])
 (.seq (.ops [⟨(some 5), .mv (.tmp 0), none⟩,
   ⟨(some 6), .mkfun (.func 30) [] [(.tmp 3)], none⟩,
   ⟨(some 7), .call (.func 29) [(.tmp 5), (.tmp 6)], none⟩,
   ⟨(some 4), .mv (.tmp 7), none⟩])
 .ret))
def F_rule_Find : AFunc := ⟨2, 8, [.tmp 4], k_rule_Find⟩
theorem ok_rule_Find : FOK Try.prog 22 F_rule_Find := FOK.of [] Try.func22 (by kernel_rfl) (by kernel_rfl)

-- lontar/rule.Check
@[reducible] def i_rule_Check : Nat := 23
/-- rule_Check: the body of loop 0 -/
def b_rule_Check_0 : ACode :=
 (.seq (.ops [⟨(some 9), .int .lss (.tmp 8) (.tmp 7), none⟩])
 (.seq (.cond (.tmp 9)
  .skip
  (.exit 0))
 (.seq (.block 1 (.seq (.ops [⟨(some 10), .mv (.tmp 8), none⟩,
   ⟨(some 11), .iaddr (.tmp 6) (.tmp 8) 2, none⟩,
   ⟨(some 12), .load (.tmp 11) (some 2), none⟩,
   ⟨(some 5), .alloc [(.slice none 0 0), (.slice none 0 0)] 50, none⟩,
   ⟨(some 4), .mv (.tmp 10), none⟩,
   ⟨none, .store (.tmp 5) (.tmp 12) 2, none⟩])
 (.block 2 (.seq (.ops [⟨(some 14), .mv (.tmp 4), none⟩,
   ⟨(some 15), .int .geq (.tmp 14) (.const (.int .i64 512)), none⟩,
   ⟨(some 13), .mv (.tmp 15), none⟩])
 (.cond (.tmp 13)
  (.seq (.ops [⟨(some 16), .mv (.tmp 4), none⟩,
    ⟨(some 2), .mv (.tmp 16), none⟩,
    ⟨(some 3), .mv (.const (.int .i64 7)), none⟩])
  .ret)
  (.seq (.ops [⟨(some 18), .faddr (.tmp 5) 0, none⟩,
    ⟨(some 19), .load (.tmp 18) none, none⟩,
    ⟨(some 20), .call (.func 32) [(.tmp 19)], none⟩,
    ⟨(some 21), .not (.tmp 20), none⟩,
    ⟨(some 22), .mv (.tmp 21), none⟩,
    ⟨(some 23), .faddr (.tmp 5) 1, some (22, false)⟩,
    ⟨(some 24), .load (.tmp 23) none, some (22, false)⟩,
    ⟨(some 25), .call (.func 32) [(.tmp 24)], some (22, false)⟩,
    ⟨(some 26), .not (.tmp 25), some (22, false)⟩,
    ⟨(some 27), .pick (.tmp 22) (.const (.bool true)) (.tmp 26), none⟩,
    ⟨(some 17), .mv (.tmp 27), none⟩])
  (.cond (.tmp 17)
   (.seq (.ops [⟨(some 28), .mv (.tmp 4), none⟩,
     ⟨(some 2), .mv (.tmp 28), none⟩,
     ⟨(some 3), .mv (.const (.int .i64 9)), none⟩])
   .ret)
   (.seq (.draw [⟨(some 30), .mv (.tmp 0), none⟩,
     ⟨(some 31), .mv (.tmp 4), none⟩,
     ⟨(some 32), .slice (.tmp 30) none (some (.tmp 31)) 2, none⟩,
     ⟨(some 33), .faddr (.tmp 5) 0, none⟩,
     ⟨(some 34), .load (.tmp 33) none, none⟩,
     ⟨(some 35), .call (.func 22) [(.tmp 32), (.tmp 34)], none⟩,
     ⟨(some 36), .int .geq (.tmp 35) (.const (.int .i64 0)), none⟩,
     ⟨(some 29), .mv (.tmp 36), none⟩])
   (.cond (.tmp 29)
    (.seq (.ops [⟨(some 37), .mv (.tmp 4), none⟩,
      ⟨(some 2), .mv (.tmp 37), none⟩,
      ⟨(some 3), .mv (.const (.int .i64 8)), none⟩])
    .ret)
    .skip)))))))))
 (.ops [⟨(some 38), .int .add (.tmp 8) (.const (.int .i64 1)), none⟩,
   ⟨(some 8), .mv (.tmp 38), none⟩]))))

def k_rule_Check : ACode :=
 (.seq (.ops [⟨(some 2), .mv (.const (.int .i64 0)), none⟩,
   ⟨(some 3), .mv (.const (.int .i64 0)), none⟩])
 (.seq (.seq (.ops [⟨(some 6), .mv (.tmp 0), none⟩,
   ⟨(some 7), .len false (.tmp 6), none⟩,
   ⟨(some 8), .mv (.const (.int .i64 0)), none⟩])
 (.block 0 (.loop [0, 6, 7, 8] b_rule_Check_0)))
 (.seq (.ops [⟨(some 2), .mv (.const (.int .i64 (-1))), none⟩,
   ⟨(some 3), .mv (.const (.int .i64 0)), none⟩])
 .ret)))
def F_rule_Check : AFunc := ⟨1, 39, [.tmp 2, .tmp 3], k_rule_Check⟩
theorem ok_rule_Check : FOK Try.prog 23 F_rule_Check := FOK.of [[0, 6, 7, 8], [0, 1, 2, 3, 4, 5, 6, 7]] Try.func23 (by kernel_rfl) (by kernel_rfl)

-- lontar/rule.Turn
@[reducible] def i_rule_Turn : Nat := 24
/-- rule_Turn: the body of loop 0 -/
def b_rule_Turn_0 : ACode :=
 (.seq (.ops [⟨(some 9), .int .lss (.tmp 8) (.tmp 7), none⟩])
 (.seq (.cond (.tmp 9)
  .skip
  (.exit 0))
 (.seq (.block 1 (.seq (.ops [⟨(some 10), .iaddr (.tmp 6) (.tmp 8) 2, none⟩,
   ⟨(some 11), .load (.tmp 10) (some 2), none⟩,
   ⟨(some 5), .alloc [(.slice none 0 0), (.slice none 0 0)] 50, none⟩,
   ⟨none, .store (.tmp 5) (.tmp 11) 2, none⟩])
 (.seq (.ops [⟨(some 12), .mv (.tmp 3), none⟩,
   ⟨(some 13), .faddr (.tmp 5) 1, none⟩,
   ⟨(some 14), .load (.tmp 13) none, none⟩,
   ⟨(some 15), .call (.func 22) [(.tmp 12), (.tmp 14)], none⟩,
   ⟨(some 16), .int .lss (.tmp 15) (.const (.int .i64 0)), none⟩])
 (.cond (.tmp 16)
  (.draw [⟨(some 17), .mv (.tmp 3), none⟩,
    ⟨(some 18), .faddr (.tmp 5) 1, none⟩,
    ⟨(some 19), .load (.tmp 18) none, none⟩,
    ⟨(some 21), .faddr (.tmp 5) 0, none⟩,
    ⟨(some 22), .load (.tmp 21) none, none⟩,
    ⟨(some 20), .call (.func 33) [(.tmp 19)], none⟩,
    ⟨(some 23), .call (.func 33) [(.tmp 22)], none⟩,
    ⟨(some 24), .build [(.slice none 0 0), (.slice none 0 0)] [(0, 1, (.tmp 20)), (1, 1, (.tmp 23))], none⟩,
    ⟨(some 25), .bslice 50 1 2 [(.slice none 0 0), (.slice none 0 0)] [(0, 2, (.tmp 24))], none⟩,
    ⟨(some 26), .append (.tmp 17) (.tmp 25) 50 2 48, none⟩,
    ⟨(some 3), .mv (.tmp 26), none⟩])
  .skip))))
 (.ops [⟨(some 27), .int .add (.tmp 8) (.const (.int .i64 1)), none⟩,
   ⟨(some 8), .mv (.tmp 27), none⟩]))))

def k_rule_Turn : ACode :=
 (.seq (.ops [⟨(some 2), .mv (.const (.slice none 0 0)), none⟩])
 (.seq (.ops [⟨(some 3), .mv (.const (.slice none 0 0)), none⟩])
 (.seq (.seq (.ops [⟨(some 6), .mv (.tmp 0), none⟩,
   ⟨(some 7), .len false (.tmp 6), none⟩,
   ⟨(some 8), .mv (.const (.int .i64 0)), none⟩])
 (.block 0 (.loop [3, 6, 7, 8] b_rule_Turn_0)))
 (.seq (.ops [⟨(some 28), .mv (.tmp 3), none⟩,
   ⟨(some 2), .mv (.tmp 28), none⟩])
 .ret))))
def F_rule_Turn : AFunc := ⟨1, 29, [.tmp 2], k_rule_Turn⟩
theorem ok_rule_Turn : FOK Try.prog 24 F_rule_Turn := FOK.of [[3, 6, 7, 8], [0, 1, 2, 4, 5, 3, 6, 7, 8, 9, 10]] Try.func24 (by kernel_rfl) (by kernel_rfl)

-- lontar/indic.places
@[reducible] def i_indic_places : Nat := 25
def k_indic_places : ACode :=
 (.seq (.ops [⟨(some 0), .alloc [(.int .i64 0), (.int .i64 0), (.int .i64 0), (.int .i64 0), (.int .i64 0), (.int .i64 0), (.int .i64 0), (.int .i64 0), (.int .i64 0), (.int .i64 0), (.int .i64 0), (.int .i64 0), (.int .i64 0), (.int .i64 0), (.int .i64 0), (.int .i64 0), (.int .i64 0), (.int .i64 0), (.int .i64 0), (.int .i64 0), (.int .i64 0), (.int .i64 0), (.int .i64 0), (.int .i64 0), (.int .i64 0), (.int .i64 0), (.int .i64 0), (.int .i64 0), (.int .i64 0), (.int .i64 0), (.int .i64 0), (.int .i64 0), (.int .i64 0), (.int .i64 0), (.int .i64 0), (.int .i64 0), (.int .i64 0), (.int .i64 0), (.int .i64 0), (.int .i64 0), (.int .i64 0), (.int .i64 0), (.int .i64 0), (.int .i64 0), (.int .i64 0), (.int .i64 0), (.int .i64 0), (.int .i64 0), (.int .i64 0), (.int .i64 0), (.int .i64 0), (.int .i64 0), (.int .i64 0), (.int .i64 0), (.int .i64 0), (.int .i64 0), (.int .i64 0), (.int .i64 0), (.int .i64 0), (.int .i64 0), (.int .i64 0), (.int .i64 0), (.int .i64 0), (.int .i64 0), (.int .i64 0), (.int .i64 0), (.int .i64 0), (.int .i64 0), (.int .i64 0), (.int .i64 0), (.int .i64 0), (.int .i64 0), (.int .i64 0), (.int .i64 0)] 52, none⟩])
 (.seq (.ops [⟨(some 1), .build [(.int .i64 0), (.int .i64 0), (.int .i64 0), (.int .i64 0), (.int .i64 0), (.int .i64 0), (.int .i64 0), (.int .i64 0), (.int .i64 0), (.int .i64 0), (.int .i64 0), (.int .i64 0), (.int .i64 0), (.int .i64 0), (.int .i64 0), (.int .i64 0), (.int .i64 0), (.int .i64 0), (.int .i64 0), (.int .i64 0), (.int .i64 0), (.int .i64 0), (.int .i64 0), (.int .i64 0), (.int .i64 0), (.int .i64 0), (.int .i64 0), (.int .i64 0), (.int .i64 0), (.int .i64 0), (.int .i64 0), (.int .i64 0), (.int .i64 0), (.int .i64 0), (.int .i64 0), (.int .i64 0), (.int .i64 0), (.int .i64 0), (.int .i64 0), (.int .i64 0), (.int .i64 0), (.int .i64 0), (.int .i64 0), (.int .i64 0), (.int .i64 0), (.int .i64 0), (.int .i64 0), (.int .i64 0), (.int .i64 0), (.int .i64 0), (.int .i64 0), (.int .i64 0), (.int .i64 0), (.int .i64 0), (.int .i64 0), (.int .i64 0), (.int .i64 0), (.int .i64 0), (.int .i64 0), (.int .i64 0), (.int .i64 0), (.int .i64 0), (.int .i64 0), (.int .i64 0), (.int .i64 0), (.int .i64 0), (.int .i64 0), (.int .i64 0), (.int .i64 0), (.int .i64 0), (.int .i64 0), (.int .i64 0), (.int .i64 0), (.int .i64 0)] [(0, 1, (.const (.int .i64 1))), (1, 1, (.const (.int .i64 2))), (2, 1, (.const (.int .i64 3))), (3, 1, (.const (.int .i64 5))), (4, 1, (.const (.int .i64 6))), (5, 1, (.const (.int .i64 7))), (6, 1, (.const (.int .i64 8))), (7, 1, (.const (.int .i64 9))), (8, 1, (.const (.int .i64 10))), (9, 1, (.const (.int .i64 11))), (10, 1, (.const (.int .i64 14))), (11, 1, (.const (.int .i64 15))), (12, 1, (.const (.int .i64 16))), (13, 1, (.const (.int .i64 13))), (14, 1, (.const (.int .i64 18))), (15, 1, (.const (.int .i64 19))), (16, 1, (.const (.int .i64 20))), (17, 1, (.const (.int .i64 17))), (18, 1, (.const (.int .i64 21))), (19, 1, (.const (.int .i64 22))), (20, 1, (.const (.int .i64 23))), (21, 1, (.const (.int .i64 24))), (22, 1, (.const (.int .i64 25))), (23, 1, (.const (.int .i64 26))), (24, 1, (.const (.int .i64 27))), (25, 1, (.const (.int .i64 28))), (26, 1, (.const (.int .i64 29))), (27, 1, (.const (.int .i64 30))), (28, 1, (.const (.int .i64 31))), (29, 1, (.const (.int .i64 32))), (30, 1, (.const (.int .i64 33))), (31, 1, (.const (.int .i64 34))), (32, 1, (.const (.int .i64 35))), (33, 1, (.const (.int .i64 36))), (34, 1, (.const (.int .i64 37))), (35, 1, (.const (.int .i64 38))), (36, 1, (.const (.int .i64 39))), (37, 1, (.const (.int .i64 40))), (38, 1, (.const (.int .i64 41))), (39, 1, (.const (.int .i64 42))), (40, 1, (.const (.int .i64 43))), (41, 1, (.const (.int .i64 44))), (42, 1, (.const (.int .i64 45))), (43, 1, (.const (.int .i64 46))), (44, 1, (.const (.int .i64 47))), (45, 1, (.const (.int .i64 95))), (46, 1, (.const (.int .i64 48))), (47, 1, (.const (.int .i64 49))), (48, 1, (.const (.int .i64 50))), (49, 1, (.const (.int .i64 51))), (50, 1, (.const (.int .i64 52))), (51, 1, (.const (.int .i64 53))), (52, 1, (.const (.int .i64 54))), (53, 1, (.const (.int .i64 55))), (54, 1, (.const (.int .i64 56))), (55, 1, (.const (.int .i64 57))), (56, 1, (.const (.int .i64 (-1)))), (57, 1, (.const (.int .i64 62))), (58, 1, (.const (.int .i64 63))), (59, 1, (.const (.int .i64 64))), (60, 1, (.const (.int .i64 65))), (61, 1, (.const (.int .i64 66))), (62, 1, (.const (.int .i64 67))), (63, 1, (.const (.int .i64 70))), (64, 1, (.const (.int .i64 71))), (65, 1, (.const (.int .i64 72))), (66, 1, (.const (.int .i64 69))), (67, 1, (.const (.int .i64 74))), (68, 1, (.const (.int .i64 75))), (69, 1, (.const (.int .i64 76))), (70, 1, (.const (.int .i64 73))), (71, 1, (.const (.int .i64 77))), (72, 1, (.const (.int .i64 60))), (73, 1, (.const (.int .i64 (-1))))], none⟩,
   ⟨none, .store (.tmp 0) (.tmp 1) 74, none⟩])
 .ret))
def F_indic_places : AFunc := ⟨0, 2, [.cell 0 (some 74)], k_indic_places⟩
theorem ok_indic_places : FOK Try.prog 25 F_indic_places := FOK.of [] Try.func25 (by kernel_rfl) (by kernel_rfl)

-- lontar/indic.code
@[reducible] def i_indic_code : Nat := 26
def k_indic_code : ACode :=
 (.seq (.ops [⟨(some 2), .mv (.const (.int .i64 0)), none⟩])
 (.seq (.ops [⟨(some 3), .build [(.int .i64 0), (.int .i64 0), (.int .i64 0), (.int .i64 0), (.int .i64 0), (.int .i64 0), (.int .i64 0), (.int .i64 0), (.int .i64 0)] [(0, 1, (.const (.int .i64 66))), (1, 1, (.const (.int .i64 67))), (2, 1, (.const (.int .i64 75))), (3, 1, (.const (.int .i64 74))), (4, 1, (.const (.int .i64 71))), (5, 1, (.const (.int .i64 68))), (6, 1, (.const (.int .i64 69))), (7, 1, (.const (.int .i64 72))), (8, 1, (.const (.int .i64 73)))], none⟩,
   ⟨(some 4), .mv (.tmp 0), none⟩,
   ⟨(some 5), .index (.tmp 3) (.tmp 4) 9 false 1, none⟩,
   ⟨(some 2), .mv (.tmp 5), none⟩])
 .ret))
def F_indic_code : AFunc := ⟨1, 6, [.tmp 2], k_indic_code⟩
theorem ok_indic_code : FOK Try.prog 26 F_indic_code := FOK.of [] Try.func26 (by kernel_rfl) (by kernel_rfl)

-- lontar/lontarlaw01.Units
@[reducible] def i_lontarlaw01_Units : Nat := 27
/-- lontarlaw01_Units: the body of loop 0 -/
def b_lontarlaw01_Units_0 : ACode :=
 (.seq (.ops [⟨(some 14), .int .lss (.tmp 13) (.tmp 12), none⟩])
 (.seq (.cond (.tmp 14)
  .skip
  (.exit 0))
 (.seq (.block 1 (.seq (.ops [⟨(some 15), .mv (.tmp 13), none⟩,
   ⟨(some 5), .mv (.tmp 15), none⟩])
 (.seq (.draw [⟨(some 16), .mv (.tmp 0), none⟩,
   ⟨(some 17), .mv (.tmp 5), none⟩,
   ⟨(some 18), .iaddr (.tmp 16) (.tmp 17) 1, none⟩,
   ⟨(some 19), .load (.tmp 18) none, none⟩,
   ⟨(some 20), .mv (.tmp 1), none⟩,
   ⟨(some 21), .mv (.tmp 5), none⟩,
   ⟨(some 22), .iaddr (.tmp 20) (.tmp 21) 1, none⟩,
   ⟨(some 23), .load (.tmp 22) none, none⟩,
   ⟨(some 24), .int .neq (.tmp 19) (.tmp 23), none⟩])
 (.cond (.tmp 24)
  (.seq (.ops [⟨(some 4), .mv (.const (.bool false)), none⟩])
  .ret)
  .skip))))
 (.ops [⟨(some 25), .int .add (.tmp 13) (.const (.int .i64 1)), none⟩,
   ⟨(some 13), .mv (.tmp 25), none⟩]))))

def k_lontarlaw01_Units : ACode :=
 (.seq (.ops [⟨(some 4), .mv (.const (.bool false)), none⟩])
 (.seq (.seq (.ops [⟨(some 6), .mv (.tmp 0), none⟩,
   ⟨(some 7), .len false (.tmp 6), none⟩,
   ⟨(some 8), .mv (.tmp 1), none⟩,
   ⟨(some 9), .len false (.tmp 8), none⟩,
   ⟨(some 10), .int .neq (.tmp 7) (.tmp 9), none⟩])
 (.cond (.tmp 10)
  (.seq (.ops [⟨(some 4), .mv (.const (.bool false)), none⟩])
  .ret)
  .skip))
 (.seq (.seq (.ops [⟨(some 11), .mv (.tmp 0), none⟩,
   ⟨(some 12), .len false (.tmp 11), none⟩,
   ⟨(some 13), .mv (.const (.int .i64 0)), none⟩])
 (.block 0 (.loop [0, 1, 12, 13] b_lontarlaw01_Units_0)))
 (.seq (.ops [⟨(some 4), .mv (.const (.bool true)), none⟩])
 .ret))))
def F_lontarlaw01_Units : AFunc := ⟨2, 26, [.tmp 4], k_lontarlaw01_Units⟩
theorem ok_lontarlaw01_Units : FOK Try.prog 27 F_lontarlaw01_Units := FOK.of [[0, 1, 12, 13], [0, 1, 2, 3, 4, 5, 6, 7, 8]] Try.func27 (by kernel_rfl) (by kernel_rfl)

-- lontar/lontarlaw14.Rules$1
@[reducible] def i_lontarlaw14_Rules_1 : Nat := 28
def k_lontarlaw14_Rules_1 : ACode :=
 (.ops [⟨(some 5), .load (.tmp 2) none, none⟩,
   ⟨(some 6), .mv (.tmp 0), none⟩,
   ⟨(some 7), .mv (.tmp 1), none⟩,
   ⟨(some 8), .build [(.slice none 0 0), (.slice none 0 0)] [(0, 1, (.tmp 6)), (1, 1, (.tmp 7))], none⟩,
   ⟨(some 9), .bslice 50 1 2 [(.slice none 0 0), (.slice none 0 0)] [(0, 2, (.tmp 8))], none⟩,
   ⟨(some 10), .append (.tmp 5) (.tmp 9) 50 2 48, none⟩,
   ⟨none, .store (.tmp 2) (.tmp 10) 1, none⟩])
def F_lontarlaw14_Rules_1 : AFunc := ⟨3, 11, [], k_lontarlaw14_Rules_1⟩
theorem ok_lontarlaw14_Rules_1 : FOK Try.prog 28 F_lontarlaw14_Rules_1 := FOK.of [] Try.func28 (by kernel_rfl) (by kernel_rfl)

-- slices.IndexFunc[[]lontar/api.Rule,lontar/api.Rule]
@[reducible] def i_api_Rule_ : Nat := 29
/-- api_Rule_: the body of loop 0 -/
def b_api_Rule__0 : ACode :=
 (.seq (.ops [⟨(some 9), .int .lss (.tmp 8) (.tmp 7), none⟩])
 (.seq (.cond (.tmp 9)
  .skip
  (.exit 0))
 (.seq (.block 1 (.seq (.ops [⟨(some 10), .mv (.tmp 8), none⟩,
   ⟨(some 5), .mv (.tmp 10), none⟩])
 (.seq (.ops [⟨(some 11), .mv (.tmp 1), none⟩,
   ⟨(some 12), .mv (.tmp 0), none⟩,
   ⟨(some 13), .mv (.tmp 5), none⟩,
   ⟨(some 14), .iaddr (.tmp 12) (.tmp 13) 2, none⟩,
   ⟨(some 15), .load (.tmp 14) (some 2), none⟩,
   ⟨(some 16), .call (.tmp 11) [(.tmp 15)], none⟩])
 (.cond (.tmp 16)
  (.seq (.ops [⟨(some 17), .mv (.tmp 5), none⟩,
    ⟨(some 4), .mv (.tmp 17), none⟩])
  .ret)
  .skip))))
 (.ops [⟨(some 18), .int .add (.tmp 8) (.const (.int .i64 1)), none⟩,
   ⟨(some 8), .mv (.tmp 18), none⟩]))))

def k_api_Rule_ : ACode :=
 (.seq (.ops [⟨(some 4), .mv (.const (.int .i64 0)), none⟩])
 (.seq (.seq (.ops [⟨(some 6), .mv (.tmp 0), none⟩,
   ⟨(some 7), .len false (.tmp 6), none⟩,
   ⟨(some 8), .mv (.const (.int .i64 0)), none⟩])
 (.block 0 (.loop [0, 1, 7, 8] b_api_Rule__0)))
 (.seq (.ops [⟨(some 4), .mv (.const (.int .i64 (-1))), none⟩])
 .ret)))
def F_api_Rule_ : AFunc := ⟨2, 19, [.tmp 4], k_api_Rule_⟩
theorem ok_api_Rule_ : FOK Try.prog 29 F_api_Rule_ := FOK.of [[0, 1, 7, 8]] Try.func29 (by kernel_rfl) (by kernel_rfl)

-- lontar/rule.Find$1
@[reducible] def i_rule_Find_1 : Nat := 30
def k_rule_Find_1 : ACode :=
 (.seq (.ops [⟨(some 2), .box (.tmp 0) 50, none⟩,
   ⟨(some 3), .mv (.const (.bool false)), none⟩])
 (.seq (.ops [⟨(some 4), .faddr (.tmp 2) 0, none⟩,
   ⟨(some 5), .load (.tmp 4) none, none⟩,
   ⟨(some 6), .load (.tmp 1) none, none⟩,
   ⟨(some 7), .call (.func 31) [(.tmp 5), (.tmp 6)], none⟩,
   ⟨(some 3), .mv (.tmp 7), none⟩])
 .ret))
def F_rule_Find_1 : AFunc := ⟨2, 8, [.tmp 3], k_rule_Find_1⟩
theorem ok_rule_Find_1 : FOK Try.prog 30 F_rule_Find_1 := FOK.of [] Try.func30 (by kernel_rfl) (by kernel_rfl)

-- slices.Equal[[]int,int]
@[reducible] def i_slices_Equal___int_int_ : Nat := 31
/-- slices_Equal___int_int_: the body of loop 0 -/
def b_slices_Equal___int_int__0 : ACode :=
 (.seq (.ops [⟨(some 14), .int .lss (.tmp 13) (.tmp 12), none⟩])
 (.seq (.cond (.tmp 14)
  .skip
  (.exit 0))
 (.seq (.block 1 (.seq (.ops [⟨(some 15), .mv (.tmp 13), none⟩,
   ⟨(some 5), .mv (.tmp 15), none⟩])
 (.seq (.draw [⟨(some 16), .mv (.tmp 0), none⟩,
   ⟨(some 17), .mv (.tmp 5), none⟩,
   ⟨(some 18), .iaddr (.tmp 16) (.tmp 17) 1, none⟩,
   ⟨(some 19), .load (.tmp 18) none, none⟩,
   ⟨(some 20), .mv (.tmp 1), none⟩,
   ⟨(some 21), .mv (.tmp 5), none⟩,
   ⟨(some 22), .iaddr (.tmp 20) (.tmp 21) 1, none⟩,
   ⟨(some 23), .load (.tmp 22) none, none⟩,
   ⟨(some 24), .int .neq (.tmp 19) (.tmp 23), none⟩])
 (.cond (.tmp 24)
  (.seq (.ops [⟨(some 4), .mv (.const (.bool false)), none⟩])
  .ret)
  .skip))))
 (.ops [⟨(some 25), .int .add (.tmp 13) (.const (.int .i64 1)), none⟩,
   ⟨(some 13), .mv (.tmp 25), none⟩]))))

def k_slices_Equal___int_int_ : ACode :=
 (.seq (.ops [⟨(some 4), .mv (.const (.bool false)), none⟩])
 (.seq (.seq (.ops [⟨(some 6), .mv (.tmp 0), none⟩,
   ⟨(some 7), .len false (.tmp 6), none⟩,
   ⟨(some 8), .mv (.tmp 1), none⟩,
   ⟨(some 9), .len false (.tmp 8), none⟩,
   ⟨(some 10), .int .neq (.tmp 7) (.tmp 9), none⟩])
 (.cond (.tmp 10)
  (.seq (.ops [⟨(some 4), .mv (.const (.bool false)), none⟩])
  .ret)
  .skip))
 (.seq (.seq (.ops [⟨(some 11), .mv (.tmp 0), none⟩,
   ⟨(some 12), .len false (.tmp 11), none⟩,
   ⟨(some 13), .mv (.const (.int .i64 0)), none⟩])
 (.block 0 (.loop [0, 1, 12, 13] b_slices_Equal___int_int__0)))
 (.seq (.ops [⟨(some 4), .mv (.const (.bool true)), none⟩])
 .ret))))
def F_slices_Equal___int_int_ : AFunc := ⟨2, 26, [.tmp 4], k_slices_Equal___int_int_⟩
theorem ok_slices_Equal___int_int_ : FOK Try.prog 31 F_slices_Equal___int_int_ := FOK.of [[0, 1, 12, 13], [0, 1, 2, 3, 4, 5, 6, 7, 8]] Try.func31 (by kernel_rfl) (by kernel_rfl)

-- lontar/rule.side
@[reducible] def i_rule_side : Nat := 32
def k_rule_side : ACode :=
 (.seq (.ops [⟨(some 2), .mv (.const (.bool false)), none⟩])
 (.seq (.ops [⟨(some 3), .mv (.tmp 0), none⟩,
   ⟨(some 4), .len false (.tmp 3), none⟩,
   ⟨(some 5), .int .gtr (.tmp 4) (.const (.int .i64 0)), none⟩,
   ⟨(some 6), .mv (.tmp 5), none⟩,
   ⟨(some 7), .mv (.tmp 0), some (6, true)⟩,
   ⟨(some 8), .len false (.tmp 7), some (6, true)⟩,
   ⟨(some 9), .int .leq (.tmp 8) (.const (.int .i64 8)), some (6, true)⟩,
   ⟨(some 10), .pick (.tmp 6) (.tmp 9) (.const (.bool false)), none⟩,
   ⟨(some 11), .mv (.tmp 10), none⟩,
   ⟨(some 12), .mv (.tmp 0), some (11, true)⟩,
   ⟨(some 13), .call (.func 34) [(.tmp 12), (.func 35)], some (11, true)⟩,
   ⟨(some 14), .not (.tmp 13), some (11, true)⟩,
   ⟨(some 15), .pick (.tmp 11) (.tmp 14) (.const (.bool false)), none⟩,
   ⟨(some 2), .mv (.tmp 15), none⟩])
 .ret))
def F_rule_side : AFunc := ⟨1, 16, [.tmp 2], k_rule_side⟩
theorem ok_rule_side : FOK Try.prog 32 F_rule_side := FOK.of [] Try.func32 (by kernel_rfl) (by kernel_rfl)

-- slices.Clone[[]int,int]
@[reducible] def i_slices_Clone___int_int_ : Nat := 33
def k_slices_Clone___int_int_ : ACode :=
 (.seq (.ops [⟨(some 2), .mv (.const (.slice none 0 0)), none⟩])
 (.seq (.seq (.ops [⟨(some 3), .mv (.tmp 0), none⟩,
   ⟨(some 4), .isNil 1 false (.tmp 3), none⟩])
 (.cond (.tmp 4)
  (.seq (.ops [⟨(some 2), .mv (.const (.slice none 0 0)), none⟩])
  .ret)
  .skip))
 (.seq (.ops [⟨(some 5), .bslice 3 0 1 [(.int .i64 0)] [], none⟩,
   ⟨(some 6), .mv (.tmp 0), none⟩,
   ⟨(some 7), .append (.tmp 5) (.tmp 6) 3 1 8, none⟩,
   ⟨(some 2), .mv (.tmp 7), none⟩])
 .ret)))
def F_slices_Clone___int_int_ : AFunc := ⟨1, 8, [.tmp 2], k_slices_Clone___int_int_⟩
theorem ok_slices_Clone___int_int_ : FOK Try.prog 33 F_slices_Clone___int_int_ := FOK.of [] Try.func33 (by kernel_rfl) (by kernel_rfl)

-- slices.ContainsFunc[[]int,int]
@[reducible] def i_slices_ContainsFunc___int_int_ : Nat := 34
def k_slices_ContainsFunc___int_int_ : ACode :=
 (.seq (.ops [⟨(some 4), .mv (.const (.bool false)), none⟩])
 (.seq (.ops [⟨(some 5), .mv (.tmp 0), none⟩,
   ⟨(some 6), .mv (.tmp 1), none⟩,
   ⟨(some 7), .call (.func 36) [(.tmp 5), (.tmp 6)], none⟩,
   ⟨(some 8), .int .geq (.tmp 7) (.const (.int .i64 0)), none⟩,
   ⟨(some 4), .mv (.tmp 8), none⟩])
 .ret))
def F_slices_ContainsFunc___int_int_ : AFunc := ⟨2, 9, [.tmp 4], k_slices_ContainsFunc___int_int_⟩
theorem ok_slices_ContainsFunc___int_int_ : FOK Try.prog 34 F_slices_ContainsFunc___int_int_ := FOK.of [] Try.func34 (by kernel_rfl) (by kernel_rfl)

-- lontar/rule.side$1
@[reducible] def i_rule_side_1 : Nat := 35
def k_rule_side_1 : ACode :=
 (.seq (.ops [⟨(some 2), .mv (.const (.bool false)), none⟩])
 (.seq (.ops [⟨(some 3), .mv (.tmp 0), none⟩,
   ⟨(some 4), .int .lss (.tmp 3) (.const (.int .i64 0)), none⟩,
   ⟨(some 5), .mv (.tmp 4), none⟩,
   ⟨(some 6), .mv (.tmp 0), some (5, false)⟩,
   ⟨(some 7), .int .gtr (.tmp 6) (.const (.int .i64 1114111)), some (5, false)⟩,
   ⟨(some 8), .pick (.tmp 5) (.const (.bool true)) (.tmp 7), none⟩,
   ⟨(some 2), .mv (.tmp 8), none⟩])
 .ret))
def F_rule_side_1 : AFunc := ⟨1, 9, [.tmp 2], k_rule_side_1⟩
theorem ok_rule_side_1 : FOK Try.prog 35 F_rule_side_1 := FOK.of [] Try.func35 (by kernel_rfl) (by kernel_rfl)

-- slices.IndexFunc[[]int,int]
@[reducible] def i_slices_IndexFunc___int_int_ : Nat := 36
/-- slices_IndexFunc___int_int_: the body of loop 0 -/
def b_slices_IndexFunc___int_int__0 : ACode :=
 (.seq (.ops [⟨(some 9), .int .lss (.tmp 8) (.tmp 7), none⟩])
 (.seq (.cond (.tmp 9)
  .skip
  (.exit 0))
 (.seq (.block 1 (.seq (.ops [⟨(some 10), .mv (.tmp 8), none⟩,
   ⟨(some 5), .mv (.tmp 10), none⟩])
 (.seq (.ops [⟨(some 11), .mv (.tmp 1), none⟩,
   ⟨(some 12), .mv (.tmp 0), none⟩,
   ⟨(some 13), .mv (.tmp 5), none⟩,
   ⟨(some 14), .iaddr (.tmp 12) (.tmp 13) 1, none⟩,
   ⟨(some 15), .load (.tmp 14) none, none⟩,
   ⟨(some 16), .call (.tmp 11) [(.tmp 15)], none⟩])
 (.cond (.tmp 16)
  (.seq (.ops [⟨(some 17), .mv (.tmp 5), none⟩,
    ⟨(some 4), .mv (.tmp 17), none⟩])
  .ret)
  .skip))))
 (.ops [⟨(some 18), .int .add (.tmp 8) (.const (.int .i64 1)), none⟩,
   ⟨(some 8), .mv (.tmp 18), none⟩]))))

def k_slices_IndexFunc___int_int_ : ACode :=
 (.seq (.ops [⟨(some 4), .mv (.const (.int .i64 0)), none⟩])
 (.seq (.seq (.ops [⟨(some 6), .mv (.tmp 0), none⟩,
   ⟨(some 7), .len false (.tmp 6), none⟩,
   ⟨(some 8), .mv (.const (.int .i64 0)), none⟩])
 (.block 0 (.loop [0, 1, 7, 8] b_slices_IndexFunc___int_int__0)))
 (.seq (.ops [⟨(some 4), .mv (.const (.int .i64 (-1))), none⟩])
 .ret)))
def F_slices_IndexFunc___int_int_ : AFunc := ⟨2, 19, [.tmp 4], k_slices_IndexFunc___int_int_⟩
theorem ok_slices_IndexFunc___int_int_ : FOK Try.prog 36 F_slices_IndexFunc___int_int_ := FOK.of [[0, 1, 7, 8]] Try.func36 (by kernel_rfl) (by kernel_rfl)

end Go.Proofs.Ytoijfaglobdceaa
