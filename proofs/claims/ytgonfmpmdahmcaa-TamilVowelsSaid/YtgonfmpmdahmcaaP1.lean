/- What is proved here: what the program's functions come to, as far as the claimed statement asks. Conditions: those that each theorem names, and no others. -/
import Derived.Test.YtgonfmpmdahmcaaLonW
import Derived.Test.YtgonfmpmdahmcaaRows
import Derived.Test.YtgonfmpmdahmcaaLonZl
/-! The functions in the interpreter's form. Written by program. -/
set_option linter.unusedSimpArgs false
namespace Go.Proofs.Ytgonfmpmdahmcaa
open Go Lon

-- lontar/lontarlaw15.TableEncode
@[reducible] def i_lontarlaw15_TableEncode : Nat := 3
def k_lontarlaw15_TableEncode : ACode :=
 (.seq (.ops [⟨(some 6), .mv (.const (.bool false)), none⟩])
 (.seq (.seq (.ops [⟨(some 10), .call (.func 14) [], none⟩,
   ⟨(some 11), .not (.tmp 10), none⟩])
 (.cond (.tmp 11)
  (.seq (.ops [⟨(some 6), .mv (.const (.bool false)), none⟩])
  .ret)
  .skip))
 (.seq (.ops [⟨(some 12), .mv (.tmp 0), none⟩,
   ⟨(some 13), .call (.func 15) [(.tmp 12)], none⟩,
   ⟨(some 7), .mv (.tmp 13), none⟩])
 (.seq (.ops [⟨(some 15), .mv (.tmp 7), none⟩,
   ⟨(some 16), .call (.func 16) [(.tmp 15)], none⟩,
   ⟨(some 14), .mv (.tmp 16), none⟩,
   ⟨(some 17), .ext (.tmp 14) 0, none⟩,
   ⟨(some 18), .ext (.tmp 14) 1, none⟩,
   ⟨(some 8), .mv (.tmp 17), none⟩,
   ⟨(some 9), .mv (.tmp 18), none⟩])
 (.seq (.seq (.ops [⟨(some 19), .mv (.tmp 8), none⟩,
   ⟨(some 20), .isNil 0 false (.tmp 19), none⟩,
   ⟨(some 21), .mv (.tmp 20), none⟩,
   ⟨(some 22), .mv (.tmp 9), some (21, false)⟩,
   ⟨(some 23), .int .neq (.tmp 22) (.const (.int .i64 0)), some (21, false)⟩,
   ⟨(some 24), .pick (.tmp 21) (.const (.bool true)) (.tmp 23), none⟩])
 (.cond (.tmp 24)
  (.seq (.ops [⟨(some 6), .mv (.const (.bool false)), none⟩])
  .ret)
  .skip))
 (.seq (.ops [⟨(some 25), .mv (.tmp 2), none⟩,
   ⟨(some 26), .mv (.tmp 2), none⟩,
   ⟨(some 27), .len false (.tmp 26), none⟩,
   ⟨(some 28), .min2 (.tmp 27) (.const (.int .i64 40)), none⟩,
   ⟨(some 29), .slice (.tmp 25) none (some (.tmp 28)) 1, none⟩,
   ⟨(some 2), .mv (.tmp 29), none⟩])
 (.seq (.ops [⟨(some 30), .mv (.tmp 8), none⟩,
   ⟨(some 31), .mv (.tmp 1), none⟩,
   ⟨(some 32), .call (.func 19) [(.tmp 31)], none⟩,
   ⟨(some 33), .call (.func 18) [(.tmp 30), (.tmp 32)], none⟩,
   ⟨(some 34), .mv (.tmp 7), none⟩,
   ⟨(some 35), .mv (.tmp 1), none⟩,
   ⟨(some 36), .call (.func 19) [(.tmp 35)], none⟩,
   ⟨(some 37), .call (.func 20) [(.tmp 34), (.tmp 36)], none⟩,
   ⟨(some 38), .call (.func 17) [(.tmp 33), (.tmp 37)], none⟩,
   ⟨(some 39), .mv (.tmp 38), none⟩,
   ⟨(some 40), .mv (.tmp 8), some (39, true)⟩,
   ⟨(some 41), .mv (.tmp 2), some (39, true)⟩,
   ⟨(some 42), .call (.func 18) [(.tmp 40), (.tmp 41)], some (39, true)⟩,
   ⟨(some 43), .mv (.tmp 7), some (39, true)⟩,
   ⟨(some 44), .mv (.tmp 2), some (39, true)⟩,
   ⟨(some 45), .call (.func 20) [(.tmp 43), (.tmp 44)], some (39, true)⟩,
   ⟨(some 46), .call (.func 17) [(.tmp 42), (.tmp 45)], some (39, true)⟩,
   ⟨(some 47), .pick (.tmp 39) (.tmp 46) (.const (.bool false)), none⟩,
   ⟨(some 6), .mv (.tmp 47), none⟩])
 .ret)))))))
def F_lontarlaw15_TableEncode : AFunc := ⟨3, 48, [.tmp 6], k_lontarlaw15_TableEncode⟩
theorem ok_lontarlaw15_TableEncode : FOK Try.prog 3 F_lontarlaw15_TableEncode := FOK.of [] Try.func3 (by kernel_rfl) (by kernel_rfl)

-- lontar/lontarlaw15.TableJoins
@[reducible] def i_lontarlaw15_TableJoins : Nat := 4
def k_lontarlaw15_TableJoins : ACode :=
 (.seq (.ops [⟨(some 8), .mv (.const (.bool false)), none⟩])
 (.seq (.seq (.ops [⟨(some 16), .call (.func 14) [], none⟩,
   ⟨(some 17), .not (.tmp 16), none⟩])
 (.cond (.tmp 17)
  (.seq (.ops [⟨(some 8), .mv (.const (.bool false)), none⟩])
  .ret)
  .skip))
 (.seq (.ops [⟨(some 18), .mv (.tmp 0), none⟩,
   ⟨(some 19), .call (.func 15) [(.tmp 18)], none⟩,
   ⟨(some 9), .mv (.tmp 19), none⟩])
 (.seq (.ops [⟨(some 21), .mv (.tmp 9), none⟩,
   ⟨(some 22), .call (.func 16) [(.tmp 21)], none⟩,
   ⟨(some 20), .mv (.tmp 22), none⟩,
   ⟨(some 23), .ext (.tmp 20) 0, none⟩,
   ⟨(some 24), .ext (.tmp 20) 1, none⟩,
   ⟨(some 10), .mv (.tmp 23), none⟩,
   ⟨(some 11), .mv (.tmp 24), none⟩])
 (.seq (.seq (.ops [⟨(some 25), .mv (.tmp 10), none⟩,
   ⟨(some 26), .isNil 0 false (.tmp 25), none⟩,
   ⟨(some 27), .mv (.tmp 26), none⟩,
   ⟨(some 28), .mv (.tmp 11), some (27, false)⟩,
   ⟨(some 29), .int .neq (.tmp 28) (.const (.int .i64 0)), some (27, false)⟩,
   ⟨(some 30), .pick (.tmp 27) (.const (.bool true)) (.tmp 29), none⟩])
 (.cond (.tmp 30)
  (.seq (.ops [⟨(some 8), .mv (.const (.bool false)), none⟩])
  .ret)
  .skip))
 (.seq (.ops [⟨(some 31), .mv (.tmp 1), none⟩,
   ⟨(some 32), .call (.func 19) [(.tmp 31)], none⟩,
   ⟨(some 33), .mv (.tmp 2), none⟩,
   ⟨(some 34), .call (.func 19) [(.tmp 33)], none⟩,
   ⟨(some 12), .mv (.tmp 32), none⟩,
   ⟨(some 13), .mv (.tmp 34), none⟩])
 (.seq (.draw [⟨(some 35), .mv (.tmp 12), none⟩,
   ⟨(some 36), .mv (.tmp 12), none⟩,
   ⟨(some 37), .len false (.tmp 36), none⟩,
   ⟨(some 38), .min2 (.tmp 37) (.const (.int .i64 4)), none⟩,
   ⟨(some 39), .slice (.tmp 35) none (some (.tmp 38)) 1, none⟩,
   ⟨(some 40), .mv (.tmp 13), none⟩,
   ⟨(some 41), .mv (.tmp 13), none⟩,
   ⟨(some 42), .len false (.tmp 41), none⟩,
   ⟨(some 43), .min2 (.tmp 42) (.const (.int .i64 4)), none⟩,
   ⟨(some 44), .slice (.tmp 40) none (some (.tmp 43)) 1, none⟩,
   ⟨(some 12), .mv (.tmp 39), none⟩,
   ⟨(some 13), .mv (.tmp 44), none⟩])
 (.seq (.seq (.ops [⟨(some 45), .mv (.tmp 10), none⟩,
   ⟨(some 46), .mv (.tmp 12), none⟩,
   ⟨(some 47), .mv (.tmp 13), none⟩,
   ⟨(some 48), .call (.func 21) [(.tmp 45), (.tmp 46), (.tmp 47)], none⟩,
   ⟨(some 49), .mv (.tmp 9), none⟩,
   ⟨(some 50), .mv (.tmp 12), none⟩,
   ⟨(some 51), .mv (.tmp 13), none⟩,
   ⟨(some 52), .call (.func 22) [(.tmp 49), (.tmp 50), (.tmp 51)], none⟩,
   ⟨(some 53), .beq true (.tmp 48) (.tmp 52), none⟩])
 (.cond (.tmp 53)
  (.seq (.ops [⟨(some 8), .mv (.const (.bool false)), none⟩])
  .ret)
  .skip))
 (.seq (.ops [⟨(some 54), .mv (.tmp 10), none⟩,
   ⟨(some 55), .mv (.tmp 12), none⟩,
   ⟨(some 56), .mv (.tmp 13), none⟩,
   ⟨(some 57), .build [(.int .i64 0), (.int .i64 0), (.slice none 0 0), (.int .i64 0)] [(0, 1, (.const (.int .i64 3))), (1, 1, (.const (.int .i64 2))), (2, 1, (.tmp 56))], none⟩,
   ⟨(some 58), .call (.func 23) [(.tmp 54), (.tmp 55), (.tmp 57)], none⟩,
   ⟨(some 14), .alloc [(.int .i64 0), (.int .i64 0), (.slice none 0 0), (.int .i64 0)] 41, none⟩,
   ⟨none, .store (.tmp 14) (.tmp 58) 4, none⟩])
 (.seq (.ops [⟨(some 59), .mv (.tmp 10), none⟩,
   ⟨(some 60), .mv (.tmp 12), none⟩,
   ⟨(some 61), .mv (.tmp 3), none⟩,
   ⟨(some 62), .conv .i64 (.tmp 61), none⟩,
   ⟨(some 63), .build [(.int .i64 0), (.int .i64 0), (.slice none 0 0), (.int .i64 0)] [(0, 1, (.tmp 62)), (1, 1, (.const (.int .i64 1))), (3, 1, (.const (.int .i64 1)))], none⟩,
   ⟨(some 64), .call (.func 23) [(.tmp 59), (.tmp 60), (.tmp 63)], none⟩,
   ⟨(some 15), .alloc [(.int .i64 0), (.int .i64 0), (.slice none 0 0), (.int .i64 0)] 41, none⟩,
   ⟨none, .store (.tmp 15) (.tmp 64) 4, none⟩])
 (.seq (.seq (.ops [⟨(some 65), .faddr (.tmp 15) 3, none⟩,
   ⟨(some 66), .load (.tmp 65) none, none⟩,
   ⟨(some 67), .int .neq (.tmp 66) (.const (.int .i64 1)), none⟩,
   ⟨(some 68), .mv (.tmp 67), none⟩,
   ⟨(some 69), .faddr (.tmp 15) 0, some (68, false)⟩,
   ⟨(some 70), .load (.tmp 69) none, some (68, false)⟩,
   ⟨(some 71), .mv (.tmp 3), some (68, false)⟩,
   ⟨(some 72), .conv .i64 (.tmp 71), some (68, false)⟩,
   ⟨(some 73), .int .neq (.tmp 70) (.tmp 72), some (68, false)⟩,
   ⟨(some 74), .pick (.tmp 68) (.const (.bool true)) (.tmp 73), none⟩,
   ⟨(some 75), .mv (.tmp 74), none⟩,
   ⟨(some 76), .faddr (.tmp 14) 0, some (75, false)⟩,
   ⟨(some 77), .load (.tmp 76) none, some (75, false)⟩,
   ⟨(some 78), .int .neq (.tmp 77) (.const (.int .i64 3)), some (75, false)⟩,
   ⟨(some 79), .pick (.tmp 75) (.const (.bool true)) (.tmp 78), none⟩,
   ⟨(some 80), .mv (.tmp 79), none⟩,
   ⟨(some 81), .faddr (.tmp 14) 1, some (80, false)⟩,
   ⟨(some 82), .load (.tmp 81) none, some (80, false)⟩,
   ⟨(some 83), .int .neq (.tmp 82) (.const (.int .i64 2)), some (80, false)⟩,
   ⟨(some 84), .pick (.tmp 80) (.const (.bool true)) (.tmp 83), none⟩])
 (.cond (.tmp 84)
  (.seq (.ops [⟨(some 8), .mv (.const (.bool false)), none⟩])
  .ret)
  .skip))
 (.seq (.seq (.ops [⟨(some 85), .mv (.tmp 9), none⟩,
   ⟨(some 86), .mv (.tmp 12), none⟩,
   ⟨(some 87), .mv (.tmp 13), none⟩,
   ⟨(some 88), .call (.func 22) [(.tmp 85), (.tmp 86), (.tmp 87)], none⟩])
 (.cond (.tmp 88)
  (.seq (.ops [⟨(some 89), .faddr (.tmp 14) 3, none⟩,
    ⟨(some 90), .load (.tmp 89) none, none⟩,
    ⟨(some 91), .int .eql (.tmp 90) (.const (.int .i64 3)), none⟩,
    ⟨(some 92), .mv (.tmp 91), none⟩,
    ⟨(some 93), .faddr (.tmp 14) 2, some (92, true)⟩,
    ⟨(some 94), .load (.tmp 93) none, some (92, true)⟩,
    ⟨(some 95), .len false (.tmp 94), some (92, true)⟩,
    ⟨(some 96), .int .eql (.tmp 95) (.const (.int .i64 0)), some (92, true)⟩,
    ⟨(some 97), .pick (.tmp 92) (.tmp 96) (.const (.bool false)), none⟩,
    ⟨(some 8), .mv (.tmp 97), none⟩])
  .ret)
  .skip))
 (.seq (.ops [⟨(some 98), .faddr (.tmp 14) 3, none⟩,
   ⟨(some 99), .load (.tmp 98) none, none⟩,
   ⟨(some 100), .int .eql (.tmp 99) (.const (.int .i64 0)), none⟩,
   ⟨(some 101), .mv (.tmp 100), none⟩,
   ⟨(some 102), .faddr (.tmp 14) 2, some (101, true)⟩,
   ⟨(some 103), .load (.tmp 102) none, some (101, true)⟩,
   ⟨(some 104), .mv (.tmp 13), some (101, true)⟩,
   ⟨(some 105), .call (.func 24) [(.tmp 103), (.tmp 104)], some (101, true)⟩,
   ⟨(some 106), .pick (.tmp 101) (.tmp 105) (.const (.bool false)), none⟩,
   ⟨(some 8), .mv (.tmp 106), none⟩])
 .ret)))))))))))))
def F_lontarlaw15_TableJoins : AFunc := ⟨4, 107, [.tmp 8], k_lontarlaw15_TableJoins⟩
theorem ok_lontarlaw15_TableJoins : FOK Try.prog 4 F_lontarlaw15_TableJoins := FOK.of [[0, 1, 2, 3, 4, 5, 6, 7, 8, 9, 10, 11]] Try.func4 (by kernel_rfl) (by kernel_rfl)

-- lontar/lontarlaw15.TableDecode
@[reducible] def i_lontarlaw15_TableDecode : Nat := 5
def k_lontarlaw15_TableDecode : ACode :=
 (.seq (.ops [⟨(some 6), .mv (.const (.bool false)), none⟩])
 (.seq (.seq (.ops [⟨(some 10), .call (.func 14) [], none⟩,
   ⟨(some 11), .not (.tmp 10), none⟩])
 (.cond (.tmp 11)
  (.seq (.ops [⟨(some 6), .mv (.const (.bool false)), none⟩])
  .ret)
  .skip))
 (.seq (.ops [⟨(some 12), .mv (.tmp 0), none⟩,
   ⟨(some 13), .call (.func 15) [(.tmp 12)], none⟩,
   ⟨(some 7), .mv (.tmp 13), none⟩])
 (.seq (.ops [⟨(some 15), .mv (.tmp 7), none⟩,
   ⟨(some 16), .call (.func 16) [(.tmp 15)], none⟩,
   ⟨(some 14), .mv (.tmp 16), none⟩,
   ⟨(some 17), .ext (.tmp 14) 0, none⟩,
   ⟨(some 18), .ext (.tmp 14) 1, none⟩,
   ⟨(some 8), .mv (.tmp 17), none⟩,
   ⟨(some 9), .mv (.tmp 18), none⟩])
 (.seq (.seq (.ops [⟨(some 19), .mv (.tmp 8), none⟩,
   ⟨(some 20), .isNil 0 false (.tmp 19), none⟩,
   ⟨(some 21), .mv (.tmp 20), none⟩,
   ⟨(some 22), .mv (.tmp 9), some (21, false)⟩,
   ⟨(some 23), .int .neq (.tmp 22) (.const (.int .i64 0)), some (21, false)⟩,
   ⟨(some 24), .pick (.tmp 21) (.const (.bool true)) (.tmp 23), none⟩])
 (.cond (.tmp 24)
  (.seq (.ops [⟨(some 6), .mv (.const (.bool false)), none⟩])
  .ret)
  .skip))
 (.seq (.ops [⟨(some 25), .mv (.tmp 2), none⟩,
   ⟨(some 26), .mv (.tmp 2), none⟩,
   ⟨(some 27), .len false (.tmp 26), none⟩,
   ⟨(some 28), .min2 (.tmp 27) (.const (.int .i64 40)), none⟩,
   ⟨(some 29), .slice (.tmp 25) none (some (.tmp 28)) 1, none⟩,
   ⟨(some 2), .mv (.tmp 29), none⟩])
 (.seq (.ops [⟨(some 30), .mv (.tmp 8), none⟩,
   ⟨(some 31), .mv (.tmp 1), none⟩,
   ⟨(some 32), .call (.func 19) [(.tmp 31)], none⟩,
   ⟨(some 33), .call (.func 25) [(.tmp 30), (.tmp 32)], none⟩,
   ⟨(some 34), .mv (.tmp 7), none⟩,
   ⟨(some 35), .mv (.tmp 1), none⟩,
   ⟨(some 36), .call (.func 19) [(.tmp 35)], none⟩,
   ⟨(some 37), .call (.func 26) [(.tmp 34), (.tmp 36)], none⟩,
   ⟨(some 38), .call (.func 17) [(.tmp 33), (.tmp 37)], none⟩,
   ⟨(some 39), .mv (.tmp 38), none⟩,
   ⟨(some 40), .mv (.tmp 8), some (39, true)⟩,
   ⟨(some 41), .mv (.tmp 2), some (39, true)⟩,
   ⟨(some 42), .call (.func 25) [(.tmp 40), (.tmp 41)], some (39, true)⟩,
   ⟨(some 43), .mv (.tmp 7), some (39, true)⟩,
   ⟨(some 44), .mv (.tmp 2), some (39, true)⟩,
   ⟨(some 45), .call (.func 26) [(.tmp 43), (.tmp 44)], some (39, true)⟩,
   ⟨(some 46), .call (.func 17) [(.tmp 42), (.tmp 45)], some (39, true)⟩,
   ⟨(some 47), .pick (.tmp 39) (.tmp 46) (.const (.bool false)), none⟩,
   ⟨(some 6), .mv (.tmp 47), none⟩])
 .ret)))))))
def F_lontarlaw15_TableDecode : AFunc := ⟨3, 48, [.tmp 6], k_lontarlaw15_TableDecode⟩
theorem ok_lontarlaw15_TableDecode : FOK Try.prog 5 F_lontarlaw15_TableDecode := FOK.of [] Try.func5 (by kernel_rfl) (by kernel_rfl)

-- lontar/lontarlaw15.TableBack
@[reducible] def i_lontarlaw15_TableBack : Nat := 6
/-- lontarlaw15_TableBack: the body of loop 0 -/
def b_lontarlaw15_TableBack_0 : ACode :=
 (.seq (.ops [⟨(some 35), .int .lss (.tmp 34) (.tmp 33), none⟩])
 (.seq (.cond (.tmp 35)
  .skip
  (.exit 0))
 (.seq (.block 1 (.seq (.ops [⟨(some 36), .iaddr (.tmp 32) (.tmp 34) 4, none⟩,
   ⟨(some 37), .load (.tmp 36) (some 4), none⟩,
   ⟨(some 10), .alloc [(.int .i64 0), (.int .i64 0), (.slice none 0 0), (.int .i64 0)] 41, none⟩,
   ⟨none, .store (.tmp 10) (.tmp 37) 4, none⟩])
 (.seq (.seq (.ops [⟨(some 38), .faddr (.tmp 10) 3, none⟩,
   ⟨(some 39), .load (.tmp 38) none, none⟩,
   ⟨(some 40), .int .neq (.tmp 39) (.const (.int .i64 0)), none⟩])
 (.cond (.tmp 40)
  (.seq (.ops [⟨(some 4), .mv (.const (.bool true)), none⟩])
  .ret)
  .skip))
 (.ops [⟨(some 41), .mv (.tmp 8), none⟩,
   ⟨(some 42), .faddr (.tmp 10) 2, none⟩,
   ⟨(some 43), .load (.tmp 42) none, none⟩,
   ⟨(some 44), .append (.tmp 41) (.tmp 43) 3 1 8, none⟩,
   ⟨(some 8), .mv (.tmp 44), none⟩]))))
 (.ops [⟨(some 45), .int .add (.tmp 34) (.const (.int .i64 1)), none⟩,
   ⟨(some 34), .mv (.tmp 45), none⟩]))))

/-- lontarlaw15_TableBack: the body of loop 1 -/
def b_lontarlaw15_TableBack_1 : ACode :=
 (.seq (.ops [⟨(some 51), .int .lss (.tmp 50) (.tmp 49), none⟩])
 (.seq (.cond (.tmp 51)
  .skip
  (.exit 2))
 (.seq (.block 3 (.seq (.ops [⟨(some 52), .iaddr (.tmp 48) (.tmp 50) 4, none⟩,
   ⟨(some 53), .load (.tmp 52) (some 4), none⟩,
   ⟨(some 13), .alloc [(.int .i64 0), (.int .i64 0), (.slice none 0 0), (.int .i64 0)] 41, none⟩,
   ⟨none, .store (.tmp 13) (.tmp 53) 4, none⟩])
 (.seq (.seq (.ops [⟨(some 54), .faddr (.tmp 13) 3, none⟩,
   ⟨(some 55), .load (.tmp 54) none, none⟩,
   ⟨(some 56), .int .neq (.tmp 55) (.const (.int .i64 0)), none⟩])
 (.cond (.tmp 56)
  (.seq (.ops [⟨(some 4), .mv (.const (.bool false)), none⟩])
  .ret)
  .skip))
 (.ops [⟨(some 57), .mv (.tmp 11), none⟩,
   ⟨(some 58), .faddr (.tmp 13) 2, none⟩,
   ⟨(some 59), .load (.tmp 58) none, none⟩,
   ⟨(some 60), .append (.tmp 57) (.tmp 59) 3 1 8, none⟩,
   ⟨(some 11), .mv (.tmp 60), none⟩]))))
 (.ops [⟨(some 61), .int .add (.tmp 50) (.const (.int .i64 1)), none⟩,
   ⟨(some 50), .mv (.tmp 61), none⟩]))))

def k_lontarlaw15_TableBack : ACode :=
 (.seq (.ops [⟨(some 4), .mv (.const (.bool false)), none⟩])
 (.seq (.seq (.ops [⟨(some 14), .call (.func 14) [], none⟩,
   ⟨(some 15), .not (.tmp 14), none⟩])
 (.cond (.tmp 15)
  (.seq (.ops [⟨(some 4), .mv (.const (.bool false)), none⟩])
  .ret)
  .skip))
 (.seq (.ops [⟨(some 17), .mv (.tmp 0), none⟩,
   ⟨(some 18), .call (.func 15) [(.tmp 17)], none⟩,
   ⟨(some 19), .call (.func 16) [(.tmp 18)], none⟩,
   ⟨(some 16), .mv (.tmp 19), none⟩,
   ⟨(some 20), .ext (.tmp 16) 0, none⟩,
   ⟨(some 21), .ext (.tmp 16) 1, none⟩,
   ⟨(some 5), .mv (.tmp 20), none⟩,
   ⟨(some 6), .mv (.tmp 21), none⟩])
 (.seq (.seq (.ops [⟨(some 22), .mv (.tmp 5), none⟩,
   ⟨(some 23), .isNil 0 false (.tmp 22), none⟩,
   ⟨(some 24), .mv (.tmp 23), none⟩,
   ⟨(some 25), .mv (.tmp 6), some (24, false)⟩,
   ⟨(some 26), .int .neq (.tmp 25) (.const (.int .i64 0)), some (24, false)⟩,
   ⟨(some 27), .pick (.tmp 24) (.const (.bool true)) (.tmp 26), none⟩])
 (.cond (.tmp 27)
  (.seq (.ops [⟨(some 4), .mv (.const (.bool false)), none⟩])
  .ret)
  .skip))
 (.seq (.ops [⟨(some 28), .mv (.tmp 1), none⟩,
   ⟨(some 29), .call (.func 19) [(.tmp 28)], none⟩,
   ⟨(some 7), .mv (.tmp 29), none⟩])
 (.seq (.ops [⟨(some 8), .mv (.const (.slice none 0 0)), none⟩])
 (.seq (.seq (.ops [⟨(some 30), .mv (.tmp 5), none⟩,
   ⟨(some 31), .mv (.tmp 7), none⟩,
   ⟨(some 32), .call (.func 18) [(.tmp 30), (.tmp 31)], none⟩,
   ⟨(some 33), .len false (.tmp 32), none⟩,
   ⟨(some 34), .mv (.const (.int .i64 0)), none⟩])
 (.block 0 (.loop [5, 7, 8, 32, 33, 34] b_lontarlaw15_TableBack_0)))
 (.seq (.ops [⟨(some 11), .mv (.const (.slice none 0 0)), none⟩])
 (.seq (.seq (.ops [⟨(some 46), .mv (.tmp 5), none⟩,
   ⟨(some 47), .mv (.tmp 8), none⟩,
   ⟨(some 48), .call (.func 25) [(.tmp 46), (.tmp 47)], none⟩,
   ⟨(some 49), .len false (.tmp 48), none⟩,
   ⟨(some 50), .mv (.const (.int .i64 0)), none⟩])
 (.block 2 (.loop [7, 11, 48, 49, 50] b_lontarlaw15_TableBack_1)))
 (.seq (.ops [⟨(some 62), .mv (.tmp 11), none⟩,
   ⟨(some 63), .mv (.tmp 7), none⟩,
   ⟨(some 64), .call (.func 24) [(.tmp 62), (.tmp 63)], none⟩,
   ⟨(some 4), .mv (.tmp 64), none⟩])
 .ret))))))))))
def F_lontarlaw15_TableBack : AFunc := ⟨2, 65, [.tmp 4], k_lontarlaw15_TableBack⟩
theorem ok_lontarlaw15_TableBack : FOK Try.prog 6 F_lontarlaw15_TableBack := FOK.of [[5, 7, 8, 32, 33, 34], [7, 11, 48, 49, 50]] Try.func6 (by kernel_rfl) (by kernel_rfl)

-- lontar/lontarlaw15.TableTurn
@[reducible] def i_lontarlaw15_TableTurn : Nat := 7
/-- lontarlaw15_TableTurn: the body of loop 0 -/
def b_lontarlaw15_TableTurn_0 : ACode :=
 (.seq (.ops [⟨(some 36), .int .lss (.tmp 35) (.tmp 34), none⟩])
 (.seq (.cond (.tmp 36)
  .skip
  (.exit 0))
 (.seq (.block 1 (.seq (.ops [⟨(some 37), .iaddr (.tmp 33) (.tmp 35) 4, none⟩,
   ⟨(some 38), .load (.tmp 37) (some 4), none⟩,
   ⟨(some 9), .alloc [(.int .i64 0), (.int .i64 0), (.slice none 0 0), (.int .i64 0)] 41, none⟩,
   ⟨none, .store (.tmp 9) (.tmp 38) 4, none⟩])
 (.ops [⟨(some 39), .mv (.tmp 7), none⟩,
   ⟨(some 40), .faddr (.tmp 9) 2, none⟩,
   ⟨(some 41), .load (.tmp 40) none, none⟩,
   ⟨(some 42), .append (.tmp 39) (.tmp 41) 3 1 8, none⟩,
   ⟨(some 7), .mv (.tmp 42), none⟩])))
 (.ops [⟨(some 43), .int .add (.tmp 35) (.const (.int .i64 1)), none⟩,
   ⟨(some 35), .mv (.tmp 43), none⟩]))))

/-- lontarlaw15_TableTurn: the body of loop 1 -/
def b_lontarlaw15_TableTurn_1 : ACode :=
 (.seq (.ops [⟨(some 49), .int .lss (.tmp 48) (.tmp 47), none⟩])
 (.seq (.cond (.tmp 49)
  .skip
  (.exit 2))
 (.seq (.block 3 (.seq (.ops [⟨(some 50), .iaddr (.tmp 46) (.tmp 48) 4, none⟩,
   ⟨(some 51), .load (.tmp 50) (some 4), none⟩,
   ⟨(some 12), .alloc [(.int .i64 0), (.int .i64 0), (.slice none 0 0), (.int .i64 0)] 41, none⟩,
   ⟨none, .store (.tmp 12) (.tmp 51) 4, none⟩])
 (.seq (.seq (.ops [⟨(some 52), .faddr (.tmp 12) 3, none⟩,
   ⟨(some 53), .load (.tmp 52) none, none⟩,
   ⟨(some 54), .int .neq (.tmp 53) (.const (.int .i64 0)), none⟩])
 (.cond (.tmp 54)
  (.seq (.ops [⟨(some 4), .mv (.const (.bool true)), none⟩])
  .ret)
  .skip))
 (.ops [⟨(some 55), .mv (.tmp 10), none⟩,
   ⟨(some 56), .faddr (.tmp 12) 2, none⟩,
   ⟨(some 57), .load (.tmp 56) none, none⟩,
   ⟨(some 58), .append (.tmp 55) (.tmp 57) 3 1 8, none⟩,
   ⟨(some 10), .mv (.tmp 58), none⟩]))))
 (.ops [⟨(some 59), .int .add (.tmp 48) (.const (.int .i64 1)), none⟩,
   ⟨(some 48), .mv (.tmp 59), none⟩]))))

/-- lontarlaw15_TableTurn: the body of loop 2 -/
def b_lontarlaw15_TableTurn_2 : ACode :=
 (.seq (.ops [⟨(some 65), .int .lss (.tmp 64) (.tmp 63), none⟩])
 (.seq (.cond (.tmp 65)
  .skip
  (.exit 4))
 (.seq (.block 5 (.seq (.ops [⟨(some 66), .iaddr (.tmp 62) (.tmp 64) 4, none⟩,
   ⟨(some 67), .load (.tmp 66) (some 4), none⟩,
   ⟨(some 15), .alloc [(.int .i64 0), (.int .i64 0), (.slice none 0 0), (.int .i64 0)] 41, none⟩,
   ⟨none, .store (.tmp 15) (.tmp 67) 4, none⟩])
 (.ops [⟨(some 68), .mv (.tmp 13), none⟩,
   ⟨(some 69), .faddr (.tmp 15) 2, none⟩,
   ⟨(some 70), .load (.tmp 69) none, none⟩,
   ⟨(some 71), .append (.tmp 68) (.tmp 70) 3 1 8, none⟩,
   ⟨(some 13), .mv (.tmp 71), none⟩])))
 (.ops [⟨(some 72), .int .add (.tmp 64) (.const (.int .i64 1)), none⟩,
   ⟨(some 64), .mv (.tmp 72), none⟩]))))

def k_lontarlaw15_TableTurn : ACode :=
 (.seq (.ops [⟨(some 4), .mv (.const (.bool false)), none⟩])
 (.seq (.seq (.ops [⟨(some 16), .call (.func 14) [], none⟩,
   ⟨(some 17), .not (.tmp 16), none⟩])
 (.cond (.tmp 17)
  (.seq (.ops [⟨(some 4), .mv (.const (.bool false)), none⟩])
  .ret)
  .skip))
 (.seq (.ops [⟨(some 19), .mv (.tmp 0), none⟩,
   ⟨(some 20), .call (.func 15) [(.tmp 19)], none⟩,
   ⟨(some 21), .call (.func 16) [(.tmp 20)], none⟩,
   ⟨(some 18), .mv (.tmp 21), none⟩,
   ⟨(some 22), .ext (.tmp 18) 0, none⟩,
   ⟨(some 23), .ext (.tmp 18) 1, none⟩,
   ⟨(some 5), .mv (.tmp 22), none⟩,
   ⟨(some 6), .mv (.tmp 23), none⟩])
 (.seq (.seq (.ops [⟨(some 24), .mv (.tmp 5), none⟩,
   ⟨(some 25), .isNil 0 false (.tmp 24), none⟩,
   ⟨(some 26), .mv (.tmp 25), none⟩,
   ⟨(some 27), .mv (.tmp 6), some (26, false)⟩,
   ⟨(some 28), .int .neq (.tmp 27) (.const (.int .i64 0)), some (26, false)⟩,
   ⟨(some 29), .pick (.tmp 26) (.const (.bool true)) (.tmp 28), none⟩])
 (.cond (.tmp 29)
  (.seq (.ops [⟨(some 4), .mv (.const (.bool false)), none⟩])
  .ret)
  .skip))
 (.seq (.ops [⟨(some 7), .mv (.const (.slice none 0 0)), none⟩])
 (.seq (.seq (.ops [⟨(some 30), .mv (.tmp 5), none⟩,
   ⟨(some 31), .mv (.tmp 1), none⟩,
   ⟨(some 32), .call (.func 19) [(.tmp 31)], none⟩,
   ⟨(some 33), .call (.func 25) [(.tmp 30), (.tmp 32)], none⟩,
   ⟨(some 34), .len false (.tmp 33), none⟩,
   ⟨(some 35), .mv (.const (.int .i64 0)), none⟩])
 (.block 0 (.loop [5, 7, 33, 34, 35] b_lontarlaw15_TableTurn_0)))
 (.seq (.ops [⟨(some 10), .mv (.const (.slice none 0 0)), none⟩])
 (.seq (.seq (.ops [⟨(some 44), .mv (.tmp 5), none⟩,
   ⟨(some 45), .mv (.tmp 7), none⟩,
   ⟨(some 46), .call (.func 18) [(.tmp 44), (.tmp 45)], none⟩,
   ⟨(some 47), .len false (.tmp 46), none⟩,
   ⟨(some 48), .mv (.const (.int .i64 0)), none⟩])
 (.block 2 (.loop [5, 7, 10, 46, 47, 48] b_lontarlaw15_TableTurn_1)))
 (.seq (.ops [⟨(some 13), .mv (.const (.slice none 0 0)), none⟩])
 (.seq (.seq (.ops [⟨(some 60), .mv (.tmp 5), none⟩,
   ⟨(some 61), .mv (.tmp 10), none⟩,
   ⟨(some 62), .call (.func 25) [(.tmp 60), (.tmp 61)], none⟩,
   ⟨(some 63), .len false (.tmp 62), none⟩,
   ⟨(some 64), .mv (.const (.int .i64 0)), none⟩])
 (.block 4 (.loop [7, 13, 62, 63, 64] b_lontarlaw15_TableTurn_2)))
 (.seq (.ops [⟨(some 73), .mv (.tmp 13), none⟩,
   ⟨(some 74), .mv (.tmp 7), none⟩,
   ⟨(some 75), .call (.func 24) [(.tmp 73), (.tmp 74)], none⟩,
   ⟨(some 4), .mv (.tmp 75), none⟩])
 .ret)))))))))))
def F_lontarlaw15_TableTurn : AFunc := ⟨2, 76, [.tmp 4], k_lontarlaw15_TableTurn⟩
theorem ok_lontarlaw15_TableTurn : FOK Try.prog 7 F_lontarlaw15_TableTurn := FOK.of [[5, 7, 33, 34, 35], [5, 7, 10, 46, 47, 48], [7, 13, 62, 63, 64]] Try.func7 (by kernel_rfl) (by kernel_rfl)

-- lontar/lontarlaw15.TableCodecs
@[reducible] def i_lontarlaw15_TableCodecs : Nat := 8
/-- lontarlaw15_TableCodecs: the body of loop 0 -/
def b_lontarlaw15_TableCodecs_0 : ACode :=
 (.seq (.seq (.ops [⟨(some 18), .mv (.tmp 4), none⟩,
   ⟨(some 19), .int .lss (.tmp 18) (.const (.int .i64 60)), none⟩])
 (.cond (.tmp 19)
  .skip
  (.exit 0)))
 (.seq (.block 1 (.ops [⟨(some 22), .mv (.tmp 3), none⟩,
   ⟨(some 23), .mv (.tmp 4), none⟩,
   ⟨(some 24), .bslice 3 1 1 [(.int .i64 0)] [(0, 1, (.tmp 23))], none⟩,
   ⟨(some 25), .mv (.tmp 4), none⟩,
   ⟨(some 26), .int .mul (.const (.int .i64 7)) (.tmp 25), none⟩,
   ⟨(some 27), .int .rem (.tmp 26) (.const (.int .i64 60)), none⟩,
   ⟨(some 28), .int .add (.const (.int .i64 1000)) (.tmp 27), none⟩,
   ⟨(some 29), .bslice 3 1 1 [(.int .i64 0)] [(0, 1, (.tmp 28))], none⟩,
   ⟨(some 30), .build [(.slice none 0 0), (.slice none 0 0)] [(0, 1, (.tmp 24)), (1, 1, (.tmp 29))], none⟩,
   ⟨(some 31), .bslice 46 1 2 [(.slice none 0 0), (.slice none 0 0)] [(0, 2, (.tmp 30))], none⟩,
   ⟨(some 32), .append (.tmp 22) (.tmp 31) 46 2 48, none⟩,
   ⟨(some 3), .mv (.tmp 32), none⟩]))
 (.ops [⟨(some 20), .mv (.tmp 4), none⟩,
   ⟨(some 21), .int .add (.tmp 20) (.const (.int .i64 1)), none⟩,
   ⟨(some 4), .mv (.tmp 21), none⟩])))

/-- lontarlaw15_TableCodecs: the body of loop 1 -/
def b_lontarlaw15_TableCodecs_1 : ACode :=
 (.seq (.ops [⟨(some 51), .int .lss (.tmp 50) (.tmp 49), none⟩])
 (.seq (.cond (.tmp 51)
  .skip
  (.exit 2))
 (.seq (.block 3 (.seq (.ops [⟨(some 52), .iaddr (.tmp 48) (.tmp 50) 1, none⟩,
   ⟨(some 53), .load (.tmp 52) none, none⟩,
   ⟨(some 9), .mv (.tmp 53), none⟩])
 (.ops [⟨(some 54), .mv (.tmp 7), none⟩,
   ⟨(some 55), .mv (.tmp 9), none⟩,
   ⟨(some 56), .int .rem (.tmp 55) (.const (.int .u8 60)), none⟩,
   ⟨(some 57), .conv .i64 (.tmp 56), none⟩,
   ⟨(some 58), .bslice 3 1 1 [(.int .i64 0)] [(0, 1, (.tmp 57))], none⟩,
   ⟨(some 59), .append (.tmp 54) (.tmp 58) 3 1 8, none⟩,
   ⟨(some 7), .mv (.tmp 59), none⟩])))
 (.ops [⟨(some 60), .int .add (.tmp 50) (.const (.int .i64 1)), none⟩,
   ⟨(some 50), .mv (.tmp 60), none⟩]))))

/-- lontarlaw15_TableCodecs: the body of loop 2 -/
def b_lontarlaw15_TableCodecs_2 : ACode :=
 (.seq (.ops [⟨(some 66), .int .lss (.tmp 65) (.tmp 64), none⟩])
 (.seq (.cond (.tmp 66)
  .skip
  (.exit 4))
 (.seq (.block 5 (.seq (.ops [⟨(some 67), .iaddr (.tmp 63) (.tmp 65) 4, none⟩,
   ⟨(some 68), .load (.tmp 67) (some 4), none⟩,
   ⟨(some 13), .alloc [(.int .i64 0), (.int .i64 0), (.slice none 0 0), (.int .i64 0)] 41, none⟩,
   ⟨none, .store (.tmp 13) (.tmp 68) 4, none⟩])
 (.ops [⟨(some 69), .mv (.tmp 10), none⟩,
   ⟨(some 70), .faddr (.tmp 13) 2, none⟩,
   ⟨(some 71), .load (.tmp 70) none, none⟩,
   ⟨(some 72), .append (.tmp 69) (.tmp 71) 3 1 8, none⟩,
   ⟨(some 10), .mv (.tmp 72), none⟩])))
 (.ops [⟨(some 73), .int .add (.tmp 65) (.const (.int .i64 1)), none⟩,
   ⟨(some 65), .mv (.tmp 73), none⟩]))))

/-- lontarlaw15_TableCodecs: the body of loop 3 -/
def b_lontarlaw15_TableCodecs_3 : ACode :=
 (.seq (.ops [⟨(some 79), .int .lss (.tmp 78) (.tmp 77), none⟩])
 (.seq (.cond (.tmp 79)
  .skip
  (.exit 6))
 (.seq (.block 7 (.seq (.ops [⟨(some 80), .iaddr (.tmp 76) (.tmp 78) 4, none⟩,
   ⟨(some 81), .load (.tmp 80) (some 4), none⟩,
   ⟨(some 15), .alloc [(.int .i64 0), (.int .i64 0), (.slice none 0 0), (.int .i64 0)] 41, none⟩,
   ⟨none, .store (.tmp 15) (.tmp 81) 4, none⟩])
 (.ops [⟨(some 82), .mv (.tmp 11), none⟩,
   ⟨(some 83), .faddr (.tmp 15) 2, none⟩,
   ⟨(some 84), .load (.tmp 83) none, none⟩,
   ⟨(some 85), .append (.tmp 82) (.tmp 84) 3 1 8, none⟩,
   ⟨(some 11), .mv (.tmp 85), none⟩])))
 (.ops [⟨(some 86), .int .add (.tmp 78) (.const (.int .i64 1)), none⟩,
   ⟨(some 78), .mv (.tmp 86), none⟩]))))

def k_lontarlaw15_TableCodecs : ACode :=
 (.seq (.ops [⟨(some 2), .mv (.const (.bool false)), none⟩])
 (.seq (.seq (.ops [⟨(some 16), .call (.func 14) [], none⟩,
   ⟨(some 17), .not (.tmp 16), none⟩])
 (.cond (.tmp 17)
  (.seq (.ops [⟨(some 2), .mv (.const (.bool false)), none⟩])
  .ret)
  .skip))
 (.seq (.ops [⟨(some 3), .mv (.const (.slice none 0 0)), none⟩])
 (.seq (.seq (.ops [⟨(some 4), .mv (.const (.int .i64 0)), none⟩])
 (.block 0 (.loop [0, 3, 4] b_lontarlaw15_TableCodecs_0)))
 (.seq (.ops [⟨(some 34), .mv (.tmp 3), none⟩,
   ⟨(some 35), .call (.func 16) [(.tmp 34)], none⟩,
   ⟨(some 33), .mv (.tmp 35), none⟩,
   ⟨(some 36), .ext (.tmp 33) 0, none⟩,
   ⟨(some 37), .ext (.tmp 33) 1, none⟩,
   ⟨(some 5), .mv (.tmp 36), none⟩,
   ⟨(some 6), .mv (.tmp 37), none⟩])
 (.seq (.seq (.ops [⟨(some 38), .mv (.tmp 5), none⟩,
   ⟨(some 39), .isNil 0 false (.tmp 38), none⟩,
   ⟨(some 40), .mv (.tmp 39), none⟩,
   ⟨(some 41), .mv (.tmp 6), some (40, false)⟩,
   ⟨(some 42), .int .neq (.tmp 41) (.const (.int .i64 0)), some (40, false)⟩,
   ⟨(some 43), .pick (.tmp 40) (.const (.bool true)) (.tmp 42), none⟩])
 (.cond (.tmp 43)
  (.seq (.ops [⟨(some 2), .mv (.const (.bool false)), none⟩])
  .ret)
  .skip))
 (.seq (.ops [⟨(some 7), .mv (.const (.slice none 0 0)), none⟩])
 (.seq (.seq (.ops [⟨(some 44), .mv (.tmp 0), none⟩,
   ⟨(some 45), .mv (.tmp 0), none⟩,
   ⟨(some 46), .len false (.tmp 45), none⟩,
   ⟨(some 47), .min2 (.tmp 46) (.const (.int .i64 60)), none⟩,
   ⟨(some 48), .slice (.tmp 44) none (some (.tmp 47)) 1, none⟩,
   ⟨(some 49), .len false (.tmp 48), none⟩,
   ⟨(some 50), .mv (.const (.int .i64 0)), none⟩])
 (.block 2 (.loop [5, 7, 48, 49, 50] b_lontarlaw15_TableCodecs_1)))
 (.seq (.ops [⟨(some 10), .mv (.const (.slice none 0 0)), none⟩,
   ⟨(some 11), .mv (.const (.slice none 0 0)), none⟩])
 (.seq (.seq (.ops [⟨(some 61), .mv (.tmp 5), none⟩,
   ⟨(some 62), .mv (.tmp 7), none⟩,
   ⟨(some 63), .call (.func 25) [(.tmp 61), (.tmp 62)], none⟩,
   ⟨(some 64), .len false (.tmp 63), none⟩,
   ⟨(some 65), .mv (.const (.int .i64 0)), none⟩])
 (.block 4 (.loop [5, 7, 10, 11, 63, 64, 65] b_lontarlaw15_TableCodecs_2)))
 (.seq (.seq (.ops [⟨(some 74), .mv (.tmp 5), none⟩,
   ⟨(some 75), .mv (.tmp 10), none⟩,
   ⟨(some 76), .call (.func 18) [(.tmp 74), (.tmp 75)], none⟩,
   ⟨(some 77), .len false (.tmp 76), none⟩,
   ⟨(some 78), .mv (.const (.int .i64 0)), none⟩])
 (.block 6 (.loop [7, 10, 11, 76, 77, 78] b_lontarlaw15_TableCodecs_3)))
 (.seq (.ops [⟨(some 87), .mv (.tmp 11), none⟩,
   ⟨(some 88), .mv (.tmp 7), none⟩,
   ⟨(some 89), .call (.func 24) [(.tmp 87), (.tmp 88)], none⟩,
   ⟨(some 90), .mv (.tmp 89), none⟩,
   ⟨(some 91), .mv (.tmp 10), some (90, true)⟩,
   ⟨(some 92), .len false (.tmp 91), some (90, true)⟩,
   ⟨(some 93), .mv (.tmp 7), some (90, true)⟩,
   ⟨(some 94), .len false (.tmp 93), some (90, true)⟩,
   ⟨(some 95), .int .eql (.tmp 92) (.tmp 94), some (90, true)⟩,
   ⟨(some 96), .pick (.tmp 90) (.tmp 95) (.const (.bool false)), none⟩,
   ⟨(some 2), .mv (.tmp 96), none⟩])
 .ret))))))))))))
def F_lontarlaw15_TableCodecs : AFunc := ⟨1, 97, [.tmp 2], k_lontarlaw15_TableCodecs⟩
theorem ok_lontarlaw15_TableCodecs : FOK Try.prog 8 F_lontarlaw15_TableCodecs := FOK.of [[0, 3, 4], [5, 7, 48, 49, 50], [5, 7, 10, 11, 63, 64, 65], [7, 10, 11, 76, 77, 78]] Try.func8 (by kernel_rfl) (by kernel_rfl)

-- lontar/lontarlaw15.TableOf
@[reducible] def i_lontarlaw15_TableOf : Nat := 9
def k_lontarlaw15_TableOf : ACode :=
 (.seq (.ops [⟨(some 2), .mv (.const (.bool false)), none⟩])
 (.seq (.seq (.ops [⟨(some 10), .call (.func 14) [], none⟩,
   ⟨(some 11), .not (.tmp 10), none⟩])
 (.cond (.tmp 11)
  (.seq (.ops [⟨(some 2), .mv (.const (.bool false)), none⟩])
  .ret)
  .skip))
 (.seq (.ops [⟨(some 12), .mv (.tmp 0), none⟩,
   ⟨(some 13), .call (.func 27) [(.tmp 12)], none⟩,
   ⟨(some 3), .mv (.tmp 13), none⟩])
 (.seq (.ops [⟨(some 15), .mv (.tmp 3), none⟩,
   ⟨(some 16), .call (.func 16) [(.tmp 15)], none⟩,
   ⟨(some 14), .mv (.tmp 16), none⟩,
   ⟨(some 17), .ext (.tmp 14) 0, none⟩,
   ⟨(some 18), .ext (.tmp 14) 1, none⟩,
   ⟨(some 4), .mv (.tmp 17), none⟩,
   ⟨(some 5), .mv (.tmp 18), none⟩])
 (.seq (.seq (.ops [⟨(some 20), .mv (.tmp 3), none⟩,
   ⟨(some 21), .call (.func 28) [(.tmp 20)], none⟩,
   ⟨(some 19), .mv (.tmp 21), none⟩,
   ⟨(some 22), .ext (.tmp 19) 0, none⟩,
   ⟨(some 23), .ext (.tmp 19) 1, none⟩,
   ⟨(some 6), .mv (.tmp 22), none⟩,
   ⟨(some 7), .mv (.tmp 23), none⟩])
 (.seq (.ops [⟨(some 24), .mv (.tmp 7), none⟩,
   ⟨(some 25), .int .neq (.tmp 24) (.const (.int .i64 0)), none⟩])
 (.cond (.tmp 25)
  (.seq (.ops [⟨(some 26), .mv (.tmp 4), none⟩,
    ⟨(some 27), .isNil 0 false (.tmp 26), none⟩,
    ⟨(some 28), .mv (.tmp 27), none⟩,
    ⟨(some 29), .mv (.tmp 5), some (28, true)⟩,
    ⟨(some 30), .mv (.tmp 7), some (28, true)⟩,
    ⟨(some 31), .int .eql (.tmp 29) (.tmp 30), some (28, true)⟩,
    ⟨(some 32), .pick (.tmp 28) (.tmp 31) (.const (.bool false)), none⟩,
    ⟨(some 2), .mv (.tmp 32), none⟩])
  .ret)
  .skip)))
 (.seq (.seq (.ops [⟨(some 33), .mv (.tmp 3), none⟩,
   ⟨(some 34), .call (.func 29) [(.tmp 33)], none⟩,
   ⟨(some 35), .not (.tmp 34), none⟩])
 (.cond (.tmp 35)
  (.seq (.ops [⟨(some 36), .mv (.tmp 4), none⟩,
    ⟨(some 37), .isNil 0 false (.tmp 36), none⟩,
    ⟨(some 38), .mv (.tmp 37), none⟩,
    ⟨(some 39), .mv (.tmp 5), some (38, true)⟩,
    ⟨(some 40), .int .eql (.tmp 39) (.const (.int .i64 10)), some (38, true)⟩,
    ⟨(some 41), .pick (.tmp 38) (.tmp 40) (.const (.bool false)), none⟩,
    ⟨(some 2), .mv (.tmp 41), none⟩])
  .ret)
  .skip))
 (.seq (.seq (.ops [⟨(some 42), .mv (.tmp 4), none⟩,
   ⟨(some 43), .isNil 0 false (.tmp 42), none⟩,
   ⟨(some 44), .mv (.tmp 43), none⟩,
   ⟨(some 45), .mv (.tmp 5), some (44, false)⟩,
   ⟨(some 46), .int .neq (.tmp 45) (.const (.int .i64 0)), some (44, false)⟩,
   ⟨(some 47), .pick (.tmp 44) (.const (.bool true)) (.tmp 46), none⟩])
 (.cond (.tmp 47)
  (.seq (.ops [⟨(some 2), .mv (.const (.bool false)), none⟩])
  .ret)
  .skip))
 (.seq (.ops [⟨(some 49), .mv (.tmp 4), none⟩,
   ⟨(some 50), .call (.func 30) [(.tmp 49)], none⟩,
   ⟨(some 48), .mv (.tmp 50), none⟩,
   ⟨(some 51), .ext (.tmp 48) 0, none⟩,
   ⟨(some 52), .ext (.tmp 48) 1, none⟩,
   ⟨(some 8), .mv (.tmp 51), none⟩,
   ⟨(some 9), .mv (.tmp 52), none⟩])
 (.seq (.ops [⟨(some 53), .mv (.tmp 8), none⟩,
   ⟨(some 54), .mv (.tmp 3), none⟩,
   ⟨(some 55), .call (.func 31) [(.tmp 54)], none⟩,
   ⟨(some 56), .int .eql (.tmp 53) (.tmp 55), none⟩,
   ⟨(some 57), .mv (.tmp 56), none⟩,
   ⟨(some 58), .mv (.tmp 9), some (57, true)⟩,
   ⟨(some 59), .mv (.tmp 3), some (57, true)⟩,
   ⟨(some 60), .call (.func 32) [(.tmp 59)], some (57, true)⟩,
   ⟨(some 61), .call (.func 31) [(.tmp 60)], some (57, true)⟩,
   ⟨(some 62), .int .eql (.tmp 58) (.tmp 61), some (57, true)⟩,
   ⟨(some 63), .pick (.tmp 57) (.tmp 62) (.const (.bool false)), none⟩,
   ⟨(some 64), .mv (.tmp 63), none⟩,
   ⟨(some 65), .mv (.tmp 4), some (64, true)⟩,
   ⟨(some 66), .call (.func 33) [(.tmp 65)], some (64, true)⟩,
   ⟨(some 67), .isNil 0 true (.tmp 66), some (64, true)⟩,
   ⟨(some 68), .pick (.tmp 64) (.tmp 67) (.const (.bool false)), none⟩,
   ⟨(some 69), .mv (.tmp 68), none⟩,
   ⟨(some 70), .mv (.tmp 4), some (69, true)⟩,
   ⟨(some 71), .call (.func 34) [(.tmp 70)], some (69, true)⟩,
   ⟨(some 72), .isNil 0 true (.tmp 71), some (69, true)⟩,
   ⟨(some 73), .pick (.tmp 69) (.tmp 72) (.const (.bool false)), none⟩,
   ⟨(some 2), .mv (.tmp 73), none⟩])
 .ret)))))))))
def F_lontarlaw15_TableOf : AFunc := ⟨1, 74, [.tmp 2], k_lontarlaw15_TableOf⟩
theorem ok_lontarlaw15_TableOf : FOK Try.prog 9 F_lontarlaw15_TableOf := FOK.of [] Try.func9 (by kernel_rfl) (by kernel_rfl)

-- lontar/lontarlaw17.TamilRight
@[reducible] def i_lontarlaw17_TamilRight : Nat := 10
def k_lontarlaw17_TamilRight : ACode :=
 (.seq (.ops [⟨(some 4), .mv (.const (.bool false)), none⟩])
 (.seq (.seq (.ops [⟨(some 12), .call (.func 35) [], none⟩,
   ⟨(some 13), .not (.tmp 12), none⟩])
 (.cond (.tmp 13)
  (.seq (.ops [⟨(some 4), .mv (.const (.bool false)), none⟩])
  .ret)
  .skip))
 (.seq (.ops [⟨(some 14), .call (.func 36) [], none⟩,
   ⟨(some 5), .mv (.tmp 14), none⟩])
 (.seq (.ops [⟨(some 16), .mv (.tmp 5), none⟩,
   ⟨(some 17), .call (.func 16) [(.tmp 16)], none⟩,
   ⟨(some 15), .mv (.tmp 17), none⟩,
   ⟨(some 18), .ext (.tmp 15) 0, none⟩,
   ⟨(some 19), .ext (.tmp 15) 1, none⟩,
   ⟨(some 6), .mv (.tmp 18), none⟩,
   ⟨(some 7), .mv (.tmp 19), none⟩])
 (.seq (.ops [⟨(some 20), .mv (.tmp 5), none⟩,
   ⟨(some 21), .call (.func 32) [(.tmp 20)], none⟩,
   ⟨(some 8), .mv (.tmp 21), none⟩])
 (.seq (.seq (.ops [⟨(some 22), .mv (.tmp 6), none⟩,
   ⟨(some 23), .isNil 0 false (.tmp 22), none⟩,
   ⟨(some 24), .mv (.tmp 23), none⟩,
   ⟨(some 25), .mv (.tmp 7), some (24, false)⟩,
   ⟨(some 26), .int .neq (.tmp 25) (.const (.int .i64 0)), some (24, false)⟩,
   ⟨(some 27), .pick (.tmp 24) (.const (.bool true)) (.tmp 26), none⟩,
   ⟨(some 28), .mv (.tmp 27), none⟩,
   ⟨(some 29), .mv (.tmp 5), some (28, false)⟩,
   ⟨(some 30), .len false (.tmp 29), some (28, false)⟩,
   ⟨(some 31), .int .eql (.tmp 30) (.const (.int .i64 0)), some (28, false)⟩,
   ⟨(some 32), .pick (.tmp 28) (.const (.bool true)) (.tmp 31), none⟩,
   ⟨(some 33), .mv (.tmp 32), none⟩,
   ⟨(some 34), .mv (.tmp 8), some (33, false)⟩,
   ⟨(some 35), .len false (.tmp 34), some (33, false)⟩,
   ⟨(some 36), .mv (.tmp 5), some (33, false)⟩,
   ⟨(some 37), .len false (.tmp 36), some (33, false)⟩,
   ⟨(some 38), .int .neq (.tmp 35) (.tmp 37), some (33, false)⟩,
   ⟨(some 39), .pick (.tmp 33) (.const (.bool true)) (.tmp 38), none⟩])
 (.cond (.tmp 39)
  (.seq (.ops [⟨(some 4), .mv (.const (.bool false)), none⟩])
  .ret)
  .skip))
 (.seq (.ops [⟨(some 41), .mv (.tmp 6), none⟩,
   ⟨(some 42), .call (.func 30) [(.tmp 41)], none⟩,
   ⟨(some 40), .mv (.tmp 42), none⟩,
   ⟨(some 43), .ext (.tmp 40) 0, none⟩,
   ⟨(some 44), .ext (.tmp 40) 1, none⟩,
   ⟨(some 9), .mv (.tmp 43), none⟩,
   ⟨(some 10), .mv (.tmp 44), none⟩])
 (.seq (.ops [⟨(some 45), .mv (.tmp 0), none⟩,
   ⟨(some 46), .conv .i64 (.tmp 45), none⟩,
   ⟨(some 47), .mv (.tmp 1), none⟩,
   ⟨(some 48), .conv .i64 (.tmp 47), none⟩,
   ⟨(some 49), .int .mul (.tmp 46) (.tmp 48), none⟩,
   ⟨(some 50), .mv (.tmp 5), none⟩,
   ⟨(some 51), .len false (.tmp 50), none⟩,
   ⟨(some 52), .int .rem (.tmp 49) (.tmp 51), none⟩,
   ⟨(some 11), .mv (.tmp 52), none⟩])
 (.seq (.ops [⟨(some 53), .mv (.tmp 9), none⟩,
   ⟨(some 54), .int .eql (.tmp 53) (.const (.int .i64 3)), none⟩,
   ⟨(some 55), .mv (.tmp 54), none⟩,
   ⟨(some 56), .mv (.tmp 10), some (55, true)⟩,
   ⟨(some 57), .int .eql (.tmp 56) (.const (.int .i64 2)), some (55, true)⟩,
   ⟨(some 58), .pick (.tmp 55) (.tmp 57) (.const (.bool false)), none⟩,
   ⟨(some 59), .mv (.tmp 58), none⟩,
   ⟨(some 60), .mv (.tmp 8), some (59, true)⟩,
   ⟨(some 61), .mv (.tmp 5), some (59, true)⟩,
   ⟨(some 62), .mv (.tmp 11), some (59, true)⟩,
   ⟨(some 63), .iaddr (.tmp 61) (.tmp 62) 2, some (59, true)⟩,
   ⟨(some 64), .faddr (.tmp 63) 1, some (59, true)⟩,
   ⟨(some 65), .load (.tmp 64) none, some (59, true)⟩,
   ⟨(some 66), .call (.func 37) [(.tmp 60), (.tmp 65)], some (59, true)⟩,
   ⟨(some 67), .mv (.tmp 11), some (59, true)⟩,
   ⟨(some 68), .int .eql (.tmp 66) (.tmp 67), some (59, true)⟩,
   ⟨(some 69), .pick (.tmp 59) (.tmp 68) (.const (.bool false)), none⟩,
   ⟨(some 4), .mv (.tmp 69), none⟩])
 .ret)))))))))
def F_lontarlaw17_TamilRight : AFunc := ⟨2, 70, [.tmp 4], k_lontarlaw17_TamilRight⟩
theorem ok_lontarlaw17_TamilRight : FOK Try.prog 10 F_lontarlaw17_TamilRight := FOK.of [] Try.func10 (by kernel_rfl) (by kernel_rfl)

-- lontar/lontarlaw17.TamilMoves
@[reducible] def i_lontarlaw17_TamilMoves : Nat := 11
def k_lontarlaw17_TamilMoves : ACode :=
 (.seq (.ops [⟨(some 6), .mv (.const (.bool false)), none⟩])
 (.seq (.seq (.ops [⟨(some 17), .call (.func 35) [], none⟩,
   ⟨(some 18), .not (.tmp 17), none⟩])
 (.cond (.tmp 18)
  (.seq (.ops [⟨(some 6), .mv (.const (.bool false)), none⟩])
  .ret)
  .skip))
 (.seq (.ops [⟨(some 20), .call (.func 36) [], none⟩,
   ⟨(some 21), .call (.func 16) [(.tmp 20)], none⟩,
   ⟨(some 19), .mv (.tmp 21), none⟩,
   ⟨(some 22), .ext (.tmp 19) 0, none⟩,
   ⟨(some 23), .ext (.tmp 19) 1, none⟩,
   ⟨(some 7), .mv (.tmp 22), none⟩,
   ⟨(some 8), .mv (.tmp 23), none⟩])
 (.seq (.seq (.ops [⟨(some 24), .mv (.tmp 7), none⟩,
   ⟨(some 25), .isNil 0 false (.tmp 24), none⟩,
   ⟨(some 26), .mv (.tmp 25), none⟩,
   ⟨(some 27), .mv (.tmp 8), some (26, false)⟩,
   ⟨(some 28), .int .neq (.tmp 27) (.const (.int .i64 0)), some (26, false)⟩,
   ⟨(some 29), .pick (.tmp 26) (.const (.bool true)) (.tmp 28), none⟩])
 (.cond (.tmp 29)
  (.seq (.ops [⟨(some 6), .mv (.const (.bool false)), none⟩])
  .ret)
  .skip))
 (.seq (.draw [⟨(some 30), .mv (.tmp 0), none⟩,
   ⟨(some 31), .int .rem (.tmp 30) (.const (.int .u8 22)), none⟩,
   ⟨(some 32), .conv .i64 (.tmp 31), none⟩,
   ⟨(some 33), .int .add (.const (.int .i64 176)) (.tmp 32), none⟩,
   ⟨(some 35), .mv (.tmp 0), none⟩,
   ⟨(some 36), .int .rem (.tmp 35) (.const (.int .u8 22)), none⟩,
   ⟨(some 34), .call (.func 38) [], none⟩,
   ⟨(some 37), .iaddr (.tmp 34) (.tmp 36) 1, none⟩,
   ⟨(some 38), .load (.tmp 37) none, none⟩,
   ⟨(some 9), .mv (.tmp 33), none⟩,
   ⟨(some 10), .mv (.tmp 38), none⟩])
 (.seq (.ops [⟨(some 39), .mv (.tmp 9), none⟩,
   ⟨(some 40), .bslice 3 2 1 [(.int .i64 0)] [(0, 1, (.const (.int .i64 166))), (1, 1, (.tmp 39))], none⟩,
   ⟨(some 41), .mv (.tmp 9), none⟩,
   ⟨(some 42), .bslice 3 2 1 [(.int .i64 0)] [(0, 1, (.const (.int .i64 167))), (1, 1, (.tmp 41))], none⟩,
   ⟨(some 43), .mv (.tmp 9), none⟩,
   ⟨(some 44), .bslice 3 2 1 [(.int .i64 0)] [(0, 1, (.const (.int .i64 168))), (1, 1, (.tmp 43))], none⟩,
   ⟨(some 45), .mv (.tmp 9), none⟩,
   ⟨(some 46), .bslice 3 3 1 [(.int .i64 0)] [(0, 1, (.const (.int .i64 166))), (1, 1, (.tmp 45)), (2, 1, (.const (.int .i64 170)))], none⟩,
   ⟨(some 47), .mv (.tmp 9), none⟩,
   ⟨(some 48), .bslice 3 3 1 [(.int .i64 0)] [(0, 1, (.const (.int .i64 167))), (1, 1, (.tmp 47)), (2, 1, (.const (.int .i64 170)))], none⟩,
   ⟨(some 49), .mv (.tmp 9), none⟩,
   ⟨(some 50), .bslice 3 3 1 [(.int .i64 0)] [(0, 1, (.const (.int .i64 166))), (1, 1, (.tmp 49)), (2, 1, (.const (.int .i64 175)))], none⟩,
   ⟨(some 51), .bslice 24 6 1 [(.slice none 0 0)] [(0, 1, (.tmp 40)), (1, 1, (.tmp 42)), (2, 1, (.tmp 44)), (3, 1, (.tmp 46)), (4, 1, (.tmp 48)), (5, 1, (.tmp 50))], none⟩,
   ⟨(some 52), .mv (.tmp 1), none⟩,
   ⟨(some 53), .int .rem (.tmp 52) (.const (.int .u8 6)), none⟩,
   ⟨(some 54), .iaddr (.tmp 51) (.tmp 53) 1, none⟩,
   ⟨(some 55), .load (.tmp 54) none, none⟩,
   ⟨(some 11), .mv (.tmp 55), none⟩])
 (.seq (.ops [⟨(some 56), .mv (.tmp 10), none⟩,
   ⟨(some 57), .bslice 3 6 1 [(.int .i64 0)] [(0, 1, (.const (.int .i64 3014))), (1, 1, (.const (.int .i64 3015))), (2, 1, (.const (.int .i64 3016))), (3, 1, (.const (.int .i64 3018))), (4, 1, (.const (.int .i64 3019))), (5, 1, (.const (.int .i64 3020)))], none⟩,
   ⟨(some 58), .mv (.tmp 1), none⟩,
   ⟨(some 59), .int .rem (.tmp 58) (.const (.int .u8 6)), none⟩,
   ⟨(some 60), .iaddr (.tmp 57) (.tmp 59) 1, none⟩,
   ⟨(some 61), .load (.tmp 60) none, none⟩,
   ⟨(some 62), .bslice 3 2 1 [(.int .i64 0)] [(0, 1, (.tmp 56)), (1, 1, (.tmp 61))], none⟩,
   ⟨(some 12), .mv (.tmp 62), none⟩])
 (.seq (.ops [⟨(some 64), .mv (.tmp 7), none⟩,
   ⟨(some 65), .mv (.tmp 11), none⟩,
   ⟨(some 66), .call (.func 25) [(.tmp 64), (.tmp 65)], none⟩,
   ⟨(some 67), .call (.func 39) [(.tmp 66)], none⟩,
   ⟨(some 63), .mv (.tmp 67), none⟩,
   ⟨(some 68), .ext (.tmp 63) 0, none⟩,
   ⟨(some 69), .ext (.tmp 63) 1, none⟩,
   ⟨(some 14), .alloc [(.int .i64 0), (.int .i64 0), (.slice none 0 0), (.int .i64 0)] 41, none⟩,
   ⟨(some 13), .mv (.tmp 68), none⟩,
   ⟨none, .store (.tmp 14) (.tmp 69) 4, none⟩])
 (.seq (.ops [⟨(some 71), .mv (.tmp 7), none⟩,
   ⟨(some 72), .mv (.tmp 12), none⟩,
   ⟨(some 73), .call (.func 18) [(.tmp 71), (.tmp 72)], none⟩,
   ⟨(some 74), .call (.func 39) [(.tmp 73)], none⟩,
   ⟨(some 70), .mv (.tmp 74), none⟩,
   ⟨(some 75), .ext (.tmp 70) 0, none⟩,
   ⟨(some 76), .ext (.tmp 70) 1, none⟩,
   ⟨(some 16), .alloc [(.int .i64 0), (.int .i64 0), (.slice none 0 0), (.int .i64 0)] 41, none⟩,
   ⟨(some 15), .mv (.tmp 75), none⟩,
   ⟨none, .store (.tmp 16) (.tmp 76) 4, none⟩])
 (.seq (.ops [⟨(some 77), .faddr (.tmp 14) 3, none⟩,
   ⟨(some 78), .load (.tmp 77) none, none⟩,
   ⟨(some 79), .int .eql (.tmp 78) (.const (.int .i64 0)), none⟩,
   ⟨(some 80), .mv (.tmp 79), none⟩,
   ⟨(some 81), .faddr (.tmp 16) 3, some (80, true)⟩,
   ⟨(some 82), .load (.tmp 81) none, some (80, true)⟩,
   ⟨(some 83), .int .eql (.tmp 82) (.const (.int .i64 0)), some (80, true)⟩,
   ⟨(some 84), .pick (.tmp 80) (.tmp 83) (.const (.bool false)), none⟩,
   ⟨(some 85), .mv (.tmp 84), none⟩,
   ⟨(some 86), .mv (.tmp 13), some (85, true)⟩,
   ⟨(some 87), .mv (.tmp 12), some (85, true)⟩,
   ⟨(some 88), .call (.func 24) [(.tmp 86), (.tmp 87)], some (85, true)⟩,
   ⟨(some 89), .pick (.tmp 85) (.tmp 88) (.const (.bool false)), none⟩,
   ⟨(some 90), .mv (.tmp 89), none⟩,
   ⟨(some 91), .mv (.tmp 15), some (90, true)⟩,
   ⟨(some 92), .mv (.tmp 11), some (90, true)⟩,
   ⟨(some 93), .call (.func 24) [(.tmp 91), (.tmp 92)], some (90, true)⟩,
   ⟨(some 94), .pick (.tmp 90) (.tmp 93) (.const (.bool false)), none⟩,
   ⟨(some 6), .mv (.tmp 94), none⟩])
 .ret))))))))))
def F_lontarlaw17_TamilMoves : AFunc := ⟨3, 95, [.tmp 6], k_lontarlaw17_TamilMoves⟩
theorem ok_lontarlaw17_TamilMoves : FOK Try.prog 11 F_lontarlaw17_TamilMoves := FOK.of [[0, 1, 2, 3, 5, 6, 4, 7, 8, 9, 10]] Try.func11 (by kernel_rfl) (by kernel_rfl)

-- lontar/lontarlaw17.TamilBack
@[reducible] def i_lontarlaw17_TamilBack : Nat := 12
def k_lontarlaw17_TamilBack : ACode :=
 (.seq (.ops [⟨(some 2), .mv (.const (.bool false)), none⟩])
 (.seq (.seq (.ops [⟨(some 9), .call (.func 35) [], none⟩,
   ⟨(some 10), .not (.tmp 9), none⟩])
 (.cond (.tmp 10)
  (.seq (.ops [⟨(some 2), .mv (.const (.bool false)), none⟩])
  .ret)
  .skip))
 (.seq (.ops [⟨(some 12), .call (.func 36) [], none⟩,
   ⟨(some 13), .call (.func 16) [(.tmp 12)], none⟩,
   ⟨(some 11), .mv (.tmp 13), none⟩,
   ⟨(some 14), .ext (.tmp 11) 0, none⟩,
   ⟨(some 15), .ext (.tmp 11) 1, none⟩,
   ⟨(some 3), .mv (.tmp 14), none⟩,
   ⟨(some 4), .mv (.tmp 15), none⟩])
 (.seq (.seq (.ops [⟨(some 16), .mv (.tmp 3), none⟩,
   ⟨(some 17), .isNil 0 false (.tmp 16), none⟩,
   ⟨(some 18), .mv (.tmp 17), none⟩,
   ⟨(some 19), .mv (.tmp 4), some (18, false)⟩,
   ⟨(some 20), .int .neq (.tmp 19) (.const (.int .i64 0)), some (18, false)⟩,
   ⟨(some 21), .pick (.tmp 18) (.const (.bool true)) (.tmp 20), none⟩])
 (.cond (.tmp 21)
  (.seq (.ops [⟨(some 2), .mv (.const (.bool false)), none⟩])
  .ret)
  .skip))
 (.seq (.ops [⟨(some 23), .mv (.tmp 3), none⟩,
   ⟨(some 24), .mv (.tmp 0), none⟩,
   ⟨(some 25), .call (.func 40) [(.tmp 24)], none⟩,
   ⟨(some 26), .call (.func 18) [(.tmp 23), (.tmp 25)], none⟩,
   ⟨(some 27), .call (.func 39) [(.tmp 26)], none⟩,
   ⟨(some 22), .mv (.tmp 27), none⟩,
   ⟨(some 28), .ext (.tmp 22) 0, none⟩,
   ⟨(some 29), .ext (.tmp 22) 1, none⟩,
   ⟨(some 6), .alloc [(.int .i64 0), (.int .i64 0), (.slice none 0 0), (.int .i64 0)] 41, none⟩,
   ⟨(some 5), .mv (.tmp 28), none⟩,
   ⟨none, .store (.tmp 6) (.tmp 29) 4, none⟩])
 (.seq (.ops [⟨(some 31), .mv (.tmp 3), none⟩,
   ⟨(some 32), .mv (.tmp 5), none⟩,
   ⟨(some 33), .call (.func 25) [(.tmp 31), (.tmp 32)], none⟩,
   ⟨(some 34), .call (.func 39) [(.tmp 33)], none⟩,
   ⟨(some 30), .mv (.tmp 34), none⟩,
   ⟨(some 35), .ext (.tmp 30) 0, none⟩,
   ⟨(some 36), .ext (.tmp 30) 1, none⟩,
   ⟨(some 8), .alloc [(.int .i64 0), (.int .i64 0), (.slice none 0 0), (.int .i64 0)] 41, none⟩,
   ⟨(some 7), .mv (.tmp 35), none⟩,
   ⟨none, .store (.tmp 8) (.tmp 36) 4, none⟩])
 (.seq (.ops [⟨(some 37), .faddr (.tmp 6) 3, none⟩,
   ⟨(some 38), .load (.tmp 37) none, none⟩,
   ⟨(some 39), .int .neq (.tmp 38) (.const (.int .i64 0)), none⟩,
   ⟨(some 40), .mv (.tmp 39), none⟩,
   ⟨(some 41), .faddr (.tmp 8) 3, some (40, false)⟩,
   ⟨(some 42), .load (.tmp 41) none, some (40, false)⟩,
   ⟨(some 43), .int .eql (.tmp 42) (.const (.int .i64 0)), some (40, false)⟩,
   ⟨(some 44), .mv (.tmp 43), some (40, false)⟩,
   ⟨(some 45), .mv (.tmp 7), some (44, true)⟩,
   ⟨(some 46), .mv (.tmp 0), some (44, true)⟩,
   ⟨(some 47), .call (.func 40) [(.tmp 46)], some (44, true)⟩,
   ⟨(some 48), .call (.func 24) [(.tmp 45), (.tmp 47)], some (44, true)⟩,
   ⟨(some 49), .pick (.tmp 44) (.tmp 48) (.const (.bool false)), some (40, false)⟩,
   ⟨(some 50), .pick (.tmp 40) (.const (.bool true)) (.tmp 49), none⟩,
   ⟨(some 2), .mv (.tmp 50), none⟩])
 .ret)))))))
def F_lontarlaw17_TamilBack : AFunc := ⟨1, 51, [.tmp 2], k_lontarlaw17_TamilBack⟩
theorem ok_lontarlaw17_TamilBack : FOK Try.prog 12 F_lontarlaw17_TamilBack := FOK.of [] Try.func12 (by kernel_rfl) (by kernel_rfl)

-- lontar/lontarlaw17.TamilVowels
@[reducible] def i_lontarlaw17_TamilVowels : Nat := 13
def k_lontarlaw17_TamilVowels : ACode :=
 (.seq (.ops [⟨(some 4), .mv (.const (.bool false)), none⟩])
 (.seq (.seq (.ops [⟨(some 13), .call (.func 35) [], none⟩,
   ⟨(some 14), .not (.tmp 13), none⟩])
 (.cond (.tmp 14)
  (.seq (.ops [⟨(some 4), .mv (.const (.bool false)), none⟩])
  .ret)
  .skip))
 (.seq (.ops [⟨(some 16), .call (.func 36) [], none⟩,
   ⟨(some 17), .call (.func 16) [(.tmp 16)], none⟩,
   ⟨(some 15), .mv (.tmp 17), none⟩,
   ⟨(some 18), .ext (.tmp 15) 0, none⟩,
   ⟨(some 19), .ext (.tmp 15) 1, none⟩,
   ⟨(some 5), .mv (.tmp 18), none⟩,
   ⟨(some 6), .mv (.tmp 19), none⟩])
 (.seq (.seq (.ops [⟨(some 20), .mv (.tmp 5), none⟩,
   ⟨(some 21), .isNil 0 false (.tmp 20), none⟩,
   ⟨(some 22), .mv (.tmp 21), none⟩,
   ⟨(some 23), .mv (.tmp 6), some (22, false)⟩,
   ⟨(some 24), .int .neq (.tmp 23) (.const (.int .i64 0)), some (22, false)⟩,
   ⟨(some 25), .pick (.tmp 22) (.const (.bool true)) (.tmp 24), none⟩])
 (.cond (.tmp 25)
  (.seq (.ops [⟨(some 4), .mv (.const (.bool false)), none⟩])
  .ret)
  .skip))
 (.seq (.ops [⟨(some 26), .mv (.tmp 0), none⟩,
   ⟨(some 27), .int .rem (.tmp 26) (.const (.int .u8 22)), none⟩,
   ⟨(some 28), .conv .i64 (.tmp 27), none⟩,
   ⟨(some 29), .int .add (.const (.int .i64 176)) (.tmp 28), none⟩,
   ⟨(some 30), .mv (.tmp 1), none⟩,
   ⟨(some 31), .int .rem (.tmp 30) (.const (.int .u8 4)), none⟩,
   ⟨(some 32), .conv .i64 (.tmp 31), none⟩,
   ⟨(some 33), .int .add (.const (.int .i64 171)) (.tmp 32), none⟩,
   ⟨(some 34), .bslice 3 2 1 [(.int .i64 0)] [(0, 1, (.tmp 29)), (1, 1, (.tmp 33))], none⟩,
   ⟨(some 7), .mv (.tmp 34), none⟩])
 (.seq (.ops [⟨(some 35), .call (.func 38) [], none⟩,
   ⟨(some 36), .mv (.tmp 0), none⟩,
   ⟨(some 37), .int .rem (.tmp 36) (.const (.int .u8 22)), none⟩,
   ⟨(some 38), .iaddr (.tmp 35) (.tmp 37) 1, none⟩,
   ⟨(some 39), .load (.tmp 38) none, none⟩,
   ⟨(some 40), .mv (.tmp 1), none⟩,
   ⟨(some 41), .int .rem (.tmp 40) (.const (.int .u8 4)), none⟩,
   ⟨(some 42), .conv .i64 (.tmp 41), none⟩,
   ⟨(some 43), .int .add (.const (.int .i64 3007)) (.tmp 42), none⟩,
   ⟨(some 44), .bslice 3 2 1 [(.int .i64 0)] [(0, 1, (.tmp 39)), (1, 1, (.tmp 43))], none⟩,
   ⟨(some 8), .mv (.tmp 44), none⟩])
 (.seq (.ops [⟨(some 46), .mv (.tmp 5), none⟩,
   ⟨(some 47), .mv (.tmp 7), none⟩,
   ⟨(some 48), .call (.func 25) [(.tmp 46), (.tmp 47)], none⟩,
   ⟨(some 49), .call (.func 39) [(.tmp 48)], none⟩,
   ⟨(some 45), .mv (.tmp 49), none⟩,
   ⟨(some 50), .ext (.tmp 45) 0, none⟩,
   ⟨(some 51), .ext (.tmp 45) 1, none⟩,
   ⟨(some 10), .alloc [(.int .i64 0), (.int .i64 0), (.slice none 0 0), (.int .i64 0)] 41, none⟩,
   ⟨(some 9), .mv (.tmp 50), none⟩,
   ⟨none, .store (.tmp 10) (.tmp 51) 4, none⟩])
 (.seq (.ops [⟨(some 53), .mv (.tmp 5), none⟩,
   ⟨(some 54), .mv (.tmp 8), none⟩,
   ⟨(some 55), .call (.func 18) [(.tmp 53), (.tmp 54)], none⟩,
   ⟨(some 56), .call (.func 39) [(.tmp 55)], none⟩,
   ⟨(some 52), .mv (.tmp 56), none⟩,
   ⟨(some 57), .ext (.tmp 52) 0, none⟩,
   ⟨(some 58), .ext (.tmp 52) 1, none⟩,
   ⟨(some 12), .alloc [(.int .i64 0), (.int .i64 0), (.slice none 0 0), (.int .i64 0)] 41, none⟩,
   ⟨(some 11), .mv (.tmp 57), none⟩,
   ⟨none, .store (.tmp 12) (.tmp 58) 4, none⟩])
 (.seq (.ops [⟨(some 59), .faddr (.tmp 10) 3, none⟩,
   ⟨(some 60), .load (.tmp 59) none, none⟩,
   ⟨(some 61), .int .eql (.tmp 60) (.const (.int .i64 0)), none⟩,
   ⟨(some 62), .mv (.tmp 61), none⟩,
   ⟨(some 63), .faddr (.tmp 12) 3, some (62, true)⟩,
   ⟨(some 64), .load (.tmp 63) none, some (62, true)⟩,
   ⟨(some 65), .int .eql (.tmp 64) (.const (.int .i64 0)), some (62, true)⟩,
   ⟨(some 66), .pick (.tmp 62) (.tmp 65) (.const (.bool false)), none⟩,
   ⟨(some 67), .mv (.tmp 66), none⟩,
   ⟨(some 68), .mv (.tmp 9), some (67, true)⟩,
   ⟨(some 69), .mv (.tmp 8), some (67, true)⟩,
   ⟨(some 70), .call (.func 24) [(.tmp 68), (.tmp 69)], some (67, true)⟩,
   ⟨(some 71), .pick (.tmp 67) (.tmp 70) (.const (.bool false)), none⟩,
   ⟨(some 72), .mv (.tmp 71), none⟩,
   ⟨(some 73), .mv (.tmp 11), some (72, true)⟩,
   ⟨(some 74), .mv (.tmp 7), some (72, true)⟩,
   ⟨(some 75), .call (.func 24) [(.tmp 73), (.tmp 74)], some (72, true)⟩,
   ⟨(some 76), .pick (.tmp 72) (.tmp 75) (.const (.bool false)), none⟩,
   ⟨(some 4), .mv (.tmp 76), none⟩])
 .ret)))))))))
def F_lontarlaw17_TamilVowels : AFunc := ⟨2, 77, [.tmp 4], k_lontarlaw17_TamilVowels⟩
theorem ok_lontarlaw17_TamilVowels : FOK Try.prog 13 F_lontarlaw17_TamilVowels := FOK.of [] Try.func13 (by kernel_rfl) (by kernel_rfl)

-- lontar/lontarlaw15.awake
@[reducible] def i_lontarlaw15_awake : Nat := 14
def k_lontarlaw15_awake : ACode :=
 (.seq (.ops [⟨(some 0), .mv (.const (.bool false)), none⟩])
 (.seq (.ops [⟨(some 8), .bslice 3 1 1 [(.int .i64 0)] [(0, 1, (.const (.int .i64 1)))], none⟩,
   ⟨(some 9), .bslice 3 1 1 [(.int .i64 0)] [(0, 1, (.const (.int .i64 7)))], none⟩,
   ⟨(some 10), .build [(.slice none 0 0), (.slice none 0 0)] [(0, 1, (.tmp 8)), (1, 1, (.tmp 9))], none⟩,
   ⟨(some 11), .bslice 3 2 1 [(.int .i64 0)] [(0, 1, (.const (.int .i64 1))), (1, 1, (.const (.int .i64 2)))], none⟩,
   ⟨(some 12), .bslice 3 1 1 [(.int .i64 0)] [(0, 1, (.const (.int .i64 8)))], none⟩,
   ⟨(some 13), .build [(.slice none 0 0), (.slice none 0 0)] [(0, 1, (.tmp 11)), (1, 1, (.tmp 12))], none⟩,
   ⟨(some 14), .bslice 3 1 1 [(.int .i64 0)] [(0, 1, (.const (.int .i64 2)))], none⟩,
   ⟨(some 15), .bslice 3 1 1 [(.int .i64 0)] [(0, 1, (.const (.int .i64 9)))], none⟩,
   ⟨(some 16), .build [(.slice none 0 0), (.slice none 0 0)] [(0, 1, (.tmp 14)), (1, 1, (.tmp 15))], none⟩,
   ⟨(some 17), .bslice 46 3 2 [(.slice none 0 0), (.slice none 0 0)] [(0, 2, (.tmp 10)), (2, 2, (.tmp 13)), (4, 2, (.tmp 16))], none⟩,
   ⟨(some 1), .mv (.tmp 17), none⟩])
 (.seq (.ops [⟨(some 19), .mv (.tmp 1), none⟩,
   ⟨(some 20), .call (.func 16) [(.tmp 19)], none⟩,
   ⟨(some 18), .mv (.tmp 20), none⟩,
   ⟨(some 21), .ext (.tmp 18) 0, none⟩,
   ⟨(some 22), .ext (.tmp 18) 1, none⟩,
   ⟨(some 2), .mv (.tmp 21), none⟩,
   ⟨(some 3), .mv (.tmp 22), none⟩])
 (.seq (.seq (.ops [⟨(some 23), .mv (.tmp 2), none⟩,
   ⟨(some 24), .isNil 0 false (.tmp 23), none⟩,
   ⟨(some 25), .mv (.tmp 24), none⟩,
   ⟨(some 26), .mv (.tmp 3), some (25, false)⟩,
   ⟨(some 27), .int .neq (.tmp 26) (.const (.int .i64 0)), some (25, false)⟩,
   ⟨(some 28), .pick (.tmp 25) (.const (.bool true)) (.tmp 27), none⟩])
 (.cond (.tmp 28)
  (.seq (.ops [⟨(some 0), .mv (.const (.bool false)), none⟩])
  .ret)
  .skip))
 (.seq (.ops [⟨(some 29), .mv (.tmp 2), none⟩,
   ⟨(some 30), .bslice 3 2 1 [(.int .i64 0)] [(0, 1, (.const (.int .i64 8))), (1, 1, (.const (.int .i64 9)))], none⟩,
   ⟨(some 31), .call (.func 18) [(.tmp 29), (.tmp 30)], none⟩,
   ⟨(some 32), .mv (.tmp 2), none⟩,
   ⟨(some 33), .bslice 3 2 1 [(.int .i64 0)] [(0, 1, (.const (.int .i64 7))), (1, 1, (.const (.int .i64 9)))], none⟩,
   ⟨(some 34), .call (.func 18) [(.tmp 32), (.tmp 33)], none⟩,
   ⟨(some 4), .mv (.tmp 31), none⟩,
   ⟨(some 5), .mv (.tmp 34), none⟩])
 (.seq (.ops [⟨(some 36), .bslice 3 1 1 [(.int .i64 0)] [(0, 1, (.const (.int .i64 1)))], none⟩,
   ⟨(some 37), .bslice 3 1 1 [(.int .i64 0)] [(0, 1, (.const (.int .i64 7)))], none⟩,
   ⟨(some 38), .build [(.slice none 0 0), (.slice none 0 0)] [(0, 1, (.tmp 36)), (1, 1, (.tmp 37))], none⟩,
   ⟨(some 39), .bslice 3 3 1 [(.int .i64 0)] [(0, 1, (.const (.int .i64 1))), (1, 1, (.const (.int .i64 1))), (2, 1, (.const (.int .i64 2)))], none⟩,
   ⟨(some 40), .bslice 3 1 1 [(.int .i64 0)] [(0, 1, (.const (.int .i64 8)))], none⟩,
   ⟨(some 41), .build [(.slice none 0 0), (.slice none 0 0)] [(0, 1, (.tmp 39)), (1, 1, (.tmp 40))], none⟩,
   ⟨(some 42), .bslice 46 2 2 [(.slice none 0 0), (.slice none 0 0)] [(0, 2, (.tmp 38)), (2, 2, (.tmp 41))], none⟩,
   ⟨(some 43), .call (.func 16) [(.tmp 42)], none⟩,
   ⟨(some 35), .mv (.tmp 43), none⟩,
   ⟨(some 44), .ext (.tmp 35) 0, none⟩,
   ⟨(some 45), .ext (.tmp 35) 1, none⟩,
   ⟨(some 6), .mv (.tmp 44), none⟩,
   ⟨(some 7), .mv (.tmp 45), none⟩])
 (.seq (.ops [⟨(some 46), .mv (.tmp 4), none⟩,
   ⟨(some 47), .len false (.tmp 46), none⟩,
   ⟨(some 48), .int .eql (.tmp 47) (.const (.int .i64 2)), none⟩,
   ⟨(some 49), .mv (.tmp 48), none⟩,
   ⟨(some 50), .mv (.tmp 4), some (49, true)⟩,
   ⟨(some 51), .iaddr (.tmp 50) (.const (.int .i64 1)) 4, some (49, true)⟩,
   ⟨(some 52), .faddr (.tmp 51) 3, some (49, true)⟩,
   ⟨(some 53), .load (.tmp 52) none, some (49, true)⟩,
   ⟨(some 54), .int .eql (.tmp 53) (.const (.int .i64 0)), some (49, true)⟩,
   ⟨(some 55), .pick (.tmp 49) (.tmp 54) (.const (.bool false)), none⟩,
   ⟨(some 56), .mv (.tmp 55), none⟩,
   ⟨(some 57), .mv (.tmp 5), some (56, true)⟩,
   ⟨(some 58), .len false (.tmp 57), some (56, true)⟩,
   ⟨(some 59), .int .eql (.tmp 58) (.const (.int .i64 2)), some (56, true)⟩,
   ⟨(some 60), .pick (.tmp 56) (.tmp 59) (.const (.bool false)), none⟩,
   ⟨(some 61), .mv (.tmp 60), none⟩,
   ⟨(some 62), .mv (.tmp 5), some (61, true)⟩,
   ⟨(some 63), .iaddr (.tmp 62) (.const (.int .i64 0)) 4, some (61, true)⟩,
   ⟨(some 64), .faddr (.tmp 63) 3, some (61, true)⟩,
   ⟨(some 65), .load (.tmp 64) none, some (61, true)⟩,
   ⟨(some 66), .int .eql (.tmp 65) (.const (.int .i64 0)), some (61, true)⟩,
   ⟨(some 67), .pick (.tmp 61) (.tmp 66) (.const (.bool false)), none⟩,
   ⟨(some 68), .mv (.tmp 67), none⟩,
   ⟨(some 69), .mv (.tmp 5), some (68, true)⟩,
   ⟨(some 70), .iaddr (.tmp 69) (.const (.int .i64 1)) 4, some (68, true)⟩,
   ⟨(some 71), .faddr (.tmp 70) 3, some (68, true)⟩,
   ⟨(some 72), .load (.tmp 71) none, some (68, true)⟩,
   ⟨(some 73), .int .eql (.tmp 72) (.const (.int .i64 3)), some (68, true)⟩,
   ⟨(some 74), .pick (.tmp 68) (.tmp 73) (.const (.bool false)), none⟩,
   ⟨(some 75), .mv (.tmp 74), none⟩,
   ⟨(some 76), .mv (.tmp 7), some (75, true)⟩,
   ⟨(some 77), .int .eql (.tmp 76) (.const (.int .i64 10)), some (75, true)⟩,
   ⟨(some 78), .pick (.tmp 75) (.tmp 77) (.const (.bool false)), none⟩,
   ⟨(some 0), .mv (.tmp 78), none⟩])
 .ret)))))))
def F_lontarlaw15_awake : AFunc := ⟨0, 79, [.tmp 0], k_lontarlaw15_awake⟩
theorem ok_lontarlaw15_awake : FOK Try.prog 14 F_lontarlaw15_awake := FOK.of [] Try.func14 (by kernel_rfl) (by kernel_rfl)

-- lontar/lontarlaw15.Rules
@[reducible] def i_lontarlaw15_Rules : Nat := 15
/-- lontarlaw15_Rules: the body of loop 0 -/
def b_lontarlaw15_Rules_0 : ACode :=
 (.seq (.ops [⟨(some 10), .int .lss (.tmp 9) (.tmp 8), none⟩])
 (.seq (.cond (.tmp 10)
  .skip
  (.exit 0))
 (.seq (.block 1 (.seq (.ops [⟨(some 11), .iaddr (.tmp 7) (.tmp 9) 2, none⟩,
   ⟨(some 12), .load (.tmp 11) (some 2), none⟩,
   ⟨(some 5), .alloc [(.slice none 0 0), (.slice none 0 0)] 46, none⟩,
   ⟨none, .store (.tmp 5) (.tmp 12) 2, none⟩])
 (.seq (.draw [⟨(some 13), .mv (.tmp 3), none⟩,
   ⟨(some 15), .load (.tmp 5) (some 2), none⟩,
   ⟨(some 16), .bslice 46 1 2 [(.slice none 0 0), (.slice none 0 0)] [(0, 2, (.tmp 15))], none⟩,
   ⟨(some 14), .append (.const (.slice none 0 0)) (.tmp 13) 46 2 48, none⟩,
   ⟨(some 17), .append (.tmp 14) (.tmp 16) 46 2 48, none⟩,
   ⟨(some 18), .call (.func 29) [(.tmp 17)], none⟩])
 (.cond (.tmp 18)
  (.ops [⟨(some 19), .mv (.tmp 3), none⟩,
    ⟨(some 20), .load (.tmp 5) (some 2), none⟩,
    ⟨(some 21), .bslice 46 1 2 [(.slice none 0 0), (.slice none 0 0)] [(0, 2, (.tmp 20))], none⟩,
    ⟨(some 22), .append (.tmp 19) (.tmp 21) 46 2 48, none⟩,
    ⟨(some 3), .mv (.tmp 22), none⟩])
  .skip))))
 (.ops [⟨(some 23), .int .add (.tmp 9) (.const (.int .i64 1)), none⟩,
   ⟨(some 9), .mv (.tmp 23), none⟩]))))

def k_lontarlaw15_Rules : ACode :=
 (.seq (.ops [⟨(some 2), .mv (.const (.slice none 0 0)), none⟩])
 (.seq (.ops [⟨(some 3), .mv (.const (.slice none 0 0)), none⟩])
 (.seq (.seq (.ops [⟨(some 6), .mv (.tmp 0), none⟩,
   ⟨(some 7), .call (.func 41) [(.tmp 6)], none⟩,
   ⟨(some 8), .len false (.tmp 7), none⟩,
   ⟨(some 9), .mv (.const (.int .i64 0)), none⟩])
 (.block 0 (.loop [3, 7, 8, 9] b_lontarlaw15_Rules_0)))
 (.seq (.ops [⟨(some 24), .mv (.tmp 3), none⟩,
   ⟨(some 2), .mv (.tmp 24), none⟩])
 .ret))))
def F_lontarlaw15_Rules : AFunc := ⟨1, 25, [.tmp 2], k_lontarlaw15_Rules⟩
theorem ok_lontarlaw15_Rules : FOK Try.prog 15 F_lontarlaw15_Rules := FOK.of [[3, 7, 8, 9], [0, 2, 3, 1, 4, 5]] Try.func15 (by kernel_rfl) (by kernel_rfl)

-- lontar/table.Of
@[reducible] def i_table_Of : Nat := 16
def k_table_Of : ACode :=
 (.seq (.ops [⟨(some 2), .mv (.const (.pointer none)), none⟩,
   ⟨(some 3), .mv (.const (.int .i64 0)), none⟩])
 (.seq (.ops [⟨(some 9), .mv (.tmp 0), none⟩,
   ⟨(some 10), .call (.func 42) [(.tmp 9)], none⟩,
   ⟨(some 8), .mv (.tmp 10), none⟩,
   ⟨(some 11), .ext (.tmp 8) 0, none⟩,
   ⟨(some 12), .ext (.tmp 8) 1, none⟩,
   ⟨(some 4), .mv (.tmp 11), none⟩,
   ⟨(some 5), .mv (.tmp 12), none⟩])
 (.seq (.seq (.ops [⟨(some 13), .mv (.tmp 5), none⟩,
   ⟨(some 14), .int .neq (.tmp 13) (.const (.int .i64 0)), none⟩])
 (.cond (.tmp 14)
  (.seq (.ops [⟨(some 15), .mv (.tmp 5), none⟩,
    ⟨(some 2), .mv (.const (.pointer none)), none⟩,
    ⟨(some 3), .mv (.tmp 15), none⟩])
  .ret)
  .skip))
 (.seq (.seq (.ops [⟨(some 16), .mv (.tmp 0), none⟩,
   ⟨(some 17), .call (.func 43) [(.tmp 16)], none⟩,
   ⟨(some 18), .not (.tmp 17), none⟩])
 (.cond (.tmp 18)
  (.seq (.ops [⟨(some 2), .mv (.const (.pointer none)), none⟩,
    ⟨(some 3), .mv (.const (.int .i64 10)), none⟩])
  .ret)
  .skip))
 (.seq (.ops [⟨(some 19), .mv (.tmp 0), none⟩,
   ⟨(some 20), .call (.func 32) [(.tmp 19)], none⟩,
   ⟨(some 6), .mv (.tmp 20), none⟩])
 (.seq (.ops [⟨(some 21), .mv (.tmp 0), none⟩,
   ⟨(some 22), .call (.func 31) [(.tmp 21)], none⟩,
   ⟨(some 23), .mv (.tmp 6), none⟩,
   ⟨(some 24), .call (.func 31) [(.tmp 23)], none⟩,
   ⟨(some 25), .mv (.tmp 4), none⟩,
   ⟨(some 26), .build [(.int .i64 0), (.int .i64 0), (.pointer none), (.pointer none)] [(0, 1, (.tmp 22)), (1, 1, (.tmp 24)), (2, 1, (.tmp 25))], none⟩,
   ⟨(some 27), .box (.tmp 26) 69, none⟩,
   ⟨(some 7), .mv (.tmp 27), none⟩])
 (.seq (.ops [⟨(some 29), .mv (.tmp 7), none⟩,
   ⟨(some 30), .mv (.tmp 6), none⟩,
   ⟨(some 31), .call (.func 42) [(.tmp 30)], none⟩,
   ⟨(some 28), .mv (.tmp 31), none⟩,
   ⟨(some 32), .ext (.tmp 28) 0, none⟩,
   ⟨(some 33), .ext (.tmp 28) 1, none⟩,
   ⟨(some 34), .nilChk (.tmp 29), none⟩,
   ⟨(some 35), .faddr (.tmp 34) 3, none⟩,
   ⟨none, .store (.tmp 35) (.tmp 32) 1, none⟩,
   ⟨(some 5), .mv (.tmp 33), none⟩])
 (.seq (.ops [⟨(some 36), .mv (.tmp 7), none⟩,
   ⟨(some 37), .mv (.tmp 5), none⟩,
   ⟨(some 2), .mv (.tmp 36), none⟩,
   ⟨(some 3), .mv (.tmp 37), none⟩])
 .ret))))))))
def F_table_Of : AFunc := ⟨1, 38, [.tmp 2, .tmp 3], k_table_Of⟩
theorem ok_table_Of : FOK Try.prog 16 F_table_Of := FOK.of [] Try.func16 (by kernel_rfl) (by kernel_rfl)

-- lontar/lontarlaw01.Same
@[reducible] def i_lontarlaw01_Same : Nat := 17
/-- lontarlaw01_Same: the body of loop 0 -/
def b_lontarlaw01_Same_0 : ACode :=
 (.seq (.ops [⟨(some 14), .int .lss (.tmp 13) (.tmp 12), none⟩])
 (.seq (.cond (.tmp 14)
  .skip
  (.exit 0))
 (.seq (.block 1 (.seq (.ops [⟨(some 15), .mv (.tmp 13), none⟩,
   ⟨(some 5), .mv (.tmp 15), none⟩])
 (.seq (.draw [⟨(some 16), .mv (.tmp 0), none⟩,
   ⟨(some 17), .mv (.tmp 5), none⟩,
   ⟨(some 18), .iaddr (.tmp 16) (.tmp 17) 4, none⟩,
   ⟨(some 19), .faddr (.tmp 18) 0, none⟩,
   ⟨(some 20), .load (.tmp 19) none, none⟩,
   ⟨(some 21), .mv (.tmp 1), none⟩,
   ⟨(some 22), .mv (.tmp 5), none⟩,
   ⟨(some 23), .iaddr (.tmp 21) (.tmp 22) 4, none⟩,
   ⟨(some 24), .faddr (.tmp 23) 0, none⟩,
   ⟨(some 25), .load (.tmp 24) none, none⟩,
   ⟨(some 26), .int .neq (.tmp 20) (.tmp 25), none⟩,
   ⟨(some 27), .mv (.tmp 26), none⟩,
   ⟨(some 28), .mv (.tmp 0), some (27, false)⟩,
   ⟨(some 29), .mv (.tmp 5), some (27, false)⟩,
   ⟨(some 30), .iaddr (.tmp 28) (.tmp 29) 4, some (27, false)⟩,
   ⟨(some 31), .faddr (.tmp 30) 1, some (27, false)⟩,
   ⟨(some 32), .load (.tmp 31) none, some (27, false)⟩,
   ⟨(some 33), .mv (.tmp 1), some (27, false)⟩,
   ⟨(some 34), .mv (.tmp 5), some (27, false)⟩,
   ⟨(some 35), .iaddr (.tmp 33) (.tmp 34) 4, some (27, false)⟩,
   ⟨(some 36), .faddr (.tmp 35) 1, some (27, false)⟩,
   ⟨(some 37), .load (.tmp 36) none, some (27, false)⟩,
   ⟨(some 38), .int .neq (.tmp 32) (.tmp 37), some (27, false)⟩,
   ⟨(some 39), .pick (.tmp 27) (.const (.bool true)) (.tmp 38), none⟩,
   ⟨(some 40), .mv (.tmp 39), none⟩,
   ⟨(some 41), .mv (.tmp 0), some (40, false)⟩,
   ⟨(some 42), .mv (.tmp 5), some (40, false)⟩,
   ⟨(some 43), .iaddr (.tmp 41) (.tmp 42) 4, some (40, false)⟩,
   ⟨(some 44), .faddr (.tmp 43) 3, some (40, false)⟩,
   ⟨(some 45), .load (.tmp 44) none, some (40, false)⟩,
   ⟨(some 46), .mv (.tmp 1), some (40, false)⟩,
   ⟨(some 47), .mv (.tmp 5), some (40, false)⟩,
   ⟨(some 48), .iaddr (.tmp 46) (.tmp 47) 4, some (40, false)⟩,
   ⟨(some 49), .faddr (.tmp 48) 3, some (40, false)⟩,
   ⟨(some 50), .load (.tmp 49) none, some (40, false)⟩,
   ⟨(some 51), .int .neq (.tmp 45) (.tmp 50), some (40, false)⟩,
   ⟨(some 52), .pick (.tmp 40) (.const (.bool true)) (.tmp 51), none⟩,
   ⟨(some 53), .mv (.tmp 52), none⟩,
   ⟨(some 54), .mv (.tmp 0), some (53, false)⟩,
   ⟨(some 55), .mv (.tmp 5), some (53, false)⟩,
   ⟨(some 56), .iaddr (.tmp 54) (.tmp 55) 4, some (53, false)⟩,
   ⟨(some 57), .faddr (.tmp 56) 2, some (53, false)⟩,
   ⟨(some 58), .load (.tmp 57) none, some (53, false)⟩,
   ⟨(some 59), .mv (.tmp 1), some (53, false)⟩,
   ⟨(some 60), .mv (.tmp 5), some (53, false)⟩,
   ⟨(some 61), .iaddr (.tmp 59) (.tmp 60) 4, some (53, false)⟩,
   ⟨(some 62), .faddr (.tmp 61) 2, some (53, false)⟩,
   ⟨(some 63), .load (.tmp 62) none, some (53, false)⟩,
   ⟨(some 64), .call (.func 24) [(.tmp 58), (.tmp 63)], some (53, false)⟩,
   ⟨(some 65), .not (.tmp 64), some (53, false)⟩,
   ⟨(some 66), .pick (.tmp 53) (.const (.bool true)) (.tmp 65), none⟩])
 (.cond (.tmp 66)
  (.seq (.ops [⟨(some 4), .mv (.const (.bool false)), none⟩])
  .ret)
  .skip))))
 (.ops [⟨(some 67), .int .add (.tmp 13) (.const (.int .i64 1)), none⟩,
   ⟨(some 13), .mv (.tmp 67), none⟩]))))

def k_lontarlaw01_Same : ACode :=
 (.seq (.ops [⟨(some 4), .mv (.const (.bool false)), none⟩])
 (.seq (.seq (.ops [⟨(some 6), .mv (.tmp 0), none⟩,
   ⟨(some 7), .len false (.tmp 6), none⟩,
   ⟨(some 8), .mv (.tmp 1), none⟩,
   ⟨(some 9), .len false (.tmp 8), none⟩,
   ⟨(some 10), .int .neq (.tmp 7) (.tmp 9), none⟩])
 (.cond (.tmp 10)
  (.seq (.ops [⟨(some 4), .mv (.const (.bool false)), none⟩])
  .ret)
  .skip))
 (.seq (.seq (.ops [⟨(some 11), .mv (.tmp 0), none⟩,
   ⟨(some 12), .len false (.tmp 11), none⟩,
   ⟨(some 13), .mv (.const (.int .i64 0)), none⟩])
 (.block 0 (.loop [0, 1, 12, 13] b_lontarlaw01_Same_0)))
 (.seq (.ops [⟨(some 4), .mv (.const (.bool true)), none⟩])
 .ret))))
def F_lontarlaw01_Same : AFunc := ⟨2, 68, [.tmp 4], k_lontarlaw01_Same⟩
theorem ok_lontarlaw01_Same : FOK Try.prog 17 F_lontarlaw01_Same := FOK.of [[0, 1, 12, 13], [0, 1, 2, 3, 4, 5, 6, 7, 8, 9, 10, 11, 12, 13, 14, 15, 16, 17, 18, 19, 20, 21, 22, 23, 24, 25, 26, 27, 28, 29, 30, 31, 32, 33, 34, 35, 36, 37, 38, 39, 40, 41, 42, 43, 44, 45, 46, 47, 48, 49, 50]] Try.func17 (by kernel_rfl) (by kernel_rfl)

-- (*lontar/table.Table).Encode
@[reducible] def i_table_Table__Encode : Nat := 18
/-- table_Table__Encode: the body of loop 0 -/
def b_table_Table__Encode_0 : ACode :=
 (.seq (.ops [⟨(some 18), .int .lss (.tmp 17) (.tmp 16), none⟩])
 (.seq (.cond (.tmp 18)
  .skip
  (.exit 0))
 (.seq (.block 1 (.seq (.ops [⟨(some 19), .mv (.tmp 17), none⟩,
   ⟨(some 20), .iaddr (.tmp 15) (.tmp 17) 4, none⟩,
   ⟨(some 21), .load (.tmp 20) (some 4), none⟩,
   ⟨(some 8), .alloc [(.int .i64 0), (.int .i64 0), (.slice none 0 0), (.int .i64 0)] 41, none⟩,
   ⟨(some 7), .mv (.tmp 19), none⟩,
   ⟨none, .store (.tmp 8) (.tmp 21) 4, none⟩])
 (.seq (.ops [⟨(some 22), .mv (.tmp 6), none⟩,
   ⟨(some 23), .mv (.tmp 7), none⟩,
   ⟨(some 24), .mv (.tmp 0), none⟩,
   ⟨(some 25), .mv (.tmp 5), none⟩,
   ⟨(some 26), .load (.tmp 8) (some 4), none⟩,
   ⟨(some 27), .call (.func 23) [(.tmp 24), (.tmp 25), (.tmp 26)], none⟩,
   ⟨(some 28), .iaddr (.tmp 22) (.tmp 23) 4, none⟩,
   ⟨none, .store (.tmp 28) (.tmp 27) 4, none⟩])
 (.seq (.ops [⟨(some 29), .mv (.tmp 6), none⟩,
   ⟨(some 30), .mv (.tmp 7), none⟩,
   ⟨(some 31), .iaddr (.tmp 29) (.tmp 30) 4, none⟩,
   ⟨(some 32), .faddr (.tmp 31) 3, none⟩,
   ⟨(some 33), .load (.tmp 32) none, none⟩,
   ⟨(some 34), .int .eql (.tmp 33) (.const (.int .i64 0)), none⟩])
 (.cond (.tmp 34)
  (.ops [⟨(some 35), .faddr (.tmp 8) 2, none⟩,
    ⟨(some 36), .load (.tmp 35) none, none⟩,
    ⟨(some 5), .mv (.tmp 36), none⟩])
  .skip)))))
 (.ops [⟨(some 37), .int .add (.tmp 17) (.const (.int .i64 1)), none⟩,
   ⟨(some 17), .mv (.tmp 37), none⟩]))))

def k_table_Table__Encode : ACode :=
 (.seq (.ops [⟨(some 4), .mv (.const (.slice none 0 0)), none⟩])
 (.seq (.ops [⟨(some 5), .mv (.const (.slice none 0 0)), none⟩])
 (.seq (.ops [⟨(some 9), .mv (.tmp 0), none⟩,
   ⟨(some 10), .nilChk (.tmp 9), none⟩,
   ⟨(some 11), .faddr (.tmp 10) 3, none⟩,
   ⟨(some 12), .load (.tmp 11) none, none⟩,
   ⟨(some 13), .mv (.tmp 1), none⟩,
   ⟨(some 14), .call (.func 44) [(.tmp 12), (.tmp 13)], none⟩,
   ⟨(some 6), .mv (.tmp 14), none⟩])
 (.seq (.seq (.ops [⟨(some 15), .mv (.tmp 6), none⟩,
   ⟨(some 16), .len false (.tmp 15), none⟩,
   ⟨(some 17), .mv (.const (.int .i64 0)), none⟩])
 (.block 0 (.loop [0, 5, 6, 15, 16, 17] b_table_Table__Encode_0)))
 (.seq (.ops [⟨(some 38), .mv (.tmp 6), none⟩,
   ⟨(some 4), .mv (.tmp 38), none⟩])
 .ret)))))
def F_table_Table__Encode : AFunc := ⟨2, 39, [.tmp 4], k_table_Table__Encode⟩
theorem ok_table_Table__Encode : FOK Try.prog 18 F_table_Table__Encode := FOK.of [[0, 5, 6, 15, 16, 17]] Try.func18 (by kernel_rfl) (by kernel_rfl)

-- lontar/lontarlaw04.Some
@[reducible] def i_lontarlaw04_Some : Nat := 19
/-- lontarlaw04_Some: the body of loop 0 -/
def b_lontarlaw04_Some_0 : ACode :=
 (.seq (.ops [⟨(some 13), .int .lss (.tmp 12) (.tmp 11), none⟩])
 (.seq (.cond (.tmp 13)
  .skip
  (.exit 0))
 (.seq (.block 1 (.seq (.ops [⟨(some 14), .iaddr (.tmp 10) (.tmp 12) 1, none⟩,
   ⟨(some 15), .load (.tmp 14) none, none⟩,
   ⟨(some 5), .mv (.tmp 15), none⟩])
 (.ops [⟨(some 16), .mv (.tmp 3), none⟩,
   ⟨(some 17), .mv (.tmp 5), none⟩,
   ⟨(some 18), .int .rem (.tmp 17) (.const (.int .u8 6)), none⟩,
   ⟨(some 19), .conv .i64 (.tmp 18), none⟩,
   ⟨(some 20), .int .add (.const (.int .i64 97)) (.tmp 19), none⟩,
   ⟨(some 21), .bslice 3 1 1 [(.int .i64 0)] [(0, 1, (.tmp 20))], none⟩,
   ⟨(some 22), .append (.tmp 16) (.tmp 21) 3 1 8, none⟩,
   ⟨(some 3), .mv (.tmp 22), none⟩])))
 (.ops [⟨(some 23), .int .add (.tmp 12) (.const (.int .i64 1)), none⟩,
   ⟨(some 12), .mv (.tmp 23), none⟩]))))

def k_lontarlaw04_Some : ACode :=
 (.seq (.ops [⟨(some 2), .mv (.const (.slice none 0 0)), none⟩])
 (.seq (.ops [⟨(some 3), .mv (.const (.slice none 0 0)), none⟩])
 (.seq (.seq (.ops [⟨(some 6), .mv (.tmp 0), none⟩,
   ⟨(some 7), .mv (.tmp 0), none⟩,
   ⟨(some 8), .len false (.tmp 7), none⟩,
   ⟨(some 9), .min2 (.tmp 8) (.const (.int .i64 60)), none⟩,
   ⟨(some 10), .slice (.tmp 6) none (some (.tmp 9)) 1, none⟩,
   ⟨(some 11), .len false (.tmp 10), none⟩,
   ⟨(some 12), .mv (.const (.int .i64 0)), none⟩])
 (.block 0 (.loop [3, 10, 11, 12] b_lontarlaw04_Some_0)))
 (.seq (.ops [⟨(some 24), .mv (.tmp 3), none⟩,
   ⟨(some 2), .mv (.tmp 24), none⟩])
 .ret))))
def F_lontarlaw04_Some : AFunc := ⟨1, 25, [.tmp 2], k_lontarlaw04_Some⟩
theorem ok_lontarlaw04_Some : FOK Try.prog 19 F_lontarlaw04_Some := FOK.of [[3, 10, 11, 12]] Try.func19 (by kernel_rfl) (by kernel_rfl)

-- lontar/lontarlaw15.Encode
@[reducible] def i_lontarlaw15_Encode : Nat := 20
/-- lontarlaw15_Encode: the body of loop 0 -/
def b_lontarlaw15_Encode_0 : ACode :=
 (.seq (.ops [⟨(some 16), .int .lss (.tmp 15) (.tmp 14), none⟩])
 (.seq (.cond (.tmp 16)
  .skip
  (.exit 0))
 (.seq (.block 1 (.seq (.ops [⟨(some 17), .mv (.tmp 15), none⟩,
   ⟨(some 18), .iaddr (.tmp 13) (.tmp 15) 4, none⟩,
   ⟨(some 19), .load (.tmp 18) (some 4), none⟩,
   ⟨(some 8), .alloc [(.int .i64 0), (.int .i64 0), (.slice none 0 0), (.int .i64 0)] 41, none⟩,
   ⟨(some 7), .mv (.tmp 17), none⟩,
   ⟨none, .store (.tmp 8) (.tmp 19) 4, none⟩])
 (.seq (.seq (.ops [⟨(some 20), .faddr (.tmp 8) 3, none⟩,
   ⟨(some 21), .load (.tmp 20) none, none⟩,
   ⟨(some 22), .int .neq (.tmp 21) (.const (.int .i64 0)), none⟩])
 (.cond (.tmp 22)
  (.exit 1)
  .skip))
 (.seq (.seq (.ops [⟨(some 23), .mv (.tmp 0), none⟩,
   ⟨(some 24), .mv (.tmp 6), none⟩,
   ⟨(some 25), .faddr (.tmp 8) 2, none⟩,
   ⟨(some 26), .load (.tmp 25) none, none⟩,
   ⟨(some 27), .call (.func 22) [(.tmp 23), (.tmp 24), (.tmp 26)], none⟩])
 (.cond (.tmp 27)
  (.seq (.ops [⟨(some 28), .mv (.tmp 5), none⟩,
    ⟨(some 29), .mv (.tmp 7), none⟩,
    ⟨(some 30), .faddr (.tmp 8) 0, none⟩,
    ⟨(some 31), .load (.tmp 30) none, none⟩,
    ⟨(some 32), .faddr (.tmp 8) 1, none⟩,
    ⟨(some 33), .load (.tmp 32) none, none⟩,
    ⟨(some 34), .build [(.int .i64 0), (.int .i64 0), (.slice none 0 0), (.int .i64 0)] [(0, 1, (.tmp 31)), (1, 1, (.tmp 33)), (3, 1, (.const (.int .i64 3)))], none⟩,
    ⟨(some 35), .iaddr (.tmp 28) (.tmp 29) 4, none⟩,
    ⟨none, .store (.tmp 35) (.tmp 34) 4, none⟩])
  (.exit 1))
  .skip))
 (.ops [⟨(some 36), .faddr (.tmp 8) 2, none⟩,
   ⟨(some 37), .load (.tmp 36) none, none⟩,
   ⟨(some 6), .mv (.tmp 37), none⟩])))))
 (.ops [⟨(some 38), .int .add (.tmp 15) (.const (.int .i64 1)), none⟩,
   ⟨(some 15), .mv (.tmp 38), none⟩]))))

def k_lontarlaw15_Encode : ACode :=
 (.seq (.ops [⟨(some 4), .mv (.const (.slice none 0 0)), none⟩])
 (.seq (.ops [⟨(some 9), .mv (.tmp 0), none⟩,
   ⟨(some 10), .call (.func 32) [(.tmp 9)], none⟩,
   ⟨(some 11), .mv (.tmp 1), none⟩,
   ⟨(some 12), .call (.func 26) [(.tmp 10), (.tmp 11)], none⟩,
   ⟨(some 5), .mv (.tmp 12), none⟩])
 (.seq (.ops [⟨(some 6), .mv (.const (.slice none 0 0)), none⟩])
 (.seq (.seq (.ops [⟨(some 13), .mv (.tmp 5), none⟩,
   ⟨(some 14), .len false (.tmp 13), none⟩,
   ⟨(some 15), .mv (.const (.int .i64 0)), none⟩])
 (.block 0 (.loop [0, 5, 6, 13, 14, 15] b_lontarlaw15_Encode_0)))
 (.seq (.ops [⟨(some 39), .mv (.tmp 5), none⟩,
   ⟨(some 4), .mv (.tmp 39), none⟩])
 .ret)))))
def F_lontarlaw15_Encode : AFunc := ⟨2, 40, [.tmp 4], k_lontarlaw15_Encode⟩
theorem ok_lontarlaw15_Encode : FOK Try.prog 20 F_lontarlaw15_Encode := FOK.of [[0, 5, 6, 13, 14, 15]] Try.func20 (by kernel_rfl) (by kernel_rfl)

-- (*lontar/table.Table).Joins
@[reducible] def i_table_Table__Joins : Nat := 21
def k_table_Table__Joins : ACode :=
 (.seq (.ops [⟨(some 6), .mv (.const (.bool false)), none⟩])
 (.seq (.seq (.ops [⟨(some 10), .mv (.tmp 1), none⟩,
   ⟨(some 11), .len false (.tmp 10), none⟩,
   ⟨(some 12), .int .eql (.tmp 11) (.const (.int .i64 0)), none⟩])
 (.cond (.tmp 12)
  (.seq (.ops [⟨(some 6), .mv (.const (.bool false)), none⟩])
  .ret)
  .skip))
 (.seq (.draw [⟨(some 14), .mv (.tmp 0), none⟩,
   ⟨(some 15), .nilChk (.tmp 14), none⟩,
   ⟨(some 16), .faddr (.tmp 15) 2, none⟩,
   ⟨(some 17), .load (.tmp 16) none, none⟩,
   ⟨(some 18), .mv (.tmp 1), none⟩,
   ⟨(some 20), .mv (.tmp 2), none⟩,
   ⟨(some 19), .call (.func 46) [(.tmp 18)], none⟩,
   ⟨(some 21), .append (.tmp 19) (.tmp 20) 3 1 8, none⟩,
   ⟨(some 22), .call (.func 45) [(.tmp 17), (.tmp 21)], none⟩,
   ⟨(some 13), .mv (.tmp 22), none⟩,
   ⟨(some 23), .ext (.tmp 13) 0, none⟩,
   ⟨(some 24), .ext (.tmp 13) 1, none⟩,
   ⟨(some 25), .ext (.tmp 13) 2, none⟩,
   ⟨(some 7), .mv (.tmp 23), none⟩,
   ⟨(some 8), .mv (.tmp 24), none⟩,
   ⟨(some 9), .mv (.tmp 25), none⟩])
 (.seq (.ops [⟨(some 26), .mv (.tmp 8), none⟩,
   ⟨(some 27), .mv (.tmp 1), none⟩,
   ⟨(some 28), .len false (.tmp 27), none⟩,
   ⟨(some 29), .int .gtr (.tmp 26) (.tmp 28), none⟩,
   ⟨(some 6), .mv (.tmp 29), none⟩])
 .ret))))
def F_table_Table__Joins : AFunc := ⟨3, 30, [.tmp 6], k_table_Table__Joins⟩
theorem ok_table_Table__Joins : FOK Try.prog 21 F_table_Table__Joins := FOK.of [[0, 1, 2, 3, 4, 6, 5, 7, 8, 9, 10, 11, 12, 13, 14, 15]] Try.func21 (by kernel_rfl) (by kernel_rfl)

-- lontar/lontarlaw15.Joins
@[reducible] def i_lontarlaw15_Joins : Nat := 22
/-- lontarlaw15_Joins: the body of loop 0 -/
def b_lontarlaw15_Joins_0 : ACode :=
 (.seq (.ops [⟨(some 17), .int .lss (.tmp 16) (.tmp 15), none⟩])
 (.seq (.cond (.tmp 17)
  .skip
  (.exit 0))
 (.seq (.block 1 (.seq (.ops [⟨(some 18), .iaddr (.tmp 14) (.tmp 16) 2, none⟩,
   ⟨(some 19), .load (.tmp 18) (some 2), none⟩,
   ⟨(some 9), .alloc [(.slice none 0 0), (.slice none 0 0)] 46, none⟩,
   ⟨none, .store (.tmp 9) (.tmp 19) 2, none⟩])
 (.seq (.draw [⟨(some 20), .mv (.tmp 1), none⟩,
   ⟨(some 21), .len false (.tmp 20), none⟩,
   ⟨(some 22), .int .gtr (.tmp 21) (.const (.int .i64 0)), none⟩,
   ⟨(some 23), .mv (.tmp 22), none⟩,
   ⟨(some 24), .faddr (.tmp 9) 0, some (23, true)⟩,
   ⟨(some 25), .load (.tmp 24) none, some (23, true)⟩,
   ⟨(some 26), .len false (.tmp 25), some (23, true)⟩,
   ⟨(some 27), .mv (.tmp 1), some (23, true)⟩,
   ⟨(some 28), .len false (.tmp 27), some (23, true)⟩,
   ⟨(some 29), .int .gtr (.tmp 26) (.tmp 28), some (23, true)⟩,
   ⟨(some 30), .pick (.tmp 23) (.tmp 29) (.const (.bool false)), none⟩,
   ⟨(some 31), .mv (.tmp 30), none⟩,
   ⟨(some 32), .faddr (.tmp 9) 0, some (31, true)⟩,
   ⟨(some 33), .load (.tmp 32) none, some (31, true)⟩,
   ⟨(some 34), .len false (.tmp 33), some (31, true)⟩,
   ⟨(some 35), .mv (.tmp 7), some (31, true)⟩,
   ⟨(some 36), .len false (.tmp 35), some (31, true)⟩,
   ⟨(some 37), .int .leq (.tmp 34) (.tmp 36), some (31, true)⟩,
   ⟨(some 38), .pick (.tmp 31) (.tmp 37) (.const (.bool false)), none⟩,
   ⟨(some 39), .mv (.tmp 38), none⟩,
   ⟨(some 40), .faddr (.tmp 9) 0, some (39, true)⟩,
   ⟨(some 41), .load (.tmp 40) none, some (39, true)⟩,
   ⟨(some 42), .mv (.tmp 7), some (39, true)⟩,
   ⟨(some 43), .faddr (.tmp 9) 0, some (39, true)⟩,
   ⟨(some 44), .load (.tmp 43) none, some (39, true)⟩,
   ⟨(some 45), .len false (.tmp 44), some (39, true)⟩,
   ⟨(some 46), .slice (.tmp 42) none (some (.tmp 45)) 1, some (39, true)⟩,
   ⟨(some 47), .call (.func 24) [(.tmp 41), (.tmp 46)], some (39, true)⟩,
   ⟨(some 48), .pick (.tmp 39) (.tmp 47) (.const (.bool false)), none⟩])
 (.cond (.tmp 48)
  (.seq (.ops [⟨(some 6), .mv (.const (.bool true)), none⟩])
  .ret)
  .skip))))
 (.ops [⟨(some 49), .int .add (.tmp 16) (.const (.int .i64 1)), none⟩,
   ⟨(some 16), .mv (.tmp 49), none⟩]))))

def k_lontarlaw15_Joins : ACode :=
 (.seq (.ops [⟨(some 6), .mv (.const (.bool false)), none⟩])
 (.seq (.ops [⟨(some 10), .mv (.tmp 1), none⟩,
   ⟨(some 11), .append (.const (.slice none 0 0)) (.tmp 10) 3 1 8, none⟩,
   ⟨(some 12), .mv (.tmp 2), none⟩,
   ⟨(some 13), .append (.tmp 11) (.tmp 12) 3 1 8, none⟩,
   ⟨(some 7), .mv (.tmp 13), none⟩])
 (.seq (.seq (.ops [⟨(some 14), .mv (.tmp 0), none⟩,
   ⟨(some 15), .len false (.tmp 14), none⟩,
   ⟨(some 16), .mv (.const (.int .i64 0)), none⟩])
 (.block 0 (.loop [1, 7, 14, 15, 16] b_lontarlaw15_Joins_0)))
 (.seq (.ops [⟨(some 6), .mv (.const (.bool false)), none⟩])
 .ret))))
def F_lontarlaw15_Joins : AFunc := ⟨3, 50, [.tmp 6], k_lontarlaw15_Joins⟩
theorem ok_lontarlaw15_Joins : FOK Try.prog 22 F_lontarlaw15_Joins := FOK.of [[1, 7, 14, 15, 16], [0, 1, 2, 3, 4, 5, 6, 7, 8, 9, 10, 11, 12, 13, 14, 15, 16, 17, 18, 19, 20, 21, 22, 23, 24, 25, 26, 27, 28]] Try.func22 (by kernel_rfl) (by kernel_rfl)

-- (*lontar/table.Table).Join
@[reducible] def i_table_Table__Join : Nat := 23
def k_table_Table__Join : ACode :=
 (.seq (.ops [⟨(some 5), .box (.tmp 2) 41, none⟩,
   ⟨(some 6), .alloc [(.int .i64 0), (.int .i64 0), (.slice none 0 0), (.int .i64 0)] 41, none⟩])
 (.seq (.seq (.ops [⟨(some 7), .faddr (.tmp 5) 3, none⟩,
   ⟨(some 8), .load (.tmp 7) none, none⟩,
   ⟨(some 9), .int .eql (.tmp 8) (.const (.int .i64 0)), none⟩,
   ⟨(some 10), .mv (.tmp 9), none⟩,
   ⟨(some 11), .mv (.tmp 0), some (10, true)⟩,
   ⟨(some 12), .mv (.tmp 1), some (10, true)⟩,
   ⟨(some 13), .faddr (.tmp 5) 2, some (10, true)⟩,
   ⟨(some 14), .load (.tmp 13) none, some (10, true)⟩,
   ⟨(some 15), .call (.func 21) [(.tmp 11), (.tmp 12), (.tmp 14)], some (10, true)⟩,
   ⟨(some 16), .pick (.tmp 10) (.tmp 15) (.const (.bool false)), none⟩])
 (.cond (.tmp 16)
  (.seq (.ops [⟨(some 17), .faddr (.tmp 5) 0, none⟩,
    ⟨(some 18), .load (.tmp 17) none, none⟩,
    ⟨(some 19), .faddr (.tmp 5) 1, none⟩,
    ⟨(some 20), .load (.tmp 19) none, none⟩,
    ⟨(some 21), .build [(.int .i64 0), (.int .i64 0), (.slice none 0 0), (.int .i64 0)] [(0, 1, (.tmp 18)), (1, 1, (.tmp 20)), (3, 1, (.const (.int .i64 3)))], none⟩,
    ⟨none, .store (.tmp 6) (.tmp 21) 4, none⟩])
  .ret)
  .skip))
 (.seq (.ops [⟨(some 22), .load (.tmp 5) (some 4), none⟩,
   ⟨none, .store (.tmp 6) (.tmp 22) 4, none⟩])
 .ret)))
def F_table_Table__Join : AFunc := ⟨3, 23, [.cell 6 (some 4)], k_table_Table__Join⟩
theorem ok_table_Table__Join : FOK Try.prog 23 F_table_Table__Join := FOK.of [] Try.func23 (by kernel_rfl) (by kernel_rfl)

-- lontar/lontarlaw01.Units
@[reducible] def i_lontarlaw01_Units : Nat := 24
/-- lontarlaw01_Units: the body of loop 0 -/
def b_lontarlaw01_Units_0 : ACode :=
 (.seq (.ops [⟨(some 14), .int .lss (.tmp 13) (.tmp 12), none⟩])
 (.seq (.cond (.tmp 14)
  .skip
  (.exit 0))
 (.seq (.block 1 (.seq (.ops [⟨(some 15), .mv (.tmp 13), none⟩,
   ⟨(some 5), .mv (.tmp 15), none⟩])
 (.seq (.draw [⟨(some 16), .mv (.tmp 0), none⟩,
   ⟨(some 17), .mv (.tmp 5), none⟩,
   ⟨(some 18), .iaddr (.tmp 16) (.tmp 17) 1, none⟩,
   ⟨(some 19), .load (.tmp 18) none, none⟩,
   ⟨(some 20), .mv (.tmp 1), none⟩,
   ⟨(some 21), .mv (.tmp 5), none⟩,
   ⟨(some 22), .iaddr (.tmp 20) (.tmp 21) 1, none⟩,
   ⟨(some 23), .load (.tmp 22) none, none⟩,
   ⟨(some 24), .int .neq (.tmp 19) (.tmp 23), none⟩])
 (.cond (.tmp 24)
  (.seq (.ops [⟨(some 4), .mv (.const (.bool false)), none⟩])
  .ret)
  .skip))))
 (.ops [⟨(some 25), .int .add (.tmp 13) (.const (.int .i64 1)), none⟩,
   ⟨(some 13), .mv (.tmp 25), none⟩]))))

def k_lontarlaw01_Units : ACode :=
 (.seq (.ops [⟨(some 4), .mv (.const (.bool false)), none⟩])
 (.seq (.seq (.ops [⟨(some 6), .mv (.tmp 0), none⟩,
   ⟨(some 7), .len false (.tmp 6), none⟩,
   ⟨(some 8), .mv (.tmp 1), none⟩,
   ⟨(some 9), .len false (.tmp 8), none⟩,
   ⟨(some 10), .int .neq (.tmp 7) (.tmp 9), none⟩])
 (.cond (.tmp 10)
  (.seq (.ops [⟨(some 4), .mv (.const (.bool false)), none⟩])
  .ret)
  .skip))
 (.seq (.seq (.ops [⟨(some 11), .mv (.tmp 0), none⟩,
   ⟨(some 12), .len false (.tmp 11), none⟩,
   ⟨(some 13), .mv (.const (.int .i64 0)), none⟩])
 (.block 0 (.loop [0, 1, 12, 13] b_lontarlaw01_Units_0)))
 (.seq (.ops [⟨(some 4), .mv (.const (.bool true)), none⟩])
 .ret))))
def F_lontarlaw01_Units : AFunc := ⟨2, 26, [.tmp 4], k_lontarlaw01_Units⟩
theorem ok_lontarlaw01_Units : FOK Try.prog 24 F_lontarlaw01_Units := FOK.of [[0, 1, 12, 13], [0, 1, 2, 3, 4, 5, 6, 7, 8]] Try.func24 (by kernel_rfl) (by kernel_rfl)

-- (*lontar/table.Table).Decode
@[reducible] def i_table_Table__Decode : Nat := 25
def k_table_Table__Decode : ACode :=
 (.seq (.ops [⟨(some 4), .mv (.const (.slice none 0 0)), none⟩])
 (.seq (.ops [⟨(some 5), .mv (.tmp 0), none⟩,
   ⟨(some 6), .nilChk (.tmp 5), none⟩,
   ⟨(some 7), .faddr (.tmp 6) 2, none⟩,
   ⟨(some 8), .load (.tmp 7) none, none⟩,
   ⟨(some 9), .mv (.tmp 1), none⟩,
   ⟨(some 10), .call (.func 44) [(.tmp 8), (.tmp 9)], none⟩,
   ⟨(some 4), .mv (.tmp 10), none⟩])
 .ret))
def F_table_Table__Decode : AFunc := ⟨2, 11, [.tmp 4], k_table_Table__Decode⟩
theorem ok_table_Table__Decode : FOK Try.prog 25 F_table_Table__Decode := FOK.of [] Try.func25 (by kernel_rfl) (by kernel_rfl)

-- lontar/lontarlaw05.All
@[reducible] def i_lontarlaw05_All : Nat := 26
/-- lontarlaw05_All: the body of loop 0 -/
def b_lontarlaw05_All_0 : ACode :=
 (.seq (.seq (.ops [⟨(some 10), .mv (.tmp 6), none⟩,
   ⟨(some 11), .mv (.tmp 1), none⟩,
   ⟨(some 12), .len false (.tmp 11), none⟩,
   ⟨(some 13), .int .lss (.tmp 10) (.tmp 12), none⟩])
 (.cond (.tmp 13)
  .skip
  (.exit 0)))
 (.block 1 (.seq (.ops [⟨(some 15), .mv (.tmp 0), none⟩,
   ⟨(some 16), .mv (.tmp 1), none⟩,
   ⟨(some 17), .mv (.tmp 6), none⟩,
   ⟨(some 18), .slice (.tmp 16) (some (.tmp 17)) none 1, none⟩,
   ⟨(some 19), .call (.func 47) [(.tmp 15), (.tmp 18)], none⟩,
   ⟨(some 14), .mv (.tmp 19), none⟩,
   ⟨(some 20), .ext (.tmp 14) 0, none⟩,
   ⟨(some 21), .ext (.tmp 14) 1, none⟩,
   ⟨(some 22), .ext (.tmp 14) 2, none⟩,
   ⟨(some 7), .mv (.tmp 20), none⟩,
   ⟨(some 8), .mv (.tmp 21), none⟩,
   ⟨(some 9), .mv (.tmp 22), none⟩])
 (.seq (.seq (.ops [⟨(some 23), .mv (.tmp 7), none⟩,
   ⟨(some 24), .int .lss (.tmp 23) (.const (.int .i64 0)), none⟩])
 (.cond (.tmp 24)
  (.seq (.ops [⟨(some 25), .mv (.tmp 5), none⟩,
    ⟨(some 26), .mv (.tmp 6), none⟩,
    ⟨(some 27), .build [(.int .i64 0), (.int .i64 0), (.slice none 0 0), (.int .i64 0)] [(0, 1, (.tmp 26)), (1, 1, (.const (.int .i64 1))), (3, 1, (.const (.int .i64 3)))], none⟩,
    ⟨(some 28), .bslice 41 1 4 [(.int .i64 0), (.int .i64 0), (.slice none 0 0), (.int .i64 0)] [(0, 4, (.tmp 27))], none⟩,
    ⟨(some 29), .append (.tmp 25) (.tmp 28) 41 4 48, none⟩,
    ⟨(some 5), .mv (.tmp 29), none⟩])
  (.seq (.ops [⟨(some 30), .mv (.tmp 6), none⟩,
    ⟨(some 31), .int .add (.tmp 30) (.const (.int .i64 1)), none⟩,
    ⟨(some 6), .mv (.tmp 31), none⟩])
  (.exit 1)))
  .skip))
 (.seq (.ops [⟨(some 32), .mv (.tmp 5), none⟩,
   ⟨(some 33), .mv (.tmp 6), none⟩,
   ⟨(some 34), .mv (.tmp 8), none⟩,
   ⟨(some 35), .mv (.tmp 0), none⟩,
   ⟨(some 36), .mv (.tmp 7), none⟩,
   ⟨(some 37), .iaddr (.tmp 35) (.tmp 36) 2, none⟩,
   ⟨(some 38), .faddr (.tmp 37) 1, none⟩,
   ⟨(some 39), .load (.tmp 38) none, none⟩,
   ⟨(some 40), .build [(.int .i64 0), (.int .i64 0), (.slice none 0 0), (.int .i64 0)] [(0, 1, (.tmp 33)), (1, 1, (.tmp 34)), (2, 1, (.tmp 39))], none⟩,
   ⟨(some 41), .bslice 41 1 4 [(.int .i64 0), (.int .i64 0), (.slice none 0 0), (.int .i64 0)] [(0, 4, (.tmp 40))], none⟩,
   ⟨(some 42), .append (.tmp 32) (.tmp 41) 41 4 48, none⟩,
   ⟨(some 5), .mv (.tmp 42), none⟩])
 (.ops [⟨(some 43), .mv (.tmp 6), none⟩,
   ⟨(some 44), .mv (.tmp 8), none⟩,
   ⟨(some 45), .int .add (.tmp 43) (.tmp 44), none⟩,
   ⟨(some 6), .mv (.tmp 45), none⟩]))))))

def k_lontarlaw05_All : ACode :=
 (.seq (.ops [⟨(some 4), .mv (.const (.slice none 0 0)), none⟩])
 (.seq (.ops [⟨(some 5), .mv (.const (.slice none 0 0)), none⟩])
 (.seq (.seq (.ops [⟨(some 6), .mv (.const (.int .i64 0)), none⟩])
 (.block 0 (.loop [0, 1, 5, 6] b_lontarlaw05_All_0)))
 (.seq (.ops [⟨(some 46), .mv (.tmp 5), none⟩,
   ⟨(some 4), .mv (.tmp 46), none⟩])
 .ret))))
def F_lontarlaw05_All : AFunc := ⟨2, 47, [.tmp 4], k_lontarlaw05_All⟩
theorem ok_lontarlaw05_All : FOK Try.prog 26 F_lontarlaw05_All := FOK.of [[0, 1, 5, 6]] Try.func26 (by kernel_rfl) (by kernel_rfl)

-- lontar/lontarlaw03.Rules
@[reducible] def i_lontarlaw03_Rules : Nat := 27
/-- lontarlaw03_Rules: the body of loop 0 -/
def b_lontarlaw03_Rules_0 : ACode :=
 (.seq (.ops [⟨(some 14), .int .lss (.tmp 13) (.tmp 12), none⟩])
 (.seq (.cond (.tmp 14)
  .skip
  (.exit 0))
 (.seq (.block 1 (.seq (.ops [⟨(some 15), .iaddr (.tmp 11) (.tmp 13) 5, none⟩,
   ⟨(some 16), .load (.tmp 15) (some 5), none⟩,
   ⟨(some 5), .alloc [(.slice none 0 0), (.slice none 0 0), (.bool false), (.slice none 0 0), (.slice none 0 0)] 76, none⟩,
   ⟨none, .store (.tmp 5) (.tmp 16) 5, none⟩])
 (.seq (.draw [⟨(some 17), .faddr (.tmp 5) 0, none⟩,
   ⟨(some 18), .load (.tmp 17) none, none⟩,
   ⟨(some 20), .faddr (.tmp 5) 1, none⟩,
   ⟨(some 21), .load (.tmp 20) none, none⟩,
   ⟨(some 6), .alloc [(.slice none 0 0), (.slice none 0 0)] 46, none⟩,
   ⟨(some 19), .call (.func 48) [(.tmp 18), (.const (.int .i64 97))], none⟩,
   ⟨(some 22), .call (.func 48) [(.tmp 21), (.const (.int .i64 97))], none⟩,
   ⟨(some 23), .build [(.slice none 0 0), (.slice none 0 0)] [(0, 1, (.tmp 19)), (1, 1, (.tmp 22))], none⟩,
   ⟨none, .store (.tmp 6) (.tmp 23) 2, none⟩])
 (.seq (.seq (.ops [⟨(some 24), .faddr (.tmp 5) 2, none⟩,
   ⟨(some 25), .load (.tmp 24) none, none⟩])
 (.cond (.tmp 25)
  (.ops [⟨(some 26), .faddr (.tmp 5) 3, none⟩,
    ⟨(some 27), .load (.tmp 26) (some 2), none⟩,
    ⟨none, .store (.tmp 6) (.tmp 27) 2, none⟩])
  .skip))
 (.ops [⟨(some 28), .mv (.tmp 3), none⟩,
   ⟨(some 29), .load (.tmp 6) (some 2), none⟩,
   ⟨(some 30), .bslice 46 1 2 [(.slice none 0 0), (.slice none 0 0)] [(0, 2, (.tmp 29))], none⟩,
   ⟨(some 31), .append (.tmp 28) (.tmp 30) 46 2 48, none⟩,
   ⟨(some 3), .mv (.tmp 31), none⟩])))))
 (.ops [⟨(some 32), .int .add (.tmp 13) (.const (.int .i64 1)), none⟩,
   ⟨(some 13), .mv (.tmp 32), none⟩]))))

def k_lontarlaw03_Rules : ACode :=
 (.seq (.ops [⟨(some 2), .mv (.const (.slice none 0 0)), none⟩])
 (.seq (.ops [⟨(some 3), .mv (.const (.slice none 0 0)), none⟩])
 (.seq (.seq (.ops [⟨(some 7), .mv (.tmp 0), none⟩,
   ⟨(some 8), .mv (.tmp 0), none⟩,
   ⟨(some 9), .len false (.tmp 8), none⟩,
   ⟨(some 10), .min2 (.tmp 9) (.const (.int .i64 40)), none⟩,
   ⟨(some 11), .slice (.tmp 7) none (some (.tmp 10)) 5, none⟩,
   ⟨(some 12), .len false (.tmp 11), none⟩,
   ⟨(some 13), .mv (.const (.int .i64 0)), none⟩])
 (.block 0 (.loop [3, 11, 12, 13] b_lontarlaw03_Rules_0)))
 (.seq (.ops [⟨(some 33), .mv (.tmp 3), none⟩,
   ⟨(some 2), .mv (.tmp 33), none⟩])
 .ret))))
def F_lontarlaw03_Rules : AFunc := ⟨1, 34, [.tmp 2], k_lontarlaw03_Rules⟩
theorem ok_lontarlaw03_Rules : FOK Try.prog 27 F_lontarlaw03_Rules := FOK.of [[3, 11, 12, 13], [0, 1, 3, 4, 7, 2, 5, 6, 8]] Try.func27 (by kernel_rfl) (by kernel_rfl)

-- lontar/rule.Check
@[reducible] def i_rule_Check : Nat := 28
/-- rule_Check: the body of loop 0 -/
def b_rule_Check_0 : ACode :=
 (.seq (.ops [⟨(some 9), .int .lss (.tmp 8) (.tmp 7), none⟩])
 (.seq (.cond (.tmp 9)
  .skip
  (.exit 0))
 (.seq (.block 1 (.seq (.ops [⟨(some 10), .mv (.tmp 8), none⟩,
   ⟨(some 11), .iaddr (.tmp 6) (.tmp 8) 2, none⟩,
   ⟨(some 12), .load (.tmp 11) (some 2), none⟩,
   ⟨(some 5), .alloc [(.slice none 0 0), (.slice none 0 0)] 46, none⟩,
   ⟨(some 4), .mv (.tmp 10), none⟩,
   ⟨none, .store (.tmp 5) (.tmp 12) 2, none⟩])
 (.block 2 (.seq (.ops [⟨(some 14), .mv (.tmp 4), none⟩,
   ⟨(some 15), .int .geq (.tmp 14) (.const (.int .i64 512)), none⟩,
   ⟨(some 13), .mv (.tmp 15), none⟩])
 (.cond (.tmp 13)
  (.seq (.ops [⟨(some 16), .mv (.tmp 4), none⟩,
    ⟨(some 2), .mv (.tmp 16), none⟩,
    ⟨(some 3), .mv (.const (.int .i64 7)), none⟩])
  .ret)
  (.seq (.ops [⟨(some 18), .faddr (.tmp 5) 0, none⟩,
    ⟨(some 19), .load (.tmp 18) none, none⟩,
    ⟨(some 20), .call (.func 49) [(.tmp 19)], none⟩,
    ⟨(some 21), .not (.tmp 20), none⟩,
    ⟨(some 22), .mv (.tmp 21), none⟩,
    ⟨(some 23), .faddr (.tmp 5) 1, some (22, false)⟩,
    ⟨(some 24), .load (.tmp 23) none, some (22, false)⟩,
    ⟨(some 25), .call (.func 49) [(.tmp 24)], some (22, false)⟩,
    ⟨(some 26), .not (.tmp 25), some (22, false)⟩,
    ⟨(some 27), .pick (.tmp 22) (.const (.bool true)) (.tmp 26), none⟩,
    ⟨(some 17), .mv (.tmp 27), none⟩])
  (.cond (.tmp 17)
   (.seq (.ops [⟨(some 28), .mv (.tmp 4), none⟩,
     ⟨(some 2), .mv (.tmp 28), none⟩,
     ⟨(some 3), .mv (.const (.int .i64 9)), none⟩])
   .ret)
   (.seq (.draw [⟨(some 30), .mv (.tmp 0), none⟩,
     ⟨(some 31), .mv (.tmp 4), none⟩,
     ⟨(some 32), .slice (.tmp 30) none (some (.tmp 31)) 2, none⟩,
     ⟨(some 33), .faddr (.tmp 5) 0, none⟩,
     ⟨(some 34), .load (.tmp 33) none, none⟩,
     ⟨(some 35), .call (.func 37) [(.tmp 32), (.tmp 34)], none⟩,
     ⟨(some 36), .int .geq (.tmp 35) (.const (.int .i64 0)), none⟩,
     ⟨(some 29), .mv (.tmp 36), none⟩])
   (.cond (.tmp 29)
    (.seq (.ops [⟨(some 37), .mv (.tmp 4), none⟩,
      ⟨(some 2), .mv (.tmp 37), none⟩,
      ⟨(some 3), .mv (.const (.int .i64 8)), none⟩])
    .ret)
    .skip)))))))))
 (.ops [⟨(some 38), .int .add (.tmp 8) (.const (.int .i64 1)), none⟩,
   ⟨(some 8), .mv (.tmp 38), none⟩]))))

def k_rule_Check : ACode :=
 (.seq (.ops [⟨(some 2), .mv (.const (.int .i64 0)), none⟩,
   ⟨(some 3), .mv (.const (.int .i64 0)), none⟩])
 (.seq (.seq (.ops [⟨(some 6), .mv (.tmp 0), none⟩,
   ⟨(some 7), .len false (.tmp 6), none⟩,
   ⟨(some 8), .mv (.const (.int .i64 0)), none⟩])
 (.block 0 (.loop [0, 6, 7, 8] b_rule_Check_0)))
 (.seq (.ops [⟨(some 2), .mv (.const (.int .i64 (-1))), none⟩,
   ⟨(some 3), .mv (.const (.int .i64 0)), none⟩])
 .ret)))
def F_rule_Check : AFunc := ⟨1, 39, [.tmp 2, .tmp 3], k_rule_Check⟩
theorem ok_rule_Check : FOK Try.prog 28 F_rule_Check := FOK.of [[0, 6, 7, 8], [0, 1, 2, 3, 4, 5, 6, 7]] Try.func28 (by kernel_rfl) (by kernel_rfl)

-- lontar/lontarlaw15.Closed
@[reducible] def i_lontarlaw15_Closed : Nat := 29
/-- lontarlaw15_Closed: the body of loop 0 -/
def b_lontarlaw15_Closed_0 : ACode :=
 (.seq (.ops [⟨(some 26), .int .lss (.tmp 25) (.tmp 24), none⟩])
 (.seq (.cond (.tmp 26)
  .skip
  (.exit 4))
 (.seq (.block 5 (.seq (.ops [⟨(some 27), .iaddr (.tmp 23) (.tmp 25) 2, none⟩,
   ⟨(some 28), .load (.tmp 27) (some 2), none⟩,
   ⟨(some 9), .alloc [(.slice none 0 0), (.slice none 0 0)] 46, none⟩,
   ⟨none, .store (.tmp 9) (.tmp 28) 2, none⟩])
 (.seq (.draw [⟨(some 29), .mv (.tmp 6), none⟩,
   ⟨(some 30), .mv (.tmp 29), none⟩,
   ⟨(some 31), .faddr (.tmp 9) 0, some (30, false)⟩,
   ⟨(some 32), .load (.tmp 31) none, some (30, false)⟩,
   ⟨(some 33), .faddr (.tmp 4) 0, some (30, false)⟩,
   ⟨(some 34), .load (.tmp 33) none, some (30, false)⟩,
   ⟨(some 35), .mv (.tmp 5), some (30, false)⟩,
   ⟨(some 36), .slice (.tmp 34) none (some (.tmp 35)) 1, some (30, false)⟩,
   ⟨(some 37), .call (.func 24) [(.tmp 32), (.tmp 36)], some (30, false)⟩,
   ⟨(some 38), .pick (.tmp 30) (.const (.bool true)) (.tmp 37), none⟩,
   ⟨(some 6), .mv (.tmp 38), none⟩])
 (.draw [⟨(some 39), .mv (.tmp 7), none⟩,
   ⟨(some 40), .mv (.tmp 39), none⟩,
   ⟨(some 41), .faddr (.tmp 9) 0, some (40, false)⟩,
   ⟨(some 42), .load (.tmp 41) none, some (40, false)⟩,
   ⟨(some 43), .faddr (.tmp 9) 0, some (40, false)⟩,
   ⟨(some 44), .load (.tmp 43) none, some (40, false)⟩,
   ⟨(some 45), .len false (.tmp 44), some (40, false)⟩,
   ⟨(some 46), .int .sub (.tmp 45) (.const (.int .i64 1)), some (40, false)⟩,
   ⟨(some 47), .iaddr (.tmp 42) (.tmp 46) 1, some (40, false)⟩,
   ⟨(some 48), .load (.tmp 47) none, some (40, false)⟩,
   ⟨(some 49), .faddr (.tmp 4) 0, some (40, false)⟩,
   ⟨(some 50), .load (.tmp 49) none, some (40, false)⟩,
   ⟨(some 51), .iaddr (.tmp 50) (.const (.int .i64 0)) 1, some (40, false)⟩,
   ⟨(some 52), .load (.tmp 51) none, some (40, false)⟩,
   ⟨(some 53), .int .eql (.tmp 48) (.tmp 52), some (40, false)⟩,
   ⟨(some 54), .pick (.tmp 40) (.const (.bool true)) (.tmp 53), none⟩,
   ⟨(some 7), .mv (.tmp 54), none⟩]))))
 (.ops [⟨(some 55), .int .add (.tmp 25) (.const (.int .i64 1)), none⟩,
   ⟨(some 25), .mv (.tmp 55), none⟩]))))

/-- lontarlaw15_Closed: the body of loop 1 -/
def b_lontarlaw15_Closed_1 : ACode :=
 (.seq (.seq (.ops [⟨(some 16), .mv (.tmp 5), none⟩,
   ⟨(some 17), .faddr (.tmp 4) 0, none⟩,
   ⟨(some 18), .load (.tmp 17) none, none⟩,
   ⟨(some 19), .len false (.tmp 18), none⟩,
   ⟨(some 20), .int .lss (.tmp 16) (.tmp 19), none⟩])
 (.cond (.tmp 20)
  .skip
  (.exit 2)))
 (.seq (.block 3 (.seq (.ops [⟨(some 6), .mv (.const (.bool false)), none⟩,
   ⟨(some 7), .mv (.const (.bool false)), none⟩])
 (.seq (.seq (.ops [⟨(some 23), .mv (.tmp 0), none⟩,
   ⟨(some 24), .len false (.tmp 23), none⟩,
   ⟨(some 25), .mv (.const (.int .i64 0)), none⟩])
 (.block 4 (.loop [0, 4, 5, 6, 7, 10, 11, 12, 23, 24, 25] b_lontarlaw15_Closed_0)))
 (.seq (.ops [⟨(some 56), .mv (.tmp 6), none⟩,
   ⟨(some 57), .not (.tmp 56), none⟩,
   ⟨(some 58), .mv (.tmp 57), none⟩,
   ⟨(some 59), .mv (.tmp 5), some (58, true)⟩,
   ⟨(some 60), .int .gtr (.tmp 59) (.const (.int .i64 1)), some (58, true)⟩,
   ⟨(some 61), .mv (.tmp 60), some (58, true)⟩,
   ⟨(some 62), .mv (.tmp 7), some (61, false)⟩,
   ⟨(some 63), .pick (.tmp 61) (.const (.bool true)) (.tmp 62), some (58, true)⟩,
   ⟨(some 64), .pick (.tmp 58) (.tmp 63) (.const (.bool false)), none⟩])
 (.cond (.tmp 64)
  (.seq (.ops [⟨(some 2), .mv (.const (.bool false)), none⟩])
  .ret)
  .skip)))))
 (.ops [⟨(some 21), .mv (.tmp 5), none⟩,
   ⟨(some 22), .int .add (.tmp 21) (.const (.int .i64 1)), none⟩,
   ⟨(some 5), .mv (.tmp 22), none⟩])))

/-- lontarlaw15_Closed: the body of loop 2 -/
def b_lontarlaw15_Closed_2 : ACode :=
 (.seq (.ops [⟨(some 13), .int .lss (.tmp 12) (.tmp 11), none⟩])
 (.seq (.cond (.tmp 13)
  .skip
  (.exit 0))
 (.seq (.block 1 (.seq (.ops [⟨(some 14), .iaddr (.tmp 10) (.tmp 12) 2, none⟩,
   ⟨(some 15), .load (.tmp 14) (some 2), none⟩,
   ⟨(some 4), .alloc [(.slice none 0 0), (.slice none 0 0)] 46, none⟩,
   ⟨none, .store (.tmp 4) (.tmp 15) 2, none⟩])
 (.seq (.ops [⟨(some 5), .mv (.const (.int .i64 1)), none⟩])
 (.block 2 (.loop [0, 4, 5, 10, 11, 12] b_lontarlaw15_Closed_1)))))
 (.ops [⟨(some 65), .int .add (.tmp 12) (.const (.int .i64 1)), none⟩,
   ⟨(some 12), .mv (.tmp 65), none⟩]))))

def k_lontarlaw15_Closed : ACode :=
 (.seq (.ops [⟨(some 2), .mv (.const (.bool false)), none⟩])
 (.seq (.seq (.ops [⟨(some 10), .mv (.tmp 0), none⟩,
   ⟨(some 11), .len false (.tmp 10), none⟩,
   ⟨(some 12), .mv (.const (.int .i64 0)), none⟩])
 (.block 0 (.loop [0, 10, 11, 12] b_lontarlaw15_Closed_2)))
 (.seq (.ops [⟨(some 2), .mv (.const (.bool true)), none⟩])
 .ret)))
def F_lontarlaw15_Closed : AFunc := ⟨1, 66, [.tmp 2], k_lontarlaw15_Closed⟩
theorem ok_lontarlaw15_Closed : FOK Try.prog 29 F_lontarlaw15_Closed := FOK.of [[0, 10, 11, 12], [0, 4, 5, 10, 11, 12], [0, 4, 5, 6, 7, 10, 11, 12, 23, 24, 25], [0, 1, 2, 3, 4, 5, 6, 7, 8, 9, 10], [0, 1, 2, 3, 4, 5, 6, 7, 8, 9, 10, 11, 12, 13, 14, 15, 16]] Try.func29 (by kernel_rfl) (by kernel_rfl)

-- (*lontar/table.Table).Longest
@[reducible] def i_table_Table__Longest : Nat := 30
def k_table_Table__Longest : ACode :=
 (.seq (.ops [⟨(some 2), .mv (.const (.int .i64 0)), none⟩,
   ⟨(some 3), .mv (.const (.int .i64 0)), none⟩])
 (.seq (.draw [⟨(some 4), .mv (.tmp 0), none⟩,
   ⟨(some 5), .nilChk (.tmp 4), none⟩,
   ⟨(some 6), .faddr (.tmp 5) 0, none⟩,
   ⟨(some 7), .load (.tmp 6) none, none⟩,
   ⟨(some 8), .mv (.tmp 0), none⟩,
   ⟨(some 9), .nilChk (.tmp 8), none⟩,
   ⟨(some 10), .faddr (.tmp 9) 1, none⟩,
   ⟨(some 11), .load (.tmp 10) none, none⟩,
   ⟨(some 2), .mv (.tmp 7), none⟩,
   ⟨(some 3), .mv (.tmp 11), none⟩])
 .ret))
def F_table_Table__Longest : AFunc := ⟨1, 12, [.tmp 2, .tmp 3], k_table_Table__Longest⟩
theorem ok_table_Table__Longest : FOK Try.prog 30 F_table_Table__Longest := FOK.of [[0, 1, 2, 3, 4, 5, 6, 7, 8, 9]] Try.func30 (by kernel_rfl) (by kernel_rfl)

-- lontar/rule.Longest
@[reducible] def i_rule_Longest : Nat := 31
/-- rule_Longest: the body of loop 0 -/
def b_rule_Longest_0 : ACode :=
 (.seq (.ops [⟨(some 9), .int .lss (.tmp 8) (.tmp 7), none⟩])
 (.seq (.cond (.tmp 9)
  .skip
  (.exit 0))
 (.seq (.block 1 (.seq (.ops [⟨(some 10), .iaddr (.tmp 6) (.tmp 8) 2, none⟩,
   ⟨(some 11), .load (.tmp 10) (some 2), none⟩,
   ⟨(some 5), .alloc [(.slice none 0 0), (.slice none 0 0)] 46, none⟩,
   ⟨none, .store (.tmp 5) (.tmp 11) 2, none⟩])
 (.ops [⟨(some 12), .mv (.tmp 3), none⟩,
   ⟨(some 13), .faddr (.tmp 5) 0, none⟩,
   ⟨(some 14), .load (.tmp 13) none, none⟩,
   ⟨(some 15), .len false (.tmp 14), none⟩,
   ⟨(some 16), .max2 (.tmp 12) (.tmp 15), none⟩,
   ⟨(some 3), .mv (.tmp 16), none⟩])))
 (.ops [⟨(some 17), .int .add (.tmp 8) (.const (.int .i64 1)), none⟩,
   ⟨(some 8), .mv (.tmp 17), none⟩]))))

def k_rule_Longest : ACode :=
 (.seq (.ops [⟨(some 2), .mv (.const (.int .i64 0)), none⟩])
 (.seq (.ops [⟨(some 3), .mv (.const (.int .i64 0)), none⟩])
 (.seq (.seq (.ops [⟨(some 6), .mv (.tmp 0), none⟩,
   ⟨(some 7), .len false (.tmp 6), none⟩,
   ⟨(some 8), .mv (.const (.int .i64 0)), none⟩])
 (.block 0 (.loop [3, 6, 7, 8] b_rule_Longest_0)))
 (.seq (.ops [⟨(some 18), .mv (.tmp 3), none⟩,
   ⟨(some 2), .mv (.tmp 18), none⟩])
 .ret))))
def F_rule_Longest : AFunc := ⟨1, 19, [.tmp 2], k_rule_Longest⟩
theorem ok_rule_Longest : FOK Try.prog 31 F_rule_Longest := FOK.of [[3, 6, 7, 8]] Try.func31 (by kernel_rfl) (by kernel_rfl)

-- lontar/rule.Turn
@[reducible] def i_rule_Turn : Nat := 32
/-- rule_Turn: the body of loop 0 -/
def b_rule_Turn_0 : ACode :=
 (.seq (.ops [⟨(some 9), .int .lss (.tmp 8) (.tmp 7), none⟩])
 (.seq (.cond (.tmp 9)
  .skip
  (.exit 0))
 (.seq (.block 1 (.seq (.ops [⟨(some 10), .iaddr (.tmp 6) (.tmp 8) 2, none⟩,
   ⟨(some 11), .load (.tmp 10) (some 2), none⟩,
   ⟨(some 5), .alloc [(.slice none 0 0), (.slice none 0 0)] 46, none⟩,
   ⟨none, .store (.tmp 5) (.tmp 11) 2, none⟩])
 (.seq (.ops [⟨(some 12), .mv (.tmp 3), none⟩,
   ⟨(some 13), .faddr (.tmp 5) 1, none⟩,
   ⟨(some 14), .load (.tmp 13) none, none⟩,
   ⟨(some 15), .call (.func 37) [(.tmp 12), (.tmp 14)], none⟩,
   ⟨(some 16), .int .lss (.tmp 15) (.const (.int .i64 0)), none⟩])
 (.cond (.tmp 16)
  (.draw [⟨(some 17), .mv (.tmp 3), none⟩,
    ⟨(some 18), .faddr (.tmp 5) 1, none⟩,
    ⟨(some 19), .load (.tmp 18) none, none⟩,
    ⟨(some 21), .faddr (.tmp 5) 0, none⟩,
    ⟨(some 22), .load (.tmp 21) none, none⟩,
    ⟨(some 20), .call (.func 46) [(.tmp 19)], none⟩,
    ⟨(some 23), .call (.func 46) [(.tmp 22)], none⟩,
    ⟨(some 24), .build [(.slice none 0 0), (.slice none 0 0)] [(0, 1, (.tmp 20)), (1, 1, (.tmp 23))], none⟩,
    ⟨(some 25), .bslice 46 1 2 [(.slice none 0 0), (.slice none 0 0)] [(0, 2, (.tmp 24))], none⟩,
    ⟨(some 26), .append (.tmp 17) (.tmp 25) 46 2 48, none⟩,
    ⟨(some 3), .mv (.tmp 26), none⟩])
  .skip))))
 (.ops [⟨(some 27), .int .add (.tmp 8) (.const (.int .i64 1)), none⟩,
   ⟨(some 8), .mv (.tmp 27), none⟩]))))

def k_rule_Turn : ACode :=
 (.seq (.ops [⟨(some 2), .mv (.const (.slice none 0 0)), none⟩])
 (.seq (.ops [⟨(some 3), .mv (.const (.slice none 0 0)), none⟩])
 (.seq (.seq (.ops [⟨(some 6), .mv (.tmp 0), none⟩,
   ⟨(some 7), .len false (.tmp 6), none⟩,
   ⟨(some 8), .mv (.const (.int .i64 0)), none⟩])
 (.block 0 (.loop [3, 6, 7, 8] b_rule_Turn_0)))
 (.seq (.ops [⟨(some 28), .mv (.tmp 3), none⟩,
   ⟨(some 2), .mv (.tmp 28), none⟩])
 .ret))))
def F_rule_Turn : AFunc := ⟨1, 29, [.tmp 2], k_rule_Turn⟩
theorem ok_rule_Turn : FOK Try.prog 32 F_rule_Turn := FOK.of [[3, 6, 7, 8], [0, 1, 2, 4, 5, 3, 6, 7, 8, 9, 10]] Try.func32 (by kernel_rfl) (by kernel_rfl)

-- (*lontar/table.Table).Read
@[reducible] def i_table_Table__Read : Nat := 33
def k_table_Table__Read : ACode :=
 (.seq (.ops [⟨(some 2), .mv (.const (.pointer none)), none⟩])
 (.seq (.ops [⟨(some 3), .mv (.tmp 0), none⟩,
   ⟨(some 4), .nilChk (.tmp 3), none⟩,
   ⟨(some 5), .faddr (.tmp 4) 2, none⟩,
   ⟨(some 6), .load (.tmp 5) none, none⟩,
   ⟨(some 2), .mv (.tmp 6), none⟩])
 .ret))
def F_table_Table__Read : AFunc := ⟨1, 7, [.tmp 2], k_table_Table__Read⟩
theorem ok_table_Table__Read : FOK Try.prog 33 F_table_Table__Read := FOK.of [] Try.func33 (by kernel_rfl) (by kernel_rfl)

-- (*lontar/table.Table).Write
@[reducible] def i_table_Table__Write : Nat := 34
def k_table_Table__Write : ACode :=
 (.seq (.ops [⟨(some 2), .mv (.const (.pointer none)), none⟩])
 (.seq (.ops [⟨(some 3), .mv (.tmp 0), none⟩,
   ⟨(some 4), .nilChk (.tmp 3), none⟩,
   ⟨(some 5), .faddr (.tmp 4) 3, none⟩,
   ⟨(some 6), .load (.tmp 5) none, none⟩,
   ⟨(some 2), .mv (.tmp 6), none⟩])
 .ret))
def F_table_Table__Write : AFunc := ⟨1, 7, [.tmp 2], k_table_Table__Write⟩
theorem ok_table_Table__Write : FOK Try.prog 34 F_table_Table__Write := FOK.of [] Try.func34 (by kernel_rfl) (by kernel_rfl)

-- lontar/lontarlaw17.awake
@[reducible] def i_lontarlaw17_awake : Nat := 35
def k_lontarlaw17_awake : ACode :=
 (.seq (.ops [⟨(some 0), .mv (.const (.bool false)), none⟩])
 (.seq (.ops [⟨(some 7), .call (.func 36) [], none⟩,
   ⟨(some 1), .mv (.tmp 7), none⟩])
 (.seq (.ops [⟨(some 8), .mv (.tmp 1), none⟩,
   ⟨(some 9), .bslice 3 3 1 [(.int .i64 0)] [(0, 1, (.const (.int .i64 166))), (1, 1, (.const (.int .i64 176))), (2, 1, (.const (.int .i64 170)))], none⟩,
   ⟨(some 10), .call (.func 37) [(.tmp 8), (.tmp 9)], none⟩,
   ⟨(some 2), .mv (.tmp 10), none⟩])
 (.seq (.ops [⟨(some 12), .call (.func 50) [(.const (.int .i64 21))], none⟩,
   ⟨(some 11), .mv (.tmp 12), none⟩,
   ⟨(some 13), .ext (.tmp 11) 0, none⟩,
   ⟨(some 14), .ext (.tmp 11) 1, none⟩,
   ⟨(some 3), .mv (.tmp 13), none⟩,
   ⟨(some 4), .mv (.tmp 14), none⟩])
 (.seq (.ops [⟨(some 16), .call (.func 50) [(.const (.int .i64 22))], none⟩,
   ⟨(some 15), .mv (.tmp 16), none⟩,
   ⟨(some 17), .ext (.tmp 15) 0, none⟩,
   ⟨(some 18), .ext (.tmp 15) 1, none⟩,
   ⟨(some 5), .mv (.tmp 17), none⟩,
   ⟨(some 6), .mv (.tmp 18), none⟩])
 (.seq (.ops [⟨(some 19), .mv (.tmp 1), none⟩,
   ⟨(some 20), .len false (.tmp 19), none⟩,
   ⟨(some 21), .int .eql (.tmp 20) (.const (.int .i64 327)), none⟩,
   ⟨(some 22), .mv (.tmp 21), none⟩,
   ⟨(some 23), .mv (.tmp 2), some (22, true)⟩,
   ⟨(some 24), .int .geq (.tmp 23) (.const (.int .i64 0)), some (22, true)⟩,
   ⟨(some 25), .pick (.tmp 22) (.tmp 24) (.const (.bool false)), none⟩,
   ⟨(some 26), .mv (.tmp 25), none⟩,
   ⟨(some 27), .mv (.tmp 1), some (26, true)⟩,
   ⟨(some 28), .mv (.tmp 2), some (26, true)⟩,
   ⟨(some 29), .iaddr (.tmp 27) (.tmp 28) 2, some (26, true)⟩,
   ⟨(some 30), .faddr (.tmp 29) 1, some (26, true)⟩,
   ⟨(some 31), .load (.tmp 30) none, some (26, true)⟩,
   ⟨(some 32), .bslice 3 2 1 [(.int .i64 0)] [(0, 1, (.const (.int .i64 2965))), (1, 1, (.const (.int .i64 3018)))], some (26, true)⟩,
   ⟨(some 33), .call (.func 24) [(.tmp 31), (.tmp 32)], some (26, true)⟩,
   ⟨(some 34), .pick (.tmp 26) (.tmp 33) (.const (.bool false)), none⟩,
   ⟨(some 35), .mv (.tmp 34), none⟩,
   ⟨(some 36), .mv (.tmp 4), some (35, true)⟩,
   ⟨(some 37), .pick (.tmp 35) (.tmp 36) (.const (.bool false)), none⟩,
   ⟨(some 38), .mv (.tmp 37), none⟩,
   ⟨(some 39), .mv (.tmp 3), some (38, true)⟩,
   ⟨(some 40), .int .eql (.tmp 39) (.const (.int .i64 3001)), some (38, true)⟩,
   ⟨(some 41), .pick (.tmp 38) (.tmp 40) (.const (.bool false)), none⟩,
   ⟨(some 42), .mv (.tmp 41), none⟩,
   ⟨(some 43), .mv (.tmp 6), some (42, true)⟩,
   ⟨(some 44), .not (.tmp 43), some (42, true)⟩,
   ⟨(some 45), .pick (.tmp 42) (.tmp 44) (.const (.bool false)), none⟩,
   ⟨(some 46), .mv (.tmp 45), none⟩,
   ⟨(some 47), .call (.func 51) [], some (46, true)⟩,
   ⟨(some 48), .int .eql (.tmp 47) (.const (.int .i64 22)), some (46, true)⟩,
   ⟨(some 49), .pick (.tmp 46) (.tmp 48) (.const (.bool false)), none⟩,
   ⟨(some 0), .mv (.tmp 49), none⟩])
 .ret))))))
def F_lontarlaw17_awake : AFunc := ⟨0, 50, [.tmp 0], k_lontarlaw17_awake⟩
theorem ok_lontarlaw17_awake : FOK Try.prog 35 F_lontarlaw17_awake := FOK.of [] Try.func35 (by kernel_rfl) (by kernel_rfl)

-- lontar/tamil.Rules
@[reducible] def i_tamil_Rules : Nat := 36
/-- tamil_Rules: the body of loop 0 -/
def b_tamil_Rules_0 : ACode :=
 (.seq (.ops [⟨(some 11), .int .lss (.tmp 10) (.const (.int .i64 128)), none⟩])
 (.seq (.cond (.tmp 11)
  .skip
  (.exit 0))
 (.seq (.block 1 (.seq (.ops [⟨(some 12), .mv (.tmp 10), none⟩,
   ⟨(some 2), .mv (.tmp 12), none⟩])
 (.ops [⟨(some 13), .mv (.tmp 1), none⟩,
   ⟨(some 14), .mv (.tmp 2), none⟩,
   ⟨(some 15), .bslice 3 1 1 [(.int .i64 0)] [(0, 1, (.tmp 14))], none⟩,
   ⟨(some 16), .mv (.tmp 2), none⟩,
   ⟨(some 17), .bslice 3 1 1 [(.int .i64 0)] [(0, 1, (.tmp 16))], none⟩,
   ⟨(some 18), .call (.func 52) [(.tmp 15), (.tmp 17)], none⟩,
   ⟨(some 19), .bslice 46 1 2 [(.slice none 0 0), (.slice none 0 0)] [(0, 2, (.tmp 18))], none⟩,
   ⟨(some 20), .append (.tmp 13) (.tmp 19) 46 2 48, none⟩,
   ⟨(some 1), .mv (.tmp 20), none⟩])))
 (.ops [⟨(some 21), .int .add (.tmp 10) (.const (.int .i64 1)), none⟩,
   ⟨(some 10), .mv (.tmp 21), none⟩]))))

/-- tamil_Rules: the body of loop 1 -/
def b_tamil_Rules_1 : ACode :=
 (.seq (.ops [⟨(some 25), .int .lss (.tmp 24) (.tmp 23), none⟩])
 (.seq (.cond (.tmp 25)
  .skip
  (.exit 2))
 (.seq (.block 3 (.seq (.ops [⟨(some 26), .mv (.tmp 24), none⟩,
   ⟨(some 27), .iaddr (.tmp 22) (.tmp 24) 1, none⟩,
   ⟨(some 28), .load (.tmp 27) none, none⟩,
   ⟨(some 3), .mv (.tmp 26), none⟩,
   ⟨(some 4), .mv (.tmp 28), none⟩])
 (.ops [⟨(some 29), .mv (.tmp 1), none⟩,
   ⟨(some 30), .mv (.tmp 3), none⟩,
   ⟨(some 31), .int .add (.const (.int .i64 145)) (.tmp 30), none⟩,
   ⟨(some 32), .bslice 3 1 1 [(.int .i64 0)] [(0, 1, (.tmp 31))], none⟩,
   ⟨(some 33), .mv (.tmp 4), none⟩,
   ⟨(some 34), .bslice 3 1 1 [(.int .i64 0)] [(0, 1, (.tmp 33))], none⟩,
   ⟨(some 35), .call (.func 52) [(.tmp 32), (.tmp 34)], none⟩,
   ⟨(some 36), .bslice 46 1 2 [(.slice none 0 0), (.slice none 0 0)] [(0, 2, (.tmp 35))], none⟩,
   ⟨(some 37), .append (.tmp 29) (.tmp 36) 46 2 48, none⟩,
   ⟨(some 1), .mv (.tmp 37), none⟩])))
 (.ops [⟨(some 38), .int .add (.tmp 24) (.const (.int .i64 1)), none⟩,
   ⟨(some 24), .mv (.tmp 38), none⟩]))))

/-- tamil_Rules: the body of loop 2 -/
def b_tamil_Rules_2 : ACode :=
 (.seq (.ops [⟨(some 52), .int .lss (.tmp 51) (.tmp 50), none⟩])
 (.seq (.cond (.tmp 52)
  .skip
  (.exit 4))
 (.seq (.block 5 (.seq (.ops [⟨(some 53), .iaddr (.tmp 49) (.tmp 51) 2, none⟩,
   ⟨(some 54), .load (.tmp 53) (some 2), none⟩,
   ⟨(some 6), .alloc [(.int .i64 0), (.int .i64 0)] 83, none⟩,
   ⟨none, .store (.tmp 6) (.tmp 54) 2, none⟩])
 (.ops [⟨(some 55), .mv (.tmp 1), none⟩,
   ⟨(some 56), .aaddr (.tmp 6) (.const (.int .i64 0)) 2 1, none⟩,
   ⟨(some 57), .load (.tmp 56) none, none⟩,
   ⟨(some 58), .bslice 3 1 1 [(.int .i64 0)] [(0, 1, (.tmp 57))], none⟩,
   ⟨(some 59), .aaddr (.tmp 6) (.const (.int .i64 1)) 2 1, none⟩,
   ⟨(some 60), .load (.tmp 59) none, none⟩,
   ⟨(some 61), .bslice 3 1 1 [(.int .i64 0)] [(0, 1, (.tmp 60))], none⟩,
   ⟨(some 62), .call (.func 52) [(.tmp 58), (.tmp 61)], none⟩,
   ⟨(some 63), .bslice 46 1 2 [(.slice none 0 0), (.slice none 0 0)] [(0, 2, (.tmp 62))], none⟩,
   ⟨(some 64), .append (.tmp 55) (.tmp 63) 46 2 48, none⟩,
   ⟨(some 1), .mv (.tmp 64), none⟩])))
 (.ops [⟨(some 65), .int .add (.tmp 51) (.const (.int .i64 1)), none⟩,
   ⟨(some 51), .mv (.tmp 65), none⟩]))))

/-- tamil_Rules: the body of loop 3 -/
def b_tamil_Rules_3 : ACode :=
 (.seq (.ops [⟨(some 69), .int .lss (.tmp 68) (.tmp 67), none⟩])
 (.seq (.cond (.tmp 69)
  .skip
  (.exit 6))
 (.seq (.block 7 (.seq (.ops [⟨(some 70), .mv (.tmp 68), none⟩,
   ⟨(some 71), .iaddr (.tmp 66) (.tmp 68) 1, none⟩,
   ⟨(some 72), .load (.tmp 71) none, none⟩,
   ⟨(some 7), .mv (.tmp 70), none⟩,
   ⟨(some 8), .mv (.tmp 72), none⟩])
 (.seq (.ops [⟨(some 73), .mv (.tmp 7), none⟩,
   ⟨(some 74), .int .add (.const (.int .i64 176)) (.tmp 73), none⟩,
   ⟨(some 9), .mv (.tmp 74), none⟩])
 (.ops [⟨(some 75), .mv (.tmp 1), none⟩,
   ⟨(some 76), .mv (.tmp 9), none⟩,
   ⟨(some 77), .bslice 3 1 1 [(.int .i64 0)] [(0, 1, (.tmp 76))], none⟩,
   ⟨(some 78), .mv (.tmp 8), none⟩,
   ⟨(some 79), .bslice 3 1 1 [(.int .i64 0)] [(0, 1, (.tmp 78))], none⟩,
   ⟨(some 80), .call (.func 52) [(.tmp 77), (.tmp 79)], none⟩,
   ⟨(some 81), .mv (.tmp 7), none⟩,
   ⟨(some 82), .int .add (.const (.int .i64 208)) (.tmp 81), none⟩,
   ⟨(some 83), .bslice 3 1 1 [(.int .i64 0)] [(0, 1, (.tmp 82))], none⟩,
   ⟨(some 84), .mv (.tmp 8), none⟩,
   ⟨(some 85), .bslice 3 2 1 [(.int .i64 0)] [(0, 1, (.tmp 84)), (1, 1, (.const (.int .i64 3021)))], none⟩,
   ⟨(some 86), .call (.func 52) [(.tmp 83), (.tmp 85)], none⟩,
   ⟨(some 87), .mv (.tmp 9), none⟩,
   ⟨(some 88), .bslice 3 2 1 [(.int .i64 0)] [(0, 1, (.const (.int .i64 166))), (1, 1, (.tmp 87))], none⟩,
   ⟨(some 89), .mv (.tmp 8), none⟩,
   ⟨(some 90), .bslice 3 2 1 [(.int .i64 0)] [(0, 1, (.tmp 89)), (1, 1, (.const (.int .i64 3014)))], none⟩,
   ⟨(some 91), .call (.func 52) [(.tmp 88), (.tmp 90)], none⟩,
   ⟨(some 92), .mv (.tmp 9), none⟩,
   ⟨(some 93), .bslice 3 2 1 [(.int .i64 0)] [(0, 1, (.const (.int .i64 167))), (1, 1, (.tmp 92))], none⟩,
   ⟨(some 94), .mv (.tmp 8), none⟩,
   ⟨(some 95), .bslice 3 2 1 [(.int .i64 0)] [(0, 1, (.tmp 94)), (1, 1, (.const (.int .i64 3015)))], none⟩,
   ⟨(some 96), .call (.func 52) [(.tmp 93), (.tmp 95)], none⟩,
   ⟨(some 97), .mv (.tmp 9), none⟩,
   ⟨(some 98), .bslice 3 2 1 [(.int .i64 0)] [(0, 1, (.const (.int .i64 168))), (1, 1, (.tmp 97))], none⟩,
   ⟨(some 99), .mv (.tmp 8), none⟩,
   ⟨(some 100), .bslice 3 2 1 [(.int .i64 0)] [(0, 1, (.tmp 99)), (1, 1, (.const (.int .i64 3016)))], none⟩,
   ⟨(some 101), .call (.func 52) [(.tmp 98), (.tmp 100)], none⟩,
   ⟨(some 102), .mv (.tmp 9), none⟩,
   ⟨(some 103), .bslice 3 3 1 [(.int .i64 0)] [(0, 1, (.const (.int .i64 166))), (1, 1, (.tmp 102)), (2, 1, (.const (.int .i64 170)))], none⟩,
   ⟨(some 104), .mv (.tmp 8), none⟩,
   ⟨(some 105), .bslice 3 2 1 [(.int .i64 0)] [(0, 1, (.tmp 104)), (1, 1, (.const (.int .i64 3018)))], none⟩,
   ⟨(some 106), .call (.func 52) [(.tmp 103), (.tmp 105)], none⟩,
   ⟨(some 107), .mv (.tmp 9), none⟩,
   ⟨(some 108), .bslice 3 3 1 [(.int .i64 0)] [(0, 1, (.const (.int .i64 167))), (1, 1, (.tmp 107)), (2, 1, (.const (.int .i64 170)))], none⟩,
   ⟨(some 109), .mv (.tmp 8), none⟩,
   ⟨(some 110), .bslice 3 2 1 [(.int .i64 0)] [(0, 1, (.tmp 109)), (1, 1, (.const (.int .i64 3019)))], none⟩,
   ⟨(some 111), .call (.func 52) [(.tmp 108), (.tmp 110)], none⟩,
   ⟨(some 112), .mv (.tmp 9), none⟩,
   ⟨(some 113), .bslice 3 3 1 [(.int .i64 0)] [(0, 1, (.const (.int .i64 166))), (1, 1, (.tmp 112)), (2, 1, (.const (.int .i64 175)))], none⟩,
   ⟨(some 114), .mv (.tmp 8), none⟩,
   ⟨(some 115), .bslice 3 2 1 [(.int .i64 0)] [(0, 1, (.tmp 114)), (1, 1, (.const (.int .i64 3020)))], none⟩,
   ⟨(some 116), .call (.func 52) [(.tmp 113), (.tmp 115)], none⟩,
   ⟨(some 117), .bslice 46 8 2 [(.slice none 0 0), (.slice none 0 0)] [(0, 2, (.tmp 80)), (2, 2, (.tmp 86)), (4, 2, (.tmp 91)), (6, 2, (.tmp 96)), (8, 2, (.tmp 101)), (10, 2, (.tmp 106)), (12, 2, (.tmp 111)), (14, 2, (.tmp 116))], none⟩,
   ⟨(some 118), .append (.tmp 75) (.tmp 117) 46 2 48, none⟩,
   ⟨(some 1), .mv (.tmp 118), none⟩]))))
 (.ops [⟨(some 119), .int .add (.tmp 68) (.const (.int .i64 1)), none⟩,
   ⟨(some 68), .mv (.tmp 119), none⟩]))))

def k_tamil_Rules : ACode :=
 (.seq (.ops [⟨(some 0), .mv (.const (.slice none 0 0)), none⟩])
 (.seq (.ops [⟨(some 1), .mv (.const (.slice none 0 0)), none⟩])
 (.seq (.seq (.ops [⟨(some 10), .mv (.const (.int .i64 0)), none⟩])
 (.block 0 (.loop [1, 10] b_tamil_Rules_0)))
 (.seq (.seq (.ops [⟨(some 22), .call (.func 53) [], none⟩,
   ⟨(some 23), .len false (.tmp 22), none⟩,
   ⟨(some 24), .mv (.const (.int .i64 0)), none⟩])
 (.block 2 (.loop [1, 22, 23, 24] b_tamil_Rules_1)))
 (.seq (.seq (.ops [⟨(some 39), .build [(.int .i64 0), (.int .i64 0)] [(0, 1, (.const (.int .i64 166))), (1, 1, (.const (.int .i64 3014)))], none⟩,
   ⟨(some 40), .build [(.int .i64 0), (.int .i64 0)] [(0, 1, (.const (.int .i64 167))), (1, 1, (.const (.int .i64 3015)))], none⟩,
   ⟨(some 41), .build [(.int .i64 0), (.int .i64 0)] [(0, 1, (.const (.int .i64 168))), (1, 1, (.const (.int .i64 3016)))], none⟩,
   ⟨(some 42), .build [(.int .i64 0), (.int .i64 0)] [(0, 1, (.const (.int .i64 169))), (1, 1, (.const (.int .i64 3021)))], none⟩,
   ⟨(some 43), .build [(.int .i64 0), (.int .i64 0)] [(0, 1, (.const (.int .i64 170))), (1, 1, (.const (.int .i64 3006)))], none⟩,
   ⟨(some 44), .build [(.int .i64 0), (.int .i64 0)] [(0, 1, (.const (.int .i64 171))), (1, 1, (.const (.int .i64 3007)))], none⟩,
   ⟨(some 45), .build [(.int .i64 0), (.int .i64 0)] [(0, 1, (.const (.int .i64 172))), (1, 1, (.const (.int .i64 3008)))], none⟩,
   ⟨(some 46), .build [(.int .i64 0), (.int .i64 0)] [(0, 1, (.const (.int .i64 173))), (1, 1, (.const (.int .i64 3009)))], none⟩,
   ⟨(some 47), .build [(.int .i64 0), (.int .i64 0)] [(0, 1, (.const (.int .i64 174))), (1, 1, (.const (.int .i64 3010)))], none⟩,
   ⟨(some 48), .build [(.int .i64 0), (.int .i64 0)] [(0, 1, (.const (.int .i64 175))), (1, 1, (.const (.int .i64 3031)))], none⟩,
   ⟨(some 49), .bslice 83 10 2 [(.int .i64 0), (.int .i64 0)] [(0, 2, (.tmp 39)), (2, 2, (.tmp 40)), (4, 2, (.tmp 41)), (6, 2, (.tmp 42)), (8, 2, (.tmp 43)), (10, 2, (.tmp 44)), (12, 2, (.tmp 45)), (14, 2, (.tmp 46)), (16, 2, (.tmp 47)), (18, 2, (.tmp 48))], none⟩,
   ⟨(some 50), .len false (.tmp 49), none⟩,
   ⟨(some 51), .mv (.const (.int .i64 0)), none⟩])
 (.block 4 (.loop [1, 49, 50, 51] b_tamil_Rules_2)))
 (.seq (.seq (.ops [⟨(some 66), .call (.func 54) [], none⟩,
   ⟨(some 67), .len false (.tmp 66), none⟩,
   ⟨(some 68), .mv (.const (.int .i64 0)), none⟩])
 (.block 6 (.loop [1, 66, 67, 68] b_tamil_Rules_3)))
 (.seq (.ops [⟨(some 120), .mv (.tmp 1), none⟩,
   ⟨(some 0), .mv (.tmp 120), none⟩])
 .ret)))))))
def F_tamil_Rules : AFunc := ⟨0, 121, [.tmp 0], k_tamil_Rules⟩
theorem ok_tamil_Rules : FOK Try.prog 36 F_tamil_Rules := FOK.of [[1, 10], [1, 22, 23, 24], [1, 49, 50, 51], [1, 66, 67, 68]] Try.func36 (by kernel_rfl) (by kernel_rfl)

-- lontar/rule.Find
@[reducible] def i_rule_Find : Nat := 37
def k_rule_Find : ACode :=
 (.seq (.ops [⟨(some 3), .box (.tmp 1) 24, none⟩,
   ⟨(some 4), .mv (.const (.int .i64 0)), none⟩])
 (.seq (.ops [⟨(some 5), .mv (.tmp 0), none⟩,
   ⟨(some 6), .mkfun (.func 56) [] [(.tmp 3)], none⟩,
   ⟨(some 7), .call (.func 55) [(.tmp 5), (.tmp 6)], none⟩,
   ⟨(some 4), .mv (.tmp 7), none⟩])
 .ret))
def F_rule_Find : AFunc := ⟨2, 8, [.tmp 4], k_rule_Find⟩
theorem ok_rule_Find : FOK Try.prog 37 F_rule_Find := FOK.of [] Try.func37 (by kernel_rfl) (by kernel_rfl)

-- lontar/lontarlaw17.consonants
@[reducible] def i_lontarlaw17_consonants : Nat := 38
def k_lontarlaw17_consonants : ACode :=
 (.seq (.ops [⟨(some 0), .mv (.const (.slice none 0 0)), none⟩])
 (.seq (.ops [⟨(some 1), .bslice 3 22 1 [(.int .i64 0)] [(0, 1, (.const (.int .i64 2965))), (1, 1, (.const (.int .i64 2969))), (2, 1, (.const (.int .i64 2970))), (3, 1, (.const (.int .i64 2974))), (4, 1, (.const (.int .i64 2975))), (5, 1, (.const (.int .i64 2979))), (6, 1, (.const (.int .i64 2980))), (7, 1, (.const (.int .i64 2984))), (8, 1, (.const (.int .i64 2986))), (9, 1, (.const (.int .i64 2990))), (10, 1, (.const (.int .i64 2991))), (11, 1, (.const (.int .i64 2992))), (12, 1, (.const (.int .i64 2994))), (13, 1, (.const (.int .i64 2997))), (14, 1, (.const (.int .i64 2996))), (15, 1, (.const (.int .i64 2995))), (16, 1, (.const (.int .i64 2993))), (17, 1, (.const (.int .i64 2985))), (18, 1, (.const (.int .i64 2972))), (19, 1, (.const (.int .i64 2999))), (20, 1, (.const (.int .i64 3000))), (21, 1, (.const (.int .i64 3001)))], none⟩,
   ⟨(some 0), .mv (.tmp 1), none⟩])
 .ret))
def F_lontarlaw17_consonants : AFunc := ⟨0, 2, [.tmp 0], k_lontarlaw17_consonants⟩
theorem ok_lontarlaw17_consonants : FOK Try.prog 38 F_lontarlaw17_consonants := FOK.of [] Try.func38 (by kernel_rfl) (by kernel_rfl)

-- lontar/rewrite.Units
@[reducible] def i_rewrite_Units : Nat := 39
/-- rewrite_Units: the body of loop 0 -/
def b_rewrite_Units_0 : ACode :=
 (.seq (.ops [⟨(some 11), .int .lss (.tmp 10) (.tmp 9), none⟩])
 (.seq (.cond (.tmp 11)
  .skip
  (.exit 0))
 (.seq (.block 1 (.seq (.ops [⟨(some 12), .iaddr (.tmp 8) (.tmp 10) 4, none⟩,
   ⟨(some 13), .load (.tmp 12) (some 4), none⟩,
   ⟨(some 7), .alloc [(.int .i64 0), (.int .i64 0), (.slice none 0 0), (.int .i64 0)] 41, none⟩,
   ⟨none, .store (.tmp 7) (.tmp 13) 4, none⟩])
 (.seq (.ops [⟨(some 14), .mv (.tmp 4), none⟩,
   ⟨(some 15), .faddr (.tmp 7) 2, none⟩,
   ⟨(some 16), .load (.tmp 15) none, none⟩,
   ⟨(some 17), .append (.tmp 14) (.tmp 16) 3 1 8, none⟩,
   ⟨(some 4), .mv (.tmp 17), none⟩])
 (.seq (.ops [⟨(some 18), .faddr (.tmp 7) 3, none⟩,
   ⟨(some 19), .load (.tmp 18) none, none⟩,
   ⟨(some 20), .int .neq (.tmp 19) (.const (.int .i64 0)), none⟩,
   ⟨(some 21), .mv (.tmp 20), none⟩,
   ⟨(some 22), .faddr (.tmp 5) 3, some (21, true)⟩,
   ⟨(some 23), .load (.tmp 22) none, some (21, true)⟩,
   ⟨(some 24), .int .eql (.tmp 23) (.const (.int .i64 0)), some (21, true)⟩,
   ⟨(some 25), .pick (.tmp 21) (.tmp 24) (.const (.bool false)), none⟩])
 (.cond (.tmp 25)
  (.ops [⟨(some 26), .load (.tmp 7) (some 4), none⟩,
    ⟨none, .store (.tmp 5) (.tmp 26) 4, none⟩])
  .skip)))))
 (.ops [⟨(some 27), .int .add (.tmp 10) (.const (.int .i64 1)), none⟩,
   ⟨(some 10), .mv (.tmp 27), none⟩]))))

def k_rewrite_Units : ACode :=
 (.seq (.ops [⟨(some 2), .mv (.const (.slice none 0 0)), none⟩,
   ⟨(some 3), .alloc [(.int .i64 0), (.int .i64 0), (.slice none 0 0), (.int .i64 0)] 41, none⟩])
 (.seq (.ops [⟨(some 4), .mv (.const (.slice none 0 0)), none⟩])
 (.seq (.ops [⟨(some 5), .alloc [(.int .i64 0), (.int .i64 0), (.slice none 0 0), (.int .i64 0)] 41, none⟩])
 (.seq (.seq (.ops [⟨(some 8), .mv (.tmp 0), none⟩,
   ⟨(some 9), .len false (.tmp 8), none⟩,
   ⟨(some 10), .mv (.const (.int .i64 0)), none⟩])
 (.block 0 (.loop [3, 4, 5, 8, 9, 10] b_rewrite_Units_0)))
 (.seq (.draw [⟨(some 28), .mv (.tmp 4), none⟩,
   ⟨(some 29), .load (.tmp 5) (some 4), none⟩,
   ⟨(some 2), .mv (.tmp 28), none⟩,
   ⟨none, .store (.tmp 3) (.tmp 29) 4, none⟩])
 .ret)))))
def F_rewrite_Units : AFunc := ⟨1, 30, [.tmp 2, .cell 3 (some 4)], k_rewrite_Units⟩
theorem ok_rewrite_Units : FOK Try.prog 39 F_rewrite_Units := FOK.of [[3, 4, 5, 8, 9, 10], [0, 1, 2, 3]] Try.func39 (by kernel_rfl) (by kernel_rfl)

-- lontar/lontarlaw17.Some
@[reducible] def i_lontarlaw17_Some : Nat := 40
/-- lontarlaw17_Some: the body of loop 0 -/
def b_lontarlaw17_Some_0 : ACode :=
 (.seq (.ops [⟨(some 16), .int .lss (.tmp 15) (.tmp 14), none⟩])
 (.seq (.cond (.tmp 16)
  .skip
  (.exit 0))
 (.seq (.block 1 (.seq (.ops [⟨(some 17), .iaddr (.tmp 13) (.tmp 15) 1, none⟩,
   ⟨(some 18), .load (.tmp 17) none, none⟩,
   ⟨(some 6), .mv (.tmp 18), none⟩])
 (.seq (.ops [⟨(some 19), .call (.func 38) [], none⟩,
   ⟨(some 20), .mv (.tmp 6), none⟩,
   ⟨(some 21), .int .rem (.tmp 20) (.const (.int .u8 22)), none⟩,
   ⟨(some 22), .iaddr (.tmp 19) (.tmp 21) 1, none⟩,
   ⟨(some 23), .load (.tmp 22) none, none⟩,
   ⟨(some 7), .mv (.tmp 23), none⟩])
 (.seq (.seq (.ops [⟨(some 24), .mv (.tmp 6), none⟩,
   ⟨(some 25), .int .gtr (.tmp 24) (.const (.int .u8 140)), none⟩])
 (.cond (.tmp 25)
  (.ops [⟨(some 26), .mv (.tmp 3), none⟩,
    ⟨(some 27), .mv (.tmp 6), none⟩,
    ⟨(some 28), .conv .i64 (.tmp 27), none⟩,
    ⟨(some 29), .mv (.tmp 3), none⟩,
    ⟨(some 30), .len false (.tmp 29), none⟩,
    ⟨(some 31), .int .rem (.tmp 28) (.tmp 30), none⟩,
    ⟨(some 32), .iaddr (.tmp 26) (.tmp 31) 1, none⟩,
    ⟨(some 33), .load (.tmp 32) none, none⟩,
    ⟨(some 7), .mv (.tmp 33), none⟩])
  .skip))
 (.ops [⟨(some 34), .mv (.tmp 4), none⟩,
   ⟨(some 35), .mv (.tmp 7), none⟩,
   ⟨(some 36), .bslice 3 1 1 [(.int .i64 0)] [(0, 1, (.tmp 35))], none⟩,
   ⟨(some 37), .append (.tmp 34) (.tmp 36) 3 1 8, none⟩,
   ⟨(some 4), .mv (.tmp 37), none⟩])))))
 (.ops [⟨(some 38), .int .add (.tmp 15) (.const (.int .i64 1)), none⟩,
   ⟨(some 15), .mv (.tmp 38), none⟩]))))

def k_lontarlaw17_Some : ACode :=
 (.seq (.ops [⟨(some 2), .mv (.const (.slice none 0 0)), none⟩])
 (.seq (.ops [⟨(some 8), .bslice 3 13 1 [(.int .i64 0)] [(0, 1, (.const (.int .i64 3014))), (1, 1, (.const (.int .i64 3015))), (2, 1, (.const (.int .i64 3016))), (3, 1, (.const (.int .i64 3021))), (4, 1, (.const (.int .i64 3006))), (5, 1, (.const (.int .i64 3007))), (6, 1, (.const (.int .i64 3008))), (7, 1, (.const (.int .i64 3031))), (8, 1, (.const (.int .i64 3018))), (9, 1, (.const (.int .i64 3019))), (10, 1, (.const (.int .i64 3020))), (11, 1, (.const (.int .i64 2949))), (12, 1, (.const (.int .i64 97)))], none⟩,
   ⟨(some 3), .mv (.tmp 8), none⟩])
 (.seq (.ops [⟨(some 4), .mv (.const (.slice none 0 0)), none⟩])
 (.seq (.seq (.ops [⟨(some 9), .mv (.tmp 0), none⟩,
   ⟨(some 10), .mv (.tmp 0), none⟩,
   ⟨(some 11), .len false (.tmp 10), none⟩,
   ⟨(some 12), .min2 (.tmp 11) (.const (.int .i64 60)), none⟩,
   ⟨(some 13), .slice (.tmp 9) none (some (.tmp 12)) 1, none⟩,
   ⟨(some 14), .len false (.tmp 13), none⟩,
   ⟨(some 15), .mv (.const (.int .i64 0)), none⟩])
 (.block 0 (.loop [3, 4, 13, 14, 15] b_lontarlaw17_Some_0)))
 (.seq (.ops [⟨(some 39), .mv (.tmp 4), none⟩,
   ⟨(some 2), .mv (.tmp 39), none⟩])
 .ret)))))
def F_lontarlaw17_Some : AFunc := ⟨1, 40, [.tmp 2], k_lontarlaw17_Some⟩
theorem ok_lontarlaw17_Some : FOK Try.prog 40 F_lontarlaw17_Some := FOK.of [[3, 4, 13, 14, 15]] Try.func40 (by kernel_rfl) (by kernel_rfl)

-- lontar/lontarlaw03.Right
@[reducible] def i_lontarlaw03_Right : Nat := 41
/-- lontarlaw03_Right: the body of loop 0 -/
def b_lontarlaw03_Right_0 : ACode :=
 (.seq (.ops [⟨(some 10), .int .lss (.tmp 9) (.tmp 8), none⟩])
 (.seq (.cond (.tmp 10)
  .skip
  (.exit 0))
 (.seq (.block 1 (.seq (.ops [⟨(some 11), .iaddr (.tmp 7) (.tmp 9) 2, none⟩,
   ⟨(some 12), .load (.tmp 11) (some 2), none⟩,
   ⟨(some 5), .alloc [(.slice none 0 0), (.slice none 0 0)] 46, none⟩,
   ⟨none, .store (.tmp 5) (.tmp 12) 2, none⟩])
 (.seq (.ops [⟨(some 13), .faddr (.tmp 5) 0, none⟩,
   ⟨(some 14), .load (.tmp 13) none, none⟩,
   ⟨(some 15), .call (.func 58) [(.tmp 14)], none⟩,
   ⟨(some 16), .mv (.tmp 15), none⟩,
   ⟨(some 17), .faddr (.tmp 5) 1, some (16, true)⟩,
   ⟨(some 18), .load (.tmp 17) none, some (16, true)⟩,
   ⟨(some 19), .call (.func 58) [(.tmp 18)], some (16, true)⟩,
   ⟨(some 20), .pick (.tmp 16) (.tmp 19) (.const (.bool false)), none⟩,
   ⟨(some 21), .mv (.tmp 20), none⟩,
   ⟨(some 22), .mv (.tmp 3), some (21, true)⟩,
   ⟨(some 23), .faddr (.tmp 5) 0, some (21, true)⟩,
   ⟨(some 24), .load (.tmp 23) none, some (21, true)⟩,
   ⟨(some 25), .call (.func 59) [(.tmp 22), (.tmp 24)], some (21, true)⟩,
   ⟨(some 26), .int .lss (.tmp 25) (.const (.int .i64 0)), some (21, true)⟩,
   ⟨(some 27), .pick (.tmp 21) (.tmp 26) (.const (.bool false)), none⟩])
 (.cond (.tmp 27)
  (.ops [⟨(some 28), .mv (.tmp 3), none⟩,
    ⟨(some 29), .load (.tmp 5) (some 2), none⟩,
    ⟨(some 30), .bslice 46 1 2 [(.slice none 0 0), (.slice none 0 0)] [(0, 2, (.tmp 29))], none⟩,
    ⟨(some 31), .append (.tmp 28) (.tmp 30) 46 2 48, none⟩,
    ⟨(some 3), .mv (.tmp 31), none⟩])
  .skip))))
 (.ops [⟨(some 32), .int .add (.tmp 9) (.const (.int .i64 1)), none⟩,
   ⟨(some 9), .mv (.tmp 32), none⟩]))))

def k_lontarlaw03_Right : ACode :=
 (.seq (.ops [⟨(some 2), .mv (.const (.slice none 0 0)), none⟩])
 (.seq (.ops [⟨(some 3), .mv (.const (.slice none 0 0)), none⟩])
 (.seq (.seq (.ops [⟨(some 6), .mv (.tmp 0), none⟩,
   ⟨(some 7), .call (.func 27) [(.tmp 6)], none⟩,
   ⟨(some 8), .len false (.tmp 7), none⟩,
   ⟨(some 9), .mv (.const (.int .i64 0)), none⟩])
 (.block 0 (.loop [3, 7, 8, 9] b_lontarlaw03_Right_0)))
 (.seq (.ops [⟨(some 33), .mv (.tmp 3), none⟩,
   ⟨(some 2), .mv (.tmp 33), none⟩])
 .ret))))
def F_lontarlaw03_Right : AFunc := ⟨1, 34, [.tmp 2], k_lontarlaw03_Right⟩
theorem ok_lontarlaw03_Right : FOK Try.prog 41 F_lontarlaw03_Right := FOK.of [[3, 7, 8, 9]] Try.func41 (by kernel_rfl) (by kernel_rfl)

-- lontar/trie.Of
@[reducible] def i_trie_Of : Nat := 42
/-- trie_Of: the body of loop 0 -/
def b_trie_Of_0 : ACode :=
 (.seq (.ops [⟨(some 50), .int .lss (.tmp 49) (.tmp 48), none⟩])
 (.seq (.cond (.tmp 50)
  .skip
  (.exit 2))
 (.seq (.block 3 (.seq (.ops [⟨(some 51), .iaddr (.tmp 47) (.tmp 49) 1, none⟩,
   ⟨(some 52), .load (.tmp 51) none, none⟩,
   ⟨(some 11), .mv (.tmp 52), none⟩])
 (.seq (.ops [⟨(some 54), .mv (.tmp 6), none⟩,
   ⟨(some 55), .mv (.tmp 9), none⟩,
   ⟨(some 56), .mv (.tmp 11), none⟩,
   ⟨(some 57), .call (.func 60) [(.tmp 54), (.tmp 55), (.tmp 56)], none⟩,
   ⟨(some 53), .mv (.tmp 57), none⟩,
   ⟨(some 58), .ext (.tmp 53) 0, none⟩,
   ⟨(some 59), .ext (.tmp 53) 1, none⟩,
   ⟨(some 12), .mv (.tmp 58), none⟩,
   ⟨(some 13), .mv (.tmp 59), none⟩])
 (.seq (.seq (.ops [⟨(some 60), .mv (.tmp 13), none⟩,
   ⟨(some 61), .not (.tmp 60), none⟩])
 (.cond (.tmp 61)
  (.seq (.ops [⟨(some 62), .mv (.tmp 6), none⟩,
    ⟨(some 63), .nilChk (.tmp 62), none⟩,
    ⟨(some 64), .faddr (.tmp 63) 0, none⟩,
    ⟨(some 65), .load (.tmp 64) none, none⟩,
    ⟨(some 66), .len false (.tmp 65), none⟩,
    ⟨(some 12), .mv (.tmp 66), none⟩])
  (.seq (.draw [⟨(some 67), .mv (.tmp 6), none⟩,
    ⟨(some 68), .mv (.tmp 6), none⟩,
    ⟨(some 69), .nilChk (.tmp 68), none⟩,
    ⟨(some 70), .faddr (.tmp 69) 0, none⟩,
    ⟨(some 71), .load (.tmp 70) none, none⟩,
    ⟨(some 72), .mv (.tmp 11), none⟩,
    ⟨(some 73), .mv (.tmp 6), none⟩,
    ⟨(some 74), .nilChk (.tmp 73), none⟩,
    ⟨(some 75), .faddr (.tmp 74) 0, none⟩,
    ⟨(some 76), .load (.tmp 75) none, none⟩,
    ⟨(some 77), .mv (.tmp 9), none⟩,
    ⟨(some 78), .iaddr (.tmp 76) (.tmp 77) 4, none⟩,
    ⟨(some 79), .faddr (.tmp 78) 1, none⟩,
    ⟨(some 80), .load (.tmp 79) none, none⟩,
    ⟨(some 81), .build [(.int .i64 0), (.int .i64 0), (.int .i64 0), (.int .i64 0)] [(0, 1, (.tmp 72)), (2, 1, (.tmp 80)), (3, 1, (.const (.int .i64 (-1))))], none⟩,
    ⟨(some 82), .bslice 88 1 4 [(.int .i64 0), (.int .i64 0), (.int .i64 0), (.int .i64 0)] [(0, 4, (.tmp 81))], none⟩,
    ⟨(some 83), .append (.tmp 71) (.tmp 82) 88 4 32, none⟩,
    ⟨(some 84), .nilChk (.tmp 67), none⟩,
    ⟨(some 85), .faddr (.tmp 84) 0, none⟩,
    ⟨none, .store (.tmp 85) (.tmp 83) 1, none⟩])
  (.ops [⟨(some 86), .mv (.tmp 6), none⟩,
    ⟨(some 87), .nilChk (.tmp 86), none⟩,
    ⟨(some 88), .faddr (.tmp 87) 0, none⟩,
    ⟨(some 89), .load (.tmp 88) none, none⟩,
    ⟨(some 90), .mv (.tmp 9), none⟩,
    ⟨(some 91), .mv (.tmp 12), none⟩,
    ⟨(some 92), .iaddr (.tmp 89) (.tmp 90) 4, none⟩,
    ⟨(some 93), .faddr (.tmp 92) 1, none⟩,
    ⟨none, .store (.tmp 93) (.tmp 91) 1, none⟩])))
  .skip))
 (.ops [⟨(some 94), .mv (.tmp 12), none⟩,
   ⟨(some 9), .mv (.tmp 94), none⟩])))))
 (.ops [⟨(some 95), .int .add (.tmp 49) (.const (.int .i64 1)), none⟩,
   ⟨(some 49), .mv (.tmp 95), none⟩]))))

/-- trie_Of: the body of loop 1 -/
def b_trie_Of_1 : ACode :=
 (.seq (.ops [⟨(some 29), .int .lss (.tmp 28) (.tmp 27), none⟩])
 (.seq (.cond (.tmp 29)
  .skip
  (.exit 0))
 (.seq (.block 1 (.seq (.ops [⟨(some 30), .mv (.tmp 28), none⟩,
   ⟨(some 31), .iaddr (.tmp 26) (.tmp 28) 2, none⟩,
   ⟨(some 32), .load (.tmp 31) (some 2), none⟩,
   ⟨(some 8), .alloc [(.slice none 0 0), (.slice none 0 0)] 46, none⟩,
   ⟨(some 7), .mv (.tmp 30), none⟩,
   ⟨none, .store (.tmp 8) (.tmp 32) 2, none⟩])
 (.seq (.ops [⟨(some 9), .mv (.const (.int .i64 0)), none⟩])
 (.seq (.draw [⟨(some 33), .mv (.tmp 6), none⟩,
   ⟨(some 34), .mv (.tmp 6), none⟩,
   ⟨(some 35), .nilChk (.tmp 34), none⟩,
   ⟨(some 36), .faddr (.tmp 35) 1, none⟩,
   ⟨(some 37), .load (.tmp 36) none, none⟩,
   ⟨(some 38), .faddr (.tmp 8) 1, none⟩,
   ⟨(some 39), .load (.tmp 38) none, none⟩,
   ⟨(some 40), .append (.const (.slice none 0 0)) (.tmp 39) 3 1 8, none⟩,
   ⟨(some 41), .build [(.slice none 0 0), (.slice none 0 0)] [(1, 1, (.tmp 40))], none⟩,
   ⟨(some 42), .bslice 46 1 2 [(.slice none 0 0), (.slice none 0 0)] [(0, 2, (.tmp 41))], none⟩,
   ⟨(some 43), .append (.tmp 37) (.tmp 42) 46 2 48, none⟩,
   ⟨(some 44), .nilChk (.tmp 33), none⟩,
   ⟨(some 45), .faddr (.tmp 44) 1, none⟩,
   ⟨none, .store (.tmp 45) (.tmp 43) 1, none⟩])
 (.seq (.seq (.ops [⟨(some 46), .faddr (.tmp 8) 0, none⟩,
   ⟨(some 47), .load (.tmp 46) none, none⟩,
   ⟨(some 48), .len false (.tmp 47), none⟩,
   ⟨(some 49), .mv (.const (.int .i64 0)), none⟩])
 (.block 2 (.loop [6, 7, 9, 26, 27, 28, 47, 48, 49] b_trie_Of_0)))
 (.ops [⟨(some 96), .mv (.tmp 6), none⟩,
   ⟨(some 97), .nilChk (.tmp 96), none⟩,
   ⟨(some 98), .faddr (.tmp 97) 0, none⟩,
   ⟨(some 99), .load (.tmp 98) none, none⟩,
   ⟨(some 100), .mv (.tmp 9), none⟩,
   ⟨(some 101), .mv (.tmp 7), none⟩,
   ⟨(some 102), .iaddr (.tmp 99) (.tmp 100) 4, none⟩,
   ⟨(some 103), .faddr (.tmp 102) 3, none⟩,
   ⟨none, .store (.tmp 103) (.tmp 101) 1, none⟩]))))))
 (.ops [⟨(some 104), .int .add (.tmp 28) (.const (.int .i64 1)), none⟩,
   ⟨(some 28), .mv (.tmp 104), none⟩]))))

def k_trie_Of : ACode :=
 (.seq (.ops [⟨(some 2), .mv (.const (.pointer none)), none⟩,
   ⟨(some 3), .mv (.const (.int .i64 0)), none⟩])
 (.seq (.seq (.ops [⟨(some 15), .mv (.tmp 0), none⟩,
   ⟨(some 16), .call (.func 28) [(.tmp 15)], none⟩,
   ⟨(some 14), .mv (.tmp 16), none⟩,
   ⟨(some 17), .ext (.tmp 14) 0, none⟩,
   ⟨(some 18), .ext (.tmp 14) 1, none⟩,
   ⟨(some 4), .mv (.tmp 17), none⟩,
   ⟨(some 5), .mv (.tmp 18), none⟩])
 (.seq (.ops [⟨(some 19), .mv (.tmp 5), none⟩,
   ⟨(some 20), .int .neq (.tmp 19) (.const (.int .i64 0)), none⟩])
 (.cond (.tmp 20)
  (.seq (.ops [⟨(some 21), .mv (.tmp 5), none⟩,
    ⟨(some 2), .mv (.const (.pointer none)), none⟩,
    ⟨(some 3), .mv (.tmp 21), none⟩])
  .ret)
  .skip)))
 (.seq (.ops [⟨(some 22), .build [(.int .i64 0), (.int .i64 0), (.int .i64 0), (.int .i64 0)] [(3, 1, (.const (.int .i64 (-1))))], none⟩,
   ⟨(some 23), .bslice 88 1 4 [(.int .i64 0), (.int .i64 0), (.int .i64 0), (.int .i64 0)] [(0, 4, (.tmp 22))], none⟩,
   ⟨(some 24), .build [(.slice none 0 0), (.slice none 0 0)] [(0, 1, (.tmp 23))], none⟩,
   ⟨(some 25), .box (.tmp 24) 91, none⟩,
   ⟨(some 6), .mv (.tmp 25), none⟩])
 (.seq (.seq (.ops [⟨(some 26), .mv (.tmp 0), none⟩,
   ⟨(some 27), .len false (.tmp 26), none⟩,
   ⟨(some 28), .mv (.const (.int .i64 0)), none⟩])
 (.block 0 (.loop [6, 26, 27, 28] b_trie_Of_1)))
 (.seq (.ops [⟨(some 105), .mv (.tmp 6), none⟩,
   ⟨(some 2), .mv (.tmp 105), none⟩,
   ⟨(some 3), .mv (.const (.int .i64 0)), none⟩])
 .ret)))))
def F_trie_Of : AFunc := ⟨1, 106, [.tmp 2, .tmp 3], k_trie_Of⟩
theorem ok_trie_Of : FOK Try.prog 42 F_trie_Of := FOK.of [[6, 26, 27, 28], [0, 1, 2, 3, 4, 5, 6, 7, 8, 9, 10, 11, 12, 13], [6, 7, 9, 26, 27, 28, 47, 48, 49], [0, 1, 2, 3, 4, 5, 6, 7, 8, 9, 10, 11, 12, 13, 14, 15, 16, 17, 18, 19]] Try.func42 (by kernel_rfl) (by kernel_rfl)

-- lontar/table.closed
@[reducible] def i_table_closed : Nat := 43
/-- table_closed: the body of loop 0 -/
def b_table_closed_0 : ACode :=
 (.seq (.seq (.ops [⟨(some 16), .mv (.tmp 5), none⟩,
   ⟨(some 17), .int .gtr (.tmp 16) (.const (.int .i64 0)), none⟩])
 (.cond (.tmp 17)
  .skip
  (.exit 2)))
 (.seq (.block 3 (.seq (.ops [⟨(some 20), .mv (.tmp 0), none⟩,
   ⟨(some 21), .faddr (.tmp 4) 0, none⟩,
   ⟨(some 22), .load (.tmp 21) none, none⟩,
   ⟨(some 23), .mv (.tmp 5), none⟩,
   ⟨(some 24), .slice (.tmp 22) none (some (.tmp 23)) 1, none⟩,
   ⟨(some 25), .call (.func 37) [(.tmp 20), (.tmp 24)], none⟩,
   ⟨(some 26), .int .lss (.tmp 25) (.const (.int .i64 0)), none⟩,
   ⟨(some 27), .mv (.tmp 26), none⟩,
   ⟨(some 28), .mv (.tmp 5), some (27, true)⟩,
   ⟨(some 29), .int .gtr (.tmp 28) (.const (.int .i64 1)), some (27, true)⟩,
   ⟨(some 30), .mv (.tmp 29), some (27, true)⟩,
   ⟨(some 31), .mv (.tmp 0), some (30, false)⟩,
   ⟨(some 32), .faddr (.tmp 4) 0, some (30, false)⟩,
   ⟨(some 33), .load (.tmp 32) none, some (30, false)⟩,
   ⟨(some 34), .iaddr (.tmp 33) (.const (.int .i64 0)) 1, some (30, false)⟩,
   ⟨(some 35), .load (.tmp 34) none, some (30, false)⟩,
   ⟨(some 36), .call (.func 61) [(.tmp 31), (.tmp 35)], some (30, false)⟩,
   ⟨(some 37), .pick (.tmp 30) (.const (.bool true)) (.tmp 36), some (27, true)⟩,
   ⟨(some 38), .pick (.tmp 27) (.tmp 37) (.const (.bool false)), none⟩])
 (.cond (.tmp 38)
  (.seq (.ops [⟨(some 2), .mv (.const (.bool false)), none⟩])
  .ret)
  .skip)))
 (.ops [⟨(some 18), .mv (.tmp 5), none⟩,
   ⟨(some 19), .int .sub (.tmp 18) (.const (.int .i64 1)), none⟩,
   ⟨(some 5), .mv (.tmp 19), none⟩])))

/-- table_closed: the body of loop 1 -/
def b_table_closed_1 : ACode :=
 (.seq (.ops [⟨(some 9), .int .lss (.tmp 8) (.tmp 7), none⟩])
 (.seq (.cond (.tmp 9)
  .skip
  (.exit 0))
 (.seq (.block 1 (.seq (.ops [⟨(some 10), .iaddr (.tmp 6) (.tmp 8) 2, none⟩,
   ⟨(some 11), .load (.tmp 10) (some 2), none⟩,
   ⟨(some 4), .alloc [(.slice none 0 0), (.slice none 0 0)] 46, none⟩,
   ⟨none, .store (.tmp 4) (.tmp 11) 2, none⟩])
 (.seq (.ops [⟨(some 12), .faddr (.tmp 4) 0, none⟩,
   ⟨(some 13), .load (.tmp 12) none, none⟩,
   ⟨(some 14), .len false (.tmp 13), none⟩,
   ⟨(some 15), .int .sub (.tmp 14) (.const (.int .i64 1)), none⟩,
   ⟨(some 5), .mv (.tmp 15), none⟩])
 (.block 2 (.loop [0, 4, 5, 6, 7, 8] b_table_closed_0)))))
 (.ops [⟨(some 39), .int .add (.tmp 8) (.const (.int .i64 1)), none⟩,
   ⟨(some 8), .mv (.tmp 39), none⟩]))))

def k_table_closed : ACode :=
 (.seq (.ops [⟨(some 2), .mv (.const (.bool false)), none⟩])
 (.seq (.seq (.ops [⟨(some 6), .mv (.tmp 0), none⟩,
   ⟨(some 7), .len false (.tmp 6), none⟩,
   ⟨(some 8), .mv (.const (.int .i64 0)), none⟩])
 (.block 0 (.loop [0, 6, 7, 8] b_table_closed_1)))
 (.seq (.ops [⟨(some 2), .mv (.const (.bool true)), none⟩])
 .ret)))
def F_table_closed : AFunc := ⟨1, 40, [.tmp 2], k_table_closed⟩
theorem ok_table_closed : FOK Try.prog 43 F_table_closed := FOK.of [[0, 6, 7, 8], [0, 4, 5, 6, 7, 8]] Try.func43 (by kernel_rfl) (by kernel_rfl)

-- lontar/rewrite.All
@[reducible] def i_rewrite_All : Nat := 44
/-- rewrite_All: the body of loop 0 -/
def b_rewrite_All_0 : ACode :=
 (.seq (.seq (.ops [⟨(some 8), .mv (.tmp 6), none⟩,
   ⟨(some 9), .mv (.tmp 1), none⟩,
   ⟨(some 10), .len false (.tmp 9), none⟩,
   ⟨(some 11), .int .lss (.tmp 8) (.tmp 10), none⟩])
 (.cond (.tmp 11)
  .skip
  (.exit 0)))
 (.block 1 (.seq (.ops [⟨(some 12), .mv (.tmp 0), none⟩,
   ⟨(some 13), .mv (.tmp 1), none⟩,
   ⟨(some 14), .mv (.tmp 6), none⟩,
   ⟨(some 15), .slice (.tmp 13) (some (.tmp 14)) none 1, none⟩,
   ⟨(some 16), .mv (.tmp 6), none⟩,
   ⟨(some 17), .call (.func 62) [(.tmp 12), (.tmp 15), (.tmp 16)], none⟩,
   ⟨(some 7), .alloc [(.int .i64 0), (.int .i64 0), (.slice none 0 0), (.int .i64 0)] 41, none⟩,
   ⟨none, .store (.tmp 7) (.tmp 17) 4, none⟩])
 (.seq (.ops [⟨(some 18), .mv (.tmp 5), none⟩,
   ⟨(some 19), .load (.tmp 7) (some 4), none⟩,
   ⟨(some 20), .bslice 41 1 4 [(.int .i64 0), (.int .i64 0), (.slice none 0 0), (.int .i64 0)] [(0, 4, (.tmp 19))], none⟩,
   ⟨(some 21), .append (.tmp 18) (.tmp 20) 41 4 48, none⟩,
   ⟨(some 5), .mv (.tmp 21), none⟩])
 (.ops [⟨(some 22), .mv (.tmp 6), none⟩,
   ⟨(some 23), .faddr (.tmp 7) 1, none⟩,
   ⟨(some 24), .load (.tmp 23) none, none⟩,
   ⟨(some 25), .int .add (.tmp 22) (.tmp 24), none⟩,
   ⟨(some 6), .mv (.tmp 25), none⟩])))))

def k_rewrite_All : ACode :=
 (.seq (.ops [⟨(some 4), .mv (.const (.slice none 0 0)), none⟩])
 (.seq (.ops [⟨(some 5), .mv (.const (.slice none 0 0)), none⟩])
 (.seq (.seq (.ops [⟨(some 6), .mv (.const (.int .i64 0)), none⟩])
 (.block 0 (.loop [0, 1, 5, 6] b_rewrite_All_0)))
 (.seq (.ops [⟨(some 26), .mv (.tmp 5), none⟩,
   ⟨(some 4), .mv (.tmp 26), none⟩])
 .ret))))
def F_rewrite_All : AFunc := ⟨2, 27, [.tmp 4], k_rewrite_All⟩
theorem ok_rewrite_All : FOK Try.prog 44 F_rewrite_All := FOK.of [[0, 1, 5, 6]] Try.func44 (by kernel_rfl) (by kernel_rfl)

-- (*lontar/trie.Trie).Longest
@[reducible] def i_trie_Trie__Longest : Nat := 45
/-- trie_Trie__Longest: the body of loop 0 -/
def b_trie_Trie__Longest_0 : ACode :=
 (.seq (.ops [⟨(some 18), .int .lss (.tmp 17) (.tmp 16), none⟩])
 (.seq (.cond (.tmp 18)
  .skip
  (.exit 0))
 (.seq (.block 1 (.seq (.ops [⟨(some 19), .mv (.tmp 17), none⟩,
   ⟨(some 20), .iaddr (.tmp 15) (.tmp 17) 1, none⟩,
   ⟨(some 21), .load (.tmp 20) none, none⟩,
   ⟨(some 10), .mv (.tmp 19), none⟩,
   ⟨(some 11), .mv (.tmp 21), none⟩])
 (.seq (.ops [⟨(some 23), .mv (.tmp 0), none⟩,
   ⟨(some 24), .mv (.tmp 9), none⟩,
   ⟨(some 25), .mv (.tmp 11), none⟩,
   ⟨(some 26), .call (.func 60) [(.tmp 23), (.tmp 24), (.tmp 25)], none⟩,
   ⟨(some 22), .mv (.tmp 26), none⟩,
   ⟨(some 27), .ext (.tmp 22) 0, none⟩,
   ⟨(some 28), .ext (.tmp 22) 1, none⟩,
   ⟨(some 12), .mv (.tmp 27), none⟩,
   ⟨(some 13), .mv (.tmp 28), none⟩])
 (.seq (.seq (.ops [⟨(some 29), .mv (.tmp 13), none⟩,
   ⟨(some 30), .not (.tmp 29), none⟩])
 (.cond (.tmp 30)
  (.seq (.ops [⟨(some 31), .mv (.tmp 7), none⟩,
    ⟨(some 32), .mv (.tmp 8), none⟩,
    ⟨(some 4), .mv (.tmp 31), none⟩,
    ⟨(some 5), .mv (.tmp 32), none⟩,
    ⟨(some 6), .mv (.const (.bool false)), none⟩])
  .ret)
  .skip))
 (.seq (.ops [⟨(some 33), .mv (.tmp 12), none⟩,
   ⟨(some 9), .mv (.tmp 33), none⟩])
 (.seq (.ops [⟨(some 34), .mv (.tmp 0), none⟩,
   ⟨(some 35), .mv (.tmp 9), none⟩,
   ⟨(some 36), .call (.func 63) [(.tmp 34), (.tmp 35)], none⟩,
   ⟨(some 14), .mv (.tmp 36), none⟩])
 (.seq (.ops [⟨(some 37), .mv (.tmp 14), none⟩,
   ⟨(some 38), .int .geq (.tmp 37) (.const (.int .i64 0)), none⟩])
 (.cond (.tmp 38)
  (.ops [⟨(some 39), .mv (.tmp 14), none⟩,
    ⟨(some 40), .mv (.tmp 10), none⟩,
    ⟨(some 41), .int .add (.tmp 40) (.const (.int .i64 1)), none⟩,
    ⟨(some 7), .mv (.tmp 39), none⟩,
    ⟨(some 8), .mv (.tmp 41), none⟩])
  .skip))))))))
 (.ops [⟨(some 42), .int .add (.tmp 17) (.const (.int .i64 1)), none⟩,
   ⟨(some 17), .mv (.tmp 42), none⟩]))))

def k_trie_Trie__Longest : ACode :=
 (.seq (.ops [⟨(some 4), .mv (.const (.int .i64 0)), none⟩,
   ⟨(some 5), .mv (.const (.int .i64 0)), none⟩,
   ⟨(some 6), .mv (.const (.bool false)), none⟩])
 (.seq (.ops [⟨(some 7), .mv (.const (.int .i64 (-1))), none⟩,
   ⟨(some 8), .mv (.const (.int .i64 0)), none⟩,
   ⟨(some 9), .mv (.const (.int .i64 0)), none⟩])
 (.seq (.seq (.ops [⟨(some 15), .mv (.tmp 1), none⟩,
   ⟨(some 16), .len false (.tmp 15), none⟩,
   ⟨(some 17), .mv (.const (.int .i64 0)), none⟩])
 (.block 0 (.loop [0, 7, 8, 9, 15, 16, 17] b_trie_Trie__Longest_0)))
 (.seq (.ops [⟨(some 43), .mv (.tmp 7), none⟩,
   ⟨(some 44), .mv (.tmp 8), none⟩,
   ⟨(some 45), .mv (.tmp 0), none⟩,
   ⟨(some 46), .mv (.tmp 9), none⟩,
   ⟨(some 47), .call (.func 64) [(.tmp 45), (.tmp 46)], none⟩,
   ⟨(some 48), .not (.tmp 47), none⟩,
   ⟨(some 4), .mv (.tmp 43), none⟩,
   ⟨(some 5), .mv (.tmp 44), none⟩,
   ⟨(some 6), .mv (.tmp 48), none⟩])
 .ret))))
def F_trie_Trie__Longest : AFunc := ⟨2, 49, [.tmp 4, .tmp 5, .tmp 6], k_trie_Trie__Longest⟩
theorem ok_trie_Trie__Longest : FOK Try.prog 45 F_trie_Trie__Longest := FOK.of [[0, 7, 8, 9, 15, 16, 17]] Try.func45 (by kernel_rfl) (by kernel_rfl)

-- slices.Clone[[]int,int]
@[reducible] def i_slices_Clone___int_int_ : Nat := 46
def k_slices_Clone___int_int_ : ACode :=
 (.seq (.ops [⟨(some 2), .mv (.const (.slice none 0 0)), none⟩])
 (.seq (.seq (.ops [⟨(some 3), .mv (.tmp 0), none⟩,
   ⟨(some 4), .isNil 1 false (.tmp 3), none⟩])
 (.cond (.tmp 4)
  (.seq (.ops [⟨(some 2), .mv (.const (.slice none 0 0)), none⟩])
  .ret)
  .skip))
 (.seq (.ops [⟨(some 5), .bslice 3 0 1 [(.int .i64 0)] [], none⟩,
   ⟨(some 6), .mv (.tmp 0), none⟩,
   ⟨(some 7), .append (.tmp 5) (.tmp 6) 3 1 8, none⟩,
   ⟨(some 2), .mv (.tmp 7), none⟩])
 .ret)))
def F_slices_Clone___int_int_ : AFunc := ⟨1, 8, [.tmp 2], k_slices_Clone___int_int_⟩
theorem ok_slices_Clone___int_int_ : FOK Try.prog 46 F_slices_Clone___int_int_ := FOK.of [] Try.func46 (by kernel_rfl) (by kernel_rfl)

-- lontar/lontarlaw04.Longest
@[reducible] def i_lontarlaw04_Longest : Nat := 47
/-- lontarlaw04_Longest: the body of loop 0 -/
def b_lontarlaw04_Longest_0 : ACode :=
 (.seq (.ops [⟨(some 15), .int .lss (.tmp 14) (.tmp 13), none⟩])
 (.seq (.cond (.tmp 15)
  .skip
  (.exit 0))
 (.seq (.block 1 (.seq (.ops [⟨(some 16), .mv (.tmp 14), none⟩,
   ⟨(some 17), .iaddr (.tmp 12) (.tmp 14) 2, none⟩,
   ⟨(some 18), .load (.tmp 17) (some 2), none⟩,
   ⟨(some 11), .alloc [(.slice none 0 0), (.slice none 0 0)] 46, none⟩,
   ⟨(some 10), .mv (.tmp 16), none⟩,
   ⟨none, .store (.tmp 11) (.tmp 18) 2, none⟩])
 (.seq (.seq (.draw [⟨(some 19), .faddr (.tmp 11) 0, none⟩,
   ⟨(some 20), .load (.tmp 19) none, none⟩,
   ⟨(some 21), .len false (.tmp 20), none⟩,
   ⟨(some 22), .mv (.tmp 1), none⟩,
   ⟨(some 23), .len false (.tmp 22), none⟩,
   ⟨(some 24), .int .leq (.tmp 21) (.tmp 23), none⟩,
   ⟨(some 25), .mv (.tmp 24), none⟩,
   ⟨(some 26), .faddr (.tmp 11) 0, some (25, true)⟩,
   ⟨(some 27), .load (.tmp 26) none, some (25, true)⟩,
   ⟨(some 28), .mv (.tmp 1), some (25, true)⟩,
   ⟨(some 29), .faddr (.tmp 11) 0, some (25, true)⟩,
   ⟨(some 30), .load (.tmp 29) none, some (25, true)⟩,
   ⟨(some 31), .len false (.tmp 30), some (25, true)⟩,
   ⟨(some 32), .slice (.tmp 28) none (some (.tmp 31)) 1, some (25, true)⟩,
   ⟨(some 33), .call (.func 24) [(.tmp 27), (.tmp 32)], some (25, true)⟩,
   ⟨(some 34), .pick (.tmp 25) (.tmp 33) (.const (.bool false)), none⟩,
   ⟨(some 35), .mv (.tmp 34), none⟩,
   ⟨(some 36), .faddr (.tmp 11) 0, some (35, true)⟩,
   ⟨(some 37), .load (.tmp 36) none, some (35, true)⟩,
   ⟨(some 38), .len false (.tmp 37), some (35, true)⟩,
   ⟨(some 39), .mv (.tmp 8), some (35, true)⟩,
   ⟨(some 40), .int .gtr (.tmp 38) (.tmp 39), some (35, true)⟩,
   ⟨(some 41), .pick (.tmp 35) (.tmp 40) (.const (.bool false)), none⟩])
 (.cond (.tmp 41)
  (.draw [⟨(some 42), .mv (.tmp 10), none⟩,
    ⟨(some 43), .faddr (.tmp 11) 0, none⟩,
    ⟨(some 44), .load (.tmp 43) none, none⟩,
    ⟨(some 45), .len false (.tmp 44), none⟩,
    ⟨(some 7), .mv (.tmp 42), none⟩,
    ⟨(some 8), .mv (.tmp 45), none⟩])
  .skip))
 (.ops [⟨(some 46), .mv (.tmp 9), none⟩,
   ⟨(some 47), .mv (.tmp 46), none⟩,
   ⟨(some 48), .faddr (.tmp 11) 0, some (47, false)⟩,
   ⟨(some 49), .load (.tmp 48) none, some (47, false)⟩,
   ⟨(some 50), .len false (.tmp 49), some (47, false)⟩,
   ⟨(some 51), .mv (.tmp 1), some (47, false)⟩,
   ⟨(some 52), .len false (.tmp 51), some (47, false)⟩,
   ⟨(some 53), .int .gtr (.tmp 50) (.tmp 52), some (47, false)⟩,
   ⟨(some 54), .mv (.tmp 53), some (47, false)⟩,
   ⟨(some 55), .faddr (.tmp 11) 0, some (54, true)⟩,
   ⟨(some 56), .load (.tmp 55) none, some (54, true)⟩,
   ⟨(some 57), .mv (.tmp 1), some (54, true)⟩,
   ⟨(some 58), .len false (.tmp 57), some (54, true)⟩,
   ⟨(some 59), .slice (.tmp 56) none (some (.tmp 58)) 1, some (54, true)⟩,
   ⟨(some 60), .mv (.tmp 1), some (54, true)⟩,
   ⟨(some 61), .call (.func 24) [(.tmp 59), (.tmp 60)], some (54, true)⟩,
   ⟨(some 62), .pick (.tmp 54) (.tmp 61) (.const (.bool false)), some (47, false)⟩,
   ⟨(some 63), .pick (.tmp 47) (.const (.bool true)) (.tmp 62), none⟩,
   ⟨(some 9), .mv (.tmp 63), none⟩]))))
 (.ops [⟨(some 64), .int .add (.tmp 14) (.const (.int .i64 1)), none⟩,
   ⟨(some 14), .mv (.tmp 64), none⟩]))))

def k_lontarlaw04_Longest : ACode :=
 (.seq (.ops [⟨(some 4), .mv (.const (.int .i64 0)), none⟩,
   ⟨(some 5), .mv (.const (.int .i64 0)), none⟩,
   ⟨(some 6), .mv (.const (.bool false)), none⟩])
 (.seq (.ops [⟨(some 7), .mv (.const (.int .i64 (-1))), none⟩,
   ⟨(some 8), .mv (.const (.int .i64 0)), none⟩,
   ⟨(some 9), .mv (.const (.bool false)), none⟩])
 (.seq (.seq (.ops [⟨(some 12), .mv (.tmp 0), none⟩,
   ⟨(some 13), .len false (.tmp 12), none⟩,
   ⟨(some 14), .mv (.const (.int .i64 0)), none⟩])
 (.block 0 (.loop [1, 7, 8, 9, 12, 13, 14] b_lontarlaw04_Longest_0)))
 (.seq (.ops [⟨(some 65), .mv (.tmp 7), none⟩,
   ⟨(some 66), .mv (.tmp 8), none⟩,
   ⟨(some 67), .mv (.tmp 9), none⟩,
   ⟨(some 4), .mv (.tmp 65), none⟩,
   ⟨(some 5), .mv (.tmp 66), none⟩,
   ⟨(some 6), .mv (.tmp 67), none⟩])
 .ret))))
def F_lontarlaw04_Longest : AFunc := ⟨2, 68, [.tmp 4, .tmp 5, .tmp 6], k_lontarlaw04_Longest⟩
theorem ok_lontarlaw04_Longest : FOK Try.prog 47 F_lontarlaw04_Longest := FOK.of [[1, 7, 8, 9, 12, 13, 14], [0, 1, 2, 3, 4, 5, 6, 7, 8, 9, 10, 11, 12, 13, 14, 15, 16, 17, 18, 19, 20, 21, 22], [0, 1, 2, 3, 4, 5]] Try.func47 (by kernel_rfl) (by kernel_rfl)

-- lontar/lontarlaw03.units
@[reducible] def i_lontarlaw03_units : Nat := 48
/-- lontarlaw03_units: the body of loop 0 -/
def b_lontarlaw03_units_0 : ACode :=
 (.seq (.ops [⟨(some 15), .int .lss (.tmp 14) (.tmp 13), none⟩])
 (.seq (.cond (.tmp 15)
  .skip
  (.exit 0))
 (.seq (.block 1 (.seq (.ops [⟨(some 16), .iaddr (.tmp 12) (.tmp 14) 1, none⟩,
   ⟨(some 17), .load (.tmp 16) none, none⟩,
   ⟨(some 7), .mv (.tmp 17), none⟩])
 (.ops [⟨(some 18), .mv (.tmp 5), none⟩,
   ⟨(some 19), .mv (.tmp 1), none⟩,
   ⟨(some 20), .mv (.tmp 7), none⟩,
   ⟨(some 21), .int .rem (.tmp 20) (.const (.int .u8 5)), none⟩,
   ⟨(some 22), .conv .i64 (.tmp 21), none⟩,
   ⟨(some 23), .int .add (.tmp 19) (.tmp 22), none⟩,
   ⟨(some 24), .bslice 3 1 1 [(.int .i64 0)] [(0, 1, (.tmp 23))], none⟩,
   ⟨(some 25), .append (.tmp 18) (.tmp 24) 3 1 8, none⟩,
   ⟨(some 5), .mv (.tmp 25), none⟩])))
 (.ops [⟨(some 26), .int .add (.tmp 14) (.const (.int .i64 1)), none⟩,
   ⟨(some 14), .mv (.tmp 26), none⟩]))))

def k_lontarlaw03_units : ACode :=
 (.seq (.ops [⟨(some 4), .mv (.const (.slice none 0 0)), none⟩])
 (.seq (.ops [⟨(some 5), .mv (.const (.slice none 0 0)), none⟩])
 (.seq (.seq (.ops [⟨(some 8), .mv (.tmp 0), none⟩,
   ⟨(some 9), .mv (.tmp 0), none⟩,
   ⟨(some 10), .len false (.tmp 9), none⟩,
   ⟨(some 11), .min2 (.tmp 10) (.const (.int .i64 4)), none⟩,
   ⟨(some 12), .slice (.tmp 8) none (some (.tmp 11)) 1, none⟩,
   ⟨(some 13), .len false (.tmp 12), none⟩,
   ⟨(some 14), .mv (.const (.int .i64 0)), none⟩])
 (.block 0 (.loop [1, 5, 12, 13, 14] b_lontarlaw03_units_0)))
 (.seq (.ops [⟨(some 27), .mv (.tmp 5), none⟩,
   ⟨(some 28), .mv (.tmp 1), none⟩,
   ⟨(some 29), .bslice 3 1 1 [(.int .i64 0)] [(0, 1, (.tmp 28))], none⟩,
   ⟨(some 30), .append (.tmp 27) (.tmp 29) 3 1 8, none⟩,
   ⟨(some 31), .mv (.tmp 5), none⟩,
   ⟨(some 32), .len false (.tmp 31), none⟩,
   ⟨(some 33), .max2 (.const (.int .i64 1)) (.tmp 32), none⟩,
   ⟨(some 34), .slice (.tmp 30) none (some (.tmp 33)) 1, none⟩,
   ⟨(some 4), .mv (.tmp 34), none⟩])
 .ret))))
def F_lontarlaw03_units : AFunc := ⟨2, 35, [.tmp 4], k_lontarlaw03_units⟩
theorem ok_lontarlaw03_units : FOK Try.prog 48 F_lontarlaw03_units := FOK.of [[1, 5, 12, 13, 14]] Try.func48 (by kernel_rfl) (by kernel_rfl)

-- lontar/rule.side
@[reducible] def i_rule_side : Nat := 49
def k_rule_side : ACode :=
 (.seq (.ops [⟨(some 2), .mv (.const (.bool false)), none⟩])
 (.seq (.ops [⟨(some 3), .mv (.tmp 0), none⟩,
   ⟨(some 4), .len false (.tmp 3), none⟩,
   ⟨(some 5), .int .gtr (.tmp 4) (.const (.int .i64 0)), none⟩,
   ⟨(some 6), .mv (.tmp 5), none⟩,
   ⟨(some 7), .mv (.tmp 0), some (6, true)⟩,
   ⟨(some 8), .len false (.tmp 7), some (6, true)⟩,
   ⟨(some 9), .int .leq (.tmp 8) (.const (.int .i64 8)), some (6, true)⟩,
   ⟨(some 10), .pick (.tmp 6) (.tmp 9) (.const (.bool false)), none⟩,
   ⟨(some 11), .mv (.tmp 10), none⟩,
   ⟨(some 12), .mv (.tmp 0), some (11, true)⟩,
   ⟨(some 13), .call (.func 65) [(.tmp 12), (.func 66)], some (11, true)⟩,
   ⟨(some 14), .not (.tmp 13), some (11, true)⟩,
   ⟨(some 15), .pick (.tmp 11) (.tmp 14) (.const (.bool false)), none⟩,
   ⟨(some 2), .mv (.tmp 15), none⟩])
 .ret))
def F_rule_side : AFunc := ⟨1, 16, [.tmp 2], k_rule_side⟩
theorem ok_rule_side : FOK Try.prog 49 F_rule_side := FOK.of [] Try.func49 (by kernel_rfl) (by kernel_rfl)

-- lontar/tamil.Consonant
@[reducible] def i_tamil_Consonant : Nat := 50
def k_tamil_Consonant : ACode :=
 (.seq (.ops [⟨(some 2), .mv (.const (.int .i64 0)), none⟩,
   ⟨(some 3), .mv (.const (.bool false)), none⟩])
 (.seq (.seq (.ops [⟨(some 4), .mv (.tmp 0), none⟩,
   ⟨(some 5), .int .lss (.tmp 4) (.const (.int .i64 0)), none⟩,
   ⟨(some 6), .mv (.tmp 5), none⟩,
   ⟨(some 7), .mv (.tmp 0), some (6, false)⟩,
   ⟨(some 8), .call (.func 54) [], some (6, false)⟩,
   ⟨(some 9), .len false (.tmp 8), some (6, false)⟩,
   ⟨(some 10), .int .geq (.tmp 7) (.tmp 9), some (6, false)⟩,
   ⟨(some 11), .pick (.tmp 6) (.const (.bool true)) (.tmp 10), none⟩])
 (.cond (.tmp 11)
  (.seq (.ops [⟨(some 2), .mv (.const (.int .i64 0)), none⟩,
    ⟨(some 3), .mv (.const (.bool false)), none⟩])
  .ret)
  .skip))
 (.seq (.ops [⟨(some 12), .call (.func 54) [], none⟩,
   ⟨(some 13), .mv (.tmp 0), none⟩,
   ⟨(some 14), .iaddr (.tmp 12) (.tmp 13) 1, none⟩,
   ⟨(some 15), .load (.tmp 14) none, none⟩,
   ⟨(some 2), .mv (.tmp 15), none⟩,
   ⟨(some 3), .mv (.const (.bool true)), none⟩])
 .ret)))
def F_tamil_Consonant : AFunc := ⟨1, 16, [.tmp 2, .tmp 3], k_tamil_Consonant⟩
theorem ok_tamil_Consonant : FOK Try.prog 50 F_tamil_Consonant := FOK.of [] Try.func50 (by kernel_rfl) (by kernel_rfl)

-- lontar/tamil.Consonants
@[reducible] def i_tamil_Consonants : Nat := 51
def k_tamil_Consonants : ACode :=
 (.seq (.ops [⟨(some 0), .mv (.const (.int .i64 0)), none⟩])
 (.seq (.ops [⟨(some 1), .call (.func 54) [], none⟩,
   ⟨(some 2), .len false (.tmp 1), none⟩,
   ⟨(some 0), .mv (.tmp 2), none⟩])
 .ret))
def F_tamil_Consonants : AFunc := ⟨0, 3, [.tmp 0], k_tamil_Consonants⟩
theorem ok_tamil_Consonants : FOK Try.prog 51 F_tamil_Consonants := FOK.of [] Try.func51 (by kernel_rfl) (by kernel_rfl)

-- lontar/tamil.one
@[reducible] def i_tamil_one : Nat := 52
def k_tamil_one : ACode :=
 (.seq (.ops [⟨(some 4), .alloc [(.slice none 0 0), (.slice none 0 0)] 46, none⟩])
 (.seq (.ops [⟨(some 5), .mv (.tmp 0), none⟩,
   ⟨(some 6), .mv (.tmp 1), none⟩,
   ⟨(some 7), .build [(.slice none 0 0), (.slice none 0 0)] [(0, 1, (.tmp 5)), (1, 1, (.tmp 6))], none⟩,
   ⟨none, .store (.tmp 4) (.tmp 7) 2, none⟩])
 .ret))
def F_tamil_one : AFunc := ⟨2, 8, [.cell 4 (some 2)], k_tamil_one⟩
theorem ok_tamil_one : FOK Try.prog 52 F_tamil_one := FOK.of [] Try.func52 (by kernel_rfl) (by kernel_rfl)

-- lontar/tamil.vowels
@[reducible] def i_tamil_vowels : Nat := 53
def k_tamil_vowels : ACode :=
 (.seq (.ops [⟨(some 0), .mv (.const (.slice none 0 0)), none⟩])
 (.seq (.ops [⟨(some 1), .bslice 3 13 1 [(.int .i64 0)] [(0, 1, (.const (.int .i64 2949))), (1, 1, (.const (.int .i64 2950))), (2, 1, (.const (.int .i64 2951))), (3, 1, (.const (.int .i64 2952))), (4, 1, (.const (.int .i64 2953))), (5, 1, (.const (.int .i64 2954))), (6, 1, (.const (.int .i64 2958))), (7, 1, (.const (.int .i64 2959))), (8, 1, (.const (.int .i64 2960))), (9, 1, (.const (.int .i64 2962))), (10, 1, (.const (.int .i64 2963))), (11, 1, (.const (.int .i64 2964))), (12, 1, (.const (.int .i64 2947)))], none⟩,
   ⟨(some 0), .mv (.tmp 1), none⟩])
 .ret))
def F_tamil_vowels : AFunc := ⟨0, 2, [.tmp 0], k_tamil_vowels⟩
theorem ok_tamil_vowels : FOK Try.prog 53 F_tamil_vowels := FOK.of [] Try.func53 (by kernel_rfl) (by kernel_rfl)

-- lontar/tamil.consonants
@[reducible] def i_tamil_consonants : Nat := 54
def k_tamil_consonants : ACode :=
 (.seq (.ops [⟨(some 0), .mv (.const (.slice none 0 0)), none⟩])
 (.seq (.ops [⟨(some 1), .bslice 3 22 1 [(.int .i64 0)] [(0, 1, (.const (.int .i64 2965))), (1, 1, (.const (.int .i64 2969))), (2, 1, (.const (.int .i64 2970))), (3, 1, (.const (.int .i64 2974))), (4, 1, (.const (.int .i64 2975))), (5, 1, (.const (.int .i64 2979))), (6, 1, (.const (.int .i64 2980))), (7, 1, (.const (.int .i64 2984))), (8, 1, (.const (.int .i64 2986))), (9, 1, (.const (.int .i64 2990))), (10, 1, (.const (.int .i64 2991))), (11, 1, (.const (.int .i64 2992))), (12, 1, (.const (.int .i64 2994))), (13, 1, (.const (.int .i64 2997))), (14, 1, (.const (.int .i64 2996))), (15, 1, (.const (.int .i64 2995))), (16, 1, (.const (.int .i64 2993))), (17, 1, (.const (.int .i64 2985))), (18, 1, (.const (.int .i64 2972))), (19, 1, (.const (.int .i64 2999))), (20, 1, (.const (.int .i64 3000))), (21, 1, (.const (.int .i64 3001)))], none⟩,
   ⟨(some 0), .mv (.tmp 1), none⟩])
 .ret))
def F_tamil_consonants : AFunc := ⟨0, 2, [.tmp 0], k_tamil_consonants⟩
theorem ok_tamil_consonants : FOK Try.prog 54 F_tamil_consonants := FOK.of [] Try.func54 (by kernel_rfl) (by kernel_rfl)

-- slices.IndexFunc[[]lontar/api.Rule,lontar/api.Rule]
@[reducible] def i_api_Rule_ : Nat := 55
/-- api_Rule_: the body of loop 0 -/
def b_api_Rule__0 : ACode :=
 (.seq (.ops [⟨(some 9), .int .lss (.tmp 8) (.tmp 7), none⟩])
 (.seq (.cond (.tmp 9)
  .skip
  (.exit 0))
 (.seq (.block 1 (.seq (.ops [⟨(some 10), .mv (.tmp 8), none⟩,
   ⟨(some 5), .mv (.tmp 10), none⟩])
 (.seq (.ops [⟨(some 11), .mv (.tmp 1), none⟩,
   ⟨(some 12), .mv (.tmp 0), none⟩,
   ⟨(some 13), .mv (.tmp 5), none⟩,
   ⟨(some 14), .iaddr (.tmp 12) (.tmp 13) 2, none⟩,
   ⟨(some 15), .load (.tmp 14) (some 2), none⟩,
   ⟨(some 16), .call (.tmp 11) [(.tmp 15)], none⟩])
 (.cond (.tmp 16)
  (.seq (.ops [⟨(some 17), .mv (.tmp 5), none⟩,
    ⟨(some 4), .mv (.tmp 17), none⟩])
  .ret)
  .skip))))
 (.ops [⟨(some 18), .int .add (.tmp 8) (.const (.int .i64 1)), none⟩,
   ⟨(some 8), .mv (.tmp 18), none⟩]))))

def k_api_Rule_ : ACode :=
 (.seq (.ops [⟨(some 4), .mv (.const (.int .i64 0)), none⟩])
 (.seq (.seq (.ops [⟨(some 6), .mv (.tmp 0), none⟩,
   ⟨(some 7), .len false (.tmp 6), none⟩,
   ⟨(some 8), .mv (.const (.int .i64 0)), none⟩])
 (.block 0 (.loop [0, 1, 7, 8] b_api_Rule__0)))
 (.seq (.ops [⟨(some 4), .mv (.const (.int .i64 (-1))), none⟩])
 .ret)))
def F_api_Rule_ : AFunc := ⟨2, 19, [.tmp 4], k_api_Rule_⟩
theorem ok_api_Rule_ : FOK Try.prog 55 F_api_Rule_ := FOK.of [[0, 1, 7, 8]] Try.func55 (by kernel_rfl) (by kernel_rfl)

-- lontar/rule.Find$1
@[reducible] def i_rule_Find_1 : Nat := 56
def k_rule_Find_1 : ACode :=
 (.seq (.ops [⟨(some 2), .box (.tmp 0) 46, none⟩,
   ⟨(some 3), .mv (.const (.bool false)), none⟩])
 (.seq (.ops [⟨(some 4), .faddr (.tmp 2) 0, none⟩,
   ⟨(some 5), .load (.tmp 4) none, none⟩,
   ⟨(some 6), .load (.tmp 1) none, none⟩,
   ⟨(some 7), .call (.func 57) [(.tmp 5), (.tmp 6)], none⟩,
   ⟨(some 3), .mv (.tmp 7), none⟩])
 .ret))
def F_rule_Find_1 : AFunc := ⟨2, 8, [.tmp 3], k_rule_Find_1⟩
theorem ok_rule_Find_1 : FOK Try.prog 56 F_rule_Find_1 := FOK.of [] Try.func56 (by kernel_rfl) (by kernel_rfl)

-- slices.Equal[[]int,int]
@[reducible] def i_slices_Equal___int_int_ : Nat := 57
/-- slices_Equal___int_int_: the body of loop 0 -/
def b_slices_Equal___int_int__0 : ACode :=
 (.seq (.ops [⟨(some 14), .int .lss (.tmp 13) (.tmp 12), none⟩])
 (.seq (.cond (.tmp 14)
  .skip
  (.exit 0))
 (.seq (.block 1 (.seq (.ops [⟨(some 15), .mv (.tmp 13), none⟩,
   ⟨(some 5), .mv (.tmp 15), none⟩])
 (.seq (.draw [⟨(some 16), .mv (.tmp 0), none⟩,
   ⟨(some 17), .mv (.tmp 5), none⟩,
   ⟨(some 18), .iaddr (.tmp 16) (.tmp 17) 1, none⟩,
   ⟨(some 19), .load (.tmp 18) none, none⟩,
   ⟨(some 20), .mv (.tmp 1), none⟩,
   ⟨(some 21), .mv (.tmp 5), none⟩,
   ⟨(some 22), .iaddr (.tmp 20) (.tmp 21) 1, none⟩,
   ⟨(some 23), .load (.tmp 22) none, none⟩,
   ⟨(some 24), .int .neq (.tmp 19) (.tmp 23), none⟩])
 (.cond (.tmp 24)
  (.seq (.ops [⟨(some 4), .mv (.const (.bool false)), none⟩])
  .ret)
  .skip))))
 (.ops [⟨(some 25), .int .add (.tmp 13) (.const (.int .i64 1)), none⟩,
   ⟨(some 13), .mv (.tmp 25), none⟩]))))

def k_slices_Equal___int_int_ : ACode :=
 (.seq (.ops [⟨(some 4), .mv (.const (.bool false)), none⟩])
 (.seq (.seq (.ops [⟨(some 6), .mv (.tmp 0), none⟩,
   ⟨(some 7), .len false (.tmp 6), none⟩,
   ⟨(some 8), .mv (.tmp 1), none⟩,
   ⟨(some 9), .len false (.tmp 8), none⟩,
   ⟨(some 10), .int .neq (.tmp 7) (.tmp 9), none⟩])
 (.cond (.tmp 10)
  (.seq (.ops [⟨(some 4), .mv (.const (.bool false)), none⟩])
  .ret)
  .skip))
 (.seq (.seq (.ops [⟨(some 11), .mv (.tmp 0), none⟩,
   ⟨(some 12), .len false (.tmp 11), none⟩,
   ⟨(some 13), .mv (.const (.int .i64 0)), none⟩])
 (.block 0 (.loop [0, 1, 12, 13] b_slices_Equal___int_int__0)))
 (.seq (.ops [⟨(some 4), .mv (.const (.bool true)), none⟩])
 .ret))))
def F_slices_Equal___int_int_ : AFunc := ⟨2, 26, [.tmp 4], k_slices_Equal___int_int_⟩
theorem ok_slices_Equal___int_int_ : FOK Try.prog 57 F_slices_Equal___int_int_ := FOK.of [[0, 1, 12, 13], [0, 1, 2, 3, 4, 5, 6, 7, 8]] Try.func57 (by kernel_rfl) (by kernel_rfl)

-- lontar/lontarlaw03.may
@[reducible] def i_lontarlaw03_may : Nat := 58
/-- lontarlaw03_may: the body of loop 0 -/
def b_lontarlaw03_may_0 : ACode :=
 (.seq (.ops [⟨(some 8), .int .lss (.tmp 7) (.tmp 6), none⟩])
 (.seq (.cond (.tmp 8)
  .skip
  (.exit 0))
 (.seq (.block 1 (.seq (.ops [⟨(some 9), .iaddr (.tmp 5) (.tmp 7) 1, none⟩,
   ⟨(some 10), .load (.tmp 9) none, none⟩,
   ⟨(some 4), .mv (.tmp 10), none⟩])
 (.seq (.ops [⟨(some 11), .mv (.tmp 4), none⟩,
   ⟨(some 12), .int .lss (.tmp 11) (.const (.int .i64 0)), none⟩,
   ⟨(some 13), .mv (.tmp 12), none⟩,
   ⟨(some 14), .mv (.tmp 4), some (13, false)⟩,
   ⟨(some 15), .int .gtr (.tmp 14) (.const (.int .i64 1114111)), some (13, false)⟩,
   ⟨(some 16), .pick (.tmp 13) (.const (.bool true)) (.tmp 15), none⟩])
 (.cond (.tmp 16)
  (.seq (.ops [⟨(some 2), .mv (.const (.bool false)), none⟩])
  .ret)
  .skip))))
 (.ops [⟨(some 17), .int .add (.tmp 7) (.const (.int .i64 1)), none⟩,
   ⟨(some 7), .mv (.tmp 17), none⟩]))))

def k_lontarlaw03_may : ACode :=
 (.seq (.ops [⟨(some 2), .mv (.const (.bool false)), none⟩])
 (.seq (.seq (.ops [⟨(some 5), .mv (.tmp 0), none⟩,
   ⟨(some 6), .len false (.tmp 5), none⟩,
   ⟨(some 7), .mv (.const (.int .i64 0)), none⟩])
 (.block 0 (.loop [0, 5, 6, 7] b_lontarlaw03_may_0)))
 (.seq (.ops [⟨(some 18), .mv (.tmp 0), none⟩,
   ⟨(some 19), .len false (.tmp 18), none⟩,
   ⟨(some 20), .int .gtr (.tmp 19) (.const (.int .i64 0)), none⟩,
   ⟨(some 21), .mv (.tmp 20), none⟩,
   ⟨(some 22), .mv (.tmp 0), some (21, true)⟩,
   ⟨(some 23), .len false (.tmp 22), some (21, true)⟩,
   ⟨(some 24), .int .lss (.tmp 23) (.const (.int .i64 9)), some (21, true)⟩,
   ⟨(some 25), .pick (.tmp 21) (.tmp 24) (.const (.bool false)), none⟩,
   ⟨(some 2), .mv (.tmp 25), none⟩])
 .ret)))
def F_lontarlaw03_may : AFunc := ⟨1, 26, [.tmp 2], k_lontarlaw03_may⟩
theorem ok_lontarlaw03_may : FOK Try.prog 58 F_lontarlaw03_may := FOK.of [[0, 5, 6, 7]] Try.func58 (by kernel_rfl) (by kernel_rfl)

-- lontar/lontarlaw03.find
@[reducible] def i_lontarlaw03_find : Nat := 59
/-- lontarlaw03_find: the body of loop 0 -/
def b_lontarlaw03_find_0 : ACode :=
 (.seq (.ops [⟨(some 10), .int .lss (.tmp 9) (.tmp 8), none⟩])
 (.seq (.cond (.tmp 10)
  .skip
  (.exit 0))
 (.seq (.block 1 (.seq (.ops [⟨(some 11), .mv (.tmp 9), none⟩,
   ⟨(some 12), .iaddr (.tmp 7) (.tmp 9) 2, none⟩,
   ⟨(some 13), .load (.tmp 12) (some 2), none⟩,
   ⟨(some 6), .alloc [(.slice none 0 0), (.slice none 0 0)] 46, none⟩,
   ⟨(some 5), .mv (.tmp 11), none⟩,
   ⟨none, .store (.tmp 6) (.tmp 13) 2, none⟩])
 (.seq (.ops [⟨(some 14), .faddr (.tmp 6) 0, none⟩,
   ⟨(some 15), .load (.tmp 14) none, none⟩,
   ⟨(some 16), .mv (.tmp 1), none⟩,
   ⟨(some 17), .call (.func 24) [(.tmp 15), (.tmp 16)], none⟩])
 (.cond (.tmp 17)
  (.seq (.ops [⟨(some 18), .mv (.tmp 5), none⟩,
    ⟨(some 4), .mv (.tmp 18), none⟩])
  .ret)
  .skip))))
 (.ops [⟨(some 19), .int .add (.tmp 9) (.const (.int .i64 1)), none⟩,
   ⟨(some 9), .mv (.tmp 19), none⟩]))))

def k_lontarlaw03_find : ACode :=
 (.seq (.ops [⟨(some 4), .mv (.const (.int .i64 0)), none⟩])
 (.seq (.seq (.ops [⟨(some 7), .mv (.tmp 0), none⟩,
   ⟨(some 8), .len false (.tmp 7), none⟩,
   ⟨(some 9), .mv (.const (.int .i64 0)), none⟩])
 (.block 0 (.loop [1, 7, 8, 9] b_lontarlaw03_find_0)))
 (.seq (.ops [⟨(some 4), .mv (.const (.int .i64 (-1))), none⟩])
 .ret)))
def F_lontarlaw03_find : AFunc := ⟨2, 20, [.tmp 4], k_lontarlaw03_find⟩
theorem ok_lontarlaw03_find : FOK Try.prog 59 F_lontarlaw03_find := FOK.of [[1, 7, 8, 9]] Try.func59 (by kernel_rfl) (by kernel_rfl)

-- (*lontar/trie.Trie).Step
@[reducible] def i_trie_Trie__Step : Nat := 60
/-- trie_Trie__Step: the body of loop 0 -/
def b_trie_Trie__Step_0 : ACode :=
 (.seq (.seq (.ops [⟨(some 28), .mv (.tmp 8), none⟩,
   ⟨(some 29), .int .gtr (.tmp 28) (.const (.int .i64 0)), none⟩])
 (.cond (.tmp 29)
  .skip
  (.exit 0)))
 (.seq (.block 1 (.seq (.ops [⟨(some 38), .mv (.tmp 0), none⟩,
   ⟨(some 39), .nilChk (.tmp 38), none⟩,
   ⟨(some 40), .faddr (.tmp 39) 0, none⟩,
   ⟨(some 41), .load (.tmp 40) none, none⟩,
   ⟨(some 42), .mv (.tmp 8), none⟩,
   ⟨(some 43), .iaddr (.tmp 41) (.tmp 42) 4, none⟩,
   ⟨(some 44), .faddr (.tmp 43) 0, none⟩,
   ⟨(some 45), .load (.tmp 44) none, none⟩,
   ⟨(some 46), .mv (.tmp 2), none⟩,
   ⟨(some 47), .int .eql (.tmp 45) (.tmp 46), none⟩])
 (.cond (.tmp 47)
  (.seq (.ops [⟨(some 48), .mv (.tmp 8), none⟩,
    ⟨(some 6), .mv (.tmp 48), none⟩,
    ⟨(some 7), .mv (.const (.bool true)), none⟩])
  .ret)
  .skip)))
 (.ops [⟨(some 30), .mv (.tmp 0), none⟩,
   ⟨(some 31), .nilChk (.tmp 30), none⟩,
   ⟨(some 32), .faddr (.tmp 31) 0, none⟩,
   ⟨(some 33), .load (.tmp 32) none, none⟩,
   ⟨(some 34), .mv (.tmp 8), none⟩,
   ⟨(some 35), .iaddr (.tmp 33) (.tmp 34) 4, none⟩,
   ⟨(some 36), .faddr (.tmp 35) 2, none⟩,
   ⟨(some 37), .load (.tmp 36) none, none⟩,
   ⟨(some 8), .mv (.tmp 37), none⟩])))

def k_trie_Trie__Step : ACode :=
 (.seq (.ops [⟨(some 6), .mv (.const (.int .i64 0)), none⟩,
   ⟨(some 7), .mv (.const (.bool false)), none⟩])
 (.seq (.seq (.ops [⟨(some 9), .mv (.tmp 1), none⟩,
   ⟨(some 10), .int .lss (.tmp 9) (.const (.int .i64 0)), none⟩,
   ⟨(some 11), .mv (.tmp 10), none⟩,
   ⟨(some 12), .mv (.tmp 1), some (11, false)⟩,
   ⟨(some 13), .mv (.tmp 0), some (11, false)⟩,
   ⟨(some 14), .nilChk (.tmp 13), some (11, false)⟩,
   ⟨(some 15), .faddr (.tmp 14) 0, some (11, false)⟩,
   ⟨(some 16), .load (.tmp 15) none, some (11, false)⟩,
   ⟨(some 17), .len false (.tmp 16), some (11, false)⟩,
   ⟨(some 18), .int .geq (.tmp 12) (.tmp 17), some (11, false)⟩,
   ⟨(some 19), .pick (.tmp 11) (.const (.bool true)) (.tmp 18), none⟩])
 (.cond (.tmp 19)
  (.seq (.ops [⟨(some 6), .mv (.const (.int .i64 0)), none⟩,
    ⟨(some 7), .mv (.const (.bool false)), none⟩])
  .ret)
  .skip))
 (.seq (.seq (.ops [⟨(some 20), .mv (.tmp 0), none⟩,
   ⟨(some 21), .nilChk (.tmp 20), none⟩,
   ⟨(some 22), .faddr (.tmp 21) 0, none⟩,
   ⟨(some 23), .load (.tmp 22) none, none⟩,
   ⟨(some 24), .mv (.tmp 1), none⟩,
   ⟨(some 25), .iaddr (.tmp 23) (.tmp 24) 4, none⟩,
   ⟨(some 26), .faddr (.tmp 25) 1, none⟩,
   ⟨(some 27), .load (.tmp 26) none, none⟩,
   ⟨(some 8), .mv (.tmp 27), none⟩])
 (.block 0 (.loop [0, 2, 8] b_trie_Trie__Step_0)))
 (.seq (.ops [⟨(some 6), .mv (.const (.int .i64 0)), none⟩,
   ⟨(some 7), .mv (.const (.bool false)), none⟩])
 .ret))))
def F_trie_Trie__Step : AFunc := ⟨3, 49, [.tmp 6, .tmp 7], k_trie_Trie__Step⟩
theorem ok_trie_Trie__Step : FOK Try.prog 60 F_trie_Trie__Step := FOK.of [[0, 2, 8]] Try.func60 (by kernel_rfl) (by kernel_rfl)

-- lontar/table.used
@[reducible] def i_table_used : Nat := 61
def k_table_used : ACode :=
 (.seq (.ops [⟨(some 3), .box (.tmp 1) 3, none⟩,
   ⟨(some 4), .mv (.const (.bool false)), none⟩])
 (.seq (.ops [⟨(some 5), .mv (.tmp 0), none⟩,
   ⟨(some 6), .mkfun (.func 68) [] [(.tmp 3)], none⟩,
   ⟨(some 7), .call (.func 67) [(.tmp 5), (.tmp 6)], none⟩,
   ⟨(some 4), .mv (.tmp 7), none⟩])
 .ret))
def F_table_used : AFunc := ⟨2, 8, [.tmp 4], k_table_used⟩
theorem ok_table_used : FOK Try.prog 61 F_table_used := FOK.of [] Try.func61 (by kernel_rfl) (by kernel_rfl)

-- lontar/rewrite.one
@[reducible] def i_rewrite_one : Nat := 62
def k_rewrite_one : ACode :=
 (.seq (.ops [⟨(some 6), .alloc [(.int .i64 0), (.int .i64 0), (.slice none 0 0), (.int .i64 0)] 41, none⟩])
 (.seq (.ops [⟨(some 11), .mv (.tmp 0), none⟩,
   ⟨(some 12), .mv (.tmp 1), none⟩,
   ⟨(some 13), .call (.func 45) [(.tmp 11), (.tmp 12)], none⟩,
   ⟨(some 10), .mv (.tmp 13), none⟩,
   ⟨(some 14), .ext (.tmp 10) 0, none⟩,
   ⟨(some 15), .ext (.tmp 10) 1, none⟩,
   ⟨(some 16), .ext (.tmp 10) 2, none⟩,
   ⟨(some 7), .mv (.tmp 14), none⟩,
   ⟨(some 8), .mv (.tmp 15), none⟩,
   ⟨(some 9), .mv (.tmp 16), none⟩])
 (.seq (.seq (.ops [⟨(some 17), .mv (.tmp 7), none⟩,
   ⟨(some 18), .int .lss (.tmp 17) (.const (.int .i64 0)), none⟩])
 (.cond (.tmp 18)
  (.seq (.ops [⟨(some 19), .mv (.tmp 2), none⟩,
    ⟨(some 20), .build [(.int .i64 0), (.int .i64 0), (.slice none 0 0), (.int .i64 0)] [(0, 1, (.tmp 19)), (1, 1, (.const (.int .i64 1))), (3, 1, (.const (.int .i64 3)))], none⟩,
    ⟨none, .store (.tmp 6) (.tmp 20) 4, none⟩])
  .ret)
  .skip))
 (.seq (.ops [⟨(some 21), .mv (.tmp 2), none⟩,
   ⟨(some 22), .mv (.tmp 8), none⟩,
   ⟨(some 23), .mv (.tmp 0), none⟩,
   ⟨(some 24), .mv (.tmp 7), none⟩,
   ⟨(some 25), .call (.func 69) [(.tmp 23), (.tmp 24)], none⟩,
   ⟨(some 26), .build [(.int .i64 0), (.int .i64 0), (.slice none 0 0), (.int .i64 0)] [(0, 1, (.tmp 21)), (1, 1, (.tmp 22)), (2, 1, (.tmp 25))], none⟩,
   ⟨none, .store (.tmp 6) (.tmp 26) 4, none⟩])
 .ret))))
def F_rewrite_one : AFunc := ⟨3, 27, [.cell 6 (some 4)], k_rewrite_one⟩
theorem ok_rewrite_one : FOK Try.prog 62 F_rewrite_one := FOK.of [] Try.func62 (by kernel_rfl) (by kernel_rfl)

-- (*lontar/trie.Trie).Rule
@[reducible] def i_trie_Trie__Rule : Nat := 63
def k_trie_Trie__Rule : ACode :=
 (.seq (.ops [⟨(some 4), .mv (.const (.int .i64 0)), none⟩])
 (.seq (.seq (.ops [⟨(some 5), .mv (.tmp 1), none⟩,
   ⟨(some 6), .int .lss (.tmp 5) (.const (.int .i64 0)), none⟩,
   ⟨(some 7), .mv (.tmp 6), none⟩,
   ⟨(some 8), .mv (.tmp 1), some (7, false)⟩,
   ⟨(some 9), .mv (.tmp 0), some (7, false)⟩,
   ⟨(some 10), .nilChk (.tmp 9), some (7, false)⟩,
   ⟨(some 11), .faddr (.tmp 10) 0, some (7, false)⟩,
   ⟨(some 12), .load (.tmp 11) none, some (7, false)⟩,
   ⟨(some 13), .len false (.tmp 12), some (7, false)⟩,
   ⟨(some 14), .int .geq (.tmp 8) (.tmp 13), some (7, false)⟩,
   ⟨(some 15), .pick (.tmp 7) (.const (.bool true)) (.tmp 14), none⟩])
 (.cond (.tmp 15)
  (.seq (.ops [⟨(some 4), .mv (.const (.int .i64 (-1))), none⟩])
  .ret)
  .skip))
 (.seq (.ops [⟨(some 16), .mv (.tmp 0), none⟩,
   ⟨(some 17), .nilChk (.tmp 16), none⟩,
   ⟨(some 18), .faddr (.tmp 17) 0, none⟩,
   ⟨(some 19), .load (.tmp 18) none, none⟩,
   ⟨(some 20), .mv (.tmp 1), none⟩,
   ⟨(some 21), .iaddr (.tmp 19) (.tmp 20) 4, none⟩,
   ⟨(some 22), .faddr (.tmp 21) 3, none⟩,
   ⟨(some 23), .load (.tmp 22) none, none⟩,
   ⟨(some 4), .mv (.tmp 23), none⟩])
 .ret)))
def F_trie_Trie__Rule : AFunc := ⟨2, 24, [.tmp 4], k_trie_Trie__Rule⟩
theorem ok_trie_Trie__Rule : FOK Try.prog 63 F_trie_Trie__Rule := FOK.of [] Try.func63 (by kernel_rfl) (by kernel_rfl)

-- (*lontar/trie.Trie).Leaf
@[reducible] def i_trie_Trie__Leaf : Nat := 64
def k_trie_Trie__Leaf : ACode :=
 (.seq (.ops [⟨(some 4), .mv (.const (.bool false)), none⟩])
 (.seq (.ops [⟨(some 5), .mv (.tmp 1), none⟩,
   ⟨(some 6), .int .lss (.tmp 5) (.const (.int .i64 0)), none⟩,
   ⟨(some 7), .mv (.tmp 6), none⟩,
   ⟨(some 8), .mv (.tmp 1), some (7, false)⟩,
   ⟨(some 9), .mv (.tmp 0), some (7, false)⟩,
   ⟨(some 10), .nilChk (.tmp 9), some (7, false)⟩,
   ⟨(some 11), .faddr (.tmp 10) 0, some (7, false)⟩,
   ⟨(some 12), .load (.tmp 11) none, some (7, false)⟩,
   ⟨(some 13), .len false (.tmp 12), some (7, false)⟩,
   ⟨(some 14), .int .geq (.tmp 8) (.tmp 13), some (7, false)⟩,
   ⟨(some 15), .pick (.tmp 7) (.const (.bool true)) (.tmp 14), none⟩,
   ⟨(some 16), .mv (.tmp 15), none⟩,
   ⟨(some 17), .mv (.tmp 0), some (16, false)⟩,
   ⟨(some 18), .nilChk (.tmp 17), some (16, false)⟩,
   ⟨(some 19), .faddr (.tmp 18) 0, some (16, false)⟩,
   ⟨(some 20), .load (.tmp 19) none, some (16, false)⟩,
   ⟨(some 21), .mv (.tmp 1), some (16, false)⟩,
   ⟨(some 22), .iaddr (.tmp 20) (.tmp 21) 4, some (16, false)⟩,
   ⟨(some 23), .faddr (.tmp 22) 1, some (16, false)⟩,
   ⟨(some 24), .load (.tmp 23) none, some (16, false)⟩,
   ⟨(some 25), .int .eql (.tmp 24) (.const (.int .i64 0)), some (16, false)⟩,
   ⟨(some 26), .pick (.tmp 16) (.const (.bool true)) (.tmp 25), none⟩,
   ⟨(some 4), .mv (.tmp 26), none⟩])
 .ret))
def F_trie_Trie__Leaf : AFunc := ⟨2, 27, [.tmp 4], k_trie_Trie__Leaf⟩
theorem ok_trie_Trie__Leaf : FOK Try.prog 64 F_trie_Trie__Leaf := FOK.of [] Try.func64 (by kernel_rfl) (by kernel_rfl)

-- slices.ContainsFunc[[]int,int]
@[reducible] def i_slices_ContainsFunc___int_int_ : Nat := 65
def k_slices_ContainsFunc___int_int_ : ACode :=
 (.seq (.ops [⟨(some 4), .mv (.const (.bool false)), none⟩])
 (.seq (.ops [⟨(some 5), .mv (.tmp 0), none⟩,
   ⟨(some 6), .mv (.tmp 1), none⟩,
   ⟨(some 7), .call (.func 70) [(.tmp 5), (.tmp 6)], none⟩,
   ⟨(some 8), .int .geq (.tmp 7) (.const (.int .i64 0)), none⟩,
   ⟨(some 4), .mv (.tmp 8), none⟩])
 .ret))
def F_slices_ContainsFunc___int_int_ : AFunc := ⟨2, 9, [.tmp 4], k_slices_ContainsFunc___int_int_⟩
theorem ok_slices_ContainsFunc___int_int_ : FOK Try.prog 65 F_slices_ContainsFunc___int_int_ := FOK.of [] Try.func65 (by kernel_rfl) (by kernel_rfl)

-- lontar/rule.side$1
@[reducible] def i_rule_side_1 : Nat := 66
def k_rule_side_1 : ACode :=
 (.seq (.ops [⟨(some 2), .mv (.const (.bool false)), none⟩])
 (.seq (.ops [⟨(some 3), .mv (.tmp 0), none⟩,
   ⟨(some 4), .int .lss (.tmp 3) (.const (.int .i64 0)), none⟩,
   ⟨(some 5), .mv (.tmp 4), none⟩,
   ⟨(some 6), .mv (.tmp 0), some (5, false)⟩,
   ⟨(some 7), .int .gtr (.tmp 6) (.const (.int .i64 1114111)), some (5, false)⟩,
   ⟨(some 8), .pick (.tmp 5) (.const (.bool true)) (.tmp 7), none⟩,
   ⟨(some 2), .mv (.tmp 8), none⟩])
 .ret))
def F_rule_side_1 : AFunc := ⟨1, 9, [.tmp 2], k_rule_side_1⟩
theorem ok_rule_side_1 : FOK Try.prog 66 F_rule_side_1 := FOK.of [] Try.func66 (by kernel_rfl) (by kernel_rfl)

-- lontar/table.used$1
@[reducible] def i_table_used_1 : Nat := 68
def k_table_used_1 : ACode :=
 (.seq (.ops [⟨(some 2), .box (.tmp 0) 46, none⟩,
   ⟨(some 3), .mv (.const (.bool false)), none⟩])
 (.seq (.draw [⟨(some 4), .faddr (.tmp 2) 0, none⟩,
   ⟨(some 5), .load (.tmp 4) none, none⟩,
   ⟨(some 6), .faddr (.tmp 2) 0, none⟩,
   ⟨(some 7), .load (.tmp 6) none, none⟩,
   ⟨(some 8), .len false (.tmp 7), none⟩,
   ⟨(some 9), .int .sub (.tmp 8) (.const (.int .i64 1)), none⟩,
   ⟨(some 10), .iaddr (.tmp 5) (.tmp 9) 1, none⟩,
   ⟨(some 11), .load (.tmp 10) none, none⟩,
   ⟨(some 12), .load (.tmp 1) none, none⟩,
   ⟨(some 13), .int .eql (.tmp 11) (.tmp 12), none⟩,
   ⟨(some 3), .mv (.tmp 13), none⟩])
 .ret))
def F_table_used_1 : AFunc := ⟨2, 14, [.tmp 3], k_table_used_1⟩
theorem ok_table_used_1 : FOK Try.prog 68 F_table_used_1 := FOK.of [[0, 1, 2, 3, 4, 5, 6, 7, 8, 9, 10]] Try.func68 (by kernel_rfl) (by kernel_rfl)

-- (*lontar/trie.Trie).Out
@[reducible] def i_trie_Trie__Out : Nat := 69
def k_trie_Trie__Out : ACode :=
 (.seq (.ops [⟨(some 4), .mv (.const (.slice none 0 0)), none⟩])
 (.seq (.seq (.ops [⟨(some 5), .mv (.tmp 1), none⟩,
   ⟨(some 6), .int .lss (.tmp 5) (.const (.int .i64 0)), none⟩,
   ⟨(some 7), .mv (.tmp 6), none⟩,
   ⟨(some 8), .mv (.tmp 1), some (7, false)⟩,
   ⟨(some 9), .mv (.tmp 0), some (7, false)⟩,
   ⟨(some 10), .nilChk (.tmp 9), some (7, false)⟩,
   ⟨(some 11), .faddr (.tmp 10) 1, some (7, false)⟩,
   ⟨(some 12), .load (.tmp 11) none, some (7, false)⟩,
   ⟨(some 13), .len false (.tmp 12), some (7, false)⟩,
   ⟨(some 14), .int .geq (.tmp 8) (.tmp 13), some (7, false)⟩,
   ⟨(some 15), .pick (.tmp 7) (.const (.bool true)) (.tmp 14), none⟩])
 (.cond (.tmp 15)
  (.seq (.ops [⟨(some 4), .mv (.const (.slice none 0 0)), none⟩])
  .ret)
  .skip))
 (.seq (.ops [⟨(some 16), .mv (.tmp 0), none⟩,
   ⟨(some 17), .nilChk (.tmp 16), none⟩,
   ⟨(some 18), .faddr (.tmp 17) 1, none⟩,
   ⟨(some 19), .load (.tmp 18) none, none⟩,
   ⟨(some 20), .mv (.tmp 1), none⟩,
   ⟨(some 21), .iaddr (.tmp 19) (.tmp 20) 2, none⟩,
   ⟨(some 22), .faddr (.tmp 21) 1, none⟩,
   ⟨(some 23), .load (.tmp 22) none, none⟩,
   ⟨(some 24), .append (.const (.slice none 0 0)) (.tmp 23) 3 1 8, none⟩,
   ⟨(some 4), .mv (.tmp 24), none⟩])
 .ret)))
def F_trie_Trie__Out : AFunc := ⟨2, 25, [.tmp 4], k_trie_Trie__Out⟩
theorem ok_trie_Trie__Out : FOK Try.prog 69 F_trie_Trie__Out := FOK.of [] Try.func69 (by kernel_rfl) (by kernel_rfl)

-- slices.IndexFunc[[]int,int]
@[reducible] def i_slices_IndexFunc___int_int_ : Nat := 70
/-- slices_IndexFunc___int_int_: the body of loop 0 -/
def b_slices_IndexFunc___int_int__0 : ACode :=
 (.seq (.ops [⟨(some 9), .int .lss (.tmp 8) (.tmp 7), none⟩])
 (.seq (.cond (.tmp 9)
  .skip
  (.exit 0))
 (.seq (.block 1 (.seq (.ops [⟨(some 10), .mv (.tmp 8), none⟩,
   ⟨(some 5), .mv (.tmp 10), none⟩])
 (.seq (.ops [⟨(some 11), .mv (.tmp 1), none⟩,
   ⟨(some 12), .mv (.tmp 0), none⟩,
   ⟨(some 13), .mv (.tmp 5), none⟩,
   ⟨(some 14), .iaddr (.tmp 12) (.tmp 13) 1, none⟩,
   ⟨(some 15), .load (.tmp 14) none, none⟩,
   ⟨(some 16), .call (.tmp 11) [(.tmp 15)], none⟩])
 (.cond (.tmp 16)
  (.seq (.ops [⟨(some 17), .mv (.tmp 5), none⟩,
    ⟨(some 4), .mv (.tmp 17), none⟩])
  .ret)
  .skip))))
 (.ops [⟨(some 18), .int .add (.tmp 8) (.const (.int .i64 1)), none⟩,
   ⟨(some 8), .mv (.tmp 18), none⟩]))))

def k_slices_IndexFunc___int_int_ : ACode :=
 (.seq (.ops [⟨(some 4), .mv (.const (.int .i64 0)), none⟩])
 (.seq (.seq (.ops [⟨(some 6), .mv (.tmp 0), none⟩,
   ⟨(some 7), .len false (.tmp 6), none⟩,
   ⟨(some 8), .mv (.const (.int .i64 0)), none⟩])
 (.block 0 (.loop [0, 1, 7, 8] b_slices_IndexFunc___int_int__0)))
 (.seq (.ops [⟨(some 4), .mv (.const (.int .i64 (-1))), none⟩])
 .ret)))
def F_slices_IndexFunc___int_int_ : AFunc := ⟨2, 19, [.tmp 4], k_slices_IndexFunc___int_int_⟩
theorem ok_slices_IndexFunc___int_int_ : FOK Try.prog 70 F_slices_IndexFunc___int_int_ := FOK.of [[0, 1, 7, 8]] Try.func70 (by kernel_rfl) (by kernel_rfl)

-- slices.ContainsFunc[[]lontar/api.Rule,lontar/api.Rule]
@[reducible] def i_cf_Rule_ : Nat := 67
def k_cf_Rule_ : ACode :=
 (.seq (.ops [⟨(some 4), .mv (.const (.bool false)), none⟩])
 (.seq (.ops [⟨(some 5), .mv (.tmp 0), none⟩,
   ⟨(some 6), .mv (.tmp 1), none⟩,
   ⟨(some 7), .call (.func 55) [(.tmp 5), (.tmp 6)], none⟩,
   ⟨(some 8), .int .geq (.tmp 7) (.const (.int .i64 0)), none⟩,
   ⟨(some 4), .mv (.tmp 8), none⟩])
 .ret))
def F_cf_Rule_ : AFunc := ⟨2, 9, [.tmp 4], k_cf_Rule_⟩
theorem ok_cf_Rule_ : FOK Try.prog 67 F_cf_Rule_ := FOK.of [] Try.func67 (by kernel_rfl) (by kernel_rfl)

end Go.Proofs.Ytgonfmpmdahmcaa

/-! Layers 15 and 17: what is known of the calls. -/
set_option linter.unusedSimpArgs false
set_option linter.unusedVariables false
namespace Go.Proofs.Ytgonfmpmdahmcaa
open Go Lon
set_option maxRecDepth 100000
def tab : List (FuncId × AFunc) := [(3, F_lontarlaw15_TableEncode), (4, F_lontarlaw15_TableJoins), (5, F_lontarlaw15_TableDecode), (6, F_lontarlaw15_TableBack), (7, F_lontarlaw15_TableTurn), (8, F_lontarlaw15_TableCodecs), (9, F_lontarlaw15_TableOf), (10, F_lontarlaw17_TamilRight), (11, F_lontarlaw17_TamilMoves), (12, F_lontarlaw17_TamilBack), (13, F_lontarlaw17_TamilVowels), (14, F_lontarlaw15_awake), (15, F_lontarlaw15_Rules), (16, F_table_Of), (17, F_lontarlaw01_Same), (18, F_table_Table__Encode), (19, F_lontarlaw04_Some), (20, F_lontarlaw15_Encode), (21, F_table_Table__Joins), (22, F_lontarlaw15_Joins), (23, F_table_Table__Join), (24, F_lontarlaw01_Units), (25, F_table_Table__Decode), (26, F_lontarlaw05_All), (27, F_lontarlaw03_Rules), (28, F_rule_Check), (29, F_lontarlaw15_Closed), (30, F_table_Table__Longest), (31, F_rule_Longest), (32, F_rule_Turn), (33, F_table_Table__Read), (34, F_table_Table__Write), (35, F_lontarlaw17_awake), (36, F_tamil_Rules), (37, F_rule_Find), (38, F_lontarlaw17_consonants), (39, F_rewrite_Units), (40, F_lontarlaw17_Some), (41, F_lontarlaw03_Right), (42, F_trie_Of), (43, F_table_closed), (44, F_rewrite_All), (45, F_trie_Trie__Longest), (46, F_slices_Clone___int_int_), (47, F_lontarlaw04_Longest), (48, F_lontarlaw03_units), (49, F_rule_side), (50, F_tamil_Consonant), (51, F_tamil_Consonants), (52, F_tamil_one), (53, F_tamil_vowels), (54, F_tamil_consonants), (55, F_api_Rule_), (56, F_rule_Find_1), (57, F_slices_Equal___int_int_), (58, F_lontarlaw03_may), (59, F_lontarlaw03_find), (60, F_trie_Trie__Step), (61, F_table_used), (62, F_rewrite_one), (63, F_trie_Trie__Rule), (64, F_trie_Trie__Leaf), (65, F_slices_ContainsFunc___int_int_), (66, F_rule_side_1), (68, F_table_used_1), (69, F_trie_Trie__Out), (70, F_slices_IndexFunc___int_int_), (67, F_cf_Rule_)]
theorem gok : ∀ g F, tabF tab g = some F → FOK Try.prog g F := tabF_ok (tab_cons ok_lontarlaw15_TableEncode (tab_cons ok_lontarlaw15_TableJoins (tab_cons ok_lontarlaw15_TableDecode (tab_cons ok_lontarlaw15_TableBack (tab_cons ok_lontarlaw15_TableTurn (tab_cons ok_lontarlaw15_TableCodecs (tab_cons ok_lontarlaw15_TableOf (tab_cons ok_lontarlaw17_TamilRight (tab_cons ok_lontarlaw17_TamilMoves (tab_cons ok_lontarlaw17_TamilBack (tab_cons ok_lontarlaw17_TamilVowels (tab_cons ok_lontarlaw15_awake (tab_cons ok_lontarlaw15_Rules (tab_cons ok_table_Of (tab_cons ok_lontarlaw01_Same (tab_cons ok_table_Table__Encode (tab_cons ok_lontarlaw04_Some (tab_cons ok_lontarlaw15_Encode (tab_cons ok_table_Table__Joins (tab_cons ok_lontarlaw15_Joins (tab_cons ok_table_Table__Join (tab_cons ok_lontarlaw01_Units (tab_cons ok_table_Table__Decode (tab_cons ok_lontarlaw05_All (tab_cons ok_lontarlaw03_Rules (tab_cons ok_rule_Check (tab_cons ok_lontarlaw15_Closed (tab_cons ok_table_Table__Longest (tab_cons ok_rule_Longest (tab_cons ok_rule_Turn (tab_cons ok_table_Table__Read (tab_cons ok_table_Table__Write (tab_cons ok_lontarlaw17_awake (tab_cons ok_tamil_Rules (tab_cons ok_rule_Find (tab_cons ok_lontarlaw17_consonants (tab_cons ok_rewrite_Units (tab_cons ok_lontarlaw17_Some (tab_cons ok_lontarlaw03_Right (tab_cons ok_trie_Of (tab_cons ok_table_closed (tab_cons ok_rewrite_All (tab_cons ok_trie_Trie__Longest (tab_cons ok_slices_Clone___int_int_ (tab_cons ok_lontarlaw04_Longest (tab_cons ok_lontarlaw03_units (tab_cons ok_rule_side (tab_cons ok_tamil_Consonant (tab_cons ok_tamil_Consonants (tab_cons ok_tamil_one (tab_cons ok_tamil_vowels (tab_cons ok_tamil_consonants (tab_cons ok_api_Rule_ (tab_cons ok_rule_Find_1 (tab_cons ok_slices_Equal___int_int_ (tab_cons ok_lontarlaw03_may (tab_cons ok_lontarlaw03_find (tab_cons ok_trie_Trie__Step (tab_cons ok_table_used (tab_cons ok_rewrite_one (tab_cons ok_trie_Trie__Rule (tab_cons ok_trie_Trie__Leaf (tab_cons ok_slices_ContainsFunc___int_int_ (tab_cons ok_rule_side_1 (tab_cons ok_table_used_1 (tab_cons ok_trie_Trie__Out (tab_cons ok_slices_IndexFunc___int_int_ (tab_cons ok_cf_Rule_ (tab_nil)))))))))))))))))))))))))))))))))))))))))))))))))))))))))))))))))))))
def om : CallF := fun _ _ _ => none
theorem omok0 {base : Nat} : ∀ g args H v H', om g args H = some (v, H') → Sim Try.prog base g args H v H' := fun _ _ _ _ _ h => by cases h
theorem simT {base : Nat} {g : FuncId} {args : List Value} {H H' : AHeap} {v : Value} (h : cw Try.prog (tabF tab) om g args H = some (v, H')) : Sim Try.prog base g args H v H' := cw_sound (by kernel_rfl) gok omok0 h
theorem c_awake15 : Gives (cw Try.prog (tabF tab) om 14 [] AHeap.empty) fun v H' => v = .bool true := gives_true 2000 (by kernel_rfl)
theorem c_awake17 : Gives (cw Try.prog (tabF tab) om 35 [] AHeap.empty) fun v H' => v = .bool true := gives_true 2000 (by kernel_rfl)
def om1 : CallF := fun g args H => match g, args with
  | 14, [] => some (.bool true, H)
  | 35, [] => some (.bool true, H)
  | _, _ => none
theorem omok {base : Nat} : ∀ g args H v H', om1 g args H = some (v, H') → Sim Try.prog base g args H v H' := by
  intro g args H v H' h
  unfold om1 at h
  split at h
  · injection h with h
    injection h with h1 h2
    subst h1 h2
    obtain ⟨v, H1, r, rfl⟩ := c_awake15
    exact sim_closed (fun base => simT r) rfl rfl base _
  · injection h with h
    injection h with h1 h2
    subst h1 h2
    obtain ⟨v, H1, r, rfl⟩ := c_awake17
    exact sim_closed (fun base => simT r) rfl rfl base _
  · cases h
theorem o_awake15 (H : AHeap) : cw Try.prog (tabF tab) om1 14 [] H = some (.bool true, H) := cw_omega rfl
theorem o_awake17 (H : AHeap) : cw Try.prog (tabF tab) om1 35 [] H = some (.bool true, H) := cw_omega rfl
end Go.Proofs.Ytgonfmpmdahmcaa

/-! Slices of units, rules. -/
set_option linter.unusedSimpArgs false
set_option linter.unusedVariables false
namespace Go.Proofs.Ytgonfmpmdahmcaa
open Go Lon
theorem l_Units {a b : Value} {la lb : List Int} {H : AHeap} (ha : Ints H a la) (hb : Ints H b lb) (hl : la.length = lb.length) (hs : la.length < 4611686018427387904) : ∀ (k i : Nat), i + k = la.length →
    Out (run Try.prog (tabF tab) om1 (.loop [0, 1, 12, 13] b_lontarlaw01_Units_0) [(0, a), (1, b), (12, .int .i64 la.length), (13, .int .i64 i)] H) fun x e' H' => H' = H ∧
      if la.drop i = lb.drop i then x = .exit 0 else x = .ret ∧ eget e' 4 = .bool false := by
  intro k
  induction k with
  | zero =>
    intro i hi
    have hlt : ¬ ((i : Int) < la.length) := by omega
    rw [w_loop_b b_lontarlaw01_Units_0.eq_1, List.drop_of_length_le (by omega), List.drop_of_length_le (by omega)]
    simp only [WA, isStore, isCall, isK, freshI, stampO, List.nil_append, Option.map_some, Option.map_none, Option.bind_some, List.map_cons, List.map_nil, if_true, if_false, Nat.reduceEqDiff, Int.reduceEq, Nat.reduceAdd, Nat.reduceMul, reduceCtorEq, eq_self, Int.reduceLT, Int.reduceLE, Int.reduceToNat, List.length_cons, List.length_nil, List.all_cons, List.all_nil, List.take_zero, List.drop_nil, List.append_nil, List.getElem?_cons_zero, List.getElem?_cons_succ, List.drop_succ_cons, List.drop_zero, List.take_succ_cons, List.cons_append, Nat.reduceLeDiff, Int.cast_ofNat_Int, hlt]
  | succ k ih =>
    intro i hi
    have hlt : (i : Int) < la.length := by omega
    obtain ⟨x, hx, hdx⟩ := drop_at (L := la) (i := i) (by omega)
    obtain ⟨y, hy, hdy⟩ := drop_at (L := lb) (i := i) (by omega)
    obtain ⟨i1, o1, h1, h2⟩ := ha.at hx
    obtain ⟨i2, o2, h3, h4⟩ := hb.at hy
    have hw2 : IntKind.i64.wrap ((i : Int) + 1) = ((i + 1 : Nat) : Int) := by rw [wrap64 (by omega) (by omega)]; omega
    rw [w_loop_b b_lontarlaw01_Units_0.eq_1, hdx, hdy]
    by_cases hxy : x = y
    · subst hxy
      obtain ⟨z, e', H', r1, r2, r3⟩ := ih (i + 1) (by omega)
      have hne : (x ≠ x) = False := by simp
      simp only [WA, isStore, isCall, isK, freshI, stampO, List.nil_append, Option.map_some, Option.map_none, Option.bind_some, List.map_cons, List.map_nil, if_true, if_false, Nat.reduceEqDiff, Int.reduceEq, Nat.reduceAdd, Nat.reduceMul, reduceCtorEq, eq_self, Int.reduceLT, Int.reduceLE, Int.reduceToNat, List.length_cons, List.length_nil, List.all_cons, List.all_nil, List.take_zero, List.drop_nil, List.append_nil, List.getElem?_cons_zero, List.getElem?_cons_succ, List.drop_succ_cons, List.drop_zero, List.take_succ_cons, List.cons_append, Nat.reduceLeDiff, Int.cast_ofNat_Int, hlt, h1, h2, h3, h4, hne, hw2]
      rw [w_enter]
      simp only [WA, isStore, isCall, isK, freshI, stampO, List.nil_append, Option.map_some, Option.map_none, Option.bind_some, List.map_cons, List.map_nil, if_true, if_false, Nat.reduceEqDiff, Int.reduceEq, Nat.reduceAdd, Nat.reduceMul, reduceCtorEq, eq_self, Int.reduceLT, Int.reduceLE, Int.reduceToNat, List.length_cons, List.length_nil, List.all_cons, List.all_nil, List.take_zero, List.drop_nil, List.append_nil, List.getElem?_cons_zero, List.getElem?_cons_succ, List.drop_succ_cons, List.drop_zero, List.take_succ_cons, List.cons_append, Nat.reduceLeDiff, Int.cast_ofNat_Int, r1]
      refine ⟨r2, ?_⟩
      simpa using r3
    · have hne : (x ≠ y) = True := by simp [hxy]
      simp only [WA, isStore, isCall, isK, freshI, stampO, List.nil_append, Option.map_some, Option.map_none, Option.bind_some, List.map_cons, List.map_nil, if_true, if_false, Nat.reduceEqDiff, Int.reduceEq, Nat.reduceAdd, Nat.reduceMul, reduceCtorEq, eq_self, Int.reduceLT, Int.reduceLE, Int.reduceToNat, List.length_cons, List.length_nil, List.all_cons, List.all_nil, List.take_zero, List.drop_nil, List.append_nil, List.getElem?_cons_zero, List.getElem?_cons_succ, List.drop_succ_cons, List.drop_zero, List.take_succ_cons, List.cons_append, Nat.reduceLeDiff, Int.cast_ofNat_Int, hlt, h1, h2, h3, h4, hne]
      simp [hxy]
theorem c_Units {a b : Value} {la lb : List Int} {H : AHeap} (ha : Ints H a la) (hb : Ints H b lb) (hs : la.length < 4611686018427387904) : cw Try.prog (tabF tab) om1 24 [a, b] H = some (.bool (decide (la = lb)), H) := by
  rw [cw_run (F := F_lontarlaw01_Units) rfl rfl rfl]
  unfold F_lontarlaw01_Units k_lontarlaw01_Units
  by_cases hl : la.length = lb.length
  · obtain ⟨x, e', H', r1, rfl, r3⟩ := l_Units ha hb hl hs la.length 0 (by omega)
    have hne : (((la.length : Nat) : Int) ≠ ((lb.length : Nat) : Int)) = False := by simp [hl]
    simp only [Int.cast_ofNat_Int] at r1
    simp only [WA, isStore, isCall, isK, freshI, stampO, List.nil_append, Option.map_some, Option.map_none, Option.bind_some, List.map_cons, List.map_nil, if_true, if_false, Nat.reduceEqDiff, Int.reduceEq, Nat.reduceAdd, Nat.reduceMul, reduceCtorEq, eq_self, Int.reduceLT, Int.reduceLE, Int.reduceToNat, List.length_cons, List.length_nil, List.all_cons, List.all_nil, List.take_zero, List.drop_nil, List.append_nil, List.getElem?_cons_zero, List.getElem?_cons_succ, List.drop_succ_cons, List.drop_zero, List.take_succ_cons, List.cons_append, Nat.reduceLeDiff, Int.cast_ofNat_Int, ha.len, hb.len, hne]
    rw [w_enter]
    simp only [WA, isStore, isCall, isK, freshI, stampO, List.nil_append, Option.map_some, Option.map_none, Option.bind_some, List.map_cons, List.map_nil, if_true, if_false, Nat.reduceEqDiff, Int.reduceEq, Nat.reduceAdd, Nat.reduceMul, reduceCtorEq, eq_self, Int.reduceLT, Int.reduceLE, Int.reduceToNat, List.length_cons, List.length_nil, List.all_cons, List.all_nil, List.take_zero, List.drop_nil, List.append_nil, List.getElem?_cons_zero, List.getElem?_cons_succ, List.drop_succ_cons, List.drop_zero, List.take_succ_cons, List.cons_append, Nat.reduceLeDiff, Int.cast_ofNat_Int, r1]
    simp only [List.drop_zero] at r3
    split at r3
    · rename_i h
      subst r3
      simp only [WA, isStore, isCall, isK, freshI, stampO, List.nil_append, Option.map_some, Option.map_none, Option.bind_some, List.map_cons, List.map_nil, if_true, if_false, Nat.reduceEqDiff, Int.reduceEq, Nat.reduceAdd, Nat.reduceMul, reduceCtorEq, eq_self, Int.reduceLT, Int.reduceLE, Int.reduceToNat, List.length_cons, List.length_nil, List.all_cons, List.all_nil, List.take_zero, List.drop_nil, List.append_nil, List.getElem?_cons_zero, List.getElem?_cons_succ, List.drop_succ_cons, List.drop_zero, List.take_succ_cons, List.cons_append, Nat.reduceLeDiff, Int.cast_ofNat_Int, h]
    · rename_i h
      obtain ⟨rfl, r4⟩ := r3
      simp only [WA, isStore, isCall, isK, freshI, stampO, List.nil_append, Option.map_some, Option.map_none, Option.bind_some, List.map_cons, List.map_nil, if_true, if_false, Nat.reduceEqDiff, Int.reduceEq, Nat.reduceAdd, Nat.reduceMul, reduceCtorEq, eq_self, Int.reduceLT, Int.reduceLE, Int.reduceToNat, List.length_cons, List.length_nil, List.all_cons, List.all_nil, List.take_zero, List.drop_nil, List.append_nil, List.getElem?_cons_zero, List.getElem?_cons_succ, List.drop_succ_cons, List.drop_zero, List.take_succ_cons, List.cons_append, Nat.reduceLeDiff, Int.cast_ofNat_Int, r4, h]
  · have hne : (((la.length : Nat) : Int) ≠ ((lb.length : Nat) : Int)) = True := by simp; omega
    have hab : ¬ la = lb := fun h => hl (by rw [h])
    simp only [WA, isStore, isCall, isK, freshI, stampO, List.nil_append, Option.map_some, Option.map_none, Option.bind_some, List.map_cons, List.map_nil, if_true, if_false, Nat.reduceEqDiff, Int.reduceEq, Nat.reduceAdd, Nat.reduceMul, reduceCtorEq, eq_self, Int.reduceLT, Int.reduceLE, Int.reduceToNat, List.length_cons, List.length_nil, List.all_cons, List.all_nil, List.take_zero, List.drop_nil, List.append_nil, List.getElem?_cons_zero, List.getElem?_cons_succ, List.drop_succ_cons, List.drop_zero, List.take_succ_cons, List.cons_append, Nat.reduceLeDiff, Int.cast_ofNat_Int, ha.len, hb.len, hne, hab]
end Go.Proofs.Ytgonfmpmdahmcaa

