/- What is proved here: what the program's functions come to, as far as the claimed statement asks. Conditions: those that each theorem names, and no others. -/
import Derived.Test.YtfhchimfdlhmaaaLonW
import Derived.Test.YtfhchimfdlhmaaaRows
import Derived.Test.YtfhchimfdlhmaaaLonZl
import Derived.Test.YtfhchimfdlhmaaaLonZg
/-! The functions in the interpreter's form. Written by program. -/
set_option linter.unusedSimpArgs false
namespace Go.Proofs.Ytfhchimfdlhmaaa
open Go Lon

-- lontar/lontarlaw13.VniSmall
@[reducible] def i_lontarlaw13_VniSmall : Nat := 3
def k_lontarlaw13_VniSmall : ACode :=
 (.seq (.ops [⟨(some 6), .mv (.const (.bool false)), none⟩])
 (.seq (.seq (.ops [⟨(some 13), .call (.func 9) [], none⟩,
   ⟨(some 14), .not (.tmp 13), none⟩])
 (.cond (.tmp 14)
  (.seq (.ops [⟨(some 6), .mv (.const (.bool false)), none⟩])
  .ret)
  .skip))
 (.seq (.ops [⟨(some 16), .mv (.tmp 0), none⟩,
   ⟨(some 17), .conv .i64 (.tmp 16), none⟩,
   ⟨(some 18), .int .rem (.tmp 17) (.const (.int .i64 74)), none⟩,
   ⟨(some 19), .call (.func 10) [(.tmp 18)], none⟩,
   ⟨(some 15), .mv (.tmp 19), none⟩,
   ⟨(some 20), .ext (.tmp 15) 0, none⟩,
   ⟨(some 21), .ext (.tmp 15) 1, none⟩,
   ⟨(some 22), .ext (.tmp 15) 2, none⟩,
   ⟨(some 7), .alloc [(.int .i64 0), (.complex .f64 0 0)] 26, none⟩,
   ⟨none, .store (.tmp 7) (.tmp 20) 2, none⟩,
   ⟨(some 8), .mv (.tmp 21), none⟩,
   ⟨(some 9), .mv (.tmp 22), none⟩])
 (.seq (.seq (.ops [⟨(some 23), .load (.tmp 7) (some 2), none⟩,
   ⟨(some 24), .call (.func 12) [(.tmp 23)], none⟩,
   ⟨(some 25), .mv (.tmp 0), none⟩,
   ⟨(some 26), .conv .i64 (.tmp 25), none⟩,
   ⟨(some 27), .int .rem (.tmp 26) (.const (.int .i64 74)), none⟩,
   ⟨(some 28), .call (.func 13) [(.tmp 27)], none⟩,
   ⟨(some 29), .call (.func 11) [(.tmp 24), (.tmp 28)], none⟩,
   ⟨(some 30), .not (.tmp 29), none⟩])
 (.cond (.tmp 30)
  (.seq (.ops [⟨(some 6), .mv (.const (.bool false)), none⟩])
  .ret)
  .skip))
 (.seq (.ops [⟨(some 31), .faddr (.tmp 7) 0, none⟩,
   ⟨(some 32), .load (.tmp 31) none, none⟩,
   ⟨(some 33), .mv (.tmp 1), none⟩,
   ⟨(some 34), .mv (.tmp 2), none⟩,
   ⟨(some 35), .gen ⟨none, (.call ⟨.builtin .complex, #[(.tmp 33), (.tmp 34)], #[22, 22]⟩), 24, "", #[], none⟩, none⟩,
   ⟨(some 36), .build [(.int .i64 0), (.complex .f64 0 0)] [(0, 1, (.tmp 32)), (1, 1, (.tmp 35))], none⟩,
   ⟨(some 10), .alloc [(.int .i64 0), (.complex .f64 0 0)] 26, none⟩,
   ⟨none, .store (.tmp 10) (.tmp 36) 2, none⟩])
 (.seq (.ops [⟨(some 38), .load (.tmp 10) (some 2), none⟩,
   ⟨(some 39), .call (.func 14) [(.tmp 38)], none⟩,
   ⟨(some 37), .mv (.tmp 39), none⟩,
   ⟨(some 40), .ext (.tmp 37) 0, none⟩,
   ⟨(some 41), .ext (.tmp 37) 1, none⟩,
   ⟨(some 11), .mv (.tmp 40), none⟩,
   ⟨(some 12), .mv (.tmp 41), none⟩])
 (.seq (.ops [⟨(some 42), .mv (.tmp 12), none⟩,
   ⟨(some 43), .mv (.tmp 42), none⟩,
   ⟨(some 44), .load (.tmp 10) (some 2), some (43, false)⟩,
   ⟨(some 45), .call (.func 12) [(.tmp 44)], some (43, false)⟩,
   ⟨(some 46), .len false (.tmp 45), some (43, false)⟩,
   ⟨(some 47), .int .eql (.tmp 46) (.const (.int .i64 0)), some (43, false)⟩,
   ⟨(some 48), .pick (.tmp 43) (.const (.bool true)) (.tmp 47), none⟩,
   ⟨(some 6), .mv (.tmp 48), none⟩])
 .ret)))))))
def F_lontarlaw13_VniSmall : AFunc := ⟨3, 49, [.tmp 6], k_lontarlaw13_VniSmall⟩
theorem ok_lontarlaw13_VniSmall : FOK Try.prog 3 F_lontarlaw13_VniSmall := FOK.of [] Try.func3 (by kernel_rfl) (by kernel_rfl)

-- lontar/lontarlaw13.VniRules
@[reducible] def i_lontarlaw13_VniRules : Nat := 4
def k_lontarlaw13_VniRules : ACode :=
 (.seq (.ops [⟨(some 2), .mv (.const (.bool false)), none⟩])
 (.seq (.seq (.ops [⟨(some 4), .call (.func 9) [], none⟩,
   ⟨(some 5), .not (.tmp 4), none⟩])
 (.cond (.tmp 5)
  (.seq (.ops [⟨(some 2), .mv (.const (.bool false)), none⟩])
  .ret)
  .skip))
 (.seq (.ops [⟨(some 6), .call (.func 15) [], none⟩,
   ⟨(some 3), .mv (.tmp 6), none⟩])
 (.seq (.ops [⟨(some 7), .mv (.tmp 3), none⟩,
   ⟨(some 8), .call (.func 17) [], none⟩,
   ⟨(some 9), .call (.func 16) [(.tmp 7), (.tmp 8)], none⟩,
   ⟨(some 10), .mv (.tmp 9), none⟩,
   ⟨(some 11), .mv (.tmp 3), some (10, true)⟩,
   ⟨(some 12), .len false (.tmp 11), some (10, true)⟩,
   ⟨(some 13), .mv (.tmp 0), some (10, true)⟩,
   ⟨(some 14), .conv .i64 (.tmp 13), some (10, true)⟩,
   ⟨(some 15), .int .gtr (.tmp 12) (.tmp 14), some (10, true)⟩,
   ⟨(some 16), .pick (.tmp 10) (.tmp 15) (.const (.bool false)), none⟩,
   ⟨(some 2), .mv (.tmp 16), none⟩])
 .ret))))
def F_lontarlaw13_VniRules : AFunc := ⟨1, 17, [.tmp 2], k_lontarlaw13_VniRules⟩
theorem ok_lontarlaw13_VniRules : FOK Try.prog 4 F_lontarlaw13_VniRules := FOK.of [] Try.func4 (by kernel_rfl) (by kernel_rfl)

-- lontar/lontarlaw13.VniSize
@[reducible] def i_lontarlaw13_VniSize : Nat := 5
def k_lontarlaw13_VniSize : ACode :=
 (.seq (.ops [⟨(some 2), .mv (.const (.bool false)), none⟩])
 (.seq (.seq (.ops [⟨(some 7), .call (.func 9) [], none⟩,
   ⟨(some 8), .not (.tmp 7), none⟩])
 (.cond (.tmp 8)
  (.seq (.ops [⟨(some 2), .mv (.const (.bool false)), none⟩])
  .ret)
  .skip))
 (.seq (.ops [⟨(some 10), .mv (.tmp 0), none⟩,
   ⟨(some 11), .conv .i64 (.tmp 10), none⟩,
   ⟨(some 12), .int .rem (.tmp 11) (.const (.int .i64 74)), none⟩,
   ⟨(some 13), .call (.func 10) [(.tmp 12)], none⟩,
   ⟨(some 9), .mv (.tmp 13), none⟩,
   ⟨(some 14), .ext (.tmp 9) 0, none⟩,
   ⟨(some 15), .ext (.tmp 9) 1, none⟩,
   ⟨(some 16), .ext (.tmp 9) 2, none⟩,
   ⟨(some 3), .alloc [(.int .i64 0), (.complex .f64 0 0)] 26, none⟩,
   ⟨none, .store (.tmp 3) (.tmp 14) 2, none⟩,
   ⟨(some 4), .mv (.tmp 15), none⟩,
   ⟨(some 5), .mv (.tmp 16), none⟩])
 (.seq (.ops [⟨(some 17), .load (.tmp 3) (some 2), none⟩,
   ⟨(some 18), .call (.func 12) [(.tmp 17)], none⟩,
   ⟨(some 6), .mv (.tmp 18), none⟩])
 (.seq (.seq (.ops [⟨(some 19), .mv (.tmp 6), none⟩,
   ⟨(some 20), .len false (.tmp 19), none⟩,
   ⟨(some 21), .int .lss (.tmp 20) (.const (.int .i64 1)), none⟩,
   ⟨(some 22), .mv (.tmp 21), none⟩,
   ⟨(some 23), .mv (.tmp 6), some (22, false)⟩,
   ⟨(some 24), .len false (.tmp 23), some (22, false)⟩,
   ⟨(some 25), .int .gtr (.tmp 24) (.const (.int .i64 2)), some (22, false)⟩,
   ⟨(some 26), .pick (.tmp 22) (.const (.bool true)) (.tmp 25), none⟩,
   ⟨(some 27), .mv (.tmp 26), none⟩,
   ⟨(some 28), .mv (.tmp 6), some (27, false)⟩,
   ⟨(some 29), .len false (.tmp 28), some (27, false)⟩,
   ⟨(some 30), .int .eql (.tmp 29) (.const (.int .i64 2)), some (27, false)⟩,
   ⟨(some 31), .mv (.tmp 30), some (27, false)⟩,
   ⟨(some 32), .mv (.tmp 6), some (31, true)⟩,
   ⟨(some 33), .iaddr (.tmp 32) (.const (.int .i64 1)) 1, some (31, true)⟩,
   ⟨(some 34), .load (.tmp 33) none, some (31, true)⟩,
   ⟨(some 35), .int .lss (.tmp 34) (.const (.int .i64 224)), some (31, true)⟩,
   ⟨(some 36), .pick (.tmp 31) (.tmp 35) (.const (.bool false)), some (27, false)⟩,
   ⟨(some 37), .pick (.tmp 27) (.const (.bool true)) (.tmp 36), none⟩])
 (.cond (.tmp 37)
  (.seq (.ops [⟨(some 2), .mv (.const (.bool false)), none⟩])
  .ret)
  .skip))
 (.seq (.draw [⟨(some 38), .mv (.tmp 6), none⟩,
   ⟨(some 39), .len false (.tmp 38), none⟩,
   ⟨(some 40), .int .eql (.tmp 39) (.const (.int .i64 1)), none⟩,
   ⟨(some 41), .mv (.tmp 40), none⟩,
   ⟨(some 42), .mv (.tmp 6), some (41, true)⟩,
   ⟨(some 43), .iaddr (.tmp 42) (.const (.int .i64 0)) 1, some (41, true)⟩,
   ⟨(some 44), .load (.tmp 43) none, some (41, true)⟩,
   ⟨(some 45), .mv (.tmp 4), some (41, true)⟩,
   ⟨(some 46), .int .eql (.tmp 44) (.tmp 45), some (41, true)⟩,
   ⟨(some 47), .mv (.tmp 46), some (41, true)⟩,
   ⟨(some 48), .mv (.tmp 6), some (47, false)⟩,
   ⟨(some 49), .iaddr (.tmp 48) (.const (.int .i64 0)) 1, some (47, false)⟩,
   ⟨(some 50), .load (.tmp 49) none, some (47, false)⟩,
   ⟨(some 51), .int .gtr (.tmp 50) (.const (.int .i64 127)), some (47, false)⟩,
   ⟨(some 52), .pick (.tmp 47) (.const (.bool true)) (.tmp 51), some (41, true)⟩,
   ⟨(some 53), .pick (.tmp 41) (.tmp 52) (.const (.bool false)), none⟩,
   ⟨(some 54), .mv (.tmp 53), none⟩,
   ⟨(some 55), .mv (.tmp 6), some (54, false)⟩,
   ⟨(some 56), .len false (.tmp 55), some (54, false)⟩,
   ⟨(some 57), .int .eql (.tmp 56) (.const (.int .i64 2)), some (54, false)⟩,
   ⟨(some 58), .mv (.tmp 57), some (54, false)⟩,
   ⟨(some 59), .mv (.tmp 6), some (58, true)⟩,
   ⟨(some 60), .iaddr (.tmp 59) (.const (.int .i64 0)) 1, some (58, true)⟩,
   ⟨(some 61), .load (.tmp 60) none, some (58, true)⟩,
   ⟨(some 62), .faddr (.tmp 3) 0, some (58, true)⟩,
   ⟨(some 63), .load (.tmp 62) none, some (58, true)⟩,
   ⟨(some 64), .int .eql (.tmp 61) (.tmp 63), some (58, true)⟩,
   ⟨(some 65), .mv (.tmp 64), some (58, true)⟩,
   ⟨(some 66), .mv (.tmp 6), some (65, false)⟩,
   ⟨(some 67), .iaddr (.tmp 66) (.const (.int .i64 0)) 1, some (65, false)⟩,
   ⟨(some 68), .load (.tmp 67) none, some (65, false)⟩,
   ⟨(some 69), .int .eql (.tmp 68) (.const (.int .i64 244)), some (65, false)⟩,
   ⟨(some 70), .pick (.tmp 65) (.const (.bool true)) (.tmp 69), some (58, true)⟩,
   ⟨(some 71), .mv (.tmp 70), some (58, true)⟩,
   ⟨(some 72), .mv (.tmp 6), some (71, false)⟩,
   ⟨(some 73), .iaddr (.tmp 72) (.const (.int .i64 0)) 1, some (71, false)⟩,
   ⟨(some 74), .load (.tmp 73) none, some (71, false)⟩,
   ⟨(some 75), .int .eql (.tmp 74) (.const (.int .i64 246)), some (71, false)⟩,
   ⟨(some 76), .pick (.tmp 71) (.const (.bool true)) (.tmp 75), some (58, true)⟩,
   ⟨(some 77), .pick (.tmp 58) (.tmp 76) (.const (.bool false)), some (54, false)⟩,
   ⟨(some 78), .pick (.tmp 54) (.const (.bool true)) (.tmp 77), none⟩,
   ⟨(some 2), .mv (.tmp 78), none⟩])
 .ret))))))
def F_lontarlaw13_VniSize : AFunc := ⟨1, 79, [.tmp 2], k_lontarlaw13_VniSize⟩
theorem ok_lontarlaw13_VniSize : FOK Try.prog 5 F_lontarlaw13_VniSize := FOK.of [[0, 1, 2, 3, 4, 5, 6, 7, 8, 9, 10, 11, 12, 13, 14, 15, 16, 17, 18, 19, 20, 21, 22, 23, 24, 25, 26, 27, 28, 29, 30, 31, 32, 33, 34, 35, 36, 37, 38, 39, 40, 41]] Try.func5 (by kernel_rfl) (by kernel_rfl)

-- lontar/lontarlaw13.VniRight
@[reducible] def i_lontarlaw13_VniRight : Nat := 6
def k_lontarlaw13_VniRight : ACode :=
 (.seq (.ops [⟨(some 2), .mv (.const (.bool false)), none⟩])
 (.seq (.seq (.ops [⟨(some 7), .call (.func 9) [], none⟩,
   ⟨(some 8), .not (.tmp 7), none⟩])
 (.cond (.tmp 8)
  (.seq (.ops [⟨(some 2), .mv (.const (.bool false)), none⟩])
  .ret)
  .skip))
 (.seq (.ops [⟨(some 9), .call (.func 15) [], none⟩,
   ⟨(some 3), .mv (.tmp 9), none⟩])
 (.seq (.ops [⟨(some 11), .mv (.tmp 3), none⟩,
   ⟨(some 12), .call (.func 18) [(.tmp 11)], none⟩,
   ⟨(some 10), .mv (.tmp 12), none⟩,
   ⟨(some 13), .ext (.tmp 10) 0, none⟩,
   ⟨(some 14), .ext (.tmp 10) 1, none⟩,
   ⟨(some 4), .mv (.tmp 13), none⟩,
   ⟨(some 5), .mv (.tmp 14), none⟩])
 (.seq (.ops [⟨(some 15), .mv (.tmp 3), none⟩,
   ⟨(some 16), .call (.func 19) [(.tmp 15)], none⟩,
   ⟨(some 6), .mv (.tmp 16), none⟩])
 (.seq (.ops [⟨(some 17), .mv (.tmp 5), none⟩,
   ⟨(some 18), .int .eql (.tmp 17) (.const (.int .i64 0)), none⟩,
   ⟨(some 19), .mv (.tmp 18), none⟩,
   ⟨(some 20), .mv (.tmp 6), some (19, true)⟩,
   ⟨(some 21), .len false (.tmp 20), some (19, true)⟩,
   ⟨(some 22), .mv (.tmp 3), some (19, true)⟩,
   ⟨(some 23), .len false (.tmp 22), some (19, true)⟩,
   ⟨(some 24), .int .eql (.tmp 21) (.tmp 23), some (19, true)⟩,
   ⟨(some 25), .pick (.tmp 19) (.tmp 24) (.const (.bool false)), none⟩,
   ⟨(some 26), .mv (.tmp 25), none⟩,
   ⟨(some 27), .mv (.tmp 3), some (26, true)⟩,
   ⟨(some 28), .len false (.tmp 27), some (26, true)⟩,
   ⟨(some 29), .mv (.tmp 0), some (26, true)⟩,
   ⟨(some 30), .conv .i64 (.tmp 29), some (26, true)⟩,
   ⟨(some 31), .int .gtr (.tmp 28) (.tmp 30), some (26, true)⟩,
   ⟨(some 32), .pick (.tmp 26) (.tmp 31) (.const (.bool false)), none⟩,
   ⟨(some 33), .mv (.tmp 32), none⟩,
   ⟨(some 34), .mv (.tmp 6), some (33, true)⟩,
   ⟨(some 35), .mv (.tmp 3), some (33, true)⟩,
   ⟨(some 36), .mv (.tmp 0), some (33, true)⟩,
   ⟨(some 37), .iaddr (.tmp 35) (.tmp 36) 2, some (33, true)⟩,
   ⟨(some 38), .faddr (.tmp 37) 1, some (33, true)⟩,
   ⟨(some 39), .load (.tmp 38) none, some (33, true)⟩,
   ⟨(some 40), .call (.func 20) [(.tmp 34), (.tmp 39)], some (33, true)⟩,
   ⟨(some 41), .mv (.tmp 0), some (33, true)⟩,
   ⟨(some 42), .conv .i64 (.tmp 41), some (33, true)⟩,
   ⟨(some 43), .int .eql (.tmp 40) (.tmp 42), some (33, true)⟩,
   ⟨(some 44), .pick (.tmp 33) (.tmp 43) (.const (.bool false)), none⟩,
   ⟨(some 45), .mv (.tmp 44), none⟩,
   ⟨(some 46), .mv (.tmp 3), some (45, true)⟩,
   ⟨(some 47), .call (.func 21) [(.tmp 46)], some (45, true)⟩,
   ⟨(some 48), .int .eql (.tmp 47) (.const (.int .i64 2)), some (45, true)⟩,
   ⟨(some 49), .pick (.tmp 45) (.tmp 48) (.const (.bool false)), none⟩,
   ⟨(some 50), .mv (.tmp 49), none⟩,
   ⟨(some 51), .mv (.tmp 6), some (50, true)⟩,
   ⟨(some 52), .call (.func 21) [(.tmp 51)], some (50, true)⟩,
   ⟨(some 53), .int .eql (.tmp 52) (.const (.int .i64 1)), some (50, true)⟩,
   ⟨(some 54), .pick (.tmp 50) (.tmp 53) (.const (.bool false)), none⟩,
   ⟨(some 2), .mv (.tmp 54), none⟩])
 .ret))))))
def F_lontarlaw13_VniRight : AFunc := ⟨1, 55, [.tmp 2], k_lontarlaw13_VniRight⟩
theorem ok_lontarlaw13_VniRight : FOK Try.prog 6 F_lontarlaw13_VniRight := FOK.of [] Try.func6 (by kernel_rfl) (by kernel_rfl)

-- lontar/lontarlaw13.VniReads
@[reducible] def i_lontarlaw13_VniReads : Nat := 7
/-- lontarlaw13_VniReads: the body of loop 0 -/
def b_lontarlaw13_VniReads_0 : ACode :=
 (.seq (.ops [⟨(some 39), .int .lss (.tmp 38) (.tmp 37), none⟩])
 (.seq (.cond (.tmp 39)
  .skip
  (.exit 0))
 (.seq (.block 1 (.seq (.ops [⟨(some 40), .iaddr (.tmp 36) (.tmp 38) 1, none⟩,
   ⟨(some 41), .load (.tmp 40) none, none⟩,
   ⟨(some 9), .mv (.tmp 41), none⟩])
 (.seq (.ops [⟨(some 42), .mv (.tmp 3), none⟩,
   ⟨(some 43), .mv (.tmp 9), none⟩,
   ⟨(some 44), .conv .i64 (.tmp 43), none⟩,
   ⟨(some 45), .mv (.tmp 3), none⟩,
   ⟨(some 46), .len false (.tmp 45), none⟩,
   ⟨(some 47), .int .rem (.tmp 44) (.tmp 46), none⟩,
   ⟨(some 48), .iaddr (.tmp 42) (.tmp 47) 2, none⟩,
   ⟨(some 49), .load (.tmp 48) (some 2), none⟩,
   ⟨(some 10), .alloc [(.slice none 0 0), (.slice none 0 0)] 46, none⟩,
   ⟨none, .store (.tmp 10) (.tmp 49) 2, none⟩])
 (.seq (.ops [⟨(some 50), .mv (.tmp 6), none⟩,
   ⟨(some 51), .faddr (.tmp 10) 0, none⟩,
   ⟨(some 52), .load (.tmp 51) none, none⟩,
   ⟨(some 53), .append (.tmp 50) (.tmp 52) 3 1 8, none⟩,
   ⟨(some 6), .mv (.tmp 53), none⟩])
 (.ops [⟨(some 54), .mv (.tmp 7), none⟩,
   ⟨(some 55), .faddr (.tmp 10) 1, none⟩,
   ⟨(some 56), .load (.tmp 55) none, none⟩,
   ⟨(some 57), .append (.tmp 54) (.tmp 56) 3 1 8, none⟩,
   ⟨(some 7), .mv (.tmp 57), none⟩])))))
 (.ops [⟨(some 58), .int .add (.tmp 38) (.const (.int .i64 1)), none⟩,
   ⟨(some 38), .mv (.tmp 58), none⟩]))))

def k_lontarlaw13_VniReads : ACode :=
 (.seq (.ops [⟨(some 2), .mv (.const (.bool false)), none⟩])
 (.seq (.seq (.ops [⟨(some 13), .call (.func 9) [], none⟩,
   ⟨(some 14), .not (.tmp 13), none⟩])
 (.cond (.tmp 14)
  (.seq (.ops [⟨(some 2), .mv (.const (.bool false)), none⟩])
  .ret)
  .skip))
 (.seq (.ops [⟨(some 15), .call (.func 15) [], none⟩,
   ⟨(some 3), .mv (.tmp 15), none⟩])
 (.seq (.ops [⟨(some 17), .mv (.tmp 3), none⟩,
   ⟨(some 18), .call (.func 22) [(.tmp 17)], none⟩,
   ⟨(some 16), .mv (.tmp 18), none⟩,
   ⟨(some 19), .ext (.tmp 16) 0, none⟩,
   ⟨(some 20), .ext (.tmp 16) 1, none⟩,
   ⟨(some 4), .mv (.tmp 19), none⟩,
   ⟨(some 5), .mv (.tmp 20), none⟩])
 (.seq (.seq (.ops [⟨(some 21), .mv (.tmp 4), none⟩,
   ⟨(some 22), .isNil 0 false (.tmp 21), none⟩,
   ⟨(some 23), .mv (.tmp 22), none⟩,
   ⟨(some 24), .mv (.tmp 5), some (23, false)⟩,
   ⟨(some 25), .int .neq (.tmp 24) (.const (.int .i64 0)), some (23, false)⟩,
   ⟨(some 26), .pick (.tmp 23) (.const (.bool true)) (.tmp 25), none⟩,
   ⟨(some 27), .mv (.tmp 26), none⟩,
   ⟨(some 28), .mv (.tmp 3), some (27, false)⟩,
   ⟨(some 29), .len false (.tmp 28), some (27, false)⟩,
   ⟨(some 30), .int .eql (.tmp 29) (.const (.int .i64 0)), some (27, false)⟩,
   ⟨(some 31), .pick (.tmp 27) (.const (.bool true)) (.tmp 30), none⟩])
 (.cond (.tmp 31)
  (.seq (.ops [⟨(some 2), .mv (.const (.bool false)), none⟩])
  .ret)
  .skip))
 (.seq (.ops [⟨(some 6), .mv (.const (.slice none 0 0)), none⟩,
   ⟨(some 7), .mv (.const (.slice none 0 0)), none⟩])
 (.seq (.seq (.ops [⟨(some 32), .mv (.tmp 0), none⟩,
   ⟨(some 33), .mv (.tmp 0), none⟩,
   ⟨(some 34), .len false (.tmp 33), none⟩,
   ⟨(some 35), .min2 (.tmp 34) (.const (.int .i64 40)), none⟩,
   ⟨(some 36), .slice (.tmp 32) none (some (.tmp 35)) 1, none⟩,
   ⟨(some 37), .len false (.tmp 36), none⟩,
   ⟨(some 38), .mv (.const (.int .i64 0)), none⟩])
 (.block 0 (.loop [3, 4, 6, 7, 36, 37, 38] b_lontarlaw13_VniReads_0)))
 (.seq (.ops [⟨(some 60), .mv (.tmp 4), none⟩,
   ⟨(some 61), .mv (.tmp 6), none⟩,
   ⟨(some 62), .call (.func 24) [(.tmp 60), (.tmp 61)], none⟩,
   ⟨(some 63), .call (.func 23) [(.tmp 62)], none⟩,
   ⟨(some 59), .mv (.tmp 63), none⟩,
   ⟨(some 64), .ext (.tmp 59) 0, none⟩,
   ⟨(some 65), .ext (.tmp 59) 1, none⟩,
   ⟨(some 12), .alloc [(.int .i64 0), (.int .i64 0), (.slice none 0 0), (.int .i64 0)] 53, none⟩,
   ⟨(some 11), .mv (.tmp 64), none⟩,
   ⟨none, .store (.tmp 12) (.tmp 65) 4, none⟩])
 (.seq (.ops [⟨(some 66), .faddr (.tmp 12) 3, none⟩,
   ⟨(some 67), .load (.tmp 66) none, none⟩,
   ⟨(some 68), .int .eql (.tmp 67) (.const (.int .i64 0)), none⟩,
   ⟨(some 69), .mv (.tmp 68), none⟩,
   ⟨(some 70), .mv (.tmp 11), some (69, true)⟩,
   ⟨(some 71), .mv (.tmp 7), some (69, true)⟩,
   ⟨(some 72), .call (.func 11) [(.tmp 70), (.tmp 71)], some (69, true)⟩,
   ⟨(some 73), .pick (.tmp 69) (.tmp 72) (.const (.bool false)), none⟩,
   ⟨(some 2), .mv (.tmp 73), none⟩])
 .ret)))))))))
def F_lontarlaw13_VniReads : AFunc := ⟨1, 74, [.tmp 2], k_lontarlaw13_VniReads⟩
theorem ok_lontarlaw13_VniReads : FOK Try.prog 7 F_lontarlaw13_VniReads := FOK.of [[3, 4, 6, 7, 36, 37, 38]] Try.func7 (by kernel_rfl) (by kernel_rfl)

-- lontar/lontarlaw13.VniAscii
@[reducible] def i_lontarlaw13_VniAscii : Nat := 8
/-- lontarlaw13_VniAscii: the body of loop 0 -/
def b_lontarlaw13_VniAscii_0 : ACode :=
 (.seq (.ops [⟨(some 30), .int .lss (.tmp 29) (.tmp 28), none⟩])
 (.seq (.cond (.tmp 30)
  .skip
  (.exit 0))
 (.seq (.block 1 (.seq (.ops [⟨(some 31), .iaddr (.tmp 27) (.tmp 29) 1, none⟩,
   ⟨(some 32), .load (.tmp 31) none, none⟩,
   ⟨(some 7), .mv (.tmp 32), none⟩])
 (.ops [⟨(some 33), .mv (.tmp 5), none⟩,
   ⟨(some 34), .mv (.tmp 7), none⟩,
   ⟨(some 35), .gen ⟨none, (.binOp .and 5 (.tmp 34) (.const (.int .u8 127)) 5), 5, "", #[], none⟩, none⟩,
   ⟨(some 36), .conv .i64 (.tmp 35), none⟩,
   ⟨(some 37), .bslice 3 1 1 [(.int .i64 0)] [(0, 1, (.tmp 36))], none⟩,
   ⟨(some 38), .append (.tmp 33) (.tmp 37) 3 1 8, none⟩,
   ⟨(some 5), .mv (.tmp 38), none⟩])))
 (.ops [⟨(some 39), .int .add (.tmp 29) (.const (.int .i64 1)), none⟩,
   ⟨(some 29), .mv (.tmp 39), none⟩]))))

def k_lontarlaw13_VniAscii : ACode :=
 (.seq (.ops [⟨(some 2), .mv (.const (.bool false)), none⟩])
 (.seq (.seq (.ops [⟨(some 10), .call (.func 9) [], none⟩,
   ⟨(some 11), .not (.tmp 10), none⟩])
 (.cond (.tmp 11)
  (.seq (.ops [⟨(some 2), .mv (.const (.bool false)), none⟩])
  .ret)
  .skip))
 (.seq (.ops [⟨(some 13), .call (.func 15) [], none⟩,
   ⟨(some 14), .call (.func 22) [(.tmp 13)], none⟩,
   ⟨(some 12), .mv (.tmp 14), none⟩,
   ⟨(some 15), .ext (.tmp 12) 0, none⟩,
   ⟨(some 16), .ext (.tmp 12) 1, none⟩,
   ⟨(some 3), .mv (.tmp 15), none⟩,
   ⟨(some 4), .mv (.tmp 16), none⟩])
 (.seq (.seq (.ops [⟨(some 17), .mv (.tmp 3), none⟩,
   ⟨(some 18), .isNil 0 false (.tmp 17), none⟩,
   ⟨(some 19), .mv (.tmp 18), none⟩,
   ⟨(some 20), .mv (.tmp 4), some (19, false)⟩,
   ⟨(some 21), .int .neq (.tmp 20) (.const (.int .i64 0)), some (19, false)⟩,
   ⟨(some 22), .pick (.tmp 19) (.const (.bool true)) (.tmp 21), none⟩])
 (.cond (.tmp 22)
  (.seq (.ops [⟨(some 2), .mv (.const (.bool false)), none⟩])
  .ret)
  .skip))
 (.seq (.ops [⟨(some 5), .mv (.const (.slice none 0 0)), none⟩])
 (.seq (.seq (.ops [⟨(some 23), .mv (.tmp 0), none⟩,
   ⟨(some 24), .mv (.tmp 0), none⟩,
   ⟨(some 25), .len false (.tmp 24), none⟩,
   ⟨(some 26), .min2 (.tmp 25) (.const (.int .i64 60)), none⟩,
   ⟨(some 27), .slice (.tmp 23) none (some (.tmp 26)) 1, none⟩,
   ⟨(some 28), .len false (.tmp 27), none⟩,
   ⟨(some 29), .mv (.const (.int .i64 0)), none⟩])
 (.block 0 (.loop [3, 5, 27, 28, 29] b_lontarlaw13_VniAscii_0)))
 (.seq (.ops [⟨(some 41), .mv (.tmp 3), none⟩,
   ⟨(some 42), .mv (.tmp 5), none⟩,
   ⟨(some 43), .call (.func 24) [(.tmp 41), (.tmp 42)], none⟩,
   ⟨(some 44), .call (.func 23) [(.tmp 43)], none⟩,
   ⟨(some 40), .mv (.tmp 44), none⟩,
   ⟨(some 45), .ext (.tmp 40) 0, none⟩,
   ⟨(some 46), .ext (.tmp 40) 1, none⟩,
   ⟨(some 9), .alloc [(.int .i64 0), (.int .i64 0), (.slice none 0 0), (.int .i64 0)] 53, none⟩,
   ⟨(some 8), .mv (.tmp 45), none⟩,
   ⟨none, .store (.tmp 9) (.tmp 46) 4, none⟩])
 (.seq (.ops [⟨(some 47), .faddr (.tmp 9) 3, none⟩,
   ⟨(some 48), .load (.tmp 47) none, none⟩,
   ⟨(some 49), .int .eql (.tmp 48) (.const (.int .i64 0)), none⟩,
   ⟨(some 50), .mv (.tmp 49), none⟩,
   ⟨(some 51), .mv (.tmp 8), some (50, true)⟩,
   ⟨(some 52), .mv (.tmp 5), some (50, true)⟩,
   ⟨(some 53), .call (.func 11) [(.tmp 51), (.tmp 52)], some (50, true)⟩,
   ⟨(some 54), .pick (.tmp 50) (.tmp 53) (.const (.bool false)), none⟩,
   ⟨(some 2), .mv (.tmp 54), none⟩])
 .ret))))))))
def F_lontarlaw13_VniAscii : AFunc := ⟨1, 55, [.tmp 2], k_lontarlaw13_VniAscii⟩
theorem ok_lontarlaw13_VniAscii : FOK Try.prog 8 F_lontarlaw13_VniAscii := FOK.of [[3, 5, 27, 28, 29]] Try.func8 (by kernel_rfl) (by kernel_rfl)

-- lontar/lontarlaw13.awake
@[reducible] def i_lontarlaw13_awake : Nat := 9
def k_lontarlaw13_awake : ACode :=
 (.seq (.ops [⟨(some 0), .mv (.const (.bool false)), none⟩])
 (.seq (.ops [⟨(some 7), .call (.func 25) [(.const (.int .i64 7871))], none⟩,
   ⟨(some 6), .mv (.tmp 7), none⟩,
   ⟨(some 8), .ext (.tmp 6) 0, none⟩,
   ⟨(some 9), .ext (.tmp 6) 1, none⟩,
   ⟨(some 1), .alloc [(.int .i64 0), (.complex .f64 0 0)] 26, none⟩,
   ⟨none, .store (.tmp 1) (.tmp 8) 2, none⟩,
   ⟨(some 2), .mv (.tmp 9), none⟩])
 (.seq (.ops [⟨(some 10), .load (.tmp 1) (some 2), none⟩,
   ⟨(some 11), .call (.func 12) [(.tmp 10)], none⟩,
   ⟨(some 3), .mv (.tmp 11), none⟩])
 (.seq (.ops [⟨(some 13), .call (.func 25) [(.const (.int .i64 7921))], none⟩,
   ⟨(some 12), .mv (.tmp 13), none⟩,
   ⟨(some 14), .ext (.tmp 12) 0, none⟩,
   ⟨(some 15), .ext (.tmp 12) 1, none⟩,
   ⟨(some 4), .alloc [(.int .i64 0), (.complex .f64 0 0)] 26, none⟩,
   ⟨none, .store (.tmp 4) (.tmp 14) 2, none⟩,
   ⟨(some 5), .mv (.tmp 15), none⟩])
 (.seq (.ops [⟨(some 16), .mv (.tmp 3), none⟩,
   ⟨(some 17), .len false (.tmp 16), none⟩,
   ⟨(some 18), .int .eql (.tmp 17) (.const (.int .i64 2)), none⟩,
   ⟨(some 19), .mv (.tmp 18), none⟩,
   ⟨(some 20), .mv (.tmp 3), some (19, true)⟩,
   ⟨(some 21), .iaddr (.tmp 20) (.const (.int .i64 0)) 1, some (19, true)⟩,
   ⟨(some 22), .load (.tmp 21) none, some (19, true)⟩,
   ⟨(some 23), .int .eql (.tmp 22) (.const (.int .i64 101)), some (19, true)⟩,
   ⟨(some 24), .pick (.tmp 19) (.tmp 23) (.const (.bool false)), none⟩,
   ⟨(some 25), .mv (.tmp 24), none⟩,
   ⟨(some 26), .mv (.tmp 3), some (25, true)⟩,
   ⟨(some 27), .iaddr (.tmp 26) (.const (.int .i64 1)) 1, some (25, true)⟩,
   ⟨(some 28), .load (.tmp 27) none, some (25, true)⟩,
   ⟨(some 29), .int .eql (.tmp 28) (.const (.int .i64 225)), some (25, true)⟩,
   ⟨(some 30), .pick (.tmp 25) (.tmp 29) (.const (.bool false)), none⟩,
   ⟨(some 31), .mv (.tmp 30), none⟩,
   ⟨(some 32), .load (.tmp 4) (some 2), some (31, true)⟩,
   ⟨(some 33), .call (.func 12) [(.tmp 32)], some (31, true)⟩,
   ⟨(some 34), .bslice 3 2 1 [(.int .i64 0)] [(0, 1, (.const (.int .i64 246))), (1, 1, (.const (.int .i64 239)))], some (31, true)⟩,
   ⟨(some 35), .call (.func 11) [(.tmp 33), (.tmp 34)], some (31, true)⟩,
   ⟨(some 36), .pick (.tmp 31) (.tmp 35) (.const (.bool false)), none⟩,
   ⟨(some 37), .mv (.tmp 36), none⟩,
   ⟨(some 38), .call (.func 15) [], some (37, true)⟩,
   ⟨(some 39), .len false (.tmp 38), some (37, true)⟩,
   ⟨(some 40), .int .eql (.tmp 39) (.const (.int .i64 262)), some (37, true)⟩,
   ⟨(some 41), .pick (.tmp 37) (.tmp 40) (.const (.bool false)), none⟩,
   ⟨(some 0), .mv (.tmp 41), none⟩])
 .ret)))))
def F_lontarlaw13_awake : AFunc := ⟨0, 42, [.tmp 0], k_lontarlaw13_awake⟩
theorem ok_lontarlaw13_awake : FOK Try.prog 9 F_lontarlaw13_awake := FOK.of [] Try.func9 (by kernel_rfl) (by kernel_rfl)

-- lontar/lontarlaw09.Letter
@[reducible] def i_lontarlaw09_Letter : Nat := 10
/-- lontarlaw09_Letter: the body of loop 0 -/
def b_lontarlaw09_Letter_0 : ACode :=
 (.seq (.ops [⟨(some 26), .int .lss (.tmp 25) (.tmp 24), none⟩])
 (.seq (.cond (.tmp 26)
  .skip
  (.exit 4))
 (.seq (.block 5 (.seq (.ops [⟨(some 27), .mv (.tmp 25), none⟩,
   ⟨(some 28), .iaddr (.tmp 23) (.tmp 25) 1, none⟩,
   ⟨(some 29), .load (.tmp 28) none, none⟩,
   ⟨(some 9), .mv (.tmp 27), none⟩,
   ⟨(some 10), .mv (.tmp 29), none⟩])
 (.seq (.seq (.ops [⟨(some 30), .mv (.tmp 5), none⟩,
   ⟨(some 31), .mv (.tmp 0), none⟩,
   ⟨(some 32), .int .eql (.tmp 30) (.tmp 31), none⟩])
 (.cond (.tmp 32)
  (.seq (.ops [⟨(some 33), .faddr (.tmp 8) 0, none⟩,
    ⟨(some 34), .load (.tmp 33) none, none⟩,
    ⟨(some 11), .mv (.tmp 34), none⟩])
  (.seq (.seq (.ops [⟨(some 35), .mv (.tmp 6), none⟩,
    ⟨(some 36), .int .eql (.tmp 35) (.const (.int .i64 1)), none⟩])
  (.cond (.tmp 36)
   (.ops [⟨(some 37), .mv (.tmp 11), none⟩,
     ⟨(some 38), .call (.func 27) [(.tmp 37)], none⟩,
     ⟨(some 39), .mv (.tmp 10), none⟩,
     ⟨(some 40), .call (.func 27) [(.tmp 39)], none⟩,
     ⟨(some 11), .mv (.tmp 38), none⟩,
     ⟨(some 10), .mv (.tmp 40), none⟩])
   .skip))
  (.seq (.ops [⟨(some 41), .mv (.tmp 11), none⟩,
    ⟨(some 42), .faddr (.tmp 8) 1, none⟩,
    ⟨(some 43), .load (.tmp 42) none, none⟩,
    ⟨(some 44), .gen ⟨none, (.convert 3 22 (.tmp 43)), 22, "", #[], none⟩, none⟩,
    ⟨(some 45), .mv (.tmp 9), none⟩,
    ⟨(some 46), .gen ⟨none, (.convert 3 22 (.tmp 45)), 22, "", #[], none⟩, none⟩,
    ⟨(some 47), .gen ⟨none, (.call ⟨.builtin .complex, #[(.tmp 44), (.tmp 46)], #[22, 22]⟩), 24, "", #[], none⟩, none⟩,
    ⟨(some 48), .build [(.int .i64 0), (.complex .f64 0 0)] [(0, 1, (.tmp 41)), (1, 1, (.tmp 47))], none⟩,
    ⟨(some 49), .mv (.tmp 10), none⟩,
    ⟨none, .store (.tmp 2) (.tmp 48) 2, none⟩,
    ⟨(some 3), .mv (.tmp 49), none⟩,
    ⟨(some 4), .mv (.const (.bool true)), none⟩])
  .ret)))
  .skip))
 (.ops [⟨(some 50), .mv (.tmp 5), none⟩,
   ⟨(some 51), .int .add (.tmp 50) (.const (.int .i64 1)), none⟩,
   ⟨(some 5), .mv (.tmp 51), none⟩]))))
 (.ops [⟨(some 52), .int .add (.tmp 25) (.const (.int .i64 1)), none⟩,
   ⟨(some 25), .mv (.tmp 52), none⟩]))))

/-- lontarlaw09_Letter: the body of loop 1 -/
def b_lontarlaw09_Letter_1 : ACode :=
 (.seq (.ops [⟨(some 19), .int .lss (.tmp 18) (.tmp 17), none⟩])
 (.seq (.cond (.tmp 19)
  .skip
  (.exit 2))
 (.seq (.block 3 (.seq (.ops [⟨(some 20), .iaddr (.tmp 16) (.tmp 18) 3, none⟩,
   ⟨(some 21), .load (.tmp 20) (some 3), none⟩,
   ⟨(some 8), .alloc [(.int .i64 0), (.int .i64 0), (.slice none 0 0)] 64, none⟩,
   ⟨none, .store (.tmp 8) (.tmp 21) 3, none⟩])
 (.seq (.ops [⟨(some 22), .faddr (.tmp 8) 2, none⟩,
   ⟨(some 23), .load (.tmp 22) none, none⟩,
   ⟨(some 24), .len false (.tmp 23), none⟩,
   ⟨(some 25), .mv (.const (.int .i64 0)), none⟩])
 (.block 4 (.loop [0, 2, 5, 6, 8, 16, 17, 18, 23, 24, 25] b_lontarlaw09_Letter_0)))))
 (.ops [⟨(some 53), .int .add (.tmp 18) (.const (.int .i64 1)), none⟩,
   ⟨(some 18), .mv (.tmp 53), none⟩]))))

/-- lontarlaw09_Letter: the body of loop 2 -/
def b_lontarlaw09_Letter_2 : ACode :=
 (.seq (.seq (.ops [⟨(some 12), .mv (.tmp 6), none⟩,
   ⟨(some 13), .int .lss (.tmp 12) (.const (.int .i64 2)), none⟩])
 (.cond (.tmp 13)
  .skip
  (.exit 0)))
 (.seq (.block 1 (.seq (.ops [⟨(some 16), .call (.func 26) [], none⟩,
   ⟨(some 17), .len false (.tmp 16), none⟩,
   ⟨(some 18), .mv (.const (.int .i64 0)), none⟩])
 (.block 2 (.loop [0, 2, 5, 6, 16, 17, 18] b_lontarlaw09_Letter_1))))
 (.ops [⟨(some 14), .mv (.tmp 6), none⟩,
   ⟨(some 15), .int .add (.tmp 14) (.const (.int .i64 1)), none⟩,
   ⟨(some 6), .mv (.tmp 15), none⟩])))

def k_lontarlaw09_Letter : ACode :=
 (.seq (.ops [⟨(some 2), .alloc [(.int .i64 0), (.complex .f64 0 0)] 26, none⟩,
   ⟨(some 3), .mv (.const (.int .i64 0)), none⟩,
   ⟨(some 4), .mv (.const (.bool false)), none⟩])
 (.seq (.ops [⟨(some 5), .mv (.const (.int .i64 0)), none⟩])
 (.seq (.seq (.ops [⟨(some 6), .mv (.const (.int .i64 0)), none⟩])
 (.block 0 (.loop [0, 2, 5, 6] b_lontarlaw09_Letter_2)))
 (.seq (.ops [⟨(some 54), .build [(.int .i64 0), (.complex .f64 0 0)] [], none⟩,
   ⟨none, .store (.tmp 2) (.tmp 54) 2, none⟩,
   ⟨(some 3), .mv (.const (.int .i64 0)), none⟩,
   ⟨(some 4), .mv (.const (.bool false)), none⟩])
 .ret))))
def F_lontarlaw09_Letter : AFunc := ⟨1, 55, [.cell 2 (some 2), .tmp 3, .tmp 4], k_lontarlaw09_Letter⟩
theorem ok_lontarlaw09_Letter : FOK Try.prog 10 F_lontarlaw09_Letter := FOK.of [[0, 2, 5, 6], [0, 2, 5, 6, 16, 17, 18], [0, 2, 5, 6, 8, 16, 17, 18, 23, 24, 25]] Try.func10 (by kernel_rfl) (by kernel_rfl)

-- lontar/lontarlaw01.Units
@[reducible] def i_lontarlaw01_Units : Nat := 11
/-- lontarlaw01_Units: the body of loop 0 -/
def b_lontarlaw01_Units_0 : ACode :=
 (.seq (.ops [⟨(some 14), .int .lss (.tmp 13) (.tmp 12), none⟩])
 (.seq (.cond (.tmp 14)
  .skip
  (.exit 0))
 (.seq (.block 1 (.seq (.ops [⟨(some 15), .mv (.tmp 13), none⟩,
   ⟨(some 5), .mv (.tmp 15), none⟩])
 (.seq (.draw [⟨(some 16), .mv (.tmp 0), none⟩,
   ⟨(some 17), .mv (.tmp 5), none⟩,
   ⟨(some 18), .iaddr (.tmp 16) (.tmp 17) 1, none⟩,
   ⟨(some 19), .load (.tmp 18) none, none⟩,
   ⟨(some 20), .mv (.tmp 1), none⟩,
   ⟨(some 21), .mv (.tmp 5), none⟩,
   ⟨(some 22), .iaddr (.tmp 20) (.tmp 21) 1, none⟩,
   ⟨(some 23), .load (.tmp 22) none, none⟩,
   ⟨(some 24), .int .neq (.tmp 19) (.tmp 23), none⟩])
 (.cond (.tmp 24)
  (.seq (.ops [⟨(some 4), .mv (.const (.bool false)), none⟩])
  .ret)
  .skip))))
 (.ops [⟨(some 25), .int .add (.tmp 13) (.const (.int .i64 1)), none⟩,
   ⟨(some 13), .mv (.tmp 25), none⟩]))))

def k_lontarlaw01_Units : ACode :=
 (.seq (.ops [⟨(some 4), .mv (.const (.bool false)), none⟩])
 (.seq (.seq (.ops [⟨(some 6), .mv (.tmp 0), none⟩,
   ⟨(some 7), .len false (.tmp 6), none⟩,
   ⟨(some 8), .mv (.tmp 1), none⟩,
   ⟨(some 9), .len false (.tmp 8), none⟩,
   ⟨(some 10), .int .neq (.tmp 7) (.tmp 9), none⟩])
 (.cond (.tmp 10)
  (.seq (.ops [⟨(some 4), .mv (.const (.bool false)), none⟩])
  .ret)
  .skip))
 (.seq (.seq (.ops [⟨(some 11), .mv (.tmp 0), none⟩,
   ⟨(some 12), .len false (.tmp 11), none⟩,
   ⟨(some 13), .mv (.const (.int .i64 0)), none⟩])
 (.block 0 (.loop [0, 1, 12, 13] b_lontarlaw01_Units_0)))
 (.seq (.ops [⟨(some 4), .mv (.const (.bool true)), none⟩])
 .ret))))
def F_lontarlaw01_Units : AFunc := ⟨2, 26, [.tmp 4], k_lontarlaw01_Units⟩
theorem ok_lontarlaw01_Units : FOK Try.prog 11 F_lontarlaw01_Units := FOK.of [[0, 1, 12, 13], [0, 1, 2, 3, 4, 5, 6, 7, 8]] Try.func11 (by kernel_rfl) (by kernel_rfl)

-- lontar/vni.Small
@[reducible] def i_vni_Small : Nat := 12
def k_vni_Small : ACode :=
 (.seq (.ops [⟨(some 1), .box (.tmp 0) 26, none⟩,
   ⟨(some 2), .mv (.const (.slice none 0 0)), none⟩])
 (.seq (.ops [⟨(some 11), .load (.tmp 1) (some 2), none⟩,
   ⟨(some 12), .call (.func 14) [(.tmp 11)], none⟩,
   ⟨(some 10), .mv (.tmp 12), none⟩,
   ⟨(some 13), .ext (.tmp 10) 0, none⟩,
   ⟨(some 14), .ext (.tmp 10) 1, none⟩,
   ⟨(some 3), .mv (.tmp 13), none⟩,
   ⟨(some 4), .mv (.tmp 14), none⟩])
 (.seq (.seq (.ops [⟨(some 15), .mv (.tmp 4), none⟩,
   ⟨(some 16), .not (.tmp 15), none⟩])
 (.cond (.tmp 16)
  (.seq (.ops [⟨(some 2), .mv (.const (.slice none 0 0)), none⟩])
  .ret)
  .skip))
 (.seq (.seq (.ops [⟨(some 17), .mv (.tmp 3), none⟩,
   ⟨(some 18), .call (.func 28) [(.tmp 17)], none⟩,
   ⟨(some 5), .mv (.tmp 18), none⟩])
 (.seq (.ops [⟨(some 19), .mv (.tmp 5), none⟩,
   ⟨(some 20), .int .gtr (.tmp 19) (.const (.int .i64 0)), none⟩])
 (.cond (.tmp 20)
  (.seq (.ops [⟨(some 21), .mv (.tmp 5), none⟩,
    ⟨(some 22), .bslice 3 1 1 [(.int .i64 0)] [(0, 1, (.tmp 21))], none⟩,
    ⟨(some 2), .mv (.tmp 22), none⟩])
  .ret)
  .skip)))
 (.seq (.draw [⟨(some 23), .faddr (.tmp 1) 0, none⟩,
   ⟨(some 24), .load (.tmp 23) none, none⟩,
   ⟨(some 25), .faddr (.tmp 1) 1, none⟩,
   ⟨(some 26), .load (.tmp 25) none, none⟩,
   ⟨(some 27), .gen ⟨none, (.call ⟨.builtin .real, #[(.tmp 26)], #[24]⟩), 22, "", #[], none⟩, none⟩,
   ⟨(some 28), .gen ⟨none, (.convert 22 3 (.tmp 27)), 3, "", #[], none⟩, none⟩,
   ⟨(some 29), .faddr (.tmp 1) 1, none⟩,
   ⟨(some 30), .load (.tmp 29) none, none⟩,
   ⟨(some 31), .gen ⟨none, (.call ⟨.builtin .imag, #[(.tmp 30)], #[24]⟩), 22, "", #[], none⟩, none⟩,
   ⟨(some 32), .gen ⟨none, (.convert 22 3 (.tmp 31)), 3, "", #[], none⟩, none⟩,
   ⟨(some 6), .mv (.tmp 24), none⟩,
   ⟨(some 7), .mv (.tmp 28), none⟩,
   ⟨(some 8), .mv (.tmp 32), none⟩])
 (.seq (.seq (.ops [⟨(some 33), .mv (.tmp 7), none⟩,
   ⟨(some 34), .int .eql (.tmp 33) (.const (.int .i64 3)), none⟩])
 (.cond (.tmp 34)
  (.ops [⟨(some 35), .mop (.make 66), none⟩,
    ⟨none, .mop (.set (.tmp 35) (.const (.int .i64 111)) (.const (.int .i64 244))), none⟩,
    ⟨none, .mop (.set (.tmp 35) (.const (.int .i64 117)) (.const (.int .i64 246))), none⟩,
    ⟨(some 36), .mv (.tmp 35), none⟩,
    ⟨(some 37), .mv (.tmp 6), none⟩,
    ⟨(some 38), .mop (.get (.tmp 36) (.tmp 37) (.int .i64 0) false), none⟩,
    ⟨(some 6), .mv (.tmp 38), none⟩])
  .skip))
 (.seq (.seq (.ops [⟨(some 39), .mv (.tmp 7), none⟩,
   ⟨(some 40), .call (.func 29) [(.tmp 39)], none⟩,
   ⟨(some 41), .mv (.tmp 8), none⟩,
   ⟨(some 42), .index (.tmp 40) (.tmp 41) 6 false 1, none⟩,
   ⟨(some 9), .mv (.tmp 42), none⟩])
 (.seq (.ops [⟨(some 43), .mv (.tmp 9), none⟩,
   ⟨(some 44), .int .gtr (.tmp 43) (.const (.int .i64 0)), none⟩])
 (.cond (.tmp 44)
  (.seq (.ops [⟨(some 45), .mv (.tmp 6), none⟩,
    ⟨(some 46), .mv (.tmp 9), none⟩,
    ⟨(some 47), .bslice 3 2 1 [(.int .i64 0)] [(0, 1, (.tmp 45)), (1, 1, (.tmp 46))], none⟩,
    ⟨(some 2), .mv (.tmp 47), none⟩])
  .ret)
  .skip)))
 (.seq (.ops [⟨(some 48), .mv (.tmp 6), none⟩,
   ⟨(some 49), .bslice 3 1 1 [(.int .i64 0)] [(0, 1, (.tmp 48))], none⟩,
   ⟨(some 2), .mv (.tmp 49), none⟩])
 .ret))))))))
def F_vni_Small : AFunc := ⟨1, 50, [.tmp 2], k_vni_Small⟩
theorem ok_vni_Small : FOK Try.prog 12 F_vni_Small := FOK.of [[0, 1, 2, 3, 4, 5, 6, 7, 8, 9, 10, 11, 12]] Try.func12 (by kernel_rfl) (by kernel_rfl)

-- lontar/lontarlaw13.small
@[reducible] def i_lontarlaw13_small : Nat := 13
/-- lontarlaw13_small: the body of loop 0 -/
def b_lontarlaw13_small_0 : ACode :=
 (.seq (.ops [⟨(some 27), .int .lss (.tmp 26) (.tmp 25), none⟩])
 (.seq (.cond (.tmp 27)
  .skip
  (.exit 0))
 (.seq (.block 1 (.seq (.ops [⟨(some 28), .iaddr (.tmp 24) (.tmp 26) 2, none⟩,
   ⟨(some 29), .load (.tmp 28) (some 2), none⟩,
   ⟨(some 7), .alloc [(.int .i64 0), (.int .i64 0)] 69, none⟩,
   ⟨none, .store (.tmp 7) (.tmp 29) 2, none⟩])
 (.seq (.ops [⟨(some 30), .aaddr (.tmp 7) (.const (.int .i64 0)) 2 1, none⟩,
   ⟨(some 31), .load (.tmp 30) none, none⟩,
   ⟨(some 32), .mv (.tmp 4), none⟩,
   ⟨(some 33), .int .eql (.tmp 31) (.tmp 32), none⟩])
 (.cond (.tmp 33)
  (.seq (.ops [⟨(some 34), .aaddr (.tmp 7) (.const (.int .i64 1)) 2 1, none⟩,
    ⟨(some 35), .load (.tmp 34) none, none⟩,
    ⟨(some 36), .bslice 3 1 1 [(.int .i64 0)] [(0, 1, (.tmp 35))], none⟩,
    ⟨(some 2), .mv (.tmp 36), none⟩])
  .ret)
  .skip))))
 (.ops [⟨(some 37), .int .add (.tmp 26) (.const (.int .i64 1)), none⟩,
   ⟨(some 26), .mv (.tmp 37), none⟩]))))

def k_lontarlaw13_small : ACode :=
 (.seq (.ops [⟨(some 2), .mv (.const (.slice none 0 0)), none⟩])
 (.seq (.ops [⟨(some 12), .mv (.tmp 0), none⟩,
   ⟨(some 13), .call (.func 10) [(.tmp 12)], none⟩,
   ⟨(some 11), .mv (.tmp 13), none⟩,
   ⟨(some 14), .ext (.tmp 11) 0, none⟩,
   ⟨(some 15), .ext (.tmp 11) 1, none⟩,
   ⟨(some 16), .ext (.tmp 11) 2, none⟩,
   ⟨(some 3), .alloc [(.int .i64 0), (.complex .f64 0 0)] 26, none⟩,
   ⟨none, .store (.tmp 3) (.tmp 14) 2, none⟩,
   ⟨(some 4), .mv (.tmp 15), none⟩,
   ⟨(some 5), .mv (.tmp 16), none⟩])
 (.seq (.seq (.ops [⟨(some 17), .build [(.int .i64 0), (.int .i64 0)] [(0, 1, (.const (.int .i64 236))), (1, 1, (.const (.int .i64 236)))], none⟩,
   ⟨(some 18), .build [(.int .i64 0), (.int .i64 0)] [(0, 1, (.const (.int .i64 237))), (1, 1, (.const (.int .i64 237)))], none⟩,
   ⟨(some 19), .build [(.int .i64 0), (.int .i64 0)] [(0, 1, (.const (.int .i64 7881))), (1, 1, (.const (.int .i64 230)))], none⟩,
   ⟨(some 20), .build [(.int .i64 0), (.int .i64 0)] [(0, 1, (.const (.int .i64 297))), (1, 1, (.const (.int .i64 243)))], none⟩,
   ⟨(some 21), .build [(.int .i64 0), (.int .i64 0)] [(0, 1, (.const (.int .i64 7883))), (1, 1, (.const (.int .i64 242)))], none⟩,
   ⟨(some 22), .build [(.int .i64 0), (.int .i64 0)] [(0, 1, (.const (.int .i64 7925))), (1, 1, (.const (.int .i64 238)))], none⟩,
   ⟨(some 23), .build [(.int .i64 0), (.int .i64 0)] [(0, 1, (.const (.int .i64 273))), (1, 1, (.const (.int .i64 241)))], none⟩,
   ⟨(some 24), .bslice 69 7 2 [(.int .i64 0), (.int .i64 0)] [(0, 2, (.tmp 17)), (2, 2, (.tmp 18)), (4, 2, (.tmp 19)), (6, 2, (.tmp 20)), (8, 2, (.tmp 21)), (10, 2, (.tmp 22)), (12, 2, (.tmp 23))], none⟩,
   ⟨(some 25), .len false (.tmp 24), none⟩,
   ⟨(some 26), .mv (.const (.int .i64 0)), none⟩])
 (.block 0 (.loop [3, 4, 24, 25, 26] b_lontarlaw13_small_0)))
 (.seq (.ops [⟨(some 38), .faddr (.tmp 3) 0, none⟩,
   ⟨(some 39), .load (.tmp 38) none, none⟩,
   ⟨(some 8), .mv (.tmp 39), none⟩])
 (.seq (.ops [⟨(some 40), .bslice 3 6 1 [(.int .i64 0)] [(0, 1, (.const (.int .i64 0))), (1, 1, (.const (.int .i64 248))), (2, 1, (.const (.int .i64 249))), (3, 1, (.const (.int .i64 251))), (4, 1, (.const (.int .i64 245))), (5, 1, (.const (.int .i64 239)))], none⟩,
   ⟨(some 9), .mv (.tmp 40), none⟩])
 (.seq (.seq (.ops [⟨(some 41), .faddr (.tmp 3) 1, none⟩,
   ⟨(some 42), .load (.tmp 41) none, none⟩,
   ⟨(some 43), .gen ⟨none, (.call ⟨.builtin .real, #[(.tmp 42)], #[24]⟩), 22, "", #[], none⟩, none⟩])
 (.block 2 (.seq (.ops [⟨(some 45), .gen ⟨none, (.binOp .eql 22 (.tmp 43) (.const (.float .f64 4607182418800017408)) 22), 4, "", #[], none⟩, none⟩,
   ⟨(some 44), .mv (.tmp 45), none⟩])
 (.cond (.tmp 44)
  (.ops [⟨(some 46), .bslice 3 6 1 [(.int .i64 0)] [(0, 1, (.const (.int .i64 234))), (1, 1, (.const (.int .i64 232))), (2, 1, (.const (.int .i64 233))), (3, 1, (.const (.int .i64 250))), (4, 1, (.const (.int .i64 252))), (5, 1, (.const (.int .i64 235)))], none⟩,
    ⟨(some 9), .mv (.tmp 46), none⟩])
  (.seq (.ops [⟨(some 48), .gen ⟨none, (.binOp .eql 22 (.tmp 43) (.const (.float .f64 4611686018427387904)) 22), 4, "", #[], none⟩, none⟩,
    ⟨(some 47), .mv (.tmp 48), none⟩])
  (.cond (.tmp 47)
   (.ops [⟨(some 49), .bslice 3 6 1 [(.int .i64 0)] [(0, 1, (.const (.int .i64 226))), (1, 1, (.const (.int .i64 224))), (2, 1, (.const (.int .i64 225))), (3, 1, (.const (.int .i64 229))), (4, 1, (.const (.int .i64 227))), (5, 1, (.const (.int .i64 228)))], none⟩,
     ⟨(some 9), .mv (.tmp 49), none⟩])
   (.seq (.ops [⟨(some 51), .gen ⟨none, (.binOp .eql 22 (.tmp 43) (.const (.float .f64 4613937818241073152)) 22), 4, "", #[], none⟩, none⟩,
     ⟨(some 50), .mv (.tmp 51), none⟩])
   (.cond (.tmp 50)
    (.seq (.ops [⟨(some 8), .mv (.const (.int .i64 244)), none⟩])
    (.seq (.ops [⟨(some 52), .faddr (.tmp 3) 0, none⟩,
      ⟨(some 53), .load (.tmp 52) none, none⟩,
      ⟨(some 54), .int .eql (.tmp 53) (.const (.int .i64 117)), none⟩])
    (.cond (.tmp 54)
     (.ops [⟨(some 8), .mv (.const (.int .i64 246)), none⟩])
     .skip)))
    .skip))))))))
 (.seq (.seq (.ops [⟨(some 55), .mv (.tmp 9), none⟩,
   ⟨(some 56), .faddr (.tmp 3) 1, none⟩,
   ⟨(some 57), .load (.tmp 56) none, none⟩,
   ⟨(some 58), .gen ⟨none, (.call ⟨.builtin .imag, #[(.tmp 57)], #[24]⟩), 22, "", #[], none⟩, none⟩,
   ⟨(some 59), .gen ⟨none, (.convert 22 3 (.tmp 58)), 3, "", #[], none⟩, none⟩,
   ⟨(some 60), .iaddr (.tmp 55) (.tmp 59) 1, none⟩,
   ⟨(some 61), .load (.tmp 60) none, none⟩,
   ⟨(some 10), .mv (.tmp 61), none⟩])
 (.seq (.ops [⟨(some 62), .mv (.tmp 10), none⟩,
   ⟨(some 63), .int .gtr (.tmp 62) (.const (.int .i64 0)), none⟩])
 (.cond (.tmp 63)
  (.seq (.ops [⟨(some 64), .mv (.tmp 8), none⟩,
    ⟨(some 65), .mv (.tmp 10), none⟩,
    ⟨(some 66), .bslice 3 2 1 [(.int .i64 0)] [(0, 1, (.tmp 64)), (1, 1, (.tmp 65))], none⟩,
    ⟨(some 2), .mv (.tmp 66), none⟩])
  .ret)
  .skip)))
 (.seq (.ops [⟨(some 67), .mv (.tmp 8), none⟩,
   ⟨(some 68), .bslice 3 1 1 [(.int .i64 0)] [(0, 1, (.tmp 67))], none⟩,
   ⟨(some 2), .mv (.tmp 68), none⟩])
 .ret))))))))
def F_lontarlaw13_small : AFunc := ⟨1, 69, [.tmp 2], k_lontarlaw13_small⟩
theorem ok_lontarlaw13_small : FOK Try.prog 13 F_lontarlaw13_small := FOK.of [[3, 4, 24, 25, 26]] Try.func13 (by kernel_rfl) (by kernel_rfl)

-- lontar/viet.Join
@[reducible] def i_viet_Join : Nat := 14
/-- viet_Join: the body of loop 0 -/
def b_viet_Join_0 : ACode :=
 (.seq (.ops [⟨(some 15), .int .lss (.tmp 14) (.tmp 13), none⟩])
 (.seq (.cond (.tmp 15)
  .skip
  (.exit 0))
 (.seq (.block 1 (.seq (.ops [⟨(some 16), .mv (.tmp 14), none⟩,
   ⟨(some 17), .iaddr (.tmp 12) (.tmp 14) 2, none⟩,
   ⟨(some 18), .load (.tmp 17) (some 2), none⟩,
   ⟨(some 7), .alloc [(.int .i64 0), (.complex .f64 0 0)] 26, none⟩,
   ⟨(some 6), .mv (.tmp 16), none⟩,
   ⟨none, .store (.tmp 7) (.tmp 18) 2, none⟩])
 (.seq (.ops [⟨(some 19), .load (.tmp 7) (some 2), none⟩,
   ⟨(some 20), .load (.tmp 1) (some 2), none⟩,
   ⟨(some 21), .gen ⟨none, (.binOp .eql 26 (.tmp 19) (.tmp 20) 26), 4, "", #[], none⟩, none⟩])
 (.cond (.tmp 21)
  (.seq (.ops [⟨(some 22), .mv (.tmp 5), none⟩,
    ⟨(some 23), .mv (.tmp 6), none⟩,
    ⟨(some 24), .iaddr (.tmp 22) (.tmp 23) 1, none⟩,
    ⟨(some 25), .load (.tmp 24) none, none⟩,
    ⟨(some 2), .mv (.tmp 25), none⟩,
    ⟨(some 3), .mv (.const (.bool true)), none⟩])
  .ret)
  .skip))))
 (.ops [⟨(some 26), .int .add (.tmp 14) (.const (.int .i64 1)), none⟩,
   ⟨(some 14), .mv (.tmp 26), none⟩]))))

def k_viet_Join : ACode :=
 (.seq (.ops [⟨(some 1), .box (.tmp 0) 26, none⟩,
   ⟨(some 2), .mv (.const (.int .i64 0)), none⟩,
   ⟨(some 3), .mv (.const (.bool false)), none⟩])
 (.seq (.ops [⟨(some 9), .call (.func 30) [], none⟩,
   ⟨(some 8), .mv (.tmp 9), none⟩,
   ⟨(some 10), .ext (.tmp 8) 0, none⟩,
   ⟨(some 11), .ext (.tmp 8) 1, none⟩,
   ⟨(some 4), .mv (.tmp 10), none⟩,
   ⟨(some 5), .mv (.tmp 11), none⟩])
 (.seq (.seq (.ops [⟨(some 12), .mv (.tmp 4), none⟩,
   ⟨(some 13), .len false (.tmp 12), none⟩,
   ⟨(some 14), .mv (.const (.int .i64 0)), none⟩])
 (.block 0 (.loop [1, 5, 12, 13, 14] b_viet_Join_0)))
 (.seq (.ops [⟨(some 2), .mv (.const (.int .i64 0)), none⟩,
   ⟨(some 3), .mv (.const (.bool false)), none⟩])
 .ret))))
def F_viet_Join : AFunc := ⟨1, 27, [.tmp 2, .tmp 3], k_viet_Join⟩
theorem ok_viet_Join : FOK Try.prog 14 F_viet_Join := FOK.of [[1, 5, 12, 13, 14]] Try.func14 (by kernel_rfl) (by kernel_rfl)

-- lontar/vni.Rules
@[reducible] def i_vni_Rules : Nat := 15
/-- vni_Rules: the body of loop 0 -/
def b_vni_Rules_0 : ACode :=
 (.seq (.ops [⟨(some 42), .int .lss (.tmp 41) (.tmp 40), none⟩])
 (.seq (.cond (.tmp 42)
  .skip
  (.exit 2))
 (.seq (.block 3 (.seq (.ops [⟨(some 43), .iaddr (.tmp 39) (.tmp 41) 1, none⟩,
   ⟨(some 44), .load (.tmp 43) none, none⟩,
   ⟨(some 11), .mv (.tmp 44), none⟩])
 (.seq (.seq (.ops [⟨(some 45), .mv (.tmp 8), none⟩])
 (.cond (.tmp 45)
  (.ops [⟨(some 46), .mv (.tmp 11), none⟩,
    ⟨(some 47), .int .sub (.tmp 46) (.const (.int .i64 32)), none⟩,
    ⟨(some 11), .mv (.tmp 47), none⟩])
  .skip))
 (.ops [⟨(some 48), .mv (.tmp 9), none⟩,
   ⟨(some 49), .mv (.tmp 11), none⟩,
   ⟨(some 50), .bslice 3 1 1 [(.int .i64 0)] [(0, 1, (.tmp 49))], none⟩,
   ⟨(some 51), .append (.tmp 48) (.tmp 50) 3 1 8, none⟩,
   ⟨(some 9), .mv (.tmp 51), none⟩]))))
 (.ops [⟨(some 52), .int .add (.tmp 41) (.const (.int .i64 1)), none⟩,
   ⟨(some 41), .mv (.tmp 52), none⟩]))))

/-- vni_Rules: the body of loop 1 -/
def b_vni_Rules_1 : ACode :=
 (.seq (.ops [⟨(some 24), .int .lss (.tmp 23) (.tmp 22), none⟩])
 (.seq (.cond (.tmp 24)
  .skip
  (.exit 0))
 (.seq (.block 1 (.seq (.ops [⟨(some 25), .mv (.tmp 23), none⟩,
   ⟨(some 26), .iaddr (.tmp 21) (.tmp 23) 2, none⟩,
   ⟨(some 27), .load (.tmp 26) (some 2), none⟩,
   ⟨(some 7), .alloc [(.int .i64 0), (.complex .f64 0 0)] 26, none⟩,
   ⟨(some 6), .mv (.tmp 25), none⟩,
   ⟨none, .store (.tmp 7) (.tmp 27) 2, none⟩])
 (.seq (.ops [⟨(some 28), .mv (.tmp 6), none⟩,
   ⟨(some 29), .mv (.tmp 4), none⟩,
   ⟨(some 30), .int .geq (.tmp 28) (.tmp 29), none⟩,
   ⟨(some 8), .mv (.tmp 30), none⟩])
 (.seq (.seq (.ops [⟨(some 31), .mv (.tmp 8), none⟩])
 (.cond (.tmp 31)
  (.ops [⟨(some 32), .mv (.tmp 2), none⟩,
    ⟨(some 33), .mv (.tmp 6), none⟩,
    ⟨(some 34), .mv (.tmp 4), none⟩,
    ⟨(some 35), .int .sub (.tmp 33) (.tmp 34), none⟩,
    ⟨(some 36), .iaddr (.tmp 32) (.tmp 35) 2, none⟩,
    ⟨(some 37), .load (.tmp 36) (some 2), none⟩,
    ⟨none, .store (.tmp 7) (.tmp 37) 2, none⟩])
  .skip))
 (.seq (.ops [⟨(some 9), .mv (.const (.slice none 0 0)), none⟩])
 (.seq (.seq (.ops [⟨(some 38), .load (.tmp 7) (some 2), none⟩,
   ⟨(some 39), .call (.func 12) [(.tmp 38)], none⟩,
   ⟨(some 40), .len false (.tmp 39), none⟩,
   ⟨(some 41), .mv (.const (.int .i64 0)), none⟩])
 (.block 2 (.loop [1, 2, 3, 4, 5, 6, 8, 9, 21, 22, 23, 39, 40, 41] b_vni_Rules_0)))
 (.seq (.ops [⟨(some 53), .mv (.tmp 5), none⟩,
   ⟨(some 54), .mv (.tmp 3), none⟩,
   ⟨(some 55), .mv (.tmp 6), none⟩,
   ⟨(some 56), .iaddr (.tmp 54) (.tmp 55) 1, none⟩,
   ⟨(some 57), .load (.tmp 56) none, none⟩,
   ⟨none, .mop (.set (.tmp 53) (.tmp 57) (.const (.bool true))), none⟩])
 (.ops [⟨(some 58), .mv (.tmp 1), none⟩,
   ⟨(some 59), .mv (.tmp 9), none⟩,
   ⟨(some 60), .mv (.tmp 3), none⟩,
   ⟨(some 61), .mv (.tmp 6), none⟩,
   ⟨(some 62), .iaddr (.tmp 60) (.tmp 61) 1, none⟩,
   ⟨(some 63), .load (.tmp 62) none, none⟩,
   ⟨(some 64), .bslice 3 1 1 [(.int .i64 0)] [(0, 1, (.tmp 63))], none⟩,
   ⟨(some 65), .build [(.slice none 0 0), (.slice none 0 0)] [(0, 1, (.tmp 59)), (1, 1, (.tmp 64))], none⟩,
   ⟨(some 66), .bslice 46 1 2 [(.slice none 0 0), (.slice none 0 0)] [(0, 2, (.tmp 65))], none⟩,
   ⟨(some 67), .append (.tmp 58) (.tmp 66) 46 2 48, none⟩,
   ⟨(some 1), .mv (.tmp 67), none⟩]))))))))
 (.ops [⟨(some 68), .int .add (.tmp 23) (.const (.int .i64 1)), none⟩,
   ⟨(some 23), .mv (.tmp 68), none⟩]))))

/-- vni_Rules: the body of loop 2 -/
def b_vni_Rules_2 : ACode :=
 (.seq (.ops [⟨(some 70), .int .lss (.tmp 69) (.const (.int .i64 128)), none⟩])
 (.seq (.cond (.tmp 70)
  .skip
  (.exit 4))
 (.seq (.block 5 (.seq (.ops [⟨(some 71), .mv (.tmp 69), none⟩,
   ⟨(some 12), .mv (.tmp 71), none⟩])
 (.seq (.ops [⟨(some 72), .mv (.tmp 5), none⟩,
   ⟨(some 73), .mv (.tmp 12), none⟩,
   ⟨(some 74), .mop (.get (.tmp 72) (.tmp 73) (.bool false) false), none⟩,
   ⟨(some 75), .not (.tmp 74), none⟩])
 (.cond (.tmp 75)
  (.ops [⟨(some 76), .mv (.tmp 1), none⟩,
    ⟨(some 77), .mv (.tmp 12), none⟩,
    ⟨(some 78), .bslice 3 1 1 [(.int .i64 0)] [(0, 1, (.tmp 77))], none⟩,
    ⟨(some 79), .mv (.tmp 12), none⟩,
    ⟨(some 80), .bslice 3 1 1 [(.int .i64 0)] [(0, 1, (.tmp 79))], none⟩,
    ⟨(some 81), .build [(.slice none 0 0), (.slice none 0 0)] [(0, 1, (.tmp 78)), (1, 1, (.tmp 80))], none⟩,
    ⟨(some 82), .bslice 46 1 2 [(.slice none 0 0), (.slice none 0 0)] [(0, 2, (.tmp 81))], none⟩,
    ⟨(some 83), .append (.tmp 76) (.tmp 82) 46 2 48, none⟩,
    ⟨(some 1), .mv (.tmp 83), none⟩])
  .skip))))
 (.ops [⟨(some 84), .int .add (.tmp 69) (.const (.int .i64 1)), none⟩,
   ⟨(some 69), .mv (.tmp 84), none⟩]))))

def k_vni_Rules : ACode :=
 (.seq (.ops [⟨(some 0), .mv (.const (.slice none 0 0)), none⟩])
 (.seq (.ops [⟨(some 1), .mv (.const (.slice none 0 0)), none⟩])
 (.seq (.ops [⟨(some 14), .call (.func 30) [], none⟩,
   ⟨(some 13), .mv (.tmp 14), none⟩,
   ⟨(some 15), .ext (.tmp 13) 0, none⟩,
   ⟨(some 16), .ext (.tmp 13) 1, none⟩,
   ⟨(some 2), .mv (.tmp 15), none⟩,
   ⟨(some 3), .mv (.tmp 16), none⟩])
 (.seq (.ops [⟨(some 17), .mv (.tmp 2), none⟩,
   ⟨(some 18), .len false (.tmp 17), none⟩,
   ⟨(some 19), .int .quo (.tmp 18) (.const (.int .i64 2)), none⟩,
   ⟨(some 4), .mv (.tmp 19), none⟩])
 (.seq (.ops [⟨(some 20), .mop (.make 74), none⟩,
   ⟨(some 5), .mv (.tmp 20), none⟩])
 (.seq (.seq (.ops [⟨(some 21), .mv (.tmp 2), none⟩,
   ⟨(some 22), .len false (.tmp 21), none⟩,
   ⟨(some 23), .mv (.const (.int .i64 0)), none⟩])
 (.block 0 (.loop [1, 2, 3, 4, 5, 21, 22, 23] b_vni_Rules_1)))
 (.seq (.seq (.ops [⟨(some 69), .mv (.const (.int .i64 0)), none⟩])
 (.block 4 (.loop [1, 5, 69] b_vni_Rules_2)))
 (.seq (.ops [⟨(some 85), .mv (.tmp 1), none⟩,
   ⟨(some 0), .mv (.tmp 85), none⟩])
 .ret))))))))
def F_vni_Rules : AFunc := ⟨0, 86, [.tmp 0], k_vni_Rules⟩
theorem ok_vni_Rules : FOK Try.prog 15 F_vni_Rules := FOK.of [[1, 2, 3, 4, 5, 21, 22, 23], [1, 2, 3, 4, 5, 6, 8, 9, 21, 22, 23, 39, 40, 41], [1, 5, 69]] Try.func15 (by kernel_rfl) (by kernel_rfl)

-- lontar/lontarlaw03.Same
@[reducible] def i_lontarlaw03_Same : Nat := 16
/-- lontarlaw03_Same: the body of loop 0 -/
def b_lontarlaw03_Same_0 : ACode :=
 (.seq (.ops [⟨(some 14), .int .lss (.tmp 13) (.tmp 12), none⟩])
 (.seq (.cond (.tmp 14)
  .skip
  (.exit 0))
 (.seq (.block 1 (.seq (.ops [⟨(some 15), .mv (.tmp 13), none⟩,
   ⟨(some 5), .mv (.tmp 15), none⟩])
 (.seq (.draw [⟨(some 16), .mv (.tmp 0), none⟩,
   ⟨(some 17), .mv (.tmp 5), none⟩,
   ⟨(some 18), .iaddr (.tmp 16) (.tmp 17) 2, none⟩,
   ⟨(some 19), .faddr (.tmp 18) 0, none⟩,
   ⟨(some 20), .load (.tmp 19) none, none⟩,
   ⟨(some 21), .mv (.tmp 1), none⟩,
   ⟨(some 22), .mv (.tmp 5), none⟩,
   ⟨(some 23), .iaddr (.tmp 21) (.tmp 22) 2, none⟩,
   ⟨(some 24), .faddr (.tmp 23) 0, none⟩,
   ⟨(some 25), .load (.tmp 24) none, none⟩,
   ⟨(some 26), .call (.func 11) [(.tmp 20), (.tmp 25)], none⟩,
   ⟨(some 27), .not (.tmp 26), none⟩,
   ⟨(some 28), .mv (.tmp 27), none⟩,
   ⟨(some 29), .mv (.tmp 0), some (28, false)⟩,
   ⟨(some 30), .mv (.tmp 5), some (28, false)⟩,
   ⟨(some 31), .iaddr (.tmp 29) (.tmp 30) 2, some (28, false)⟩,
   ⟨(some 32), .faddr (.tmp 31) 1, some (28, false)⟩,
   ⟨(some 33), .load (.tmp 32) none, some (28, false)⟩,
   ⟨(some 34), .mv (.tmp 1), some (28, false)⟩,
   ⟨(some 35), .mv (.tmp 5), some (28, false)⟩,
   ⟨(some 36), .iaddr (.tmp 34) (.tmp 35) 2, some (28, false)⟩,
   ⟨(some 37), .faddr (.tmp 36) 1, some (28, false)⟩,
   ⟨(some 38), .load (.tmp 37) none, some (28, false)⟩,
   ⟨(some 39), .call (.func 11) [(.tmp 33), (.tmp 38)], some (28, false)⟩,
   ⟨(some 40), .not (.tmp 39), some (28, false)⟩,
   ⟨(some 41), .pick (.tmp 28) (.const (.bool true)) (.tmp 40), none⟩])
 (.cond (.tmp 41)
  (.seq (.ops [⟨(some 4), .mv (.const (.bool false)), none⟩])
  .ret)
  .skip))))
 (.ops [⟨(some 42), .int .add (.tmp 13) (.const (.int .i64 1)), none⟩,
   ⟨(some 13), .mv (.tmp 42), none⟩]))))

def k_lontarlaw03_Same : ACode :=
 (.seq (.ops [⟨(some 4), .mv (.const (.bool false)), none⟩])
 (.seq (.seq (.ops [⟨(some 6), .mv (.tmp 0), none⟩,
   ⟨(some 7), .len false (.tmp 6), none⟩,
   ⟨(some 8), .mv (.tmp 1), none⟩,
   ⟨(some 9), .len false (.tmp 8), none⟩,
   ⟨(some 10), .int .neq (.tmp 7) (.tmp 9), none⟩])
 (.cond (.tmp 10)
  (.seq (.ops [⟨(some 4), .mv (.const (.bool false)), none⟩])
  .ret)
  .skip))
 (.seq (.seq (.ops [⟨(some 11), .mv (.tmp 0), none⟩,
   ⟨(some 12), .len false (.tmp 11), none⟩,
   ⟨(some 13), .mv (.const (.int .i64 0)), none⟩])
 (.block 0 (.loop [0, 1, 12, 13] b_lontarlaw03_Same_0)))
 (.seq (.ops [⟨(some 4), .mv (.const (.bool true)), none⟩])
 .ret))))
def F_lontarlaw03_Same : AFunc := ⟨2, 43, [.tmp 4], k_lontarlaw03_Same⟩
theorem ok_lontarlaw03_Same : FOK Try.prog 16 F_lontarlaw03_Same := FOK.of [[0, 1, 12, 13], [0, 1, 2, 3, 4, 5, 6, 7, 8, 9, 10, 11, 12, 13, 14, 15, 16, 17, 18, 19, 20, 21, 22, 23, 24, 25]] Try.func16 (by kernel_rfl) (by kernel_rfl)

-- lontar/lontarlaw13.rules
@[reducible] def i_lontarlaw13_rules : Nat := 17
/-- lontarlaw13_rules: the body of loop 0 -/
def b_lontarlaw13_rules_0 : ACode :=
 (.seq (.ops [⟨(some 29), .int .lss (.tmp 28) (.tmp 27), none⟩])
 (.seq (.cond (.tmp 29)
  .skip
  (.exit 2))
 (.seq (.block 3 (.seq (.ops [⟨(some 30), .mv (.tmp 28), none⟩,
   ⟨(some 7), .mv (.tmp 30), none⟩])
 (.ops [⟨(some 31), .mv (.tmp 6), none⟩,
   ⟨(some 32), .mv (.tmp 7), none⟩,
   ⟨(some 33), .mv (.tmp 6), none⟩,
   ⟨(some 34), .mv (.tmp 7), none⟩,
   ⟨(some 35), .iaddr (.tmp 33) (.tmp 34) 1, none⟩,
   ⟨(some 36), .load (.tmp 35) none, none⟩,
   ⟨(some 37), .int .sub (.tmp 36) (.const (.int .i64 32)), none⟩,
   ⟨(some 38), .iaddr (.tmp 31) (.tmp 32) 1, none⟩,
   ⟨none, .store (.tmp 38) (.tmp 37) 1, none⟩])))
 (.ops [⟨(some 39), .int .add (.tmp 28) (.const (.int .i64 1)), none⟩,
   ⟨(some 28), .mv (.tmp 39), none⟩]))))

/-- lontarlaw13_rules: the body of loop 1 -/
def b_lontarlaw13_rules_1 : ACode :=
 (.seq (.seq (.ops [⟨(some 11), .mv (.tmp 2), none⟩,
   ⟨(some 12), .int .lss (.tmp 11) (.const (.int .i64 148)), none⟩])
 (.cond (.tmp 12)
  .skip
  (.exit 0)))
 (.seq (.block 1 (.seq (.ops [⟨(some 16), .mv (.tmp 2), none⟩,
   ⟨(some 17), .call (.func 10) [(.tmp 16)], none⟩,
   ⟨(some 15), .mv (.tmp 17), none⟩,
   ⟨(some 18), .ext (.tmp 15) 0, none⟩,
   ⟨(some 19), .ext (.tmp 15) 1, none⟩,
   ⟨(some 20), .ext (.tmp 15) 2, none⟩,
   ⟨(some 3), .alloc [(.int .i64 0), (.complex .f64 0 0)] 26, none⟩,
   ⟨none, .store (.tmp 3) (.tmp 18) 2, none⟩,
   ⟨(some 4), .mv (.tmp 19), none⟩,
   ⟨(some 5), .mv (.tmp 20), none⟩])
 (.seq (.ops [⟨(some 21), .mv (.tmp 2), none⟩,
   ⟨(some 22), .int .rem (.tmp 21) (.const (.int .i64 74)), none⟩,
   ⟨(some 23), .call (.func 13) [(.tmp 22)], none⟩,
   ⟨(some 6), .mv (.tmp 23), none⟩])
 (.seq (.seq (.ops [⟨(some 24), .mv (.tmp 2), none⟩,
   ⟨(some 25), .int .geq (.tmp 24) (.const (.int .i64 74)), none⟩])
 (.cond (.tmp 25)
  (.seq (.ops [⟨(some 26), .mv (.tmp 6), none⟩,
    ⟨(some 27), .len false (.tmp 26), none⟩,
    ⟨(some 28), .mv (.const (.int .i64 0)), none⟩])
  (.block 2 (.loop [1, 2, 4, 6, 27, 28] b_lontarlaw13_rules_0)))
  .skip))
 (.ops [⟨(some 40), .mv (.tmp 1), none⟩,
   ⟨(some 41), .mv (.tmp 6), none⟩,
   ⟨(some 42), .mv (.tmp 4), none⟩,
   ⟨(some 43), .bslice 3 1 1 [(.int .i64 0)] [(0, 1, (.tmp 42))], none⟩,
   ⟨(some 44), .build [(.slice none 0 0), (.slice none 0 0)] [(0, 1, (.tmp 41)), (1, 1, (.tmp 43))], none⟩,
   ⟨(some 45), .bslice 46 1 2 [(.slice none 0 0), (.slice none 0 0)] [(0, 2, (.tmp 44))], none⟩,
   ⟨(some 46), .append (.tmp 40) (.tmp 45) 46 2 48, none⟩,
   ⟨(some 1), .mv (.tmp 46), none⟩])))))
 (.ops [⟨(some 13), .mv (.tmp 2), none⟩,
   ⟨(some 14), .int .add (.tmp 13) (.const (.int .i64 1)), none⟩,
   ⟨(some 2), .mv (.tmp 14), none⟩])))

/-- lontarlaw13_rules: the body of loop 2 -/
def b_lontarlaw13_rules_2 : ACode :=
 (.seq (.seq (.ops [⟨(some 47), .mv (.tmp 8), none⟩,
   ⟨(some 48), .int .lss (.tmp 47) (.const (.int .i64 128)), none⟩])
 (.cond (.tmp 48)
  .skip
  (.exit 4)))
 (.seq (.block 5 (.seq (.ops [⟨(some 52), .mv (.tmp 8), none⟩,
   ⟨(some 53), .call (.func 31) [(.tmp 52)], none⟩,
   ⟨(some 51), .mv (.tmp 53), none⟩,
   ⟨(some 54), .ext (.tmp 51) 0, none⟩,
   ⟨(some 55), .ext (.tmp 51) 1, none⟩,
   ⟨(some 9), .alloc [(.int .i64 0), (.complex .f64 0 0)] 26, none⟩,
   ⟨none, .store (.tmp 9) (.tmp 54) 2, none⟩,
   ⟨(some 10), .mv (.tmp 55), none⟩])
 (.seq (.ops [⟨(some 56), .mv (.tmp 10), none⟩,
   ⟨(some 57), .not (.tmp 56), none⟩])
 (.cond (.tmp 57)
  (.ops [⟨(some 58), .mv (.tmp 1), none⟩,
    ⟨(some 59), .mv (.tmp 8), none⟩,
    ⟨(some 60), .bslice 3 1 1 [(.int .i64 0)] [(0, 1, (.tmp 59))], none⟩,
    ⟨(some 61), .mv (.tmp 8), none⟩,
    ⟨(some 62), .bslice 3 1 1 [(.int .i64 0)] [(0, 1, (.tmp 61))], none⟩,
    ⟨(some 63), .build [(.slice none 0 0), (.slice none 0 0)] [(0, 1, (.tmp 60)), (1, 1, (.tmp 62))], none⟩,
    ⟨(some 64), .bslice 46 1 2 [(.slice none 0 0), (.slice none 0 0)] [(0, 2, (.tmp 63))], none⟩,
    ⟨(some 65), .append (.tmp 58) (.tmp 64) 46 2 48, none⟩,
    ⟨(some 1), .mv (.tmp 65), none⟩])
  .skip))))
 (.ops [⟨(some 49), .mv (.tmp 8), none⟩,
   ⟨(some 50), .int .add (.tmp 49) (.const (.int .i64 1)), none⟩,
   ⟨(some 8), .mv (.tmp 50), none⟩])))

def k_lontarlaw13_rules : ACode :=
 (.seq (.ops [⟨(some 0), .mv (.const (.slice none 0 0)), none⟩])
 (.seq (.ops [⟨(some 1), .mv (.const (.slice none 0 0)), none⟩])
 (.seq (.seq (.ops [⟨(some 2), .mv (.const (.int .i64 0)), none⟩])
 (.block 0 (.loop [1, 2] b_lontarlaw13_rules_1)))
 (.seq (.seq (.ops [⟨(some 8), .mv (.const (.int .i64 0)), none⟩])
 (.block 4 (.loop [1, 8] b_lontarlaw13_rules_2)))
 (.seq (.ops [⟨(some 66), .mv (.tmp 1), none⟩,
   ⟨(some 0), .mv (.tmp 66), none⟩])
 .ret)))))
def F_lontarlaw13_rules : AFunc := ⟨0, 67, [.tmp 0], k_lontarlaw13_rules⟩
theorem ok_lontarlaw13_rules : FOK Try.prog 17 F_lontarlaw13_rules := FOK.of [[1, 2], [1, 2, 4, 6, 27, 28], [1, 8]] Try.func17 (by kernel_rfl) (by kernel_rfl)

-- lontar/rule.Check
@[reducible] def i_rule_Check : Nat := 18
/-- rule_Check: the body of loop 0 -/
def b_rule_Check_0 : ACode :=
 (.seq (.ops [⟨(some 9), .int .lss (.tmp 8) (.tmp 7), none⟩])
 (.seq (.cond (.tmp 9)
  .skip
  (.exit 0))
 (.seq (.block 1 (.seq (.ops [⟨(some 10), .mv (.tmp 8), none⟩,
   ⟨(some 11), .iaddr (.tmp 6) (.tmp 8) 2, none⟩,
   ⟨(some 12), .load (.tmp 11) (some 2), none⟩,
   ⟨(some 5), .alloc [(.slice none 0 0), (.slice none 0 0)] 46, none⟩,
   ⟨(some 4), .mv (.tmp 10), none⟩,
   ⟨none, .store (.tmp 5) (.tmp 12) 2, none⟩])
 (.block 2 (.seq (.ops [⟨(some 14), .mv (.tmp 4), none⟩,
   ⟨(some 15), .int .geq (.tmp 14) (.const (.int .i64 512)), none⟩,
   ⟨(some 13), .mv (.tmp 15), none⟩])
 (.cond (.tmp 13)
  (.seq (.ops [⟨(some 16), .mv (.tmp 4), none⟩,
    ⟨(some 2), .mv (.tmp 16), none⟩,
    ⟨(some 3), .mv (.const (.int .i64 7)), none⟩])
  .ret)
  (.seq (.ops [⟨(some 18), .faddr (.tmp 5) 0, none⟩,
    ⟨(some 19), .load (.tmp 18) none, none⟩,
    ⟨(some 20), .call (.func 32) [(.tmp 19)], none⟩,
    ⟨(some 21), .not (.tmp 20), none⟩,
    ⟨(some 22), .mv (.tmp 21), none⟩,
    ⟨(some 23), .faddr (.tmp 5) 1, some (22, false)⟩,
    ⟨(some 24), .load (.tmp 23) none, some (22, false)⟩,
    ⟨(some 25), .call (.func 32) [(.tmp 24)], some (22, false)⟩,
    ⟨(some 26), .not (.tmp 25), some (22, false)⟩,
    ⟨(some 27), .pick (.tmp 22) (.const (.bool true)) (.tmp 26), none⟩,
    ⟨(some 17), .mv (.tmp 27), none⟩])
  (.cond (.tmp 17)
   (.seq (.ops [⟨(some 28), .mv (.tmp 4), none⟩,
     ⟨(some 2), .mv (.tmp 28), none⟩,
     ⟨(some 3), .mv (.const (.int .i64 9)), none⟩])
   .ret)
   (.seq (.draw [⟨(some 30), .mv (.tmp 0), none⟩,
     ⟨(some 31), .mv (.tmp 4), none⟩,
     ⟨(some 32), .slice (.tmp 30) none (some (.tmp 31)) 2, none⟩,
     ⟨(some 33), .faddr (.tmp 5) 0, none⟩,
     ⟨(some 34), .load (.tmp 33) none, none⟩,
     ⟨(some 35), .call (.func 20) [(.tmp 32), (.tmp 34)], none⟩,
     ⟨(some 36), .int .geq (.tmp 35) (.const (.int .i64 0)), none⟩,
     ⟨(some 29), .mv (.tmp 36), none⟩])
   (.cond (.tmp 29)
    (.seq (.ops [⟨(some 37), .mv (.tmp 4), none⟩,
      ⟨(some 2), .mv (.tmp 37), none⟩,
      ⟨(some 3), .mv (.const (.int .i64 8)), none⟩])
    .ret)
    .skip)))))))))
 (.ops [⟨(some 38), .int .add (.tmp 8) (.const (.int .i64 1)), none⟩,
   ⟨(some 8), .mv (.tmp 38), none⟩]))))

def k_rule_Check : ACode :=
 (.seq (.ops [⟨(some 2), .mv (.const (.int .i64 0)), none⟩,
   ⟨(some 3), .mv (.const (.int .i64 0)), none⟩])
 (.seq (.seq (.ops [⟨(some 6), .mv (.tmp 0), none⟩,
   ⟨(some 7), .len false (.tmp 6), none⟩,
   ⟨(some 8), .mv (.const (.int .i64 0)), none⟩])
 (.block 0 (.loop [0, 6, 7, 8] b_rule_Check_0)))
 (.seq (.ops [⟨(some 2), .mv (.const (.int .i64 (-1))), none⟩,
   ⟨(some 3), .mv (.const (.int .i64 0)), none⟩])
 .ret)))
def F_rule_Check : AFunc := ⟨1, 39, [.tmp 2, .tmp 3], k_rule_Check⟩
theorem ok_rule_Check : FOK Try.prog 18 F_rule_Check := FOK.of [[0, 6, 7, 8], [0, 1, 2, 3, 4, 5, 6, 7]] Try.func18 (by kernel_rfl) (by kernel_rfl)

-- lontar/rule.Turn
@[reducible] def i_rule_Turn : Nat := 19
/-- rule_Turn: the body of loop 0 -/
def b_rule_Turn_0 : ACode :=
 (.seq (.ops [⟨(some 9), .int .lss (.tmp 8) (.tmp 7), none⟩])
 (.seq (.cond (.tmp 9)
  .skip
  (.exit 0))
 (.seq (.block 1 (.seq (.ops [⟨(some 10), .iaddr (.tmp 6) (.tmp 8) 2, none⟩,
   ⟨(some 11), .load (.tmp 10) (some 2), none⟩,
   ⟨(some 5), .alloc [(.slice none 0 0), (.slice none 0 0)] 46, none⟩,
   ⟨none, .store (.tmp 5) (.tmp 11) 2, none⟩])
 (.seq (.ops [⟨(some 12), .mv (.tmp 3), none⟩,
   ⟨(some 13), .faddr (.tmp 5) 1, none⟩,
   ⟨(some 14), .load (.tmp 13) none, none⟩,
   ⟨(some 15), .call (.func 20) [(.tmp 12), (.tmp 14)], none⟩,
   ⟨(some 16), .int .lss (.tmp 15) (.const (.int .i64 0)), none⟩])
 (.cond (.tmp 16)
  (.draw [⟨(some 17), .mv (.tmp 3), none⟩,
    ⟨(some 18), .faddr (.tmp 5) 1, none⟩,
    ⟨(some 19), .load (.tmp 18) none, none⟩,
    ⟨(some 21), .faddr (.tmp 5) 0, none⟩,
    ⟨(some 22), .load (.tmp 21) none, none⟩,
    ⟨(some 20), .call (.func 33) [(.tmp 19)], none⟩,
    ⟨(some 23), .call (.func 33) [(.tmp 22)], none⟩,
    ⟨(some 24), .build [(.slice none 0 0), (.slice none 0 0)] [(0, 1, (.tmp 20)), (1, 1, (.tmp 23))], none⟩,
    ⟨(some 25), .bslice 46 1 2 [(.slice none 0 0), (.slice none 0 0)] [(0, 2, (.tmp 24))], none⟩,
    ⟨(some 26), .append (.tmp 17) (.tmp 25) 46 2 48, none⟩,
    ⟨(some 3), .mv (.tmp 26), none⟩])
  .skip))))
 (.ops [⟨(some 27), .int .add (.tmp 8) (.const (.int .i64 1)), none⟩,
   ⟨(some 8), .mv (.tmp 27), none⟩]))))

def k_rule_Turn : ACode :=
 (.seq (.ops [⟨(some 2), .mv (.const (.slice none 0 0)), none⟩])
 (.seq (.ops [⟨(some 3), .mv (.const (.slice none 0 0)), none⟩])
 (.seq (.seq (.ops [⟨(some 6), .mv (.tmp 0), none⟩,
   ⟨(some 7), .len false (.tmp 6), none⟩,
   ⟨(some 8), .mv (.const (.int .i64 0)), none⟩])
 (.block 0 (.loop [3, 6, 7, 8] b_rule_Turn_0)))
 (.seq (.ops [⟨(some 28), .mv (.tmp 3), none⟩,
   ⟨(some 2), .mv (.tmp 28), none⟩])
 .ret))))
def F_rule_Turn : AFunc := ⟨1, 29, [.tmp 2], k_rule_Turn⟩
theorem ok_rule_Turn : FOK Try.prog 19 F_rule_Turn := FOK.of [[3, 6, 7, 8], [0, 1, 2, 4, 5, 3, 6, 7, 8, 9, 10]] Try.func19 (by kernel_rfl) (by kernel_rfl)

-- lontar/rule.Find
@[reducible] def i_rule_Find : Nat := 20
def k_rule_Find : ACode :=
 (.seq (.ops [⟨(some 3), .box (.tmp 1) 30, none⟩,
   ⟨(some 4), .mv (.const (.int .i64 0)), none⟩])
 (.seq (.ops [⟨(some 5), .mv (.tmp 0), none⟩,
   ⟨(some 6), .mkfun (.func 35) [] [(.tmp 3)], none⟩,
   ⟨(some 7), .call (.func 34) [(.tmp 5), (.tmp 6)], none⟩,
   ⟨(some 4), .mv (.tmp 7), none⟩])
 .ret))
def F_rule_Find : AFunc := ⟨2, 8, [.tmp 4], k_rule_Find⟩
theorem ok_rule_Find : FOK Try.prog 20 F_rule_Find := FOK.of [] Try.func20 (by kernel_rfl) (by kernel_rfl)

-- lontar/rule.Longest
@[reducible] def i_rule_Longest : Nat := 21
/-- rule_Longest: the body of loop 0 -/
def b_rule_Longest_0 : ACode :=
 (.seq (.ops [⟨(some 9), .int .lss (.tmp 8) (.tmp 7), none⟩])
 (.seq (.cond (.tmp 9)
  .skip
  (.exit 0))
 (.seq (.block 1 (.seq (.ops [⟨(some 10), .iaddr (.tmp 6) (.tmp 8) 2, none⟩,
   ⟨(some 11), .load (.tmp 10) (some 2), none⟩,
   ⟨(some 5), .alloc [(.slice none 0 0), (.slice none 0 0)] 46, none⟩,
   ⟨none, .store (.tmp 5) (.tmp 11) 2, none⟩])
 (.ops [⟨(some 12), .mv (.tmp 3), none⟩,
   ⟨(some 13), .faddr (.tmp 5) 0, none⟩,
   ⟨(some 14), .load (.tmp 13) none, none⟩,
   ⟨(some 15), .len false (.tmp 14), none⟩,
   ⟨(some 16), .max2 (.tmp 12) (.tmp 15), none⟩,
   ⟨(some 3), .mv (.tmp 16), none⟩])))
 (.ops [⟨(some 17), .int .add (.tmp 8) (.const (.int .i64 1)), none⟩,
   ⟨(some 8), .mv (.tmp 17), none⟩]))))

def k_rule_Longest : ACode :=
 (.seq (.ops [⟨(some 2), .mv (.const (.int .i64 0)), none⟩])
 (.seq (.ops [⟨(some 3), .mv (.const (.int .i64 0)), none⟩])
 (.seq (.seq (.ops [⟨(some 6), .mv (.tmp 0), none⟩,
   ⟨(some 7), .len false (.tmp 6), none⟩,
   ⟨(some 8), .mv (.const (.int .i64 0)), none⟩])
 (.block 0 (.loop [3, 6, 7, 8] b_rule_Longest_0)))
 (.seq (.ops [⟨(some 18), .mv (.tmp 3), none⟩,
   ⟨(some 2), .mv (.tmp 18), none⟩])
 .ret))))
def F_rule_Longest : AFunc := ⟨1, 19, [.tmp 2], k_rule_Longest⟩
theorem ok_rule_Longest : FOK Try.prog 21 F_rule_Longest := FOK.of [[3, 6, 7, 8]] Try.func21 (by kernel_rfl) (by kernel_rfl)

-- lontar/trie.Of
@[reducible] def i_trie_Of : Nat := 22
/-- trie_Of: the body of loop 0 -/
def b_trie_Of_0 : ACode :=
 (.seq (.ops [⟨(some 50), .int .lss (.tmp 49) (.tmp 48), none⟩])
 (.seq (.cond (.tmp 50)
  .skip
  (.exit 2))
 (.seq (.block 3 (.seq (.ops [⟨(some 51), .iaddr (.tmp 47) (.tmp 49) 1, none⟩,
   ⟨(some 52), .load (.tmp 51) none, none⟩,
   ⟨(some 11), .mv (.tmp 52), none⟩])
 (.seq (.ops [⟨(some 54), .mv (.tmp 6), none⟩,
   ⟨(some 55), .mv (.tmp 9), none⟩,
   ⟨(some 56), .mv (.tmp 11), none⟩,
   ⟨(some 57), .call (.func 37) [(.tmp 54), (.tmp 55), (.tmp 56)], none⟩,
   ⟨(some 53), .mv (.tmp 57), none⟩,
   ⟨(some 58), .ext (.tmp 53) 0, none⟩,
   ⟨(some 59), .ext (.tmp 53) 1, none⟩,
   ⟨(some 12), .mv (.tmp 58), none⟩,
   ⟨(some 13), .mv (.tmp 59), none⟩])
 (.seq (.seq (.ops [⟨(some 60), .mv (.tmp 13), none⟩,
   ⟨(some 61), .not (.tmp 60), none⟩])
 (.cond (.tmp 61)
  (.seq (.ops [⟨(some 62), .mv (.tmp 6), none⟩,
    ⟨(some 63), .nilChk (.tmp 62), none⟩,
    ⟨(some 64), .faddr (.tmp 63) 0, none⟩,
    ⟨(some 65), .load (.tmp 64) none, none⟩,
    ⟨(some 66), .len false (.tmp 65), none⟩,
    ⟨(some 12), .mv (.tmp 66), none⟩])
  (.seq (.draw [⟨(some 67), .mv (.tmp 6), none⟩,
    ⟨(some 68), .mv (.tmp 6), none⟩,
    ⟨(some 69), .nilChk (.tmp 68), none⟩,
    ⟨(some 70), .faddr (.tmp 69) 0, none⟩,
    ⟨(some 71), .load (.tmp 70) none, none⟩,
    ⟨(some 72), .mv (.tmp 11), none⟩,
    ⟨(some 73), .mv (.tmp 6), none⟩,
    ⟨(some 74), .nilChk (.tmp 73), none⟩,
    ⟨(some 75), .faddr (.tmp 74) 0, none⟩,
    ⟨(some 76), .load (.tmp 75) none, none⟩,
    ⟨(some 77), .mv (.tmp 9), none⟩,
    ⟨(some 78), .iaddr (.tmp 76) (.tmp 77) 4, none⟩,
    ⟨(some 79), .faddr (.tmp 78) 1, none⟩,
    ⟨(some 80), .load (.tmp 79) none, none⟩,
    ⟨(some 81), .build [(.int .i64 0), (.int .i64 0), (.int .i64 0), (.int .i64 0)] [(0, 1, (.tmp 72)), (2, 1, (.tmp 80)), (3, 1, (.const (.int .i64 (-1))))], none⟩,
    ⟨(some 82), .bslice 80 1 4 [(.int .i64 0), (.int .i64 0), (.int .i64 0), (.int .i64 0)] [(0, 4, (.tmp 81))], none⟩,
    ⟨(some 83), .append (.tmp 71) (.tmp 82) 80 4 32, none⟩,
    ⟨(some 84), .nilChk (.tmp 67), none⟩,
    ⟨(some 85), .faddr (.tmp 84) 0, none⟩,
    ⟨none, .store (.tmp 85) (.tmp 83) 1, none⟩])
  (.ops [⟨(some 86), .mv (.tmp 6), none⟩,
    ⟨(some 87), .nilChk (.tmp 86), none⟩,
    ⟨(some 88), .faddr (.tmp 87) 0, none⟩,
    ⟨(some 89), .load (.tmp 88) none, none⟩,
    ⟨(some 90), .mv (.tmp 9), none⟩,
    ⟨(some 91), .mv (.tmp 12), none⟩,
    ⟨(some 92), .iaddr (.tmp 89) (.tmp 90) 4, none⟩,
    ⟨(some 93), .faddr (.tmp 92) 1, none⟩,
    ⟨none, .store (.tmp 93) (.tmp 91) 1, none⟩])))
  .skip))
 (.ops [⟨(some 94), .mv (.tmp 12), none⟩,
   ⟨(some 9), .mv (.tmp 94), none⟩])))))
 (.ops [⟨(some 95), .int .add (.tmp 49) (.const (.int .i64 1)), none⟩,
   ⟨(some 49), .mv (.tmp 95), none⟩]))))

/-- trie_Of: the body of loop 1 -/
def b_trie_Of_1 : ACode :=
 (.seq (.ops [⟨(some 29), .int .lss (.tmp 28) (.tmp 27), none⟩])
 (.seq (.cond (.tmp 29)
  .skip
  (.exit 0))
 (.seq (.block 1 (.seq (.ops [⟨(some 30), .mv (.tmp 28), none⟩,
   ⟨(some 31), .iaddr (.tmp 26) (.tmp 28) 2, none⟩,
   ⟨(some 32), .load (.tmp 31) (some 2), none⟩,
   ⟨(some 8), .alloc [(.slice none 0 0), (.slice none 0 0)] 46, none⟩,
   ⟨(some 7), .mv (.tmp 30), none⟩,
   ⟨none, .store (.tmp 8) (.tmp 32) 2, none⟩])
 (.seq (.ops [⟨(some 9), .mv (.const (.int .i64 0)), none⟩])
 (.seq (.draw [⟨(some 33), .mv (.tmp 6), none⟩,
   ⟨(some 34), .mv (.tmp 6), none⟩,
   ⟨(some 35), .nilChk (.tmp 34), none⟩,
   ⟨(some 36), .faddr (.tmp 35) 1, none⟩,
   ⟨(some 37), .load (.tmp 36) none, none⟩,
   ⟨(some 38), .faddr (.tmp 8) 1, none⟩,
   ⟨(some 39), .load (.tmp 38) none, none⟩,
   ⟨(some 40), .append (.const (.slice none 0 0)) (.tmp 39) 3 1 8, none⟩,
   ⟨(some 41), .build [(.slice none 0 0), (.slice none 0 0)] [(1, 1, (.tmp 40))], none⟩,
   ⟨(some 42), .bslice 46 1 2 [(.slice none 0 0), (.slice none 0 0)] [(0, 2, (.tmp 41))], none⟩,
   ⟨(some 43), .append (.tmp 37) (.tmp 42) 46 2 48, none⟩,
   ⟨(some 44), .nilChk (.tmp 33), none⟩,
   ⟨(some 45), .faddr (.tmp 44) 1, none⟩,
   ⟨none, .store (.tmp 45) (.tmp 43) 1, none⟩])
 (.seq (.seq (.ops [⟨(some 46), .faddr (.tmp 8) 0, none⟩,
   ⟨(some 47), .load (.tmp 46) none, none⟩,
   ⟨(some 48), .len false (.tmp 47), none⟩,
   ⟨(some 49), .mv (.const (.int .i64 0)), none⟩])
 (.block 2 (.loop [6, 7, 9, 26, 27, 28, 47, 48, 49] b_trie_Of_0)))
 (.ops [⟨(some 96), .mv (.tmp 6), none⟩,
   ⟨(some 97), .nilChk (.tmp 96), none⟩,
   ⟨(some 98), .faddr (.tmp 97) 0, none⟩,
   ⟨(some 99), .load (.tmp 98) none, none⟩,
   ⟨(some 100), .mv (.tmp 9), none⟩,
   ⟨(some 101), .mv (.tmp 7), none⟩,
   ⟨(some 102), .iaddr (.tmp 99) (.tmp 100) 4, none⟩,
   ⟨(some 103), .faddr (.tmp 102) 3, none⟩,
   ⟨none, .store (.tmp 103) (.tmp 101) 1, none⟩]))))))
 (.ops [⟨(some 104), .int .add (.tmp 28) (.const (.int .i64 1)), none⟩,
   ⟨(some 28), .mv (.tmp 104), none⟩]))))

def k_trie_Of : ACode :=
 (.seq (.ops [⟨(some 2), .mv (.const (.pointer none)), none⟩,
   ⟨(some 3), .mv (.const (.int .i64 0)), none⟩])
 (.seq (.seq (.ops [⟨(some 15), .mv (.tmp 0), none⟩,
   ⟨(some 16), .call (.func 18) [(.tmp 15)], none⟩,
   ⟨(some 14), .mv (.tmp 16), none⟩,
   ⟨(some 17), .ext (.tmp 14) 0, none⟩,
   ⟨(some 18), .ext (.tmp 14) 1, none⟩,
   ⟨(some 4), .mv (.tmp 17), none⟩,
   ⟨(some 5), .mv (.tmp 18), none⟩])
 (.seq (.ops [⟨(some 19), .mv (.tmp 5), none⟩,
   ⟨(some 20), .int .neq (.tmp 19) (.const (.int .i64 0)), none⟩])
 (.cond (.tmp 20)
  (.seq (.ops [⟨(some 21), .mv (.tmp 5), none⟩,
    ⟨(some 2), .mv (.const (.pointer none)), none⟩,
    ⟨(some 3), .mv (.tmp 21), none⟩])
  .ret)
  .skip)))
 (.seq (.ops [⟨(some 22), .build [(.int .i64 0), (.int .i64 0), (.int .i64 0), (.int .i64 0)] [(3, 1, (.const (.int .i64 (-1))))], none⟩,
   ⟨(some 23), .bslice 80 1 4 [(.int .i64 0), (.int .i64 0), (.int .i64 0), (.int .i64 0)] [(0, 4, (.tmp 22))], none⟩,
   ⟨(some 24), .build [(.slice none 0 0), (.slice none 0 0)] [(0, 1, (.tmp 23))], none⟩,
   ⟨(some 25), .box (.tmp 24) 83, none⟩,
   ⟨(some 6), .mv (.tmp 25), none⟩])
 (.seq (.seq (.ops [⟨(some 26), .mv (.tmp 0), none⟩,
   ⟨(some 27), .len false (.tmp 26), none⟩,
   ⟨(some 28), .mv (.const (.int .i64 0)), none⟩])
 (.block 0 (.loop [6, 26, 27, 28] b_trie_Of_1)))
 (.seq (.ops [⟨(some 105), .mv (.tmp 6), none⟩,
   ⟨(some 2), .mv (.tmp 105), none⟩,
   ⟨(some 3), .mv (.const (.int .i64 0)), none⟩])
 .ret)))))
def F_trie_Of : AFunc := ⟨1, 106, [.tmp 2, .tmp 3], k_trie_Of⟩
theorem ok_trie_Of : FOK Try.prog 22 F_trie_Of := FOK.of [[6, 26, 27, 28], [0, 1, 2, 3, 4, 5, 6, 7, 8, 9, 10, 11, 12, 13], [6, 7, 9, 26, 27, 28, 47, 48, 49], [0, 1, 2, 3, 4, 5, 6, 7, 8, 9, 10, 11, 12, 13, 14, 15, 16, 17, 18, 19]] Try.func22 (by kernel_rfl) (by kernel_rfl)

-- lontar/rewrite.Units
@[reducible] def i_rewrite_Units : Nat := 23
/-- rewrite_Units: the body of loop 0 -/
def b_rewrite_Units_0 : ACode :=
 (.seq (.ops [⟨(some 11), .int .lss (.tmp 10) (.tmp 9), none⟩])
 (.seq (.cond (.tmp 11)
  .skip
  (.exit 0))
 (.seq (.block 1 (.seq (.ops [⟨(some 12), .iaddr (.tmp 8) (.tmp 10) 4, none⟩,
   ⟨(some 13), .load (.tmp 12) (some 4), none⟩,
   ⟨(some 7), .alloc [(.int .i64 0), (.int .i64 0), (.slice none 0 0), (.int .i64 0)] 53, none⟩,
   ⟨none, .store (.tmp 7) (.tmp 13) 4, none⟩])
 (.seq (.ops [⟨(some 14), .mv (.tmp 4), none⟩,
   ⟨(some 15), .faddr (.tmp 7) 2, none⟩,
   ⟨(some 16), .load (.tmp 15) none, none⟩,
   ⟨(some 17), .append (.tmp 14) (.tmp 16) 3 1 8, none⟩,
   ⟨(some 4), .mv (.tmp 17), none⟩])
 (.seq (.ops [⟨(some 18), .faddr (.tmp 7) 3, none⟩,
   ⟨(some 19), .load (.tmp 18) none, none⟩,
   ⟨(some 20), .int .neq (.tmp 19) (.const (.int .i64 0)), none⟩,
   ⟨(some 21), .mv (.tmp 20), none⟩,
   ⟨(some 22), .faddr (.tmp 5) 3, some (21, true)⟩,
   ⟨(some 23), .load (.tmp 22) none, some (21, true)⟩,
   ⟨(some 24), .int .eql (.tmp 23) (.const (.int .i64 0)), some (21, true)⟩,
   ⟨(some 25), .pick (.tmp 21) (.tmp 24) (.const (.bool false)), none⟩])
 (.cond (.tmp 25)
  (.ops [⟨(some 26), .load (.tmp 7) (some 4), none⟩,
    ⟨none, .store (.tmp 5) (.tmp 26) 4, none⟩])
  .skip)))))
 (.ops [⟨(some 27), .int .add (.tmp 10) (.const (.int .i64 1)), none⟩,
   ⟨(some 10), .mv (.tmp 27), none⟩]))))

def k_rewrite_Units : ACode :=
 (.seq (.ops [⟨(some 2), .mv (.const (.slice none 0 0)), none⟩,
   ⟨(some 3), .alloc [(.int .i64 0), (.int .i64 0), (.slice none 0 0), (.int .i64 0)] 53, none⟩])
 (.seq (.ops [⟨(some 4), .mv (.const (.slice none 0 0)), none⟩])
 (.seq (.ops [⟨(some 5), .alloc [(.int .i64 0), (.int .i64 0), (.slice none 0 0), (.int .i64 0)] 53, none⟩])
 (.seq (.seq (.ops [⟨(some 8), .mv (.tmp 0), none⟩,
   ⟨(some 9), .len false (.tmp 8), none⟩,
   ⟨(some 10), .mv (.const (.int .i64 0)), none⟩])
 (.block 0 (.loop [3, 4, 5, 8, 9, 10] b_rewrite_Units_0)))
 (.seq (.draw [⟨(some 28), .mv (.tmp 4), none⟩,
   ⟨(some 29), .load (.tmp 5) (some 4), none⟩,
   ⟨(some 2), .mv (.tmp 28), none⟩,
   ⟨none, .store (.tmp 3) (.tmp 29) 4, none⟩])
 .ret)))))
def F_rewrite_Units : AFunc := ⟨1, 30, [.tmp 2, .cell 3 (some 4)], k_rewrite_Units⟩
theorem ok_rewrite_Units : FOK Try.prog 23 F_rewrite_Units := FOK.of [[3, 4, 5, 8, 9, 10], [0, 1, 2, 3]] Try.func23 (by kernel_rfl) (by kernel_rfl)

-- lontar/rewrite.All
@[reducible] def i_rewrite_All : Nat := 24
/-- rewrite_All: the body of loop 0 -/
def b_rewrite_All_0 : ACode :=
 (.seq (.seq (.ops [⟨(some 8), .mv (.tmp 6), none⟩,
   ⟨(some 9), .mv (.tmp 1), none⟩,
   ⟨(some 10), .len false (.tmp 9), none⟩,
   ⟨(some 11), .int .lss (.tmp 8) (.tmp 10), none⟩])
 (.cond (.tmp 11)
  .skip
  (.exit 0)))
 (.block 1 (.seq (.ops [⟨(some 12), .mv (.tmp 0), none⟩,
   ⟨(some 13), .mv (.tmp 1), none⟩,
   ⟨(some 14), .mv (.tmp 6), none⟩,
   ⟨(some 15), .slice (.tmp 13) (some (.tmp 14)) none 1, none⟩,
   ⟨(some 16), .mv (.tmp 6), none⟩,
   ⟨(some 17), .call (.func 38) [(.tmp 12), (.tmp 15), (.tmp 16)], none⟩,
   ⟨(some 7), .alloc [(.int .i64 0), (.int .i64 0), (.slice none 0 0), (.int .i64 0)] 53, none⟩,
   ⟨none, .store (.tmp 7) (.tmp 17) 4, none⟩])
 (.seq (.ops [⟨(some 18), .mv (.tmp 5), none⟩,
   ⟨(some 19), .load (.tmp 7) (some 4), none⟩,
   ⟨(some 20), .bslice 53 1 4 [(.int .i64 0), (.int .i64 0), (.slice none 0 0), (.int .i64 0)] [(0, 4, (.tmp 19))], none⟩,
   ⟨(some 21), .append (.tmp 18) (.tmp 20) 53 4 48, none⟩,
   ⟨(some 5), .mv (.tmp 21), none⟩])
 (.ops [⟨(some 22), .mv (.tmp 6), none⟩,
   ⟨(some 23), .faddr (.tmp 7) 1, none⟩,
   ⟨(some 24), .load (.tmp 23) none, none⟩,
   ⟨(some 25), .int .add (.tmp 22) (.tmp 24), none⟩,
   ⟨(some 6), .mv (.tmp 25), none⟩])))))

def k_rewrite_All : ACode :=
 (.seq (.ops [⟨(some 4), .mv (.const (.slice none 0 0)), none⟩])
 (.seq (.ops [⟨(some 5), .mv (.const (.slice none 0 0)), none⟩])
 (.seq (.seq (.ops [⟨(some 6), .mv (.const (.int .i64 0)), none⟩])
 (.block 0 (.loop [0, 1, 5, 6] b_rewrite_All_0)))
 (.seq (.ops [⟨(some 26), .mv (.tmp 5), none⟩,
   ⟨(some 4), .mv (.tmp 26), none⟩])
 .ret))))
def F_rewrite_All : AFunc := ⟨2, 27, [.tmp 4], k_rewrite_All⟩
theorem ok_rewrite_All : FOK Try.prog 24 F_rewrite_All := FOK.of [[0, 1, 5, 6]] Try.func24 (by kernel_rfl) (by kernel_rfl)

-- lontar/viet.Split
@[reducible] def i_viet_Split : Nat := 25
/-- viet_Split: the body of loop 0 -/
def b_viet_Split_0 : ACode :=
 (.seq (.ops [⟨(some 15), .int .lss (.tmp 14) (.tmp 13), none⟩])
 (.seq (.cond (.tmp 15)
  .skip
  (.exit 0))
 (.seq (.block 1 (.seq (.ops [⟨(some 16), .mv (.tmp 14), none⟩,
   ⟨(some 17), .iaddr (.tmp 12) (.tmp 14) 1, none⟩,
   ⟨(some 18), .load (.tmp 17) none, none⟩,
   ⟨(some 6), .mv (.tmp 16), none⟩,
   ⟨(some 7), .mv (.tmp 18), none⟩])
 (.seq (.ops [⟨(some 19), .mv (.tmp 7), none⟩,
   ⟨(some 20), .mv (.tmp 0), none⟩,
   ⟨(some 21), .int .eql (.tmp 19) (.tmp 20), none⟩])
 (.cond (.tmp 21)
  (.seq (.ops [⟨(some 22), .mv (.tmp 4), none⟩,
    ⟨(some 23), .mv (.tmp 6), none⟩,
    ⟨(some 24), .iaddr (.tmp 22) (.tmp 23) 2, none⟩,
    ⟨(some 25), .load (.tmp 24) (some 2), none⟩,
    ⟨none, .store (.tmp 2) (.tmp 25) 2, none⟩,
    ⟨(some 3), .mv (.const (.bool true)), none⟩])
  .ret)
  .skip))))
 (.ops [⟨(some 26), .int .add (.tmp 14) (.const (.int .i64 1)), none⟩,
   ⟨(some 14), .mv (.tmp 26), none⟩]))))

def k_viet_Split : ACode :=
 (.seq (.ops [⟨(some 2), .alloc [(.int .i64 0), (.complex .f64 0 0)] 26, none⟩,
   ⟨(some 3), .mv (.const (.bool false)), none⟩])
 (.seq (.ops [⟨(some 9), .call (.func 30) [], none⟩,
   ⟨(some 8), .mv (.tmp 9), none⟩,
   ⟨(some 10), .ext (.tmp 8) 0, none⟩,
   ⟨(some 11), .ext (.tmp 8) 1, none⟩,
   ⟨(some 4), .mv (.tmp 10), none⟩,
   ⟨(some 5), .mv (.tmp 11), none⟩])
 (.seq (.seq (.ops [⟨(some 12), .mv (.tmp 5), none⟩,
   ⟨(some 13), .len false (.tmp 12), none⟩,
   ⟨(some 14), .mv (.const (.int .i64 0)), none⟩])
 (.block 0 (.loop [0, 2, 4, 12, 13, 14] b_viet_Split_0)))
 (.seq (.ops [⟨(some 27), .build [(.int .i64 0), (.complex .f64 0 0)] [], none⟩,
   ⟨none, .store (.tmp 2) (.tmp 27) 2, none⟩,
   ⟨(some 3), .mv (.const (.bool false)), none⟩])
 .ret))))
def F_viet_Split : AFunc := ⟨1, 28, [.cell 2 (some 2), .tmp 3], k_viet_Split⟩
theorem ok_viet_Split : FOK Try.prog 25 F_viet_Split := FOK.of [[0, 2, 4, 12, 13, 14]] Try.func25 (by kernel_rfl) (by kernel_rfl)

-- lontar/lontarlaw09.Rows
@[reducible] def i_lontarlaw09_Rows : Nat := 26
def k_lontarlaw09_Rows : ACode :=
 (.seq (.ops [⟨(some 0), .mv (.const (.slice none 0 0)), none⟩])
 (.seq (.ops [⟨(some 1), .bslice 3 6 1 [(.int .i64 0)] [(0, 1, (.const (.int .i64 97))), (1, 1, (.const (.int .i64 224))), (2, 1, (.const (.int .i64 225))), (3, 1, (.const (.int .i64 7843))), (4, 1, (.const (.int .i64 227))), (5, 1, (.const (.int .i64 7841)))], none⟩,
   ⟨(some 2), .build [(.int .i64 0), (.int .i64 0), (.slice none 0 0)] [(0, 1, (.const (.int .i64 97))), (1, 1, (.const (.int .i64 0))), (2, 1, (.tmp 1))], none⟩,
   ⟨(some 3), .bslice 3 6 1 [(.int .i64 0)] [(0, 1, (.const (.int .i64 259))), (1, 1, (.const (.int .i64 7857))), (2, 1, (.const (.int .i64 7855))), (3, 1, (.const (.int .i64 7859))), (4, 1, (.const (.int .i64 7861))), (5, 1, (.const (.int .i64 7863)))], none⟩,
   ⟨(some 4), .build [(.int .i64 0), (.int .i64 0), (.slice none 0 0)] [(0, 1, (.const (.int .i64 97))), (1, 1, (.const (.int .i64 1))), (2, 1, (.tmp 3))], none⟩,
   ⟨(some 5), .bslice 3 6 1 [(.int .i64 0)] [(0, 1, (.const (.int .i64 226))), (1, 1, (.const (.int .i64 7847))), (2, 1, (.const (.int .i64 7845))), (3, 1, (.const (.int .i64 7849))), (4, 1, (.const (.int .i64 7851))), (5, 1, (.const (.int .i64 7853)))], none⟩,
   ⟨(some 6), .build [(.int .i64 0), (.int .i64 0), (.slice none 0 0)] [(0, 1, (.const (.int .i64 97))), (1, 1, (.const (.int .i64 2))), (2, 1, (.tmp 5))], none⟩,
   ⟨(some 7), .bslice 3 6 1 [(.int .i64 0)] [(0, 1, (.const (.int .i64 101))), (1, 1, (.const (.int .i64 232))), (2, 1, (.const (.int .i64 233))), (3, 1, (.const (.int .i64 7867))), (4, 1, (.const (.int .i64 7869))), (5, 1, (.const (.int .i64 7865)))], none⟩,
   ⟨(some 8), .build [(.int .i64 0), (.int .i64 0), (.slice none 0 0)] [(0, 1, (.const (.int .i64 101))), (1, 1, (.const (.int .i64 0))), (2, 1, (.tmp 7))], none⟩,
   ⟨(some 9), .bslice 3 6 1 [(.int .i64 0)] [(0, 1, (.const (.int .i64 234))), (1, 1, (.const (.int .i64 7873))), (2, 1, (.const (.int .i64 7871))), (3, 1, (.const (.int .i64 7875))), (4, 1, (.const (.int .i64 7877))), (5, 1, (.const (.int .i64 7879)))], none⟩,
   ⟨(some 10), .build [(.int .i64 0), (.int .i64 0), (.slice none 0 0)] [(0, 1, (.const (.int .i64 101))), (1, 1, (.const (.int .i64 2))), (2, 1, (.tmp 9))], none⟩,
   ⟨(some 11), .bslice 3 6 1 [(.int .i64 0)] [(0, 1, (.const (.int .i64 105))), (1, 1, (.const (.int .i64 236))), (2, 1, (.const (.int .i64 237))), (3, 1, (.const (.int .i64 7881))), (4, 1, (.const (.int .i64 297))), (5, 1, (.const (.int .i64 7883)))], none⟩,
   ⟨(some 12), .build [(.int .i64 0), (.int .i64 0), (.slice none 0 0)] [(0, 1, (.const (.int .i64 105))), (1, 1, (.const (.int .i64 0))), (2, 1, (.tmp 11))], none⟩,
   ⟨(some 13), .bslice 3 6 1 [(.int .i64 0)] [(0, 1, (.const (.int .i64 111))), (1, 1, (.const (.int .i64 242))), (2, 1, (.const (.int .i64 243))), (3, 1, (.const (.int .i64 7887))), (4, 1, (.const (.int .i64 245))), (5, 1, (.const (.int .i64 7885)))], none⟩,
   ⟨(some 14), .build [(.int .i64 0), (.int .i64 0), (.slice none 0 0)] [(0, 1, (.const (.int .i64 111))), (1, 1, (.const (.int .i64 0))), (2, 1, (.tmp 13))], none⟩,
   ⟨(some 15), .bslice 3 6 1 [(.int .i64 0)] [(0, 1, (.const (.int .i64 244))), (1, 1, (.const (.int .i64 7891))), (2, 1, (.const (.int .i64 7889))), (3, 1, (.const (.int .i64 7893))), (4, 1, (.const (.int .i64 7895))), (5, 1, (.const (.int .i64 7897)))], none⟩,
   ⟨(some 16), .build [(.int .i64 0), (.int .i64 0), (.slice none 0 0)] [(0, 1, (.const (.int .i64 111))), (1, 1, (.const (.int .i64 2))), (2, 1, (.tmp 15))], none⟩,
   ⟨(some 17), .bslice 3 6 1 [(.int .i64 0)] [(0, 1, (.const (.int .i64 417))), (1, 1, (.const (.int .i64 7901))), (2, 1, (.const (.int .i64 7899))), (3, 1, (.const (.int .i64 7903))), (4, 1, (.const (.int .i64 7905))), (5, 1, (.const (.int .i64 7907)))], none⟩,
   ⟨(some 18), .build [(.int .i64 0), (.int .i64 0), (.slice none 0 0)] [(0, 1, (.const (.int .i64 111))), (1, 1, (.const (.int .i64 3))), (2, 1, (.tmp 17))], none⟩,
   ⟨(some 19), .bslice 3 6 1 [(.int .i64 0)] [(0, 1, (.const (.int .i64 117))), (1, 1, (.const (.int .i64 249))), (2, 1, (.const (.int .i64 250))), (3, 1, (.const (.int .i64 7911))), (4, 1, (.const (.int .i64 361))), (5, 1, (.const (.int .i64 7909)))], none⟩,
   ⟨(some 20), .build [(.int .i64 0), (.int .i64 0), (.slice none 0 0)] [(0, 1, (.const (.int .i64 117))), (1, 1, (.const (.int .i64 0))), (2, 1, (.tmp 19))], none⟩,
   ⟨(some 21), .bslice 3 6 1 [(.int .i64 0)] [(0, 1, (.const (.int .i64 432))), (1, 1, (.const (.int .i64 7915))), (2, 1, (.const (.int .i64 7913))), (3, 1, (.const (.int .i64 7917))), (4, 1, (.const (.int .i64 7919))), (5, 1, (.const (.int .i64 7921)))], none⟩,
   ⟨(some 22), .build [(.int .i64 0), (.int .i64 0), (.slice none 0 0)] [(0, 1, (.const (.int .i64 117))), (1, 1, (.const (.int .i64 3))), (2, 1, (.tmp 21))], none⟩,
   ⟨(some 23), .bslice 3 6 1 [(.int .i64 0)] [(0, 1, (.const (.int .i64 121))), (1, 1, (.const (.int .i64 7923))), (2, 1, (.const (.int .i64 253))), (3, 1, (.const (.int .i64 7927))), (4, 1, (.const (.int .i64 7929))), (5, 1, (.const (.int .i64 7925)))], none⟩,
   ⟨(some 24), .build [(.int .i64 0), (.int .i64 0), (.slice none 0 0)] [(0, 1, (.const (.int .i64 121))), (1, 1, (.const (.int .i64 0))), (2, 1, (.tmp 23))], none⟩,
   ⟨(some 25), .bslice 3 1 1 [(.int .i64 0)] [(0, 1, (.const (.int .i64 100)))], none⟩,
   ⟨(some 26), .build [(.int .i64 0), (.int .i64 0), (.slice none 0 0)] [(0, 1, (.const (.int .i64 100))), (1, 1, (.const (.int .i64 0))), (2, 1, (.tmp 25))], none⟩,
   ⟨(some 27), .bslice 3 1 1 [(.int .i64 0)] [(0, 1, (.const (.int .i64 273)))], none⟩,
   ⟨(some 28), .build [(.int .i64 0), (.int .i64 0), (.slice none 0 0)] [(0, 1, (.const (.int .i64 100))), (1, 1, (.const (.int .i64 4))), (2, 1, (.tmp 27))], none⟩,
   ⟨(some 29), .bslice 64 14 3 [(.int .i64 0), (.int .i64 0), (.slice none 0 0)] [(0, 3, (.tmp 2)), (3, 3, (.tmp 4)), (6, 3, (.tmp 6)), (9, 3, (.tmp 8)), (12, 3, (.tmp 10)), (15, 3, (.tmp 12)), (18, 3, (.tmp 14)), (21, 3, (.tmp 16)), (24, 3, (.tmp 18)), (27, 3, (.tmp 20)), (30, 3, (.tmp 22)), (33, 3, (.tmp 24)), (36, 3, (.tmp 26)), (39, 3, (.tmp 28))], none⟩,
   ⟨(some 0), .mv (.tmp 29), none⟩])
 .ret))
def F_lontarlaw09_Rows : AFunc := ⟨0, 30, [.tmp 0], k_lontarlaw09_Rows⟩
theorem ok_lontarlaw09_Rows : FOK Try.prog 26 F_lontarlaw09_Rows := FOK.of [] Try.func26 (by kernel_rfl) (by kernel_rfl)

-- lontar/lontarlaw09.upper
@[reducible] def i_lontarlaw09_upper : Nat := 27
def k_lontarlaw09_upper : ACode :=
 (.seq (.ops [⟨(some 2), .mv (.const (.int .i64 0)), none⟩])
 (.seq (.seq (.ops [⟨(some 3), .mv (.tmp 0), none⟩,
   ⟨(some 4), .int .lss (.tmp 3) (.const (.int .i64 256)), none⟩])
 (.cond (.tmp 4)
  (.seq (.ops [⟨(some 5), .mv (.tmp 0), none⟩,
    ⟨(some 6), .int .sub (.tmp 5) (.const (.int .i64 32)), none⟩,
    ⟨(some 2), .mv (.tmp 6), none⟩])
  .ret)
  .skip))
 (.seq (.ops [⟨(some 7), .mv (.tmp 0), none⟩,
   ⟨(some 8), .int .sub (.tmp 7) (.const (.int .i64 1)), none⟩,
   ⟨(some 2), .mv (.tmp 8), none⟩])
 .ret)))
def F_lontarlaw09_upper : AFunc := ⟨1, 9, [.tmp 2], k_lontarlaw09_upper⟩
theorem ok_lontarlaw09_upper : FOK Try.prog 27 F_lontarlaw09_upper := FOK.of [] Try.func27 (by kernel_rfl) (by kernel_rfl)

-- lontar/vni.alone
@[reducible] def i_vni_alone : Nat := 28
def k_vni_alone : ACode :=
 (.seq (.ops [⟨(some 2), .mv (.const (.int .i64 0)), none⟩])
 (.seq (.seq (.ops [⟨(some 3), .mv (.tmp 0), none⟩])
 (.block 0 (.seq (.ops [⟨(some 5), .int .eql (.tmp 3) (.const (.int .i64 236)), none⟩,
   ⟨(some 4), .mv (.tmp 5), none⟩])
 (.cond (.tmp 4)
  (.seq (.ops [⟨(some 2), .mv (.const (.int .i64 236)), none⟩])
  .ret)
  (.seq (.ops [⟨(some 7), .int .eql (.tmp 3) (.const (.int .i64 237)), none⟩,
    ⟨(some 6), .mv (.tmp 7), none⟩])
  (.cond (.tmp 6)
   (.seq (.ops [⟨(some 2), .mv (.const (.int .i64 237)), none⟩])
   .ret)
   (.seq (.ops [⟨(some 9), .int .eql (.tmp 3) (.const (.int .i64 7881)), none⟩,
     ⟨(some 8), .mv (.tmp 9), none⟩])
   (.cond (.tmp 8)
    (.seq (.ops [⟨(some 2), .mv (.const (.int .i64 230)), none⟩])
    .ret)
    (.seq (.ops [⟨(some 11), .int .eql (.tmp 3) (.const (.int .i64 297)), none⟩,
      ⟨(some 10), .mv (.tmp 11), none⟩])
    (.cond (.tmp 10)
     (.seq (.ops [⟨(some 2), .mv (.const (.int .i64 243)), none⟩])
     .ret)
     (.seq (.ops [⟨(some 13), .int .eql (.tmp 3) (.const (.int .i64 7883)), none⟩,
       ⟨(some 12), .mv (.tmp 13), none⟩])
     (.cond (.tmp 12)
      (.seq (.ops [⟨(some 2), .mv (.const (.int .i64 242)), none⟩])
      .ret)
      (.seq (.ops [⟨(some 15), .int .eql (.tmp 3) (.const (.int .i64 7925)), none⟩,
        ⟨(some 14), .mv (.tmp 15), none⟩])
      (.cond (.tmp 14)
       (.seq (.ops [⟨(some 2), .mv (.const (.int .i64 238)), none⟩])
       .ret)
       (.seq (.ops [⟨(some 17), .int .eql (.tmp 3) (.const (.int .i64 273)), none⟩,
         ⟨(some 16), .mv (.tmp 17), none⟩])
       (.cond (.tmp 16)
        (.seq (.ops [⟨(some 2), .mv (.const (.int .i64 241)), none⟩])
        .ret)
        .skip))))))))))))))))
 (.seq (.ops [⟨(some 2), .mv (.const (.int .i64 0)), none⟩])
 .ret)))
def F_vni_alone : AFunc := ⟨1, 18, [.tmp 2], k_vni_alone⟩
theorem ok_vni_alone : FOK Try.prog 28 F_vni_alone := FOK.of [] Try.func28 (by kernel_rfl) (by kernel_rfl)

-- lontar/vni.signs
@[reducible] def i_vni_signs : Nat := 29
def k_vni_signs : ACode :=
 (.seq (.ops [⟨(some 2), .alloc [(.int .i64 0), (.int .i64 0), (.int .i64 0), (.int .i64 0), (.int .i64 0), (.int .i64 0)] 67, none⟩])
 (.seq (.seq (.ops [⟨(some 3), .mv (.tmp 0), none⟩])
 (.block 0 (.seq (.ops [⟨(some 5), .int .eql (.tmp 3) (.const (.int .i64 1)), none⟩,
   ⟨(some 4), .mv (.tmp 5), none⟩])
 (.cond (.tmp 4)
  (.seq (.ops [⟨(some 6), .build [(.int .i64 0), (.int .i64 0), (.int .i64 0), (.int .i64 0), (.int .i64 0), (.int .i64 0)] [(0, 1, (.const (.int .i64 234))), (1, 1, (.const (.int .i64 232))), (2, 1, (.const (.int .i64 233))), (3, 1, (.const (.int .i64 250))), (4, 1, (.const (.int .i64 252))), (5, 1, (.const (.int .i64 235)))], none⟩,
    ⟨none, .store (.tmp 2) (.tmp 6) 6, none⟩])
  .ret)
  (.seq (.ops [⟨(some 8), .int .eql (.tmp 3) (.const (.int .i64 2)), none⟩,
    ⟨(some 7), .mv (.tmp 8), none⟩])
  (.cond (.tmp 7)
   (.seq (.ops [⟨(some 9), .build [(.int .i64 0), (.int .i64 0), (.int .i64 0), (.int .i64 0), (.int .i64 0), (.int .i64 0)] [(0, 1, (.const (.int .i64 226))), (1, 1, (.const (.int .i64 224))), (2, 1, (.const (.int .i64 225))), (3, 1, (.const (.int .i64 229))), (4, 1, (.const (.int .i64 227))), (5, 1, (.const (.int .i64 228)))], none⟩,
     ⟨none, .store (.tmp 2) (.tmp 9) 6, none⟩])
   .ret)
   .skip))))))
 (.seq (.ops [⟨(some 10), .build [(.int .i64 0), (.int .i64 0), (.int .i64 0), (.int .i64 0), (.int .i64 0), (.int .i64 0)] [(0, 1, (.const (.int .i64 0))), (1, 1, (.const (.int .i64 248))), (2, 1, (.const (.int .i64 249))), (3, 1, (.const (.int .i64 251))), (4, 1, (.const (.int .i64 245))), (5, 1, (.const (.int .i64 239)))], none⟩,
   ⟨none, .store (.tmp 2) (.tmp 10) 6, none⟩])
 .ret)))
def F_vni_signs : AFunc := ⟨1, 11, [.cell 2 (some 6)], k_vni_signs⟩
theorem ok_vni_signs : FOK Try.prog 29 F_vni_signs := FOK.of [] Try.func29 (by kernel_rfl) (by kernel_rfl)

-- lontar/viet.All
@[reducible] def i_viet_All : Nat := 30
/-- viet_All: the body of loop 0 -/
def b_viet_All_0 : ACode :=
 (.seq (.ops [⟨(some 26), .int .lss (.tmp 25) (.const (.int .i64 6)), none⟩])
 (.seq (.cond (.tmp 26)
  .skip
  (.exit 4))
 (.seq (.block 5 (.seq (.ops [⟨(some 27), .mv (.tmp 25), none⟩,
   ⟨(some 28), .index (.tmp 24) (.tmp 25) 6 false 1, none⟩,
   ⟨(some 8), .mv (.tmp 27), none⟩,
   ⟨(some 9), .mv (.tmp 28), none⟩])
 (.seq (.seq (.ops [⟨(some 29), .mv (.tmp 9), none⟩,
   ⟨(some 30), .int .eql (.tmp 29) (.const (.int .i64 0)), none⟩])
 (.cond (.tmp 30)
  (.exit 5)
  .skip))
 (.seq (.ops [⟨(some 31), .faddr (.tmp 7) 0, none⟩,
   ⟨(some 32), .load (.tmp 31) none, none⟩,
   ⟨(some 10), .mv (.tmp 32), none⟩])
 (.seq (.seq (.ops [⟨(some 33), .mv (.tmp 5), none⟩])
 (.cond (.tmp 33)
  (.ops [⟨(some 34), .mv (.tmp 10), none⟩,
    ⟨(some 35), .call (.func 40) [(.tmp 34)], none⟩,
    ⟨(some 36), .mv (.tmp 9), none⟩,
    ⟨(some 37), .call (.func 40) [(.tmp 36)], none⟩,
    ⟨(some 10), .mv (.tmp 35), none⟩,
    ⟨(some 9), .mv (.tmp 37), none⟩])
  .skip))
 (.seq (.ops [⟨(some 38), .mv (.tmp 2), none⟩,
   ⟨(some 39), .mv (.tmp 10), none⟩,
   ⟨(some 40), .faddr (.tmp 7) 1, none⟩,
   ⟨(some 41), .load (.tmp 40) none, none⟩,
   ⟨(some 42), .gen ⟨none, (.convert 3 22 (.tmp 41)), 22, "", #[], none⟩, none⟩,
   ⟨(some 43), .mv (.tmp 8), none⟩,
   ⟨(some 44), .gen ⟨none, (.convert 3 22 (.tmp 43)), 22, "", #[], none⟩, none⟩,
   ⟨(some 45), .gen ⟨none, (.call ⟨.builtin .complex, #[(.tmp 42), (.tmp 44)], #[22, 22]⟩), 24, "", #[], none⟩, none⟩,
   ⟨(some 46), .build [(.int .i64 0), (.complex .f64 0 0)] [(0, 1, (.tmp 39)), (1, 1, (.tmp 45))], none⟩,
   ⟨(some 47), .bslice 26 1 2 [(.int .i64 0), (.complex .f64 0 0)] [(0, 2, (.tmp 46))], none⟩,
   ⟨(some 48), .append (.tmp 38) (.tmp 47) 26 2 24, none⟩,
   ⟨(some 2), .mv (.tmp 48), none⟩])
 (.ops [⟨(some 49), .mv (.tmp 3), none⟩,
   ⟨(some 50), .mv (.tmp 9), none⟩,
   ⟨(some 51), .bslice 3 1 1 [(.int .i64 0)] [(0, 1, (.tmp 50))], none⟩,
   ⟨(some 52), .append (.tmp 49) (.tmp 51) 3 1 8, none⟩,
   ⟨(some 3), .mv (.tmp 52), none⟩])))))))
 (.ops [⟨(some 53), .int .add (.tmp 25) (.const (.int .i64 1)), none⟩,
   ⟨(some 25), .mv (.tmp 53), none⟩]))))

/-- viet_All: the body of loop 1 -/
def b_viet_All_1 : ACode :=
 (.seq (.ops [⟨(some 20), .int .lss (.tmp 19) (.tmp 18), none⟩])
 (.seq (.cond (.tmp 20)
  .skip
  (.exit 2))
 (.seq (.block 3 (.seq (.ops [⟨(some 21), .iaddr (.tmp 17) (.tmp 19) 8, none⟩,
   ⟨(some 22), .load (.tmp 21) (some 8), none⟩,
   ⟨(some 7), .alloc [(.int .i64 0), (.int .i64 0), (.int .i64 0), (.int .i64 0), (.int .i64 0), (.int .i64 0), (.int .i64 0), (.int .i64 0)] 90, none⟩,
   ⟨none, .store (.tmp 7) (.tmp 22) 8, none⟩])
 (.seq (.ops [⟨(some 23), .faddr (.tmp 7) 2, none⟩,
   ⟨(some 24), .load (.tmp 23) (some 6), none⟩,
   ⟨(some 25), .mv (.const (.int .i64 0)), none⟩])
 (.block 4 (.loop [2, 3, 5, 7, 11, 12, 13, 17, 18, 19, 24, 25] b_viet_All_0)))))
 (.ops [⟨(some 54), .int .add (.tmp 19) (.const (.int .i64 1)), none⟩,
   ⟨(some 19), .mv (.tmp 54), none⟩]))))

/-- viet_All: the body of loop 2 -/
def b_viet_All_2 : ACode :=
 (.seq (.ops [⟨(some 14), .int .lss (.tmp 13) (.tmp 12), none⟩])
 (.seq (.cond (.tmp 14)
  .skip
  (.exit 0))
 (.seq (.block 1 (.seq (.ops [⟨(some 15), .iaddr (.tmp 11) (.tmp 13) 1, none⟩,
   ⟨(some 16), .load (.tmp 15) none, none⟩,
   ⟨(some 5), .mv (.tmp 16), none⟩])
 (.seq (.ops [⟨(some 17), .call (.func 39) [], none⟩,
   ⟨(some 18), .len false (.tmp 17), none⟩,
   ⟨(some 19), .mv (.const (.int .i64 0)), none⟩])
 (.block 2 (.loop [2, 3, 5, 11, 12, 13, 17, 18, 19] b_viet_All_1)))))
 (.ops [⟨(some 55), .int .add (.tmp 13) (.const (.int .i64 1)), none⟩,
   ⟨(some 13), .mv (.tmp 55), none⟩]))))

def k_viet_All : ACode :=
 (.seq (.ops [⟨(some 0), .mv (.const (.slice none 0 0)), none⟩,
   ⟨(some 1), .mv (.const (.slice none 0 0)), none⟩])
 (.seq (.ops [⟨(some 2), .mv (.const (.slice none 0 0)), none⟩])
 (.seq (.ops [⟨(some 3), .mv (.const (.slice none 0 0)), none⟩])
 (.seq (.seq (.ops [⟨(some 11), .bslice 4 2 1 [(.bool false)] [(0, 1, (.const (.bool false))), (1, 1, (.const (.bool true)))], none⟩,
   ⟨(some 12), .len false (.tmp 11), none⟩,
   ⟨(some 13), .mv (.const (.int .i64 0)), none⟩])
 (.block 0 (.loop [2, 3, 11, 12, 13] b_viet_All_2)))
 (.seq (.ops [⟨(some 56), .mv (.tmp 2), none⟩,
   ⟨(some 57), .mv (.tmp 3), none⟩,
   ⟨(some 0), .mv (.tmp 56), none⟩,
   ⟨(some 1), .mv (.tmp 57), none⟩])
 .ret)))))
def F_viet_All : AFunc := ⟨0, 58, [.tmp 0, .tmp 1], k_viet_All⟩
theorem ok_viet_All : FOK Try.prog 30 F_viet_All := FOK.of [[2, 3, 11, 12, 13], [2, 3, 5, 11, 12, 13, 17, 18, 19], [2, 3, 5, 7, 11, 12, 13, 17, 18, 19, 24, 25]] Try.func30 (by kernel_rfl) (by kernel_rfl)

-- lontar/lontarlaw09.Split
@[reducible] def i_lontarlaw09_Split : Nat := 31
/-- lontarlaw09_Split: the body of loop 0 -/
def b_lontarlaw09_Split_0 : ACode :=
 (.seq (.seq (.ops [⟨(some 8), .mv (.tmp 4), none⟩,
   ⟨(some 9), .int .lss (.tmp 8) (.const (.int .i64 148)), none⟩])
 (.cond (.tmp 9)
  .skip
  (.exit 0)))
 (.seq (.block 1 (.seq (.ops [⟨(some 13), .mv (.tmp 4), none⟩,
   ⟨(some 14), .call (.func 10) [(.tmp 13)], none⟩,
   ⟨(some 12), .mv (.tmp 14), none⟩,
   ⟨(some 15), .ext (.tmp 12) 0, none⟩,
   ⟨(some 16), .ext (.tmp 12) 1, none⟩,
   ⟨(some 17), .ext (.tmp 12) 2, none⟩,
   ⟨(some 5), .alloc [(.int .i64 0), (.complex .f64 0 0)] 26, none⟩,
   ⟨none, .store (.tmp 5) (.tmp 15) 2, none⟩,
   ⟨(some 6), .mv (.tmp 16), none⟩,
   ⟨(some 7), .mv (.tmp 17), none⟩])
 (.seq (.ops [⟨(some 18), .mv (.tmp 6), none⟩,
   ⟨(some 19), .mv (.tmp 0), none⟩,
   ⟨(some 20), .int .eql (.tmp 18) (.tmp 19), none⟩])
 (.cond (.tmp 20)
  (.seq (.ops [⟨(some 21), .load (.tmp 5) (some 2), none⟩,
    ⟨none, .store (.tmp 2) (.tmp 21) 2, none⟩,
    ⟨(some 3), .mv (.const (.bool true)), none⟩])
  .ret)
  .skip))))
 (.ops [⟨(some 10), .mv (.tmp 4), none⟩,
   ⟨(some 11), .int .add (.tmp 10) (.const (.int .i64 1)), none⟩,
   ⟨(some 4), .mv (.tmp 11), none⟩])))

def k_lontarlaw09_Split : ACode :=
 (.seq (.ops [⟨(some 2), .alloc [(.int .i64 0), (.complex .f64 0 0)] 26, none⟩,
   ⟨(some 3), .mv (.const (.bool false)), none⟩])
 (.seq (.seq (.ops [⟨(some 4), .mv (.const (.int .i64 0)), none⟩])
 (.block 0 (.loop [0, 2, 4] b_lontarlaw09_Split_0)))
 (.seq (.ops [⟨(some 22), .build [(.int .i64 0), (.complex .f64 0 0)] [], none⟩,
   ⟨none, .store (.tmp 2) (.tmp 22) 2, none⟩,
   ⟨(some 3), .mv (.const (.bool false)), none⟩])
 .ret)))
def F_lontarlaw09_Split : AFunc := ⟨1, 23, [.cell 2 (some 2), .tmp 3], k_lontarlaw09_Split⟩
theorem ok_lontarlaw09_Split : FOK Try.prog 31 F_lontarlaw09_Split := FOK.of [[0, 2, 4]] Try.func31 (by kernel_rfl) (by kernel_rfl)

-- lontar/rule.side
@[reducible] def i_rule_side : Nat := 32
def k_rule_side : ACode :=
 (.seq (.ops [⟨(some 2), .mv (.const (.bool false)), none⟩])
 (.seq (.ops [⟨(some 3), .mv (.tmp 0), none⟩,
   ⟨(some 4), .len false (.tmp 3), none⟩,
   ⟨(some 5), .int .gtr (.tmp 4) (.const (.int .i64 0)), none⟩,
   ⟨(some 6), .mv (.tmp 5), none⟩,
   ⟨(some 7), .mv (.tmp 0), some (6, true)⟩,
   ⟨(some 8), .len false (.tmp 7), some (6, true)⟩,
   ⟨(some 9), .int .leq (.tmp 8) (.const (.int .i64 8)), some (6, true)⟩,
   ⟨(some 10), .pick (.tmp 6) (.tmp 9) (.const (.bool false)), none⟩,
   ⟨(some 11), .mv (.tmp 10), none⟩,
   ⟨(some 12), .mv (.tmp 0), some (11, true)⟩,
   ⟨(some 13), .call (.func 41) [(.tmp 12), (.func 42)], some (11, true)⟩,
   ⟨(some 14), .not (.tmp 13), some (11, true)⟩,
   ⟨(some 15), .pick (.tmp 11) (.tmp 14) (.const (.bool false)), none⟩,
   ⟨(some 2), .mv (.tmp 15), none⟩])
 .ret))
def F_rule_side : AFunc := ⟨1, 16, [.tmp 2], k_rule_side⟩
theorem ok_rule_side : FOK Try.prog 32 F_rule_side := FOK.of [] Try.func32 (by kernel_rfl) (by kernel_rfl)

-- slices.Clone[[]int,int]
@[reducible] def i_slices_Clone___int_int_ : Nat := 33
def k_slices_Clone___int_int_ : ACode :=
 (.seq (.ops [⟨(some 2), .mv (.const (.slice none 0 0)), none⟩])
 (.seq (.seq (.ops [⟨(some 3), .mv (.tmp 0), none⟩,
   ⟨(some 4), .isNil 1 false (.tmp 3), none⟩])
 (.cond (.tmp 4)
  (.seq (.ops [⟨(some 2), .mv (.const (.slice none 0 0)), none⟩])
  .ret)
  .skip))
 (.seq (.ops [⟨(some 5), .bslice 3 0 1 [(.int .i64 0)] [], none⟩,
   ⟨(some 6), .mv (.tmp 0), none⟩,
   ⟨(some 7), .append (.tmp 5) (.tmp 6) 3 1 8, none⟩,
   ⟨(some 2), .mv (.tmp 7), none⟩])
 .ret)))
def F_slices_Clone___int_int_ : AFunc := ⟨1, 8, [.tmp 2], k_slices_Clone___int_int_⟩
theorem ok_slices_Clone___int_int_ : FOK Try.prog 33 F_slices_Clone___int_int_ := FOK.of [] Try.func33 (by kernel_rfl) (by kernel_rfl)

-- slices.IndexFunc[[]lontar/api.Rule,lontar/api.Rule]
@[reducible] def i_api_Rule_ : Nat := 34
/-- api_Rule_: the body of loop 0 -/
def b_api_Rule__0 : ACode :=
 (.seq (.ops [⟨(some 9), .int .lss (.tmp 8) (.tmp 7), none⟩])
 (.seq (.cond (.tmp 9)
  .skip
  (.exit 0))
 (.seq (.block 1 (.seq (.ops [⟨(some 10), .mv (.tmp 8), none⟩,
   ⟨(some 5), .mv (.tmp 10), none⟩])
 (.seq (.ops [⟨(some 11), .mv (.tmp 1), none⟩,
   ⟨(some 12), .mv (.tmp 0), none⟩,
   ⟨(some 13), .mv (.tmp 5), none⟩,
   ⟨(some 14), .iaddr (.tmp 12) (.tmp 13) 2, none⟩,
   ⟨(some 15), .load (.tmp 14) (some 2), none⟩,
   ⟨(some 16), .call (.tmp 11) [(.tmp 15)], none⟩])
 (.cond (.tmp 16)
  (.seq (.ops [⟨(some 17), .mv (.tmp 5), none⟩,
    ⟨(some 4), .mv (.tmp 17), none⟩])
  .ret)
  .skip))))
 (.ops [⟨(some 18), .int .add (.tmp 8) (.const (.int .i64 1)), none⟩,
   ⟨(some 8), .mv (.tmp 18), none⟩]))))

def k_api_Rule_ : ACode :=
 (.seq (.ops [⟨(some 4), .mv (.const (.int .i64 0)), none⟩])
 (.seq (.seq (.ops [⟨(some 6), .mv (.tmp 0), none⟩,
   ⟨(some 7), .len false (.tmp 6), none⟩,
   ⟨(some 8), .mv (.const (.int .i64 0)), none⟩])
 (.block 0 (.loop [0, 1, 7, 8] b_api_Rule__0)))
 (.seq (.ops [⟨(some 4), .mv (.const (.int .i64 (-1))), none⟩])
 .ret)))
def F_api_Rule_ : AFunc := ⟨2, 19, [.tmp 4], k_api_Rule_⟩
theorem ok_api_Rule_ : FOK Try.prog 34 F_api_Rule_ := FOK.of [[0, 1, 7, 8]] Try.func34 (by kernel_rfl) (by kernel_rfl)

-- lontar/rule.Find$1
@[reducible] def i_rule_Find_1 : Nat := 35
def k_rule_Find_1 : ACode :=
 (.seq (.ops [⟨(some 2), .box (.tmp 0) 46, none⟩,
   ⟨(some 3), .mv (.const (.bool false)), none⟩])
 (.seq (.ops [⟨(some 4), .faddr (.tmp 2) 0, none⟩,
   ⟨(some 5), .load (.tmp 4) none, none⟩,
   ⟨(some 6), .load (.tmp 1) none, none⟩,
   ⟨(some 7), .call (.func 36) [(.tmp 5), (.tmp 6)], none⟩,
   ⟨(some 3), .mv (.tmp 7), none⟩])
 .ret))
def F_rule_Find_1 : AFunc := ⟨2, 8, [.tmp 3], k_rule_Find_1⟩
theorem ok_rule_Find_1 : FOK Try.prog 35 F_rule_Find_1 := FOK.of [] Try.func35 (by kernel_rfl) (by kernel_rfl)

-- slices.Equal[[]int,int]
@[reducible] def i_slices_Equal___int_int_ : Nat := 36
/-- slices_Equal___int_int_: the body of loop 0 -/
def b_slices_Equal___int_int__0 : ACode :=
 (.seq (.ops [⟨(some 14), .int .lss (.tmp 13) (.tmp 12), none⟩])
 (.seq (.cond (.tmp 14)
  .skip
  (.exit 0))
 (.seq (.block 1 (.seq (.ops [⟨(some 15), .mv (.tmp 13), none⟩,
   ⟨(some 5), .mv (.tmp 15), none⟩])
 (.seq (.draw [⟨(some 16), .mv (.tmp 0), none⟩,
   ⟨(some 17), .mv (.tmp 5), none⟩,
   ⟨(some 18), .iaddr (.tmp 16) (.tmp 17) 1, none⟩,
   ⟨(some 19), .load (.tmp 18) none, none⟩,
   ⟨(some 20), .mv (.tmp 1), none⟩,
   ⟨(some 21), .mv (.tmp 5), none⟩,
   ⟨(some 22), .iaddr (.tmp 20) (.tmp 21) 1, none⟩,
   ⟨(some 23), .load (.tmp 22) none, none⟩,
   ⟨(some 24), .int .neq (.tmp 19) (.tmp 23), none⟩])
 (.cond (.tmp 24)
  (.seq (.ops [⟨(some 4), .mv (.const (.bool false)), none⟩])
  .ret)
  .skip))))
 (.ops [⟨(some 25), .int .add (.tmp 13) (.const (.int .i64 1)), none⟩,
   ⟨(some 13), .mv (.tmp 25), none⟩]))))

def k_slices_Equal___int_int_ : ACode :=
 (.seq (.ops [⟨(some 4), .mv (.const (.bool false)), none⟩])
 (.seq (.seq (.ops [⟨(some 6), .mv (.tmp 0), none⟩,
   ⟨(some 7), .len false (.tmp 6), none⟩,
   ⟨(some 8), .mv (.tmp 1), none⟩,
   ⟨(some 9), .len false (.tmp 8), none⟩,
   ⟨(some 10), .int .neq (.tmp 7) (.tmp 9), none⟩])
 (.cond (.tmp 10)
  (.seq (.ops [⟨(some 4), .mv (.const (.bool false)), none⟩])
  .ret)
  .skip))
 (.seq (.seq (.ops [⟨(some 11), .mv (.tmp 0), none⟩,
   ⟨(some 12), .len false (.tmp 11), none⟩,
   ⟨(some 13), .mv (.const (.int .i64 0)), none⟩])
 (.block 0 (.loop [0, 1, 12, 13] b_slices_Equal___int_int__0)))
 (.seq (.ops [⟨(some 4), .mv (.const (.bool true)), none⟩])
 .ret))))
def F_slices_Equal___int_int_ : AFunc := ⟨2, 26, [.tmp 4], k_slices_Equal___int_int_⟩
theorem ok_slices_Equal___int_int_ : FOK Try.prog 36 F_slices_Equal___int_int_ := FOK.of [[0, 1, 12, 13], [0, 1, 2, 3, 4, 5, 6, 7, 8]] Try.func36 (by kernel_rfl) (by kernel_rfl)

-- (*lontar/trie.Trie).Step
@[reducible] def i_trie_Trie__Step : Nat := 37
/-- trie_Trie__Step: the body of loop 0 -/
def b_trie_Trie__Step_0 : ACode :=
 (.seq (.seq (.ops [⟨(some 28), .mv (.tmp 8), none⟩,
   ⟨(some 29), .int .gtr (.tmp 28) (.const (.int .i64 0)), none⟩])
 (.cond (.tmp 29)
  .skip
  (.exit 0)))
 (.seq (.block 1 (.seq (.ops [⟨(some 38), .mv (.tmp 0), none⟩,
   ⟨(some 39), .nilChk (.tmp 38), none⟩,
   ⟨(some 40), .faddr (.tmp 39) 0, none⟩,
   ⟨(some 41), .load (.tmp 40) none, none⟩,
   ⟨(some 42), .mv (.tmp 8), none⟩,
   ⟨(some 43), .iaddr (.tmp 41) (.tmp 42) 4, none⟩,
   ⟨(some 44), .faddr (.tmp 43) 0, none⟩,
   ⟨(some 45), .load (.tmp 44) none, none⟩,
   ⟨(some 46), .mv (.tmp 2), none⟩,
   ⟨(some 47), .int .eql (.tmp 45) (.tmp 46), none⟩])
 (.cond (.tmp 47)
  (.seq (.ops [⟨(some 48), .mv (.tmp 8), none⟩,
    ⟨(some 6), .mv (.tmp 48), none⟩,
    ⟨(some 7), .mv (.const (.bool true)), none⟩])
  .ret)
  .skip)))
 (.ops [⟨(some 30), .mv (.tmp 0), none⟩,
   ⟨(some 31), .nilChk (.tmp 30), none⟩,
   ⟨(some 32), .faddr (.tmp 31) 0, none⟩,
   ⟨(some 33), .load (.tmp 32) none, none⟩,
   ⟨(some 34), .mv (.tmp 8), none⟩,
   ⟨(some 35), .iaddr (.tmp 33) (.tmp 34) 4, none⟩,
   ⟨(some 36), .faddr (.tmp 35) 2, none⟩,
   ⟨(some 37), .load (.tmp 36) none, none⟩,
   ⟨(some 8), .mv (.tmp 37), none⟩])))

def k_trie_Trie__Step : ACode :=
 (.seq (.ops [⟨(some 6), .mv (.const (.int .i64 0)), none⟩,
   ⟨(some 7), .mv (.const (.bool false)), none⟩])
 (.seq (.seq (.ops [⟨(some 9), .mv (.tmp 1), none⟩,
   ⟨(some 10), .int .lss (.tmp 9) (.const (.int .i64 0)), none⟩,
   ⟨(some 11), .mv (.tmp 10), none⟩,
   ⟨(some 12), .mv (.tmp 1), some (11, false)⟩,
   ⟨(some 13), .mv (.tmp 0), some (11, false)⟩,
   ⟨(some 14), .nilChk (.tmp 13), some (11, false)⟩,
   ⟨(some 15), .faddr (.tmp 14) 0, some (11, false)⟩,
   ⟨(some 16), .load (.tmp 15) none, some (11, false)⟩,
   ⟨(some 17), .len false (.tmp 16), some (11, false)⟩,
   ⟨(some 18), .int .geq (.tmp 12) (.tmp 17), some (11, false)⟩,
   ⟨(some 19), .pick (.tmp 11) (.const (.bool true)) (.tmp 18), none⟩])
 (.cond (.tmp 19)
  (.seq (.ops [⟨(some 6), .mv (.const (.int .i64 0)), none⟩,
    ⟨(some 7), .mv (.const (.bool false)), none⟩])
  .ret)
  .skip))
 (.seq (.seq (.ops [⟨(some 20), .mv (.tmp 0), none⟩,
   ⟨(some 21), .nilChk (.tmp 20), none⟩,
   ⟨(some 22), .faddr (.tmp 21) 0, none⟩,
   ⟨(some 23), .load (.tmp 22) none, none⟩,
   ⟨(some 24), .mv (.tmp 1), none⟩,
   ⟨(some 25), .iaddr (.tmp 23) (.tmp 24) 4, none⟩,
   ⟨(some 26), .faddr (.tmp 25) 1, none⟩,
   ⟨(some 27), .load (.tmp 26) none, none⟩,
   ⟨(some 8), .mv (.tmp 27), none⟩])
 (.block 0 (.loop [0, 2, 8] b_trie_Trie__Step_0)))
 (.seq (.ops [⟨(some 6), .mv (.const (.int .i64 0)), none⟩,
   ⟨(some 7), .mv (.const (.bool false)), none⟩])
 .ret))))
def F_trie_Trie__Step : AFunc := ⟨3, 49, [.tmp 6, .tmp 7], k_trie_Trie__Step⟩
theorem ok_trie_Trie__Step : FOK Try.prog 37 F_trie_Trie__Step := FOK.of [[0, 2, 8]] Try.func37 (by kernel_rfl) (by kernel_rfl)

-- lontar/rewrite.one
@[reducible] def i_rewrite_one : Nat := 38
def k_rewrite_one : ACode :=
 (.seq (.ops [⟨(some 6), .alloc [(.int .i64 0), (.int .i64 0), (.slice none 0 0), (.int .i64 0)] 53, none⟩])
 (.seq (.ops [⟨(some 11), .mv (.tmp 0), none⟩,
   ⟨(some 12), .mv (.tmp 1), none⟩,
   ⟨(some 13), .call (.func 43) [(.tmp 11), (.tmp 12)], none⟩,
   ⟨(some 10), .mv (.tmp 13), none⟩,
   ⟨(some 14), .ext (.tmp 10) 0, none⟩,
   ⟨(some 15), .ext (.tmp 10) 1, none⟩,
   ⟨(some 16), .ext (.tmp 10) 2, none⟩,
   ⟨(some 7), .mv (.tmp 14), none⟩,
   ⟨(some 8), .mv (.tmp 15), none⟩,
   ⟨(some 9), .mv (.tmp 16), none⟩])
 (.seq (.seq (.ops [⟨(some 17), .mv (.tmp 7), none⟩,
   ⟨(some 18), .int .lss (.tmp 17) (.const (.int .i64 0)), none⟩])
 (.cond (.tmp 18)
  (.seq (.ops [⟨(some 19), .mv (.tmp 2), none⟩,
    ⟨(some 20), .build [(.int .i64 0), (.int .i64 0), (.slice none 0 0), (.int .i64 0)] [(0, 1, (.tmp 19)), (1, 1, (.const (.int .i64 1))), (3, 1, (.const (.int .i64 3)))], none⟩,
    ⟨none, .store (.tmp 6) (.tmp 20) 4, none⟩])
  .ret)
  .skip))
 (.seq (.ops [⟨(some 21), .mv (.tmp 2), none⟩,
   ⟨(some 22), .mv (.tmp 8), none⟩,
   ⟨(some 23), .mv (.tmp 0), none⟩,
   ⟨(some 24), .mv (.tmp 7), none⟩,
   ⟨(some 25), .call (.func 44) [(.tmp 23), (.tmp 24)], none⟩,
   ⟨(some 26), .build [(.int .i64 0), (.int .i64 0), (.slice none 0 0), (.int .i64 0)] [(0, 1, (.tmp 21)), (1, 1, (.tmp 22)), (2, 1, (.tmp 25))], none⟩,
   ⟨none, .store (.tmp 6) (.tmp 26) 4, none⟩])
 .ret))))
def F_rewrite_one : AFunc := ⟨3, 27, [.cell 6 (some 4)], k_rewrite_one⟩
theorem ok_rewrite_one : FOK Try.prog 38 F_rewrite_one := FOK.of [] Try.func38 (by kernel_rfl) (by kernel_rfl)

-- lontar/viet.rows
@[reducible] def i_viet_rows : Nat := 39
def k_viet_rows : ACode :=
 (.seq (.ops [⟨(some 0), .mv (.const (.slice none 0 0)), none⟩])
 (.seq (.ops [⟨(some 1), .build [(.int .i64 0), (.int .i64 0), (.int .i64 0), (.int .i64 0), (.int .i64 0), (.int .i64 0)] [(0, 1, (.const (.int .i64 97))), (1, 1, (.const (.int .i64 224))), (2, 1, (.const (.int .i64 225))), (3, 1, (.const (.int .i64 7843))), (4, 1, (.const (.int .i64 227))), (5, 1, (.const (.int .i64 7841)))], none⟩,
   ⟨(some 2), .build [(.int .i64 0), (.int .i64 0), (.int .i64 0), (.int .i64 0), (.int .i64 0), (.int .i64 0), (.int .i64 0), (.int .i64 0)] [(0, 1, (.const (.int .i64 97))), (1, 1, (.const (.int .i64 0))), (2, 6, (.tmp 1))], none⟩,
   ⟨(some 3), .build [(.int .i64 0), (.int .i64 0), (.int .i64 0), (.int .i64 0), (.int .i64 0), (.int .i64 0)] [(0, 1, (.const (.int .i64 259))), (1, 1, (.const (.int .i64 7857))), (2, 1, (.const (.int .i64 7855))), (3, 1, (.const (.int .i64 7859))), (4, 1, (.const (.int .i64 7861))), (5, 1, (.const (.int .i64 7863)))], none⟩,
   ⟨(some 4), .build [(.int .i64 0), (.int .i64 0), (.int .i64 0), (.int .i64 0), (.int .i64 0), (.int .i64 0), (.int .i64 0), (.int .i64 0)] [(0, 1, (.const (.int .i64 97))), (1, 1, (.const (.int .i64 1))), (2, 6, (.tmp 3))], none⟩,
   ⟨(some 5), .build [(.int .i64 0), (.int .i64 0), (.int .i64 0), (.int .i64 0), (.int .i64 0), (.int .i64 0)] [(0, 1, (.const (.int .i64 226))), (1, 1, (.const (.int .i64 7847))), (2, 1, (.const (.int .i64 7845))), (3, 1, (.const (.int .i64 7849))), (4, 1, (.const (.int .i64 7851))), (5, 1, (.const (.int .i64 7853)))], none⟩,
   ⟨(some 6), .build [(.int .i64 0), (.int .i64 0), (.int .i64 0), (.int .i64 0), (.int .i64 0), (.int .i64 0), (.int .i64 0), (.int .i64 0)] [(0, 1, (.const (.int .i64 97))), (1, 1, (.const (.int .i64 2))), (2, 6, (.tmp 5))], none⟩,
   ⟨(some 7), .build [(.int .i64 0), (.int .i64 0), (.int .i64 0), (.int .i64 0), (.int .i64 0), (.int .i64 0)] [(0, 1, (.const (.int .i64 101))), (1, 1, (.const (.int .i64 232))), (2, 1, (.const (.int .i64 233))), (3, 1, (.const (.int .i64 7867))), (4, 1, (.const (.int .i64 7869))), (5, 1, (.const (.int .i64 7865)))], none⟩,
   ⟨(some 8), .build [(.int .i64 0), (.int .i64 0), (.int .i64 0), (.int .i64 0), (.int .i64 0), (.int .i64 0), (.int .i64 0), (.int .i64 0)] [(0, 1, (.const (.int .i64 101))), (1, 1, (.const (.int .i64 0))), (2, 6, (.tmp 7))], none⟩,
   ⟨(some 9), .build [(.int .i64 0), (.int .i64 0), (.int .i64 0), (.int .i64 0), (.int .i64 0), (.int .i64 0)] [(0, 1, (.const (.int .i64 234))), (1, 1, (.const (.int .i64 7873))), (2, 1, (.const (.int .i64 7871))), (3, 1, (.const (.int .i64 7875))), (4, 1, (.const (.int .i64 7877))), (5, 1, (.const (.int .i64 7879)))], none⟩,
   ⟨(some 10), .build [(.int .i64 0), (.int .i64 0), (.int .i64 0), (.int .i64 0), (.int .i64 0), (.int .i64 0), (.int .i64 0), (.int .i64 0)] [(0, 1, (.const (.int .i64 101))), (1, 1, (.const (.int .i64 2))), (2, 6, (.tmp 9))], none⟩,
   ⟨(some 11), .build [(.int .i64 0), (.int .i64 0), (.int .i64 0), (.int .i64 0), (.int .i64 0), (.int .i64 0)] [(0, 1, (.const (.int .i64 105))), (1, 1, (.const (.int .i64 236))), (2, 1, (.const (.int .i64 237))), (3, 1, (.const (.int .i64 7881))), (4, 1, (.const (.int .i64 297))), (5, 1, (.const (.int .i64 7883)))], none⟩,
   ⟨(some 12), .build [(.int .i64 0), (.int .i64 0), (.int .i64 0), (.int .i64 0), (.int .i64 0), (.int .i64 0), (.int .i64 0), (.int .i64 0)] [(0, 1, (.const (.int .i64 105))), (1, 1, (.const (.int .i64 0))), (2, 6, (.tmp 11))], none⟩,
   ⟨(some 13), .build [(.int .i64 0), (.int .i64 0), (.int .i64 0), (.int .i64 0), (.int .i64 0), (.int .i64 0)] [(0, 1, (.const (.int .i64 111))), (1, 1, (.const (.int .i64 242))), (2, 1, (.const (.int .i64 243))), (3, 1, (.const (.int .i64 7887))), (4, 1, (.const (.int .i64 245))), (5, 1, (.const (.int .i64 7885)))], none⟩,
   ⟨(some 14), .build [(.int .i64 0), (.int .i64 0), (.int .i64 0), (.int .i64 0), (.int .i64 0), (.int .i64 0), (.int .i64 0), (.int .i64 0)] [(0, 1, (.const (.int .i64 111))), (1, 1, (.const (.int .i64 0))), (2, 6, (.tmp 13))], none⟩,
   ⟨(some 15), .build [(.int .i64 0), (.int .i64 0), (.int .i64 0), (.int .i64 0), (.int .i64 0), (.int .i64 0)] [(0, 1, (.const (.int .i64 244))), (1, 1, (.const (.int .i64 7891))), (2, 1, (.const (.int .i64 7889))), (3, 1, (.const (.int .i64 7893))), (4, 1, (.const (.int .i64 7895))), (5, 1, (.const (.int .i64 7897)))], none⟩,
   ⟨(some 16), .build [(.int .i64 0), (.int .i64 0), (.int .i64 0), (.int .i64 0), (.int .i64 0), (.int .i64 0), (.int .i64 0), (.int .i64 0)] [(0, 1, (.const (.int .i64 111))), (1, 1, (.const (.int .i64 2))), (2, 6, (.tmp 15))], none⟩,
   ⟨(some 17), .build [(.int .i64 0), (.int .i64 0), (.int .i64 0), (.int .i64 0), (.int .i64 0), (.int .i64 0)] [(0, 1, (.const (.int .i64 417))), (1, 1, (.const (.int .i64 7901))), (2, 1, (.const (.int .i64 7899))), (3, 1, (.const (.int .i64 7903))), (4, 1, (.const (.int .i64 7905))), (5, 1, (.const (.int .i64 7907)))], none⟩,
   ⟨(some 18), .build [(.int .i64 0), (.int .i64 0), (.int .i64 0), (.int .i64 0), (.int .i64 0), (.int .i64 0), (.int .i64 0), (.int .i64 0)] [(0, 1, (.const (.int .i64 111))), (1, 1, (.const (.int .i64 3))), (2, 6, (.tmp 17))], none⟩,
   ⟨(some 19), .build [(.int .i64 0), (.int .i64 0), (.int .i64 0), (.int .i64 0), (.int .i64 0), (.int .i64 0)] [(0, 1, (.const (.int .i64 117))), (1, 1, (.const (.int .i64 249))), (2, 1, (.const (.int .i64 250))), (3, 1, (.const (.int .i64 7911))), (4, 1, (.const (.int .i64 361))), (5, 1, (.const (.int .i64 7909)))], none⟩,
   ⟨(some 20), .build [(.int .i64 0), (.int .i64 0), (.int .i64 0), (.int .i64 0), (.int .i64 0), (.int .i64 0), (.int .i64 0), (.int .i64 0)] [(0, 1, (.const (.int .i64 117))), (1, 1, (.const (.int .i64 0))), (2, 6, (.tmp 19))], none⟩,
   ⟨(some 21), .build [(.int .i64 0), (.int .i64 0), (.int .i64 0), (.int .i64 0), (.int .i64 0), (.int .i64 0)] [(0, 1, (.const (.int .i64 432))), (1, 1, (.const (.int .i64 7915))), (2, 1, (.const (.int .i64 7913))), (3, 1, (.const (.int .i64 7917))), (4, 1, (.const (.int .i64 7919))), (5, 1, (.const (.int .i64 7921)))], none⟩,
   ⟨(some 22), .build [(.int .i64 0), (.int .i64 0), (.int .i64 0), (.int .i64 0), (.int .i64 0), (.int .i64 0), (.int .i64 0), (.int .i64 0)] [(0, 1, (.const (.int .i64 117))), (1, 1, (.const (.int .i64 3))), (2, 6, (.tmp 21))], none⟩,
   ⟨(some 23), .build [(.int .i64 0), (.int .i64 0), (.int .i64 0), (.int .i64 0), (.int .i64 0), (.int .i64 0)] [(0, 1, (.const (.int .i64 121))), (1, 1, (.const (.int .i64 7923))), (2, 1, (.const (.int .i64 253))), (3, 1, (.const (.int .i64 7927))), (4, 1, (.const (.int .i64 7929))), (5, 1, (.const (.int .i64 7925)))], none⟩,
   ⟨(some 24), .build [(.int .i64 0), (.int .i64 0), (.int .i64 0), (.int .i64 0), (.int .i64 0), (.int .i64 0), (.int .i64 0), (.int .i64 0)] [(0, 1, (.const (.int .i64 121))), (1, 1, (.const (.int .i64 0))), (2, 6, (.tmp 23))], none⟩,
   ⟨(some 25), .build [(.int .i64 0), (.int .i64 0), (.int .i64 0), (.int .i64 0), (.int .i64 0), (.int .i64 0)] [(0, 1, (.const (.int .i64 100)))], none⟩,
   ⟨(some 26), .build [(.int .i64 0), (.int .i64 0), (.int .i64 0), (.int .i64 0), (.int .i64 0), (.int .i64 0), (.int .i64 0), (.int .i64 0)] [(0, 1, (.const (.int .i64 100))), (1, 1, (.const (.int .i64 0))), (2, 6, (.tmp 25))], none⟩,
   ⟨(some 27), .build [(.int .i64 0), (.int .i64 0), (.int .i64 0), (.int .i64 0), (.int .i64 0), (.int .i64 0)] [(0, 1, (.const (.int .i64 273)))], none⟩,
   ⟨(some 28), .build [(.int .i64 0), (.int .i64 0), (.int .i64 0), (.int .i64 0), (.int .i64 0), (.int .i64 0), (.int .i64 0), (.int .i64 0)] [(0, 1, (.const (.int .i64 100))), (1, 1, (.const (.int .i64 4))), (2, 6, (.tmp 27))], none⟩,
   ⟨(some 29), .bslice 90 14 8 [(.int .i64 0), (.int .i64 0), (.int .i64 0), (.int .i64 0), (.int .i64 0), (.int .i64 0), (.int .i64 0), (.int .i64 0)] [(0, 8, (.tmp 2)), (8, 8, (.tmp 4)), (16, 8, (.tmp 6)), (24, 8, (.tmp 8)), (32, 8, (.tmp 10)), (40, 8, (.tmp 12)), (48, 8, (.tmp 14)), (56, 8, (.tmp 16)), (64, 8, (.tmp 18)), (72, 8, (.tmp 20)), (80, 8, (.tmp 22)), (88, 8, (.tmp 24)), (96, 8, (.tmp 26)), (104, 8, (.tmp 28))], none⟩,
   ⟨(some 0), .mv (.tmp 29), none⟩])
 .ret))
def F_viet_rows : AFunc := ⟨0, 30, [.tmp 0], k_viet_rows⟩
theorem ok_viet_rows : FOK Try.prog 39 F_viet_rows := FOK.of [] Try.func39 (by kernel_rfl) (by kernel_rfl)

-- lontar/viet.Upper
@[reducible] def i_viet_Upper : Nat := 40
def k_viet_Upper : ACode :=
 (.seq (.ops [⟨(some 2), .mv (.const (.int .i64 0)), none⟩])
 (.seq (.block 0 (.seq (.ops [⟨(some 4), .mv (.tmp 0), none⟩,
   ⟨(some 5), .int .lss (.tmp 4) (.const (.int .i64 256)), none⟩,
   ⟨(some 3), .mv (.tmp 5), none⟩])
 (.cond (.tmp 3)
  (.seq (.ops [⟨(some 6), .mv (.tmp 0), none⟩,
    ⟨(some 7), .int .sub (.tmp 6) (.const (.int .i64 32)), none⟩,
    ⟨(some 2), .mv (.tmp 7), none⟩])
  .ret)
  .skip)))
 (.seq (.ops [⟨(some 8), .mv (.tmp 0), none⟩,
   ⟨(some 9), .int .sub (.tmp 8) (.const (.int .i64 1)), none⟩,
   ⟨(some 2), .mv (.tmp 9), none⟩])
 .ret)))
def F_viet_Upper : AFunc := ⟨1, 10, [.tmp 2], k_viet_Upper⟩
theorem ok_viet_Upper : FOK Try.prog 40 F_viet_Upper := FOK.of [] Try.func40 (by kernel_rfl) (by kernel_rfl)

-- slices.ContainsFunc[[]int,int]
@[reducible] def i_slices_ContainsFunc___int_int_ : Nat := 41
def k_slices_ContainsFunc___int_int_ : ACode :=
 (.seq (.ops [⟨(some 4), .mv (.const (.bool false)), none⟩])
 (.seq (.ops [⟨(some 5), .mv (.tmp 0), none⟩,
   ⟨(some 6), .mv (.tmp 1), none⟩,
   ⟨(some 7), .call (.func 45) [(.tmp 5), (.tmp 6)], none⟩,
   ⟨(some 8), .int .geq (.tmp 7) (.const (.int .i64 0)), none⟩,
   ⟨(some 4), .mv (.tmp 8), none⟩])
 .ret))
def F_slices_ContainsFunc___int_int_ : AFunc := ⟨2, 9, [.tmp 4], k_slices_ContainsFunc___int_int_⟩
theorem ok_slices_ContainsFunc___int_int_ : FOK Try.prog 41 F_slices_ContainsFunc___int_int_ := FOK.of [] Try.func41 (by kernel_rfl) (by kernel_rfl)

-- lontar/rule.side$1
@[reducible] def i_rule_side_1 : Nat := 42
def k_rule_side_1 : ACode :=
 (.seq (.ops [⟨(some 2), .mv (.const (.bool false)), none⟩])
 (.seq (.ops [⟨(some 3), .mv (.tmp 0), none⟩,
   ⟨(some 4), .int .lss (.tmp 3) (.const (.int .i64 0)), none⟩,
   ⟨(some 5), .mv (.tmp 4), none⟩,
   ⟨(some 6), .mv (.tmp 0), some (5, false)⟩,
   ⟨(some 7), .int .gtr (.tmp 6) (.const (.int .i64 1114111)), some (5, false)⟩,
   ⟨(some 8), .pick (.tmp 5) (.const (.bool true)) (.tmp 7), none⟩,
   ⟨(some 2), .mv (.tmp 8), none⟩])
 .ret))
def F_rule_side_1 : AFunc := ⟨1, 9, [.tmp 2], k_rule_side_1⟩
theorem ok_rule_side_1 : FOK Try.prog 42 F_rule_side_1 := FOK.of [] Try.func42 (by kernel_rfl) (by kernel_rfl)

-- (*lontar/trie.Trie).Longest
@[reducible] def i_trie_Trie__Longest : Nat := 43
/-- trie_Trie__Longest: the body of loop 0 -/
def b_trie_Trie__Longest_0 : ACode :=
 (.seq (.ops [⟨(some 18), .int .lss (.tmp 17) (.tmp 16), none⟩])
 (.seq (.cond (.tmp 18)
  .skip
  (.exit 0))
 (.seq (.block 1 (.seq (.ops [⟨(some 19), .mv (.tmp 17), none⟩,
   ⟨(some 20), .iaddr (.tmp 15) (.tmp 17) 1, none⟩,
   ⟨(some 21), .load (.tmp 20) none, none⟩,
   ⟨(some 10), .mv (.tmp 19), none⟩,
   ⟨(some 11), .mv (.tmp 21), none⟩])
 (.seq (.ops [⟨(some 23), .mv (.tmp 0), none⟩,
   ⟨(some 24), .mv (.tmp 9), none⟩,
   ⟨(some 25), .mv (.tmp 11), none⟩,
   ⟨(some 26), .call (.func 37) [(.tmp 23), (.tmp 24), (.tmp 25)], none⟩,
   ⟨(some 22), .mv (.tmp 26), none⟩,
   ⟨(some 27), .ext (.tmp 22) 0, none⟩,
   ⟨(some 28), .ext (.tmp 22) 1, none⟩,
   ⟨(some 12), .mv (.tmp 27), none⟩,
   ⟨(some 13), .mv (.tmp 28), none⟩])
 (.seq (.seq (.ops [⟨(some 29), .mv (.tmp 13), none⟩,
   ⟨(some 30), .not (.tmp 29), none⟩])
 (.cond (.tmp 30)
  (.seq (.ops [⟨(some 31), .mv (.tmp 7), none⟩,
    ⟨(some 32), .mv (.tmp 8), none⟩,
    ⟨(some 4), .mv (.tmp 31), none⟩,
    ⟨(some 5), .mv (.tmp 32), none⟩,
    ⟨(some 6), .mv (.const (.bool false)), none⟩])
  .ret)
  .skip))
 (.seq (.ops [⟨(some 33), .mv (.tmp 12), none⟩,
   ⟨(some 9), .mv (.tmp 33), none⟩])
 (.seq (.ops [⟨(some 34), .mv (.tmp 0), none⟩,
   ⟨(some 35), .mv (.tmp 9), none⟩,
   ⟨(some 36), .call (.func 46) [(.tmp 34), (.tmp 35)], none⟩,
   ⟨(some 14), .mv (.tmp 36), none⟩])
 (.seq (.ops [⟨(some 37), .mv (.tmp 14), none⟩,
   ⟨(some 38), .int .geq (.tmp 37) (.const (.int .i64 0)), none⟩])
 (.cond (.tmp 38)
  (.ops [⟨(some 39), .mv (.tmp 14), none⟩,
    ⟨(some 40), .mv (.tmp 10), none⟩,
    ⟨(some 41), .int .add (.tmp 40) (.const (.int .i64 1)), none⟩,
    ⟨(some 7), .mv (.tmp 39), none⟩,
    ⟨(some 8), .mv (.tmp 41), none⟩])
  .skip))))))))
 (.ops [⟨(some 42), .int .add (.tmp 17) (.const (.int .i64 1)), none⟩,
   ⟨(some 17), .mv (.tmp 42), none⟩]))))

def k_trie_Trie__Longest : ACode :=
 (.seq (.ops [⟨(some 4), .mv (.const (.int .i64 0)), none⟩,
   ⟨(some 5), .mv (.const (.int .i64 0)), none⟩,
   ⟨(some 6), .mv (.const (.bool false)), none⟩])
 (.seq (.ops [⟨(some 7), .mv (.const (.int .i64 (-1))), none⟩,
   ⟨(some 8), .mv (.const (.int .i64 0)), none⟩,
   ⟨(some 9), .mv (.const (.int .i64 0)), none⟩])
 (.seq (.seq (.ops [⟨(some 15), .mv (.tmp 1), none⟩,
   ⟨(some 16), .len false (.tmp 15), none⟩,
   ⟨(some 17), .mv (.const (.int .i64 0)), none⟩])
 (.block 0 (.loop [0, 7, 8, 9, 15, 16, 17] b_trie_Trie__Longest_0)))
 (.seq (.ops [⟨(some 43), .mv (.tmp 7), none⟩,
   ⟨(some 44), .mv (.tmp 8), none⟩,
   ⟨(some 45), .mv (.tmp 0), none⟩,
   ⟨(some 46), .mv (.tmp 9), none⟩,
   ⟨(some 47), .call (.func 47) [(.tmp 45), (.tmp 46)], none⟩,
   ⟨(some 48), .not (.tmp 47), none⟩,
   ⟨(some 4), .mv (.tmp 43), none⟩,
   ⟨(some 5), .mv (.tmp 44), none⟩,
   ⟨(some 6), .mv (.tmp 48), none⟩])
 .ret))))
def F_trie_Trie__Longest : AFunc := ⟨2, 49, [.tmp 4, .tmp 5, .tmp 6], k_trie_Trie__Longest⟩
theorem ok_trie_Trie__Longest : FOK Try.prog 43 F_trie_Trie__Longest := FOK.of [[0, 7, 8, 9, 15, 16, 17]] Try.func43 (by kernel_rfl) (by kernel_rfl)

-- (*lontar/trie.Trie).Out
@[reducible] def i_trie_Trie__Out : Nat := 44
def k_trie_Trie__Out : ACode :=
 (.seq (.ops [⟨(some 4), .mv (.const (.slice none 0 0)), none⟩])
 (.seq (.seq (.ops [⟨(some 5), .mv (.tmp 1), none⟩,
   ⟨(some 6), .int .lss (.tmp 5) (.const (.int .i64 0)), none⟩,
   ⟨(some 7), .mv (.tmp 6), none⟩,
   ⟨(some 8), .mv (.tmp 1), some (7, false)⟩,
   ⟨(some 9), .mv (.tmp 0), some (7, false)⟩,
   ⟨(some 10), .nilChk (.tmp 9), some (7, false)⟩,
   ⟨(some 11), .faddr (.tmp 10) 1, some (7, false)⟩,
   ⟨(some 12), .load (.tmp 11) none, some (7, false)⟩,
   ⟨(some 13), .len false (.tmp 12), some (7, false)⟩,
   ⟨(some 14), .int .geq (.tmp 8) (.tmp 13), some (7, false)⟩,
   ⟨(some 15), .pick (.tmp 7) (.const (.bool true)) (.tmp 14), none⟩])
 (.cond (.tmp 15)
  (.seq (.ops [⟨(some 4), .mv (.const (.slice none 0 0)), none⟩])
  .ret)
  .skip))
 (.seq (.ops [⟨(some 16), .mv (.tmp 0), none⟩,
   ⟨(some 17), .nilChk (.tmp 16), none⟩,
   ⟨(some 18), .faddr (.tmp 17) 1, none⟩,
   ⟨(some 19), .load (.tmp 18) none, none⟩,
   ⟨(some 20), .mv (.tmp 1), none⟩,
   ⟨(some 21), .iaddr (.tmp 19) (.tmp 20) 2, none⟩,
   ⟨(some 22), .faddr (.tmp 21) 1, none⟩,
   ⟨(some 23), .load (.tmp 22) none, none⟩,
   ⟨(some 24), .append (.const (.slice none 0 0)) (.tmp 23) 3 1 8, none⟩,
   ⟨(some 4), .mv (.tmp 24), none⟩])
 .ret)))
def F_trie_Trie__Out : AFunc := ⟨2, 25, [.tmp 4], k_trie_Trie__Out⟩
theorem ok_trie_Trie__Out : FOK Try.prog 44 F_trie_Trie__Out := FOK.of [] Try.func44 (by kernel_rfl) (by kernel_rfl)

-- slices.IndexFunc[[]int,int]
@[reducible] def i_slices_IndexFunc___int_int_ : Nat := 45
/-- slices_IndexFunc___int_int_: the body of loop 0 -/
def b_slices_IndexFunc___int_int__0 : ACode :=
 (.seq (.ops [⟨(some 9), .int .lss (.tmp 8) (.tmp 7), none⟩])
 (.seq (.cond (.tmp 9)
  .skip
  (.exit 0))
 (.seq (.block 1 (.seq (.ops [⟨(some 10), .mv (.tmp 8), none⟩,
   ⟨(some 5), .mv (.tmp 10), none⟩])
 (.seq (.ops [⟨(some 11), .mv (.tmp 1), none⟩,
   ⟨(some 12), .mv (.tmp 0), none⟩,
   ⟨(some 13), .mv (.tmp 5), none⟩,
   ⟨(some 14), .iaddr (.tmp 12) (.tmp 13) 1, none⟩,
   ⟨(some 15), .load (.tmp 14) none, none⟩,
   ⟨(some 16), .call (.tmp 11) [(.tmp 15)], none⟩])
 (.cond (.tmp 16)
  (.seq (.ops [⟨(some 17), .mv (.tmp 5), none⟩,
    ⟨(some 4), .mv (.tmp 17), none⟩])
  .ret)
  .skip))))
 (.ops [⟨(some 18), .int .add (.tmp 8) (.const (.int .i64 1)), none⟩,
   ⟨(some 8), .mv (.tmp 18), none⟩]))))

def k_slices_IndexFunc___int_int_ : ACode :=
 (.seq (.ops [⟨(some 4), .mv (.const (.int .i64 0)), none⟩])
 (.seq (.seq (.ops [⟨(some 6), .mv (.tmp 0), none⟩,
   ⟨(some 7), .len false (.tmp 6), none⟩,
   ⟨(some 8), .mv (.const (.int .i64 0)), none⟩])
 (.block 0 (.loop [0, 1, 7, 8] b_slices_IndexFunc___int_int__0)))
 (.seq (.ops [⟨(some 4), .mv (.const (.int .i64 (-1))), none⟩])
 .ret)))
def F_slices_IndexFunc___int_int_ : AFunc := ⟨2, 19, [.tmp 4], k_slices_IndexFunc___int_int_⟩
theorem ok_slices_IndexFunc___int_int_ : FOK Try.prog 45 F_slices_IndexFunc___int_int_ := FOK.of [[0, 1, 7, 8]] Try.func45 (by kernel_rfl) (by kernel_rfl)

-- (*lontar/trie.Trie).Rule
@[reducible] def i_trie_Trie__Rule : Nat := 46
def k_trie_Trie__Rule : ACode :=
 (.seq (.ops [⟨(some 4), .mv (.const (.int .i64 0)), none⟩])
 (.seq (.seq (.ops [⟨(some 5), .mv (.tmp 1), none⟩,
   ⟨(some 6), .int .lss (.tmp 5) (.const (.int .i64 0)), none⟩,
   ⟨(some 7), .mv (.tmp 6), none⟩,
   ⟨(some 8), .mv (.tmp 1), some (7, false)⟩,
   ⟨(some 9), .mv (.tmp 0), some (7, false)⟩,
   ⟨(some 10), .nilChk (.tmp 9), some (7, false)⟩,
   ⟨(some 11), .faddr (.tmp 10) 0, some (7, false)⟩,
   ⟨(some 12), .load (.tmp 11) none, some (7, false)⟩,
   ⟨(some 13), .len false (.tmp 12), some (7, false)⟩,
   ⟨(some 14), .int .geq (.tmp 8) (.tmp 13), some (7, false)⟩,
   ⟨(some 15), .pick (.tmp 7) (.const (.bool true)) (.tmp 14), none⟩])
 (.cond (.tmp 15)
  (.seq (.ops [⟨(some 4), .mv (.const (.int .i64 (-1))), none⟩])
  .ret)
  .skip))
 (.seq (.ops [⟨(some 16), .mv (.tmp 0), none⟩,
   ⟨(some 17), .nilChk (.tmp 16), none⟩,
   ⟨(some 18), .faddr (.tmp 17) 0, none⟩,
   ⟨(some 19), .load (.tmp 18) none, none⟩,
   ⟨(some 20), .mv (.tmp 1), none⟩,
   ⟨(some 21), .iaddr (.tmp 19) (.tmp 20) 4, none⟩,
   ⟨(some 22), .faddr (.tmp 21) 3, none⟩,
   ⟨(some 23), .load (.tmp 22) none, none⟩,
   ⟨(some 4), .mv (.tmp 23), none⟩])
 .ret)))
def F_trie_Trie__Rule : AFunc := ⟨2, 24, [.tmp 4], k_trie_Trie__Rule⟩
theorem ok_trie_Trie__Rule : FOK Try.prog 46 F_trie_Trie__Rule := FOK.of [] Try.func46 (by kernel_rfl) (by kernel_rfl)

-- (*lontar/trie.Trie).Leaf
@[reducible] def i_trie_Trie__Leaf : Nat := 47
def k_trie_Trie__Leaf : ACode :=
 (.seq (.ops [⟨(some 4), .mv (.const (.bool false)), none⟩])
 (.seq (.ops [⟨(some 5), .mv (.tmp 1), none⟩,
   ⟨(some 6), .int .lss (.tmp 5) (.const (.int .i64 0)), none⟩,
   ⟨(some 7), .mv (.tmp 6), none⟩,
   ⟨(some 8), .mv (.tmp 1), some (7, false)⟩,
   ⟨(some 9), .mv (.tmp 0), some (7, false)⟩,
   ⟨(some 10), .nilChk (.tmp 9), some (7, false)⟩,
   ⟨(some 11), .faddr (.tmp 10) 0, some (7, false)⟩,
   ⟨(some 12), .load (.tmp 11) none, some (7, false)⟩,
   ⟨(some 13), .len false (.tmp 12), some (7, false)⟩,
   ⟨(some 14), .int .geq (.tmp 8) (.tmp 13), some (7, false)⟩,
   ⟨(some 15), .pick (.tmp 7) (.const (.bool true)) (.tmp 14), none⟩,
   ⟨(some 16), .mv (.tmp 15), none⟩,
   ⟨(some 17), .mv (.tmp 0), some (16, false)⟩,
   ⟨(some 18), .nilChk (.tmp 17), some (16, false)⟩,
   ⟨(some 19), .faddr (.tmp 18) 0, some (16, false)⟩,
   ⟨(some 20), .load (.tmp 19) none, some (16, false)⟩,
   ⟨(some 21), .mv (.tmp 1), some (16, false)⟩,
   ⟨(some 22), .iaddr (.tmp 20) (.tmp 21) 4, some (16, false)⟩,
   ⟨(some 23), .faddr (.tmp 22) 1, some (16, false)⟩,
   ⟨(some 24), .load (.tmp 23) none, some (16, false)⟩,
   ⟨(some 25), .int .eql (.tmp 24) (.const (.int .i64 0)), some (16, false)⟩,
   ⟨(some 26), .pick (.tmp 16) (.const (.bool true)) (.tmp 25), none⟩,
   ⟨(some 4), .mv (.tmp 26), none⟩])
 .ret))
def F_trie_Trie__Leaf : AFunc := ⟨2, 27, [.tmp 4], k_trie_Trie__Leaf⟩
theorem ok_trie_Trie__Leaf : FOK Try.prog 47 F_trie_Trie__Leaf := FOK.of [] Try.func47 (by kernel_rfl) (by kernel_rfl)

end Go.Proofs.Ytfhchimfdlhmaaa

/-! Layer 13: the functions. -/
set_option linter.unusedSimpArgs false
set_option linter.unusedVariables false
namespace Go.Proofs.Ytfhchimfdlhmaaa
open Go Lon
set_option maxRecDepth 100000
def tab : List (FuncId × AFunc) := [(3, F_lontarlaw13_VniSmall), (4, F_lontarlaw13_VniRules), (5, F_lontarlaw13_VniSize), (6, F_lontarlaw13_VniRight), (7, F_lontarlaw13_VniReads), (8, F_lontarlaw13_VniAscii), (9, F_lontarlaw13_awake), (10, F_lontarlaw09_Letter), (11, F_lontarlaw01_Units), (12, F_vni_Small), (13, F_lontarlaw13_small), (14, F_viet_Join), (15, F_vni_Rules), (16, F_lontarlaw03_Same), (17, F_lontarlaw13_rules), (18, F_rule_Check), (19, F_rule_Turn), (20, F_rule_Find), (21, F_rule_Longest), (22, F_trie_Of), (23, F_rewrite_Units), (24, F_rewrite_All), (25, F_viet_Split), (26, F_lontarlaw09_Rows), (27, F_lontarlaw09_upper), (28, F_vni_alone), (29, F_vni_signs), (30, F_viet_All), (31, F_lontarlaw09_Split), (32, F_rule_side), (33, F_slices_Clone___int_int_), (34, F_api_Rule_), (35, F_rule_Find_1), (36, F_slices_Equal___int_int_), (37, F_trie_Trie__Step), (38, F_rewrite_one), (39, F_viet_rows), (40, F_viet_Upper), (41, F_slices_ContainsFunc___int_int_), (42, F_rule_side_1), (43, F_trie_Trie__Longest), (44, F_trie_Trie__Out), (45, F_slices_IndexFunc___int_int_), (46, F_trie_Trie__Rule), (47, F_trie_Trie__Leaf)]
theorem gok : ∀ g F, tabF tab g = some F → FOK Try.prog g F := tabF_ok (tab_cons ok_lontarlaw13_VniSmall (tab_cons ok_lontarlaw13_VniRules (tab_cons ok_lontarlaw13_VniSize (tab_cons ok_lontarlaw13_VniRight (tab_cons ok_lontarlaw13_VniReads (tab_cons ok_lontarlaw13_VniAscii (tab_cons ok_lontarlaw13_awake (tab_cons ok_lontarlaw09_Letter (tab_cons ok_lontarlaw01_Units (tab_cons ok_vni_Small (tab_cons ok_lontarlaw13_small (tab_cons ok_viet_Join (tab_cons ok_vni_Rules (tab_cons ok_lontarlaw03_Same (tab_cons ok_lontarlaw13_rules (tab_cons ok_rule_Check (tab_cons ok_rule_Turn (tab_cons ok_rule_Find (tab_cons ok_rule_Longest (tab_cons ok_trie_Of (tab_cons ok_rewrite_Units (tab_cons ok_rewrite_All (tab_cons ok_viet_Split (tab_cons ok_lontarlaw09_Rows (tab_cons ok_lontarlaw09_upper (tab_cons ok_vni_alone (tab_cons ok_vni_signs (tab_cons ok_viet_All (tab_cons ok_lontarlaw09_Split (tab_cons ok_rule_side (tab_cons ok_slices_Clone___int_int_ (tab_cons ok_api_Rule_ (tab_cons ok_rule_Find_1 (tab_cons ok_slices_Equal___int_int_ (tab_cons ok_trie_Trie__Step (tab_cons ok_rewrite_one (tab_cons ok_viet_rows (tab_cons ok_viet_Upper (tab_cons ok_slices_ContainsFunc___int_int_ (tab_cons ok_rule_side_1 (tab_cons ok_trie_Trie__Longest (tab_cons ok_trie_Trie__Out (tab_cons ok_slices_IndexFunc___int_int_ (tab_cons ok_trie_Trie__Rule (tab_cons ok_trie_Trie__Leaf (tab_nil))))))))))))))))))))))))))))))))))))))))))))))
def om1 : CallF := fun _ _ _ => none
theorem omok {base : Nat} : ∀ g args H v H', om1 g args H = some (v, H') → Sim Try.prog base g args H v H' := fun _ _ _ _ _ h => by cases h
end Go.Proofs.Ytfhchimfdlhmaaa

/-! Slices of units, rules. -/
set_option linter.unusedSimpArgs false
set_option linter.unusedVariables false
namespace Go.Proofs.Ytfhchimfdlhmaaa
open Go Lon
theorem l_Units {a b : Value} {la lb : List Int} {H : AHeap} (ha : Ints H a la) (hb : Ints H b lb) (hl : la.length = lb.length) (hs : la.length < 4611686018427387904) : ∀ (k i : Nat), i + k = la.length →
    Out (run Try.prog (tabF tab) om1 (.loop [0, 1, 12, 13] b_lontarlaw01_Units_0) [(0, a), (1, b), (12, .int .i64 la.length), (13, .int .i64 i)] H) fun x e' H' => H' = H ∧
      if la.drop i = lb.drop i then x = .exit 0 else x = .ret ∧ eget e' 4 = .bool false := by
  intro k
  induction k with
  | zero =>
    intro i hi
    have hlt : ¬ ((i : Int) < la.length) := by omega
    rw [w_loop_b b_lontarlaw01_Units_0.eq_1, List.drop_of_length_le (by omega), List.drop_of_length_le (by omega)]
    simp only [WA, isStore, isCall, isK, freshI, stampO, List.nil_append, Option.map_some, Option.map_none, Option.bind_some, List.map_cons, List.map_nil, if_true, if_false, Nat.reduceEqDiff, Int.reduceEq, Nat.reduceAdd, Nat.reduceMul, reduceCtorEq, eq_self, Int.reduceLT, Int.reduceLE, Int.reduceToNat, List.length_cons, List.length_nil, List.all_cons, List.all_nil, List.take_zero, List.drop_nil, List.append_nil, List.getElem?_cons_zero, List.getElem?_cons_succ, List.drop_succ_cons, List.drop_zero, List.take_succ_cons, List.cons_append, Nat.reduceLeDiff, Int.cast_ofNat_Int, hlt]
  | succ k ih =>
    intro i hi
    have hlt : (i : Int) < la.length := by omega
    obtain ⟨x, hx, hdx⟩ := drop_at (L := la) (i := i) (by omega)
    obtain ⟨y, hy, hdy⟩ := drop_at (L := lb) (i := i) (by omega)
    obtain ⟨i1, o1, h1, h2⟩ := ha.at hx
    obtain ⟨i2, o2, h3, h4⟩ := hb.at hy
    have hw2 : IntKind.i64.wrap ((i : Int) + 1) = ((i + 1 : Nat) : Int) := by rw [wrap64 (by omega) (by omega)]; omega
    rw [w_loop_b b_lontarlaw01_Units_0.eq_1, hdx, hdy]
    by_cases hxy : x = y
    · subst hxy
      obtain ⟨z, e', H', r1, r2, r3⟩ := ih (i + 1) (by omega)
      have hne : (x ≠ x) = False := by simp
      simp only [WA, isStore, isCall, isK, freshI, stampO, List.nil_append, Option.map_some, Option.map_none, Option.bind_some, List.map_cons, List.map_nil, if_true, if_false, Nat.reduceEqDiff, Int.reduceEq, Nat.reduceAdd, Nat.reduceMul, reduceCtorEq, eq_self, Int.reduceLT, Int.reduceLE, Int.reduceToNat, List.length_cons, List.length_nil, List.all_cons, List.all_nil, List.take_zero, List.drop_nil, List.append_nil, List.getElem?_cons_zero, List.getElem?_cons_succ, List.drop_succ_cons, List.drop_zero, List.take_succ_cons, List.cons_append, Nat.reduceLeDiff, Int.cast_ofNat_Int, hlt, h1, h2, h3, h4, hne, hw2]
      rw [w_enter]
      simp only [WA, isStore, isCall, isK, freshI, stampO, List.nil_append, Option.map_some, Option.map_none, Option.bind_some, List.map_cons, List.map_nil, if_true, if_false, Nat.reduceEqDiff, Int.reduceEq, Nat.reduceAdd, Nat.reduceMul, reduceCtorEq, eq_self, Int.reduceLT, Int.reduceLE, Int.reduceToNat, List.length_cons, List.length_nil, List.all_cons, List.all_nil, List.take_zero, List.drop_nil, List.append_nil, List.getElem?_cons_zero, List.getElem?_cons_succ, List.drop_succ_cons, List.drop_zero, List.take_succ_cons, List.cons_append, Nat.reduceLeDiff, Int.cast_ofNat_Int, r1]
      refine ⟨r2, ?_⟩
      simpa using r3
    · have hne : (x ≠ y) = True := by simp [hxy]
      simp only [WA, isStore, isCall, isK, freshI, stampO, List.nil_append, Option.map_some, Option.map_none, Option.bind_some, List.map_cons, List.map_nil, if_true, if_false, Nat.reduceEqDiff, Int.reduceEq, Nat.reduceAdd, Nat.reduceMul, reduceCtorEq, eq_self, Int.reduceLT, Int.reduceLE, Int.reduceToNat, List.length_cons, List.length_nil, List.all_cons, List.all_nil, List.take_zero, List.drop_nil, List.append_nil, List.getElem?_cons_zero, List.getElem?_cons_succ, List.drop_succ_cons, List.drop_zero, List.take_succ_cons, List.cons_append, Nat.reduceLeDiff, Int.cast_ofNat_Int, hlt, h1, h2, h3, h4, hne]
      simp [hxy]
theorem c_Units {a b : Value} {la lb : List Int} {H : AHeap} (ha : Ints H a la) (hb : Ints H b lb) (hs : la.length < 4611686018427387904) : cw Try.prog (tabF tab) om1 11 [a, b] H = some (.bool (decide (la = lb)), H) := by
  rw [cw_run (F := F_lontarlaw01_Units) rfl rfl rfl]
  unfold F_lontarlaw01_Units k_lontarlaw01_Units
  by_cases hl : la.length = lb.length
  · obtain ⟨x, e', H', r1, rfl, r3⟩ := l_Units ha hb hl hs la.length 0 (by omega)
    have hne : (((la.length : Nat) : Int) ≠ ((lb.length : Nat) : Int)) = False := by simp [hl]
    simp only [Int.cast_ofNat_Int] at r1
    simp only [WA, isStore, isCall, isK, freshI, stampO, List.nil_append, Option.map_some, Option.map_none, Option.bind_some, List.map_cons, List.map_nil, if_true, if_false, Nat.reduceEqDiff, Int.reduceEq, Nat.reduceAdd, Nat.reduceMul, reduceCtorEq, eq_self, Int.reduceLT, Int.reduceLE, Int.reduceToNat, List.length_cons, List.length_nil, List.all_cons, List.all_nil, List.take_zero, List.drop_nil, List.append_nil, List.getElem?_cons_zero, List.getElem?_cons_succ, List.drop_succ_cons, List.drop_zero, List.take_succ_cons, List.cons_append, Nat.reduceLeDiff, Int.cast_ofNat_Int, ha.len, hb.len, hne]
    rw [w_enter]
    simp only [WA, isStore, isCall, isK, freshI, stampO, List.nil_append, Option.map_some, Option.map_none, Option.bind_some, List.map_cons, List.map_nil, if_true, if_false, Nat.reduceEqDiff, Int.reduceEq, Nat.reduceAdd, Nat.reduceMul, reduceCtorEq, eq_self, Int.reduceLT, Int.reduceLE, Int.reduceToNat, List.length_cons, List.length_nil, List.all_cons, List.all_nil, List.take_zero, List.drop_nil, List.append_nil, List.getElem?_cons_zero, List.getElem?_cons_succ, List.drop_succ_cons, List.drop_zero, List.take_succ_cons, List.cons_append, Nat.reduceLeDiff, Int.cast_ofNat_Int, r1]
    simp only [List.drop_zero] at r3
    split at r3
    · rename_i h
      subst r3
      simp only [WA, isStore, isCall, isK, freshI, stampO, List.nil_append, Option.map_some, Option.map_none, Option.bind_some, List.map_cons, List.map_nil, if_true, if_false, Nat.reduceEqDiff, Int.reduceEq, Nat.reduceAdd, Nat.reduceMul, reduceCtorEq, eq_self, Int.reduceLT, Int.reduceLE, Int.reduceToNat, List.length_cons, List.length_nil, List.all_cons, List.all_nil, List.take_zero, List.drop_nil, List.append_nil, List.getElem?_cons_zero, List.getElem?_cons_succ, List.drop_succ_cons, List.drop_zero, List.take_succ_cons, List.cons_append, Nat.reduceLeDiff, Int.cast_ofNat_Int, h]
    · rename_i h
      obtain ⟨rfl, r4⟩ := r3
      simp only [WA, isStore, isCall, isK, freshI, stampO, List.nil_append, Option.map_some, Option.map_none, Option.bind_some, List.map_cons, List.map_nil, if_true, if_false, Nat.reduceEqDiff, Int.reduceEq, Nat.reduceAdd, Nat.reduceMul, reduceCtorEq, eq_self, Int.reduceLT, Int.reduceLE, Int.reduceToNat, List.length_cons, List.length_nil, List.all_cons, List.all_nil, List.take_zero, List.drop_nil, List.append_nil, List.getElem?_cons_zero, List.getElem?_cons_succ, List.drop_succ_cons, List.drop_zero, List.take_succ_cons, List.cons_append, Nat.reduceLeDiff, Int.cast_ofNat_Int, r4, h]
  · have hne : (((la.length : Nat) : Int) ≠ ((lb.length : Nat) : Int)) = True := by simp; omega
    have hab : ¬ la = lb := fun h => hl (by rw [h])
    simp only [WA, isStore, isCall, isK, freshI, stampO, List.nil_append, Option.map_some, Option.map_none, Option.bind_some, List.map_cons, List.map_nil, if_true, if_false, Nat.reduceEqDiff, Int.reduceEq, Nat.reduceAdd, Nat.reduceMul, reduceCtorEq, eq_self, Int.reduceLT, Int.reduceLE, Int.reduceToNat, List.length_cons, List.length_nil, List.all_cons, List.all_nil, List.take_zero, List.drop_nil, List.append_nil, List.getElem?_cons_zero, List.getElem?_cons_succ, List.drop_succ_cons, List.drop_zero, List.take_succ_cons, List.cons_append, Nat.reduceLeDiff, Int.cast_ofNat_Int, ha.len, hb.len, hne, hab]
end Go.Proofs.Ytfhchimfdlhmaaa

/-! Slices of units, rules. -/
set_option linter.unusedSimpArgs false
set_option linter.unusedVariables false
namespace Go.Proofs.Ytfhchimfdlhmaaa
open Go Lon
theorem l_Equal {a b : Value} {la lb : List Int} {H : AHeap} (ha : Ints H a la) (hb : Ints H b lb) (hl : la.length = lb.length) (hs : la.length < 4611686018427387904) : ∀ (k i : Nat), i + k = la.length →
    Out (run Try.prog (tabF tab) om1 (.loop [0, 1, 12, 13] b_slices_Equal___int_int__0) [(0, a), (1, b), (12, .int .i64 la.length), (13, .int .i64 i)] H) fun x e' H' => H' = H ∧
      if la.drop i = lb.drop i then x = .exit 0 else x = .ret ∧ eget e' 4 = .bool false := by
  intro k
  induction k with
  | zero =>
    intro i hi
    have hlt : ¬ ((i : Int) < la.length) := by omega
    rw [w_loop_b b_slices_Equal___int_int__0.eq_1, List.drop_of_length_le (by omega), List.drop_of_length_le (by omega)]
    simp only [WA, isStore, isCall, isK, freshI, stampO, List.nil_append, Option.map_some, Option.map_none, Option.bind_some, List.map_cons, List.map_nil, if_true, if_false, Nat.reduceEqDiff, Int.reduceEq, Nat.reduceAdd, Nat.reduceMul, reduceCtorEq, eq_self, Int.reduceLT, Int.reduceLE, Int.reduceToNat, List.length_cons, List.length_nil, List.all_cons, List.all_nil, List.take_zero, List.drop_nil, List.append_nil, List.getElem?_cons_zero, List.getElem?_cons_succ, List.drop_succ_cons, List.drop_zero, List.take_succ_cons, List.cons_append, Nat.reduceLeDiff, Int.cast_ofNat_Int, hlt]
  | succ k ih =>
    intro i hi
    have hlt : (i : Int) < la.length := by omega
    obtain ⟨x, hx, hdx⟩ := drop_at (L := la) (i := i) (by omega)
    obtain ⟨y, hy, hdy⟩ := drop_at (L := lb) (i := i) (by omega)
    obtain ⟨i1, o1, h1, h2⟩ := ha.at hx
    obtain ⟨i2, o2, h3, h4⟩ := hb.at hy
    have hw2 : IntKind.i64.wrap ((i : Int) + 1) = ((i + 1 : Nat) : Int) := by rw [wrap64 (by omega) (by omega)]; omega
    rw [w_loop_b b_slices_Equal___int_int__0.eq_1, hdx, hdy]
    by_cases hxy : x = y
    · subst hxy
      obtain ⟨z, e', H', r1, r2, r3⟩ := ih (i + 1) (by omega)
      have hne : (x ≠ x) = False := by simp
      simp only [WA, isStore, isCall, isK, freshI, stampO, List.nil_append, Option.map_some, Option.map_none, Option.bind_some, List.map_cons, List.map_nil, if_true, if_false, Nat.reduceEqDiff, Int.reduceEq, Nat.reduceAdd, Nat.reduceMul, reduceCtorEq, eq_self, Int.reduceLT, Int.reduceLE, Int.reduceToNat, List.length_cons, List.length_nil, List.all_cons, List.all_nil, List.take_zero, List.drop_nil, List.append_nil, List.getElem?_cons_zero, List.getElem?_cons_succ, List.drop_succ_cons, List.drop_zero, List.take_succ_cons, List.cons_append, Nat.reduceLeDiff, Int.cast_ofNat_Int, hlt, h1, h2, h3, h4, hne, hw2]
      rw [w_enter]
      simp only [WA, isStore, isCall, isK, freshI, stampO, List.nil_append, Option.map_some, Option.map_none, Option.bind_some, List.map_cons, List.map_nil, if_true, if_false, Nat.reduceEqDiff, Int.reduceEq, Nat.reduceAdd, Nat.reduceMul, reduceCtorEq, eq_self, Int.reduceLT, Int.reduceLE, Int.reduceToNat, List.length_cons, List.length_nil, List.all_cons, List.all_nil, List.take_zero, List.drop_nil, List.append_nil, List.getElem?_cons_zero, List.getElem?_cons_succ, List.drop_succ_cons, List.drop_zero, List.take_succ_cons, List.cons_append, Nat.reduceLeDiff, Int.cast_ofNat_Int, r1]
      refine ⟨r2, ?_⟩
      simpa using r3
    · have hne : (x ≠ y) = True := by simp [hxy]
      simp only [WA, isStore, isCall, isK, freshI, stampO, List.nil_append, Option.map_some, Option.map_none, Option.bind_some, List.map_cons, List.map_nil, if_true, if_false, Nat.reduceEqDiff, Int.reduceEq, Nat.reduceAdd, Nat.reduceMul, reduceCtorEq, eq_self, Int.reduceLT, Int.reduceLE, Int.reduceToNat, List.length_cons, List.length_nil, List.all_cons, List.all_nil, List.take_zero, List.drop_nil, List.append_nil, List.getElem?_cons_zero, List.getElem?_cons_succ, List.drop_succ_cons, List.drop_zero, List.take_succ_cons, List.cons_append, Nat.reduceLeDiff, Int.cast_ofNat_Int, hlt, h1, h2, h3, h4, hne]
      simp [hxy]
theorem c_Equal {a b : Value} {la lb : List Int} {H : AHeap} (ha : Ints H a la) (hb : Ints H b lb) (hs : la.length < 4611686018427387904) : cw Try.prog (tabF tab) om1 36 [a, b] H = some (.bool (decide (la = lb)), H) := by
  rw [cw_run (F := F_slices_Equal___int_int_) rfl rfl rfl]
  unfold F_slices_Equal___int_int_ k_slices_Equal___int_int_
  by_cases hl : la.length = lb.length
  · obtain ⟨x, e', H', r1, rfl, r3⟩ := l_Equal ha hb hl hs la.length 0 (by omega)
    have hne : (((la.length : Nat) : Int) ≠ ((lb.length : Nat) : Int)) = False := by simp [hl]
    simp only [Int.cast_ofNat_Int] at r1
    simp only [WA, isStore, isCall, isK, freshI, stampO, List.nil_append, Option.map_some, Option.map_none, Option.bind_some, List.map_cons, List.map_nil, if_true, if_false, Nat.reduceEqDiff, Int.reduceEq, Nat.reduceAdd, Nat.reduceMul, reduceCtorEq, eq_self, Int.reduceLT, Int.reduceLE, Int.reduceToNat, List.length_cons, List.length_nil, List.all_cons, List.all_nil, List.take_zero, List.drop_nil, List.append_nil, List.getElem?_cons_zero, List.getElem?_cons_succ, List.drop_succ_cons, List.drop_zero, List.take_succ_cons, List.cons_append, Nat.reduceLeDiff, Int.cast_ofNat_Int, ha.len, hb.len, hne]
    rw [w_enter]
    simp only [WA, isStore, isCall, isK, freshI, stampO, List.nil_append, Option.map_some, Option.map_none, Option.bind_some, List.map_cons, List.map_nil, if_true, if_false, Nat.reduceEqDiff, Int.reduceEq, Nat.reduceAdd, Nat.reduceMul, reduceCtorEq, eq_self, Int.reduceLT, Int.reduceLE, Int.reduceToNat, List.length_cons, List.length_nil, List.all_cons, List.all_nil, List.take_zero, List.drop_nil, List.append_nil, List.getElem?_cons_zero, List.getElem?_cons_succ, List.drop_succ_cons, List.drop_zero, List.take_succ_cons, List.cons_append, Nat.reduceLeDiff, Int.cast_ofNat_Int, r1]
    simp only [List.drop_zero] at r3
    split at r3
    · rename_i h
      subst r3
      simp only [WA, isStore, isCall, isK, freshI, stampO, List.nil_append, Option.map_some, Option.map_none, Option.bind_some, List.map_cons, List.map_nil, if_true, if_false, Nat.reduceEqDiff, Int.reduceEq, Nat.reduceAdd, Nat.reduceMul, reduceCtorEq, eq_self, Int.reduceLT, Int.reduceLE, Int.reduceToNat, List.length_cons, List.length_nil, List.all_cons, List.all_nil, List.take_zero, List.drop_nil, List.append_nil, List.getElem?_cons_zero, List.getElem?_cons_succ, List.drop_succ_cons, List.drop_zero, List.take_succ_cons, List.cons_append, Nat.reduceLeDiff, Int.cast_ofNat_Int, h]
    · rename_i h
      obtain ⟨rfl, r4⟩ := r3
      simp only [WA, isStore, isCall, isK, freshI, stampO, List.nil_append, Option.map_some, Option.map_none, Option.bind_some, List.map_cons, List.map_nil, if_true, if_false, Nat.reduceEqDiff, Int.reduceEq, Nat.reduceAdd, Nat.reduceMul, reduceCtorEq, eq_self, Int.reduceLT, Int.reduceLE, Int.reduceToNat, List.length_cons, List.length_nil, List.all_cons, List.all_nil, List.take_zero, List.drop_nil, List.append_nil, List.getElem?_cons_zero, List.getElem?_cons_succ, List.drop_succ_cons, List.drop_zero, List.take_succ_cons, List.cons_append, Nat.reduceLeDiff, Int.cast_ofNat_Int, r4, h]
  · have hne : (((la.length : Nat) : Int) ≠ ((lb.length : Nat) : Int)) = True := by simp; omega
    have hab : ¬ la = lb := fun h => hl (by rw [h])
    simp only [WA, isStore, isCall, isK, freshI, stampO, List.nil_append, Option.map_some, Option.map_none, Option.bind_some, List.map_cons, List.map_nil, if_true, if_false, Nat.reduceEqDiff, Int.reduceEq, Nat.reduceAdd, Nat.reduceMul, reduceCtorEq, eq_self, Int.reduceLT, Int.reduceLE, Int.reduceToNat, List.length_cons, List.length_nil, List.all_cons, List.all_nil, List.take_zero, List.drop_nil, List.append_nil, List.getElem?_cons_zero, List.getElem?_cons_succ, List.drop_succ_cons, List.drop_zero, List.take_succ_cons, List.cons_append, Nat.reduceLeDiff, Int.cast_ofNat_Int, ha.len, hb.len, hne, hab]
end Go.Proofs.Ytfhchimfdlhmaaa

/-! Sides of rules. -/
set_option linter.unusedSimpArgs false
set_option linter.unusedVariables false
namespace Go.Proofs.Ytfhchimfdlhmaaa
open Go Lon
def bad (u : Int) : Prop := u < 0 ∨ u > 1114111
instance (u : Int) : Decidable (bad u) := by unfold bad; infer_instance
/-- The first unit that may not be, from place i on. -/
def bdx : List Int → Nat → Option Nat
  | [], _ => none
  | u :: l, i => if bad u then some i else bdx l (i + 1)
theorem bdx_ge : ∀ {l : List Int} {i j : Nat}, bdx l i = some j → i ≤ j ∧ j < i + l.length
  | [], i, j, h => by cases h
  | u :: l, i, j, h => by
    unfold bdx at h
    split at h
    · injection h with h; subst h; simp
    · have := bdx_ge h; simp; omega
def sideB (l : List Int) : Bool := decide (0 < l.length) && decide (l.length ≤ 8) && (bdx l 0).isNone
theorem c_side1 {u : Int} (H : AHeap) : cw Try.prog (tabF tab) om1 42 [.int .i64 u] H = some (.bool (decide (bad u)), H) := by
  rw [cw_run (F := F_rule_side_1) rfl rfl rfl]
  unfold F_rule_side_1 k_rule_side_1
  by_cases h1 : u < 0
  · have hb : bad u := .inl h1
    simp only [WA, isStore, isCall, isK, freshI, stampO, List.nil_append, Option.map_some, Option.map_none, Option.bind_some, List.map_cons, List.map_nil, if_true, if_false, Nat.reduceEqDiff, Int.reduceEq, Nat.reduceAdd, Nat.reduceMul, reduceCtorEq, eq_self, Int.reduceLT, Int.reduceLE, Int.reduceToNat, List.length_cons, List.length_nil, List.all_cons, List.all_nil, List.take_zero, List.drop_nil, List.append_nil, List.getElem?_cons_zero, List.getElem?_cons_succ, List.drop_succ_cons, List.drop_zero, List.take_succ_cons, List.cons_append, Nat.reduceLeDiff, Int.cast_ofNat_Int, h1, hb]
  · by_cases h2 : u > 1114111
    · have hb : bad u := .inr h2
      simp only [WA, isStore, isCall, isK, freshI, stampO, List.nil_append, Option.map_some, Option.map_none, Option.bind_some, List.map_cons, List.map_nil, if_true, if_false, Nat.reduceEqDiff, Int.reduceEq, Nat.reduceAdd, Nat.reduceMul, reduceCtorEq, eq_self, Int.reduceLT, Int.reduceLE, Int.reduceToNat, List.length_cons, List.length_nil, List.all_cons, List.all_nil, List.take_zero, List.drop_nil, List.append_nil, List.getElem?_cons_zero, List.getElem?_cons_succ, List.drop_succ_cons, List.drop_zero, List.take_succ_cons, List.cons_append, Nat.reduceLeDiff, Int.cast_ofNat_Int, h1, h2, hb]
    · have hb : ¬ bad u := fun h => by rcases h with h | h; exact h1 h; exact h2 h
      simp only [WA, isStore, isCall, isK, freshI, stampO, List.nil_append, Option.map_some, Option.map_none, Option.bind_some, List.map_cons, List.map_nil, if_true, if_false, Nat.reduceEqDiff, Int.reduceEq, Nat.reduceAdd, Nat.reduceMul, reduceCtorEq, eq_self, Int.reduceLT, Int.reduceLE, Int.reduceToNat, List.length_cons, List.length_nil, List.all_cons, List.all_nil, List.take_zero, List.drop_nil, List.append_nil, List.getElem?_cons_zero, List.getElem?_cons_succ, List.drop_succ_cons, List.drop_zero, List.take_succ_cons, List.cons_append, Nat.reduceLeDiff, Int.cast_ofNat_Int, h1, h2, hb]
theorem l_IdxI {a : Value} {l : List Int} {H : AHeap} (ha : Ints H a l) (hs : tiny l) : ∀ (k i : Nat), i + k = l.length →
    Out (run Try.prog (tabF tab) om1 (.loop [0, 1, 7, 8] b_slices_IndexFunc___int_int__0) [(0, a), (1, .func (.func 42) ⟨[]⟩ ⟨[]⟩), (7, .int .i64 l.length), (8, .int .i64 i)] H) fun x e' H' => H' = H ∧
      match bdx (l.drop i) i with | some j => x = .ret ∧ eget e' 4 = .int .i64 j | none => x = .exit 0 := by
  intro k
  have ht := hs
  unfold tiny at ht
  induction k with
  | zero =>
    intro i hi
    have hlt : ¬ ((i : Int) < l.length) := by omega
    rw [w_loop_b b_slices_IndexFunc___int_int__0.eq_1, List.drop_of_length_le (by omega)]
    simp only [WA, isStore, isCall, isK, freshI, stampO, List.nil_append, Option.map_some, Option.map_none, Option.bind_some, List.map_cons, List.map_nil, if_true, if_false, Nat.reduceEqDiff, Int.reduceEq, Nat.reduceAdd, Nat.reduceMul, reduceCtorEq, eq_self, Int.reduceLT, Int.reduceLE, Int.reduceToNat, List.length_cons, List.length_nil, List.all_cons, List.all_nil, List.take_zero, List.drop_nil, List.append_nil, List.getElem?_cons_zero, List.getElem?_cons_succ, List.drop_succ_cons, List.drop_zero, List.take_succ_cons, List.cons_append, Nat.reduceLeDiff, Int.cast_ofNat_Int, hlt, bdx]
  | succ k ih =>
    intro i hi
    have hlt : (i : Int) < l.length := by omega
    obtain ⟨x, hx, hdx⟩ := drop_at (L := l) (i := i) (by omega)
    obtain ⟨i1, o1, h1, h2⟩ := ha.at hx
    have hw2 : IntKind.i64.wrap ((i : Int) + 1) = ((i + 1 : Nat) : Int) := by rw [wrap64 (by omega) (by omega)]; omega
    rw [w_loop_b b_slices_IndexFunc___int_int__0.eq_1, hdx]
    unfold bdx
    by_cases hb : bad x
    · simp only [WA, isStore, isCall, isK, freshI, stampO, List.nil_append, Option.map_some, Option.map_none, Option.bind_some, List.map_cons, List.map_nil, if_true, if_false, Nat.reduceEqDiff, Int.reduceEq, Nat.reduceAdd, Nat.reduceMul, reduceCtorEq, eq_self, Int.reduceLT, Int.reduceLE, Int.reduceToNat, List.length_cons, List.length_nil, List.all_cons, List.all_nil, List.take_zero, List.drop_nil, List.append_nil, List.getElem?_cons_zero, List.getElem?_cons_succ, List.drop_succ_cons, List.drop_zero, List.take_succ_cons, List.cons_append, Nat.reduceLeDiff, Int.cast_ofNat_Int, hlt, h1, h2, c_side1, hb]
    · obtain ⟨z, e', H', r1, r2, r3⟩ := ih (i + 1) (by omega)
      simp only [WA, isStore, isCall, isK, freshI, stampO, List.nil_append, Option.map_some, Option.map_none, Option.bind_some, List.map_cons, List.map_nil, if_true, if_false, Nat.reduceEqDiff, Int.reduceEq, Nat.reduceAdd, Nat.reduceMul, reduceCtorEq, eq_self, Int.reduceLT, Int.reduceLE, Int.reduceToNat, List.length_cons, List.length_nil, List.all_cons, List.all_nil, List.take_zero, List.drop_nil, List.append_nil, List.getElem?_cons_zero, List.getElem?_cons_succ, List.drop_succ_cons, List.drop_zero, List.take_succ_cons, List.cons_append, Nat.reduceLeDiff, Int.cast_ofNat_Int, hlt, h1, h2, c_side1, hb, hw2]
      rw [w_enter]
      simp only [WA, isStore, isCall, isK, freshI, stampO, List.nil_append, Option.map_some, Option.map_none, Option.bind_some, List.map_cons, List.map_nil, if_true, if_false, Nat.reduceEqDiff, Int.reduceEq, Nat.reduceAdd, Nat.reduceMul, reduceCtorEq, eq_self, Int.reduceLT, Int.reduceLE, Int.reduceToNat, List.length_cons, List.length_nil, List.all_cons, List.all_nil, List.take_zero, List.drop_nil, List.append_nil, List.getElem?_cons_zero, List.getElem?_cons_succ, List.drop_succ_cons, List.drop_zero, List.take_succ_cons, List.cons_append, Nat.reduceLeDiff, Int.cast_ofNat_Int, r1]
      exact ⟨r2, r3⟩
theorem c_IdxI {a : Value} {l : List Int} {H : AHeap} (ha : Ints H a l) (hs : tiny l) : cw Try.prog (tabF tab) om1 45 [a, .func (.func 42) ⟨[]⟩ ⟨[]⟩] H = some (.int .i64 (match bdx l 0 with | some j => (j : Int) | none => -1), H) := by
  rw [cw_run (F := F_slices_IndexFunc___int_int_) rfl rfl rfl]
  unfold F_slices_IndexFunc___int_int_ k_slices_IndexFunc___int_int_
  obtain ⟨x, e', H', r1, rfl, r3⟩ := l_IdxI ha hs l.length 0 (by omega)
  simp only [Int.cast_ofNat_Int] at r1
  simp only [WA, isStore, isCall, isK, freshI, stampO, List.nil_append, Option.map_some, Option.map_none, Option.bind_some, List.map_cons, List.map_nil, if_true, if_false, Nat.reduceEqDiff, Int.reduceEq, Nat.reduceAdd, Nat.reduceMul, reduceCtorEq, eq_self, Int.reduceLT, Int.reduceLE, Int.reduceToNat, List.length_cons, List.length_nil, List.all_cons, List.all_nil, List.take_zero, List.drop_nil, List.append_nil, List.getElem?_cons_zero, List.getElem?_cons_succ, List.drop_succ_cons, List.drop_zero, List.take_succ_cons, List.cons_append, Nat.reduceLeDiff, Int.cast_ofNat_Int, ha.len]
  rw [w_enter]
  simp only [WA, isStore, isCall, isK, freshI, stampO, List.nil_append, Option.map_some, Option.map_none, Option.bind_some, List.map_cons, List.map_nil, if_true, if_false, Nat.reduceEqDiff, Int.reduceEq, Nat.reduceAdd, Nat.reduceMul, reduceCtorEq, eq_self, Int.reduceLT, Int.reduceLE, Int.reduceToNat, List.length_cons, List.length_nil, List.all_cons, List.all_nil, List.take_zero, List.drop_nil, List.append_nil, List.getElem?_cons_zero, List.getElem?_cons_succ, List.drop_succ_cons, List.drop_zero, List.take_succ_cons, List.cons_append, Nat.reduceLeDiff, Int.cast_ofNat_Int, r1]
  rw [List.drop_zero] at r3
  cases hb : bdx l 0 with
  | none =>
    rw [hb] at r3
    subst r3
    simp only [WA, isStore, isCall, isK, freshI, stampO, List.nil_append, Option.map_some, Option.map_none, Option.bind_some, List.map_cons, List.map_nil, if_true, if_false, Nat.reduceEqDiff, Int.reduceEq, Nat.reduceAdd, Nat.reduceMul, reduceCtorEq, eq_self, Int.reduceLT, Int.reduceLE, Int.reduceToNat, List.length_cons, List.length_nil, List.all_cons, List.all_nil, List.take_zero, List.drop_nil, List.append_nil, List.getElem?_cons_zero, List.getElem?_cons_succ, List.drop_succ_cons, List.drop_zero, List.take_succ_cons, List.cons_append, Nat.reduceLeDiff, Int.cast_ofNat_Int]
  | some j =>
    rw [hb] at r3
    obtain ⟨rfl, r4⟩ := r3
    simp only [WA, isStore, isCall, isK, freshI, stampO, List.nil_append, Option.map_some, Option.map_none, Option.bind_some, List.map_cons, List.map_nil, if_true, if_false, Nat.reduceEqDiff, Int.reduceEq, Nat.reduceAdd, Nat.reduceMul, reduceCtorEq, eq_self, Int.reduceLT, Int.reduceLE, Int.reduceToNat, List.length_cons, List.length_nil, List.all_cons, List.all_nil, List.take_zero, List.drop_nil, List.append_nil, List.getElem?_cons_zero, List.getElem?_cons_succ, List.drop_succ_cons, List.drop_zero, List.take_succ_cons, List.cons_append, Nat.reduceLeDiff, Int.cast_ofNat_Int, r4]
theorem c_Contains {a : Value} {l : List Int} {H : AHeap} (ha : Ints H a l) (hs : tiny l) : cw Try.prog (tabF tab) om1 41 [a, .func (.func 42) ⟨[]⟩ ⟨[]⟩] H = some (.bool (bdx l 0).isSome, H) := by
  rw [cw_run (F := F_slices_ContainsFunc___int_int_) rfl rfl rfl]
  unfold F_slices_ContainsFunc___int_int_ k_slices_ContainsFunc___int_int_
  have c := c_IdxI ha hs
  cases hb : bdx l 0 with
  | none =>
    rw [hb] at c
    have h0 : ¬ (-1 : Int) ≥ 0 := by decide
    simp only [WA, isStore, isCall, isK, freshI, stampO, List.nil_append, Option.map_some, Option.map_none, Option.bind_some, List.map_cons, List.map_nil, if_true, if_false, Nat.reduceEqDiff, Int.reduceEq, Nat.reduceAdd, Nat.reduceMul, reduceCtorEq, eq_self, Int.reduceLT, Int.reduceLE, Int.reduceToNat, List.length_cons, List.length_nil, List.all_cons, List.all_nil, List.take_zero, List.drop_nil, List.append_nil, List.getElem?_cons_zero, List.getElem?_cons_succ, List.drop_succ_cons, List.drop_zero, List.take_succ_cons, List.cons_append, Nat.reduceLeDiff, Int.cast_ofNat_Int, c, h0, Option.isSome_none]
  | some j =>
    rw [hb] at c
    have h0 : (j : Int) ≥ 0 := by omega
    simp only [WA, isStore, isCall, isK, freshI, stampO, List.nil_append, Option.map_some, Option.map_none, Option.bind_some, List.map_cons, List.map_nil, if_true, if_false, Nat.reduceEqDiff, Int.reduceEq, Nat.reduceAdd, Nat.reduceMul, reduceCtorEq, eq_self, Int.reduceLT, Int.reduceLE, Int.reduceToNat, List.length_cons, List.length_nil, List.all_cons, List.all_nil, List.take_zero, List.drop_nil, List.append_nil, List.getElem?_cons_zero, List.getElem?_cons_succ, List.drop_succ_cons, List.drop_zero, List.take_succ_cons, List.cons_append, Nat.reduceLeDiff, Int.cast_ofNat_Int, c, h0, Option.isSome_some]
theorem c_side {a : Value} {l : List Int} {H : AHeap} (ha : Ints H a l) (hs : tiny l) : cw Try.prog (tabF tab) om1 32 [a] H = some (.bool (sideB l), H) := by
  rw [cw_run (F := F_rule_side) rfl rfl rfl]
  unfold F_rule_side k_rule_side sideB
  have c := c_Contains ha hs
  by_cases h1 : 0 < l.length
  · have h1' : (l.length : Int) > 0 := by omega
    by_cases h2 : l.length ≤ 8
    · have h2' : (l.length : Int) ≤ 8 := by omega
      simp only [WA, isStore, isCall, isK, freshI, stampO, List.nil_append, Option.map_some, Option.map_none, Option.bind_some, List.map_cons, List.map_nil, if_true, if_false, Nat.reduceEqDiff, Int.reduceEq, Nat.reduceAdd, Nat.reduceMul, reduceCtorEq, eq_self, Int.reduceLT, Int.reduceLE, Int.reduceToNat, List.length_cons, List.length_nil, List.all_cons, List.all_nil, List.take_zero, List.drop_nil, List.append_nil, List.getElem?_cons_zero, List.getElem?_cons_succ, List.drop_succ_cons, List.drop_zero, List.take_succ_cons, List.cons_append, Nat.reduceLeDiff, Int.cast_ofNat_Int, ha.len, h1, h2, h1', h2', c]
      cases bdx l 0 <;> rfl
    · have h2' : ¬ (l.length : Int) ≤ 8 := by omega
      simp only [WA, isStore, isCall, isK, freshI, stampO, List.nil_append, Option.map_some, Option.map_none, Option.bind_some, List.map_cons, List.map_nil, if_true, if_false, Nat.reduceEqDiff, Int.reduceEq, Nat.reduceAdd, Nat.reduceMul, reduceCtorEq, eq_self, Int.reduceLT, Int.reduceLE, Int.reduceToNat, List.length_cons, List.length_nil, List.all_cons, List.all_nil, List.take_zero, List.drop_nil, List.append_nil, List.getElem?_cons_zero, List.getElem?_cons_succ, List.drop_succ_cons, List.drop_zero, List.take_succ_cons, List.cons_append, Nat.reduceLeDiff, Int.cast_ofNat_Int, ha.len, h1, h2, h1', h2', c, Bool.and_false, Bool.false_and]
  · have h1' : ¬ (l.length : Int) > 0 := by omega
    simp only [WA, isStore, isCall, isK, freshI, stampO, List.nil_append, Option.map_some, Option.map_none, Option.bind_some, List.map_cons, List.map_nil, if_true, if_false, Nat.reduceEqDiff, Int.reduceEq, Nat.reduceAdd, Nat.reduceMul, reduceCtorEq, eq_self, Int.reduceLT, Int.reduceLE, Int.reduceToNat, List.length_cons, List.length_nil, List.all_cons, List.all_nil, List.take_zero, List.drop_nil, List.append_nil, List.getElem?_cons_zero, List.getElem?_cons_succ, List.drop_succ_cons, List.drop_zero, List.take_succ_cons, List.cons_append, Nat.reduceLeDiff, Int.cast_ofNat_Int, ha.len, h1, h1', c, Bool.and_false, Bool.false_and]
end Go.Proofs.Ytfhchimfdlhmaaa

/-! Where a rule is. -/
set_option linter.unusedSimpArgs false
set_option linter.unusedVariables false
namespace Go.Proofs.Ytfhchimfdlhmaaa
open Go Lon
/-- The first rule of these units, from place i on. -/
def fdx (x : List Int) : List Rl → Nat → Option Nat
  | [], _ => none
  | r :: L, i => if r.1 = x then some i else fdx x L (i + 1)
theorem fdx_ge {x : List Int} : ∀ {L : List Rl} {i j : Nat}, fdx x L i = some j → i ≤ j ∧ j < i + L.length
  | [], i, j, h => by cases h
  | u :: l, i, j, h => by
    unfold fdx at h
    split at h
    · injection h with h; subst h; simp
    · have := fdx_ge h; simp; omega
def fnd (L : List Rl) (x : List Int) : Int := match fdx x L 0 with | some k => (k : Int) | none => -1
theorem c_Find1 {ai ao : Option Addr} {ni ci no co q : Nat} {b : Value} {li x : List Int} {H : AHeap} (hi : Ints H (.slice ai ni ci) li) (hb : Ints H b x) (hs : tiny li) (hq : H.get q = some ⟨[b], 30, .tip, 0, []⟩) :
    Gives (cw Try.prog (tabF tab) om1 35 [.agg ⟨[.slice ai ni ci, .slice ao no co]⟩, .pointer (some ⟨q, 0, none⟩)] H) fun v H' => Ext H H' ∧ v = .bool (decide (li = x)) := by
  rw [cw_run (F := F_rule_Find_1) rfl rfl rfl]
  unfold F_rule_Find_1 k_rule_Find_1
  have hx1 := Ext.push H ⟨[.slice ai ni ci, .slice ao no co], 46, .tip, 0, []⟩
  have hbx : vBox (.agg ⟨[.slice ai ni ci, .slice ao no co]⟩) 46 H = some (.pointer (some ⟨H.n, 0, none⟩), H.push ⟨[.slice ai ni ci, .slice ao no co], 46, .tip, 0, []⟩) := v_box rfl
  have hq2 := hx1.get hq
  have c := c_Equal (hi.ext hx1) (hb.ext hx1) hs
  simp only [WA, isStore, isCall, isK, freshI, stampO, List.nil_append, Option.map_some, Option.map_none, Option.bind_some, List.map_cons, List.map_nil, if_true, if_false, Nat.reduceEqDiff, Int.reduceEq, Nat.reduceAdd, Nat.reduceMul, reduceCtorEq, eq_self, Int.reduceLT, Int.reduceLE, Int.reduceToNat, List.length_cons, List.length_nil, List.all_cons, List.all_nil, List.take_zero, List.drop_nil, List.append_nil, List.getElem?_cons_zero, List.getElem?_cons_succ, List.drop_succ_cons, List.drop_zero, List.take_succ_cons, List.cons_append, Nat.reduceLeDiff, Int.cast_ofNat_Int, hbx, hq2, c]
  exact hx1
theorem l_IdxR {a b : Value} {q : Nat} {L : List Rl} {x : List Int} : ∀ (k i : Nat) (H : AHeap), i + k = L.length → Rules H a L → Ints H b x → H.get q = some ⟨[b], 30, .tip, 0, []⟩ →
    Out (run Try.prog (tabF tab) om1 (.loop [0, 1, 7, 8] b_api_Rule__0) [(0, a), (1, .func (.func 35) ⟨[]⟩ ⟨[.pointer (some ⟨q, 0, none⟩)]⟩), (7, .int .i64 L.length), (8, .int .i64 i)] H) fun y e' H' => Ext H H' ∧
      match fdx x (L.drop i) i with | some j => y = .ret ∧ eget e' 4 = .int .i64 j | none => y = .exit 0 := by
  intro k
  induction k with
  | zero =>
    intro i H hi ha hb hq
    have hlt : ¬ ((i : Int) < L.length) := by omega
    rw [w_loop_b b_api_Rule__0.eq_1, List.drop_of_length_le (by omega)]
    simp only [WA, isStore, isCall, isK, freshI, stampO, List.nil_append, Option.map_some, Option.map_none, Option.bind_some, List.map_cons, List.map_nil, if_true, if_false, Nat.reduceEqDiff, Int.reduceEq, Nat.reduceAdd, Nat.reduceMul, reduceCtorEq, eq_self, Int.reduceLT, Int.reduceLE, Int.reduceToNat, List.length_cons, List.length_nil, List.all_cons, List.all_nil, List.take_zero, List.drop_nil, List.append_nil, List.getElem?_cons_zero, List.getElem?_cons_succ, List.drop_succ_cons, List.drop_zero, List.take_succ_cons, List.cons_append, Nat.reduceLeDiff, Int.cast_ofNat_Int, hlt, fdx]
    exact Ext.refl _
  | succ k ih =>
    intro i H hi ha hb hq
    have hL := ha.1
    have hlt : (i : Int) < L.length := by omega
    obtain ⟨r, hr, hdr⟩ := drop_at (L := L) (i := i) (by omega)
    obtain ⟨i1, o1, vi, vo, h1, h2, h3, h4, h5, h6, h7, h8⟩ := ha.at hr
    have h5' := h5
    have h6' := h6
    obtain ⟨⟨ai, ci, rfl⟩, _⟩ := h5'
    obtain ⟨⟨ao, co, rfl⟩, _⟩ := h6'
    obtain ⟨v, H1, c1, c2, rfl⟩ := c_Find1 (ao := ao) (no := r.2.length) (co := co) h5 hb h7 hq
    have hw2 : IntKind.i64.wrap ((i : Int) + 1) = ((i + 1 : Nat) : Int) := by rw [wrap64 (by omega) (by omega)]; omega
    rw [w_loop_b b_api_Rule__0.eq_1, hdr]
    unfold fdx
    by_cases he : r.1 = x
    · simp only [he] at c1
      simp only [WA, isStore, isCall, isK, freshI, stampO, List.nil_append, Option.map_some, Option.map_none, Option.bind_some, List.map_cons, List.map_nil, if_true, if_false, Nat.reduceEqDiff, Int.reduceEq, Nat.reduceAdd, Nat.reduceMul, reduceCtorEq, eq_self, Int.reduceLT, Int.reduceLE, Int.reduceToNat, List.length_cons, List.length_nil, List.all_cons, List.all_nil, List.take_zero, List.drop_nil, List.append_nil, List.getElem?_cons_zero, List.getElem?_cons_succ, List.drop_succ_cons, List.drop_zero, List.take_succ_cons, List.cons_append, Nat.reduceLeDiff, Int.cast_ofNat_Int, hlt, h1, h4, v_call1, c1, he]
      exact c2
    · obtain ⟨z, e', H', r1, r2, r3⟩ := ih (i + 1) H1 (by omega) (ha.ext c2) (hb.ext c2) (c2.get hq)
      simp only [he] at c1
      simp only [WA, isStore, isCall, isK, freshI, stampO, List.nil_append, Option.map_some, Option.map_none, Option.bind_some, List.map_cons, List.map_nil, if_true, if_false, Nat.reduceEqDiff, Int.reduceEq, Nat.reduceAdd, Nat.reduceMul, reduceCtorEq, eq_self, Int.reduceLT, Int.reduceLE, Int.reduceToNat, List.length_cons, List.length_nil, List.all_cons, List.all_nil, List.take_zero, List.drop_nil, List.append_nil, List.getElem?_cons_zero, List.getElem?_cons_succ, List.drop_succ_cons, List.drop_zero, List.take_succ_cons, List.cons_append, Nat.reduceLeDiff, Int.cast_ofNat_Int, hlt, h1, h4, v_call1, c1, he, hw2]
      rw [w_enter]
      simp only [WA, isStore, isCall, isK, freshI, stampO, List.nil_append, Option.map_some, Option.map_none, Option.bind_some, List.map_cons, List.map_nil, if_true, if_false, Nat.reduceEqDiff, Int.reduceEq, Nat.reduceAdd, Nat.reduceMul, reduceCtorEq, eq_self, Int.reduceLT, Int.reduceLE, Int.reduceToNat, List.length_cons, List.length_nil, List.all_cons, List.all_nil, List.take_zero, List.drop_nil, List.append_nil, List.getElem?_cons_zero, List.getElem?_cons_succ, List.drop_succ_cons, List.drop_zero, List.take_succ_cons, List.cons_append, Nat.reduceLeDiff, Int.cast_ofNat_Int, r1]
      exact ⟨c2.trans r2, r3⟩
theorem c_Find {a b : Value} {L : List Rl} {x : List Int} {H : AHeap} (ha : Rules H a L) (hb : Ints H b x) : Gives (cw Try.prog (tabF tab) om1 20 [a, b] H) fun v H' => Ext H H' ∧ v = .int .i64 (fnd L x) := by
  rw [cw_run (F := F_rule_Find) rfl rfl rfl]
  unfold F_rule_Find k_rule_Find
  have hb' := hb
  obtain ⟨⟨ab, cb, rfl⟩, _⟩ := hb'
  have hbx : vBox (.slice ab x.length cb) 30 H = some (.pointer (some ⟨H.n, 0, none⟩), H.push ⟨[.slice ab x.length cb], 30, .tip, 0, []⟩) := v_box rfl
  have hx1 := Ext.push H ⟨[.slice ab x.length cb], 30, .tip, 0, []⟩
  have inner : Gives (cw Try.prog (tabF tab) om1 34 [a, .func (.func 35) ⟨[]⟩ ⟨[.pointer (some ⟨H.n, 0, none⟩)]⟩] (H.push ⟨[.slice ab x.length cb], 30, .tip, 0, []⟩)) fun v H' => Ext (H.push ⟨[.slice ab x.length cb], 30, .tip, 0, []⟩) H' ∧ v = .int .i64 (fnd L x) := by
    rw [cw_run (F := F_api_Rule_) rfl rfl rfl]
    unfold F_api_Rule_ k_api_Rule_
    obtain ⟨y, e', H', r1, r2, r3⟩ := l_IdxR L.length 0 _ (by omega) (ha.ext hx1) (hb.ext hx1) get_push_self
    simp only [Int.cast_ofNat_Int] at r1
    simp only [WA, isStore, isCall, isK, freshI, stampO, List.nil_append, Option.map_some, Option.map_none, Option.bind_some, List.map_cons, List.map_nil, if_true, if_false, Nat.reduceEqDiff, Int.reduceEq, Nat.reduceAdd, Nat.reduceMul, reduceCtorEq, eq_self, Int.reduceLT, Int.reduceLE, Int.reduceToNat, List.length_cons, List.length_nil, List.all_cons, List.all_nil, List.take_zero, List.drop_nil, List.append_nil, List.getElem?_cons_zero, List.getElem?_cons_succ, List.drop_succ_cons, List.drop_zero, List.take_succ_cons, List.cons_append, Nat.reduceLeDiff, Int.cast_ofNat_Int, ha.len]
    rw [w_enter]
    simp only [WA, isStore, isCall, isK, freshI, stampO, List.nil_append, Option.map_some, Option.map_none, Option.bind_some, List.map_cons, List.map_nil, if_true, if_false, Nat.reduceEqDiff, Int.reduceEq, Nat.reduceAdd, Nat.reduceMul, reduceCtorEq, eq_self, Int.reduceLT, Int.reduceLE, Int.reduceToNat, List.length_cons, List.length_nil, List.all_cons, List.all_nil, List.take_zero, List.drop_nil, List.append_nil, List.getElem?_cons_zero, List.getElem?_cons_succ, List.drop_succ_cons, List.drop_zero, List.take_succ_cons, List.cons_append, Nat.reduceLeDiff, Int.cast_ofNat_Int, r1]
    rw [List.drop_zero] at r3
    unfold fnd
    cases hf : fdx x L 0 with
    | none =>
      rw [hf] at r3
      subst r3
      simp only [WA, isStore, isCall, isK, freshI, stampO, List.nil_append, Option.map_some, Option.map_none, Option.bind_some, List.map_cons, List.map_nil, if_true, if_false, Nat.reduceEqDiff, Int.reduceEq, Nat.reduceAdd, Nat.reduceMul, reduceCtorEq, eq_self, Int.reduceLT, Int.reduceLE, Int.reduceToNat, List.length_cons, List.length_nil, List.all_cons, List.all_nil, List.take_zero, List.drop_nil, List.append_nil, List.getElem?_cons_zero, List.getElem?_cons_succ, List.drop_succ_cons, List.drop_zero, List.take_succ_cons, List.cons_append, Nat.reduceLeDiff, Int.cast_ofNat_Int]
      exact r2
    | some j =>
      rw [hf] at r3
      obtain ⟨rfl, r4⟩ := r3
      simp only [WA, isStore, isCall, isK, freshI, stampO, List.nil_append, Option.map_some, Option.map_none, Option.bind_some, List.map_cons, List.map_nil, if_true, if_false, Nat.reduceEqDiff, Int.reduceEq, Nat.reduceAdd, Nat.reduceMul, reduceCtorEq, eq_self, Int.reduceLT, Int.reduceLE, Int.reduceToNat, List.length_cons, List.length_nil, List.all_cons, List.all_nil, List.take_zero, List.drop_nil, List.append_nil, List.getElem?_cons_zero, List.getElem?_cons_succ, List.drop_succ_cons, List.drop_zero, List.take_succ_cons, List.cons_append, Nat.reduceLeDiff, Int.cast_ofNat_Int, r4]
      exact r2
  obtain ⟨v, H', c1, c2, rfl⟩ := inner
  simp only [WA, isStore, isCall, isK, freshI, stampO, List.nil_append, Option.map_some, Option.map_none, Option.bind_some, List.map_cons, List.map_nil, if_true, if_false, Nat.reduceEqDiff, Int.reduceEq, Nat.reduceAdd, Nat.reduceMul, reduceCtorEq, eq_self, Int.reduceLT, Int.reduceLE, Int.reduceToNat, List.length_cons, List.length_nil, List.all_cons, List.all_nil, List.take_zero, List.drop_nil, List.append_nil, List.getElem?_cons_zero, List.getElem?_cons_succ, List.drop_succ_cons, List.drop_zero, List.take_succ_cons, List.cons_append, Nat.reduceLeDiff, Int.cast_ofNat_Int, hbx, c1]
  exact hx1.trans c2
end Go.Proofs.Ytfhchimfdlhmaaa

/-! The longest side; what is wrong of rules. -/
set_option linter.unusedSimpArgs false
set_option linter.unusedVariables false
namespace Go.Proofs.Ytfhchimfdlhmaaa
open Go Lon
def lg : List Rl → Nat → Nat
  | [], n => n
  | r :: L, n => lg L (max n r.1.length)
theorem l_Longest {a : Value} {L : List Rl} : ∀ (k i n : Nat) (H : AHeap), i + k = L.length → Rules H a L →
    Out (run Try.prog (tabF tab) om1 (.loop [3, 6, 7, 8] b_rule_Longest_0) [(3, .int .i64 n), (6, a), (7, .int .i64 L.length), (8, .int .i64 i)] H) fun y e' H' => Ext H H' ∧ y = .exit 0 ∧ eget e' 3 = .int .i64 (lg (L.drop i) n) := by
  intro k
  induction k with
  | zero =>
    intro i n H hi ha
    have hlt : ¬ ((i : Int) < L.length) := by omega
    rw [w_loop_b b_rule_Longest_0.eq_1, List.drop_of_length_le (by omega)]
    simp only [WA, isStore, isCall, isK, freshI, stampO, List.nil_append, Option.map_some, Option.map_none, Option.bind_some, List.map_cons, List.map_nil, if_true, if_false, Nat.reduceEqDiff, Int.reduceEq, Nat.reduceAdd, Nat.reduceMul, reduceCtorEq, eq_self, Int.reduceLT, Int.reduceLE, Int.reduceToNat, List.length_cons, List.length_nil, List.all_cons, List.all_nil, List.take_zero, List.drop_nil, List.append_nil, List.getElem?_cons_zero, List.getElem?_cons_succ, List.drop_succ_cons, List.drop_zero, List.take_succ_cons, List.cons_append, Nat.reduceLeDiff, Int.cast_ofNat_Int, hlt, lg]
    exact Ext.refl _
  | succ k ih =>
    intro i n H hi ha
    have hL := ha.1
    have hlt : (i : Int) < L.length := by omega
    obtain ⟨r, hr, hdr⟩ := drop_at (L := L) (i := i) (by omega)
    obtain ⟨i1, o1, vi, vo, h1, h2, h3, h4, h5, h6, h7, h8⟩ := ha.at hr
    have h5' := h5
    have h6' := h6
    obtain ⟨⟨ai, ci, rfl⟩, _⟩ := h5'
    obtain ⟨⟨ao, co, rfl⟩, _⟩ := h6'
    have hx1 := Ext.push H ⟨[.slice ai r.1.length ci, .slice ao r.2.length co], 46, .tip, 1, []⟩
    obtain ⟨z, e', H', r1, r2, r3, r4⟩ := ih (i + 1) (max n r.1.length) _ (by omega) (ha.ext hx1)
    have hw2 : IntKind.i64.wrap ((i : Int) + 1) = ((i + 1 : Nat) : Int) := by rw [wrap64 (by omega) (by omega)]; omega
    have hm : (if (r.1.length : Int) > (n : Int) then (r.1.length : Int) else (n : Int)) = ((max n r.1.length : Nat) : Int) := by
      by_cases h : (r.1.length : Int) > (n : Int)
      · rw [if_pos h, Nat.max_eq_right (by omega)]
      · rw [if_neg h, Nat.max_eq_left (by omega)]
    rw [w_loop_b b_rule_Longest_0.eq_1, hdr]
    unfold lg
    simp only [WA, isStore, isCall, isK, freshI, stampO, List.nil_append, Option.map_some, Option.map_none, Option.bind_some, List.map_cons, List.map_nil, if_true, if_false, Nat.reduceEqDiff, Int.reduceEq, Nat.reduceAdd, Nat.reduceMul, reduceCtorEq, eq_self, Int.reduceLT, Int.reduceLE, Int.reduceToNat, List.length_cons, List.length_nil, List.all_cons, List.all_nil, List.take_zero, List.drop_nil, List.append_nil, List.getElem?_cons_zero, List.getElem?_cons_succ, List.drop_succ_cons, List.drop_zero, List.take_succ_cons, List.cons_append, Nat.reduceLeDiff, Int.cast_ofNat_Int, hlt, h1, h4, h5.len, hm, hw2]
    rw [w_enter]
    simp only [WA, isStore, isCall, isK, freshI, stampO, List.nil_append, Option.map_some, Option.map_none, Option.bind_some, List.map_cons, List.map_nil, if_true, if_false, Nat.reduceEqDiff, Int.reduceEq, Nat.reduceAdd, Nat.reduceMul, reduceCtorEq, eq_self, Int.reduceLT, Int.reduceLE, Int.reduceToNat, List.length_cons, List.length_nil, List.all_cons, List.all_nil, List.take_zero, List.drop_nil, List.append_nil, List.getElem?_cons_zero, List.getElem?_cons_succ, List.drop_succ_cons, List.drop_zero, List.take_succ_cons, List.cons_append, Nat.reduceLeDiff, Int.cast_ofNat_Int, r1]
    exact ⟨hx1.trans r2, r3, r4⟩
theorem c_Longest {a : Value} {L : List Rl} {H : AHeap} (ha : Rules H a L) : Gives (cw Try.prog (tabF tab) om1 21 [a] H) fun v H' => Ext H H' ∧ v = .int .i64 (lg L 0) := by
  rw [cw_run (F := F_rule_Longest) rfl rfl rfl]
  unfold F_rule_Longest k_rule_Longest
  obtain ⟨y, e', H', r1, r2, rfl, r4⟩ := l_Longest L.length 0 0 H (by omega) ha
  simp only [Int.cast_ofNat_Int] at r1
  simp only [WA, isStore, isCall, isK, freshI, stampO, List.nil_append, Option.map_some, Option.map_none, Option.bind_some, List.map_cons, List.map_nil, if_true, if_false, Nat.reduceEqDiff, Int.reduceEq, Nat.reduceAdd, Nat.reduceMul, reduceCtorEq, eq_self, Int.reduceLT, Int.reduceLE, Int.reduceToNat, List.length_cons, List.length_nil, List.all_cons, List.all_nil, List.take_zero, List.drop_nil, List.append_nil, List.getElem?_cons_zero, List.getElem?_cons_succ, List.drop_succ_cons, List.drop_zero, List.take_succ_cons, List.cons_append, Nat.reduceLeDiff, Int.cast_ofNat_Int, ha.len]
  rw [w_enter]
  simp only [WA, isStore, isCall, isK, freshI, stampO, List.nil_append, Option.map_some, Option.map_none, Option.bind_some, List.map_cons, List.map_nil, if_true, if_false, Nat.reduceEqDiff, Int.reduceEq, Nat.reduceAdd, Nat.reduceMul, reduceCtorEq, eq_self, Int.reduceLT, Int.reduceLE, Int.reduceToNat, List.length_cons, List.length_nil, List.all_cons, List.all_nil, List.take_zero, List.drop_nil, List.append_nil, List.getElem?_cons_zero, List.getElem?_cons_succ, List.drop_succ_cons, List.drop_zero, List.take_succ_cons, List.cons_append, Nat.reduceLeDiff, Int.cast_ofNat_Int, r1, r4, List.drop_zero]
  exact r2
/-- What is wrong of rules: from the k-th on. -/
def chk (L : List Rl) : List Rl → Nat → Int × Int
  | [], _ => (-1, 0)
  | r :: t, k => if 512 ≤ k then ((k : Int), 7) else if (!sideB r.1 || !sideB r.2) = true then ((k : Int), 9) else if fnd (L.take k) r.1 ≥ 0 then ((k : Int), 8) else chk L t (k + 1)
theorem l_Check {a : Value} {L : List Rl} : ∀ (k i : Nat) (H : AHeap), i + k = L.length → Rules H a L → Cut Try.prog H a 2 →
    Out (run Try.prog (tabF tab) om1 (.loop [0, 6, 7, 8] b_rule_Check_0) [(0, a), (6, a), (7, .int .i64 L.length), (8, .int .i64 i)] H) fun y e' H' => Ext H H' ∧
      if chk L (L.drop i) i = (-1, 0) then y = .exit 0 else y = .ret ∧ eget e' 2 = .int .i64 (chk L (L.drop i) i).1 ∧ eget e' 3 = .int .i64 (chk L (L.drop i) i).2 := by
  intro k
  induction k with
  | zero =>
    intro i H hi ha hc
    have hlt : ¬ ((i : Int) < L.length) := by omega
    rw [w_loop_b b_rule_Check_0.eq_1, List.drop_of_length_le (by omega)]
    simp only [WA, isStore, isCall, isK, freshI, stampO, List.nil_append, Option.map_some, Option.map_none, Option.bind_some, List.map_cons, List.map_nil, if_true, if_false, Nat.reduceEqDiff, Int.reduceEq, Nat.reduceAdd, Nat.reduceMul, reduceCtorEq, eq_self, Int.reduceLT, Int.reduceLE, Int.reduceToNat, List.length_cons, List.length_nil, List.all_cons, List.all_nil, List.take_zero, List.drop_nil, List.append_nil, List.getElem?_cons_zero, List.getElem?_cons_succ, List.drop_succ_cons, List.drop_zero, List.take_succ_cons, List.cons_append, Nat.reduceLeDiff, Int.cast_ofNat_Int, hlt, chk]
    exact Ext.refl _
  | succ k ih =>
    intro i H hi ha hc
    have hL := ha.1
    have hlt : (i : Int) < L.length := by omega
    obtain ⟨r, hr, hdr⟩ := drop_at (L := L) (i := i) (by omega)
    obtain ⟨i1, o1, vi, vo, h1, h2, h3, h4, h5, h6, h7, h8⟩ := ha.at hr
    have h5' := h5
    have h6' := h6
    obtain ⟨⟨ai, ci, rfl⟩, _⟩ := h5'
    obtain ⟨⟨ao, co, rfl⟩, _⟩ := h6'
    have hx1 := Ext.push H ⟨[.slice ai r.1.length ci, .slice ao r.2.length co], 46, .tip, 1, []⟩
    have hw2 : IntKind.i64.wrap ((i : Int) + 1) = ((i + 1 : Nat) : Int) := by rw [wrap64 (by omega) (by omega)]; omega
    rw [w_loop_b b_rule_Check_0.eq_1, hdr]
    unfold chk
    have ne : ∀ x y : Int, ((i : Int), x) ≠ ((-1 : Int), y) := fun x y h => by injection h; omega
    by_cases g1 : 512 ≤ i
    · have g1' : (i : Int) ≥ 512 := by omega
      simp only [WA, isStore, isCall, isK, freshI, stampO, List.nil_append, Option.map_some, Option.map_none, Option.bind_some, List.map_cons, List.map_nil, if_true, if_false, Nat.reduceEqDiff, Int.reduceEq, Nat.reduceAdd, Nat.reduceMul, reduceCtorEq, eq_self, Int.reduceLT, Int.reduceLE, Int.reduceToNat, List.length_cons, List.length_nil, List.all_cons, List.all_nil, List.take_zero, List.drop_nil, List.append_nil, List.getElem?_cons_zero, List.getElem?_cons_succ, List.drop_succ_cons, List.drop_zero, List.take_succ_cons, List.cons_append, Nat.reduceLeDiff, Int.cast_ofNat_Int, hlt, h1, h4, g1, g1', ne]
      exact hx1
    · have g1' : ¬ (i : Int) ≥ 512 := by omega
      have s1 := c_side (h5.ext hx1) h7
      have s2 := c_side (h6.ext hx1) h8
      cases e1 : sideB r.1 with
      | false =>
        rw [e1] at s1
        simp only [WA, isStore, isCall, isK, freshI, stampO, List.nil_append, Option.map_some, Option.map_none, Option.bind_some, List.map_cons, List.map_nil, if_true, if_false, Nat.reduceEqDiff, Int.reduceEq, Nat.reduceAdd, Nat.reduceMul, reduceCtorEq, eq_self, Int.reduceLT, Int.reduceLE, Int.reduceToNat, List.length_cons, List.length_nil, List.all_cons, List.all_nil, List.take_zero, List.drop_nil, List.append_nil, List.getElem?_cons_zero, List.getElem?_cons_succ, List.drop_succ_cons, List.drop_zero, List.take_succ_cons, List.cons_append, Nat.reduceLeDiff, Int.cast_ofNat_Int, hlt, h1, h4, g1, g1', s1, ne, e1, Bool.not_false, Bool.true_or]
        exact hx1
      | true =>
        rw [e1] at s1
        cases e2 : sideB r.2 with
        | false =>
          rw [e2] at s2
          simp only [WA, isStore, isCall, isK, freshI, stampO, List.nil_append, Option.map_some, Option.map_none, Option.bind_some, List.map_cons, List.map_nil, if_true, if_false, Nat.reduceEqDiff, Int.reduceEq, Nat.reduceAdd, Nat.reduceMul, reduceCtorEq, eq_self, Int.reduceLT, Int.reduceLE, Int.reduceToNat, List.length_cons, List.length_nil, List.all_cons, List.all_nil, List.take_zero, List.drop_nil, List.append_nil, List.getElem?_cons_zero, List.getElem?_cons_succ, List.drop_succ_cons, List.drop_zero, List.take_succ_cons, List.cons_append, Nat.reduceLeDiff, Int.cast_ofNat_Int, hlt, h1, h4, g1, g1', s1, s2, ne, e1, e2, Bool.not_false, Bool.or_true]
          exact hx1
        | true =>
          rw [e2] at s2
          obtain ⟨v', k1, k2, k3⟩ := (ha.ext hx1).take (hc.ext hx1) (show i ≤ L.length by omega)
          obtain ⟨v, H2, c1, c2, rfl⟩ := c_Find k2 (h5.ext hx1)
          have hst : still H2 (stampB H.n (some ⟨[.slice ai r.1.length ci, .slice ao r.2.length co], 46, .tip, 1, []⟩)) = true := by
            have := still_ext0 c2 (i := H.n)
            rwa [get_push_self] at this
          have hst2 : H2.get H.n = some ⟨[.slice ai r.1.length ci, .slice ao r.2.length co], 46, .tip, 1, []⟩ := c2.get get_push_self
          by_cases g2 : fnd (L.take i) r.1 ≥ 0
          · simp only [WA, isStore, isCall, isK, freshI, stampO, List.nil_append, Option.map_some, Option.map_none, Option.bind_some, List.map_cons, List.map_nil, if_true, if_false, Nat.reduceEqDiff, Int.reduceEq, Nat.reduceAdd, Nat.reduceMul, reduceCtorEq, eq_self, Int.reduceLT, Int.reduceLE, Int.reduceToNat, List.length_cons, List.length_nil, List.all_cons, List.all_nil, List.take_zero, List.drop_nil, List.append_nil, List.getElem?_cons_zero, List.getElem?_cons_succ, List.drop_succ_cons, List.drop_zero, List.take_succ_cons, List.cons_append, Nat.reduceLeDiff, Int.cast_ofNat_Int, hlt, h1, h4, g1, g1', s1, s2, ne, e1, e2, k1, c1, g2, hst2, Bool.or_self, Bool.false_eq_true]
            exact hx1.trans c2
          · obtain ⟨z, e', H', r1, r2, r3⟩ := ih (i + 1) H2 (by omega) ((ha.ext hx1).ext c2) ((hc.ext hx1).ext c2)
            simp only [WA, isStore, isCall, isK, freshI, stampO, List.nil_append, Option.map_some, Option.map_none, Option.bind_some, List.map_cons, List.map_nil, if_true, if_false, Nat.reduceEqDiff, Int.reduceEq, Nat.reduceAdd, Nat.reduceMul, reduceCtorEq, eq_self, Int.reduceLT, Int.reduceLE, Int.reduceToNat, List.length_cons, List.length_nil, List.all_cons, List.all_nil, List.take_zero, List.drop_nil, List.append_nil, List.getElem?_cons_zero, List.getElem?_cons_succ, List.drop_succ_cons, List.drop_zero, List.take_succ_cons, List.cons_append, Nat.reduceLeDiff, Int.cast_ofNat_Int, hlt, h1, h4, g1, g1', s1, s2, ne, e1, e2, k1, c1, g2, hst2, hw2, Bool.or_self, Bool.false_eq_true]
            rw [w_enter]
            simp only [WA, isStore, isCall, isK, freshI, stampO, List.nil_append, Option.map_some, Option.map_none, Option.bind_some, List.map_cons, List.map_nil, if_true, if_false, Nat.reduceEqDiff, Int.reduceEq, Nat.reduceAdd, Nat.reduceMul, reduceCtorEq, eq_self, Int.reduceLT, Int.reduceLE, Int.reduceToNat, List.length_cons, List.length_nil, List.all_cons, List.all_nil, List.take_zero, List.drop_nil, List.append_nil, List.getElem?_cons_zero, List.getElem?_cons_succ, List.drop_succ_cons, List.drop_zero, List.take_succ_cons, List.cons_append, Nat.reduceLeDiff, Int.cast_ofNat_Int, r1]
            exact ⟨(hx1.trans c2).trans r2, r3⟩
theorem c_Check {a : Value} {L : List Rl} {H : AHeap} (ha : Rules H a L) (hc : Cut Try.prog H a 2) : Gives (cw Try.prog (tabF tab) om1 18 [a] H) fun v H' => Ext H H' ∧ v = .tuple ⟨[.int .i64 (chk L L 0).1, .int .i64 (chk L L 0).2]⟩ := by
  rw [cw_run (F := F_rule_Check) rfl rfl rfl]
  unfold F_rule_Check k_rule_Check
  obtain ⟨y, e', H', r1, r2, r3⟩ := l_Check L.length 0 H (by omega) ha hc
  simp only [Int.cast_ofNat_Int] at r1
  simp only [WA, isStore, isCall, isK, freshI, stampO, List.nil_append, Option.map_some, Option.map_none, Option.bind_some, List.map_cons, List.map_nil, if_true, if_false, Nat.reduceEqDiff, Int.reduceEq, Nat.reduceAdd, Nat.reduceMul, reduceCtorEq, eq_self, Int.reduceLT, Int.reduceLE, Int.reduceToNat, List.length_cons, List.length_nil, List.all_cons, List.all_nil, List.take_zero, List.drop_nil, List.append_nil, List.getElem?_cons_zero, List.getElem?_cons_succ, List.drop_succ_cons, List.drop_zero, List.take_succ_cons, List.cons_append, Nat.reduceLeDiff, Int.cast_ofNat_Int, ha.len]
  rw [w_enter]
  simp only [WA, isStore, isCall, isK, freshI, stampO, List.nil_append, Option.map_some, Option.map_none, Option.bind_some, List.map_cons, List.map_nil, if_true, if_false, Nat.reduceEqDiff, Int.reduceEq, Nat.reduceAdd, Nat.reduceMul, reduceCtorEq, eq_self, Int.reduceLT, Int.reduceLE, Int.reduceToNat, List.length_cons, List.length_nil, List.all_cons, List.all_nil, List.take_zero, List.drop_nil, List.append_nil, List.getElem?_cons_zero, List.getElem?_cons_succ, List.drop_succ_cons, List.drop_zero, List.take_succ_cons, List.cons_append, Nat.reduceLeDiff, Int.cast_ofNat_Int, r1]
  rw [List.drop_zero] at r3
  split at r3
  · rename_i h
    subst r3
    simp only [WA, isStore, isCall, isK, freshI, stampO, List.nil_append, Option.map_some, Option.map_none, Option.bind_some, List.map_cons, List.map_nil, if_true, if_false, Nat.reduceEqDiff, Int.reduceEq, Nat.reduceAdd, Nat.reduceMul, reduceCtorEq, eq_self, Int.reduceLT, Int.reduceLE, Int.reduceToNat, List.length_cons, List.length_nil, List.all_cons, List.all_nil, List.take_zero, List.drop_nil, List.append_nil, List.getElem?_cons_zero, List.getElem?_cons_succ, List.drop_succ_cons, List.drop_zero, List.take_succ_cons, List.cons_append, Nat.reduceLeDiff, Int.cast_ofNat_Int, h]
    exact r2
  · obtain ⟨rfl, r4, r5⟩ := r3
    simp only [WA, isStore, isCall, isK, freshI, stampO, List.nil_append, Option.map_some, Option.map_none, Option.bind_some, List.map_cons, List.map_nil, if_true, if_false, Nat.reduceEqDiff, Int.reduceEq, Nat.reduceAdd, Nat.reduceMul, reduceCtorEq, eq_self, Int.reduceLT, Int.reduceLE, Int.reduceToNat, List.length_cons, List.length_nil, List.all_cons, List.all_nil, List.take_zero, List.drop_nil, List.append_nil, List.getElem?_cons_zero, List.getElem?_cons_succ, List.drop_succ_cons, List.drop_zero, List.take_succ_cons, List.cons_append, Nat.reduceLeDiff, Int.cast_ofNat_Int, r4, r5]
    exact r2
end Go.Proofs.Ytfhchimfdlhmaaa

/-! Plain facts about rules. -/
set_option linter.unusedSimpArgs false
set_option linter.unusedVariables false
namespace Go.Proofs.Ytfhchimfdlhmaaa
open Go Lon
theorem fdx_none {x : List Int} : ∀ {L : List Rl} {i : Nat}, (∀ r ∈ L, r.1 ≠ x) → fdx x L i = none
  | [], _, _ => rfl
  | r :: L, i, h => by
    unfold fdx
    rw [if_neg (h r (List.mem_cons_self ..))]
    exact fdx_none fun r hr => h r (List.mem_cons_of_mem _ hr)
theorem fdx_some {x : List Int} : ∀ {L : List Rl} {i j : Nat}, fdx x L i = some j → ∃ r, L[j - i]? = some r ∧ r.1 = x ∧ i ≤ j
  | [], _, _, h => by cases h
  | r :: L, i, j, h => by
    unfold fdx at h
    split at h
    · injection h with h
      subst h
      exact ⟨r, by simp, by assumption, Nat.le_refl _⟩
    · obtain ⟨r', h1, h2, h3⟩ := fdx_some h
      refine ⟨r', ?_, h2, by omega⟩
      rw [show j - i = (j - (i + 1)) + 1 by omega]
      simpa using h1
theorem fnd_neg {L : List Rl} {x : List Int} : fnd L x < 0 ↔ ∀ r ∈ L, r.1 ≠ x := by
  unfold fnd
  constructor
  · intro h r hr hx
    cases hf : fdx x L 0 with
    | some k => rw [hf] at h; simp at h; omega
    | none =>
      have key : ∀ {L : List Rl} {i : Nat}, fdx x L i = none → ∀ r ∈ L, r.1 ≠ x := by
        intro L
        induction L with
        | nil => intro i _ r hr; cases hr
        | cons a L ih =>
          intro i h r hr
          unfold fdx at h
          split at h
          · cases h
          · rcases List.mem_cons.1 hr with rfl | hr
            · assumption
            · exact ih h r hr
      exact key hf r hr hx
  · intro h
    rw [fdx_none h]
    decide
theorem side1 {x : Int} (h : 0 ≤ x ∧ x ≤ 1114111) : sideB [x] = true := by
  have hb : ¬ bad x := fun hb => by rcases hb with hb | hb <;> omega
  unfold sideB bdx bdx
  rw [if_neg hb]
  rfl
theorem lg_max : ∀ {L : List Rl} {n : Nat}, lg L n = max n (lg L 0)
  | [], n => by simp [lg]
  | r :: L, n => by
    unfold lg
    rw [lg_max (n := max n r.1.length), lg_max (n := max 0 r.1.length)]
    omega
end Go.Proofs.Ytfhchimfdlhmaaa

