/- What is proved here: what the program's functions come to, as far as the claimed statement asks. Conditions: those that each theorem names, and no others. -/
import Derived.Test.YtaijfpedioeedaaLonW
import Derived.Test.YtaijfpedioeedaaRows
/-! The functions in the interpreter's form. Written by program. -/
set_option linter.unusedSimpArgs false
namespace Go.Proofs.Ytaijfpedioeedaa
open Go Lon

-- lontar/lontarlaw17.TamilRules
@[reducible] def i_lontarlaw17_TamilRules : Nat := 3
def k_lontarlaw17_TamilRules : ACode :=
 (.seq (.ops [⟨(some 2), .mv (.const (.bool false)), none⟩])
 (.seq (.seq (.ops [⟨(some 3), .call (.func 9) [], none⟩,
   ⟨(some 4), .not (.tmp 3), none⟩])
 (.cond (.tmp 4)
  (.seq (.ops [⟨(some 2), .mv (.const (.bool false)), none⟩])
  .ret)
  .skip))
 (.seq (.ops [⟨(some 5), .call (.func 11) [], none⟩,
   ⟨(some 6), .call (.func 12) [], none⟩,
   ⟨(some 7), .call (.func 10) [(.tmp 5), (.tmp 6)], none⟩,
   ⟨(some 8), .mv (.tmp 7), none⟩,
   ⟨(some 9), .call (.func 11) [], some (8, true)⟩,
   ⟨(some 10), .len false (.tmp 9), some (8, true)⟩,
   ⟨(some 11), .mv (.tmp 0), some (8, true)⟩,
   ⟨(some 12), .conv .i64 (.tmp 11), some (8, true)⟩,
   ⟨(some 13), .int .gtr (.tmp 10) (.tmp 12), some (8, true)⟩,
   ⟨(some 14), .pick (.tmp 8) (.tmp 13) (.const (.bool false)), none⟩,
   ⟨(some 2), .mv (.tmp 14), none⟩])
 .ret)))
def F_lontarlaw17_TamilRules : AFunc := ⟨1, 15, [.tmp 2], k_lontarlaw17_TamilRules⟩
theorem ok_lontarlaw17_TamilRules : FOK Try.prog 3 F_lontarlaw17_TamilRules := FOK.of [] Try.func3 (by kernel_rfl) (by kernel_rfl)

-- lontar/lontarlaw17.TamilConsonant
@[reducible] def i_lontarlaw17_TamilConsonant : Nat := 4
def k_lontarlaw17_TamilConsonant : ACode :=
 (.seq (.ops [⟨(some 2), .mv (.const (.bool false)), none⟩])
 (.seq (.seq (.ops [⟨(some 6), .call (.func 9) [], none⟩,
   ⟨(some 7), .not (.tmp 6), none⟩])
 (.cond (.tmp 7)
  (.seq (.ops [⟨(some 2), .mv (.const (.bool false)), none⟩])
  .ret)
  .skip))
 (.seq (.ops [⟨(some 9), .mv (.tmp 0), none⟩,
   ⟨(some 10), .conv .i64 (.tmp 9), none⟩,
   ⟨(some 11), .call (.func 13) [(.tmp 10)], none⟩,
   ⟨(some 8), .mv (.tmp 11), none⟩,
   ⟨(some 12), .ext (.tmp 8) 0, none⟩,
   ⟨(some 13), .ext (.tmp 8) 1, none⟩,
   ⟨(some 3), .mv (.tmp 12), none⟩,
   ⟨(some 4), .mv (.tmp 13), none⟩])
 (.seq (.ops [⟨(some 14), .mv (.tmp 0), none⟩,
   ⟨(some 15), .int .geq (.tmp 14) (.const (.int .i8 0)), none⟩,
   ⟨(some 16), .mv (.tmp 15), none⟩,
   ⟨(some 17), .mv (.tmp 0), some (16, true)⟩,
   ⟨(some 18), .int .lss (.tmp 17) (.const (.int .i8 22)), some (16, true)⟩,
   ⟨(some 19), .pick (.tmp 16) (.tmp 18) (.const (.bool false)), none⟩,
   ⟨(some 5), .mv (.tmp 19), none⟩])
 (.seq (.ops [⟨(some 20), .mv (.tmp 4), none⟩,
   ⟨(some 21), .mv (.tmp 5), none⟩,
   ⟨(some 22), .beq false (.tmp 20) (.tmp 21), none⟩,
   ⟨(some 23), .mv (.tmp 22), none⟩,
   ⟨(some 24), .mv (.tmp 5), some (23, true)⟩,
   ⟨(some 25), .not (.tmp 24), some (23, true)⟩,
   ⟨(some 26), .mv (.tmp 25), some (23, true)⟩,
   ⟨(some 27), .mv (.tmp 3), some (26, true)⟩,
   ⟨(some 28), .int .eql (.tmp 27) (.const (.int .i64 0)), some (26, true)⟩,
   ⟨(some 29), .pick (.tmp 26) (.tmp 28) (.const (.bool false)), some (23, true)⟩,
   ⟨(some 30), .mv (.tmp 29), some (23, true)⟩,
   ⟨(some 31), .mv (.tmp 5), some (30, false)⟩,
   ⟨(some 32), .mv (.tmp 31), some (30, false)⟩,
   ⟨(some 33), .mv (.tmp 3), some (32, true)⟩,
   ⟨(some 34), .call (.func 14) [], some (32, true)⟩,
   ⟨(some 35), .mv (.tmp 0), some (32, true)⟩,
   ⟨(some 36), .iaddr (.tmp 34) (.tmp 35) 1, some (32, true)⟩,
   ⟨(some 37), .load (.tmp 36) none, some (32, true)⟩,
   ⟨(some 38), .int .eql (.tmp 33) (.tmp 37), some (32, true)⟩,
   ⟨(some 39), .pick (.tmp 32) (.tmp 38) (.const (.bool false)), some (30, false)⟩,
   ⟨(some 40), .pick (.tmp 30) (.const (.bool true)) (.tmp 39), some (23, true)⟩,
   ⟨(some 41), .pick (.tmp 23) (.tmp 40) (.const (.bool false)), none⟩,
   ⟨(some 2), .mv (.tmp 41), none⟩])
 .ret)))))
def F_lontarlaw17_TamilConsonant : AFunc := ⟨1, 42, [.tmp 2], k_lontarlaw17_TamilConsonant⟩
theorem ok_lontarlaw17_TamilConsonant : FOK Try.prog 4 F_lontarlaw17_TamilConsonant := FOK.of [] Try.func4 (by kernel_rfl) (by kernel_rfl)

-- lontar/lontarlaw17.awake
@[reducible] def i_lontarlaw17_awake : Nat := 9
def k_lontarlaw17_awake : ACode :=
 (.seq (.ops [⟨(some 0), .mv (.const (.bool false)), none⟩])
 (.seq (.ops [⟨(some 7), .call (.func 11) [], none⟩,
   ⟨(some 1), .mv (.tmp 7), none⟩])
 (.seq (.ops [⟨(some 8), .mv (.tmp 1), none⟩,
   ⟨(some 9), .bslice 3 3 1 [(.int .i64 0)] [(0, 1, (.const (.int .i64 166))), (1, 1, (.const (.int .i64 176))), (2, 1, (.const (.int .i64 170)))], none⟩,
   ⟨(some 10), .call (.func 18) [(.tmp 8), (.tmp 9)], none⟩,
   ⟨(some 2), .mv (.tmp 10), none⟩])
 (.seq (.ops [⟨(some 12), .call (.func 13) [(.const (.int .i64 21))], none⟩,
   ⟨(some 11), .mv (.tmp 12), none⟩,
   ⟨(some 13), .ext (.tmp 11) 0, none⟩,
   ⟨(some 14), .ext (.tmp 11) 1, none⟩,
   ⟨(some 3), .mv (.tmp 13), none⟩,
   ⟨(some 4), .mv (.tmp 14), none⟩])
 (.seq (.ops [⟨(some 16), .call (.func 13) [(.const (.int .i64 22))], none⟩,
   ⟨(some 15), .mv (.tmp 16), none⟩,
   ⟨(some 17), .ext (.tmp 15) 0, none⟩,
   ⟨(some 18), .ext (.tmp 15) 1, none⟩,
   ⟨(some 5), .mv (.tmp 17), none⟩,
   ⟨(some 6), .mv (.tmp 18), none⟩])
 (.seq (.ops [⟨(some 19), .mv (.tmp 1), none⟩,
   ⟨(some 20), .len false (.tmp 19), none⟩,
   ⟨(some 21), .int .eql (.tmp 20) (.const (.int .i64 327)), none⟩,
   ⟨(some 22), .mv (.tmp 21), none⟩,
   ⟨(some 23), .mv (.tmp 2), some (22, true)⟩,
   ⟨(some 24), .int .geq (.tmp 23) (.const (.int .i64 0)), some (22, true)⟩,
   ⟨(some 25), .pick (.tmp 22) (.tmp 24) (.const (.bool false)), none⟩,
   ⟨(some 26), .mv (.tmp 25), none⟩,
   ⟨(some 27), .mv (.tmp 1), some (26, true)⟩,
   ⟨(some 28), .mv (.tmp 2), some (26, true)⟩,
   ⟨(some 29), .iaddr (.tmp 27) (.tmp 28) 2, some (26, true)⟩,
   ⟨(some 30), .faddr (.tmp 29) 1, some (26, true)⟩,
   ⟨(some 31), .load (.tmp 30) none, some (26, true)⟩,
   ⟨(some 32), .bslice 3 2 1 [(.int .i64 0)] [(0, 1, (.const (.int .i64 2965))), (1, 1, (.const (.int .i64 3018)))], some (26, true)⟩,
   ⟨(some 33), .call (.func 22) [(.tmp 31), (.tmp 32)], some (26, true)⟩,
   ⟨(some 34), .pick (.tmp 26) (.tmp 33) (.const (.bool false)), none⟩,
   ⟨(some 35), .mv (.tmp 34), none⟩,
   ⟨(some 36), .mv (.tmp 4), some (35, true)⟩,
   ⟨(some 37), .pick (.tmp 35) (.tmp 36) (.const (.bool false)), none⟩,
   ⟨(some 38), .mv (.tmp 37), none⟩,
   ⟨(some 39), .mv (.tmp 3), some (38, true)⟩,
   ⟨(some 40), .int .eql (.tmp 39) (.const (.int .i64 3001)), some (38, true)⟩,
   ⟨(some 41), .pick (.tmp 38) (.tmp 40) (.const (.bool false)), none⟩,
   ⟨(some 42), .mv (.tmp 41), none⟩,
   ⟨(some 43), .mv (.tmp 6), some (42, true)⟩,
   ⟨(some 44), .not (.tmp 43), some (42, true)⟩,
   ⟨(some 45), .pick (.tmp 42) (.tmp 44) (.const (.bool false)), none⟩,
   ⟨(some 46), .mv (.tmp 45), none⟩,
   ⟨(some 47), .call (.func 24) [], some (46, true)⟩,
   ⟨(some 48), .int .eql (.tmp 47) (.const (.int .i64 22)), some (46, true)⟩,
   ⟨(some 49), .pick (.tmp 46) (.tmp 48) (.const (.bool false)), none⟩,
   ⟨(some 0), .mv (.tmp 49), none⟩])
 .ret))))))
def F_lontarlaw17_awake : AFunc := ⟨0, 50, [.tmp 0], k_lontarlaw17_awake⟩
theorem ok_lontarlaw17_awake : FOK Try.prog 9 F_lontarlaw17_awake := FOK.of [] Try.func9 (by kernel_rfl) (by kernel_rfl)

-- lontar/lontarlaw03.Same
@[reducible] def i_lontarlaw03_Same : Nat := 10
/-- lontarlaw03_Same: the body of loop 0 -/
def b_lontarlaw03_Same_0 : ACode :=
 (.seq (.ops [⟨(some 14), .int .lss (.tmp 13) (.tmp 12), none⟩])
 (.seq (.cond (.tmp 14)
  .skip
  (.exit 0))
 (.seq (.block 1 (.seq (.ops [⟨(some 15), .mv (.tmp 13), none⟩,
   ⟨(some 5), .mv (.tmp 15), none⟩])
 (.seq (.draw [⟨(some 16), .mv (.tmp 0), none⟩,
   ⟨(some 17), .mv (.tmp 5), none⟩,
   ⟨(some 18), .iaddr (.tmp 16) (.tmp 17) 2, none⟩,
   ⟨(some 19), .faddr (.tmp 18) 0, none⟩,
   ⟨(some 20), .load (.tmp 19) none, none⟩,
   ⟨(some 21), .mv (.tmp 1), none⟩,
   ⟨(some 22), .mv (.tmp 5), none⟩,
   ⟨(some 23), .iaddr (.tmp 21) (.tmp 22) 2, none⟩,
   ⟨(some 24), .faddr (.tmp 23) 0, none⟩,
   ⟨(some 25), .load (.tmp 24) none, none⟩,
   ⟨(some 26), .call (.func 22) [(.tmp 20), (.tmp 25)], none⟩,
   ⟨(some 27), .not (.tmp 26), none⟩,
   ⟨(some 28), .mv (.tmp 27), none⟩,
   ⟨(some 29), .mv (.tmp 0), some (28, false)⟩,
   ⟨(some 30), .mv (.tmp 5), some (28, false)⟩,
   ⟨(some 31), .iaddr (.tmp 29) (.tmp 30) 2, some (28, false)⟩,
   ⟨(some 32), .faddr (.tmp 31) 1, some (28, false)⟩,
   ⟨(some 33), .load (.tmp 32) none, some (28, false)⟩,
   ⟨(some 34), .mv (.tmp 1), some (28, false)⟩,
   ⟨(some 35), .mv (.tmp 5), some (28, false)⟩,
   ⟨(some 36), .iaddr (.tmp 34) (.tmp 35) 2, some (28, false)⟩,
   ⟨(some 37), .faddr (.tmp 36) 1, some (28, false)⟩,
   ⟨(some 38), .load (.tmp 37) none, some (28, false)⟩,
   ⟨(some 39), .call (.func 22) [(.tmp 33), (.tmp 38)], some (28, false)⟩,
   ⟨(some 40), .not (.tmp 39), some (28, false)⟩,
   ⟨(some 41), .pick (.tmp 28) (.const (.bool true)) (.tmp 40), none⟩])
 (.cond (.tmp 41)
  (.seq (.ops [⟨(some 4), .mv (.const (.bool false)), none⟩])
  .ret)
  .skip))))
 (.ops [⟨(some 42), .int .add (.tmp 13) (.const (.int .i64 1)), none⟩,
   ⟨(some 13), .mv (.tmp 42), none⟩]))))

def k_lontarlaw03_Same : ACode :=
 (.seq (.ops [⟨(some 4), .mv (.const (.bool false)), none⟩])
 (.seq (.seq (.ops [⟨(some 6), .mv (.tmp 0), none⟩,
   ⟨(some 7), .len false (.tmp 6), none⟩,
   ⟨(some 8), .mv (.tmp 1), none⟩,
   ⟨(some 9), .len false (.tmp 8), none⟩,
   ⟨(some 10), .int .neq (.tmp 7) (.tmp 9), none⟩])
 (.cond (.tmp 10)
  (.seq (.ops [⟨(some 4), .mv (.const (.bool false)), none⟩])
  .ret)
  .skip))
 (.seq (.seq (.ops [⟨(some 11), .mv (.tmp 0), none⟩,
   ⟨(some 12), .len false (.tmp 11), none⟩,
   ⟨(some 13), .mv (.const (.int .i64 0)), none⟩])
 (.block 0 (.loop [0, 1, 12, 13] b_lontarlaw03_Same_0)))
 (.seq (.ops [⟨(some 4), .mv (.const (.bool true)), none⟩])
 .ret))))
def F_lontarlaw03_Same : AFunc := ⟨2, 43, [.tmp 4], k_lontarlaw03_Same⟩
theorem ok_lontarlaw03_Same : FOK Try.prog 10 F_lontarlaw03_Same := FOK.of [[0, 1, 12, 13], [0, 1, 2, 3, 4, 5, 6, 7, 8, 9, 10, 11, 12, 13, 14, 15, 16, 17, 18, 19, 20, 21, 22, 23, 24, 25]] Try.func10 (by kernel_rfl) (by kernel_rfl)

-- lontar/tamil.Rules
@[reducible] def i_tamil_Rules : Nat := 11
/-- tamil_Rules: the body of loop 0 -/
def b_tamil_Rules_0 : ACode :=
 (.seq (.ops [⟨(some 11), .int .lss (.tmp 10) (.const (.int .i64 128)), none⟩])
 (.seq (.cond (.tmp 11)
  .skip
  (.exit 0))
 (.seq (.block 1 (.seq (.ops [⟨(some 12), .mv (.tmp 10), none⟩,
   ⟨(some 2), .mv (.tmp 12), none⟩])
 (.ops [⟨(some 13), .mv (.tmp 1), none⟩,
   ⟨(some 14), .mv (.tmp 2), none⟩,
   ⟨(some 15), .bslice 3 1 1 [(.int .i64 0)] [(0, 1, (.tmp 14))], none⟩,
   ⟨(some 16), .mv (.tmp 2), none⟩,
   ⟨(some 17), .bslice 3 1 1 [(.int .i64 0)] [(0, 1, (.tmp 16))], none⟩,
   ⟨(some 18), .call (.func 25) [(.tmp 15), (.tmp 17)], none⟩,
   ⟨(some 19), .bslice 42 1 2 [(.slice none 0 0), (.slice none 0 0)] [(0, 2, (.tmp 18))], none⟩,
   ⟨(some 20), .append (.tmp 13) (.tmp 19) 42 2 48, none⟩,
   ⟨(some 1), .mv (.tmp 20), none⟩])))
 (.ops [⟨(some 21), .int .add (.tmp 10) (.const (.int .i64 1)), none⟩,
   ⟨(some 10), .mv (.tmp 21), none⟩]))))

/-- tamil_Rules: the body of loop 1 -/
def b_tamil_Rules_1 : ACode :=
 (.seq (.ops [⟨(some 25), .int .lss (.tmp 24) (.tmp 23), none⟩])
 (.seq (.cond (.tmp 25)
  .skip
  (.exit 2))
 (.seq (.block 3 (.seq (.ops [⟨(some 26), .mv (.tmp 24), none⟩,
   ⟨(some 27), .iaddr (.tmp 22) (.tmp 24) 1, none⟩,
   ⟨(some 28), .load (.tmp 27) none, none⟩,
   ⟨(some 3), .mv (.tmp 26), none⟩,
   ⟨(some 4), .mv (.tmp 28), none⟩])
 (.ops [⟨(some 29), .mv (.tmp 1), none⟩,
   ⟨(some 30), .mv (.tmp 3), none⟩,
   ⟨(some 31), .int .add (.const (.int .i64 145)) (.tmp 30), none⟩,
   ⟨(some 32), .bslice 3 1 1 [(.int .i64 0)] [(0, 1, (.tmp 31))], none⟩,
   ⟨(some 33), .mv (.tmp 4), none⟩,
   ⟨(some 34), .bslice 3 1 1 [(.int .i64 0)] [(0, 1, (.tmp 33))], none⟩,
   ⟨(some 35), .call (.func 25) [(.tmp 32), (.tmp 34)], none⟩,
   ⟨(some 36), .bslice 42 1 2 [(.slice none 0 0), (.slice none 0 0)] [(0, 2, (.tmp 35))], none⟩,
   ⟨(some 37), .append (.tmp 29) (.tmp 36) 42 2 48, none⟩,
   ⟨(some 1), .mv (.tmp 37), none⟩])))
 (.ops [⟨(some 38), .int .add (.tmp 24) (.const (.int .i64 1)), none⟩,
   ⟨(some 24), .mv (.tmp 38), none⟩]))))

/-- tamil_Rules: the body of loop 2 -/
def b_tamil_Rules_2 : ACode :=
 (.seq (.ops [⟨(some 52), .int .lss (.tmp 51) (.tmp 50), none⟩])
 (.seq (.cond (.tmp 52)
  .skip
  (.exit 4))
 (.seq (.block 5 (.seq (.ops [⟨(some 53), .iaddr (.tmp 49) (.tmp 51) 2, none⟩,
   ⟨(some 54), .load (.tmp 53) (some 2), none⟩,
   ⟨(some 6), .alloc [(.int .i64 0), (.int .i64 0)] 58, none⟩,
   ⟨none, .store (.tmp 6) (.tmp 54) 2, none⟩])
 (.ops [⟨(some 55), .mv (.tmp 1), none⟩,
   ⟨(some 56), .aaddr (.tmp 6) (.const (.int .i64 0)) 2 1, none⟩,
   ⟨(some 57), .load (.tmp 56) none, none⟩,
   ⟨(some 58), .bslice 3 1 1 [(.int .i64 0)] [(0, 1, (.tmp 57))], none⟩,
   ⟨(some 59), .aaddr (.tmp 6) (.const (.int .i64 1)) 2 1, none⟩,
   ⟨(some 60), .load (.tmp 59) none, none⟩,
   ⟨(some 61), .bslice 3 1 1 [(.int .i64 0)] [(0, 1, (.tmp 60))], none⟩,
   ⟨(some 62), .call (.func 25) [(.tmp 58), (.tmp 61)], none⟩,
   ⟨(some 63), .bslice 42 1 2 [(.slice none 0 0), (.slice none 0 0)] [(0, 2, (.tmp 62))], none⟩,
   ⟨(some 64), .append (.tmp 55) (.tmp 63) 42 2 48, none⟩,
   ⟨(some 1), .mv (.tmp 64), none⟩])))
 (.ops [⟨(some 65), .int .add (.tmp 51) (.const (.int .i64 1)), none⟩,
   ⟨(some 51), .mv (.tmp 65), none⟩]))))

/-- tamil_Rules: the body of loop 3 -/
def b_tamil_Rules_3 : ACode :=
 (.seq (.ops [⟨(some 69), .int .lss (.tmp 68) (.tmp 67), none⟩])
 (.seq (.cond (.tmp 69)
  .skip
  (.exit 6))
 (.seq (.block 7 (.seq (.ops [⟨(some 70), .mv (.tmp 68), none⟩,
   ⟨(some 71), .iaddr (.tmp 66) (.tmp 68) 1, none⟩,
   ⟨(some 72), .load (.tmp 71) none, none⟩,
   ⟨(some 7), .mv (.tmp 70), none⟩,
   ⟨(some 8), .mv (.tmp 72), none⟩])
 (.seq (.ops [⟨(some 73), .mv (.tmp 7), none⟩,
   ⟨(some 74), .int .add (.const (.int .i64 176)) (.tmp 73), none⟩,
   ⟨(some 9), .mv (.tmp 74), none⟩])
 (.ops [⟨(some 75), .mv (.tmp 1), none⟩,
   ⟨(some 76), .mv (.tmp 9), none⟩,
   ⟨(some 77), .bslice 3 1 1 [(.int .i64 0)] [(0, 1, (.tmp 76))], none⟩,
   ⟨(some 78), .mv (.tmp 8), none⟩,
   ⟨(some 79), .bslice 3 1 1 [(.int .i64 0)] [(0, 1, (.tmp 78))], none⟩,
   ⟨(some 80), .call (.func 25) [(.tmp 77), (.tmp 79)], none⟩,
   ⟨(some 81), .mv (.tmp 7), none⟩,
   ⟨(some 82), .int .add (.const (.int .i64 208)) (.tmp 81), none⟩,
   ⟨(some 83), .bslice 3 1 1 [(.int .i64 0)] [(0, 1, (.tmp 82))], none⟩,
   ⟨(some 84), .mv (.tmp 8), none⟩,
   ⟨(some 85), .bslice 3 2 1 [(.int .i64 0)] [(0, 1, (.tmp 84)), (1, 1, (.const (.int .i64 3021)))], none⟩,
   ⟨(some 86), .call (.func 25) [(.tmp 83), (.tmp 85)], none⟩,
   ⟨(some 87), .mv (.tmp 9), none⟩,
   ⟨(some 88), .bslice 3 2 1 [(.int .i64 0)] [(0, 1, (.const (.int .i64 166))), (1, 1, (.tmp 87))], none⟩,
   ⟨(some 89), .mv (.tmp 8), none⟩,
   ⟨(some 90), .bslice 3 2 1 [(.int .i64 0)] [(0, 1, (.tmp 89)), (1, 1, (.const (.int .i64 3014)))], none⟩,
   ⟨(some 91), .call (.func 25) [(.tmp 88), (.tmp 90)], none⟩,
   ⟨(some 92), .mv (.tmp 9), none⟩,
   ⟨(some 93), .bslice 3 2 1 [(.int .i64 0)] [(0, 1, (.const (.int .i64 167))), (1, 1, (.tmp 92))], none⟩,
   ⟨(some 94), .mv (.tmp 8), none⟩,
   ⟨(some 95), .bslice 3 2 1 [(.int .i64 0)] [(0, 1, (.tmp 94)), (1, 1, (.const (.int .i64 3015)))], none⟩,
   ⟨(some 96), .call (.func 25) [(.tmp 93), (.tmp 95)], none⟩,
   ⟨(some 97), .mv (.tmp 9), none⟩,
   ⟨(some 98), .bslice 3 2 1 [(.int .i64 0)] [(0, 1, (.const (.int .i64 168))), (1, 1, (.tmp 97))], none⟩,
   ⟨(some 99), .mv (.tmp 8), none⟩,
   ⟨(some 100), .bslice 3 2 1 [(.int .i64 0)] [(0, 1, (.tmp 99)), (1, 1, (.const (.int .i64 3016)))], none⟩,
   ⟨(some 101), .call (.func 25) [(.tmp 98), (.tmp 100)], none⟩,
   ⟨(some 102), .mv (.tmp 9), none⟩,
   ⟨(some 103), .bslice 3 3 1 [(.int .i64 0)] [(0, 1, (.const (.int .i64 166))), (1, 1, (.tmp 102)), (2, 1, (.const (.int .i64 170)))], none⟩,
   ⟨(some 104), .mv (.tmp 8), none⟩,
   ⟨(some 105), .bslice 3 2 1 [(.int .i64 0)] [(0, 1, (.tmp 104)), (1, 1, (.const (.int .i64 3018)))], none⟩,
   ⟨(some 106), .call (.func 25) [(.tmp 103), (.tmp 105)], none⟩,
   ⟨(some 107), .mv (.tmp 9), none⟩,
   ⟨(some 108), .bslice 3 3 1 [(.int .i64 0)] [(0, 1, (.const (.int .i64 167))), (1, 1, (.tmp 107)), (2, 1, (.const (.int .i64 170)))], none⟩,
   ⟨(some 109), .mv (.tmp 8), none⟩,
   ⟨(some 110), .bslice 3 2 1 [(.int .i64 0)] [(0, 1, (.tmp 109)), (1, 1, (.const (.int .i64 3019)))], none⟩,
   ⟨(some 111), .call (.func 25) [(.tmp 108), (.tmp 110)], none⟩,
   ⟨(some 112), .mv (.tmp 9), none⟩,
   ⟨(some 113), .bslice 3 3 1 [(.int .i64 0)] [(0, 1, (.const (.int .i64 166))), (1, 1, (.tmp 112)), (2, 1, (.const (.int .i64 175)))], none⟩,
   ⟨(some 114), .mv (.tmp 8), none⟩,
   ⟨(some 115), .bslice 3 2 1 [(.int .i64 0)] [(0, 1, (.tmp 114)), (1, 1, (.const (.int .i64 3020)))], none⟩,
   ⟨(some 116), .call (.func 25) [(.tmp 113), (.tmp 115)], none⟩,
   ⟨(some 117), .bslice 42 8 2 [(.slice none 0 0), (.slice none 0 0)] [(0, 2, (.tmp 80)), (2, 2, (.tmp 86)), (4, 2, (.tmp 91)), (6, 2, (.tmp 96)), (8, 2, (.tmp 101)), (10, 2, (.tmp 106)), (12, 2, (.tmp 111)), (14, 2, (.tmp 116))], none⟩,
   ⟨(some 118), .append (.tmp 75) (.tmp 117) 42 2 48, none⟩,
   ⟨(some 1), .mv (.tmp 118), none⟩]))))
 (.ops [⟨(some 119), .int .add (.tmp 68) (.const (.int .i64 1)), none⟩,
   ⟨(some 68), .mv (.tmp 119), none⟩]))))

def k_tamil_Rules : ACode :=
 (.seq (.ops [⟨(some 0), .mv (.const (.slice none 0 0)), none⟩])
 (.seq (.ops [⟨(some 1), .mv (.const (.slice none 0 0)), none⟩])
 (.seq (.seq (.ops [⟨(some 10), .mv (.const (.int .i64 0)), none⟩])
 (.block 0 (.loop [1, 10] b_tamil_Rules_0)))
 (.seq (.seq (.ops [⟨(some 22), .call (.func 26) [], none⟩,
   ⟨(some 23), .len false (.tmp 22), none⟩,
   ⟨(some 24), .mv (.const (.int .i64 0)), none⟩])
 (.block 2 (.loop [1, 22, 23, 24] b_tamil_Rules_1)))
 (.seq (.seq (.ops [⟨(some 39), .build [(.int .i64 0), (.int .i64 0)] [(0, 1, (.const (.int .i64 166))), (1, 1, (.const (.int .i64 3014)))], none⟩,
   ⟨(some 40), .build [(.int .i64 0), (.int .i64 0)] [(0, 1, (.const (.int .i64 167))), (1, 1, (.const (.int .i64 3015)))], none⟩,
   ⟨(some 41), .build [(.int .i64 0), (.int .i64 0)] [(0, 1, (.const (.int .i64 168))), (1, 1, (.const (.int .i64 3016)))], none⟩,
   ⟨(some 42), .build [(.int .i64 0), (.int .i64 0)] [(0, 1, (.const (.int .i64 169))), (1, 1, (.const (.int .i64 3021)))], none⟩,
   ⟨(some 43), .build [(.int .i64 0), (.int .i64 0)] [(0, 1, (.const (.int .i64 170))), (1, 1, (.const (.int .i64 3006)))], none⟩,
   ⟨(some 44), .build [(.int .i64 0), (.int .i64 0)] [(0, 1, (.const (.int .i64 171))), (1, 1, (.const (.int .i64 3007)))], none⟩,
   ⟨(some 45), .build [(.int .i64 0), (.int .i64 0)] [(0, 1, (.const (.int .i64 172))), (1, 1, (.const (.int .i64 3008)))], none⟩,
   ⟨(some 46), .build [(.int .i64 0), (.int .i64 0)] [(0, 1, (.const (.int .i64 173))), (1, 1, (.const (.int .i64 3009)))], none⟩,
   ⟨(some 47), .build [(.int .i64 0), (.int .i64 0)] [(0, 1, (.const (.int .i64 174))), (1, 1, (.const (.int .i64 3010)))], none⟩,
   ⟨(some 48), .build [(.int .i64 0), (.int .i64 0)] [(0, 1, (.const (.int .i64 175))), (1, 1, (.const (.int .i64 3031)))], none⟩,
   ⟨(some 49), .bslice 58 10 2 [(.int .i64 0), (.int .i64 0)] [(0, 2, (.tmp 39)), (2, 2, (.tmp 40)), (4, 2, (.tmp 41)), (6, 2, (.tmp 42)), (8, 2, (.tmp 43)), (10, 2, (.tmp 44)), (12, 2, (.tmp 45)), (14, 2, (.tmp 46)), (16, 2, (.tmp 47)), (18, 2, (.tmp 48))], none⟩,
   ⟨(some 50), .len false (.tmp 49), none⟩,
   ⟨(some 51), .mv (.const (.int .i64 0)), none⟩])
 (.block 4 (.loop [1, 49, 50, 51] b_tamil_Rules_2)))
 (.seq (.seq (.ops [⟨(some 66), .call (.func 27) [], none⟩,
   ⟨(some 67), .len false (.tmp 66), none⟩,
   ⟨(some 68), .mv (.const (.int .i64 0)), none⟩])
 (.block 6 (.loop [1, 66, 67, 68] b_tamil_Rules_3)))
 (.seq (.ops [⟨(some 120), .mv (.tmp 1), none⟩,
   ⟨(some 0), .mv (.tmp 120), none⟩])
 .ret)))))))
def F_tamil_Rules : AFunc := ⟨0, 121, [.tmp 0], k_tamil_Rules⟩
theorem ok_tamil_Rules : FOK Try.prog 11 F_tamil_Rules := FOK.of [[1, 10], [1, 22, 23, 24], [1, 49, 50, 51], [1, 66, 67, 68]] Try.func11 (by kernel_rfl) (by kernel_rfl)

-- lontar/lontarlaw17.Rules
@[reducible] def i_lontarlaw17_Rules : Nat := 12
/-- lontarlaw17_Rules: the body of loop 0 -/
def b_lontarlaw17_Rules_0 : ACode :=
 (.seq (.seq (.ops [⟨(some 13), .mv (.tmp 3), none⟩,
   ⟨(some 14), .int .lss (.tmp 13) (.const (.int .i64 128)), none⟩])
 (.cond (.tmp 14)
  .skip
  (.exit 0)))
 (.seq (.block 1 (.ops [⟨(some 17), .mv (.tmp 2), none⟩,
   ⟨(some 18), .mv (.tmp 3), none⟩,
   ⟨(some 19), .bslice 3 1 1 [(.int .i64 0)] [(0, 1, (.tmp 18))], none⟩,
   ⟨(some 20), .mv (.tmp 3), none⟩,
   ⟨(some 21), .bslice 3 1 1 [(.int .i64 0)] [(0, 1, (.tmp 20))], none⟩,
   ⟨(some 22), .call (.tmp 17) [(.tmp 19), (.tmp 21)], none⟩]))
 (.ops [⟨(some 15), .mv (.tmp 3), none⟩,
   ⟨(some 16), .int .add (.tmp 15) (.const (.int .i64 1)), none⟩,
   ⟨(some 3), .mv (.tmp 16), none⟩])))

/-- lontarlaw17_Rules: the body of loop 1 -/
def b_lontarlaw17_Rules_1 : ACode :=
 (.seq (.ops [⟨(some 26), .int .lss (.tmp 25) (.tmp 24), none⟩])
 (.seq (.cond (.tmp 26)
  .skip
  (.exit 2))
 (.seq (.block 3 (.seq (.ops [⟨(some 27), .mv (.tmp 25), none⟩,
   ⟨(some 28), .iaddr (.tmp 23) (.tmp 25) 1, none⟩,
   ⟨(some 29), .load (.tmp 28) none, none⟩,
   ⟨(some 4), .mv (.tmp 27), none⟩,
   ⟨(some 5), .mv (.tmp 29), none⟩])
 (.ops [⟨(some 30), .mv (.tmp 2), none⟩,
   ⟨(some 31), .mv (.tmp 4), none⟩,
   ⟨(some 32), .int .add (.const (.int .i64 145)) (.tmp 31), none⟩,
   ⟨(some 33), .bslice 3 1 1 [(.int .i64 0)] [(0, 1, (.tmp 32))], none⟩,
   ⟨(some 34), .mv (.tmp 5), none⟩,
   ⟨(some 35), .bslice 3 1 1 [(.int .i64 0)] [(0, 1, (.tmp 34))], none⟩,
   ⟨(some 36), .call (.tmp 30) [(.tmp 33), (.tmp 35)], none⟩])))
 (.ops [⟨(some 37), .int .add (.tmp 25) (.const (.int .i64 1)), none⟩,
   ⟨(some 25), .mv (.tmp 37), none⟩]))))

/-- lontarlaw17_Rules: the body of loop 2 -/
def b_lontarlaw17_Rules_2 : ACode :=
 (.seq (.ops [⟨(some 41), .int .lss (.tmp 40) (.tmp 39), none⟩])
 (.seq (.cond (.tmp 41)
  .skip
  (.exit 4))
 (.seq (.block 5 (.seq (.ops [⟨(some 42), .mv (.tmp 40), none⟩,
   ⟨(some 43), .iaddr (.tmp 38) (.tmp 40) 1, none⟩,
   ⟨(some 44), .load (.tmp 43) none, none⟩,
   ⟨(some 6), .mv (.tmp 42), none⟩,
   ⟨(some 7), .mv (.tmp 44), none⟩])
 (.ops [⟨(some 45), .mv (.tmp 2), none⟩,
   ⟨(some 46), .mv (.tmp 6), none⟩,
   ⟨(some 47), .int .add (.const (.int .i64 166)) (.tmp 46), none⟩,
   ⟨(some 48), .bslice 3 1 1 [(.int .i64 0)] [(0, 1, (.tmp 47))], none⟩,
   ⟨(some 49), .mv (.tmp 7), none⟩,
   ⟨(some 50), .bslice 3 1 1 [(.int .i64 0)] [(0, 1, (.tmp 49))], none⟩,
   ⟨(some 51), .call (.tmp 45) [(.tmp 48), (.tmp 50)], none⟩])))
 (.ops [⟨(some 52), .int .add (.tmp 40) (.const (.int .i64 1)), none⟩,
   ⟨(some 40), .mv (.tmp 52), none⟩]))))

/-- lontarlaw17_Rules: the body of loop 3 -/
def b_lontarlaw17_Rules_3 : ACode :=
 (.seq (.seq (.ops [⟨(some 75), .mv (.tmp 11), none⟩,
   ⟨(some 76), .int .lss (.tmp 75) (.const (.int .i64 3)), none⟩])
 (.cond (.tmp 76)
  .skip
  (.exit 8)))
 (.seq (.block 9 (.ops [⟨(some 79), .mv (.tmp 2), none⟩,
   ⟨(some 80), .mv (.tmp 11), none⟩,
   ⟨(some 81), .int .add (.const (.int .i64 166)) (.tmp 80), none⟩,
   ⟨(some 82), .mv (.tmp 10), none⟩,
   ⟨(some 83), .bslice 3 2 1 [(.int .i64 0)] [(0, 1, (.tmp 81)), (1, 1, (.tmp 82))], none⟩,
   ⟨(some 84), .mv (.tmp 9), none⟩,
   ⟨(some 85), .mv (.tmp 11), none⟩,
   ⟨(some 86), .int .add (.const (.int .i64 3014)) (.tmp 85), none⟩,
   ⟨(some 87), .bslice 3 2 1 [(.int .i64 0)] [(0, 1, (.tmp 84)), (1, 1, (.tmp 86))], none⟩,
   ⟨(some 88), .call (.tmp 79) [(.tmp 83), (.tmp 87)], none⟩]))
 (.ops [⟨(some 77), .mv (.tmp 11), none⟩,
   ⟨(some 78), .int .add (.tmp 77) (.const (.int .i64 1)), none⟩,
   ⟨(some 11), .mv (.tmp 78), none⟩])))

/-- lontarlaw17_Rules: the body of loop 4 -/
def b_lontarlaw17_Rules_4 : ACode :=
 (.seq (.ops [⟨(some 56), .int .lss (.tmp 55) (.tmp 54), none⟩])
 (.seq (.cond (.tmp 56)
  .skip
  (.exit 6))
 (.seq (.block 7 (.seq (.ops [⟨(some 57), .mv (.tmp 55), none⟩,
   ⟨(some 58), .iaddr (.tmp 53) (.tmp 55) 1, none⟩,
   ⟨(some 59), .load (.tmp 58) none, none⟩,
   ⟨(some 8), .mv (.tmp 57), none⟩,
   ⟨(some 9), .mv (.tmp 59), none⟩])
 (.seq (.ops [⟨(some 60), .mv (.tmp 8), none⟩,
   ⟨(some 61), .int .add (.const (.int .i64 176)) (.tmp 60), none⟩,
   ⟨(some 10), .mv (.tmp 61), none⟩])
 (.seq (.ops [⟨(some 62), .mv (.tmp 2), none⟩,
   ⟨(some 63), .mv (.tmp 10), none⟩,
   ⟨(some 64), .bslice 3 1 1 [(.int .i64 0)] [(0, 1, (.tmp 63))], none⟩,
   ⟨(some 65), .mv (.tmp 9), none⟩,
   ⟨(some 66), .bslice 3 1 1 [(.int .i64 0)] [(0, 1, (.tmp 65))], none⟩,
   ⟨(some 67), .call (.tmp 62) [(.tmp 64), (.tmp 66)], none⟩])
 (.seq (.ops [⟨(some 68), .mv (.tmp 2), none⟩,
   ⟨(some 69), .mv (.tmp 8), none⟩,
   ⟨(some 70), .int .add (.const (.int .i64 208)) (.tmp 69), none⟩,
   ⟨(some 71), .bslice 3 1 1 [(.int .i64 0)] [(0, 1, (.tmp 70))], none⟩,
   ⟨(some 72), .mv (.tmp 9), none⟩,
   ⟨(some 73), .bslice 3 2 1 [(.int .i64 0)] [(0, 1, (.tmp 72)), (1, 1, (.const (.int .i64 3021)))], none⟩,
   ⟨(some 74), .call (.tmp 68) [(.tmp 71), (.tmp 73)], none⟩])
 (.seq (.seq (.ops [⟨(some 11), .mv (.const (.int .i64 0)), none⟩])
 (.block 8 (.loop [1, 2, 9, 10, 11, 53, 54, 55] b_lontarlaw17_Rules_3)))
 (.seq (.ops [⟨(some 89), .mv (.tmp 2), none⟩,
   ⟨(some 90), .mv (.tmp 10), none⟩,
   ⟨(some 91), .bslice 3 3 1 [(.int .i64 0)] [(0, 1, (.const (.int .i64 166))), (1, 1, (.tmp 90)), (2, 1, (.const (.int .i64 170)))], none⟩,
   ⟨(some 92), .mv (.tmp 9), none⟩,
   ⟨(some 93), .bslice 3 2 1 [(.int .i64 0)] [(0, 1, (.tmp 92)), (1, 1, (.const (.int .i64 3018)))], none⟩,
   ⟨(some 94), .call (.tmp 89) [(.tmp 91), (.tmp 93)], none⟩])
 (.seq (.ops [⟨(some 95), .mv (.tmp 2), none⟩,
   ⟨(some 96), .mv (.tmp 10), none⟩,
   ⟨(some 97), .bslice 3 3 1 [(.int .i64 0)] [(0, 1, (.const (.int .i64 167))), (1, 1, (.tmp 96)), (2, 1, (.const (.int .i64 170)))], none⟩,
   ⟨(some 98), .mv (.tmp 9), none⟩,
   ⟨(some 99), .bslice 3 2 1 [(.int .i64 0)] [(0, 1, (.tmp 98)), (1, 1, (.const (.int .i64 3019)))], none⟩,
   ⟨(some 100), .call (.tmp 95) [(.tmp 97), (.tmp 99)], none⟩])
 (.ops [⟨(some 101), .mv (.tmp 2), none⟩,
   ⟨(some 102), .mv (.tmp 10), none⟩,
   ⟨(some 103), .bslice 3 3 1 [(.int .i64 0)] [(0, 1, (.const (.int .i64 166))), (1, 1, (.tmp 102)), (2, 1, (.const (.int .i64 175)))], none⟩,
   ⟨(some 104), .mv (.tmp 9), none⟩,
   ⟨(some 105), .bslice 3 2 1 [(.int .i64 0)] [(0, 1, (.tmp 104)), (1, 1, (.const (.int .i64 3020)))], none⟩,
   ⟨(some 106), .call (.tmp 101) [(.tmp 103), (.tmp 105)], none⟩])))))))))
 (.ops [⟨(some 107), .int .add (.tmp 55) (.const (.int .i64 1)), none⟩,
   ⟨(some 55), .mv (.tmp 107), none⟩]))))

def k_lontarlaw17_Rules : ACode :=
 (.seq (.ops [⟨(some 0), .mv (.const (.slice none 0 0)), none⟩])
 (.seq (.ops [⟨(some 1), .alloc [(.slice none 0 0)] 24, none⟩])
 (.seq (.ops [⟨(some 12), .mkfun (.func 28) [] [(.tmp 1)], none⟩,
   ⟨(some 2), .mv (.tmp 12), none⟩])
 (.seq (.seq (.ops [⟨(some 3), .mv (.const (.int .i64 0)), none⟩])
 (.block 0 (.loop [1, 2, 3] b_lontarlaw17_Rules_0)))
 (.seq (.seq (.ops [⟨(some 23), .bslice 3 13 1 [(.int .i64 0)] [(0, 1, (.const (.int .i64 2949))), (1, 1, (.const (.int .i64 2950))), (2, 1, (.const (.int .i64 2951))), (3, 1, (.const (.int .i64 2952))), (4, 1, (.const (.int .i64 2953))), (5, 1, (.const (.int .i64 2954))), (6, 1, (.const (.int .i64 2958))), (7, 1, (.const (.int .i64 2959))), (8, 1, (.const (.int .i64 2960))), (9, 1, (.const (.int .i64 2962))), (10, 1, (.const (.int .i64 2963))), (11, 1, (.const (.int .i64 2964))), (12, 1, (.const (.int .i64 2947)))], none⟩,
   ⟨(some 24), .len false (.tmp 23), none⟩,
   ⟨(some 25), .mv (.const (.int .i64 0)), none⟩])
 (.block 2 (.loop [1, 2, 23, 24, 25] b_lontarlaw17_Rules_1)))
 (.seq (.seq (.ops [⟨(some 38), .bslice 3 10 1 [(.int .i64 0)] [(0, 1, (.const (.int .i64 3014))), (1, 1, (.const (.int .i64 3015))), (2, 1, (.const (.int .i64 3016))), (3, 1, (.const (.int .i64 3021))), (4, 1, (.const (.int .i64 3006))), (5, 1, (.const (.int .i64 3007))), (6, 1, (.const (.int .i64 3008))), (7, 1, (.const (.int .i64 3009))), (8, 1, (.const (.int .i64 3010))), (9, 1, (.const (.int .i64 3031)))], none⟩,
   ⟨(some 39), .len false (.tmp 38), none⟩,
   ⟨(some 40), .mv (.const (.int .i64 0)), none⟩])
 (.block 4 (.loop [1, 2, 38, 39, 40] b_lontarlaw17_Rules_2)))
 (.seq (.seq (.ops [⟨(some 53), .call (.func 14) [], none⟩,
   ⟨(some 54), .len false (.tmp 53), none⟩,
   ⟨(some 55), .mv (.const (.int .i64 0)), none⟩])
 (.block 6 (.loop [1, 2, 53, 54, 55] b_lontarlaw17_Rules_4)))
 (.seq (.ops [⟨(some 108), .load (.tmp 1) none, none⟩,
   ⟨(some 0), .mv (.tmp 108), none⟩])
 .ret))))))))
def F_lontarlaw17_Rules : AFunc := ⟨0, 109, [.tmp 0], k_lontarlaw17_Rules⟩
theorem ok_lontarlaw17_Rules : FOK Try.prog 12 F_lontarlaw17_Rules := FOK.of [[1, 2, 3], [1, 2, 23, 24, 25], [1, 2, 38, 39, 40], [1, 2, 53, 54, 55], [1, 2, 9, 10, 11, 53, 54, 55]] Try.func12 (by kernel_rfl) (by kernel_rfl)

-- lontar/tamil.Consonant
@[reducible] def i_tamil_Consonant : Nat := 13
def k_tamil_Consonant : ACode :=
 (.seq (.ops [⟨(some 2), .mv (.const (.int .i64 0)), none⟩,
   ⟨(some 3), .mv (.const (.bool false)), none⟩])
 (.seq (.seq (.ops [⟨(some 4), .mv (.tmp 0), none⟩,
   ⟨(some 5), .int .lss (.tmp 4) (.const (.int .i64 0)), none⟩,
   ⟨(some 6), .mv (.tmp 5), none⟩,
   ⟨(some 7), .mv (.tmp 0), some (6, false)⟩,
   ⟨(some 8), .call (.func 27) [], some (6, false)⟩,
   ⟨(some 9), .len false (.tmp 8), some (6, false)⟩,
   ⟨(some 10), .int .geq (.tmp 7) (.tmp 9), some (6, false)⟩,
   ⟨(some 11), .pick (.tmp 6) (.const (.bool true)) (.tmp 10), none⟩])
 (.cond (.tmp 11)
  (.seq (.ops [⟨(some 2), .mv (.const (.int .i64 0)), none⟩,
    ⟨(some 3), .mv (.const (.bool false)), none⟩])
  .ret)
  .skip))
 (.seq (.ops [⟨(some 12), .call (.func 27) [], none⟩,
   ⟨(some 13), .mv (.tmp 0), none⟩,
   ⟨(some 14), .iaddr (.tmp 12) (.tmp 13) 1, none⟩,
   ⟨(some 15), .load (.tmp 14) none, none⟩,
   ⟨(some 2), .mv (.tmp 15), none⟩,
   ⟨(some 3), .mv (.const (.bool true)), none⟩])
 .ret)))
def F_tamil_Consonant : AFunc := ⟨1, 16, [.tmp 2, .tmp 3], k_tamil_Consonant⟩
theorem ok_tamil_Consonant : FOK Try.prog 13 F_tamil_Consonant := FOK.of [] Try.func13 (by kernel_rfl) (by kernel_rfl)

-- lontar/lontarlaw17.consonants
@[reducible] def i_lontarlaw17_consonants : Nat := 14
def k_lontarlaw17_consonants : ACode :=
 (.seq (.ops [⟨(some 0), .mv (.const (.slice none 0 0)), none⟩])
 (.seq (.ops [⟨(some 1), .bslice 3 22 1 [(.int .i64 0)] [(0, 1, (.const (.int .i64 2965))), (1, 1, (.const (.int .i64 2969))), (2, 1, (.const (.int .i64 2970))), (3, 1, (.const (.int .i64 2974))), (4, 1, (.const (.int .i64 2975))), (5, 1, (.const (.int .i64 2979))), (6, 1, (.const (.int .i64 2980))), (7, 1, (.const (.int .i64 2984))), (8, 1, (.const (.int .i64 2986))), (9, 1, (.const (.int .i64 2990))), (10, 1, (.const (.int .i64 2991))), (11, 1, (.const (.int .i64 2992))), (12, 1, (.const (.int .i64 2994))), (13, 1, (.const (.int .i64 2997))), (14, 1, (.const (.int .i64 2996))), (15, 1, (.const (.int .i64 2995))), (16, 1, (.const (.int .i64 2993))), (17, 1, (.const (.int .i64 2985))), (18, 1, (.const (.int .i64 2972))), (19, 1, (.const (.int .i64 2999))), (20, 1, (.const (.int .i64 3000))), (21, 1, (.const (.int .i64 3001)))], none⟩,
   ⟨(some 0), .mv (.tmp 1), none⟩])
 .ret))
def F_lontarlaw17_consonants : AFunc := ⟨0, 2, [.tmp 0], k_lontarlaw17_consonants⟩
theorem ok_lontarlaw17_consonants : FOK Try.prog 14 F_lontarlaw17_consonants := FOK.of [] Try.func14 (by kernel_rfl) (by kernel_rfl)

-- lontar/rule.Find
@[reducible] def i_rule_Find : Nat := 18
def k_rule_Find : ACode :=
 (.seq (.ops [⟨(some 3), .box (.tmp 1) 30, none⟩,
   ⟨(some 4), .mv (.const (.int .i64 0)), none⟩])
 (.seq (.ops [⟨(some 5), .mv (.tmp 0), none⟩,
   ⟨(some 6), .mkfun (.func 34) [] [(.tmp 3)], none⟩,
   ⟨(some 7), .call (.func 33) [(.tmp 5), (.tmp 6)], none⟩,
   ⟨(some 4), .mv (.tmp 7), none⟩])
 .ret))
def F_rule_Find : AFunc := ⟨2, 8, [.tmp 4], k_rule_Find⟩
theorem ok_rule_Find : FOK Try.prog 18 F_rule_Find := FOK.of [] Try.func18 (by kernel_rfl) (by kernel_rfl)

-- lontar/lontarlaw01.Units
@[reducible] def i_lontarlaw01_Units : Nat := 22
/-- lontarlaw01_Units: the body of loop 0 -/
def b_lontarlaw01_Units_0 : ACode :=
 (.seq (.ops [⟨(some 14), .int .lss (.tmp 13) (.tmp 12), none⟩])
 (.seq (.cond (.tmp 14)
  .skip
  (.exit 0))
 (.seq (.block 1 (.seq (.ops [⟨(some 15), .mv (.tmp 13), none⟩,
   ⟨(some 5), .mv (.tmp 15), none⟩])
 (.seq (.draw [⟨(some 16), .mv (.tmp 0), none⟩,
   ⟨(some 17), .mv (.tmp 5), none⟩,
   ⟨(some 18), .iaddr (.tmp 16) (.tmp 17) 1, none⟩,
   ⟨(some 19), .load (.tmp 18) none, none⟩,
   ⟨(some 20), .mv (.tmp 1), none⟩,
   ⟨(some 21), .mv (.tmp 5), none⟩,
   ⟨(some 22), .iaddr (.tmp 20) (.tmp 21) 1, none⟩,
   ⟨(some 23), .load (.tmp 22) none, none⟩,
   ⟨(some 24), .int .neq (.tmp 19) (.tmp 23), none⟩])
 (.cond (.tmp 24)
  (.seq (.ops [⟨(some 4), .mv (.const (.bool false)), none⟩])
  .ret)
  .skip))))
 (.ops [⟨(some 25), .int .add (.tmp 13) (.const (.int .i64 1)), none⟩,
   ⟨(some 13), .mv (.tmp 25), none⟩]))))

def k_lontarlaw01_Units : ACode :=
 (.seq (.ops [⟨(some 4), .mv (.const (.bool false)), none⟩])
 (.seq (.seq (.ops [⟨(some 6), .mv (.tmp 0), none⟩,
   ⟨(some 7), .len false (.tmp 6), none⟩,
   ⟨(some 8), .mv (.tmp 1), none⟩,
   ⟨(some 9), .len false (.tmp 8), none⟩,
   ⟨(some 10), .int .neq (.tmp 7) (.tmp 9), none⟩])
 (.cond (.tmp 10)
  (.seq (.ops [⟨(some 4), .mv (.const (.bool false)), none⟩])
  .ret)
  .skip))
 (.seq (.seq (.ops [⟨(some 11), .mv (.tmp 0), none⟩,
   ⟨(some 12), .len false (.tmp 11), none⟩,
   ⟨(some 13), .mv (.const (.int .i64 0)), none⟩])
 (.block 0 (.loop [0, 1, 12, 13] b_lontarlaw01_Units_0)))
 (.seq (.ops [⟨(some 4), .mv (.const (.bool true)), none⟩])
 .ret))))
def F_lontarlaw01_Units : AFunc := ⟨2, 26, [.tmp 4], k_lontarlaw01_Units⟩
theorem ok_lontarlaw01_Units : FOK Try.prog 22 F_lontarlaw01_Units := FOK.of [[0, 1, 12, 13], [0, 1, 2, 3, 4, 5, 6, 7, 8]] Try.func22 (by kernel_rfl) (by kernel_rfl)

-- lontar/tamil.Consonants
@[reducible] def i_tamil_Consonants : Nat := 24
def k_tamil_Consonants : ACode :=
 (.seq (.ops [⟨(some 0), .mv (.const (.int .i64 0)), none⟩])
 (.seq (.ops [⟨(some 1), .call (.func 27) [], none⟩,
   ⟨(some 2), .len false (.tmp 1), none⟩,
   ⟨(some 0), .mv (.tmp 2), none⟩])
 .ret))
def F_tamil_Consonants : AFunc := ⟨0, 3, [.tmp 0], k_tamil_Consonants⟩
theorem ok_tamil_Consonants : FOK Try.prog 24 F_tamil_Consonants := FOK.of [] Try.func24 (by kernel_rfl) (by kernel_rfl)

-- lontar/tamil.one
@[reducible] def i_tamil_one : Nat := 25
def k_tamil_one : ACode :=
 (.seq (.ops [⟨(some 4), .alloc [(.slice none 0 0), (.slice none 0 0)] 42, none⟩])
 (.seq (.ops [⟨(some 5), .mv (.tmp 0), none⟩,
   ⟨(some 6), .mv (.tmp 1), none⟩,
   ⟨(some 7), .build [(.slice none 0 0), (.slice none 0 0)] [(0, 1, (.tmp 5)), (1, 1, (.tmp 6))], none⟩,
   ⟨none, .store (.tmp 4) (.tmp 7) 2, none⟩])
 .ret))
def F_tamil_one : AFunc := ⟨2, 8, [.cell 4 (some 2)], k_tamil_one⟩
theorem ok_tamil_one : FOK Try.prog 25 F_tamil_one := FOK.of [] Try.func25 (by kernel_rfl) (by kernel_rfl)

-- lontar/tamil.vowels
@[reducible] def i_tamil_vowels : Nat := 26
def k_tamil_vowels : ACode :=
 (.seq (.ops [⟨(some 0), .mv (.const (.slice none 0 0)), none⟩])
 (.seq (.ops [⟨(some 1), .bslice 3 13 1 [(.int .i64 0)] [(0, 1, (.const (.int .i64 2949))), (1, 1, (.const (.int .i64 2950))), (2, 1, (.const (.int .i64 2951))), (3, 1, (.const (.int .i64 2952))), (4, 1, (.const (.int .i64 2953))), (5, 1, (.const (.int .i64 2954))), (6, 1, (.const (.int .i64 2958))), (7, 1, (.const (.int .i64 2959))), (8, 1, (.const (.int .i64 2960))), (9, 1, (.const (.int .i64 2962))), (10, 1, (.const (.int .i64 2963))), (11, 1, (.const (.int .i64 2964))), (12, 1, (.const (.int .i64 2947)))], none⟩,
   ⟨(some 0), .mv (.tmp 1), none⟩])
 .ret))
def F_tamil_vowels : AFunc := ⟨0, 2, [.tmp 0], k_tamil_vowels⟩
theorem ok_tamil_vowels : FOK Try.prog 26 F_tamil_vowels := FOK.of [] Try.func26 (by kernel_rfl) (by kernel_rfl)

-- lontar/tamil.consonants
@[reducible] def i_tamil_consonants : Nat := 27
def k_tamil_consonants : ACode :=
 (.seq (.ops [⟨(some 0), .mv (.const (.slice none 0 0)), none⟩])
 (.seq (.ops [⟨(some 1), .bslice 3 22 1 [(.int .i64 0)] [(0, 1, (.const (.int .i64 2965))), (1, 1, (.const (.int .i64 2969))), (2, 1, (.const (.int .i64 2970))), (3, 1, (.const (.int .i64 2974))), (4, 1, (.const (.int .i64 2975))), (5, 1, (.const (.int .i64 2979))), (6, 1, (.const (.int .i64 2980))), (7, 1, (.const (.int .i64 2984))), (8, 1, (.const (.int .i64 2986))), (9, 1, (.const (.int .i64 2990))), (10, 1, (.const (.int .i64 2991))), (11, 1, (.const (.int .i64 2992))), (12, 1, (.const (.int .i64 2994))), (13, 1, (.const (.int .i64 2997))), (14, 1, (.const (.int .i64 2996))), (15, 1, (.const (.int .i64 2995))), (16, 1, (.const (.int .i64 2993))), (17, 1, (.const (.int .i64 2985))), (18, 1, (.const (.int .i64 2972))), (19, 1, (.const (.int .i64 2999))), (20, 1, (.const (.int .i64 3000))), (21, 1, (.const (.int .i64 3001)))], none⟩,
   ⟨(some 0), .mv (.tmp 1), none⟩])
 .ret))
def F_tamil_consonants : AFunc := ⟨0, 2, [.tmp 0], k_tamil_consonants⟩
theorem ok_tamil_consonants : FOK Try.prog 27 F_tamil_consonants := FOK.of [] Try.func27 (by kernel_rfl) (by kernel_rfl)

-- lontar/lontarlaw17.Rules$1
@[reducible] def i_lontarlaw17_Rules_1 : Nat := 28
def k_lontarlaw17_Rules_1 : ACode :=
 (.ops [⟨(some 5), .load (.tmp 2) none, none⟩,
   ⟨(some 6), .mv (.tmp 0), none⟩,
   ⟨(some 7), .mv (.tmp 1), none⟩,
   ⟨(some 8), .build [(.slice none 0 0), (.slice none 0 0)] [(0, 1, (.tmp 6)), (1, 1, (.tmp 7))], none⟩,
   ⟨(some 9), .bslice 42 1 2 [(.slice none 0 0), (.slice none 0 0)] [(0, 2, (.tmp 8))], none⟩,
   ⟨(some 10), .append (.tmp 5) (.tmp 9) 42 2 48, none⟩,
   ⟨none, .store (.tmp 2) (.tmp 10) 1, none⟩])
def F_lontarlaw17_Rules_1 : AFunc := ⟨3, 11, [], k_lontarlaw17_Rules_1⟩
theorem ok_lontarlaw17_Rules_1 : FOK Try.prog 28 F_lontarlaw17_Rules_1 := FOK.of [] Try.func28 (by kernel_rfl) (by kernel_rfl)

-- slices.IndexFunc[[]lontar/api.Rule,lontar/api.Rule]
@[reducible] def i_api_Rule_ : Nat := 33
/-- api_Rule_: the body of loop 0 -/
def b_api_Rule__0 : ACode :=
 (.seq (.ops [⟨(some 9), .int .lss (.tmp 8) (.tmp 7), none⟩])
 (.seq (.cond (.tmp 9)
  .skip
  (.exit 0))
 (.seq (.block 1 (.seq (.ops [⟨(some 10), .mv (.tmp 8), none⟩,
   ⟨(some 5), .mv (.tmp 10), none⟩])
 (.seq (.ops [⟨(some 11), .mv (.tmp 1), none⟩,
   ⟨(some 12), .mv (.tmp 0), none⟩,
   ⟨(some 13), .mv (.tmp 5), none⟩,
   ⟨(some 14), .iaddr (.tmp 12) (.tmp 13) 2, none⟩,
   ⟨(some 15), .load (.tmp 14) (some 2), none⟩,
   ⟨(some 16), .call (.tmp 11) [(.tmp 15)], none⟩])
 (.cond (.tmp 16)
  (.seq (.ops [⟨(some 17), .mv (.tmp 5), none⟩,
    ⟨(some 4), .mv (.tmp 17), none⟩])
  .ret)
  .skip))))
 (.ops [⟨(some 18), .int .add (.tmp 8) (.const (.int .i64 1)), none⟩,
   ⟨(some 8), .mv (.tmp 18), none⟩]))))

def k_api_Rule_ : ACode :=
 (.seq (.ops [⟨(some 4), .mv (.const (.int .i64 0)), none⟩])
 (.seq (.seq (.ops [⟨(some 6), .mv (.tmp 0), none⟩,
   ⟨(some 7), .len false (.tmp 6), none⟩,
   ⟨(some 8), .mv (.const (.int .i64 0)), none⟩])
 (.block 0 (.loop [0, 1, 7, 8] b_api_Rule__0)))
 (.seq (.ops [⟨(some 4), .mv (.const (.int .i64 (-1))), none⟩])
 .ret)))
def F_api_Rule_ : AFunc := ⟨2, 19, [.tmp 4], k_api_Rule_⟩
theorem ok_api_Rule_ : FOK Try.prog 33 F_api_Rule_ := FOK.of [[0, 1, 7, 8]] Try.func33 (by kernel_rfl) (by kernel_rfl)

-- lontar/rule.Find$1
@[reducible] def i_rule_Find_1 : Nat := 34
def k_rule_Find_1 : ACode :=
 (.seq (.ops [⟨(some 2), .box (.tmp 0) 42, none⟩,
   ⟨(some 3), .mv (.const (.bool false)), none⟩])
 (.seq (.ops [⟨(some 4), .faddr (.tmp 2) 0, none⟩,
   ⟨(some 5), .load (.tmp 4) none, none⟩,
   ⟨(some 6), .load (.tmp 1) none, none⟩,
   ⟨(some 7), .call (.func 35) [(.tmp 5), (.tmp 6)], none⟩,
   ⟨(some 3), .mv (.tmp 7), none⟩])
 .ret))
def F_rule_Find_1 : AFunc := ⟨2, 8, [.tmp 3], k_rule_Find_1⟩
theorem ok_rule_Find_1 : FOK Try.prog 34 F_rule_Find_1 := FOK.of [] Try.func34 (by kernel_rfl) (by kernel_rfl)

-- slices.Equal[[]int,int]
@[reducible] def i_slices_Equal___int_int_ : Nat := 35
/-- slices_Equal___int_int_: the body of loop 0 -/
def b_slices_Equal___int_int__0 : ACode :=
 (.seq (.ops [⟨(some 14), .int .lss (.tmp 13) (.tmp 12), none⟩])
 (.seq (.cond (.tmp 14)
  .skip
  (.exit 0))
 (.seq (.block 1 (.seq (.ops [⟨(some 15), .mv (.tmp 13), none⟩,
   ⟨(some 5), .mv (.tmp 15), none⟩])
 (.seq (.draw [⟨(some 16), .mv (.tmp 0), none⟩,
   ⟨(some 17), .mv (.tmp 5), none⟩,
   ⟨(some 18), .iaddr (.tmp 16) (.tmp 17) 1, none⟩,
   ⟨(some 19), .load (.tmp 18) none, none⟩,
   ⟨(some 20), .mv (.tmp 1), none⟩,
   ⟨(some 21), .mv (.tmp 5), none⟩,
   ⟨(some 22), .iaddr (.tmp 20) (.tmp 21) 1, none⟩,
   ⟨(some 23), .load (.tmp 22) none, none⟩,
   ⟨(some 24), .int .neq (.tmp 19) (.tmp 23), none⟩])
 (.cond (.tmp 24)
  (.seq (.ops [⟨(some 4), .mv (.const (.bool false)), none⟩])
  .ret)
  .skip))))
 (.ops [⟨(some 25), .int .add (.tmp 13) (.const (.int .i64 1)), none⟩,
   ⟨(some 13), .mv (.tmp 25), none⟩]))))

def k_slices_Equal___int_int_ : ACode :=
 (.seq (.ops [⟨(some 4), .mv (.const (.bool false)), none⟩])
 (.seq (.seq (.ops [⟨(some 6), .mv (.tmp 0), none⟩,
   ⟨(some 7), .len false (.tmp 6), none⟩,
   ⟨(some 8), .mv (.tmp 1), none⟩,
   ⟨(some 9), .len false (.tmp 8), none⟩,
   ⟨(some 10), .int .neq (.tmp 7) (.tmp 9), none⟩])
 (.cond (.tmp 10)
  (.seq (.ops [⟨(some 4), .mv (.const (.bool false)), none⟩])
  .ret)
  .skip))
 (.seq (.seq (.ops [⟨(some 11), .mv (.tmp 0), none⟩,
   ⟨(some 12), .len false (.tmp 11), none⟩,
   ⟨(some 13), .mv (.const (.int .i64 0)), none⟩])
 (.block 0 (.loop [0, 1, 12, 13] b_slices_Equal___int_int__0)))
 (.seq (.ops [⟨(some 4), .mv (.const (.bool true)), none⟩])
 .ret))))
def F_slices_Equal___int_int_ : AFunc := ⟨2, 26, [.tmp 4], k_slices_Equal___int_int_⟩
theorem ok_slices_Equal___int_int_ : FOK Try.prog 35 F_slices_Equal___int_int_ := FOK.of [[0, 1, 12, 13], [0, 1, 2, 3, 4, 5, 6, 7, 8]] Try.func35 (by kernel_rfl) (by kernel_rfl)

end Go.Proofs.Ytaijfpedioeedaa
