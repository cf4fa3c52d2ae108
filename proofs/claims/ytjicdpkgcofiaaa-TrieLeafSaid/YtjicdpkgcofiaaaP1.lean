/- What is proved here: what the program's functions come to, as far as the claimed statement asks. Conditions: those that each theorem names, and no others. -/
import Derived.Test.YtjicdpkgcofiaaaLonW
import Derived.Test.YtjicdpkgcofiaaaRows
import Derived.Test.YtjicdpkgcofiaaaLonZf
import Derived.Test.YtjicdpkgcofiaaaLonZg
/-! The functions in the interpreter's form. Written by program. -/
set_option linter.unusedSimpArgs false
namespace Go.Proofs.Ytjicdpkgcofiaaa
open Go Lon

-- lontar/lontarlaw04.TrieLongest
@[reducible] def i_lontarlaw04_TrieLongest : Nat := 3
/-- lontarlaw04_TrieLongest: the body of loop 0 -/
def b_lontarlaw04_TrieLongest_0 : ACode :=
 (.seq (.seq (.ops [⟨(some 43), .mv (.tmp 12), none⟩,
   ⟨(some 44), .mv (.tmp 11), none⟩,
   ⟨(some 45), .len false (.tmp 44), none⟩,
   ⟨(some 46), .int .leq (.tmp 43) (.tmp 45), none⟩,
   ⟨(some 47), .mv (.tmp 46), none⟩,
   ⟨(some 48), .mv (.tmp 12), some (47, true)⟩,
   ⟨(some 49), .int .lss (.tmp 48) (.const (.int .i64 12)), some (47, true)⟩,
   ⟨(some 50), .pick (.tmp 47) (.tmp 49) (.const (.bool false)), none⟩])
 (.cond (.tmp 50)
  .skip
  (.exit 2)))
 (.seq (.block 3 (.seq (.ops [⟨(some 54), .mv (.tmp 8), none⟩,
   ⟨(some 55), .mv (.tmp 11), none⟩,
   ⟨(some 56), .mv (.tmp 12), none⟩,
   ⟨(some 57), .slice (.tmp 55) none (some (.tmp 56)) 1, none⟩,
   ⟨(some 58), .call (.func 13) [(.tmp 54), (.tmp 57)], none⟩,
   ⟨(some 53), .mv (.tmp 58), none⟩,
   ⟨(some 59), .ext (.tmp 53) 0, none⟩,
   ⟨(some 60), .ext (.tmp 53) 1, none⟩,
   ⟨(some 61), .ext (.tmp 53) 2, none⟩,
   ⟨(some 13), .mv (.tmp 59), none⟩,
   ⟨(some 14), .mv (.tmp 60), none⟩,
   ⟨(some 15), .mv (.tmp 61), none⟩])
 (.seq (.ops [⟨(some 63), .mv (.tmp 7), none⟩,
   ⟨(some 64), .mv (.tmp 11), none⟩,
   ⟨(some 65), .mv (.tmp 12), none⟩,
   ⟨(some 66), .slice (.tmp 64) none (some (.tmp 65)) 1, none⟩,
   ⟨(some 67), .call (.func 14) [(.tmp 63), (.tmp 66)], none⟩,
   ⟨(some 62), .mv (.tmp 67), none⟩,
   ⟨(some 68), .ext (.tmp 62) 0, none⟩,
   ⟨(some 69), .ext (.tmp 62) 1, none⟩,
   ⟨(some 70), .ext (.tmp 62) 2, none⟩,
   ⟨(some 16), .mv (.tmp 68), none⟩,
   ⟨(some 17), .mv (.tmp 69), none⟩,
   ⟨(some 18), .mv (.tmp 70), none⟩])
 (.seq (.ops [⟨(some 71), .mv (.tmp 13), none⟩,
   ⟨(some 72), .mv (.tmp 16), none⟩,
   ⟨(some 73), .int .neq (.tmp 71) (.tmp 72), none⟩,
   ⟨(some 74), .mv (.tmp 73), none⟩,
   ⟨(some 75), .mv (.tmp 14), some (74, false)⟩,
   ⟨(some 76), .mv (.tmp 17), some (74, false)⟩,
   ⟨(some 77), .int .neq (.tmp 75) (.tmp 76), some (74, false)⟩,
   ⟨(some 78), .pick (.tmp 74) (.const (.bool true)) (.tmp 77), none⟩,
   ⟨(some 79), .mv (.tmp 78), none⟩,
   ⟨(some 80), .mv (.tmp 15), some (79, false)⟩,
   ⟨(some 81), .mv (.tmp 18), some (79, false)⟩,
   ⟨(some 82), .beq true (.tmp 80) (.tmp 81), some (79, false)⟩,
   ⟨(some 83), .pick (.tmp 79) (.const (.bool true)) (.tmp 82), none⟩])
 (.cond (.tmp 83)
  (.seq (.ops [⟨(some 6), .mv (.const (.bool false)), none⟩])
  .ret)
  .skip)))))
 (.ops [⟨(some 51), .mv (.tmp 12), none⟩,
   ⟨(some 52), .int .add (.tmp 51) (.const (.int .i64 1)), none⟩,
   ⟨(some 12), .mv (.tmp 52), none⟩])))

/-- lontarlaw04_TrieLongest: the body of loop 1 -/
def b_lontarlaw04_TrieLongest_1 : ACode :=
 (.seq (.ops [⟨(some 40), .int .lss (.tmp 39) (.tmp 38), none⟩])
 (.seq (.cond (.tmp 40)
  .skip
  (.exit 0))
 (.seq (.block 1 (.seq (.ops [⟨(some 41), .iaddr (.tmp 37) (.tmp 39) 1, none⟩,
   ⟨(some 42), .load (.tmp 41) none, none⟩,
   ⟨(some 11), .mv (.tmp 42), none⟩])
 (.seq (.ops [⟨(some 12), .mv (.const (.int .i64 0)), none⟩])
 (.block 2 (.loop [7, 8, 11, 12, 37, 38, 39] b_lontarlaw04_TrieLongest_0)))))
 (.ops [⟨(some 84), .int .add (.tmp 39) (.const (.int .i64 1)), none⟩,
   ⟨(some 39), .mv (.tmp 84), none⟩]))))

def k_lontarlaw04_TrieLongest : ACode :=
 (.seq (.ops [⟨(some 6), .mv (.const (.bool false)), none⟩])
 (.seq (.seq (.ops [⟨(some 19), .call (.func 9) [], none⟩,
   ⟨(some 20), .not (.tmp 19), none⟩])
 (.cond (.tmp 20)
  (.seq (.ops [⟨(some 6), .mv (.const (.bool false)), none⟩])
  .ret)
  .skip))
 (.seq (.ops [⟨(some 21), .mv (.tmp 0), none⟩,
   ⟨(some 22), .call (.func 10) [(.tmp 21)], none⟩,
   ⟨(some 7), .mv (.tmp 22), none⟩])
 (.seq (.ops [⟨(some 24), .mv (.tmp 7), none⟩,
   ⟨(some 25), .call (.func 11) [(.tmp 24)], none⟩,
   ⟨(some 23), .mv (.tmp 25), none⟩,
   ⟨(some 26), .ext (.tmp 23) 0, none⟩,
   ⟨(some 27), .ext (.tmp 23) 1, none⟩,
   ⟨(some 8), .mv (.tmp 26), none⟩,
   ⟨(some 9), .mv (.tmp 27), none⟩])
 (.seq (.seq (.ops [⟨(some 28), .mv (.tmp 8), none⟩,
   ⟨(some 29), .isNil 0 false (.tmp 28), none⟩,
   ⟨(some 30), .mv (.tmp 29), none⟩,
   ⟨(some 31), .mv (.tmp 9), some (30, false)⟩,
   ⟨(some 32), .int .neq (.tmp 31) (.const (.int .i64 0)), some (30, false)⟩,
   ⟨(some 33), .pick (.tmp 30) (.const (.bool true)) (.tmp 32), none⟩])
 (.cond (.tmp 33)
  (.seq (.ops [⟨(some 6), .mv (.const (.bool false)), none⟩])
  .ret)
  .skip))
 (.seq (.seq (.ops [⟨(some 34), .mv (.tmp 1), none⟩,
   ⟨(some 35), .call (.func 12) [(.tmp 34)], none⟩,
   ⟨(some 36), .mv (.tmp 2), none⟩,
   ⟨(some 37), .bslice 24 3 1 [(.slice none 0 0)] [(0, 1, (.tmp 35)), (1, 1, (.tmp 36)), (2, 1, (.const (.slice none 0 0)))], none⟩,
   ⟨(some 38), .len false (.tmp 37), none⟩,
   ⟨(some 39), .mv (.const (.int .i64 0)), none⟩])
 (.block 0 (.loop [7, 8, 37, 38, 39] b_lontarlaw04_TrieLongest_1)))
 (.seq (.ops [⟨(some 6), .mv (.const (.bool true)), none⟩])
 .ret)))))))
def F_lontarlaw04_TrieLongest : AFunc := ⟨3, 85, [.tmp 6], k_lontarlaw04_TrieLongest⟩
theorem ok_lontarlaw04_TrieLongest : FOK Try.prog 3 F_lontarlaw04_TrieLongest := FOK.of [[7, 8, 37, 38, 39], [7, 8, 11, 12, 37, 38, 39]] Try.func3 (by kernel_rfl) (by kernel_rfl)

-- lontar/lontarlaw04.TrieOf
@[reducible] def i_lontarlaw04_TrieOf : Nat := 4
/-- lontarlaw04_TrieOf: the body of loop 0 -/
def b_lontarlaw04_TrieOf_0 : ACode :=
 (.seq (.ops [⟨(some 60), .int .lss (.tmp 59) (.tmp 58), none⟩])
 (.seq (.cond (.tmp 60)
  .skip
  (.exit 4))
 (.seq (.block 5 (.seq (.ops [⟨(some 61), .iaddr (.tmp 57) (.tmp 59) 1, none⟩,
   ⟨(some 62), .load (.tmp 61) none, none⟩,
   ⟨(some 14), .mv (.tmp 62), none⟩])
 (.ops [⟨(some 63), .mv (.tmp 12), none⟩,
   ⟨(some 64), .mv (.tmp 63), none⟩,
   ⟨(some 65), .mv (.tmp 14), some (64, false)⟩,
   ⟨(some 66), .faddr (.tmp 10) 0, some (64, false)⟩,
   ⟨(some 67), .load (.tmp 66) none, some (64, false)⟩,
   ⟨(some 68), .mv (.tmp 11), some (64, false)⟩,
   ⟨(some 69), .slice (.tmp 67) none (some (.tmp 68)) 1, some (64, false)⟩,
   ⟨(some 70), .call (.func 17) [(.tmp 65), (.tmp 69)], some (64, false)⟩,
   ⟨(some 71), .pick (.tmp 64) (.const (.bool true)) (.tmp 70), none⟩,
   ⟨(some 12), .mv (.tmp 71), none⟩])))
 (.ops [⟨(some 72), .int .add (.tmp 59) (.const (.int .i64 1)), none⟩,
   ⟨(some 59), .mv (.tmp 72), none⟩]))))

/-- lontarlaw04_TrieOf: the body of loop 1 -/
def b_lontarlaw04_TrieOf_1 : ACode :=
 (.seq (.seq (.ops [⟨(some 50), .mv (.tmp 11), none⟩,
   ⟨(some 51), .faddr (.tmp 10) 0, none⟩,
   ⟨(some 52), .load (.tmp 51) none, none⟩,
   ⟨(some 53), .len false (.tmp 52), none⟩,
   ⟨(some 54), .int .leq (.tmp 50) (.tmp 53), none⟩])
 (.cond (.tmp 54)
  .skip
  (.exit 2)))
 (.seq (.block 3 (.seq (.ops [⟨(some 12), .mv (.const (.bool false)), none⟩])
 (.seq (.seq (.ops [⟨(some 57), .mv (.tmp 8), none⟩,
   ⟨(some 58), .len false (.tmp 57), none⟩,
   ⟨(some 59), .mv (.const (.int .i64 0)), none⟩])
 (.block 4 (.loop [4, 8, 10, 11, 12, 44, 45, 46, 57, 58, 59] b_lontarlaw04_TrieOf_0)))
 (.seq (.ops [⟨(some 73), .mv (.tmp 12), none⟩,
   ⟨(some 74), .not (.tmp 73), none⟩])
 (.cond (.tmp 74)
  (.ops [⟨(some 75), .mv (.tmp 8), none⟩,
    ⟨(some 76), .faddr (.tmp 10) 0, none⟩,
    ⟨(some 77), .load (.tmp 76) none, none⟩,
    ⟨(some 78), .mv (.tmp 11), none⟩,
    ⟨(some 79), .slice (.tmp 77) none (some (.tmp 78)) 1, none⟩,
    ⟨(some 80), .bslice 24 1 1 [(.slice none 0 0)] [(0, 1, (.tmp 79))], none⟩,
    ⟨(some 81), .append (.tmp 75) (.tmp 80) 24 1 24, none⟩,
    ⟨(some 8), .mv (.tmp 81), none⟩])
  .skip)))))
 (.ops [⟨(some 55), .mv (.tmp 11), none⟩,
   ⟨(some 56), .int .add (.tmp 55) (.const (.int .i64 1)), none⟩,
   ⟨(some 11), .mv (.tmp 56), none⟩])))

/-- lontarlaw04_TrieOf: the body of loop 2 -/
def b_lontarlaw04_TrieOf_2 : ACode :=
 (.seq (.ops [⟨(some 47), .int .lss (.tmp 46) (.tmp 45), none⟩])
 (.seq (.cond (.tmp 47)
  .skip
  (.exit 0))
 (.seq (.block 1 (.seq (.ops [⟨(some 48), .iaddr (.tmp 44) (.tmp 46) 2, none⟩,
   ⟨(some 49), .load (.tmp 48) (some 2), none⟩,
   ⟨(some 10), .alloc [(.slice none 0 0), (.slice none 0 0)] 41, none⟩,
   ⟨none, .store (.tmp 10) (.tmp 49) 2, none⟩])
 (.seq (.ops [⟨(some 11), .mv (.const (.int .i64 1)), none⟩])
 (.block 2 (.loop [4, 8, 10, 11, 44, 45, 46] b_lontarlaw04_TrieOf_1)))))
 (.ops [⟨(some 82), .int .add (.tmp 46) (.const (.int .i64 1)), none⟩,
   ⟨(some 46), .mv (.tmp 82), none⟩]))))

def k_lontarlaw04_TrieOf : ACode :=
 (.seq (.ops [⟨(some 2), .mv (.const (.bool false)), none⟩])
 (.seq (.seq (.ops [⟨(some 15), .call (.func 9) [], none⟩,
   ⟨(some 16), .not (.tmp 15), none⟩])
 (.cond (.tmp 16)
  (.seq (.ops [⟨(some 2), .mv (.const (.bool false)), none⟩])
  .ret)
  .skip))
 (.seq (.ops [⟨(some 17), .mv (.tmp 0), none⟩,
   ⟨(some 18), .call (.func 15) [(.tmp 17)], none⟩,
   ⟨(some 3), .mv (.tmp 18), none⟩])
 (.seq (.ops [⟨(some 20), .mv (.tmp 3), none⟩,
   ⟨(some 21), .call (.func 11) [(.tmp 20)], none⟩,
   ⟨(some 19), .mv (.tmp 21), none⟩,
   ⟨(some 22), .ext (.tmp 19) 0, none⟩,
   ⟨(some 23), .ext (.tmp 19) 1, none⟩,
   ⟨(some 4), .mv (.tmp 22), none⟩,
   ⟨(some 5), .mv (.tmp 23), none⟩])
 (.seq (.ops [⟨(some 25), .mv (.tmp 3), none⟩,
   ⟨(some 26), .call (.func 16) [(.tmp 25)], none⟩,
   ⟨(some 24), .mv (.tmp 26), none⟩,
   ⟨(some 27), .ext (.tmp 24) 0, none⟩,
   ⟨(some 28), .ext (.tmp 24) 1, none⟩,
   ⟨(some 6), .mv (.tmp 27), none⟩,
   ⟨(some 7), .mv (.tmp 28), none⟩])
 (.seq (.seq (.ops [⟨(some 29), .mv (.tmp 7), none⟩,
   ⟨(some 30), .int .neq (.tmp 29) (.const (.int .i64 0)), none⟩])
 (.cond (.tmp 30)
  (.seq (.ops [⟨(some 31), .mv (.tmp 4), none⟩,
    ⟨(some 32), .isNil 0 false (.tmp 31), none⟩,
    ⟨(some 33), .mv (.tmp 32), none⟩,
    ⟨(some 34), .mv (.tmp 5), some (33, true)⟩,
    ⟨(some 35), .mv (.tmp 7), some (33, true)⟩,
    ⟨(some 36), .int .eql (.tmp 34) (.tmp 35), some (33, true)⟩,
    ⟨(some 37), .pick (.tmp 33) (.tmp 36) (.const (.bool false)), none⟩,
    ⟨(some 2), .mv (.tmp 37), none⟩])
  .ret)
  .skip))
 (.seq (.seq (.ops [⟨(some 38), .mv (.tmp 4), none⟩,
   ⟨(some 39), .isNil 0 false (.tmp 38), none⟩,
   ⟨(some 40), .mv (.tmp 39), none⟩,
   ⟨(some 41), .mv (.tmp 5), some (40, false)⟩,
   ⟨(some 42), .int .neq (.tmp 41) (.const (.int .i64 0)), some (40, false)⟩,
   ⟨(some 43), .pick (.tmp 40) (.const (.bool true)) (.tmp 42), none⟩])
 (.cond (.tmp 43)
  (.seq (.ops [⟨(some 2), .mv (.const (.bool false)), none⟩])
  .ret)
  .skip))
 (.seq (.ops [⟨(some 8), .mv (.const (.slice none 0 0)), none⟩])
 (.seq (.seq (.ops [⟨(some 44), .mv (.tmp 3), none⟩,
   ⟨(some 45), .len false (.tmp 44), none⟩,
   ⟨(some 46), .mv (.const (.int .i64 0)), none⟩])
 (.block 0 (.loop [4, 8, 44, 45, 46] b_lontarlaw04_TrieOf_2)))
 (.seq (.ops [⟨(some 83), .mv (.tmp 4), none⟩,
   ⟨(some 84), .call (.func 18) [(.tmp 83)], none⟩,
   ⟨(some 85), .mv (.tmp 8), none⟩,
   ⟨(some 86), .len false (.tmp 85), none⟩,
   ⟨(some 87), .int .add (.tmp 86) (.const (.int .i64 1)), none⟩,
   ⟨(some 88), .int .eql (.tmp 84) (.tmp 87), none⟩,
   ⟨(some 2), .mv (.tmp 88), none⟩])
 .ret))))))))))
def F_lontarlaw04_TrieOf : AFunc := ⟨1, 89, [.tmp 2], k_lontarlaw04_TrieOf⟩
theorem ok_lontarlaw04_TrieOf : FOK Try.prog 4 F_lontarlaw04_TrieOf := FOK.of [[4, 8, 44, 45, 46], [4, 8, 10, 11, 44, 45, 46], [4, 8, 10, 11, 12, 44, 45, 46, 57, 58, 59]] Try.func4 (by kernel_rfl) (by kernel_rfl)

-- lontar/lontarlaw04.TrieLeaf
@[reducible] def i_lontarlaw04_TrieLeaf : Nat := 5
/-- lontarlaw04_TrieLeaf: the body of loop 0 -/
def b_lontarlaw04_TrieLeaf_0 : ACode :=
 (.seq (.ops [⟨(some 20), .int .lss (.tmp 19) (.tmp 18), none⟩])
 (.seq (.cond (.tmp 20)
  .skip
  (.exit 0))
 (.seq (.block 1 (.seq (.ops [⟨(some 21), .iaddr (.tmp 17) (.tmp 19) 5, none⟩,
   ⟨(some 22), .load (.tmp 21) (some 5), none⟩,
   ⟨(some 7), .alloc [(.slice none 0 0), (.slice none 0 0), (.bool false), (.slice none 0 0), (.slice none 0 0)] 46, none⟩,
   ⟨none, .store (.tmp 7) (.tmp 22) 5, none⟩])
 (.seq (.ops [⟨(some 23), .faddr (.tmp 7) 2, none⟩,
   ⟨none, .store (.tmp 23) (.const (.bool false)) 1, none⟩])
 (.ops [⟨(some 24), .mv (.tmp 5), none⟩,
   ⟨(some 25), .load (.tmp 7) (some 5), none⟩,
   ⟨(some 26), .bslice 46 1 5 [(.slice none 0 0), (.slice none 0 0), (.bool false), (.slice none 0 0), (.slice none 0 0)] [(0, 5, (.tmp 25))], none⟩,
   ⟨(some 27), .append (.tmp 24) (.tmp 26) 46 5 104, none⟩,
   ⟨(some 5), .mv (.tmp 27), none⟩]))))
 (.ops [⟨(some 28), .int .add (.tmp 19) (.const (.int .i64 1)), none⟩,
   ⟨(some 19), .mv (.tmp 28), none⟩]))))

/-- lontarlaw04_TrieLeaf: the body of loop 1 -/
def b_lontarlaw04_TrieLeaf_1 : ACode :=
 (.seq (.seq (.ops [⟨(some 47), .mv (.tmp 12), none⟩,
   ⟨(some 48), .int .lss (.tmp 47) (.const (.int .i32 104)), none⟩])
 (.cond (.tmp 48)
  .skip
  (.exit 4)))
 (.seq (.block 5 (.seq (.ops [⟨(some 52), .mv (.tmp 8), none⟩,
   ⟨(some 53), .mv (.tmp 10), none⟩,
   ⟨(some 54), .mv (.tmp 12), none⟩,
   ⟨(some 55), .conv .i64 (.tmp 54), none⟩,
   ⟨(some 56), .call (.func 19) [(.tmp 52), (.tmp 53), (.tmp 55)], none⟩,
   ⟨(some 51), .mv (.tmp 56), none⟩,
   ⟨(some 57), .ext (.tmp 51) 0, none⟩,
   ⟨(some 58), .ext (.tmp 51) 1, none⟩,
   ⟨(some 13), .mv (.tmp 57), none⟩,
   ⟨(some 14), .mv (.tmp 58), none⟩])
 (.seq (.ops [⟨(some 59), .mv (.tmp 14), none⟩])
 (.cond (.tmp 59)
  (.ops [⟨(some 60), .mv (.tmp 11), none⟩,
    ⟨(some 61), .int .add (.tmp 60) (.const (.int .i64 1)), none⟩,
    ⟨(some 11), .mv (.tmp 61), none⟩])
  .skip))))
 (.ops [⟨(some 49), .mv (.tmp 12), none⟩,
   ⟨(some 50), .int .add (.tmp 49) (.const (.int .i32 1)), none⟩,
   ⟨(some 12), .mv (.tmp 50), none⟩])))

/-- lontarlaw04_TrieLeaf: the body of loop 2 -/
def b_lontarlaw04_TrieLeaf_2 : ACode :=
 (.seq (.seq (.ops [⟨(some 41), .mv (.tmp 10), none⟩,
   ⟨(some 42), .mv (.tmp 8), none⟩,
   ⟨(some 43), .call (.func 18) [(.tmp 42)], none⟩,
   ⟨(some 44), .int .lss (.tmp 41) (.tmp 43), none⟩])
 (.cond (.tmp 44)
  .skip
  (.exit 2)))
 (.seq (.block 3 (.seq (.ops [⟨(some 11), .mv (.const (.int .i64 0)), none⟩])
 (.seq (.seq (.ops [⟨(some 12), .mv (.const (.int .i32 97)), none⟩])
 (.block 4 (.loop [8, 10, 11, 12] b_lontarlaw04_TrieLeaf_1)))
 (.seq (.ops [⟨(some 62), .mv (.tmp 8), none⟩,
   ⟨(some 63), .mv (.tmp 10), none⟩,
   ⟨(some 64), .call (.func 20) [(.tmp 62), (.tmp 63)], none⟩,
   ⟨(some 65), .mv (.tmp 11), none⟩,
   ⟨(some 66), .int .eql (.tmp 65) (.const (.int .i64 0)), none⟩,
   ⟨(some 67), .beq true (.tmp 64) (.tmp 66), none⟩])
 (.cond (.tmp 67)
  (.seq (.ops [⟨(some 4), .mv (.const (.bool false)), none⟩])
  .ret)
  .skip)))))
 (.ops [⟨(some 45), .mv (.tmp 10), none⟩,
   ⟨(some 46), .int .add (.tmp 45) (.const (.int .i64 1)), none⟩,
   ⟨(some 10), .mv (.tmp 46), none⟩])))

def k_lontarlaw04_TrieLeaf : ACode :=
 (.seq (.ops [⟨(some 4), .mv (.const (.bool false)), none⟩])
 (.seq (.seq (.ops [⟨(some 15), .call (.func 9) [], none⟩,
   ⟨(some 16), .not (.tmp 15), none⟩])
 (.cond (.tmp 16)
  (.seq (.ops [⟨(some 4), .mv (.const (.bool false)), none⟩])
  .ret)
  .skip))
 (.seq (.ops [⟨(some 5), .mv (.const (.slice none 0 0)), none⟩])
 (.seq (.seq (.ops [⟨(some 17), .mv (.tmp 0), none⟩,
   ⟨(some 18), .len false (.tmp 17), none⟩,
   ⟨(some 19), .mv (.const (.int .i64 0)), none⟩])
 (.block 0 (.loop [5, 17, 18, 19] b_lontarlaw04_TrieLeaf_0)))
 (.seq (.ops [⟨(some 30), .mv (.tmp 5), none⟩,
   ⟨(some 31), .call (.func 10) [(.tmp 30)], none⟩,
   ⟨(some 32), .call (.func 11) [(.tmp 31)], none⟩,
   ⟨(some 29), .mv (.tmp 32), none⟩,
   ⟨(some 33), .ext (.tmp 29) 0, none⟩,
   ⟨(some 34), .ext (.tmp 29) 1, none⟩,
   ⟨(some 8), .mv (.tmp 33), none⟩,
   ⟨(some 9), .mv (.tmp 34), none⟩])
 (.seq (.seq (.ops [⟨(some 35), .mv (.tmp 8), none⟩,
   ⟨(some 36), .isNil 0 false (.tmp 35), none⟩,
   ⟨(some 37), .mv (.tmp 36), none⟩,
   ⟨(some 38), .mv (.tmp 9), some (37, false)⟩,
   ⟨(some 39), .int .neq (.tmp 38) (.const (.int .i64 0)), some (37, false)⟩,
   ⟨(some 40), .pick (.tmp 37) (.const (.bool true)) (.tmp 39), none⟩])
 (.cond (.tmp 40)
  (.seq (.ops [⟨(some 4), .mv (.const (.bool false)), none⟩])
  .ret)
  .skip))
 (.seq (.seq (.ops [⟨(some 10), .mv (.const (.int .i64 0)), none⟩])
 (.block 2 (.loop [8, 10] b_lontarlaw04_TrieLeaf_2)))
 (.seq (.ops [⟨(some 4), .mv (.const (.bool true)), none⟩])
 .ret))))))))
def F_lontarlaw04_TrieLeaf : AFunc := ⟨2, 68, [.tmp 4], k_lontarlaw04_TrieLeaf⟩
theorem ok_lontarlaw04_TrieLeaf : FOK Try.prog 5 F_lontarlaw04_TrieLeaf := FOK.of [[5, 17, 18, 19], [8, 10], [8, 10, 11, 12]] Try.func5 (by kernel_rfl) (by kernel_rfl)

-- lontar/lontarlaw04.TrieMore
@[reducible] def i_lontarlaw04_TrieMore : Nat := 6
/-- lontarlaw04_TrieMore: the body of loop 0 -/
def b_lontarlaw04_TrieMore_0 : ACode :=
 (.seq (.ops [⟨(some 40), .int .lss (.tmp 39) (.tmp 38), none⟩])
 (.seq (.cond (.tmp 40)
  .skip
  (.exit 0))
 (.seq (.block 1 (.seq (.ops [⟨(some 41), .mv (.tmp 39), none⟩,
   ⟨(some 11), .mv (.tmp 41), none⟩])
 (.seq (.ops [⟨(some 43), .mv (.tmp 5), none⟩,
   ⟨(some 44), .mv (.tmp 7), none⟩,
   ⟨(some 45), .mv (.tmp 11), none⟩,
   ⟨(some 46), .int .add (.tmp 45) (.const (.int .i64 1)), none⟩,
   ⟨(some 47), .slice (.tmp 44) none (some (.tmp 46)) 1, none⟩,
   ⟨(some 48), .call (.func 13) [(.tmp 43), (.tmp 47)], none⟩,
   ⟨(some 42), .mv (.tmp 48), none⟩,
   ⟨(some 49), .ext (.tmp 42) 0, none⟩,
   ⟨(some 50), .ext (.tmp 42) 1, none⟩,
   ⟨(some 51), .ext (.tmp 42) 2, none⟩,
   ⟨(some 12), .mv (.tmp 49), none⟩,
   ⟨(some 13), .mv (.tmp 50), none⟩,
   ⟨(some 14), .mv (.tmp 51), none⟩])
 (.seq (.seq (.ops [⟨(some 52), .mv (.tmp 13), none⟩,
   ⟨(some 53), .mv (.tmp 9), none⟩,
   ⟨(some 54), .int .lss (.tmp 52) (.tmp 53), none⟩,
   ⟨(some 55), .mv (.tmp 54), none⟩,
   ⟨(some 56), .mv (.tmp 10), some (55, false)⟩,
   ⟨(some 57), .not (.tmp 56), some (55, false)⟩,
   ⟨(some 58), .mv (.tmp 57), some (55, false)⟩,
   ⟨(some 59), .mv (.tmp 12), some (58, true)⟩,
   ⟨(some 60), .mv (.tmp 8), some (58, true)⟩,
   ⟨(some 61), .int .neq (.tmp 59) (.tmp 60), some (58, true)⟩,
   ⟨(some 62), .mv (.tmp 61), some (58, true)⟩,
   ⟨(some 63), .mv (.tmp 13), some (62, false)⟩,
   ⟨(some 64), .mv (.tmp 9), some (62, false)⟩,
   ⟨(some 65), .int .neq (.tmp 63) (.tmp 64), some (62, false)⟩,
   ⟨(some 66), .pick (.tmp 62) (.const (.bool true)) (.tmp 65), some (58, true)⟩,
   ⟨(some 67), .mv (.tmp 66), some (58, true)⟩,
   ⟨(some 68), .mv (.tmp 14), some (67, false)⟩,
   ⟨(some 69), .pick (.tmp 67) (.const (.bool true)) (.tmp 68), some (58, true)⟩,
   ⟨(some 70), .pick (.tmp 58) (.tmp 69) (.const (.bool false)), some (55, false)⟩,
   ⟨(some 71), .pick (.tmp 55) (.const (.bool true)) (.tmp 70), none⟩,
   ⟨(some 72), .mv (.tmp 71), none⟩,
   ⟨(some 73), .mv (.tmp 13), some (72, false)⟩,
   ⟨(some 74), .mv (.tmp 11), some (72, false)⟩,
   ⟨(some 75), .int .add (.tmp 74) (.const (.int .i64 1)), some (72, false)⟩,
   ⟨(some 76), .int .gtr (.tmp 73) (.tmp 75), some (72, false)⟩,
   ⟨(some 77), .pick (.tmp 72) (.const (.bool true)) (.tmp 76), none⟩])
 (.cond (.tmp 77)
  (.seq (.ops [⟨(some 4), .mv (.const (.bool false)), none⟩])
  .ret)
  .skip))
 (.ops [⟨(some 78), .mv (.tmp 12), none⟩,
   ⟨(some 79), .mv (.tmp 13), none⟩,
   ⟨(some 80), .mv (.tmp 14), none⟩,
   ⟨(some 8), .mv (.tmp 78), none⟩,
   ⟨(some 9), .mv (.tmp 79), none⟩,
   ⟨(some 10), .mv (.tmp 80), none⟩])))))
 (.ops [⟨(some 81), .int .add (.tmp 39) (.const (.int .i64 1)), none⟩,
   ⟨(some 39), .mv (.tmp 81), none⟩]))))

def k_lontarlaw04_TrieMore : ACode :=
 (.seq (.ops [⟨(some 4), .mv (.const (.bool false)), none⟩])
 (.seq (.seq (.ops [⟨(some 15), .call (.func 9) [], none⟩,
   ⟨(some 16), .not (.tmp 15), none⟩])
 (.cond (.tmp 16)
  (.seq (.ops [⟨(some 4), .mv (.const (.bool false)), none⟩])
  .ret)
  .skip))
 (.seq (.ops [⟨(some 18), .mv (.tmp 0), none⟩,
   ⟨(some 19), .call (.func 10) [(.tmp 18)], none⟩,
   ⟨(some 20), .call (.func 11) [(.tmp 19)], none⟩,
   ⟨(some 17), .mv (.tmp 20), none⟩,
   ⟨(some 21), .ext (.tmp 17) 0, none⟩,
   ⟨(some 22), .ext (.tmp 17) 1, none⟩,
   ⟨(some 5), .mv (.tmp 21), none⟩,
   ⟨(some 6), .mv (.tmp 22), none⟩])
 (.seq (.seq (.ops [⟨(some 23), .mv (.tmp 5), none⟩,
   ⟨(some 24), .isNil 0 false (.tmp 23), none⟩,
   ⟨(some 25), .mv (.tmp 24), none⟩,
   ⟨(some 26), .mv (.tmp 6), some (25, false)⟩,
   ⟨(some 27), .int .neq (.tmp 26) (.const (.int .i64 0)), some (25, false)⟩,
   ⟨(some 28), .pick (.tmp 25) (.const (.bool true)) (.tmp 27), none⟩])
 (.cond (.tmp 28)
  (.seq (.ops [⟨(some 4), .mv (.const (.bool false)), none⟩])
  .ret)
  .skip))
 (.seq (.ops [⟨(some 29), .mv (.tmp 1), none⟩,
   ⟨(some 30), .call (.func 12) [(.tmp 29)], none⟩,
   ⟨(some 7), .mv (.tmp 30), none⟩])
 (.seq (.ops [⟨(some 32), .mv (.tmp 5), none⟩,
   ⟨(some 33), .call (.func 13) [(.tmp 32), (.const (.slice none 0 0))], none⟩,
   ⟨(some 31), .mv (.tmp 33), none⟩,
   ⟨(some 34), .ext (.tmp 31) 0, none⟩,
   ⟨(some 35), .ext (.tmp 31) 1, none⟩,
   ⟨(some 36), .ext (.tmp 31) 2, none⟩,
   ⟨(some 8), .mv (.tmp 34), none⟩,
   ⟨(some 9), .mv (.tmp 35), none⟩,
   ⟨(some 10), .mv (.tmp 36), none⟩])
 (.seq (.seq (.ops [⟨(some 37), .mv (.tmp 7), none⟩,
   ⟨(some 38), .len false (.tmp 37), none⟩,
   ⟨(some 39), .mv (.const (.int .i64 0)), none⟩])
 (.block 0 (.loop [5, 7, 8, 9, 10, 38, 39] b_lontarlaw04_TrieMore_0)))
 (.seq (.ops [⟨(some 4), .mv (.const (.bool true)), none⟩])
 .ret))))))))
def F_lontarlaw04_TrieMore : AFunc := ⟨2, 82, [.tmp 4], k_lontarlaw04_TrieMore⟩
theorem ok_lontarlaw04_TrieMore : FOK Try.prog 6 F_lontarlaw04_TrieMore := FOK.of [[5, 7, 8, 9, 10, 38, 39]] Try.func6 (by kernel_rfl) (by kernel_rfl)

-- lontar/lontarlaw04.TrieAll
@[reducible] def i_lontarlaw04_TrieAll : Nat := 7
/-- lontarlaw04_TrieAll: the body of loop 0 -/
def b_lontarlaw04_TrieAll_0 : ACode :=
 (.seq (.ops [⟨(some 32), .int .lss (.tmp 31) (.tmp 30), none⟩])
 (.seq (.cond (.tmp 32)
  .skip
  (.exit 0))
 (.seq (.block 1 (.seq (.ops [⟨(some 33), .mv (.tmp 31), none⟩,
   ⟨(some 34), .iaddr (.tmp 29) (.tmp 31) 2, none⟩,
   ⟨(some 35), .load (.tmp 34) (some 2), none⟩,
   ⟨(some 7), .alloc [(.slice none 0 0), (.slice none 0 0)] 41, none⟩,
   ⟨(some 6), .mv (.tmp 33), none⟩,
   ⟨none, .store (.tmp 7) (.tmp 35) 2, none⟩])
 (.seq (.ops [⟨(some 37), .mv (.tmp 4), none⟩,
   ⟨(some 38), .faddr (.tmp 7) 0, none⟩,
   ⟨(some 39), .load (.tmp 38) none, none⟩,
   ⟨(some 40), .call (.func 13) [(.tmp 37), (.tmp 39)], none⟩,
   ⟨(some 36), .mv (.tmp 40), none⟩,
   ⟨(some 41), .ext (.tmp 36) 0, none⟩,
   ⟨(some 42), .ext (.tmp 36) 1, none⟩,
   ⟨(some 43), .ext (.tmp 36) 2, none⟩,
   ⟨(some 8), .mv (.tmp 41), none⟩,
   ⟨(some 9), .mv (.tmp 42), none⟩,
   ⟨(some 10), .mv (.tmp 43), none⟩])
 (.seq (.ops [⟨(some 44), .mv (.tmp 8), none⟩,
   ⟨(some 45), .mv (.tmp 6), none⟩,
   ⟨(some 46), .int .neq (.tmp 44) (.tmp 45), none⟩,
   ⟨(some 47), .mv (.tmp 46), none⟩,
   ⟨(some 48), .mv (.tmp 9), some (47, false)⟩,
   ⟨(some 49), .faddr (.tmp 7) 0, some (47, false)⟩,
   ⟨(some 50), .load (.tmp 49) none, some (47, false)⟩,
   ⟨(some 51), .len false (.tmp 50), some (47, false)⟩,
   ⟨(some 52), .int .neq (.tmp 48) (.tmp 51), some (47, false)⟩,
   ⟨(some 53), .pick (.tmp 47) (.const (.bool true)) (.tmp 52), none⟩])
 (.cond (.tmp 53)
  (.seq (.ops [⟨(some 2), .mv (.const (.bool false)), none⟩])
  .ret)
  .skip)))))
 (.ops [⟨(some 54), .int .add (.tmp 31) (.const (.int .i64 1)), none⟩,
   ⟨(some 31), .mv (.tmp 54), none⟩]))))

def k_lontarlaw04_TrieAll : ACode :=
 (.seq (.ops [⟨(some 2), .mv (.const (.bool false)), none⟩])
 (.seq (.seq (.ops [⟨(some 14), .call (.func 9) [], none⟩,
   ⟨(some 15), .not (.tmp 14), none⟩])
 (.cond (.tmp 15)
  (.seq (.ops [⟨(some 2), .mv (.const (.bool false)), none⟩])
  .ret)
  .skip))
 (.seq (.ops [⟨(some 16), .mv (.tmp 0), none⟩,
   ⟨(some 17), .call (.func 10) [(.tmp 16)], none⟩,
   ⟨(some 3), .mv (.tmp 17), none⟩])
 (.seq (.ops [⟨(some 19), .mv (.tmp 3), none⟩,
   ⟨(some 20), .call (.func 11) [(.tmp 19)], none⟩,
   ⟨(some 18), .mv (.tmp 20), none⟩,
   ⟨(some 21), .ext (.tmp 18) 0, none⟩,
   ⟨(some 22), .ext (.tmp 18) 1, none⟩,
   ⟨(some 4), .mv (.tmp 21), none⟩,
   ⟨(some 5), .mv (.tmp 22), none⟩])
 (.seq (.seq (.ops [⟨(some 23), .mv (.tmp 4), none⟩,
   ⟨(some 24), .isNil 0 false (.tmp 23), none⟩,
   ⟨(some 25), .mv (.tmp 24), none⟩,
   ⟨(some 26), .mv (.tmp 5), some (25, false)⟩,
   ⟨(some 27), .int .neq (.tmp 26) (.const (.int .i64 0)), some (25, false)⟩,
   ⟨(some 28), .pick (.tmp 25) (.const (.bool true)) (.tmp 27), none⟩])
 (.cond (.tmp 28)
  (.seq (.ops [⟨(some 2), .mv (.const (.bool false)), none⟩])
  .ret)
  .skip))
 (.seq (.seq (.ops [⟨(some 29), .mv (.tmp 3), none⟩,
   ⟨(some 30), .len false (.tmp 29), none⟩,
   ⟨(some 31), .mv (.const (.int .i64 0)), none⟩])
 (.block 0 (.loop [4, 29, 30, 31] b_lontarlaw04_TrieAll_0)))
 (.seq (.ops [⟨(some 56), .mv (.tmp 4), none⟩,
   ⟨(some 57), .call (.func 13) [(.tmp 56), (.const (.slice none 0 0))], none⟩,
   ⟨(some 55), .mv (.tmp 57), none⟩,
   ⟨(some 58), .ext (.tmp 55) 0, none⟩,
   ⟨(some 59), .ext (.tmp 55) 1, none⟩,
   ⟨(some 60), .ext (.tmp 55) 2, none⟩,
   ⟨(some 11), .mv (.tmp 58), none⟩,
   ⟨(some 12), .mv (.tmp 59), none⟩,
   ⟨(some 13), .mv (.tmp 60), none⟩])
 (.seq (.ops [⟨(some 61), .mv (.tmp 11), none⟩,
   ⟨(some 62), .int .eql (.tmp 61) (.const (.int .i64 (-1))), none⟩,
   ⟨(some 63), .mv (.tmp 62), none⟩,
   ⟨(some 64), .mv (.tmp 12), some (63, true)⟩,
   ⟨(some 65), .int .eql (.tmp 64) (.const (.int .i64 0)), some (63, true)⟩,
   ⟨(some 66), .pick (.tmp 63) (.tmp 65) (.const (.bool false)), none⟩,
   ⟨(some 2), .mv (.tmp 66), none⟩])
 .ret))))))))
def F_lontarlaw04_TrieAll : AFunc := ⟨1, 67, [.tmp 2], k_lontarlaw04_TrieAll⟩
theorem ok_lontarlaw04_TrieAll : FOK Try.prog 7 F_lontarlaw04_TrieAll := FOK.of [[4, 29, 30, 31]] Try.func7 (by kernel_rfl) (by kernel_rfl)

-- lontar/lontarlaw04.TrieSteps
@[reducible] def i_lontarlaw04_TrieSteps : Nat := 8
/-- lontarlaw04_TrieSteps: the body of loop 0 -/
def b_lontarlaw04_TrieSteps_0 : ACode :=
 (.seq (.ops [⟨(some 45), .int .lss (.tmp 44) (.tmp 43), none⟩])
 (.seq (.cond (.tmp 45)
  .skip
  (.exit 2))
 (.seq (.block 3 (.seq (.ops [⟨(some 46), .iaddr (.tmp 42) (.tmp 44) 1, none⟩,
   ⟨(some 47), .load (.tmp 46) none, none⟩,
   ⟨(some 14), .mv (.tmp 47), none⟩])
 (.seq (.ops [⟨(some 49), .mv (.tmp 8), none⟩,
   ⟨(some 50), .mv (.tmp 12), none⟩,
   ⟨(some 51), .mv (.tmp 14), none⟩,
   ⟨(some 52), .call (.func 19) [(.tmp 49), (.tmp 50), (.tmp 51)], none⟩,
   ⟨(some 48), .mv (.tmp 52), none⟩,
   ⟨(some 53), .ext (.tmp 48) 0, none⟩,
   ⟨(some 54), .ext (.tmp 48) 1, none⟩,
   ⟨(some 15), .mv (.tmp 53), none⟩,
   ⟨(some 16), .mv (.tmp 54), none⟩])
 (.seq (.seq (.ops [⟨(some 55), .mv (.tmp 16), none⟩,
   ⟨(some 56), .not (.tmp 55), none⟩,
   ⟨(some 57), .mv (.tmp 56), none⟩,
   ⟨(some 58), .mv (.tmp 15), some (57, false)⟩,
   ⟨(some 59), .int .leq (.tmp 58) (.const (.int .i64 0)), some (57, false)⟩,
   ⟨(some 60), .pick (.tmp 57) (.const (.bool true)) (.tmp 59), none⟩,
   ⟨(some 61), .mv (.tmp 60), none⟩,
   ⟨(some 62), .mv (.tmp 15), some (61, false)⟩,
   ⟨(some 63), .mv (.tmp 8), some (61, false)⟩,
   ⟨(some 64), .call (.func 18) [(.tmp 63)], some (61, false)⟩,
   ⟨(some 65), .int .geq (.tmp 62) (.tmp 64), some (61, false)⟩,
   ⟨(some 66), .pick (.tmp 61) (.const (.bool true)) (.tmp 65), none⟩,
   ⟨(some 67), .mv (.tmp 66), none⟩,
   ⟨(some 68), .mv (.tmp 8), some (67, false)⟩,
   ⟨(some 69), .mv (.tmp 12), some (67, false)⟩,
   ⟨(some 70), .call (.func 20) [(.tmp 68), (.tmp 69)], some (67, false)⟩,
   ⟨(some 71), .pick (.tmp 67) (.const (.bool true)) (.tmp 70), none⟩])
 (.cond (.tmp 71)
  (.seq (.ops [⟨(some 6), .mv (.const (.bool false)), none⟩])
  .ret)
  .skip))
 (.ops [⟨(some 72), .mv (.tmp 15), none⟩,
   ⟨(some 12), .mv (.tmp 72), none⟩])))))
 (.ops [⟨(some 73), .int .add (.tmp 44) (.const (.int .i64 1)), none⟩,
   ⟨(some 44), .mv (.tmp 73), none⟩]))))

/-- lontarlaw04_TrieSteps: the body of loop 1 -/
def b_lontarlaw04_TrieSteps_1 : ACode :=
 (.seq (.ops [⟨(some 37), .int .lss (.tmp 36) (.tmp 35), none⟩])
 (.seq (.cond (.tmp 37)
  .skip
  (.exit 0))
 (.seq (.block 1 (.seq (.ops [⟨(some 38), .mv (.tmp 36), none⟩,
   ⟨(some 39), .iaddr (.tmp 34) (.tmp 36) 2, none⟩,
   ⟨(some 40), .load (.tmp 39) (some 2), none⟩,
   ⟨(some 11), .alloc [(.slice none 0 0), (.slice none 0 0)] 41, none⟩,
   ⟨(some 10), .mv (.tmp 38), none⟩,
   ⟨none, .store (.tmp 11) (.tmp 40) 2, none⟩])
 (.seq (.ops [⟨(some 12), .mv (.const (.int .i64 0)), none⟩])
 (.seq (.seq (.ops [⟨(some 41), .faddr (.tmp 11) 0, none⟩,
   ⟨(some 42), .load (.tmp 41) none, none⟩,
   ⟨(some 43), .len false (.tmp 42), none⟩,
   ⟨(some 44), .mv (.const (.int .i64 0)), none⟩])
 (.block 2 (.loop [2, 7, 8, 10, 11, 12, 34, 35, 36, 42, 43, 44] b_lontarlaw04_TrieSteps_0)))
 (.seq (.draw [⟨(some 74), .mv (.tmp 8), none⟩,
   ⟨(some 75), .mv (.tmp 12), none⟩,
   ⟨(some 77), .mv (.tmp 10), none⟩,
   ⟨(some 76), .call (.func 21) [(.tmp 74), (.tmp 75)], none⟩,
   ⟨(some 78), .int .neq (.tmp 76) (.tmp 77), none⟩,
   ⟨(some 79), .mv (.tmp 78), none⟩,
   ⟨(some 80), .mv (.tmp 8), some (79, false)⟩,
   ⟨(some 81), .mv (.tmp 10), some (79, false)⟩,
   ⟨(some 83), .faddr (.tmp 11) 1, some (79, false)⟩,
   ⟨(some 84), .load (.tmp 83) none, some (79, false)⟩,
   ⟨(some 82), .call (.func 22) [(.tmp 80), (.tmp 81)], some (79, false)⟩,
   ⟨(some 85), .call (.func 17) [(.tmp 82), (.tmp 84)], some (79, false)⟩,
   ⟨(some 86), .not (.tmp 85), some (79, false)⟩,
   ⟨(some 87), .pick (.tmp 79) (.const (.bool true)) (.tmp 86), none⟩])
 (.cond (.tmp 87)
  (.seq (.ops [⟨(some 6), .mv (.const (.bool false)), none⟩])
  .ret)
  .skip))))))
 (.ops [⟨(some 88), .int .add (.tmp 36) (.const (.int .i64 1)), none⟩,
   ⟨(some 36), .mv (.tmp 88), none⟩]))))

def k_lontarlaw04_TrieSteps : ACode :=
 (.seq (.ops [⟨(some 6), .mv (.const (.bool false)), none⟩])
 (.seq (.seq (.ops [⟨(some 19), .call (.func 9) [], none⟩,
   ⟨(some 20), .not (.tmp 19), none⟩])
 (.cond (.tmp 20)
  (.seq (.ops [⟨(some 6), .mv (.const (.bool false)), none⟩])
  .ret)
  .skip))
 (.seq (.ops [⟨(some 21), .mv (.tmp 0), none⟩,
   ⟨(some 22), .call (.func 10) [(.tmp 21)], none⟩,
   ⟨(some 7), .mv (.tmp 22), none⟩])
 (.seq (.ops [⟨(some 24), .mv (.tmp 7), none⟩,
   ⟨(some 25), .call (.func 11) [(.tmp 24)], none⟩,
   ⟨(some 23), .mv (.tmp 25), none⟩,
   ⟨(some 26), .ext (.tmp 23) 0, none⟩,
   ⟨(some 27), .ext (.tmp 23) 1, none⟩,
   ⟨(some 8), .mv (.tmp 26), none⟩,
   ⟨(some 9), .mv (.tmp 27), none⟩])
 (.seq (.seq (.ops [⟨(some 28), .mv (.tmp 8), none⟩,
   ⟨(some 29), .isNil 0 false (.tmp 28), none⟩,
   ⟨(some 30), .mv (.tmp 29), none⟩,
   ⟨(some 31), .mv (.tmp 9), some (30, false)⟩,
   ⟨(some 32), .int .neq (.tmp 31) (.const (.int .i64 0)), some (30, false)⟩,
   ⟨(some 33), .pick (.tmp 30) (.const (.bool true)) (.tmp 32), none⟩])
 (.cond (.tmp 33)
  (.seq (.ops [⟨(some 6), .mv (.const (.bool false)), none⟩])
  .ret)
  .skip))
 (.seq (.seq (.ops [⟨(some 34), .mv (.tmp 7), none⟩,
   ⟨(some 35), .len false (.tmp 34), none⟩,
   ⟨(some 36), .mv (.const (.int .i64 0)), none⟩])
 (.block 0 (.loop [2, 7, 8, 34, 35, 36] b_lontarlaw04_TrieSteps_1)))
 (.seq (.seq (.ops [⟨(some 89), .mv (.tmp 2), none⟩,
   ⟨(some 90), .int .geq (.tmp 89) (.const (.int .i64 0)), none⟩,
   ⟨(some 91), .mv (.tmp 90), none⟩,
   ⟨(some 92), .mv (.tmp 2), some (91, true)⟩,
   ⟨(some 93), .mv (.tmp 8), some (91, true)⟩,
   ⟨(some 94), .call (.func 18) [(.tmp 93)], some (91, true)⟩,
   ⟨(some 95), .int .lss (.tmp 92) (.tmp 94), some (91, true)⟩,
   ⟨(some 96), .pick (.tmp 91) (.tmp 95) (.const (.bool false)), none⟩])
 (.cond (.tmp 96)
  (.ops [⟨(some 97), .mv (.tmp 2), none⟩,
    ⟨(some 98), .mv (.tmp 8), none⟩,
    ⟨(some 99), .call (.func 18) [(.tmp 98)], none⟩,
    ⟨(some 100), .int .add (.tmp 97) (.tmp 99), none⟩,
    ⟨(some 2), .mv (.tmp 100), none⟩])
  .skip))
 (.seq (.ops [⟨(some 102), .mv (.tmp 8), none⟩,
   ⟨(some 103), .mv (.tmp 2), none⟩,
   ⟨(some 104), .call (.func 19) [(.tmp 102), (.tmp 103), (.const (.int .i64 97))], none⟩,
   ⟨(some 101), .mv (.tmp 104), none⟩,
   ⟨(some 105), .ext (.tmp 101) 0, none⟩,
   ⟨(some 106), .ext (.tmp 101) 1, none⟩,
   ⟨(some 17), .mv (.tmp 105), none⟩,
   ⟨(some 18), .mv (.tmp 106), none⟩])
 (.seq (.ops [⟨(some 107), .mv (.tmp 17), none⟩,
   ⟨(some 108), .int .eql (.tmp 107) (.const (.int .i64 0)), none⟩,
   ⟨(some 109), .mv (.tmp 108), none⟩,
   ⟨(some 110), .mv (.tmp 18), some (109, true)⟩,
   ⟨(some 111), .not (.tmp 110), some (109, true)⟩,
   ⟨(some 112), .pick (.tmp 109) (.tmp 111) (.const (.bool false)), none⟩,
   ⟨(some 113), .mv (.tmp 112), none⟩,
   ⟨(some 114), .mv (.tmp 8), some (113, true)⟩,
   ⟨(some 115), .mv (.tmp 2), some (113, true)⟩,
   ⟨(some 116), .call (.func 21) [(.tmp 114), (.tmp 115)], some (113, true)⟩,
   ⟨(some 117), .int .eql (.tmp 116) (.const (.int .i64 (-1))), some (113, true)⟩,
   ⟨(some 118), .pick (.tmp 113) (.tmp 117) (.const (.bool false)), none⟩,
   ⟨(some 119), .mv (.tmp 118), none⟩,
   ⟨(some 120), .mv (.tmp 8), some (119, true)⟩,
   ⟨(some 121), .mv (.tmp 2), some (119, true)⟩,
   ⟨(some 122), .call (.func 20) [(.tmp 120), (.tmp 121)], some (119, true)⟩,
   ⟨(some 123), .pick (.tmp 119) (.tmp 122) (.const (.bool false)), none⟩,
   ⟨(some 124), .mv (.tmp 123), none⟩,
   ⟨(some 125), .mv (.tmp 8), some (124, true)⟩,
   ⟨(some 126), .mv (.tmp 7), some (124, true)⟩,
   ⟨(some 127), .len false (.tmp 126), some (124, true)⟩,
   ⟨(some 128), .call (.func 22) [(.tmp 125), (.tmp 127)], some (124, true)⟩,
   ⟨(some 129), .len false (.tmp 128), some (124, true)⟩,
   ⟨(some 130), .int .eql (.tmp 129) (.const (.int .i64 0)), some (124, true)⟩,
   ⟨(some 131), .pick (.tmp 124) (.tmp 130) (.const (.bool false)), none⟩,
   ⟨(some 132), .mv (.tmp 131), none⟩,
   ⟨(some 133), .mv (.tmp 8), some (132, true)⟩,
   ⟨(some 134), .call (.func 22) [(.tmp 133), (.const (.int .i64 (-1)))], some (132, true)⟩,
   ⟨(some 135), .len false (.tmp 134), some (132, true)⟩,
   ⟨(some 136), .int .eql (.tmp 135) (.const (.int .i64 0)), some (132, true)⟩,
   ⟨(some 137), .pick (.tmp 132) (.tmp 136) (.const (.bool false)), none⟩,
   ⟨(some 138), .mv (.tmp 137), none⟩,
   ⟨(some 139), .mv (.tmp 8), some (138, true)⟩,
   ⟨(some 140), .call (.func 21) [(.tmp 139), (.const (.int .i64 0))], some (138, true)⟩,
   ⟨(some 141), .int .eql (.tmp 140) (.const (.int .i64 (-1))), some (138, true)⟩,
   ⟨(some 142), .pick (.tmp 138) (.tmp 141) (.const (.bool false)), none⟩,
   ⟨(some 6), .mv (.tmp 142), none⟩])
 .ret)))))))))
def F_lontarlaw04_TrieSteps : AFunc := ⟨3, 143, [.tmp 6], k_lontarlaw04_TrieSteps⟩
theorem ok_lontarlaw04_TrieSteps : FOK Try.prog 8 F_lontarlaw04_TrieSteps := FOK.of [[2, 7, 8, 34, 35, 36], [2, 7, 8, 10, 11, 12, 34, 35, 36, 42, 43, 44], [0, 1, 3, 2, 4, 5, 6, 7, 9, 10, 8, 11, 12, 13]] Try.func8 (by kernel_rfl) (by kernel_rfl)

-- lontar/lontarlaw04.awake
@[reducible] def i_lontarlaw04_awake : Nat := 9
def k_lontarlaw04_awake : ACode :=
 (.seq (.ops [⟨(some 0), .mv (.const (.bool false)), none⟩])
 (.seq (.ops [⟨(some 10), .bslice 3 1 1 [(.int .i64 0)] [(0, 1, (.const (.int .i64 1)))], none⟩,
   ⟨(some 11), .bslice 3 1 1 [(.int .i64 0)] [(0, 1, (.const (.int .i64 7)))], none⟩,
   ⟨(some 12), .build [(.slice none 0 0), (.slice none 0 0)] [(0, 1, (.tmp 10)), (1, 1, (.tmp 11))], none⟩,
   ⟨(some 13), .bslice 3 3 1 [(.int .i64 0)] [(0, 1, (.const (.int .i64 1))), (1, 1, (.const (.int .i64 2))), (2, 1, (.const (.int .i64 3)))], none⟩,
   ⟨(some 14), .bslice 3 1 1 [(.int .i64 0)] [(0, 1, (.const (.int .i64 8)))], none⟩,
   ⟨(some 15), .build [(.slice none 0 0), (.slice none 0 0)] [(0, 1, (.tmp 13)), (1, 1, (.tmp 14))], none⟩,
   ⟨(some 16), .bslice 41 2 2 [(.slice none 0 0), (.slice none 0 0)] [(0, 2, (.tmp 12)), (2, 2, (.tmp 15))], none⟩,
   ⟨(some 17), .call (.func 11) [(.tmp 16)], none⟩,
   ⟨(some 9), .mv (.tmp 17), none⟩,
   ⟨(some 18), .ext (.tmp 9) 0, none⟩,
   ⟨(some 19), .ext (.tmp 9) 1, none⟩,
   ⟨(some 1), .mv (.tmp 18), none⟩,
   ⟨(some 2), .mv (.tmp 19), none⟩])
 (.seq (.seq (.ops [⟨(some 20), .mv (.tmp 1), none⟩,
   ⟨(some 21), .isNil 0 false (.tmp 20), none⟩,
   ⟨(some 22), .mv (.tmp 21), none⟩,
   ⟨(some 23), .mv (.tmp 2), some (22, false)⟩,
   ⟨(some 24), .int .neq (.tmp 23) (.const (.int .i64 0)), some (22, false)⟩,
   ⟨(some 25), .pick (.tmp 22) (.const (.bool true)) (.tmp 24), none⟩])
 (.cond (.tmp 25)
  (.seq (.ops [⟨(some 0), .mv (.const (.bool false)), none⟩])
  .ret)
  .skip))
 (.seq (.ops [⟨(some 27), .mv (.tmp 1), none⟩,
   ⟨(some 28), .bslice 3 2 1 [(.int .i64 0)] [(0, 1, (.const (.int .i64 1))), (1, 1, (.const (.int .i64 2)))], none⟩,
   ⟨(some 29), .call (.func 13) [(.tmp 27), (.tmp 28)], none⟩,
   ⟨(some 26), .mv (.tmp 29), none⟩,
   ⟨(some 30), .ext (.tmp 26) 0, none⟩,
   ⟨(some 31), .ext (.tmp 26) 1, none⟩,
   ⟨(some 32), .ext (.tmp 26) 2, none⟩,
   ⟨(some 3), .mv (.tmp 30), none⟩,
   ⟨(some 4), .mv (.tmp 31), none⟩,
   ⟨(some 5), .mv (.tmp 32), none⟩])
 (.seq (.ops [⟨(some 34), .mv (.tmp 1), none⟩,
   ⟨(some 35), .bslice 3 4 1 [(.int .i64 0)] [(0, 1, (.const (.int .i64 1))), (1, 1, (.const (.int .i64 2))), (2, 1, (.const (.int .i64 3))), (3, 1, (.const (.int .i64 4)))], none⟩,
   ⟨(some 36), .call (.func 13) [(.tmp 34), (.tmp 35)], none⟩,
   ⟨(some 33), .mv (.tmp 36), none⟩,
   ⟨(some 37), .ext (.tmp 33) 0, none⟩,
   ⟨(some 38), .ext (.tmp 33) 1, none⟩,
   ⟨(some 39), .ext (.tmp 33) 2, none⟩,
   ⟨(some 6), .mv (.tmp 37), none⟩,
   ⟨(some 7), .mv (.tmp 38), none⟩,
   ⟨(some 8), .mv (.tmp 39), none⟩])
 (.seq (.ops [⟨(some 40), .mv (.tmp 3), none⟩,
   ⟨(some 41), .int .eql (.tmp 40) (.const (.int .i64 0)), none⟩,
   ⟨(some 42), .mv (.tmp 41), none⟩,
   ⟨(some 43), .mv (.tmp 4), some (42, true)⟩,
   ⟨(some 44), .int .eql (.tmp 43) (.const (.int .i64 1)), some (42, true)⟩,
   ⟨(some 45), .pick (.tmp 42) (.tmp 44) (.const (.bool false)), none⟩,
   ⟨(some 46), .mv (.tmp 45), none⟩,
   ⟨(some 47), .mv (.tmp 5), some (46, true)⟩,
   ⟨(some 48), .pick (.tmp 46) (.tmp 47) (.const (.bool false)), none⟩,
   ⟨(some 49), .mv (.tmp 48), none⟩,
   ⟨(some 50), .mv (.tmp 6), some (49, true)⟩,
   ⟨(some 51), .int .eql (.tmp 50) (.const (.int .i64 1)), some (49, true)⟩,
   ⟨(some 52), .pick (.tmp 49) (.tmp 51) (.const (.bool false)), none⟩,
   ⟨(some 53), .mv (.tmp 52), none⟩,
   ⟨(some 54), .mv (.tmp 7), some (53, true)⟩,
   ⟨(some 55), .int .eql (.tmp 54) (.const (.int .i64 3)), some (53, true)⟩,
   ⟨(some 56), .pick (.tmp 53) (.tmp 55) (.const (.bool false)), none⟩,
   ⟨(some 57), .mv (.tmp 56), none⟩,
   ⟨(some 58), .mv (.tmp 8), some (57, true)⟩,
   ⟨(some 59), .not (.tmp 58), some (57, true)⟩,
   ⟨(some 60), .pick (.tmp 57) (.tmp 59) (.const (.bool false)), none⟩,
   ⟨(some 61), .mv (.tmp 60), none⟩,
   ⟨(some 62), .mv (.tmp 1), some (61, true)⟩,
   ⟨(some 63), .call (.func 18) [(.tmp 62)], some (61, true)⟩,
   ⟨(some 64), .int .eql (.tmp 63) (.const (.int .i64 4)), some (61, true)⟩,
   ⟨(some 65), .pick (.tmp 61) (.tmp 64) (.const (.bool false)), none⟩,
   ⟨(some 66), .mv (.tmp 65), none⟩,
   ⟨(some 67), .mv (.tmp 1), some (66, true)⟩,
   ⟨(some 68), .call (.func 21) [(.tmp 67), (.const (.int .i64 0))], some (66, true)⟩,
   ⟨(some 69), .int .eql (.tmp 68) (.const (.int .i64 (-1))), some (66, true)⟩,
   ⟨(some 70), .pick (.tmp 66) (.tmp 69) (.const (.bool false)), none⟩,
   ⟨(some 0), .mv (.tmp 70), none⟩])
 .ret))))))
def F_lontarlaw04_awake : AFunc := ⟨0, 71, [.tmp 0], k_lontarlaw04_awake⟩
theorem ok_lontarlaw04_awake : FOK Try.prog 9 F_lontarlaw04_awake := FOK.of [] Try.func9 (by kernel_rfl) (by kernel_rfl)

-- lontar/lontarlaw03.Right
@[reducible] def i_lontarlaw03_Right : Nat := 10
/-- lontarlaw03_Right: the body of loop 0 -/
def b_lontarlaw03_Right_0 : ACode :=
 (.seq (.ops [⟨(some 10), .int .lss (.tmp 9) (.tmp 8), none⟩])
 (.seq (.cond (.tmp 10)
  .skip
  (.exit 0))
 (.seq (.block 1 (.seq (.ops [⟨(some 11), .iaddr (.tmp 7) (.tmp 9) 2, none⟩,
   ⟨(some 12), .load (.tmp 11) (some 2), none⟩,
   ⟨(some 5), .alloc [(.slice none 0 0), (.slice none 0 0)] 41, none⟩,
   ⟨none, .store (.tmp 5) (.tmp 12) 2, none⟩])
 (.seq (.ops [⟨(some 13), .faddr (.tmp 5) 0, none⟩,
   ⟨(some 14), .load (.tmp 13) none, none⟩,
   ⟨(some 15), .call (.func 23) [(.tmp 14)], none⟩,
   ⟨(some 16), .mv (.tmp 15), none⟩,
   ⟨(some 17), .faddr (.tmp 5) 1, some (16, true)⟩,
   ⟨(some 18), .load (.tmp 17) none, some (16, true)⟩,
   ⟨(some 19), .call (.func 23) [(.tmp 18)], some (16, true)⟩,
   ⟨(some 20), .pick (.tmp 16) (.tmp 19) (.const (.bool false)), none⟩,
   ⟨(some 21), .mv (.tmp 20), none⟩,
   ⟨(some 22), .mv (.tmp 3), some (21, true)⟩,
   ⟨(some 23), .faddr (.tmp 5) 0, some (21, true)⟩,
   ⟨(some 24), .load (.tmp 23) none, some (21, true)⟩,
   ⟨(some 25), .call (.func 24) [(.tmp 22), (.tmp 24)], some (21, true)⟩,
   ⟨(some 26), .int .lss (.tmp 25) (.const (.int .i64 0)), some (21, true)⟩,
   ⟨(some 27), .pick (.tmp 21) (.tmp 26) (.const (.bool false)), none⟩])
 (.cond (.tmp 27)
  (.ops [⟨(some 28), .mv (.tmp 3), none⟩,
    ⟨(some 29), .load (.tmp 5) (some 2), none⟩,
    ⟨(some 30), .bslice 41 1 2 [(.slice none 0 0), (.slice none 0 0)] [(0, 2, (.tmp 29))], none⟩,
    ⟨(some 31), .append (.tmp 28) (.tmp 30) 41 2 48, none⟩,
    ⟨(some 3), .mv (.tmp 31), none⟩])
  .skip))))
 (.ops [⟨(some 32), .int .add (.tmp 9) (.const (.int .i64 1)), none⟩,
   ⟨(some 9), .mv (.tmp 32), none⟩]))))

def k_lontarlaw03_Right : ACode :=
 (.seq (.ops [⟨(some 2), .mv (.const (.slice none 0 0)), none⟩])
 (.seq (.ops [⟨(some 3), .mv (.const (.slice none 0 0)), none⟩])
 (.seq (.seq (.ops [⟨(some 6), .mv (.tmp 0), none⟩,
   ⟨(some 7), .call (.func 15) [(.tmp 6)], none⟩,
   ⟨(some 8), .len false (.tmp 7), none⟩,
   ⟨(some 9), .mv (.const (.int .i64 0)), none⟩])
 (.block 0 (.loop [3, 7, 8, 9] b_lontarlaw03_Right_0)))
 (.seq (.ops [⟨(some 33), .mv (.tmp 3), none⟩,
   ⟨(some 2), .mv (.tmp 33), none⟩])
 .ret))))
def F_lontarlaw03_Right : AFunc := ⟨1, 34, [.tmp 2], k_lontarlaw03_Right⟩
theorem ok_lontarlaw03_Right : FOK Try.prog 10 F_lontarlaw03_Right := FOK.of [[3, 7, 8, 9]] Try.func10 (by kernel_rfl) (by kernel_rfl)

-- lontar/trie.Of
@[reducible] def i_trie_Of : Nat := 11
/-- trie_Of: the body of loop 0 -/
def b_trie_Of_0 : ACode :=
 (.seq (.ops [⟨(some 50), .int .lss (.tmp 49) (.tmp 48), none⟩])
 (.seq (.cond (.tmp 50)
  .skip
  (.exit 2))
 (.seq (.block 3 (.seq (.ops [⟨(some 51), .iaddr (.tmp 47) (.tmp 49) 1, none⟩,
   ⟨(some 52), .load (.tmp 51) none, none⟩,
   ⟨(some 11), .mv (.tmp 52), none⟩])
 (.seq (.ops [⟨(some 54), .mv (.tmp 6), none⟩,
   ⟨(some 55), .mv (.tmp 9), none⟩,
   ⟨(some 56), .mv (.tmp 11), none⟩,
   ⟨(some 57), .call (.func 19) [(.tmp 54), (.tmp 55), (.tmp 56)], none⟩,
   ⟨(some 53), .mv (.tmp 57), none⟩,
   ⟨(some 58), .ext (.tmp 53) 0, none⟩,
   ⟨(some 59), .ext (.tmp 53) 1, none⟩,
   ⟨(some 12), .mv (.tmp 58), none⟩,
   ⟨(some 13), .mv (.tmp 59), none⟩])
 (.seq (.seq (.ops [⟨(some 60), .mv (.tmp 13), none⟩,
   ⟨(some 61), .not (.tmp 60), none⟩])
 (.cond (.tmp 61)
  (.seq (.ops [⟨(some 62), .mv (.tmp 6), none⟩,
    ⟨(some 63), .nilChk (.tmp 62), none⟩,
    ⟨(some 64), .faddr (.tmp 63) 0, none⟩,
    ⟨(some 65), .load (.tmp 64) none, none⟩,
    ⟨(some 66), .len false (.tmp 65), none⟩,
    ⟨(some 12), .mv (.tmp 66), none⟩])
  (.seq (.draw [⟨(some 67), .mv (.tmp 6), none⟩,
    ⟨(some 68), .mv (.tmp 6), none⟩,
    ⟨(some 69), .nilChk (.tmp 68), none⟩,
    ⟨(some 70), .faddr (.tmp 69) 0, none⟩,
    ⟨(some 71), .load (.tmp 70) none, none⟩,
    ⟨(some 72), .mv (.tmp 11), none⟩,
    ⟨(some 73), .mv (.tmp 6), none⟩,
    ⟨(some 74), .nilChk (.tmp 73), none⟩,
    ⟨(some 75), .faddr (.tmp 74) 0, none⟩,
    ⟨(some 76), .load (.tmp 75) none, none⟩,
    ⟨(some 77), .mv (.tmp 9), none⟩,
    ⟨(some 78), .iaddr (.tmp 76) (.tmp 77) 4, none⟩,
    ⟨(some 79), .faddr (.tmp 78) 1, none⟩,
    ⟨(some 80), .load (.tmp 79) none, none⟩,
    ⟨(some 81), .build [(.int .i64 0), (.int .i64 0), (.int .i64 0), (.int .i64 0)] [(0, 1, (.tmp 72)), (2, 1, (.tmp 80)), (3, 1, (.const (.int .i64 (-1))))], none⟩,
    ⟨(some 82), .bslice 57 1 4 [(.int .i64 0), (.int .i64 0), (.int .i64 0), (.int .i64 0)] [(0, 4, (.tmp 81))], none⟩,
    ⟨(some 83), .append (.tmp 71) (.tmp 82) 57 4 32, none⟩,
    ⟨(some 84), .nilChk (.tmp 67), none⟩,
    ⟨(some 85), .faddr (.tmp 84) 0, none⟩,
    ⟨none, .store (.tmp 85) (.tmp 83) 1, none⟩])
  (.ops [⟨(some 86), .mv (.tmp 6), none⟩,
    ⟨(some 87), .nilChk (.tmp 86), none⟩,
    ⟨(some 88), .faddr (.tmp 87) 0, none⟩,
    ⟨(some 89), .load (.tmp 88) none, none⟩,
    ⟨(some 90), .mv (.tmp 9), none⟩,
    ⟨(some 91), .mv (.tmp 12), none⟩,
    ⟨(some 92), .iaddr (.tmp 89) (.tmp 90) 4, none⟩,
    ⟨(some 93), .faddr (.tmp 92) 1, none⟩,
    ⟨none, .store (.tmp 93) (.tmp 91) 1, none⟩])))
  .skip))
 (.ops [⟨(some 94), .mv (.tmp 12), none⟩,
   ⟨(some 9), .mv (.tmp 94), none⟩])))))
 (.ops [⟨(some 95), .int .add (.tmp 49) (.const (.int .i64 1)), none⟩,
   ⟨(some 49), .mv (.tmp 95), none⟩]))))

/-- trie_Of: the body of loop 1 -/
def b_trie_Of_1 : ACode :=
 (.seq (.ops [⟨(some 29), .int .lss (.tmp 28) (.tmp 27), none⟩])
 (.seq (.cond (.tmp 29)
  .skip
  (.exit 0))
 (.seq (.block 1 (.seq (.ops [⟨(some 30), .mv (.tmp 28), none⟩,
   ⟨(some 31), .iaddr (.tmp 26) (.tmp 28) 2, none⟩,
   ⟨(some 32), .load (.tmp 31) (some 2), none⟩,
   ⟨(some 8), .alloc [(.slice none 0 0), (.slice none 0 0)] 41, none⟩,
   ⟨(some 7), .mv (.tmp 30), none⟩,
   ⟨none, .store (.tmp 8) (.tmp 32) 2, none⟩])
 (.seq (.ops [⟨(some 9), .mv (.const (.int .i64 0)), none⟩])
 (.seq (.draw [⟨(some 33), .mv (.tmp 6), none⟩,
   ⟨(some 34), .mv (.tmp 6), none⟩,
   ⟨(some 35), .nilChk (.tmp 34), none⟩,
   ⟨(some 36), .faddr (.tmp 35) 1, none⟩,
   ⟨(some 37), .load (.tmp 36) none, none⟩,
   ⟨(some 38), .faddr (.tmp 8) 1, none⟩,
   ⟨(some 39), .load (.tmp 38) none, none⟩,
   ⟨(some 40), .append (.const (.slice none 0 0)) (.tmp 39) 3 1 8, none⟩,
   ⟨(some 41), .build [(.slice none 0 0), (.slice none 0 0)] [(1, 1, (.tmp 40))], none⟩,
   ⟨(some 42), .bslice 41 1 2 [(.slice none 0 0), (.slice none 0 0)] [(0, 2, (.tmp 41))], none⟩,
   ⟨(some 43), .append (.tmp 37) (.tmp 42) 41 2 48, none⟩,
   ⟨(some 44), .nilChk (.tmp 33), none⟩,
   ⟨(some 45), .faddr (.tmp 44) 1, none⟩,
   ⟨none, .store (.tmp 45) (.tmp 43) 1, none⟩])
 (.seq (.seq (.ops [⟨(some 46), .faddr (.tmp 8) 0, none⟩,
   ⟨(some 47), .load (.tmp 46) none, none⟩,
   ⟨(some 48), .len false (.tmp 47), none⟩,
   ⟨(some 49), .mv (.const (.int .i64 0)), none⟩])
 (.block 2 (.loop [6, 7, 9, 26, 27, 28, 47, 48, 49] b_trie_Of_0)))
 (.ops [⟨(some 96), .mv (.tmp 6), none⟩,
   ⟨(some 97), .nilChk (.tmp 96), none⟩,
   ⟨(some 98), .faddr (.tmp 97) 0, none⟩,
   ⟨(some 99), .load (.tmp 98) none, none⟩,
   ⟨(some 100), .mv (.tmp 9), none⟩,
   ⟨(some 101), .mv (.tmp 7), none⟩,
   ⟨(some 102), .iaddr (.tmp 99) (.tmp 100) 4, none⟩,
   ⟨(some 103), .faddr (.tmp 102) 3, none⟩,
   ⟨none, .store (.tmp 103) (.tmp 101) 1, none⟩]))))))
 (.ops [⟨(some 104), .int .add (.tmp 28) (.const (.int .i64 1)), none⟩,
   ⟨(some 28), .mv (.tmp 104), none⟩]))))

def k_trie_Of : ACode :=
 (.seq (.ops [⟨(some 2), .mv (.const (.pointer none)), none⟩,
   ⟨(some 3), .mv (.const (.int .i64 0)), none⟩])
 (.seq (.seq (.ops [⟨(some 15), .mv (.tmp 0), none⟩,
   ⟨(some 16), .call (.func 16) [(.tmp 15)], none⟩,
   ⟨(some 14), .mv (.tmp 16), none⟩,
   ⟨(some 17), .ext (.tmp 14) 0, none⟩,
   ⟨(some 18), .ext (.tmp 14) 1, none⟩,
   ⟨(some 4), .mv (.tmp 17), none⟩,
   ⟨(some 5), .mv (.tmp 18), none⟩])
 (.seq (.ops [⟨(some 19), .mv (.tmp 5), none⟩,
   ⟨(some 20), .int .neq (.tmp 19) (.const (.int .i64 0)), none⟩])
 (.cond (.tmp 20)
  (.seq (.ops [⟨(some 21), .mv (.tmp 5), none⟩,
    ⟨(some 2), .mv (.const (.pointer none)), none⟩,
    ⟨(some 3), .mv (.tmp 21), none⟩])
  .ret)
  .skip)))
 (.seq (.ops [⟨(some 22), .build [(.int .i64 0), (.int .i64 0), (.int .i64 0), (.int .i64 0)] [(3, 1, (.const (.int .i64 (-1))))], none⟩,
   ⟨(some 23), .bslice 57 1 4 [(.int .i64 0), (.int .i64 0), (.int .i64 0), (.int .i64 0)] [(0, 4, (.tmp 22))], none⟩,
   ⟨(some 24), .build [(.slice none 0 0), (.slice none 0 0)] [(0, 1, (.tmp 23))], none⟩,
   ⟨(some 25), .box (.tmp 24) 60, none⟩,
   ⟨(some 6), .mv (.tmp 25), none⟩])
 (.seq (.seq (.ops [⟨(some 26), .mv (.tmp 0), none⟩,
   ⟨(some 27), .len false (.tmp 26), none⟩,
   ⟨(some 28), .mv (.const (.int .i64 0)), none⟩])
 (.block 0 (.loop [6, 26, 27, 28] b_trie_Of_1)))
 (.seq (.ops [⟨(some 105), .mv (.tmp 6), none⟩,
   ⟨(some 2), .mv (.tmp 105), none⟩,
   ⟨(some 3), .mv (.const (.int .i64 0)), none⟩])
 .ret)))))
def F_trie_Of : AFunc := ⟨1, 106, [.tmp 2, .tmp 3], k_trie_Of⟩
theorem ok_trie_Of : FOK Try.prog 11 F_trie_Of := FOK.of [[6, 26, 27, 28], [0, 1, 2, 3, 4, 5, 6, 7, 8, 9, 10, 11, 12, 13], [6, 7, 9, 26, 27, 28, 47, 48, 49], [0, 1, 2, 3, 4, 5, 6, 7, 8, 9, 10, 11, 12, 13, 14, 15, 16, 17, 18, 19]] Try.func11 (by kernel_rfl) (by kernel_rfl)

-- lontar/lontarlaw04.Some
@[reducible] def i_lontarlaw04_Some : Nat := 12
/-- lontarlaw04_Some: the body of loop 0 -/
def b_lontarlaw04_Some_0 : ACode :=
 (.seq (.ops [⟨(some 13), .int .lss (.tmp 12) (.tmp 11), none⟩])
 (.seq (.cond (.tmp 13)
  .skip
  (.exit 0))
 (.seq (.block 1 (.seq (.ops [⟨(some 14), .iaddr (.tmp 10) (.tmp 12) 1, none⟩,
   ⟨(some 15), .load (.tmp 14) none, none⟩,
   ⟨(some 5), .mv (.tmp 15), none⟩])
 (.ops [⟨(some 16), .mv (.tmp 3), none⟩,
   ⟨(some 17), .mv (.tmp 5), none⟩,
   ⟨(some 18), .int .rem (.tmp 17) (.const (.int .u8 6)), none⟩,
   ⟨(some 19), .conv .i64 (.tmp 18), none⟩,
   ⟨(some 20), .int .add (.const (.int .i64 97)) (.tmp 19), none⟩,
   ⟨(some 21), .bslice 3 1 1 [(.int .i64 0)] [(0, 1, (.tmp 20))], none⟩,
   ⟨(some 22), .append (.tmp 16) (.tmp 21) 3 1 8, none⟩,
   ⟨(some 3), .mv (.tmp 22), none⟩])))
 (.ops [⟨(some 23), .int .add (.tmp 12) (.const (.int .i64 1)), none⟩,
   ⟨(some 12), .mv (.tmp 23), none⟩]))))

def k_lontarlaw04_Some : ACode :=
 (.seq (.ops [⟨(some 2), .mv (.const (.slice none 0 0)), none⟩])
 (.seq (.ops [⟨(some 3), .mv (.const (.slice none 0 0)), none⟩])
 (.seq (.seq (.ops [⟨(some 6), .mv (.tmp 0), none⟩,
   ⟨(some 7), .mv (.tmp 0), none⟩,
   ⟨(some 8), .len false (.tmp 7), none⟩,
   ⟨(some 9), .min2 (.tmp 8) (.const (.int .i64 60)), none⟩,
   ⟨(some 10), .slice (.tmp 6) none (some (.tmp 9)) 1, none⟩,
   ⟨(some 11), .len false (.tmp 10), none⟩,
   ⟨(some 12), .mv (.const (.int .i64 0)), none⟩])
 (.block 0 (.loop [3, 10, 11, 12] b_lontarlaw04_Some_0)))
 (.seq (.ops [⟨(some 24), .mv (.tmp 3), none⟩,
   ⟨(some 2), .mv (.tmp 24), none⟩])
 .ret))))
def F_lontarlaw04_Some : AFunc := ⟨1, 25, [.tmp 2], k_lontarlaw04_Some⟩
theorem ok_lontarlaw04_Some : FOK Try.prog 12 F_lontarlaw04_Some := FOK.of [[3, 10, 11, 12]] Try.func12 (by kernel_rfl) (by kernel_rfl)

-- (*lontar/trie.Trie).Longest
@[reducible] def i_trie_Trie__Longest : Nat := 13
/-- trie_Trie__Longest: the body of loop 0 -/
def b_trie_Trie__Longest_0 : ACode :=
 (.seq (.ops [⟨(some 18), .int .lss (.tmp 17) (.tmp 16), none⟩])
 (.seq (.cond (.tmp 18)
  .skip
  (.exit 0))
 (.seq (.block 1 (.seq (.ops [⟨(some 19), .mv (.tmp 17), none⟩,
   ⟨(some 20), .iaddr (.tmp 15) (.tmp 17) 1, none⟩,
   ⟨(some 21), .load (.tmp 20) none, none⟩,
   ⟨(some 10), .mv (.tmp 19), none⟩,
   ⟨(some 11), .mv (.tmp 21), none⟩])
 (.seq (.ops [⟨(some 23), .mv (.tmp 0), none⟩,
   ⟨(some 24), .mv (.tmp 9), none⟩,
   ⟨(some 25), .mv (.tmp 11), none⟩,
   ⟨(some 26), .call (.func 19) [(.tmp 23), (.tmp 24), (.tmp 25)], none⟩,
   ⟨(some 22), .mv (.tmp 26), none⟩,
   ⟨(some 27), .ext (.tmp 22) 0, none⟩,
   ⟨(some 28), .ext (.tmp 22) 1, none⟩,
   ⟨(some 12), .mv (.tmp 27), none⟩,
   ⟨(some 13), .mv (.tmp 28), none⟩])
 (.seq (.seq (.ops [⟨(some 29), .mv (.tmp 13), none⟩,
   ⟨(some 30), .not (.tmp 29), none⟩])
 (.cond (.tmp 30)
  (.seq (.ops [⟨(some 31), .mv (.tmp 7), none⟩,
    ⟨(some 32), .mv (.tmp 8), none⟩,
    ⟨(some 4), .mv (.tmp 31), none⟩,
    ⟨(some 5), .mv (.tmp 32), none⟩,
    ⟨(some 6), .mv (.const (.bool false)), none⟩])
  .ret)
  .skip))
 (.seq (.ops [⟨(some 33), .mv (.tmp 12), none⟩,
   ⟨(some 9), .mv (.tmp 33), none⟩])
 (.seq (.ops [⟨(some 34), .mv (.tmp 0), none⟩,
   ⟨(some 35), .mv (.tmp 9), none⟩,
   ⟨(some 36), .call (.func 21) [(.tmp 34), (.tmp 35)], none⟩,
   ⟨(some 14), .mv (.tmp 36), none⟩])
 (.seq (.ops [⟨(some 37), .mv (.tmp 14), none⟩,
   ⟨(some 38), .int .geq (.tmp 37) (.const (.int .i64 0)), none⟩])
 (.cond (.tmp 38)
  (.ops [⟨(some 39), .mv (.tmp 14), none⟩,
    ⟨(some 40), .mv (.tmp 10), none⟩,
    ⟨(some 41), .int .add (.tmp 40) (.const (.int .i64 1)), none⟩,
    ⟨(some 7), .mv (.tmp 39), none⟩,
    ⟨(some 8), .mv (.tmp 41), none⟩])
  .skip))))))))
 (.ops [⟨(some 42), .int .add (.tmp 17) (.const (.int .i64 1)), none⟩,
   ⟨(some 17), .mv (.tmp 42), none⟩]))))

def k_trie_Trie__Longest : ACode :=
 (.seq (.ops [⟨(some 4), .mv (.const (.int .i64 0)), none⟩,
   ⟨(some 5), .mv (.const (.int .i64 0)), none⟩,
   ⟨(some 6), .mv (.const (.bool false)), none⟩])
 (.seq (.ops [⟨(some 7), .mv (.const (.int .i64 (-1))), none⟩,
   ⟨(some 8), .mv (.const (.int .i64 0)), none⟩,
   ⟨(some 9), .mv (.const (.int .i64 0)), none⟩])
 (.seq (.seq (.ops [⟨(some 15), .mv (.tmp 1), none⟩,
   ⟨(some 16), .len false (.tmp 15), none⟩,
   ⟨(some 17), .mv (.const (.int .i64 0)), none⟩])
 (.block 0 (.loop [0, 7, 8, 9, 15, 16, 17] b_trie_Trie__Longest_0)))
 (.seq (.ops [⟨(some 43), .mv (.tmp 7), none⟩,
   ⟨(some 44), .mv (.tmp 8), none⟩,
   ⟨(some 45), .mv (.tmp 0), none⟩,
   ⟨(some 46), .mv (.tmp 9), none⟩,
   ⟨(some 47), .call (.func 20) [(.tmp 45), (.tmp 46)], none⟩,
   ⟨(some 48), .not (.tmp 47), none⟩,
   ⟨(some 4), .mv (.tmp 43), none⟩,
   ⟨(some 5), .mv (.tmp 44), none⟩,
   ⟨(some 6), .mv (.tmp 48), none⟩])
 .ret))))
def F_trie_Trie__Longest : AFunc := ⟨2, 49, [.tmp 4, .tmp 5, .tmp 6], k_trie_Trie__Longest⟩
theorem ok_trie_Trie__Longest : FOK Try.prog 13 F_trie_Trie__Longest := FOK.of [[0, 7, 8, 9, 15, 16, 17]] Try.func13 (by kernel_rfl) (by kernel_rfl)

-- lontar/lontarlaw04.Longest
@[reducible] def i_lontarlaw04_Longest : Nat := 14
/-- lontarlaw04_Longest: the body of loop 0 -/
def b_lontarlaw04_Longest_0 : ACode :=
 (.seq (.ops [⟨(some 15), .int .lss (.tmp 14) (.tmp 13), none⟩])
 (.seq (.cond (.tmp 15)
  .skip
  (.exit 0))
 (.seq (.block 1 (.seq (.ops [⟨(some 16), .mv (.tmp 14), none⟩,
   ⟨(some 17), .iaddr (.tmp 12) (.tmp 14) 2, none⟩,
   ⟨(some 18), .load (.tmp 17) (some 2), none⟩,
   ⟨(some 11), .alloc [(.slice none 0 0), (.slice none 0 0)] 41, none⟩,
   ⟨(some 10), .mv (.tmp 16), none⟩,
   ⟨none, .store (.tmp 11) (.tmp 18) 2, none⟩])
 (.seq (.seq (.draw [⟨(some 19), .faddr (.tmp 11) 0, none⟩,
   ⟨(some 20), .load (.tmp 19) none, none⟩,
   ⟨(some 21), .len false (.tmp 20), none⟩,
   ⟨(some 22), .mv (.tmp 1), none⟩,
   ⟨(some 23), .len false (.tmp 22), none⟩,
   ⟨(some 24), .int .leq (.tmp 21) (.tmp 23), none⟩,
   ⟨(some 25), .mv (.tmp 24), none⟩,
   ⟨(some 26), .faddr (.tmp 11) 0, some (25, true)⟩,
   ⟨(some 27), .load (.tmp 26) none, some (25, true)⟩,
   ⟨(some 28), .mv (.tmp 1), some (25, true)⟩,
   ⟨(some 29), .faddr (.tmp 11) 0, some (25, true)⟩,
   ⟨(some 30), .load (.tmp 29) none, some (25, true)⟩,
   ⟨(some 31), .len false (.tmp 30), some (25, true)⟩,
   ⟨(some 32), .slice (.tmp 28) none (some (.tmp 31)) 1, some (25, true)⟩,
   ⟨(some 33), .call (.func 17) [(.tmp 27), (.tmp 32)], some (25, true)⟩,
   ⟨(some 34), .pick (.tmp 25) (.tmp 33) (.const (.bool false)), none⟩,
   ⟨(some 35), .mv (.tmp 34), none⟩,
   ⟨(some 36), .faddr (.tmp 11) 0, some (35, true)⟩,
   ⟨(some 37), .load (.tmp 36) none, some (35, true)⟩,
   ⟨(some 38), .len false (.tmp 37), some (35, true)⟩,
   ⟨(some 39), .mv (.tmp 8), some (35, true)⟩,
   ⟨(some 40), .int .gtr (.tmp 38) (.tmp 39), some (35, true)⟩,
   ⟨(some 41), .pick (.tmp 35) (.tmp 40) (.const (.bool false)), none⟩])
 (.cond (.tmp 41)
  (.draw [⟨(some 42), .mv (.tmp 10), none⟩,
    ⟨(some 43), .faddr (.tmp 11) 0, none⟩,
    ⟨(some 44), .load (.tmp 43) none, none⟩,
    ⟨(some 45), .len false (.tmp 44), none⟩,
    ⟨(some 7), .mv (.tmp 42), none⟩,
    ⟨(some 8), .mv (.tmp 45), none⟩])
  .skip))
 (.ops [⟨(some 46), .mv (.tmp 9), none⟩,
   ⟨(some 47), .mv (.tmp 46), none⟩,
   ⟨(some 48), .faddr (.tmp 11) 0, some (47, false)⟩,
   ⟨(some 49), .load (.tmp 48) none, some (47, false)⟩,
   ⟨(some 50), .len false (.tmp 49), some (47, false)⟩,
   ⟨(some 51), .mv (.tmp 1), some (47, false)⟩,
   ⟨(some 52), .len false (.tmp 51), some (47, false)⟩,
   ⟨(some 53), .int .gtr (.tmp 50) (.tmp 52), some (47, false)⟩,
   ⟨(some 54), .mv (.tmp 53), some (47, false)⟩,
   ⟨(some 55), .faddr (.tmp 11) 0, some (54, true)⟩,
   ⟨(some 56), .load (.tmp 55) none, some (54, true)⟩,
   ⟨(some 57), .mv (.tmp 1), some (54, true)⟩,
   ⟨(some 58), .len false (.tmp 57), some (54, true)⟩,
   ⟨(some 59), .slice (.tmp 56) none (some (.tmp 58)) 1, some (54, true)⟩,
   ⟨(some 60), .mv (.tmp 1), some (54, true)⟩,
   ⟨(some 61), .call (.func 17) [(.tmp 59), (.tmp 60)], some (54, true)⟩,
   ⟨(some 62), .pick (.tmp 54) (.tmp 61) (.const (.bool false)), some (47, false)⟩,
   ⟨(some 63), .pick (.tmp 47) (.const (.bool true)) (.tmp 62), none⟩,
   ⟨(some 9), .mv (.tmp 63), none⟩]))))
 (.ops [⟨(some 64), .int .add (.tmp 14) (.const (.int .i64 1)), none⟩,
   ⟨(some 14), .mv (.tmp 64), none⟩]))))

def k_lontarlaw04_Longest : ACode :=
 (.seq (.ops [⟨(some 4), .mv (.const (.int .i64 0)), none⟩,
   ⟨(some 5), .mv (.const (.int .i64 0)), none⟩,
   ⟨(some 6), .mv (.const (.bool false)), none⟩])
 (.seq (.ops [⟨(some 7), .mv (.const (.int .i64 (-1))), none⟩,
   ⟨(some 8), .mv (.const (.int .i64 0)), none⟩,
   ⟨(some 9), .mv (.const (.bool false)), none⟩])
 (.seq (.seq (.ops [⟨(some 12), .mv (.tmp 0), none⟩,
   ⟨(some 13), .len false (.tmp 12), none⟩,
   ⟨(some 14), .mv (.const (.int .i64 0)), none⟩])
 (.block 0 (.loop [1, 7, 8, 9, 12, 13, 14] b_lontarlaw04_Longest_0)))
 (.seq (.ops [⟨(some 65), .mv (.tmp 7), none⟩,
   ⟨(some 66), .mv (.tmp 8), none⟩,
   ⟨(some 67), .mv (.tmp 9), none⟩,
   ⟨(some 4), .mv (.tmp 65), none⟩,
   ⟨(some 5), .mv (.tmp 66), none⟩,
   ⟨(some 6), .mv (.tmp 67), none⟩])
 .ret))))
def F_lontarlaw04_Longest : AFunc := ⟨2, 68, [.tmp 4, .tmp 5, .tmp 6], k_lontarlaw04_Longest⟩
theorem ok_lontarlaw04_Longest : FOK Try.prog 14 F_lontarlaw04_Longest := FOK.of [[1, 7, 8, 9, 12, 13, 14], [0, 1, 2, 3, 4, 5, 6, 7, 8, 9, 10, 11, 12, 13, 14, 15, 16, 17, 18, 19, 20, 21, 22], [0, 1, 2, 3, 4, 5]] Try.func14 (by kernel_rfl) (by kernel_rfl)

-- lontar/lontarlaw03.Rules
@[reducible] def i_lontarlaw03_Rules : Nat := 15
/-- lontarlaw03_Rules: the body of loop 0 -/
def b_lontarlaw03_Rules_0 : ACode :=
 (.seq (.ops [⟨(some 14), .int .lss (.tmp 13) (.tmp 12), none⟩])
 (.seq (.cond (.tmp 14)
  .skip
  (.exit 0))
 (.seq (.block 1 (.seq (.ops [⟨(some 15), .iaddr (.tmp 11) (.tmp 13) 5, none⟩,
   ⟨(some 16), .load (.tmp 15) (some 5), none⟩,
   ⟨(some 5), .alloc [(.slice none 0 0), (.slice none 0 0), (.bool false), (.slice none 0 0), (.slice none 0 0)] 46, none⟩,
   ⟨none, .store (.tmp 5) (.tmp 16) 5, none⟩])
 (.seq (.draw [⟨(some 17), .faddr (.tmp 5) 0, none⟩,
   ⟨(some 18), .load (.tmp 17) none, none⟩,
   ⟨(some 20), .faddr (.tmp 5) 1, none⟩,
   ⟨(some 21), .load (.tmp 20) none, none⟩,
   ⟨(some 6), .alloc [(.slice none 0 0), (.slice none 0 0)] 41, none⟩,
   ⟨(some 19), .call (.func 25) [(.tmp 18), (.const (.int .i64 97))], none⟩,
   ⟨(some 22), .call (.func 25) [(.tmp 21), (.const (.int .i64 97))], none⟩,
   ⟨(some 23), .build [(.slice none 0 0), (.slice none 0 0)] [(0, 1, (.tmp 19)), (1, 1, (.tmp 22))], none⟩,
   ⟨none, .store (.tmp 6) (.tmp 23) 2, none⟩])
 (.seq (.seq (.ops [⟨(some 24), .faddr (.tmp 5) 2, none⟩,
   ⟨(some 25), .load (.tmp 24) none, none⟩])
 (.cond (.tmp 25)
  (.ops [⟨(some 26), .faddr (.tmp 5) 3, none⟩,
    ⟨(some 27), .load (.tmp 26) (some 2), none⟩,
    ⟨none, .store (.tmp 6) (.tmp 27) 2, none⟩])
  .skip))
 (.ops [⟨(some 28), .mv (.tmp 3), none⟩,
   ⟨(some 29), .load (.tmp 6) (some 2), none⟩,
   ⟨(some 30), .bslice 41 1 2 [(.slice none 0 0), (.slice none 0 0)] [(0, 2, (.tmp 29))], none⟩,
   ⟨(some 31), .append (.tmp 28) (.tmp 30) 41 2 48, none⟩,
   ⟨(some 3), .mv (.tmp 31), none⟩])))))
 (.ops [⟨(some 32), .int .add (.tmp 13) (.const (.int .i64 1)), none⟩,
   ⟨(some 13), .mv (.tmp 32), none⟩]))))

def k_lontarlaw03_Rules : ACode :=
 (.seq (.ops [⟨(some 2), .mv (.const (.slice none 0 0)), none⟩])
 (.seq (.ops [⟨(some 3), .mv (.const (.slice none 0 0)), none⟩])
 (.seq (.seq (.ops [⟨(some 7), .mv (.tmp 0), none⟩,
   ⟨(some 8), .mv (.tmp 0), none⟩,
   ⟨(some 9), .len false (.tmp 8), none⟩,
   ⟨(some 10), .min2 (.tmp 9) (.const (.int .i64 40)), none⟩,
   ⟨(some 11), .slice (.tmp 7) none (some (.tmp 10)) 5, none⟩,
   ⟨(some 12), .len false (.tmp 11), none⟩,
   ⟨(some 13), .mv (.const (.int .i64 0)), none⟩])
 (.block 0 (.loop [3, 11, 12, 13] b_lontarlaw03_Rules_0)))
 (.seq (.ops [⟨(some 33), .mv (.tmp 3), none⟩,
   ⟨(some 2), .mv (.tmp 33), none⟩])
 .ret))))
def F_lontarlaw03_Rules : AFunc := ⟨1, 34, [.tmp 2], k_lontarlaw03_Rules⟩
theorem ok_lontarlaw03_Rules : FOK Try.prog 15 F_lontarlaw03_Rules := FOK.of [[3, 11, 12, 13], [0, 1, 3, 4, 7, 2, 5, 6, 8]] Try.func15 (by kernel_rfl) (by kernel_rfl)

-- lontar/rule.Check
@[reducible] def i_rule_Check : Nat := 16
/-- rule_Check: the body of loop 0 -/
def b_rule_Check_0 : ACode :=
 (.seq (.ops [⟨(some 9), .int .lss (.tmp 8) (.tmp 7), none⟩])
 (.seq (.cond (.tmp 9)
  .skip
  (.exit 0))
 (.seq (.block 1 (.seq (.ops [⟨(some 10), .mv (.tmp 8), none⟩,
   ⟨(some 11), .iaddr (.tmp 6) (.tmp 8) 2, none⟩,
   ⟨(some 12), .load (.tmp 11) (some 2), none⟩,
   ⟨(some 5), .alloc [(.slice none 0 0), (.slice none 0 0)] 41, none⟩,
   ⟨(some 4), .mv (.tmp 10), none⟩,
   ⟨none, .store (.tmp 5) (.tmp 12) 2, none⟩])
 (.block 2 (.seq (.ops [⟨(some 14), .mv (.tmp 4), none⟩,
   ⟨(some 15), .int .geq (.tmp 14) (.const (.int .i64 512)), none⟩,
   ⟨(some 13), .mv (.tmp 15), none⟩])
 (.cond (.tmp 13)
  (.seq (.ops [⟨(some 16), .mv (.tmp 4), none⟩,
    ⟨(some 2), .mv (.tmp 16), none⟩,
    ⟨(some 3), .mv (.const (.int .i64 7)), none⟩])
  .ret)
  (.seq (.ops [⟨(some 18), .faddr (.tmp 5) 0, none⟩,
    ⟨(some 19), .load (.tmp 18) none, none⟩,
    ⟨(some 20), .call (.func 26) [(.tmp 19)], none⟩,
    ⟨(some 21), .not (.tmp 20), none⟩,
    ⟨(some 22), .mv (.tmp 21), none⟩,
    ⟨(some 23), .faddr (.tmp 5) 1, some (22, false)⟩,
    ⟨(some 24), .load (.tmp 23) none, some (22, false)⟩,
    ⟨(some 25), .call (.func 26) [(.tmp 24)], some (22, false)⟩,
    ⟨(some 26), .not (.tmp 25), some (22, false)⟩,
    ⟨(some 27), .pick (.tmp 22) (.const (.bool true)) (.tmp 26), none⟩,
    ⟨(some 17), .mv (.tmp 27), none⟩])
  (.cond (.tmp 17)
   (.seq (.ops [⟨(some 28), .mv (.tmp 4), none⟩,
     ⟨(some 2), .mv (.tmp 28), none⟩,
     ⟨(some 3), .mv (.const (.int .i64 9)), none⟩])
   .ret)
   (.seq (.draw [⟨(some 30), .mv (.tmp 0), none⟩,
     ⟨(some 31), .mv (.tmp 4), none⟩,
     ⟨(some 32), .slice (.tmp 30) none (some (.tmp 31)) 2, none⟩,
     ⟨(some 33), .faddr (.tmp 5) 0, none⟩,
     ⟨(some 34), .load (.tmp 33) none, none⟩,
     ⟨(some 35), .call (.func 27) [(.tmp 32), (.tmp 34)], none⟩,
     ⟨(some 36), .int .geq (.tmp 35) (.const (.int .i64 0)), none⟩,
     ⟨(some 29), .mv (.tmp 36), none⟩])
   (.cond (.tmp 29)
    (.seq (.ops [⟨(some 37), .mv (.tmp 4), none⟩,
      ⟨(some 2), .mv (.tmp 37), none⟩,
      ⟨(some 3), .mv (.const (.int .i64 8)), none⟩])
    .ret)
    .skip)))))))))
 (.ops [⟨(some 38), .int .add (.tmp 8) (.const (.int .i64 1)), none⟩,
   ⟨(some 8), .mv (.tmp 38), none⟩]))))

def k_rule_Check : ACode :=
 (.seq (.ops [⟨(some 2), .mv (.const (.int .i64 0)), none⟩,
   ⟨(some 3), .mv (.const (.int .i64 0)), none⟩])
 (.seq (.seq (.ops [⟨(some 6), .mv (.tmp 0), none⟩,
   ⟨(some 7), .len false (.tmp 6), none⟩,
   ⟨(some 8), .mv (.const (.int .i64 0)), none⟩])
 (.block 0 (.loop [0, 6, 7, 8] b_rule_Check_0)))
 (.seq (.ops [⟨(some 2), .mv (.const (.int .i64 (-1))), none⟩,
   ⟨(some 3), .mv (.const (.int .i64 0)), none⟩])
 .ret)))
def F_rule_Check : AFunc := ⟨1, 39, [.tmp 2, .tmp 3], k_rule_Check⟩
theorem ok_rule_Check : FOK Try.prog 16 F_rule_Check := FOK.of [[0, 6, 7, 8], [0, 1, 2, 3, 4, 5, 6, 7]] Try.func16 (by kernel_rfl) (by kernel_rfl)

-- lontar/lontarlaw01.Units
@[reducible] def i_lontarlaw01_Units : Nat := 17
/-- lontarlaw01_Units: the body of loop 0 -/
def b_lontarlaw01_Units_0 : ACode :=
 (.seq (.ops [⟨(some 14), .int .lss (.tmp 13) (.tmp 12), none⟩])
 (.seq (.cond (.tmp 14)
  .skip
  (.exit 0))
 (.seq (.block 1 (.seq (.ops [⟨(some 15), .mv (.tmp 13), none⟩,
   ⟨(some 5), .mv (.tmp 15), none⟩])
 (.seq (.draw [⟨(some 16), .mv (.tmp 0), none⟩,
   ⟨(some 17), .mv (.tmp 5), none⟩,
   ⟨(some 18), .iaddr (.tmp 16) (.tmp 17) 1, none⟩,
   ⟨(some 19), .load (.tmp 18) none, none⟩,
   ⟨(some 20), .mv (.tmp 1), none⟩,
   ⟨(some 21), .mv (.tmp 5), none⟩,
   ⟨(some 22), .iaddr (.tmp 20) (.tmp 21) 1, none⟩,
   ⟨(some 23), .load (.tmp 22) none, none⟩,
   ⟨(some 24), .int .neq (.tmp 19) (.tmp 23), none⟩])
 (.cond (.tmp 24)
  (.seq (.ops [⟨(some 4), .mv (.const (.bool false)), none⟩])
  .ret)
  .skip))))
 (.ops [⟨(some 25), .int .add (.tmp 13) (.const (.int .i64 1)), none⟩,
   ⟨(some 13), .mv (.tmp 25), none⟩]))))

def k_lontarlaw01_Units : ACode :=
 (.seq (.ops [⟨(some 4), .mv (.const (.bool false)), none⟩])
 (.seq (.seq (.ops [⟨(some 6), .mv (.tmp 0), none⟩,
   ⟨(some 7), .len false (.tmp 6), none⟩,
   ⟨(some 8), .mv (.tmp 1), none⟩,
   ⟨(some 9), .len false (.tmp 8), none⟩,
   ⟨(some 10), .int .neq (.tmp 7) (.tmp 9), none⟩])
 (.cond (.tmp 10)
  (.seq (.ops [⟨(some 4), .mv (.const (.bool false)), none⟩])
  .ret)
  .skip))
 (.seq (.seq (.ops [⟨(some 11), .mv (.tmp 0), none⟩,
   ⟨(some 12), .len false (.tmp 11), none⟩,
   ⟨(some 13), .mv (.const (.int .i64 0)), none⟩])
 (.block 0 (.loop [0, 1, 12, 13] b_lontarlaw01_Units_0)))
 (.seq (.ops [⟨(some 4), .mv (.const (.bool true)), none⟩])
 .ret))))
def F_lontarlaw01_Units : AFunc := ⟨2, 26, [.tmp 4], k_lontarlaw01_Units⟩
theorem ok_lontarlaw01_Units : FOK Try.prog 17 F_lontarlaw01_Units := FOK.of [[0, 1, 12, 13], [0, 1, 2, 3, 4, 5, 6, 7, 8]] Try.func17 (by kernel_rfl) (by kernel_rfl)

-- (*lontar/trie.Trie).Size
@[reducible] def i_trie_Trie__Size : Nat := 18
def k_trie_Trie__Size : ACode :=
 (.seq (.ops [⟨(some 2), .mv (.const (.int .i64 0)), none⟩])
 (.seq (.ops [⟨(some 3), .mv (.tmp 0), none⟩,
   ⟨(some 4), .nilChk (.tmp 3), none⟩,
   ⟨(some 5), .faddr (.tmp 4) 0, none⟩,
   ⟨(some 6), .load (.tmp 5) none, none⟩,
   ⟨(some 7), .len false (.tmp 6), none⟩,
   ⟨(some 2), .mv (.tmp 7), none⟩])
 .ret))
def F_trie_Trie__Size : AFunc := ⟨1, 8, [.tmp 2], k_trie_Trie__Size⟩
theorem ok_trie_Trie__Size : FOK Try.prog 18 F_trie_Trie__Size := FOK.of [] Try.func18 (by kernel_rfl) (by kernel_rfl)

-- (*lontar/trie.Trie).Step
@[reducible] def i_trie_Trie__Step : Nat := 19
/-- trie_Trie__Step: the body of loop 0 -/
def b_trie_Trie__Step_0 : ACode :=
 (.seq (.seq (.ops [⟨(some 28), .mv (.tmp 8), none⟩,
   ⟨(some 29), .int .gtr (.tmp 28) (.const (.int .i64 0)), none⟩])
 (.cond (.tmp 29)
  .skip
  (.exit 0)))
 (.seq (.block 1 (.seq (.ops [⟨(some 38), .mv (.tmp 0), none⟩,
   ⟨(some 39), .nilChk (.tmp 38), none⟩,
   ⟨(some 40), .faddr (.tmp 39) 0, none⟩,
   ⟨(some 41), .load (.tmp 40) none, none⟩,
   ⟨(some 42), .mv (.tmp 8), none⟩,
   ⟨(some 43), .iaddr (.tmp 41) (.tmp 42) 4, none⟩,
   ⟨(some 44), .faddr (.tmp 43) 0, none⟩,
   ⟨(some 45), .load (.tmp 44) none, none⟩,
   ⟨(some 46), .mv (.tmp 2), none⟩,
   ⟨(some 47), .int .eql (.tmp 45) (.tmp 46), none⟩])
 (.cond (.tmp 47)
  (.seq (.ops [⟨(some 48), .mv (.tmp 8), none⟩,
    ⟨(some 6), .mv (.tmp 48), none⟩,
    ⟨(some 7), .mv (.const (.bool true)), none⟩])
  .ret)
  .skip)))
 (.ops [⟨(some 30), .mv (.tmp 0), none⟩,
   ⟨(some 31), .nilChk (.tmp 30), none⟩,
   ⟨(some 32), .faddr (.tmp 31) 0, none⟩,
   ⟨(some 33), .load (.tmp 32) none, none⟩,
   ⟨(some 34), .mv (.tmp 8), none⟩,
   ⟨(some 35), .iaddr (.tmp 33) (.tmp 34) 4, none⟩,
   ⟨(some 36), .faddr (.tmp 35) 2, none⟩,
   ⟨(some 37), .load (.tmp 36) none, none⟩,
   ⟨(some 8), .mv (.tmp 37), none⟩])))

def k_trie_Trie__Step : ACode :=
 (.seq (.ops [⟨(some 6), .mv (.const (.int .i64 0)), none⟩,
   ⟨(some 7), .mv (.const (.bool false)), none⟩])
 (.seq (.seq (.ops [⟨(some 9), .mv (.tmp 1), none⟩,
   ⟨(some 10), .int .lss (.tmp 9) (.const (.int .i64 0)), none⟩,
   ⟨(some 11), .mv (.tmp 10), none⟩,
   ⟨(some 12), .mv (.tmp 1), some (11, false)⟩,
   ⟨(some 13), .mv (.tmp 0), some (11, false)⟩,
   ⟨(some 14), .nilChk (.tmp 13), some (11, false)⟩,
   ⟨(some 15), .faddr (.tmp 14) 0, some (11, false)⟩,
   ⟨(some 16), .load (.tmp 15) none, some (11, false)⟩,
   ⟨(some 17), .len false (.tmp 16), some (11, false)⟩,
   ⟨(some 18), .int .geq (.tmp 12) (.tmp 17), some (11, false)⟩,
   ⟨(some 19), .pick (.tmp 11) (.const (.bool true)) (.tmp 18), none⟩])
 (.cond (.tmp 19)
  (.seq (.ops [⟨(some 6), .mv (.const (.int .i64 0)), none⟩,
    ⟨(some 7), .mv (.const (.bool false)), none⟩])
  .ret)
  .skip))
 (.seq (.seq (.ops [⟨(some 20), .mv (.tmp 0), none⟩,
   ⟨(some 21), .nilChk (.tmp 20), none⟩,
   ⟨(some 22), .faddr (.tmp 21) 0, none⟩,
   ⟨(some 23), .load (.tmp 22) none, none⟩,
   ⟨(some 24), .mv (.tmp 1), none⟩,
   ⟨(some 25), .iaddr (.tmp 23) (.tmp 24) 4, none⟩,
   ⟨(some 26), .faddr (.tmp 25) 1, none⟩,
   ⟨(some 27), .load (.tmp 26) none, none⟩,
   ⟨(some 8), .mv (.tmp 27), none⟩])
 (.block 0 (.loop [0, 2, 8] b_trie_Trie__Step_0)))
 (.seq (.ops [⟨(some 6), .mv (.const (.int .i64 0)), none⟩,
   ⟨(some 7), .mv (.const (.bool false)), none⟩])
 .ret))))
def F_trie_Trie__Step : AFunc := ⟨3, 49, [.tmp 6, .tmp 7], k_trie_Trie__Step⟩
theorem ok_trie_Trie__Step : FOK Try.prog 19 F_trie_Trie__Step := FOK.of [[0, 2, 8]] Try.func19 (by kernel_rfl) (by kernel_rfl)

-- (*lontar/trie.Trie).Leaf
@[reducible] def i_trie_Trie__Leaf : Nat := 20
def k_trie_Trie__Leaf : ACode :=
 (.seq (.ops [⟨(some 4), .mv (.const (.bool false)), none⟩])
 (.seq (.ops [⟨(some 5), .mv (.tmp 1), none⟩,
   ⟨(some 6), .int .lss (.tmp 5) (.const (.int .i64 0)), none⟩,
   ⟨(some 7), .mv (.tmp 6), none⟩,
   ⟨(some 8), .mv (.tmp 1), some (7, false)⟩,
   ⟨(some 9), .mv (.tmp 0), some (7, false)⟩,
   ⟨(some 10), .nilChk (.tmp 9), some (7, false)⟩,
   ⟨(some 11), .faddr (.tmp 10) 0, some (7, false)⟩,
   ⟨(some 12), .load (.tmp 11) none, some (7, false)⟩,
   ⟨(some 13), .len false (.tmp 12), some (7, false)⟩,
   ⟨(some 14), .int .geq (.tmp 8) (.tmp 13), some (7, false)⟩,
   ⟨(some 15), .pick (.tmp 7) (.const (.bool true)) (.tmp 14), none⟩,
   ⟨(some 16), .mv (.tmp 15), none⟩,
   ⟨(some 17), .mv (.tmp 0), some (16, false)⟩,
   ⟨(some 18), .nilChk (.tmp 17), some (16, false)⟩,
   ⟨(some 19), .faddr (.tmp 18) 0, some (16, false)⟩,
   ⟨(some 20), .load (.tmp 19) none, some (16, false)⟩,
   ⟨(some 21), .mv (.tmp 1), some (16, false)⟩,
   ⟨(some 22), .iaddr (.tmp 20) (.tmp 21) 4, some (16, false)⟩,
   ⟨(some 23), .faddr (.tmp 22) 1, some (16, false)⟩,
   ⟨(some 24), .load (.tmp 23) none, some (16, false)⟩,
   ⟨(some 25), .int .eql (.tmp 24) (.const (.int .i64 0)), some (16, false)⟩,
   ⟨(some 26), .pick (.tmp 16) (.const (.bool true)) (.tmp 25), none⟩,
   ⟨(some 4), .mv (.tmp 26), none⟩])
 .ret))
def F_trie_Trie__Leaf : AFunc := ⟨2, 27, [.tmp 4], k_trie_Trie__Leaf⟩
theorem ok_trie_Trie__Leaf : FOK Try.prog 20 F_trie_Trie__Leaf := FOK.of [] Try.func20 (by kernel_rfl) (by kernel_rfl)

-- (*lontar/trie.Trie).Rule
@[reducible] def i_trie_Trie__Rule : Nat := 21
def k_trie_Trie__Rule : ACode :=
 (.seq (.ops [⟨(some 4), .mv (.const (.int .i64 0)), none⟩])
 (.seq (.seq (.ops [⟨(some 5), .mv (.tmp 1), none⟩,
   ⟨(some 6), .int .lss (.tmp 5) (.const (.int .i64 0)), none⟩,
   ⟨(some 7), .mv (.tmp 6), none⟩,
   ⟨(some 8), .mv (.tmp 1), some (7, false)⟩,
   ⟨(some 9), .mv (.tmp 0), some (7, false)⟩,
   ⟨(some 10), .nilChk (.tmp 9), some (7, false)⟩,
   ⟨(some 11), .faddr (.tmp 10) 0, some (7, false)⟩,
   ⟨(some 12), .load (.tmp 11) none, some (7, false)⟩,
   ⟨(some 13), .len false (.tmp 12), some (7, false)⟩,
   ⟨(some 14), .int .geq (.tmp 8) (.tmp 13), some (7, false)⟩,
   ⟨(some 15), .pick (.tmp 7) (.const (.bool true)) (.tmp 14), none⟩])
 (.cond (.tmp 15)
  (.seq (.ops [⟨(some 4), .mv (.const (.int .i64 (-1))), none⟩])
  .ret)
  .skip))
 (.seq (.ops [⟨(some 16), .mv (.tmp 0), none⟩,
   ⟨(some 17), .nilChk (.tmp 16), none⟩,
   ⟨(some 18), .faddr (.tmp 17) 0, none⟩,
   ⟨(some 19), .load (.tmp 18) none, none⟩,
   ⟨(some 20), .mv (.tmp 1), none⟩,
   ⟨(some 21), .iaddr (.tmp 19) (.tmp 20) 4, none⟩,
   ⟨(some 22), .faddr (.tmp 21) 3, none⟩,
   ⟨(some 23), .load (.tmp 22) none, none⟩,
   ⟨(some 4), .mv (.tmp 23), none⟩])
 .ret)))
def F_trie_Trie__Rule : AFunc := ⟨2, 24, [.tmp 4], k_trie_Trie__Rule⟩
theorem ok_trie_Trie__Rule : FOK Try.prog 21 F_trie_Trie__Rule := FOK.of [] Try.func21 (by kernel_rfl) (by kernel_rfl)

-- (*lontar/trie.Trie).Out
@[reducible] def i_trie_Trie__Out : Nat := 22
def k_trie_Trie__Out : ACode :=
 (.seq (.ops [⟨(some 4), .mv (.const (.slice none 0 0)), none⟩])
 (.seq (.seq (.ops [⟨(some 5), .mv (.tmp 1), none⟩,
   ⟨(some 6), .int .lss (.tmp 5) (.const (.int .i64 0)), none⟩,
   ⟨(some 7), .mv (.tmp 6), none⟩,
   ⟨(some 8), .mv (.tmp 1), some (7, false)⟩,
   ⟨(some 9), .mv (.tmp 0), some (7, false)⟩,
   ⟨(some 10), .nilChk (.tmp 9), some (7, false)⟩,
   ⟨(some 11), .faddr (.tmp 10) 1, some (7, false)⟩,
   ⟨(some 12), .load (.tmp 11) none, some (7, false)⟩,
   ⟨(some 13), .len false (.tmp 12), some (7, false)⟩,
   ⟨(some 14), .int .geq (.tmp 8) (.tmp 13), some (7, false)⟩,
   ⟨(some 15), .pick (.tmp 7) (.const (.bool true)) (.tmp 14), none⟩])
 (.cond (.tmp 15)
  (.seq (.ops [⟨(some 4), .mv (.const (.slice none 0 0)), none⟩])
  .ret)
  .skip))
 (.seq (.ops [⟨(some 16), .mv (.tmp 0), none⟩,
   ⟨(some 17), .nilChk (.tmp 16), none⟩,
   ⟨(some 18), .faddr (.tmp 17) 1, none⟩,
   ⟨(some 19), .load (.tmp 18) none, none⟩,
   ⟨(some 20), .mv (.tmp 1), none⟩,
   ⟨(some 21), .iaddr (.tmp 19) (.tmp 20) 2, none⟩,
   ⟨(some 22), .faddr (.tmp 21) 1, none⟩,
   ⟨(some 23), .load (.tmp 22) none, none⟩,
   ⟨(some 24), .append (.const (.slice none 0 0)) (.tmp 23) 3 1 8, none⟩,
   ⟨(some 4), .mv (.tmp 24), none⟩])
 .ret)))
def F_trie_Trie__Out : AFunc := ⟨2, 25, [.tmp 4], k_trie_Trie__Out⟩
theorem ok_trie_Trie__Out : FOK Try.prog 22 F_trie_Trie__Out := FOK.of [] Try.func22 (by kernel_rfl) (by kernel_rfl)

-- lontar/lontarlaw03.may
@[reducible] def i_lontarlaw03_may : Nat := 23
/-- lontarlaw03_may: the body of loop 0 -/
def b_lontarlaw03_may_0 : ACode :=
 (.seq (.ops [⟨(some 8), .int .lss (.tmp 7) (.tmp 6), none⟩])
 (.seq (.cond (.tmp 8)
  .skip
  (.exit 0))
 (.seq (.block 1 (.seq (.ops [⟨(some 9), .iaddr (.tmp 5) (.tmp 7) 1, none⟩,
   ⟨(some 10), .load (.tmp 9) none, none⟩,
   ⟨(some 4), .mv (.tmp 10), none⟩])
 (.seq (.ops [⟨(some 11), .mv (.tmp 4), none⟩,
   ⟨(some 12), .int .lss (.tmp 11) (.const (.int .i64 0)), none⟩,
   ⟨(some 13), .mv (.tmp 12), none⟩,
   ⟨(some 14), .mv (.tmp 4), some (13, false)⟩,
   ⟨(some 15), .int .gtr (.tmp 14) (.const (.int .i64 1114111)), some (13, false)⟩,
   ⟨(some 16), .pick (.tmp 13) (.const (.bool true)) (.tmp 15), none⟩])
 (.cond (.tmp 16)
  (.seq (.ops [⟨(some 2), .mv (.const (.bool false)), none⟩])
  .ret)
  .skip))))
 (.ops [⟨(some 17), .int .add (.tmp 7) (.const (.int .i64 1)), none⟩,
   ⟨(some 7), .mv (.tmp 17), none⟩]))))

def k_lontarlaw03_may : ACode :=
 (.seq (.ops [⟨(some 2), .mv (.const (.bool false)), none⟩])
 (.seq (.seq (.ops [⟨(some 5), .mv (.tmp 0), none⟩,
   ⟨(some 6), .len false (.tmp 5), none⟩,
   ⟨(some 7), .mv (.const (.int .i64 0)), none⟩])
 (.block 0 (.loop [0, 5, 6, 7] b_lontarlaw03_may_0)))
 (.seq (.ops [⟨(some 18), .mv (.tmp 0), none⟩,
   ⟨(some 19), .len false (.tmp 18), none⟩,
   ⟨(some 20), .int .gtr (.tmp 19) (.const (.int .i64 0)), none⟩,
   ⟨(some 21), .mv (.tmp 20), none⟩,
   ⟨(some 22), .mv (.tmp 0), some (21, true)⟩,
   ⟨(some 23), .len false (.tmp 22), some (21, true)⟩,
   ⟨(some 24), .int .lss (.tmp 23) (.const (.int .i64 9)), some (21, true)⟩,
   ⟨(some 25), .pick (.tmp 21) (.tmp 24) (.const (.bool false)), none⟩,
   ⟨(some 2), .mv (.tmp 25), none⟩])
 .ret)))
def F_lontarlaw03_may : AFunc := ⟨1, 26, [.tmp 2], k_lontarlaw03_may⟩
theorem ok_lontarlaw03_may : FOK Try.prog 23 F_lontarlaw03_may := FOK.of [[0, 5, 6, 7]] Try.func23 (by kernel_rfl) (by kernel_rfl)

-- lontar/lontarlaw03.find
@[reducible] def i_lontarlaw03_find : Nat := 24
/-- lontarlaw03_find: the body of loop 0 -/
def b_lontarlaw03_find_0 : ACode :=
 (.seq (.ops [⟨(some 10), .int .lss (.tmp 9) (.tmp 8), none⟩])
 (.seq (.cond (.tmp 10)
  .skip
  (.exit 0))
 (.seq (.block 1 (.seq (.ops [⟨(some 11), .mv (.tmp 9), none⟩,
   ⟨(some 12), .iaddr (.tmp 7) (.tmp 9) 2, none⟩,
   ⟨(some 13), .load (.tmp 12) (some 2), none⟩,
   ⟨(some 6), .alloc [(.slice none 0 0), (.slice none 0 0)] 41, none⟩,
   ⟨(some 5), .mv (.tmp 11), none⟩,
   ⟨none, .store (.tmp 6) (.tmp 13) 2, none⟩])
 (.seq (.ops [⟨(some 14), .faddr (.tmp 6) 0, none⟩,
   ⟨(some 15), .load (.tmp 14) none, none⟩,
   ⟨(some 16), .mv (.tmp 1), none⟩,
   ⟨(some 17), .call (.func 17) [(.tmp 15), (.tmp 16)], none⟩])
 (.cond (.tmp 17)
  (.seq (.ops [⟨(some 18), .mv (.tmp 5), none⟩,
    ⟨(some 4), .mv (.tmp 18), none⟩])
  .ret)
  .skip))))
 (.ops [⟨(some 19), .int .add (.tmp 9) (.const (.int .i64 1)), none⟩,
   ⟨(some 9), .mv (.tmp 19), none⟩]))))

def k_lontarlaw03_find : ACode :=
 (.seq (.ops [⟨(some 4), .mv (.const (.int .i64 0)), none⟩])
 (.seq (.seq (.ops [⟨(some 7), .mv (.tmp 0), none⟩,
   ⟨(some 8), .len false (.tmp 7), none⟩,
   ⟨(some 9), .mv (.const (.int .i64 0)), none⟩])
 (.block 0 (.loop [1, 7, 8, 9] b_lontarlaw03_find_0)))
 (.seq (.ops [⟨(some 4), .mv (.const (.int .i64 (-1))), none⟩])
 .ret)))
def F_lontarlaw03_find : AFunc := ⟨2, 20, [.tmp 4], k_lontarlaw03_find⟩
theorem ok_lontarlaw03_find : FOK Try.prog 24 F_lontarlaw03_find := FOK.of [[1, 7, 8, 9]] Try.func24 (by kernel_rfl) (by kernel_rfl)

-- lontar/lontarlaw03.units
@[reducible] def i_lontarlaw03_units : Nat := 25
/-- lontarlaw03_units: the body of loop 0 -/
def b_lontarlaw03_units_0 : ACode :=
 (.seq (.ops [⟨(some 15), .int .lss (.tmp 14) (.tmp 13), none⟩])
 (.seq (.cond (.tmp 15)
  .skip
  (.exit 0))
 (.seq (.block 1 (.seq (.ops [⟨(some 16), .iaddr (.tmp 12) (.tmp 14) 1, none⟩,
   ⟨(some 17), .load (.tmp 16) none, none⟩,
   ⟨(some 7), .mv (.tmp 17), none⟩])
 (.ops [⟨(some 18), .mv (.tmp 5), none⟩,
   ⟨(some 19), .mv (.tmp 1), none⟩,
   ⟨(some 20), .mv (.tmp 7), none⟩,
   ⟨(some 21), .int .rem (.tmp 20) (.const (.int .u8 5)), none⟩,
   ⟨(some 22), .conv .i64 (.tmp 21), none⟩,
   ⟨(some 23), .int .add (.tmp 19) (.tmp 22), none⟩,
   ⟨(some 24), .bslice 3 1 1 [(.int .i64 0)] [(0, 1, (.tmp 23))], none⟩,
   ⟨(some 25), .append (.tmp 18) (.tmp 24) 3 1 8, none⟩,
   ⟨(some 5), .mv (.tmp 25), none⟩])))
 (.ops [⟨(some 26), .int .add (.tmp 14) (.const (.int .i64 1)), none⟩,
   ⟨(some 14), .mv (.tmp 26), none⟩]))))

def k_lontarlaw03_units : ACode :=
 (.seq (.ops [⟨(some 4), .mv (.const (.slice none 0 0)), none⟩])
 (.seq (.ops [⟨(some 5), .mv (.const (.slice none 0 0)), none⟩])
 (.seq (.seq (.ops [⟨(some 8), .mv (.tmp 0), none⟩,
   ⟨(some 9), .mv (.tmp 0), none⟩,
   ⟨(some 10), .len false (.tmp 9), none⟩,
   ⟨(some 11), .min2 (.tmp 10) (.const (.int .i64 4)), none⟩,
   ⟨(some 12), .slice (.tmp 8) none (some (.tmp 11)) 1, none⟩,
   ⟨(some 13), .len false (.tmp 12), none⟩,
   ⟨(some 14), .mv (.const (.int .i64 0)), none⟩])
 (.block 0 (.loop [1, 5, 12, 13, 14] b_lontarlaw03_units_0)))
 (.seq (.ops [⟨(some 27), .mv (.tmp 5), none⟩,
   ⟨(some 28), .mv (.tmp 1), none⟩,
   ⟨(some 29), .bslice 3 1 1 [(.int .i64 0)] [(0, 1, (.tmp 28))], none⟩,
   ⟨(some 30), .append (.tmp 27) (.tmp 29) 3 1 8, none⟩,
   ⟨(some 31), .mv (.tmp 5), none⟩,
   ⟨(some 32), .len false (.tmp 31), none⟩,
   ⟨(some 33), .max2 (.const (.int .i64 1)) (.tmp 32), none⟩,
   ⟨(some 34), .slice (.tmp 30) none (some (.tmp 33)) 1, none⟩,
   ⟨(some 4), .mv (.tmp 34), none⟩])
 .ret))))
def F_lontarlaw03_units : AFunc := ⟨2, 35, [.tmp 4], k_lontarlaw03_units⟩
theorem ok_lontarlaw03_units : FOK Try.prog 25 F_lontarlaw03_units := FOK.of [[1, 5, 12, 13, 14]] Try.func25 (by kernel_rfl) (by kernel_rfl)

-- lontar/rule.side
@[reducible] def i_rule_side : Nat := 26
def k_rule_side : ACode :=
 (.seq (.ops [⟨(some 2), .mv (.const (.bool false)), none⟩])
 (.seq (.ops [⟨(some 3), .mv (.tmp 0), none⟩,
   ⟨(some 4), .len false (.tmp 3), none⟩,
   ⟨(some 5), .int .gtr (.tmp 4) (.const (.int .i64 0)), none⟩,
   ⟨(some 6), .mv (.tmp 5), none⟩,
   ⟨(some 7), .mv (.tmp 0), some (6, true)⟩,
   ⟨(some 8), .len false (.tmp 7), some (6, true)⟩,
   ⟨(some 9), .int .leq (.tmp 8) (.const (.int .i64 8)), some (6, true)⟩,
   ⟨(some 10), .pick (.tmp 6) (.tmp 9) (.const (.bool false)), none⟩,
   ⟨(some 11), .mv (.tmp 10), none⟩,
   ⟨(some 12), .mv (.tmp 0), some (11, true)⟩,
   ⟨(some 13), .call (.func 28) [(.tmp 12), (.func 29)], some (11, true)⟩,
   ⟨(some 14), .not (.tmp 13), some (11, true)⟩,
   ⟨(some 15), .pick (.tmp 11) (.tmp 14) (.const (.bool false)), none⟩,
   ⟨(some 2), .mv (.tmp 15), none⟩])
 .ret))
def F_rule_side : AFunc := ⟨1, 16, [.tmp 2], k_rule_side⟩
theorem ok_rule_side : FOK Try.prog 26 F_rule_side := FOK.of [] Try.func26 (by kernel_rfl) (by kernel_rfl)

-- lontar/rule.Find
@[reducible] def i_rule_Find : Nat := 27
def k_rule_Find : ACode :=
 (.seq (.ops [⟨(some 3), .box (.tmp 1) 24, none⟩,
   ⟨(some 4), .mv (.const (.int .i64 0)), none⟩])
 (.seq (.ops [⟨(some 5), .mv (.tmp 0), none⟩,
   ⟨(some 6), .mkfun (.func 31) [] [(.tmp 3)], none⟩,
   ⟨(some 7), .call (.func 30) [(.tmp 5), (.tmp 6)], none⟩,
   ⟨(some 4), .mv (.tmp 7), none⟩])
 .ret))
def F_rule_Find : AFunc := ⟨2, 8, [.tmp 4], k_rule_Find⟩
theorem ok_rule_Find : FOK Try.prog 27 F_rule_Find := FOK.of [] Try.func27 (by kernel_rfl) (by kernel_rfl)

-- slices.ContainsFunc[[]int,int]
@[reducible] def i_slices_ContainsFunc___int_int_ : Nat := 28
def k_slices_ContainsFunc___int_int_ : ACode :=
 (.seq (.ops [⟨(some 4), .mv (.const (.bool false)), none⟩])
 (.seq (.ops [⟨(some 5), .mv (.tmp 0), none⟩,
   ⟨(some 6), .mv (.tmp 1), none⟩,
   ⟨(some 7), .call (.func 33) [(.tmp 5), (.tmp 6)], none⟩,
   ⟨(some 8), .int .geq (.tmp 7) (.const (.int .i64 0)), none⟩,
   ⟨(some 4), .mv (.tmp 8), none⟩])
 .ret))
def F_slices_ContainsFunc___int_int_ : AFunc := ⟨2, 9, [.tmp 4], k_slices_ContainsFunc___int_int_⟩
theorem ok_slices_ContainsFunc___int_int_ : FOK Try.prog 28 F_slices_ContainsFunc___int_int_ := FOK.of [] Try.func28 (by kernel_rfl) (by kernel_rfl)

-- lontar/rule.side$1
@[reducible] def i_rule_side_1 : Nat := 29
def k_rule_side_1 : ACode :=
 (.seq (.ops [⟨(some 2), .mv (.const (.bool false)), none⟩])
 (.seq (.ops [⟨(some 3), .mv (.tmp 0), none⟩,
   ⟨(some 4), .int .lss (.tmp 3) (.const (.int .i64 0)), none⟩,
   ⟨(some 5), .mv (.tmp 4), none⟩,
   ⟨(some 6), .mv (.tmp 0), some (5, false)⟩,
   ⟨(some 7), .int .gtr (.tmp 6) (.const (.int .i64 1114111)), some (5, false)⟩,
   ⟨(some 8), .pick (.tmp 5) (.const (.bool true)) (.tmp 7), none⟩,
   ⟨(some 2), .mv (.tmp 8), none⟩])
 .ret))
def F_rule_side_1 : AFunc := ⟨1, 9, [.tmp 2], k_rule_side_1⟩
theorem ok_rule_side_1 : FOK Try.prog 29 F_rule_side_1 := FOK.of [] Try.func29 (by kernel_rfl) (by kernel_rfl)

-- slices.IndexFunc[[]lontar/api.Rule,lontar/api.Rule]
@[reducible] def i_api_Rule_ : Nat := 30
/-- api_Rule_: the body of loop 0 -/
def b_api_Rule__0 : ACode :=
 (.seq (.ops [⟨(some 9), .int .lss (.tmp 8) (.tmp 7), none⟩])
 (.seq (.cond (.tmp 9)
  .skip
  (.exit 0))
 (.seq (.block 1 (.seq (.ops [⟨(some 10), .mv (.tmp 8), none⟩,
   ⟨(some 5), .mv (.tmp 10), none⟩])
 (.seq (.ops [⟨(some 11), .mv (.tmp 1), none⟩,
   ⟨(some 12), .mv (.tmp 0), none⟩,
   ⟨(some 13), .mv (.tmp 5), none⟩,
   ⟨(some 14), .iaddr (.tmp 12) (.tmp 13) 2, none⟩,
   ⟨(some 15), .load (.tmp 14) (some 2), none⟩,
   ⟨(some 16), .call (.tmp 11) [(.tmp 15)], none⟩])
 (.cond (.tmp 16)
  (.seq (.ops [⟨(some 17), .mv (.tmp 5), none⟩,
    ⟨(some 4), .mv (.tmp 17), none⟩])
  .ret)
  .skip))))
 (.ops [⟨(some 18), .int .add (.tmp 8) (.const (.int .i64 1)), none⟩,
   ⟨(some 8), .mv (.tmp 18), none⟩]))))

def k_api_Rule_ : ACode :=
 (.seq (.ops [⟨(some 4), .mv (.const (.int .i64 0)), none⟩])
 (.seq (.seq (.ops [⟨(some 6), .mv (.tmp 0), none⟩,
   ⟨(some 7), .len false (.tmp 6), none⟩,
   ⟨(some 8), .mv (.const (.int .i64 0)), none⟩])
 (.block 0 (.loop [0, 1, 7, 8] b_api_Rule__0)))
 (.seq (.ops [⟨(some 4), .mv (.const (.int .i64 (-1))), none⟩])
 .ret)))
def F_api_Rule_ : AFunc := ⟨2, 19, [.tmp 4], k_api_Rule_⟩
theorem ok_api_Rule_ : FOK Try.prog 30 F_api_Rule_ := FOK.of [[0, 1, 7, 8]] Try.func30 (by kernel_rfl) (by kernel_rfl)

-- lontar/rule.Find$1
@[reducible] def i_rule_Find_1 : Nat := 31
def k_rule_Find_1 : ACode :=
 (.seq (.ops [⟨(some 2), .box (.tmp 0) 41, none⟩,
   ⟨(some 3), .mv (.const (.bool false)), none⟩])
 (.seq (.ops [⟨(some 4), .faddr (.tmp 2) 0, none⟩,
   ⟨(some 5), .load (.tmp 4) none, none⟩,
   ⟨(some 6), .load (.tmp 1) none, none⟩,
   ⟨(some 7), .call (.func 32) [(.tmp 5), (.tmp 6)], none⟩,
   ⟨(some 3), .mv (.tmp 7), none⟩])
 .ret))
def F_rule_Find_1 : AFunc := ⟨2, 8, [.tmp 3], k_rule_Find_1⟩
theorem ok_rule_Find_1 : FOK Try.prog 31 F_rule_Find_1 := FOK.of [] Try.func31 (by kernel_rfl) (by kernel_rfl)

-- slices.Equal[[]int,int]
@[reducible] def i_slices_Equal___int_int_ : Nat := 32
/-- slices_Equal___int_int_: the body of loop 0 -/
def b_slices_Equal___int_int__0 : ACode :=
 (.seq (.ops [⟨(some 14), .int .lss (.tmp 13) (.tmp 12), none⟩])
 (.seq (.cond (.tmp 14)
  .skip
  (.exit 0))
 (.seq (.block 1 (.seq (.ops [⟨(some 15), .mv (.tmp 13), none⟩,
   ⟨(some 5), .mv (.tmp 15), none⟩])
 (.seq (.draw [⟨(some 16), .mv (.tmp 0), none⟩,
   ⟨(some 17), .mv (.tmp 5), none⟩,
   ⟨(some 18), .iaddr (.tmp 16) (.tmp 17) 1, none⟩,
   ⟨(some 19), .load (.tmp 18) none, none⟩,
   ⟨(some 20), .mv (.tmp 1), none⟩,
   ⟨(some 21), .mv (.tmp 5), none⟩,
   ⟨(some 22), .iaddr (.tmp 20) (.tmp 21) 1, none⟩,
   ⟨(some 23), .load (.tmp 22) none, none⟩,
   ⟨(some 24), .int .neq (.tmp 19) (.tmp 23), none⟩])
 (.cond (.tmp 24)
  (.seq (.ops [⟨(some 4), .mv (.const (.bool false)), none⟩])
  .ret)
  .skip))))
 (.ops [⟨(some 25), .int .add (.tmp 13) (.const (.int .i64 1)), none⟩,
   ⟨(some 13), .mv (.tmp 25), none⟩]))))

def k_slices_Equal___int_int_ : ACode :=
 (.seq (.ops [⟨(some 4), .mv (.const (.bool false)), none⟩])
 (.seq (.seq (.ops [⟨(some 6), .mv (.tmp 0), none⟩,
   ⟨(some 7), .len false (.tmp 6), none⟩,
   ⟨(some 8), .mv (.tmp 1), none⟩,
   ⟨(some 9), .len false (.tmp 8), none⟩,
   ⟨(some 10), .int .neq (.tmp 7) (.tmp 9), none⟩])
 (.cond (.tmp 10)
  (.seq (.ops [⟨(some 4), .mv (.const (.bool false)), none⟩])
  .ret)
  .skip))
 (.seq (.seq (.ops [⟨(some 11), .mv (.tmp 0), none⟩,
   ⟨(some 12), .len false (.tmp 11), none⟩,
   ⟨(some 13), .mv (.const (.int .i64 0)), none⟩])
 (.block 0 (.loop [0, 1, 12, 13] b_slices_Equal___int_int__0)))
 (.seq (.ops [⟨(some 4), .mv (.const (.bool true)), none⟩])
 .ret))))
def F_slices_Equal___int_int_ : AFunc := ⟨2, 26, [.tmp 4], k_slices_Equal___int_int_⟩
theorem ok_slices_Equal___int_int_ : FOK Try.prog 32 F_slices_Equal___int_int_ := FOK.of [[0, 1, 12, 13], [0, 1, 2, 3, 4, 5, 6, 7, 8]] Try.func32 (by kernel_rfl) (by kernel_rfl)

-- slices.IndexFunc[[]int,int]
@[reducible] def i_slices_IndexFunc___int_int_ : Nat := 33
/-- slices_IndexFunc___int_int_: the body of loop 0 -/
def b_slices_IndexFunc___int_int__0 : ACode :=
 (.seq (.ops [⟨(some 9), .int .lss (.tmp 8) (.tmp 7), none⟩])
 (.seq (.cond (.tmp 9)
  .skip
  (.exit 0))
 (.seq (.block 1 (.seq (.ops [⟨(some 10), .mv (.tmp 8), none⟩,
   ⟨(some 5), .mv (.tmp 10), none⟩])
 (.seq (.ops [⟨(some 11), .mv (.tmp 1), none⟩,
   ⟨(some 12), .mv (.tmp 0), none⟩,
   ⟨(some 13), .mv (.tmp 5), none⟩,
   ⟨(some 14), .iaddr (.tmp 12) (.tmp 13) 1, none⟩,
   ⟨(some 15), .load (.tmp 14) none, none⟩,
   ⟨(some 16), .call (.tmp 11) [(.tmp 15)], none⟩])
 (.cond (.tmp 16)
  (.seq (.ops [⟨(some 17), .mv (.tmp 5), none⟩,
    ⟨(some 4), .mv (.tmp 17), none⟩])
  .ret)
  .skip))))
 (.ops [⟨(some 18), .int .add (.tmp 8) (.const (.int .i64 1)), none⟩,
   ⟨(some 8), .mv (.tmp 18), none⟩]))))

def k_slices_IndexFunc___int_int_ : ACode :=
 (.seq (.ops [⟨(some 4), .mv (.const (.int .i64 0)), none⟩])
 (.seq (.seq (.ops [⟨(some 6), .mv (.tmp 0), none⟩,
   ⟨(some 7), .len false (.tmp 6), none⟩,
   ⟨(some 8), .mv (.const (.int .i64 0)), none⟩])
 (.block 0 (.loop [0, 1, 7, 8] b_slices_IndexFunc___int_int__0)))
 (.seq (.ops [⟨(some 4), .mv (.const (.int .i64 (-1))), none⟩])
 .ret)))
def F_slices_IndexFunc___int_int_ : AFunc := ⟨2, 19, [.tmp 4], k_slices_IndexFunc___int_int_⟩
theorem ok_slices_IndexFunc___int_int_ : FOK Try.prog 33 F_slices_IndexFunc___int_int_ := FOK.of [[0, 1, 7, 8]] Try.func33 (by kernel_rfl) (by kernel_rfl)

end Go.Proofs.Ytjicdpkgcofiaaa

/-! Layer 4: what is known of the calls. -/
set_option linter.unusedSimpArgs false
set_option linter.unusedVariables false
namespace Go.Proofs.Ytjicdpkgcofiaaa
open Go Lon
set_option maxRecDepth 100000
def tab : List (FuncId × AFunc) := [(3, F_lontarlaw04_TrieLongest), (4, F_lontarlaw04_TrieOf), (5, F_lontarlaw04_TrieLeaf), (6, F_lontarlaw04_TrieMore), (7, F_lontarlaw04_TrieAll), (8, F_lontarlaw04_TrieSteps), (9, F_lontarlaw04_awake), (10, F_lontarlaw03_Right), (11, F_trie_Of), (12, F_lontarlaw04_Some), (13, F_trie_Trie__Longest), (14, F_lontarlaw04_Longest), (15, F_lontarlaw03_Rules), (16, F_rule_Check), (17, F_lontarlaw01_Units), (18, F_trie_Trie__Size), (19, F_trie_Trie__Step), (20, F_trie_Trie__Leaf), (21, F_trie_Trie__Rule), (22, F_trie_Trie__Out), (23, F_lontarlaw03_may), (24, F_lontarlaw03_find), (25, F_lontarlaw03_units), (26, F_rule_side), (27, F_rule_Find), (28, F_slices_ContainsFunc___int_int_), (29, F_rule_side_1), (30, F_api_Rule_), (31, F_rule_Find_1), (32, F_slices_Equal___int_int_), (33, F_slices_IndexFunc___int_int_)]
theorem gok : ∀ g F, tabF tab g = some F → FOK Try.prog g F := tabF_ok (tab_cons ok_lontarlaw04_TrieLongest (tab_cons ok_lontarlaw04_TrieOf (tab_cons ok_lontarlaw04_TrieLeaf (tab_cons ok_lontarlaw04_TrieMore (tab_cons ok_lontarlaw04_TrieAll (tab_cons ok_lontarlaw04_TrieSteps (tab_cons ok_lontarlaw04_awake (tab_cons ok_lontarlaw03_Right (tab_cons ok_trie_Of (tab_cons ok_lontarlaw04_Some (tab_cons ok_trie_Trie__Longest (tab_cons ok_lontarlaw04_Longest (tab_cons ok_lontarlaw03_Rules (tab_cons ok_rule_Check (tab_cons ok_lontarlaw01_Units (tab_cons ok_trie_Trie__Size (tab_cons ok_trie_Trie__Step (tab_cons ok_trie_Trie__Leaf (tab_cons ok_trie_Trie__Rule (tab_cons ok_trie_Trie__Out (tab_cons ok_lontarlaw03_may (tab_cons ok_lontarlaw03_find (tab_cons ok_lontarlaw03_units (tab_cons ok_rule_side (tab_cons ok_rule_Find (tab_cons ok_slices_ContainsFunc___int_int_ (tab_cons ok_rule_side_1 (tab_cons ok_api_Rule_ (tab_cons ok_rule_Find_1 (tab_cons ok_slices_Equal___int_int_ (tab_cons ok_slices_IndexFunc___int_int_ (tab_nil))))))))))))))))))))))))))))))))
def om : CallF := fun _ _ _ => none
theorem omok0 {base : Nat} : ∀ g args H v H', om g args H = some (v, H') → Sim Try.prog base g args H v H' := fun _ _ _ _ _ h => by cases h
theorem simT {base : Nat} {g : FuncId} {args : List Value} {H H' : AHeap} {v : Value} (h : cw Try.prog (tabF tab) om g args H = some (v, H')) : Sim Try.prog base g args H v H' := cw_sound (by kernel_rfl) gok omok0 h
theorem c_awake : Gives (cw Try.prog (tabF tab) om 9 [] AHeap.empty) fun v H' => v = .bool true := gives_true 2000 (by kernel_rfl)
def om1 : CallF := fun g args H => match g, args with
  | 9, [] => some (.bool true, H)
  | _, _ => none
theorem omok {base : Nat} : ∀ g args H v H', om1 g args H = some (v, H') → Sim Try.prog base g args H v H' := by
  intro g args H v H' h
  unfold om1 at h
  split at h
  · injection h with h
    injection h with h1 h2
    subst h1 h2
    obtain ⟨v, H1, r, rfl⟩ := c_awake
    exact sim_closed (fun base => simT r) rfl rfl base _
  · cases h
theorem o_awake (H : AHeap) : cw Try.prog (tabF tab) om1 9 [] H = some (.bool true, H) := cw_omega rfl
end Go.Proofs.Ytjicdpkgcofiaaa

/-! Slices of units, rules. -/
set_option linter.unusedSimpArgs false
set_option linter.unusedVariables false
namespace Go.Proofs.Ytjicdpkgcofiaaa
open Go Lon
theorem l_Units {a b : Value} {la lb : List Int} {H : AHeap} (ha : Ints H a la) (hb : Ints H b lb) (hl : la.length = lb.length) (hs : la.length < 4611686018427387904) : ∀ (k i : Nat), i + k = la.length →
    Out (run Try.prog (tabF tab) om1 (.loop [0, 1, 12, 13] b_lontarlaw01_Units_0) [(0, a), (1, b), (12, .int .i64 la.length), (13, .int .i64 i)] H) fun x e' H' => H' = H ∧
      if la.drop i = lb.drop i then x = .exit 0 else x = .ret ∧ eget e' 4 = .bool false := by
  intro k
  induction k with
  | zero =>
    intro i hi
    have hlt : ¬ ((i : Int) < la.length) := by omega
    rw [w_loop_b b_lontarlaw01_Units_0.eq_1, List.drop_of_length_le (by omega), List.drop_of_length_le (by omega)]
    simp only [w_draw, dr_cons, dr_some, dr_none, dr_go, still_no, still_yes, next_no, next_yes, last_cons, last_nil, isStore, calm_no, calm_nil, calm_cons, calmB_some, isCall, freshI, dr_nil, dr_end, still_nil, still_cons, stillB_some, stamp_some, stampV_ptr, stampV_tuple, stampO, still_here, still_here0, List.nil_append, w_out, w_gives, fin_ret, fin_normal, ress_nil, ress_tmp, pack_one, pack_nil, pack_two, entry_nil, entry_one, entry_two, entry_three, entry_four, eq_skip, eq_exit, eq_ret, w_rows, w_done, w_seq, w_normal, w_ret, w_exit, w_cond, w_true, w_false, eq_block, block_normal, block_ret, block_exit, rows_nil, rows_cons, on_some, on_none, row_plain, row_guard, guard_tt, guard_ff, guard_tf, guard_ft, guard_no, ev_tmp, ev_int, ev_bool, ev_string, ev_slice, ev_pointer, ev_map, ev_float, ev_complex, ev_nilIface, ev_nilFunc, ev_func, eget_cons, eget_nil, st_mv, st_pick, v_pick_t, v_pick_f, st_ext, v_ext0, v_ext1, v_ext2, v_ext3, st_int, v_int, int_add, int_sub, int_mul, int_eql, int_neq, int_lss, int_leq, int_gtr, int_geq, st_beq, v_beq, v_bne, st_not, v_not, st_conv, v_conv, st_faddr, v_faddr, st_iaddr, v_iaddr, st_aaddr, v_aaddr, st_nilChk, v_nil, st_len, v_len, v_lenS, st_load, v_load, got_one, got_row, mem_tip, mem_ro, mem_ret, st_alloc, st_box, st_store, v_store, got_store, cells_agg, cells_int, cells_bool, cells_slice, cells_pointer, cells_string, cells_complex, cells_func, one_int, one_bool, one_slice, one_pointer, one_string, one_complex, one_func, upd_push, get_push_self, AHeap.n_push, AHeap.n_upd, st_build, parts_nil, parts_cons, st_bslice, st_append, st_mkfun, st_mkface, st_isNil, st_max, v_max, st_min, v_min, st_field, st_index, st_slice0, v_slice0, v_slice0n, st_slice, kill_nil, st_call, v_call, forget_nil, forget_cons, Option.map_some, Option.map_none, Option.bind_some, List.map_cons, List.map_nil, if_true, if_false, Nat.reduceEqDiff, Int.reduceEq, Nat.reduceAdd, Nat.reduceMul, Bool.not_true, Bool.not_false, reduceCtorEq, decide_true, decide_false, Int.cast_ofNat_Int, eq_self, Int.reduceLT, Int.reduceLE, Int.reduceToNat, Int.toNat_natCast, Int.le_refl, Nat.le_refl, Nat.zero_add, Nat.add_zero, Nat.zero_mul, Nat.mul_one, Nat.mul_zero, and_self, and_true, true_and, List.length_cons, List.length_nil, List.all_cons, List.all_nil, Bool.and_self, Bool.and_true, Bool.true_and, List.take_zero, List.nil_append, List.drop_nil, List.append_nil, List.getElem?_cons_zero, List.getElem?_cons_succ, List.drop_succ_cons, List.drop_zero, List.take_succ_cons, List.cons_append, Nat.reduceLeDiff, hlt]
  | succ k ih =>
    intro i hi
    have hlt : (i : Int) < la.length := by omega
    obtain ⟨x, hx, hdx⟩ := drop_at (L := la) (i := i) (by omega)
    obtain ⟨y, hy, hdy⟩ := drop_at (L := lb) (i := i) (by omega)
    obtain ⟨i1, o1, h1, h2⟩ := ha.at hx
    obtain ⟨i2, o2, h3, h4⟩ := hb.at hy
    have hw2 : IntKind.i64.wrap ((i : Int) + 1) = ((i + 1 : Nat) : Int) := by rw [wrap64 (by omega) (by omega)]; omega
    rw [w_loop_b b_lontarlaw01_Units_0.eq_1, hdx, hdy]
    by_cases hxy : x = y
    · subst hxy
      obtain ⟨z, e', H', r1, r2, r3⟩ := ih (i + 1) (by omega)
      have hne : (x ≠ x) = False := by simp
      simp only [w_draw, dr_cons, dr_some, dr_none, dr_go, still_no, still_yes, next_no, next_yes, last_cons, last_nil, isStore, calm_no, calm_nil, calm_cons, calmB_some, isCall, freshI, dr_nil, dr_end, still_nil, still_cons, stillB_some, stamp_some, stampV_ptr, stampV_tuple, stampO, still_here, still_here0, List.nil_append, w_out, w_gives, fin_ret, fin_normal, ress_nil, ress_tmp, pack_one, pack_nil, pack_two, entry_nil, entry_one, entry_two, entry_three, entry_four, eq_skip, eq_exit, eq_ret, w_rows, w_done, w_seq, w_normal, w_ret, w_exit, w_cond, w_true, w_false, eq_block, block_normal, block_ret, block_exit, rows_nil, rows_cons, on_some, on_none, row_plain, row_guard, guard_tt, guard_ff, guard_tf, guard_ft, guard_no, ev_tmp, ev_int, ev_bool, ev_string, ev_slice, ev_pointer, ev_map, ev_float, ev_complex, ev_nilIface, ev_nilFunc, ev_func, eget_cons, eget_nil, st_mv, st_pick, v_pick_t, v_pick_f, st_ext, v_ext0, v_ext1, v_ext2, v_ext3, st_int, v_int, int_add, int_sub, int_mul, int_eql, int_neq, int_lss, int_leq, int_gtr, int_geq, st_beq, v_beq, v_bne, st_not, v_not, st_conv, v_conv, st_faddr, v_faddr, st_iaddr, v_iaddr, st_aaddr, v_aaddr, st_nilChk, v_nil, st_len, v_len, v_lenS, st_load, v_load, got_one, got_row, mem_tip, mem_ro, mem_ret, st_alloc, st_box, st_store, v_store, got_store, cells_agg, cells_int, cells_bool, cells_slice, cells_pointer, cells_string, cells_complex, cells_func, one_int, one_bool, one_slice, one_pointer, one_string, one_complex, one_func, upd_push, get_push_self, AHeap.n_push, AHeap.n_upd, st_build, parts_nil, parts_cons, st_bslice, st_append, st_mkfun, st_mkface, st_isNil, st_max, v_max, st_min, v_min, st_field, st_index, st_slice0, v_slice0, v_slice0n, st_slice, kill_nil, st_call, v_call, forget_nil, forget_cons, Option.map_some, Option.map_none, Option.bind_some, List.map_cons, List.map_nil, if_true, if_false, Nat.reduceEqDiff, Int.reduceEq, Nat.reduceAdd, Nat.reduceMul, Bool.not_true, Bool.not_false, reduceCtorEq, decide_true, decide_false, Int.cast_ofNat_Int, eq_self, Int.reduceLT, Int.reduceLE, Int.reduceToNat, Int.toNat_natCast, Int.le_refl, Nat.le_refl, Nat.zero_add, Nat.add_zero, Nat.zero_mul, Nat.mul_one, Nat.mul_zero, and_self, and_true, true_and, List.length_cons, List.length_nil, List.all_cons, List.all_nil, Bool.and_self, Bool.and_true, Bool.true_and, List.take_zero, List.nil_append, List.drop_nil, List.append_nil, List.getElem?_cons_zero, List.getElem?_cons_succ, List.drop_succ_cons, List.drop_zero, List.take_succ_cons, List.cons_append, Nat.reduceLeDiff, hlt, h1, h2, h3, h4, hne, hw2]
      rw [w_enter]
      simp only [w_draw, dr_cons, dr_some, dr_none, dr_go, still_no, still_yes, next_no, next_yes, last_cons, last_nil, isStore, calm_no, calm_nil, calm_cons, calmB_some, isCall, freshI, dr_nil, dr_end, still_nil, still_cons, stillB_some, stamp_some, stampV_ptr, stampV_tuple, stampO, still_here, still_here0, List.nil_append, w_out, w_gives, fin_ret, fin_normal, ress_nil, ress_tmp, pack_one, pack_nil, pack_two, entry_nil, entry_one, entry_two, entry_three, entry_four, eq_skip, eq_exit, eq_ret, w_rows, w_done, w_seq, w_normal, w_ret, w_exit, w_cond, w_true, w_false, eq_block, block_normal, block_ret, block_exit, rows_nil, rows_cons, on_some, on_none, row_plain, row_guard, guard_tt, guard_ff, guard_tf, guard_ft, guard_no, ev_tmp, ev_int, ev_bool, ev_string, ev_slice, ev_pointer, ev_map, ev_float, ev_complex, ev_nilIface, ev_nilFunc, ev_func, eget_cons, eget_nil, st_mv, st_pick, v_pick_t, v_pick_f, st_ext, v_ext0, v_ext1, v_ext2, v_ext3, st_int, v_int, int_add, int_sub, int_mul, int_eql, int_neq, int_lss, int_leq, int_gtr, int_geq, st_beq, v_beq, v_bne, st_not, v_not, st_conv, v_conv, st_faddr, v_faddr, st_iaddr, v_iaddr, st_aaddr, v_aaddr, st_nilChk, v_nil, st_len, v_len, v_lenS, st_load, v_load, got_one, got_row, mem_tip, mem_ro, mem_ret, st_alloc, st_box, st_store, v_store, got_store, cells_agg, cells_int, cells_bool, cells_slice, cells_pointer, cells_string, cells_complex, cells_func, one_int, one_bool, one_slice, one_pointer, one_string, one_complex, one_func, upd_push, get_push_self, AHeap.n_push, AHeap.n_upd, st_build, parts_nil, parts_cons, st_bslice, st_append, st_mkfun, st_mkface, st_isNil, st_max, v_max, st_min, v_min, st_field, st_index, st_slice0, v_slice0, v_slice0n, st_slice, kill_nil, st_call, v_call, forget_nil, forget_cons, Option.map_some, Option.map_none, Option.bind_some, List.map_cons, List.map_nil, if_true, if_false, Nat.reduceEqDiff, Int.reduceEq, Nat.reduceAdd, Nat.reduceMul, Bool.not_true, Bool.not_false, reduceCtorEq, decide_true, decide_false, Int.cast_ofNat_Int, eq_self, Int.reduceLT, Int.reduceLE, Int.reduceToNat, Int.toNat_natCast, Int.le_refl, Nat.le_refl, Nat.zero_add, Nat.add_zero, Nat.zero_mul, Nat.mul_one, Nat.mul_zero, and_self, and_true, true_and, List.length_cons, List.length_nil, List.all_cons, List.all_nil, Bool.and_self, Bool.and_true, Bool.true_and, List.take_zero, List.nil_append, List.drop_nil, List.append_nil, List.getElem?_cons_zero, List.getElem?_cons_succ, List.drop_succ_cons, List.drop_zero, List.take_succ_cons, List.cons_append, Nat.reduceLeDiff, r1]
      refine ⟨r2, ?_⟩
      simpa using r3
    · have hne : (x ≠ y) = True := by simp [hxy]
      simp only [w_draw, dr_cons, dr_some, dr_none, dr_go, still_no, still_yes, next_no, next_yes, last_cons, last_nil, isStore, calm_no, calm_nil, calm_cons, calmB_some, isCall, freshI, dr_nil, dr_end, still_nil, still_cons, stillB_some, stamp_some, stampV_ptr, stampV_tuple, stampO, still_here, still_here0, List.nil_append, w_out, w_gives, fin_ret, fin_normal, ress_nil, ress_tmp, pack_one, pack_nil, pack_two, entry_nil, entry_one, entry_two, entry_three, entry_four, eq_skip, eq_exit, eq_ret, w_rows, w_done, w_seq, w_normal, w_ret, w_exit, w_cond, w_true, w_false, eq_block, block_normal, block_ret, block_exit, rows_nil, rows_cons, on_some, on_none, row_plain, row_guard, guard_tt, guard_ff, guard_tf, guard_ft, guard_no, ev_tmp, ev_int, ev_bool, ev_string, ev_slice, ev_pointer, ev_map, ev_float, ev_complex, ev_nilIface, ev_nilFunc, ev_func, eget_cons, eget_nil, st_mv, st_pick, v_pick_t, v_pick_f, st_ext, v_ext0, v_ext1, v_ext2, v_ext3, st_int, v_int, int_add, int_sub, int_mul, int_eql, int_neq, int_lss, int_leq, int_gtr, int_geq, st_beq, v_beq, v_bne, st_not, v_not, st_conv, v_conv, st_faddr, v_faddr, st_iaddr, v_iaddr, st_aaddr, v_aaddr, st_nilChk, v_nil, st_len, v_len, v_lenS, st_load, v_load, got_one, got_row, mem_tip, mem_ro, mem_ret, st_alloc, st_box, st_store, v_store, got_store, cells_agg, cells_int, cells_bool, cells_slice, cells_pointer, cells_string, cells_complex, cells_func, one_int, one_bool, one_slice, one_pointer, one_string, one_complex, one_func, upd_push, get_push_self, AHeap.n_push, AHeap.n_upd, st_build, parts_nil, parts_cons, st_bslice, st_append, st_mkfun, st_mkface, st_isNil, st_max, v_max, st_min, v_min, st_field, st_index, st_slice0, v_slice0, v_slice0n, st_slice, kill_nil, st_call, v_call, forget_nil, forget_cons, Option.map_some, Option.map_none, Option.bind_some, List.map_cons, List.map_nil, if_true, if_false, Nat.reduceEqDiff, Int.reduceEq, Nat.reduceAdd, Nat.reduceMul, Bool.not_true, Bool.not_false, reduceCtorEq, decide_true, decide_false, Int.cast_ofNat_Int, eq_self, Int.reduceLT, Int.reduceLE, Int.reduceToNat, Int.toNat_natCast, Int.le_refl, Nat.le_refl, Nat.zero_add, Nat.add_zero, Nat.zero_mul, Nat.mul_one, Nat.mul_zero, and_self, and_true, true_and, List.length_cons, List.length_nil, List.all_cons, List.all_nil, Bool.and_self, Bool.and_true, Bool.true_and, List.take_zero, List.nil_append, List.drop_nil, List.append_nil, List.getElem?_cons_zero, List.getElem?_cons_succ, List.drop_succ_cons, List.drop_zero, List.take_succ_cons, List.cons_append, Nat.reduceLeDiff, hlt, h1, h2, h3, h4, hne]
      simp [hxy]
theorem c_Units {a b : Value} {la lb : List Int} {H : AHeap} (ha : Ints H a la) (hb : Ints H b lb) (hs : la.length < 4611686018427387904) : cw Try.prog (tabF tab) om1 17 [a, b] H = some (.bool (decide (la = lb)), H) := by
  rw [cw_run (F := F_lontarlaw01_Units) rfl rfl rfl]
  unfold F_lontarlaw01_Units k_lontarlaw01_Units
  by_cases hl : la.length = lb.length
  · obtain ⟨x, e', H', r1, rfl, r3⟩ := l_Units ha hb hl hs la.length 0 (by omega)
    have hne : (((la.length : Nat) : Int) ≠ ((lb.length : Nat) : Int)) = False := by simp [hl]
    simp only [Int.cast_ofNat_Int] at r1
    simp only [w_draw, dr_cons, dr_some, dr_none, dr_go, still_no, still_yes, next_no, next_yes, last_cons, last_nil, isStore, calm_no, calm_nil, calm_cons, calmB_some, isCall, freshI, dr_nil, dr_end, still_nil, still_cons, stillB_some, stamp_some, stampV_ptr, stampV_tuple, stampO, still_here, still_here0, List.nil_append, w_out, w_gives, fin_ret, fin_normal, ress_nil, ress_tmp, pack_one, pack_nil, pack_two, entry_nil, entry_one, entry_two, entry_three, entry_four, eq_skip, eq_exit, eq_ret, w_rows, w_done, w_seq, w_normal, w_ret, w_exit, w_cond, w_true, w_false, eq_block, block_normal, block_ret, block_exit, rows_nil, rows_cons, on_some, on_none, row_plain, row_guard, guard_tt, guard_ff, guard_tf, guard_ft, guard_no, ev_tmp, ev_int, ev_bool, ev_string, ev_slice, ev_pointer, ev_map, ev_float, ev_complex, ev_nilIface, ev_nilFunc, ev_func, eget_cons, eget_nil, st_mv, st_pick, v_pick_t, v_pick_f, st_ext, v_ext0, v_ext1, v_ext2, v_ext3, st_int, v_int, int_add, int_sub, int_mul, int_eql, int_neq, int_lss, int_leq, int_gtr, int_geq, st_beq, v_beq, v_bne, st_not, v_not, st_conv, v_conv, st_faddr, v_faddr, st_iaddr, v_iaddr, st_aaddr, v_aaddr, st_nilChk, v_nil, st_len, v_len, v_lenS, st_load, v_load, got_one, got_row, mem_tip, mem_ro, mem_ret, st_alloc, st_box, st_store, v_store, got_store, cells_agg, cells_int, cells_bool, cells_slice, cells_pointer, cells_string, cells_complex, cells_func, one_int, one_bool, one_slice, one_pointer, one_string, one_complex, one_func, upd_push, get_push_self, AHeap.n_push, AHeap.n_upd, st_build, parts_nil, parts_cons, st_bslice, st_append, st_mkfun, st_mkface, st_isNil, st_max, v_max, st_min, v_min, st_field, st_index, st_slice0, v_slice0, v_slice0n, st_slice, kill_nil, st_call, v_call, forget_nil, forget_cons, Option.map_some, Option.map_none, Option.bind_some, List.map_cons, List.map_nil, if_true, if_false, Nat.reduceEqDiff, Int.reduceEq, Nat.reduceAdd, Nat.reduceMul, Bool.not_true, Bool.not_false, reduceCtorEq, decide_true, decide_false, Int.cast_ofNat_Int, eq_self, Int.reduceLT, Int.reduceLE, Int.reduceToNat, Int.toNat_natCast, Int.le_refl, Nat.le_refl, Nat.zero_add, Nat.add_zero, Nat.zero_mul, Nat.mul_one, Nat.mul_zero, and_self, and_true, true_and, List.length_cons, List.length_nil, List.all_cons, List.all_nil, Bool.and_self, Bool.and_true, Bool.true_and, List.take_zero, List.nil_append, List.drop_nil, List.append_nil, List.getElem?_cons_zero, List.getElem?_cons_succ, List.drop_succ_cons, List.drop_zero, List.take_succ_cons, List.cons_append, Nat.reduceLeDiff, ha.len, hb.len, hne]
    rw [w_enter]
    simp only [w_draw, dr_cons, dr_some, dr_none, dr_go, still_no, still_yes, next_no, next_yes, last_cons, last_nil, isStore, calm_no, calm_nil, calm_cons, calmB_some, isCall, freshI, dr_nil, dr_end, still_nil, still_cons, stillB_some, stamp_some, stampV_ptr, stampV_tuple, stampO, still_here, still_here0, List.nil_append, w_out, w_gives, fin_ret, fin_normal, ress_nil, ress_tmp, pack_one, pack_nil, pack_two, entry_nil, entry_one, entry_two, entry_three, entry_four, eq_skip, eq_exit, eq_ret, w_rows, w_done, w_seq, w_normal, w_ret, w_exit, w_cond, w_true, w_false, eq_block, block_normal, block_ret, block_exit, rows_nil, rows_cons, on_some, on_none, row_plain, row_guard, guard_tt, guard_ff, guard_tf, guard_ft, guard_no, ev_tmp, ev_int, ev_bool, ev_string, ev_slice, ev_pointer, ev_map, ev_float, ev_complex, ev_nilIface, ev_nilFunc, ev_func, eget_cons, eget_nil, st_mv, st_pick, v_pick_t, v_pick_f, st_ext, v_ext0, v_ext1, v_ext2, v_ext3, st_int, v_int, int_add, int_sub, int_mul, int_eql, int_neq, int_lss, int_leq, int_gtr, int_geq, st_beq, v_beq, v_bne, st_not, v_not, st_conv, v_conv, st_faddr, v_faddr, st_iaddr, v_iaddr, st_aaddr, v_aaddr, st_nilChk, v_nil, st_len, v_len, v_lenS, st_load, v_load, got_one, got_row, mem_tip, mem_ro, mem_ret, st_alloc, st_box, st_store, v_store, got_store, cells_agg, cells_int, cells_bool, cells_slice, cells_pointer, cells_string, cells_complex, cells_func, one_int, one_bool, one_slice, one_pointer, one_string, one_complex, one_func, upd_push, get_push_self, AHeap.n_push, AHeap.n_upd, st_build, parts_nil, parts_cons, st_bslice, st_append, st_mkfun, st_mkface, st_isNil, st_max, v_max, st_min, v_min, st_field, st_index, st_slice0, v_slice0, v_slice0n, st_slice, kill_nil, st_call, v_call, forget_nil, forget_cons, Option.map_some, Option.map_none, Option.bind_some, List.map_cons, List.map_nil, if_true, if_false, Nat.reduceEqDiff, Int.reduceEq, Nat.reduceAdd, Nat.reduceMul, Bool.not_true, Bool.not_false, reduceCtorEq, decide_true, decide_false, Int.cast_ofNat_Int, eq_self, Int.reduceLT, Int.reduceLE, Int.reduceToNat, Int.toNat_natCast, Int.le_refl, Nat.le_refl, Nat.zero_add, Nat.add_zero, Nat.zero_mul, Nat.mul_one, Nat.mul_zero, and_self, and_true, true_and, List.length_cons, List.length_nil, List.all_cons, List.all_nil, Bool.and_self, Bool.and_true, Bool.true_and, List.take_zero, List.nil_append, List.drop_nil, List.append_nil, List.getElem?_cons_zero, List.getElem?_cons_succ, List.drop_succ_cons, List.drop_zero, List.take_succ_cons, List.cons_append, Nat.reduceLeDiff, r1]
    simp only [List.drop_zero] at r3
    split at r3
    · rename_i h
      subst r3
      simp only [w_draw, dr_cons, dr_some, dr_none, dr_go, still_no, still_yes, next_no, next_yes, last_cons, last_nil, isStore, calm_no, calm_nil, calm_cons, calmB_some, isCall, freshI, dr_nil, dr_end, still_nil, still_cons, stillB_some, stamp_some, stampV_ptr, stampV_tuple, stampO, still_here, still_here0, List.nil_append, w_out, w_gives, fin_ret, fin_normal, ress_nil, ress_tmp, pack_one, pack_nil, pack_two, entry_nil, entry_one, entry_two, entry_three, entry_four, eq_skip, eq_exit, eq_ret, w_rows, w_done, w_seq, w_normal, w_ret, w_exit, w_cond, w_true, w_false, eq_block, block_normal, block_ret, block_exit, rows_nil, rows_cons, on_some, on_none, row_plain, row_guard, guard_tt, guard_ff, guard_tf, guard_ft, guard_no, ev_tmp, ev_int, ev_bool, ev_string, ev_slice, ev_pointer, ev_map, ev_float, ev_complex, ev_nilIface, ev_nilFunc, ev_func, eget_cons, eget_nil, st_mv, st_pick, v_pick_t, v_pick_f, st_ext, v_ext0, v_ext1, v_ext2, v_ext3, st_int, v_int, int_add, int_sub, int_mul, int_eql, int_neq, int_lss, int_leq, int_gtr, int_geq, st_beq, v_beq, v_bne, st_not, v_not, st_conv, v_conv, st_faddr, v_faddr, st_iaddr, v_iaddr, st_aaddr, v_aaddr, st_nilChk, v_nil, st_len, v_len, v_lenS, st_load, v_load, got_one, got_row, mem_tip, mem_ro, mem_ret, st_alloc, st_box, st_store, v_store, got_store, cells_agg, cells_int, cells_bool, cells_slice, cells_pointer, cells_string, cells_complex, cells_func, one_int, one_bool, one_slice, one_pointer, one_string, one_complex, one_func, upd_push, get_push_self, AHeap.n_push, AHeap.n_upd, st_build, parts_nil, parts_cons, st_bslice, st_append, st_mkfun, st_mkface, st_isNil, st_max, v_max, st_min, v_min, st_field, st_index, st_slice0, v_slice0, v_slice0n, st_slice, kill_nil, st_call, v_call, forget_nil, forget_cons, Option.map_some, Option.map_none, Option.bind_some, List.map_cons, List.map_nil, if_true, if_false, Nat.reduceEqDiff, Int.reduceEq, Nat.reduceAdd, Nat.reduceMul, Bool.not_true, Bool.not_false, reduceCtorEq, decide_true, decide_false, Int.cast_ofNat_Int, eq_self, Int.reduceLT, Int.reduceLE, Int.reduceToNat, Int.toNat_natCast, Int.le_refl, Nat.le_refl, Nat.zero_add, Nat.add_zero, Nat.zero_mul, Nat.mul_one, Nat.mul_zero, and_self, and_true, true_and, List.length_cons, List.length_nil, List.all_cons, List.all_nil, Bool.and_self, Bool.and_true, Bool.true_and, List.take_zero, List.nil_append, List.drop_nil, List.append_nil, List.getElem?_cons_zero, List.getElem?_cons_succ, List.drop_succ_cons, List.drop_zero, List.take_succ_cons, List.cons_append, Nat.reduceLeDiff, h]
    · rename_i h
      obtain ⟨rfl, r4⟩ := r3
      simp only [w_draw, dr_cons, dr_some, dr_none, dr_go, still_no, still_yes, next_no, next_yes, last_cons, last_nil, isStore, calm_no, calm_nil, calm_cons, calmB_some, isCall, freshI, dr_nil, dr_end, still_nil, still_cons, stillB_some, stamp_some, stampV_ptr, stampV_tuple, stampO, still_here, still_here0, List.nil_append, w_out, w_gives, fin_ret, fin_normal, ress_nil, ress_tmp, pack_one, pack_nil, pack_two, entry_nil, entry_one, entry_two, entry_three, entry_four, eq_skip, eq_exit, eq_ret, w_rows, w_done, w_seq, w_normal, w_ret, w_exit, w_cond, w_true, w_false, eq_block, block_normal, block_ret, block_exit, rows_nil, rows_cons, on_some, on_none, row_plain, row_guard, guard_tt, guard_ff, guard_tf, guard_ft, guard_no, ev_tmp, ev_int, ev_bool, ev_string, ev_slice, ev_pointer, ev_map, ev_float, ev_complex, ev_nilIface, ev_nilFunc, ev_func, eget_cons, eget_nil, st_mv, st_pick, v_pick_t, v_pick_f, st_ext, v_ext0, v_ext1, v_ext2, v_ext3, st_int, v_int, int_add, int_sub, int_mul, int_eql, int_neq, int_lss, int_leq, int_gtr, int_geq, st_beq, v_beq, v_bne, st_not, v_not, st_conv, v_conv, st_faddr, v_faddr, st_iaddr, v_iaddr, st_aaddr, v_aaddr, st_nilChk, v_nil, st_len, v_len, v_lenS, st_load, v_load, got_one, got_row, mem_tip, mem_ro, mem_ret, st_alloc, st_box, st_store, v_store, got_store, cells_agg, cells_int, cells_bool, cells_slice, cells_pointer, cells_string, cells_complex, cells_func, one_int, one_bool, one_slice, one_pointer, one_string, one_complex, one_func, upd_push, get_push_self, AHeap.n_push, AHeap.n_upd, st_build, parts_nil, parts_cons, st_bslice, st_append, st_mkfun, st_mkface, st_isNil, st_max, v_max, st_min, v_min, st_field, st_index, st_slice0, v_slice0, v_slice0n, st_slice, kill_nil, st_call, v_call, forget_nil, forget_cons, Option.map_some, Option.map_none, Option.bind_some, List.map_cons, List.map_nil, if_true, if_false, Nat.reduceEqDiff, Int.reduceEq, Nat.reduceAdd, Nat.reduceMul, Bool.not_true, Bool.not_false, reduceCtorEq, decide_true, decide_false, Int.cast_ofNat_Int, eq_self, Int.reduceLT, Int.reduceLE, Int.reduceToNat, Int.toNat_natCast, Int.le_refl, Nat.le_refl, Nat.zero_add, Nat.add_zero, Nat.zero_mul, Nat.mul_one, Nat.mul_zero, and_self, and_true, true_and, List.length_cons, List.length_nil, List.all_cons, List.all_nil, Bool.and_self, Bool.and_true, Bool.true_and, List.take_zero, List.nil_append, List.drop_nil, List.append_nil, List.getElem?_cons_zero, List.getElem?_cons_succ, List.drop_succ_cons, List.drop_zero, List.take_succ_cons, List.cons_append, Nat.reduceLeDiff, r4, h]
  · have hne : (((la.length : Nat) : Int) ≠ ((lb.length : Nat) : Int)) = True := by simp; omega
    have hab : ¬ la = lb := fun h => hl (by rw [h])
    simp only [w_draw, dr_cons, dr_some, dr_none, dr_go, still_no, still_yes, next_no, next_yes, last_cons, last_nil, isStore, calm_no, calm_nil, calm_cons, calmB_some, isCall, freshI, dr_nil, dr_end, still_nil, still_cons, stillB_some, stamp_some, stampV_ptr, stampV_tuple, stampO, still_here, still_here0, List.nil_append, w_out, w_gives, fin_ret, fin_normal, ress_nil, ress_tmp, pack_one, pack_nil, pack_two, entry_nil, entry_one, entry_two, entry_three, entry_four, eq_skip, eq_exit, eq_ret, w_rows, w_done, w_seq, w_normal, w_ret, w_exit, w_cond, w_true, w_false, eq_block, block_normal, block_ret, block_exit, rows_nil, rows_cons, on_some, on_none, row_plain, row_guard, guard_tt, guard_ff, guard_tf, guard_ft, guard_no, ev_tmp, ev_int, ev_bool, ev_string, ev_slice, ev_pointer, ev_map, ev_float, ev_complex, ev_nilIface, ev_nilFunc, ev_func, eget_cons, eget_nil, st_mv, st_pick, v_pick_t, v_pick_f, st_ext, v_ext0, v_ext1, v_ext2, v_ext3, st_int, v_int, int_add, int_sub, int_mul, int_eql, int_neq, int_lss, int_leq, int_gtr, int_geq, st_beq, v_beq, v_bne, st_not, v_not, st_conv, v_conv, st_faddr, v_faddr, st_iaddr, v_iaddr, st_aaddr, v_aaddr, st_nilChk, v_nil, st_len, v_len, v_lenS, st_load, v_load, got_one, got_row, mem_tip, mem_ro, mem_ret, st_alloc, st_box, st_store, v_store, got_store, cells_agg, cells_int, cells_bool, cells_slice, cells_pointer, cells_string, cells_complex, cells_func, one_int, one_bool, one_slice, one_pointer, one_string, one_complex, one_func, upd_push, get_push_self, AHeap.n_push, AHeap.n_upd, st_build, parts_nil, parts_cons, st_bslice, st_append, st_mkfun, st_mkface, st_isNil, st_max, v_max, st_min, v_min, st_field, st_index, st_slice0, v_slice0, v_slice0n, st_slice, kill_nil, st_call, v_call, forget_nil, forget_cons, Option.map_some, Option.map_none, Option.bind_some, List.map_cons, List.map_nil, if_true, if_false, Nat.reduceEqDiff, Int.reduceEq, Nat.reduceAdd, Nat.reduceMul, Bool.not_true, Bool.not_false, reduceCtorEq, decide_true, decide_false, Int.cast_ofNat_Int, eq_self, Int.reduceLT, Int.reduceLE, Int.reduceToNat, Int.toNat_natCast, Int.le_refl, Nat.le_refl, Nat.zero_add, Nat.add_zero, Nat.zero_mul, Nat.mul_one, Nat.mul_zero, and_self, and_true, true_and, List.length_cons, List.length_nil, List.all_cons, List.all_nil, Bool.and_self, Bool.and_true, Bool.true_and, List.take_zero, List.nil_append, List.drop_nil, List.append_nil, List.getElem?_cons_zero, List.getElem?_cons_succ, List.drop_succ_cons, List.drop_zero, List.take_succ_cons, List.cons_append, Nat.reduceLeDiff, ha.len, hb.len, hne, hab]
end Go.Proofs.Ytjicdpkgcofiaaa

/-! Slices of units, rules. -/
set_option linter.unusedSimpArgs false
set_option linter.unusedVariables false
namespace Go.Proofs.Ytjicdpkgcofiaaa
open Go Lon
theorem l_Equal {a b : Value} {la lb : List Int} {H : AHeap} (ha : Ints H a la) (hb : Ints H b lb) (hl : la.length = lb.length) (hs : la.length < 4611686018427387904) : ∀ (k i : Nat), i + k = la.length →
    Out (run Try.prog (tabF tab) om1 (.loop [0, 1, 12, 13] b_slices_Equal___int_int__0) [(0, a), (1, b), (12, .int .i64 la.length), (13, .int .i64 i)] H) fun x e' H' => H' = H ∧
      if la.drop i = lb.drop i then x = .exit 0 else x = .ret ∧ eget e' 4 = .bool false := by
  intro k
  induction k with
  | zero =>
    intro i hi
    have hlt : ¬ ((i : Int) < la.length) := by omega
    rw [w_loop_b b_slices_Equal___int_int__0.eq_1, List.drop_of_length_le (by omega), List.drop_of_length_le (by omega)]
    simp only [w_draw, dr_cons, dr_some, dr_none, dr_go, still_no, still_yes, next_no, next_yes, last_cons, last_nil, isStore, calm_no, calm_nil, calm_cons, calmB_some, isCall, freshI, dr_nil, dr_end, still_nil, still_cons, stillB_some, stamp_some, stampV_ptr, stampV_tuple, stampO, still_here, still_here0, List.nil_append, w_out, w_gives, fin_ret, fin_normal, ress_nil, ress_tmp, pack_one, pack_nil, pack_two, entry_nil, entry_one, entry_two, entry_three, entry_four, eq_skip, eq_exit, eq_ret, w_rows, w_done, w_seq, w_normal, w_ret, w_exit, w_cond, w_true, w_false, eq_block, block_normal, block_ret, block_exit, rows_nil, rows_cons, on_some, on_none, row_plain, row_guard, guard_tt, guard_ff, guard_tf, guard_ft, guard_no, ev_tmp, ev_int, ev_bool, ev_string, ev_slice, ev_pointer, ev_map, ev_float, ev_complex, ev_nilIface, ev_nilFunc, ev_func, eget_cons, eget_nil, st_mv, st_pick, v_pick_t, v_pick_f, st_ext, v_ext0, v_ext1, v_ext2, v_ext3, st_int, v_int, int_add, int_sub, int_mul, int_eql, int_neq, int_lss, int_leq, int_gtr, int_geq, st_beq, v_beq, v_bne, st_not, v_not, st_conv, v_conv, st_faddr, v_faddr, st_iaddr, v_iaddr, st_aaddr, v_aaddr, st_nilChk, v_nil, st_len, v_len, v_lenS, st_load, v_load, got_one, got_row, mem_tip, mem_ro, mem_ret, st_alloc, st_box, st_store, v_store, got_store, cells_agg, cells_int, cells_bool, cells_slice, cells_pointer, cells_string, cells_complex, cells_func, one_int, one_bool, one_slice, one_pointer, one_string, one_complex, one_func, upd_push, get_push_self, AHeap.n_push, AHeap.n_upd, st_build, parts_nil, parts_cons, st_bslice, st_append, st_mkfun, st_mkface, st_isNil, st_max, v_max, st_min, v_min, st_field, st_index, st_slice0, v_slice0, v_slice0n, st_slice, kill_nil, st_call, v_call, forget_nil, forget_cons, Option.map_some, Option.map_none, Option.bind_some, List.map_cons, List.map_nil, if_true, if_false, Nat.reduceEqDiff, Int.reduceEq, Nat.reduceAdd, Nat.reduceMul, Bool.not_true, Bool.not_false, reduceCtorEq, decide_true, decide_false, Int.cast_ofNat_Int, eq_self, Int.reduceLT, Int.reduceLE, Int.reduceToNat, Int.toNat_natCast, Int.le_refl, Nat.le_refl, Nat.zero_add, Nat.add_zero, Nat.zero_mul, Nat.mul_one, Nat.mul_zero, and_self, and_true, true_and, List.length_cons, List.length_nil, List.all_cons, List.all_nil, Bool.and_self, Bool.and_true, Bool.true_and, List.take_zero, List.nil_append, List.drop_nil, List.append_nil, List.getElem?_cons_zero, List.getElem?_cons_succ, List.drop_succ_cons, List.drop_zero, List.take_succ_cons, List.cons_append, Nat.reduceLeDiff, hlt]
  | succ k ih =>
    intro i hi
    have hlt : (i : Int) < la.length := by omega
    obtain ⟨x, hx, hdx⟩ := drop_at (L := la) (i := i) (by omega)
    obtain ⟨y, hy, hdy⟩ := drop_at (L := lb) (i := i) (by omega)
    obtain ⟨i1, o1, h1, h2⟩ := ha.at hx
    obtain ⟨i2, o2, h3, h4⟩ := hb.at hy
    have hw2 : IntKind.i64.wrap ((i : Int) + 1) = ((i + 1 : Nat) : Int) := by rw [wrap64 (by omega) (by omega)]; omega
    rw [w_loop_b b_slices_Equal___int_int__0.eq_1, hdx, hdy]
    by_cases hxy : x = y
    · subst hxy
      obtain ⟨z, e', H', r1, r2, r3⟩ := ih (i + 1) (by omega)
      have hne : (x ≠ x) = False := by simp
      simp only [w_draw, dr_cons, dr_some, dr_none, dr_go, still_no, still_yes, next_no, next_yes, last_cons, last_nil, isStore, calm_no, calm_nil, calm_cons, calmB_some, isCall, freshI, dr_nil, dr_end, still_nil, still_cons, stillB_some, stamp_some, stampV_ptr, stampV_tuple, stampO, still_here, still_here0, List.nil_append, w_out, w_gives, fin_ret, fin_normal, ress_nil, ress_tmp, pack_one, pack_nil, pack_two, entry_nil, entry_one, entry_two, entry_three, entry_four, eq_skip, eq_exit, eq_ret, w_rows, w_done, w_seq, w_normal, w_ret, w_exit, w_cond, w_true, w_false, eq_block, block_normal, block_ret, block_exit, rows_nil, rows_cons, on_some, on_none, row_plain, row_guard, guard_tt, guard_ff, guard_tf, guard_ft, guard_no, ev_tmp, ev_int, ev_bool, ev_string, ev_slice, ev_pointer, ev_map, ev_float, ev_complex, ev_nilIface, ev_nilFunc, ev_func, eget_cons, eget_nil, st_mv, st_pick, v_pick_t, v_pick_f, st_ext, v_ext0, v_ext1, v_ext2, v_ext3, st_int, v_int, int_add, int_sub, int_mul, int_eql, int_neq, int_lss, int_leq, int_gtr, int_geq, st_beq, v_beq, v_bne, st_not, v_not, st_conv, v_conv, st_faddr, v_faddr, st_iaddr, v_iaddr, st_aaddr, v_aaddr, st_nilChk, v_nil, st_len, v_len, v_lenS, st_load, v_load, got_one, got_row, mem_tip, mem_ro, mem_ret, st_alloc, st_box, st_store, v_store, got_store, cells_agg, cells_int, cells_bool, cells_slice, cells_pointer, cells_string, cells_complex, cells_func, one_int, one_bool, one_slice, one_pointer, one_string, one_complex, one_func, upd_push, get_push_self, AHeap.n_push, AHeap.n_upd, st_build, parts_nil, parts_cons, st_bslice, st_append, st_mkfun, st_mkface, st_isNil, st_max, v_max, st_min, v_min, st_field, st_index, st_slice0, v_slice0, v_slice0n, st_slice, kill_nil, st_call, v_call, forget_nil, forget_cons, Option.map_some, Option.map_none, Option.bind_some, List.map_cons, List.map_nil, if_true, if_false, Nat.reduceEqDiff, Int.reduceEq, Nat.reduceAdd, Nat.reduceMul, Bool.not_true, Bool.not_false, reduceCtorEq, decide_true, decide_false, Int.cast_ofNat_Int, eq_self, Int.reduceLT, Int.reduceLE, Int.reduceToNat, Int.toNat_natCast, Int.le_refl, Nat.le_refl, Nat.zero_add, Nat.add_zero, Nat.zero_mul, Nat.mul_one, Nat.mul_zero, and_self, and_true, true_and, List.length_cons, List.length_nil, List.all_cons, List.all_nil, Bool.and_self, Bool.and_true, Bool.true_and, List.take_zero, List.nil_append, List.drop_nil, List.append_nil, List.getElem?_cons_zero, List.getElem?_cons_succ, List.drop_succ_cons, List.drop_zero, List.take_succ_cons, List.cons_append, Nat.reduceLeDiff, hlt, h1, h2, h3, h4, hne, hw2]
      rw [w_enter]
      simp only [w_draw, dr_cons, dr_some, dr_none, dr_go, still_no, still_yes, next_no, next_yes, last_cons, last_nil, isStore, calm_no, calm_nil, calm_cons, calmB_some, isCall, freshI, dr_nil, dr_end, still_nil, still_cons, stillB_some, stamp_some, stampV_ptr, stampV_tuple, stampO, still_here, still_here0, List.nil_append, w_out, w_gives, fin_ret, fin_normal, ress_nil, ress_tmp, pack_one, pack_nil, pack_two, entry_nil, entry_one, entry_two, entry_three, entry_four, eq_skip, eq_exit, eq_ret, w_rows, w_done, w_seq, w_normal, w_ret, w_exit, w_cond, w_true, w_false, eq_block, block_normal, block_ret, block_exit, rows_nil, rows_cons, on_some, on_none, row_plain, row_guard, guard_tt, guard_ff, guard_tf, guard_ft, guard_no, ev_tmp, ev_int, ev_bool, ev_string, ev_slice, ev_pointer, ev_map, ev_float, ev_complex, ev_nilIface, ev_nilFunc, ev_func, eget_cons, eget_nil, st_mv, st_pick, v_pick_t, v_pick_f, st_ext, v_ext0, v_ext1, v_ext2, v_ext3, st_int, v_int, int_add, int_sub, int_mul, int_eql, int_neq, int_lss, int_leq, int_gtr, int_geq, st_beq, v_beq, v_bne, st_not, v_not, st_conv, v_conv, st_faddr, v_faddr, st_iaddr, v_iaddr, st_aaddr, v_aaddr, st_nilChk, v_nil, st_len, v_len, v_lenS, st_load, v_load, got_one, got_row, mem_tip, mem_ro, mem_ret, st_alloc, st_box, st_store, v_store, got_store, cells_agg, cells_int, cells_bool, cells_slice, cells_pointer, cells_string, cells_complex, cells_func, one_int, one_bool, one_slice, one_pointer, one_string, one_complex, one_func, upd_push, get_push_self, AHeap.n_push, AHeap.n_upd, st_build, parts_nil, parts_cons, st_bslice, st_append, st_mkfun, st_mkface, st_isNil, st_max, v_max, st_min, v_min, st_field, st_index, st_slice0, v_slice0, v_slice0n, st_slice, kill_nil, st_call, v_call, forget_nil, forget_cons, Option.map_some, Option.map_none, Option.bind_some, List.map_cons, List.map_nil, if_true, if_false, Nat.reduceEqDiff, Int.reduceEq, Nat.reduceAdd, Nat.reduceMul, Bool.not_true, Bool.not_false, reduceCtorEq, decide_true, decide_false, Int.cast_ofNat_Int, eq_self, Int.reduceLT, Int.reduceLE, Int.reduceToNat, Int.toNat_natCast, Int.le_refl, Nat.le_refl, Nat.zero_add, Nat.add_zero, Nat.zero_mul, Nat.mul_one, Nat.mul_zero, and_self, and_true, true_and, List.length_cons, List.length_nil, List.all_cons, List.all_nil, Bool.and_self, Bool.and_true, Bool.true_and, List.take_zero, List.nil_append, List.drop_nil, List.append_nil, List.getElem?_cons_zero, List.getElem?_cons_succ, List.drop_succ_cons, List.drop_zero, List.take_succ_cons, List.cons_append, Nat.reduceLeDiff, r1]
      refine ⟨r2, ?_⟩
      simpa using r3
    · have hne : (x ≠ y) = True := by simp [hxy]
      simp only [w_draw, dr_cons, dr_some, dr_none, dr_go, still_no, still_yes, next_no, next_yes, last_cons, last_nil, isStore, calm_no, calm_nil, calm_cons, calmB_some, isCall, freshI, dr_nil, dr_end, still_nil, still_cons, stillB_some, stamp_some, stampV_ptr, stampV_tuple, stampO, still_here, still_here0, List.nil_append, w_out, w_gives, fin_ret, fin_normal, ress_nil, ress_tmp, pack_one, pack_nil, pack_two, entry_nil, entry_one, entry_two, entry_three, entry_four, eq_skip, eq_exit, eq_ret, w_rows, w_done, w_seq, w_normal, w_ret, w_exit, w_cond, w_true, w_false, eq_block, block_normal, block_ret, block_exit, rows_nil, rows_cons, on_some, on_none, row_plain, row_guard, guard_tt, guard_ff, guard_tf, guard_ft, guard_no, ev_tmp, ev_int, ev_bool, ev_string, ev_slice, ev_pointer, ev_map, ev_float, ev_complex, ev_nilIface, ev_nilFunc, ev_func, eget_cons, eget_nil, st_mv, st_pick, v_pick_t, v_pick_f, st_ext, v_ext0, v_ext1, v_ext2, v_ext3, st_int, v_int, int_add, int_sub, int_mul, int_eql, int_neq, int_lss, int_leq, int_gtr, int_geq, st_beq, v_beq, v_bne, st_not, v_not, st_conv, v_conv, st_faddr, v_faddr, st_iaddr, v_iaddr, st_aaddr, v_aaddr, st_nilChk, v_nil, st_len, v_len, v_lenS, st_load, v_load, got_one, got_row, mem_tip, mem_ro, mem_ret, st_alloc, st_box, st_store, v_store, got_store, cells_agg, cells_int, cells_bool, cells_slice, cells_pointer, cells_string, cells_complex, cells_func, one_int, one_bool, one_slice, one_pointer, one_string, one_complex, one_func, upd_push, get_push_self, AHeap.n_push, AHeap.n_upd, st_build, parts_nil, parts_cons, st_bslice, st_append, st_mkfun, st_mkface, st_isNil, st_max, v_max, st_min, v_min, st_field, st_index, st_slice0, v_slice0, v_slice0n, st_slice, kill_nil, st_call, v_call, forget_nil, forget_cons, Option.map_some, Option.map_none, Option.bind_some, List.map_cons, List.map_nil, if_true, if_false, Nat.reduceEqDiff, Int.reduceEq, Nat.reduceAdd, Nat.reduceMul, Bool.not_true, Bool.not_false, reduceCtorEq, decide_true, decide_false, Int.cast_ofNat_Int, eq_self, Int.reduceLT, Int.reduceLE, Int.reduceToNat, Int.toNat_natCast, Int.le_refl, Nat.le_refl, Nat.zero_add, Nat.add_zero, Nat.zero_mul, Nat.mul_one, Nat.mul_zero, and_self, and_true, true_and, List.length_cons, List.length_nil, List.all_cons, List.all_nil, Bool.and_self, Bool.and_true, Bool.true_and, List.take_zero, List.nil_append, List.drop_nil, List.append_nil, List.getElem?_cons_zero, List.getElem?_cons_succ, List.drop_succ_cons, List.drop_zero, List.take_succ_cons, List.cons_append, Nat.reduceLeDiff, hlt, h1, h2, h3, h4, hne]
      simp [hxy]
theorem c_Equal {a b : Value} {la lb : List Int} {H : AHeap} (ha : Ints H a la) (hb : Ints H b lb) (hs : la.length < 4611686018427387904) : cw Try.prog (tabF tab) om1 32 [a, b] H = some (.bool (decide (la = lb)), H) := by
  rw [cw_run (F := F_slices_Equal___int_int_) rfl rfl rfl]
  unfold F_slices_Equal___int_int_ k_slices_Equal___int_int_
  by_cases hl : la.length = lb.length
  · obtain ⟨x, e', H', r1, rfl, r3⟩ := l_Equal ha hb hl hs la.length 0 (by omega)
    have hne : (((la.length : Nat) : Int) ≠ ((lb.length : Nat) : Int)) = False := by simp [hl]
    simp only [Int.cast_ofNat_Int] at r1
    simp only [w_draw, dr_cons, dr_some, dr_none, dr_go, still_no, still_yes, next_no, next_yes, last_cons, last_nil, isStore, calm_no, calm_nil, calm_cons, calmB_some, isCall, freshI, dr_nil, dr_end, still_nil, still_cons, stillB_some, stamp_some, stampV_ptr, stampV_tuple, stampO, still_here, still_here0, List.nil_append, w_out, w_gives, fin_ret, fin_normal, ress_nil, ress_tmp, pack_one, pack_nil, pack_two, entry_nil, entry_one, entry_two, entry_three, entry_four, eq_skip, eq_exit, eq_ret, w_rows, w_done, w_seq, w_normal, w_ret, w_exit, w_cond, w_true, w_false, eq_block, block_normal, block_ret, block_exit, rows_nil, rows_cons, on_some, on_none, row_plain, row_guard, guard_tt, guard_ff, guard_tf, guard_ft, guard_no, ev_tmp, ev_int, ev_bool, ev_string, ev_slice, ev_pointer, ev_map, ev_float, ev_complex, ev_nilIface, ev_nilFunc, ev_func, eget_cons, eget_nil, st_mv, st_pick, v_pick_t, v_pick_f, st_ext, v_ext0, v_ext1, v_ext2, v_ext3, st_int, v_int, int_add, int_sub, int_mul, int_eql, int_neq, int_lss, int_leq, int_gtr, int_geq, st_beq, v_beq, v_bne, st_not, v_not, st_conv, v_conv, st_faddr, v_faddr, st_iaddr, v_iaddr, st_aaddr, v_aaddr, st_nilChk, v_nil, st_len, v_len, v_lenS, st_load, v_load, got_one, got_row, mem_tip, mem_ro, mem_ret, st_alloc, st_box, st_store, v_store, got_store, cells_agg, cells_int, cells_bool, cells_slice, cells_pointer, cells_string, cells_complex, cells_func, one_int, one_bool, one_slice, one_pointer, one_string, one_complex, one_func, upd_push, get_push_self, AHeap.n_push, AHeap.n_upd, st_build, parts_nil, parts_cons, st_bslice, st_append, st_mkfun, st_mkface, st_isNil, st_max, v_max, st_min, v_min, st_field, st_index, st_slice0, v_slice0, v_slice0n, st_slice, kill_nil, st_call, v_call, forget_nil, forget_cons, Option.map_some, Option.map_none, Option.bind_some, List.map_cons, List.map_nil, if_true, if_false, Nat.reduceEqDiff, Int.reduceEq, Nat.reduceAdd, Nat.reduceMul, Bool.not_true, Bool.not_false, reduceCtorEq, decide_true, decide_false, Int.cast_ofNat_Int, eq_self, Int.reduceLT, Int.reduceLE, Int.reduceToNat, Int.toNat_natCast, Int.le_refl, Nat.le_refl, Nat.zero_add, Nat.add_zero, Nat.zero_mul, Nat.mul_one, Nat.mul_zero, and_self, and_true, true_and, List.length_cons, List.length_nil, List.all_cons, List.all_nil, Bool.and_self, Bool.and_true, Bool.true_and, List.take_zero, List.nil_append, List.drop_nil, List.append_nil, List.getElem?_cons_zero, List.getElem?_cons_succ, List.drop_succ_cons, List.drop_zero, List.take_succ_cons, List.cons_append, Nat.reduceLeDiff, ha.len, hb.len, hne]
    rw [w_enter]
    simp only [w_draw, dr_cons, dr_some, dr_none, dr_go, still_no, still_yes, next_no, next_yes, last_cons, last_nil, isStore, calm_no, calm_nil, calm_cons, calmB_some, isCall, freshI, dr_nil, dr_end, still_nil, still_cons, stillB_some, stamp_some, stampV_ptr, stampV_tuple, stampO, still_here, still_here0, List.nil_append, w_out, w_gives, fin_ret, fin_normal, ress_nil, ress_tmp, pack_one, pack_nil, pack_two, entry_nil, entry_one, entry_two, entry_three, entry_four, eq_skip, eq_exit, eq_ret, w_rows, w_done, w_seq, w_normal, w_ret, w_exit, w_cond, w_true, w_false, eq_block, block_normal, block_ret, block_exit, rows_nil, rows_cons, on_some, on_none, row_plain, row_guard, guard_tt, guard_ff, guard_tf, guard_ft, guard_no, ev_tmp, ev_int, ev_bool, ev_string, ev_slice, ev_pointer, ev_map, ev_float, ev_complex, ev_nilIface, ev_nilFunc, ev_func, eget_cons, eget_nil, st_mv, st_pick, v_pick_t, v_pick_f, st_ext, v_ext0, v_ext1, v_ext2, v_ext3, st_int, v_int, int_add, int_sub, int_mul, int_eql, int_neq, int_lss, int_leq, int_gtr, int_geq, st_beq, v_beq, v_bne, st_not, v_not, st_conv, v_conv, st_faddr, v_faddr, st_iaddr, v_iaddr, st_aaddr, v_aaddr, st_nilChk, v_nil, st_len, v_len, v_lenS, st_load, v_load, got_one, got_row, mem_tip, mem_ro, mem_ret, st_alloc, st_box, st_store, v_store, got_store, cells_agg, cells_int, cells_bool, cells_slice, cells_pointer, cells_string, cells_complex, cells_func, one_int, one_bool, one_slice, one_pointer, one_string, one_complex, one_func, upd_push, get_push_self, AHeap.n_push, AHeap.n_upd, st_build, parts_nil, parts_cons, st_bslice, st_append, st_mkfun, st_mkface, st_isNil, st_max, v_max, st_min, v_min, st_field, st_index, st_slice0, v_slice0, v_slice0n, st_slice, kill_nil, st_call, v_call, forget_nil, forget_cons, Option.map_some, Option.map_none, Option.bind_some, List.map_cons, List.map_nil, if_true, if_false, Nat.reduceEqDiff, Int.reduceEq, Nat.reduceAdd, Nat.reduceMul, Bool.not_true, Bool.not_false, reduceCtorEq, decide_true, decide_false, Int.cast_ofNat_Int, eq_self, Int.reduceLT, Int.reduceLE, Int.reduceToNat, Int.toNat_natCast, Int.le_refl, Nat.le_refl, Nat.zero_add, Nat.add_zero, Nat.zero_mul, Nat.mul_one, Nat.mul_zero, and_self, and_true, true_and, List.length_cons, List.length_nil, List.all_cons, List.all_nil, Bool.and_self, Bool.and_true, Bool.true_and, List.take_zero, List.nil_append, List.drop_nil, List.append_nil, List.getElem?_cons_zero, List.getElem?_cons_succ, List.drop_succ_cons, List.drop_zero, List.take_succ_cons, List.cons_append, Nat.reduceLeDiff, r1]
    simp only [List.drop_zero] at r3
    split at r3
    · rename_i h
      subst r3
      simp only [w_draw, dr_cons, dr_some, dr_none, dr_go, still_no, still_yes, next_no, next_yes, last_cons, last_nil, isStore, calm_no, calm_nil, calm_cons, calmB_some, isCall, freshI, dr_nil, dr_end, still_nil, still_cons, stillB_some, stamp_some, stampV_ptr, stampV_tuple, stampO, still_here, still_here0, List.nil_append, w_out, w_gives, fin_ret, fin_normal, ress_nil, ress_tmp, pack_one, pack_nil, pack_two, entry_nil, entry_one, entry_two, entry_three, entry_four, eq_skip, eq_exit, eq_ret, w_rows, w_done, w_seq, w_normal, w_ret, w_exit, w_cond, w_true, w_false, eq_block, block_normal, block_ret, block_exit, rows_nil, rows_cons, on_some, on_none, row_plain, row_guard, guard_tt, guard_ff, guard_tf, guard_ft, guard_no, ev_tmp, ev_int, ev_bool, ev_string, ev_slice, ev_pointer, ev_map, ev_float, ev_complex, ev_nilIface, ev_nilFunc, ev_func, eget_cons, eget_nil, st_mv, st_pick, v_pick_t, v_pick_f, st_ext, v_ext0, v_ext1, v_ext2, v_ext3, st_int, v_int, int_add, int_sub, int_mul, int_eql, int_neq, int_lss, int_leq, int_gtr, int_geq, st_beq, v_beq, v_bne, st_not, v_not, st_conv, v_conv, st_faddr, v_faddr, st_iaddr, v_iaddr, st_aaddr, v_aaddr, st_nilChk, v_nil, st_len, v_len, v_lenS, st_load, v_load, got_one, got_row, mem_tip, mem_ro, mem_ret, st_alloc, st_box, st_store, v_store, got_store, cells_agg, cells_int, cells_bool, cells_slice, cells_pointer, cells_string, cells_complex, cells_func, one_int, one_bool, one_slice, one_pointer, one_string, one_complex, one_func, upd_push, get_push_self, AHeap.n_push, AHeap.n_upd, st_build, parts_nil, parts_cons, st_bslice, st_append, st_mkfun, st_mkface, st_isNil, st_max, v_max, st_min, v_min, st_field, st_index, st_slice0, v_slice0, v_slice0n, st_slice, kill_nil, st_call, v_call, forget_nil, forget_cons, Option.map_some, Option.map_none, Option.bind_some, List.map_cons, List.map_nil, if_true, if_false, Nat.reduceEqDiff, Int.reduceEq, Nat.reduceAdd, Nat.reduceMul, Bool.not_true, Bool.not_false, reduceCtorEq, decide_true, decide_false, Int.cast_ofNat_Int, eq_self, Int.reduceLT, Int.reduceLE, Int.reduceToNat, Int.toNat_natCast, Int.le_refl, Nat.le_refl, Nat.zero_add, Nat.add_zero, Nat.zero_mul, Nat.mul_one, Nat.mul_zero, and_self, and_true, true_and, List.length_cons, List.length_nil, List.all_cons, List.all_nil, Bool.and_self, Bool.and_true, Bool.true_and, List.take_zero, List.nil_append, List.drop_nil, List.append_nil, List.getElem?_cons_zero, List.getElem?_cons_succ, List.drop_succ_cons, List.drop_zero, List.take_succ_cons, List.cons_append, Nat.reduceLeDiff, h]
    · rename_i h
      obtain ⟨rfl, r4⟩ := r3
      simp only [w_draw, dr_cons, dr_some, dr_none, dr_go, still_no, still_yes, next_no, next_yes, last_cons, last_nil, isStore, calm_no, calm_nil, calm_cons, calmB_some, isCall, freshI, dr_nil, dr_end, still_nil, still_cons, stillB_some, stamp_some, stampV_ptr, stampV_tuple, stampO, still_here, still_here0, List.nil_append, w_out, w_gives, fin_ret, fin_normal, ress_nil, ress_tmp, pack_one, pack_nil, pack_two, entry_nil, entry_one, entry_two, entry_three, entry_four, eq_skip, eq_exit, eq_ret, w_rows, w_done, w_seq, w_normal, w_ret, w_exit, w_cond, w_true, w_false, eq_block, block_normal, block_ret, block_exit, rows_nil, rows_cons, on_some, on_none, row_plain, row_guard, guard_tt, guard_ff, guard_tf, guard_ft, guard_no, ev_tmp, ev_int, ev_bool, ev_string, ev_slice, ev_pointer, ev_map, ev_float, ev_complex, ev_nilIface, ev_nilFunc, ev_func, eget_cons, eget_nil, st_mv, st_pick, v_pick_t, v_pick_f, st_ext, v_ext0, v_ext1, v_ext2, v_ext3, st_int, v_int, int_add, int_sub, int_mul, int_eql, int_neq, int_lss, int_leq, int_gtr, int_geq, st_beq, v_beq, v_bne, st_not, v_not, st_conv, v_conv, st_faddr, v_faddr, st_iaddr, v_iaddr, st_aaddr, v_aaddr, st_nilChk, v_nil, st_len, v_len, v_lenS, st_load, v_load, got_one, got_row, mem_tip, mem_ro, mem_ret, st_alloc, st_box, st_store, v_store, got_store, cells_agg, cells_int, cells_bool, cells_slice, cells_pointer, cells_string, cells_complex, cells_func, one_int, one_bool, one_slice, one_pointer, one_string, one_complex, one_func, upd_push, get_push_self, AHeap.n_push, AHeap.n_upd, st_build, parts_nil, parts_cons, st_bslice, st_append, st_mkfun, st_mkface, st_isNil, st_max, v_max, st_min, v_min, st_field, st_index, st_slice0, v_slice0, v_slice0n, st_slice, kill_nil, st_call, v_call, forget_nil, forget_cons, Option.map_some, Option.map_none, Option.bind_some, List.map_cons, List.map_nil, if_true, if_false, Nat.reduceEqDiff, Int.reduceEq, Nat.reduceAdd, Nat.reduceMul, Bool.not_true, Bool.not_false, reduceCtorEq, decide_true, decide_false, Int.cast_ofNat_Int, eq_self, Int.reduceLT, Int.reduceLE, Int.reduceToNat, Int.toNat_natCast, Int.le_refl, Nat.le_refl, Nat.zero_add, Nat.add_zero, Nat.zero_mul, Nat.mul_one, Nat.mul_zero, and_self, and_true, true_and, List.length_cons, List.length_nil, List.all_cons, List.all_nil, Bool.and_self, Bool.and_true, Bool.true_and, List.take_zero, List.nil_append, List.drop_nil, List.append_nil, List.getElem?_cons_zero, List.getElem?_cons_succ, List.drop_succ_cons, List.drop_zero, List.take_succ_cons, List.cons_append, Nat.reduceLeDiff, r4, h]
  · have hne : (((la.length : Nat) : Int) ≠ ((lb.length : Nat) : Int)) = True := by simp; omega
    have hab : ¬ la = lb := fun h => hl (by rw [h])
    simp only [w_draw, dr_cons, dr_some, dr_none, dr_go, still_no, still_yes, next_no, next_yes, last_cons, last_nil, isStore, calm_no, calm_nil, calm_cons, calmB_some, isCall, freshI, dr_nil, dr_end, still_nil, still_cons, stillB_some, stamp_some, stampV_ptr, stampV_tuple, stampO, still_here, still_here0, List.nil_append, w_out, w_gives, fin_ret, fin_normal, ress_nil, ress_tmp, pack_one, pack_nil, pack_two, entry_nil, entry_one, entry_two, entry_three, entry_four, eq_skip, eq_exit, eq_ret, w_rows, w_done, w_seq, w_normal, w_ret, w_exit, w_cond, w_true, w_false, eq_block, block_normal, block_ret, block_exit, rows_nil, rows_cons, on_some, on_none, row_plain, row_guard, guard_tt, guard_ff, guard_tf, guard_ft, guard_no, ev_tmp, ev_int, ev_bool, ev_string, ev_slice, ev_pointer, ev_map, ev_float, ev_complex, ev_nilIface, ev_nilFunc, ev_func, eget_cons, eget_nil, st_mv, st_pick, v_pick_t, v_pick_f, st_ext, v_ext0, v_ext1, v_ext2, v_ext3, st_int, v_int, int_add, int_sub, int_mul, int_eql, int_neq, int_lss, int_leq, int_gtr, int_geq, st_beq, v_beq, v_bne, st_not, v_not, st_conv, v_conv, st_faddr, v_faddr, st_iaddr, v_iaddr, st_aaddr, v_aaddr, st_nilChk, v_nil, st_len, v_len, v_lenS, st_load, v_load, got_one, got_row, mem_tip, mem_ro, mem_ret, st_alloc, st_box, st_store, v_store, got_store, cells_agg, cells_int, cells_bool, cells_slice, cells_pointer, cells_string, cells_complex, cells_func, one_int, one_bool, one_slice, one_pointer, one_string, one_complex, one_func, upd_push, get_push_self, AHeap.n_push, AHeap.n_upd, st_build, parts_nil, parts_cons, st_bslice, st_append, st_mkfun, st_mkface, st_isNil, st_max, v_max, st_min, v_min, st_field, st_index, st_slice0, v_slice0, v_slice0n, st_slice, kill_nil, st_call, v_call, forget_nil, forget_cons, Option.map_some, Option.map_none, Option.bind_some, List.map_cons, List.map_nil, if_true, if_false, Nat.reduceEqDiff, Int.reduceEq, Nat.reduceAdd, Nat.reduceMul, Bool.not_true, Bool.not_false, reduceCtorEq, decide_true, decide_false, Int.cast_ofNat_Int, eq_self, Int.reduceLT, Int.reduceLE, Int.reduceToNat, Int.toNat_natCast, Int.le_refl, Nat.le_refl, Nat.zero_add, Nat.add_zero, Nat.zero_mul, Nat.mul_one, Nat.mul_zero, and_self, and_true, true_and, List.length_cons, List.length_nil, List.all_cons, List.all_nil, Bool.and_self, Bool.and_true, Bool.true_and, List.take_zero, List.nil_append, List.drop_nil, List.append_nil, List.getElem?_cons_zero, List.getElem?_cons_succ, List.drop_succ_cons, List.drop_zero, List.take_succ_cons, List.cons_append, Nat.reduceLeDiff, ha.len, hb.len, hne, hab]
end Go.Proofs.Ytjicdpkgcofiaaa

/-! Sides of rules. -/
set_option linter.unusedSimpArgs false
set_option linter.unusedVariables false
namespace Go.Proofs.Ytjicdpkgcofiaaa
open Go Lon
def bad (u : Int) : Prop := u < 0 ∨ u > 1114111
instance (u : Int) : Decidable (bad u) := by unfold bad; infer_instance
/-- The first unit that may not be, from place i on. -/
def bdx : List Int → Nat → Option Nat
  | [], _ => none
  | u :: l, i => if bad u then some i else bdx l (i + 1)
theorem bdx_ge : ∀ {l : List Int} {i j : Nat}, bdx l i = some j → i ≤ j ∧ j < i + l.length
  | [], i, j, h => by cases h
  | u :: l, i, j, h => by
    unfold bdx at h
    split at h
    · injection h with h; subst h; simp
    · have := bdx_ge h; simp; omega
def sideB (l : List Int) : Bool := decide (0 < l.length) && decide (l.length ≤ 8) && (bdx l 0).isNone
theorem c_side1 {u : Int} (H : AHeap) : cw Try.prog (tabF tab) om1 29 [.int .i64 u] H = some (.bool (decide (bad u)), H) := by
  rw [cw_run (F := F_rule_side_1) rfl rfl rfl]
  unfold F_rule_side_1 k_rule_side_1
  by_cases h1 : u < 0
  · have hb : bad u := .inl h1
    simp only [w_draw, dr_cons, dr_some, dr_none, dr_go, still_no, still_yes, next_no, next_yes, last_cons, last_nil, isStore, calm_no, calm_nil, calm_cons, calmB_some, isCall, freshI, dr_nil, dr_end, still_nil, still_cons, stillB_some, stamp_some, stampV_ptr, stampV_tuple, stampO, still_here, still_here0, List.nil_append, w_out, w_gives, fin_ret, fin_normal, ress_nil, ress_tmp, pack_one, pack_nil, pack_two, entry_nil, entry_one, entry_two, entry_three, entry_four, eq_skip, eq_exit, eq_ret, w_rows, w_done, w_seq, w_normal, w_ret, w_exit, w_cond, w_true, w_false, eq_block, block_normal, block_ret, block_exit, rows_nil, rows_cons, on_some, on_none, row_plain, row_guard, guard_tt, guard_ff, guard_tf, guard_ft, guard_no, ev_tmp, ev_int, ev_bool, ev_string, ev_slice, ev_pointer, ev_map, ev_float, ev_complex, ev_nilIface, ev_nilFunc, ev_func, eget_cons, eget_nil, st_mv, st_pick, v_pick_t, v_pick_f, st_ext, v_ext0, v_ext1, v_ext2, v_ext3, st_int, v_int, int_add, int_sub, int_mul, int_eql, int_neq, int_lss, int_leq, int_gtr, int_geq, st_beq, v_beq, v_bne, st_not, v_not, st_conv, v_conv, st_faddr, v_faddr, st_iaddr, v_iaddr, st_aaddr, v_aaddr, st_nilChk, v_nil, st_len, v_len, v_lenS, st_load, v_load, got_one, got_row, mem_tip, mem_ro, mem_ret, st_alloc, st_box, st_store, v_store, got_store, cells_agg, cells_int, cells_bool, cells_slice, cells_pointer, cells_string, cells_complex, cells_func, one_int, one_bool, one_slice, one_pointer, one_string, one_complex, one_func, upd_push, get_push_self, AHeap.n_push, AHeap.n_upd, st_build, parts_nil, parts_cons, st_bslice, st_append, st_mkfun, st_mkface, st_isNil, st_max, v_max, st_min, v_min, st_field, st_index, st_slice0, v_slice0, v_slice0n, st_slice, kill_nil, st_call, v_call, forget_nil, forget_cons, Option.map_some, Option.map_none, Option.bind_some, List.map_cons, List.map_nil, if_true, if_false, Nat.reduceEqDiff, Int.reduceEq, Nat.reduceAdd, Nat.reduceMul, Bool.not_true, Bool.not_false, reduceCtorEq, decide_true, decide_false, Int.cast_ofNat_Int, eq_self, Int.reduceLT, Int.reduceLE, Int.reduceToNat, Int.toNat_natCast, Int.le_refl, Nat.le_refl, Nat.zero_add, Nat.add_zero, Nat.zero_mul, Nat.mul_one, Nat.mul_zero, and_self, and_true, true_and, List.length_cons, List.length_nil, List.all_cons, List.all_nil, Bool.and_self, Bool.and_true, Bool.true_and, List.take_zero, List.nil_append, List.drop_nil, List.append_nil, List.getElem?_cons_zero, List.getElem?_cons_succ, List.drop_succ_cons, List.drop_zero, List.take_succ_cons, List.cons_append, Nat.reduceLeDiff, h1, hb]
  · by_cases h2 : u > 1114111
    · have hb : bad u := .inr h2
      simp only [w_draw, dr_cons, dr_some, dr_none, dr_go, still_no, still_yes, next_no, next_yes, last_cons, last_nil, isStore, calm_no, calm_nil, calm_cons, calmB_some, isCall, freshI, dr_nil, dr_end, still_nil, still_cons, stillB_some, stamp_some, stampV_ptr, stampV_tuple, stampO, still_here, still_here0, List.nil_append, w_out, w_gives, fin_ret, fin_normal, ress_nil, ress_tmp, pack_one, pack_nil, pack_two, entry_nil, entry_one, entry_two, entry_three, entry_four, eq_skip, eq_exit, eq_ret, w_rows, w_done, w_seq, w_normal, w_ret, w_exit, w_cond, w_true, w_false, eq_block, block_normal, block_ret, block_exit, rows_nil, rows_cons, on_some, on_none, row_plain, row_guard, guard_tt, guard_ff, guard_tf, guard_ft, guard_no, ev_tmp, ev_int, ev_bool, ev_string, ev_slice, ev_pointer, ev_map, ev_float, ev_complex, ev_nilIface, ev_nilFunc, ev_func, eget_cons, eget_nil, st_mv, st_pick, v_pick_t, v_pick_f, st_ext, v_ext0, v_ext1, v_ext2, v_ext3, st_int, v_int, int_add, int_sub, int_mul, int_eql, int_neq, int_lss, int_leq, int_gtr, int_geq, st_beq, v_beq, v_bne, st_not, v_not, st_conv, v_conv, st_faddr, v_faddr, st_iaddr, v_iaddr, st_aaddr, v_aaddr, st_nilChk, v_nil, st_len, v_len, v_lenS, st_load, v_load, got_one, got_row, mem_tip, mem_ro, mem_ret, st_alloc, st_box, st_store, v_store, got_store, cells_agg, cells_int, cells_bool, cells_slice, cells_pointer, cells_string, cells_complex, cells_func, one_int, one_bool, one_slice, one_pointer, one_string, one_complex, one_func, upd_push, get_push_self, AHeap.n_push, AHeap.n_upd, st_build, parts_nil, parts_cons, st_bslice, st_append, st_mkfun, st_mkface, st_isNil, st_max, v_max, st_min, v_min, st_field, st_index, st_slice0, v_slice0, v_slice0n, st_slice, kill_nil, st_call, v_call, forget_nil, forget_cons, Option.map_some, Option.map_none, Option.bind_some, List.map_cons, List.map_nil, if_true, if_false, Nat.reduceEqDiff, Int.reduceEq, Nat.reduceAdd, Nat.reduceMul, Bool.not_true, Bool.not_false, reduceCtorEq, decide_true, decide_false, Int.cast_ofNat_Int, eq_self, Int.reduceLT, Int.reduceLE, Int.reduceToNat, Int.toNat_natCast, Int.le_refl, Nat.le_refl, Nat.zero_add, Nat.add_zero, Nat.zero_mul, Nat.mul_one, Nat.mul_zero, and_self, and_true, true_and, List.length_cons, List.length_nil, List.all_cons, List.all_nil, Bool.and_self, Bool.and_true, Bool.true_and, List.take_zero, List.nil_append, List.drop_nil, List.append_nil, List.getElem?_cons_zero, List.getElem?_cons_succ, List.drop_succ_cons, List.drop_zero, List.take_succ_cons, List.cons_append, Nat.reduceLeDiff, h1, h2, hb]
    · have hb : ¬ bad u := fun h => by rcases h with h | h; exact h1 h; exact h2 h
      simp only [w_draw, dr_cons, dr_some, dr_none, dr_go, still_no, still_yes, next_no, next_yes, last_cons, last_nil, isStore, calm_no, calm_nil, calm_cons, calmB_some, isCall, freshI, dr_nil, dr_end, still_nil, still_cons, stillB_some, stamp_some, stampV_ptr, stampV_tuple, stampO, still_here, still_here0, List.nil_append, w_out, w_gives, fin_ret, fin_normal, ress_nil, ress_tmp, pack_one, pack_nil, pack_two, entry_nil, entry_one, entry_two, entry_three, entry_four, eq_skip, eq_exit, eq_ret, w_rows, w_done, w_seq, w_normal, w_ret, w_exit, w_cond, w_true, w_false, eq_block, block_normal, block_ret, block_exit, rows_nil, rows_cons, on_some, on_none, row_plain, row_guard, guard_tt, guard_ff, guard_tf, guard_ft, guard_no, ev_tmp, ev_int, ev_bool, ev_string, ev_slice, ev_pointer, ev_map, ev_float, ev_complex, ev_nilIface, ev_nilFunc, ev_func, eget_cons, eget_nil, st_mv, st_pick, v_pick_t, v_pick_f, st_ext, v_ext0, v_ext1, v_ext2, v_ext3, st_int, v_int, int_add, int_sub, int_mul, int_eql, int_neq, int_lss, int_leq, int_gtr, int_geq, st_beq, v_beq, v_bne, st_not, v_not, st_conv, v_conv, st_faddr, v_faddr, st_iaddr, v_iaddr, st_aaddr, v_aaddr, st_nilChk, v_nil, st_len, v_len, v_lenS, st_load, v_load, got_one, got_row, mem_tip, mem_ro, mem_ret, st_alloc, st_box, st_store, v_store, got_store, cells_agg, cells_int, cells_bool, cells_slice, cells_pointer, cells_string, cells_complex, cells_func, one_int, one_bool, one_slice, one_pointer, one_string, one_complex, one_func, upd_push, get_push_self, AHeap.n_push, AHeap.n_upd, st_build, parts_nil, parts_cons, st_bslice, st_append, st_mkfun, st_mkface, st_isNil, st_max, v_max, st_min, v_min, st_field, st_index, st_slice0, v_slice0, v_slice0n, st_slice, kill_nil, st_call, v_call, forget_nil, forget_cons, Option.map_some, Option.map_none, Option.bind_some, List.map_cons, List.map_nil, if_true, if_false, Nat.reduceEqDiff, Int.reduceEq, Nat.reduceAdd, Nat.reduceMul, Bool.not_true, Bool.not_false, reduceCtorEq, decide_true, decide_false, Int.cast_ofNat_Int, eq_self, Int.reduceLT, Int.reduceLE, Int.reduceToNat, Int.toNat_natCast, Int.le_refl, Nat.le_refl, Nat.zero_add, Nat.add_zero, Nat.zero_mul, Nat.mul_one, Nat.mul_zero, and_self, and_true, true_and, List.length_cons, List.length_nil, List.all_cons, List.all_nil, Bool.and_self, Bool.and_true, Bool.true_and, List.take_zero, List.nil_append, List.drop_nil, List.append_nil, List.getElem?_cons_zero, List.getElem?_cons_succ, List.drop_succ_cons, List.drop_zero, List.take_succ_cons, List.cons_append, Nat.reduceLeDiff, h1, h2, hb]
theorem l_IdxI {a : Value} {l : List Int} {H : AHeap} (ha : Ints H a l) (hs : tiny l) : ∀ (k i : Nat), i + k = l.length →
    Out (run Try.prog (tabF tab) om1 (.loop [0, 1, 7, 8] b_slices_IndexFunc___int_int__0) [(0, a), (1, .func (.func 29) ⟨[]⟩ ⟨[]⟩), (7, .int .i64 l.length), (8, .int .i64 i)] H) fun x e' H' => H' = H ∧
      match bdx (l.drop i) i with | some j => x = .ret ∧ eget e' 4 = .int .i64 j | none => x = .exit 0 := by
  intro k
  have ht := hs
  unfold tiny at ht
  induction k with
  | zero =>
    intro i hi
    have hlt : ¬ ((i : Int) < l.length) := by omega
    rw [w_loop_b b_slices_IndexFunc___int_int__0.eq_1, List.drop_of_length_le (by omega)]
    simp only [w_draw, dr_cons, dr_some, dr_none, dr_go, still_no, still_yes, next_no, next_yes, last_cons, last_nil, isStore, calm_no, calm_nil, calm_cons, calmB_some, isCall, freshI, dr_nil, dr_end, still_nil, still_cons, stillB_some, stamp_some, stampV_ptr, stampV_tuple, stampO, still_here, still_here0, List.nil_append, w_out, w_gives, fin_ret, fin_normal, ress_nil, ress_tmp, pack_one, pack_nil, pack_two, entry_nil, entry_one, entry_two, entry_three, entry_four, eq_skip, eq_exit, eq_ret, w_rows, w_done, w_seq, w_normal, w_ret, w_exit, w_cond, w_true, w_false, eq_block, block_normal, block_ret, block_exit, rows_nil, rows_cons, on_some, on_none, row_plain, row_guard, guard_tt, guard_ff, guard_tf, guard_ft, guard_no, ev_tmp, ev_int, ev_bool, ev_string, ev_slice, ev_pointer, ev_map, ev_float, ev_complex, ev_nilIface, ev_nilFunc, ev_func, eget_cons, eget_nil, st_mv, st_pick, v_pick_t, v_pick_f, st_ext, v_ext0, v_ext1, v_ext2, v_ext3, st_int, v_int, int_add, int_sub, int_mul, int_eql, int_neq, int_lss, int_leq, int_gtr, int_geq, st_beq, v_beq, v_bne, st_not, v_not, st_conv, v_conv, st_faddr, v_faddr, st_iaddr, v_iaddr, st_aaddr, v_aaddr, st_nilChk, v_nil, st_len, v_len, v_lenS, st_load, v_load, got_one, got_row, mem_tip, mem_ro, mem_ret, st_alloc, st_box, st_store, v_store, got_store, cells_agg, cells_int, cells_bool, cells_slice, cells_pointer, cells_string, cells_complex, cells_func, one_int, one_bool, one_slice, one_pointer, one_string, one_complex, one_func, upd_push, get_push_self, AHeap.n_push, AHeap.n_upd, st_build, parts_nil, parts_cons, st_bslice, st_append, st_mkfun, st_mkface, st_isNil, st_max, v_max, st_min, v_min, st_field, st_index, st_slice0, v_slice0, v_slice0n, st_slice, kill_nil, st_call, v_call, forget_nil, forget_cons, Option.map_some, Option.map_none, Option.bind_some, List.map_cons, List.map_nil, if_true, if_false, Nat.reduceEqDiff, Int.reduceEq, Nat.reduceAdd, Nat.reduceMul, Bool.not_true, Bool.not_false, reduceCtorEq, decide_true, decide_false, Int.cast_ofNat_Int, eq_self, Int.reduceLT, Int.reduceLE, Int.reduceToNat, Int.toNat_natCast, Int.le_refl, Nat.le_refl, Nat.zero_add, Nat.add_zero, Nat.zero_mul, Nat.mul_one, Nat.mul_zero, and_self, and_true, true_and, List.length_cons, List.length_nil, List.all_cons, List.all_nil, Bool.and_self, Bool.and_true, Bool.true_and, List.take_zero, List.nil_append, List.drop_nil, List.append_nil, List.getElem?_cons_zero, List.getElem?_cons_succ, List.drop_succ_cons, List.drop_zero, List.take_succ_cons, List.cons_append, Nat.reduceLeDiff, hlt, bdx]
  | succ k ih =>
    intro i hi
    have hlt : (i : Int) < l.length := by omega
    obtain ⟨x, hx, hdx⟩ := drop_at (L := l) (i := i) (by omega)
    obtain ⟨i1, o1, h1, h2⟩ := ha.at hx
    have hw2 : IntKind.i64.wrap ((i : Int) + 1) = ((i + 1 : Nat) : Int) := by rw [wrap64 (by omega) (by omega)]; omega
    rw [w_loop_b b_slices_IndexFunc___int_int__0.eq_1, hdx]
    unfold bdx
    by_cases hb : bad x
    · simp only [w_draw, dr_cons, dr_some, dr_none, dr_go, still_no, still_yes, next_no, next_yes, last_cons, last_nil, isStore, calm_no, calm_nil, calm_cons, calmB_some, isCall, freshI, dr_nil, dr_end, still_nil, still_cons, stillB_some, stamp_some, stampV_ptr, stampV_tuple, stampO, still_here, still_here0, List.nil_append, w_out, w_gives, fin_ret, fin_normal, ress_nil, ress_tmp, pack_one, pack_nil, pack_two, entry_nil, entry_one, entry_two, entry_three, entry_four, eq_skip, eq_exit, eq_ret, w_rows, w_done, w_seq, w_normal, w_ret, w_exit, w_cond, w_true, w_false, eq_block, block_normal, block_ret, block_exit, rows_nil, rows_cons, on_some, on_none, row_plain, row_guard, guard_tt, guard_ff, guard_tf, guard_ft, guard_no, ev_tmp, ev_int, ev_bool, ev_string, ev_slice, ev_pointer, ev_map, ev_float, ev_complex, ev_nilIface, ev_nilFunc, ev_func, eget_cons, eget_nil, st_mv, st_pick, v_pick_t, v_pick_f, st_ext, v_ext0, v_ext1, v_ext2, v_ext3, st_int, v_int, int_add, int_sub, int_mul, int_eql, int_neq, int_lss, int_leq, int_gtr, int_geq, st_beq, v_beq, v_bne, st_not, v_not, st_conv, v_conv, st_faddr, v_faddr, st_iaddr, v_iaddr, st_aaddr, v_aaddr, st_nilChk, v_nil, st_len, v_len, v_lenS, st_load, v_load, got_one, got_row, mem_tip, mem_ro, mem_ret, st_alloc, st_box, st_store, v_store, got_store, cells_agg, cells_int, cells_bool, cells_slice, cells_pointer, cells_string, cells_complex, cells_func, one_int, one_bool, one_slice, one_pointer, one_string, one_complex, one_func, upd_push, get_push_self, AHeap.n_push, AHeap.n_upd, st_build, parts_nil, parts_cons, st_bslice, st_append, st_mkfun, st_mkface, st_isNil, st_max, v_max, st_min, v_min, st_field, st_index, st_slice0, v_slice0, v_slice0n, st_slice, kill_nil, st_call, v_call, forget_nil, forget_cons, Option.map_some, Option.map_none, Option.bind_some, List.map_cons, List.map_nil, if_true, if_false, Nat.reduceEqDiff, Int.reduceEq, Nat.reduceAdd, Nat.reduceMul, Bool.not_true, Bool.not_false, reduceCtorEq, decide_true, decide_false, Int.cast_ofNat_Int, eq_self, Int.reduceLT, Int.reduceLE, Int.reduceToNat, Int.toNat_natCast, Int.le_refl, Nat.le_refl, Nat.zero_add, Nat.add_zero, Nat.zero_mul, Nat.mul_one, Nat.mul_zero, and_self, and_true, true_and, List.length_cons, List.length_nil, List.all_cons, List.all_nil, Bool.and_self, Bool.and_true, Bool.true_and, List.take_zero, List.nil_append, List.drop_nil, List.append_nil, List.getElem?_cons_zero, List.getElem?_cons_succ, List.drop_succ_cons, List.drop_zero, List.take_succ_cons, List.cons_append, Nat.reduceLeDiff, hlt, h1, h2, c_side1, hb]
    · obtain ⟨z, e', H', r1, r2, r3⟩ := ih (i + 1) (by omega)
      simp only [w_draw, dr_cons, dr_some, dr_none, dr_go, still_no, still_yes, next_no, next_yes, last_cons, last_nil, isStore, calm_no, calm_nil, calm_cons, calmB_some, isCall, freshI, dr_nil, dr_end, still_nil, still_cons, stillB_some, stamp_some, stampV_ptr, stampV_tuple, stampO, still_here, still_here0, List.nil_append, w_out, w_gives, fin_ret, fin_normal, ress_nil, ress_tmp, pack_one, pack_nil, pack_two, entry_nil, entry_one, entry_two, entry_three, entry_four, eq_skip, eq_exit, eq_ret, w_rows, w_done, w_seq, w_normal, w_ret, w_exit, w_cond, w_true, w_false, eq_block, block_normal, block_ret, block_exit, rows_nil, rows_cons, on_some, on_none, row_plain, row_guard, guard_tt, guard_ff, guard_tf, guard_ft, guard_no, ev_tmp, ev_int, ev_bool, ev_string, ev_slice, ev_pointer, ev_map, ev_float, ev_complex, ev_nilIface, ev_nilFunc, ev_func, eget_cons, eget_nil, st_mv, st_pick, v_pick_t, v_pick_f, st_ext, v_ext0, v_ext1, v_ext2, v_ext3, st_int, v_int, int_add, int_sub, int_mul, int_eql, int_neq, int_lss, int_leq, int_gtr, int_geq, st_beq, v_beq, v_bne, st_not, v_not, st_conv, v_conv, st_faddr, v_faddr, st_iaddr, v_iaddr, st_aaddr, v_aaddr, st_nilChk, v_nil, st_len, v_len, v_lenS, st_load, v_load, got_one, got_row, mem_tip, mem_ro, mem_ret, st_alloc, st_box, st_store, v_store, got_store, cells_agg, cells_int, cells_bool, cells_slice, cells_pointer, cells_string, cells_complex, cells_func, one_int, one_bool, one_slice, one_pointer, one_string, one_complex, one_func, upd_push, get_push_self, AHeap.n_push, AHeap.n_upd, st_build, parts_nil, parts_cons, st_bslice, st_append, st_mkfun, st_mkface, st_isNil, st_max, v_max, st_min, v_min, st_field, st_index, st_slice0, v_slice0, v_slice0n, st_slice, kill_nil, st_call, v_call, forget_nil, forget_cons, Option.map_some, Option.map_none, Option.bind_some, List.map_cons, List.map_nil, if_true, if_false, Nat.reduceEqDiff, Int.reduceEq, Nat.reduceAdd, Nat.reduceMul, Bool.not_true, Bool.not_false, reduceCtorEq, decide_true, decide_false, Int.cast_ofNat_Int, eq_self, Int.reduceLT, Int.reduceLE, Int.reduceToNat, Int.toNat_natCast, Int.le_refl, Nat.le_refl, Nat.zero_add, Nat.add_zero, Nat.zero_mul, Nat.mul_one, Nat.mul_zero, and_self, and_true, true_and, List.length_cons, List.length_nil, List.all_cons, List.all_nil, Bool.and_self, Bool.and_true, Bool.true_and, List.take_zero, List.nil_append, List.drop_nil, List.append_nil, List.getElem?_cons_zero, List.getElem?_cons_succ, List.drop_succ_cons, List.drop_zero, List.take_succ_cons, List.cons_append, Nat.reduceLeDiff, hlt, h1, h2, c_side1, hb, hw2]
      rw [w_enter]
      simp only [w_draw, dr_cons, dr_some, dr_none, dr_go, still_no, still_yes, next_no, next_yes, last_cons, last_nil, isStore, calm_no, calm_nil, calm_cons, calmB_some, isCall, freshI, dr_nil, dr_end, still_nil, still_cons, stillB_some, stamp_some, stampV_ptr, stampV_tuple, stampO, still_here, still_here0, List.nil_append, w_out, w_gives, fin_ret, fin_normal, ress_nil, ress_tmp, pack_one, pack_nil, pack_two, entry_nil, entry_one, entry_two, entry_three, entry_four, eq_skip, eq_exit, eq_ret, w_rows, w_done, w_seq, w_normal, w_ret, w_exit, w_cond, w_true, w_false, eq_block, block_normal, block_ret, block_exit, rows_nil, rows_cons, on_some, on_none, row_plain, row_guard, guard_tt, guard_ff, guard_tf, guard_ft, guard_no, ev_tmp, ev_int, ev_bool, ev_string, ev_slice, ev_pointer, ev_map, ev_float, ev_complex, ev_nilIface, ev_nilFunc, ev_func, eget_cons, eget_nil, st_mv, st_pick, v_pick_t, v_pick_f, st_ext, v_ext0, v_ext1, v_ext2, v_ext3, st_int, v_int, int_add, int_sub, int_mul, int_eql, int_neq, int_lss, int_leq, int_gtr, int_geq, st_beq, v_beq, v_bne, st_not, v_not, st_conv, v_conv, st_faddr, v_faddr, st_iaddr, v_iaddr, st_aaddr, v_aaddr, st_nilChk, v_nil, st_len, v_len, v_lenS, st_load, v_load, got_one, got_row, mem_tip, mem_ro, mem_ret, st_alloc, st_box, st_store, v_store, got_store, cells_agg, cells_int, cells_bool, cells_slice, cells_pointer, cells_string, cells_complex, cells_func, one_int, one_bool, one_slice, one_pointer, one_string, one_complex, one_func, upd_push, get_push_self, AHeap.n_push, AHeap.n_upd, st_build, parts_nil, parts_cons, st_bslice, st_append, st_mkfun, st_mkface, st_isNil, st_max, v_max, st_min, v_min, st_field, st_index, st_slice0, v_slice0, v_slice0n, st_slice, kill_nil, st_call, v_call, forget_nil, forget_cons, Option.map_some, Option.map_none, Option.bind_some, List.map_cons, List.map_nil, if_true, if_false, Nat.reduceEqDiff, Int.reduceEq, Nat.reduceAdd, Nat.reduceMul, Bool.not_true, Bool.not_false, reduceCtorEq, decide_true, decide_false, Int.cast_ofNat_Int, eq_self, Int.reduceLT, Int.reduceLE, Int.reduceToNat, Int.toNat_natCast, Int.le_refl, Nat.le_refl, Nat.zero_add, Nat.add_zero, Nat.zero_mul, Nat.mul_one, Nat.mul_zero, and_self, and_true, true_and, List.length_cons, List.length_nil, List.all_cons, List.all_nil, Bool.and_self, Bool.and_true, Bool.true_and, List.take_zero, List.nil_append, List.drop_nil, List.append_nil, List.getElem?_cons_zero, List.getElem?_cons_succ, List.drop_succ_cons, List.drop_zero, List.take_succ_cons, List.cons_append, Nat.reduceLeDiff, r1]
      exact ⟨r2, r3⟩
theorem c_IdxI {a : Value} {l : List Int} {H : AHeap} (ha : Ints H a l) (hs : tiny l) : cw Try.prog (tabF tab) om1 33 [a, .func (.func 29) ⟨[]⟩ ⟨[]⟩] H = some (.int .i64 (match bdx l 0 with | some j => (j : Int) | none => -1), H) := by
  rw [cw_run (F := F_slices_IndexFunc___int_int_) rfl rfl rfl]
  unfold F_slices_IndexFunc___int_int_ k_slices_IndexFunc___int_int_
  obtain ⟨x, e', H', r1, rfl, r3⟩ := l_IdxI ha hs l.length 0 (by omega)
  simp only [Int.cast_ofNat_Int] at r1
  simp only [w_draw, dr_cons, dr_some, dr_none, dr_go, still_no, still_yes, next_no, next_yes, last_cons, last_nil, isStore, calm_no, calm_nil, calm_cons, calmB_some, isCall, freshI, dr_nil, dr_end, still_nil, still_cons, stillB_some, stamp_some, stampV_ptr, stampV_tuple, stampO, still_here, still_here0, List.nil_append, w_out, w_gives, fin_ret, fin_normal, ress_nil, ress_tmp, pack_one, pack_nil, pack_two, entry_nil, entry_one, entry_two, entry_three, entry_four, eq_skip, eq_exit, eq_ret, w_rows, w_done, w_seq, w_normal, w_ret, w_exit, w_cond, w_true, w_false, eq_block, block_normal, block_ret, block_exit, rows_nil, rows_cons, on_some, on_none, row_plain, row_guard, guard_tt, guard_ff, guard_tf, guard_ft, guard_no, ev_tmp, ev_int, ev_bool, ev_string, ev_slice, ev_pointer, ev_map, ev_float, ev_complex, ev_nilIface, ev_nilFunc, ev_func, eget_cons, eget_nil, st_mv, st_pick, v_pick_t, v_pick_f, st_ext, v_ext0, v_ext1, v_ext2, v_ext3, st_int, v_int, int_add, int_sub, int_mul, int_eql, int_neq, int_lss, int_leq, int_gtr, int_geq, st_beq, v_beq, v_bne, st_not, v_not, st_conv, v_conv, st_faddr, v_faddr, st_iaddr, v_iaddr, st_aaddr, v_aaddr, st_nilChk, v_nil, st_len, v_len, v_lenS, st_load, v_load, got_one, got_row, mem_tip, mem_ro, mem_ret, st_alloc, st_box, st_store, v_store, got_store, cells_agg, cells_int, cells_bool, cells_slice, cells_pointer, cells_string, cells_complex, cells_func, one_int, one_bool, one_slice, one_pointer, one_string, one_complex, one_func, upd_push, get_push_self, AHeap.n_push, AHeap.n_upd, st_build, parts_nil, parts_cons, st_bslice, st_append, st_mkfun, st_mkface, st_isNil, st_max, v_max, st_min, v_min, st_field, st_index, st_slice0, v_slice0, v_slice0n, st_slice, kill_nil, st_call, v_call, forget_nil, forget_cons, Option.map_some, Option.map_none, Option.bind_some, List.map_cons, List.map_nil, if_true, if_false, Nat.reduceEqDiff, Int.reduceEq, Nat.reduceAdd, Nat.reduceMul, Bool.not_true, Bool.not_false, reduceCtorEq, decide_true, decide_false, Int.cast_ofNat_Int, eq_self, Int.reduceLT, Int.reduceLE, Int.reduceToNat, Int.toNat_natCast, Int.le_refl, Nat.le_refl, Nat.zero_add, Nat.add_zero, Nat.zero_mul, Nat.mul_one, Nat.mul_zero, and_self, and_true, true_and, List.length_cons, List.length_nil, List.all_cons, List.all_nil, Bool.and_self, Bool.and_true, Bool.true_and, List.take_zero, List.nil_append, List.drop_nil, List.append_nil, List.getElem?_cons_zero, List.getElem?_cons_succ, List.drop_succ_cons, List.drop_zero, List.take_succ_cons, List.cons_append, Nat.reduceLeDiff, ha.len]
  rw [w_enter]
  simp only [w_draw, dr_cons, dr_some, dr_none, dr_go, still_no, still_yes, next_no, next_yes, last_cons, last_nil, isStore, calm_no, calm_nil, calm_cons, calmB_some, isCall, freshI, dr_nil, dr_end, still_nil, still_cons, stillB_some, stamp_some, stampV_ptr, stampV_tuple, stampO, still_here, still_here0, List.nil_append, w_out, w_gives, fin_ret, fin_normal, ress_nil, ress_tmp, pack_one, pack_nil, pack_two, entry_nil, entry_one, entry_two, entry_three, entry_four, eq_skip, eq_exit, eq_ret, w_rows, w_done, w_seq, w_normal, w_ret, w_exit, w_cond, w_true, w_false, eq_block, block_normal, block_ret, block_exit, rows_nil, rows_cons, on_some, on_none, row_plain, row_guard, guard_tt, guard_ff, guard_tf, guard_ft, guard_no, ev_tmp, ev_int, ev_bool, ev_string, ev_slice, ev_pointer, ev_map, ev_float, ev_complex, ev_nilIface, ev_nilFunc, ev_func, eget_cons, eget_nil, st_mv, st_pick, v_pick_t, v_pick_f, st_ext, v_ext0, v_ext1, v_ext2, v_ext3, st_int, v_int, int_add, int_sub, int_mul, int_eql, int_neq, int_lss, int_leq, int_gtr, int_geq, st_beq, v_beq, v_bne, st_not, v_not, st_conv, v_conv, st_faddr, v_faddr, st_iaddr, v_iaddr, st_aaddr, v_aaddr, st_nilChk, v_nil, st_len, v_len, v_lenS, st_load, v_load, got_one, got_row, mem_tip, mem_ro, mem_ret, st_alloc, st_box, st_store, v_store, got_store, cells_agg, cells_int, cells_bool, cells_slice, cells_pointer, cells_string, cells_complex, cells_func, one_int, one_bool, one_slice, one_pointer, one_string, one_complex, one_func, upd_push, get_push_self, AHeap.n_push, AHeap.n_upd, st_build, parts_nil, parts_cons, st_bslice, st_append, st_mkfun, st_mkface, st_isNil, st_max, v_max, st_min, v_min, st_field, st_index, st_slice0, v_slice0, v_slice0n, st_slice, kill_nil, st_call, v_call, forget_nil, forget_cons, Option.map_some, Option.map_none, Option.bind_some, List.map_cons, List.map_nil, if_true, if_false, Nat.reduceEqDiff, Int.reduceEq, Nat.reduceAdd, Nat.reduceMul, Bool.not_true, Bool.not_false, reduceCtorEq, decide_true, decide_false, Int.cast_ofNat_Int, eq_self, Int.reduceLT, Int.reduceLE, Int.reduceToNat, Int.toNat_natCast, Int.le_refl, Nat.le_refl, Nat.zero_add, Nat.add_zero, Nat.zero_mul, Nat.mul_one, Nat.mul_zero, and_self, and_true, true_and, List.length_cons, List.length_nil, List.all_cons, List.all_nil, Bool.and_self, Bool.and_true, Bool.true_and, List.take_zero, List.nil_append, List.drop_nil, List.append_nil, List.getElem?_cons_zero, List.getElem?_cons_succ, List.drop_succ_cons, List.drop_zero, List.take_succ_cons, List.cons_append, Nat.reduceLeDiff, r1]
  rw [List.drop_zero] at r3
  cases hb : bdx l 0 with
  | none =>
    rw [hb] at r3
    subst r3
    simp only [w_draw, dr_cons, dr_some, dr_none, dr_go, still_no, still_yes, next_no, next_yes, last_cons, last_nil, isStore, calm_no, calm_nil, calm_cons, calmB_some, isCall, freshI, dr_nil, dr_end, still_nil, still_cons, stillB_some, stamp_some, stampV_ptr, stampV_tuple, stampO, still_here, still_here0, List.nil_append, w_out, w_gives, fin_ret, fin_normal, ress_nil, ress_tmp, pack_one, pack_nil, pack_two, entry_nil, entry_one, entry_two, entry_three, entry_four, eq_skip, eq_exit, eq_ret, w_rows, w_done, w_seq, w_normal, w_ret, w_exit, w_cond, w_true, w_false, eq_block, block_normal, block_ret, block_exit, rows_nil, rows_cons, on_some, on_none, row_plain, row_guard, guard_tt, guard_ff, guard_tf, guard_ft, guard_no, ev_tmp, ev_int, ev_bool, ev_string, ev_slice, ev_pointer, ev_map, ev_float, ev_complex, ev_nilIface, ev_nilFunc, ev_func, eget_cons, eget_nil, st_mv, st_pick, v_pick_t, v_pick_f, st_ext, v_ext0, v_ext1, v_ext2, v_ext3, st_int, v_int, int_add, int_sub, int_mul, int_eql, int_neq, int_lss, int_leq, int_gtr, int_geq, st_beq, v_beq, v_bne, st_not, v_not, st_conv, v_conv, st_faddr, v_faddr, st_iaddr, v_iaddr, st_aaddr, v_aaddr, st_nilChk, v_nil, st_len, v_len, v_lenS, st_load, v_load, got_one, got_row, mem_tip, mem_ro, mem_ret, st_alloc, st_box, st_store, v_store, got_store, cells_agg, cells_int, cells_bool, cells_slice, cells_pointer, cells_string, cells_complex, cells_func, one_int, one_bool, one_slice, one_pointer, one_string, one_complex, one_func, upd_push, get_push_self, AHeap.n_push, AHeap.n_upd, st_build, parts_nil, parts_cons, st_bslice, st_append, st_mkfun, st_mkface, st_isNil, st_max, v_max, st_min, v_min, st_field, st_index, st_slice0, v_slice0, v_slice0n, st_slice, kill_nil, st_call, v_call, forget_nil, forget_cons, Option.map_some, Option.map_none, Option.bind_some, List.map_cons, List.map_nil, if_true, if_false, Nat.reduceEqDiff, Int.reduceEq, Nat.reduceAdd, Nat.reduceMul, Bool.not_true, Bool.not_false, reduceCtorEq, decide_true, decide_false, Int.cast_ofNat_Int, eq_self, Int.reduceLT, Int.reduceLE, Int.reduceToNat, Int.toNat_natCast, Int.le_refl, Nat.le_refl, Nat.zero_add, Nat.add_zero, Nat.zero_mul, Nat.mul_one, Nat.mul_zero, and_self, and_true, true_and, List.length_cons, List.length_nil, List.all_cons, List.all_nil, Bool.and_self, Bool.and_true, Bool.true_and, List.take_zero, List.nil_append, List.drop_nil, List.append_nil, List.getElem?_cons_zero, List.getElem?_cons_succ, List.drop_succ_cons, List.drop_zero, List.take_succ_cons, List.cons_append, Nat.reduceLeDiff]
  | some j =>
    rw [hb] at r3
    obtain ⟨rfl, r4⟩ := r3
    simp only [w_draw, dr_cons, dr_some, dr_none, dr_go, still_no, still_yes, next_no, next_yes, last_cons, last_nil, isStore, calm_no, calm_nil, calm_cons, calmB_some, isCall, freshI, dr_nil, dr_end, still_nil, still_cons, stillB_some, stamp_some, stampV_ptr, stampV_tuple, stampO, still_here, still_here0, List.nil_append, w_out, w_gives, fin_ret, fin_normal, ress_nil, ress_tmp, pack_one, pack_nil, pack_two, entry_nil, entry_one, entry_two, entry_three, entry_four, eq_skip, eq_exit, eq_ret, w_rows, w_done, w_seq, w_normal, w_ret, w_exit, w_cond, w_true, w_false, eq_block, block_normal, block_ret, block_exit, rows_nil, rows_cons, on_some, on_none, row_plain, row_guard, guard_tt, guard_ff, guard_tf, guard_ft, guard_no, ev_tmp, ev_int, ev_bool, ev_string, ev_slice, ev_pointer, ev_map, ev_float, ev_complex, ev_nilIface, ev_nilFunc, ev_func, eget_cons, eget_nil, st_mv, st_pick, v_pick_t, v_pick_f, st_ext, v_ext0, v_ext1, v_ext2, v_ext3, st_int, v_int, int_add, int_sub, int_mul, int_eql, int_neq, int_lss, int_leq, int_gtr, int_geq, st_beq, v_beq, v_bne, st_not, v_not, st_conv, v_conv, st_faddr, v_faddr, st_iaddr, v_iaddr, st_aaddr, v_aaddr, st_nilChk, v_nil, st_len, v_len, v_lenS, st_load, v_load, got_one, got_row, mem_tip, mem_ro, mem_ret, st_alloc, st_box, st_store, v_store, got_store, cells_agg, cells_int, cells_bool, cells_slice, cells_pointer, cells_string, cells_complex, cells_func, one_int, one_bool, one_slice, one_pointer, one_string, one_complex, one_func, upd_push, get_push_self, AHeap.n_push, AHeap.n_upd, st_build, parts_nil, parts_cons, st_bslice, st_append, st_mkfun, st_mkface, st_isNil, st_max, v_max, st_min, v_min, st_field, st_index, st_slice0, v_slice0, v_slice0n, st_slice, kill_nil, st_call, v_call, forget_nil, forget_cons, Option.map_some, Option.map_none, Option.bind_some, List.map_cons, List.map_nil, if_true, if_false, Nat.reduceEqDiff, Int.reduceEq, Nat.reduceAdd, Nat.reduceMul, Bool.not_true, Bool.not_false, reduceCtorEq, decide_true, decide_false, Int.cast_ofNat_Int, eq_self, Int.reduceLT, Int.reduceLE, Int.reduceToNat, Int.toNat_natCast, Int.le_refl, Nat.le_refl, Nat.zero_add, Nat.add_zero, Nat.zero_mul, Nat.mul_one, Nat.mul_zero, and_self, and_true, true_and, List.length_cons, List.length_nil, List.all_cons, List.all_nil, Bool.and_self, Bool.and_true, Bool.true_and, List.take_zero, List.nil_append, List.drop_nil, List.append_nil, List.getElem?_cons_zero, List.getElem?_cons_succ, List.drop_succ_cons, List.drop_zero, List.take_succ_cons, List.cons_append, Nat.reduceLeDiff, r4]
theorem c_Contains {a : Value} {l : List Int} {H : AHeap} (ha : Ints H a l) (hs : tiny l) : cw Try.prog (tabF tab) om1 28 [a, .func (.func 29) ⟨[]⟩ ⟨[]⟩] H = some (.bool (bdx l 0).isSome, H) := by
  rw [cw_run (F := F_slices_ContainsFunc___int_int_) rfl rfl rfl]
  unfold F_slices_ContainsFunc___int_int_ k_slices_ContainsFunc___int_int_
  have c := c_IdxI ha hs
  cases hb : bdx l 0 with
  | none =>
    rw [hb] at c
    have h0 : ¬ (-1 : Int) ≥ 0 := by decide
    simp only [w_draw, dr_cons, dr_some, dr_none, dr_go, still_no, still_yes, next_no, next_yes, last_cons, last_nil, isStore, calm_no, calm_nil, calm_cons, calmB_some, isCall, freshI, dr_nil, dr_end, still_nil, still_cons, stillB_some, stamp_some, stampV_ptr, stampV_tuple, stampO, still_here, still_here0, List.nil_append, w_out, w_gives, fin_ret, fin_normal, ress_nil, ress_tmp, pack_one, pack_nil, pack_two, entry_nil, entry_one, entry_two, entry_three, entry_four, eq_skip, eq_exit, eq_ret, w_rows, w_done, w_seq, w_normal, w_ret, w_exit, w_cond, w_true, w_false, eq_block, block_normal, block_ret, block_exit, rows_nil, rows_cons, on_some, on_none, row_plain, row_guard, guard_tt, guard_ff, guard_tf, guard_ft, guard_no, ev_tmp, ev_int, ev_bool, ev_string, ev_slice, ev_pointer, ev_map, ev_float, ev_complex, ev_nilIface, ev_nilFunc, ev_func, eget_cons, eget_nil, st_mv, st_pick, v_pick_t, v_pick_f, st_ext, v_ext0, v_ext1, v_ext2, v_ext3, st_int, v_int, int_add, int_sub, int_mul, int_eql, int_neq, int_lss, int_leq, int_gtr, int_geq, st_beq, v_beq, v_bne, st_not, v_not, st_conv, v_conv, st_faddr, v_faddr, st_iaddr, v_iaddr, st_aaddr, v_aaddr, st_nilChk, v_nil, st_len, v_len, v_lenS, st_load, v_load, got_one, got_row, mem_tip, mem_ro, mem_ret, st_alloc, st_box, st_store, v_store, got_store, cells_agg, cells_int, cells_bool, cells_slice, cells_pointer, cells_string, cells_complex, cells_func, one_int, one_bool, one_slice, one_pointer, one_string, one_complex, one_func, upd_push, get_push_self, AHeap.n_push, AHeap.n_upd, st_build, parts_nil, parts_cons, st_bslice, st_append, st_mkfun, st_mkface, st_isNil, st_max, v_max, st_min, v_min, st_field, st_index, st_slice0, v_slice0, v_slice0n, st_slice, kill_nil, st_call, v_call, forget_nil, forget_cons, Option.map_some, Option.map_none, Option.bind_some, List.map_cons, List.map_nil, if_true, if_false, Nat.reduceEqDiff, Int.reduceEq, Nat.reduceAdd, Nat.reduceMul, Bool.not_true, Bool.not_false, reduceCtorEq, decide_true, decide_false, Int.cast_ofNat_Int, eq_self, Int.reduceLT, Int.reduceLE, Int.reduceToNat, Int.toNat_natCast, Int.le_refl, Nat.le_refl, Nat.zero_add, Nat.add_zero, Nat.zero_mul, Nat.mul_one, Nat.mul_zero, and_self, and_true, true_and, List.length_cons, List.length_nil, List.all_cons, List.all_nil, Bool.and_self, Bool.and_true, Bool.true_and, List.take_zero, List.nil_append, List.drop_nil, List.append_nil, List.getElem?_cons_zero, List.getElem?_cons_succ, List.drop_succ_cons, List.drop_zero, List.take_succ_cons, List.cons_append, Nat.reduceLeDiff, c, h0, Option.isSome_none]
  | some j =>
    rw [hb] at c
    have h0 : (j : Int) ≥ 0 := by omega
    simp only [w_draw, dr_cons, dr_some, dr_none, dr_go, still_no, still_yes, next_no, next_yes, last_cons, last_nil, isStore, calm_no, calm_nil, calm_cons, calmB_some, isCall, freshI, dr_nil, dr_end, still_nil, still_cons, stillB_some, stamp_some, stampV_ptr, stampV_tuple, stampO, still_here, still_here0, List.nil_append, w_out, w_gives, fin_ret, fin_normal, ress_nil, ress_tmp, pack_one, pack_nil, pack_two, entry_nil, entry_one, entry_two, entry_three, entry_four, eq_skip, eq_exit, eq_ret, w_rows, w_done, w_seq, w_normal, w_ret, w_exit, w_cond, w_true, w_false, eq_block, block_normal, block_ret, block_exit, rows_nil, rows_cons, on_some, on_none, row_plain, row_guard, guard_tt, guard_ff, guard_tf, guard_ft, guard_no, ev_tmp, ev_int, ev_bool, ev_string, ev_slice, ev_pointer, ev_map, ev_float, ev_complex, ev_nilIface, ev_nilFunc, ev_func, eget_cons, eget_nil, st_mv, st_pick, v_pick_t, v_pick_f, st_ext, v_ext0, v_ext1, v_ext2, v_ext3, st_int, v_int, int_add, int_sub, int_mul, int_eql, int_neq, int_lss, int_leq, int_gtr, int_geq, st_beq, v_beq, v_bne, st_not, v_not, st_conv, v_conv, st_faddr, v_faddr, st_iaddr, v_iaddr, st_aaddr, v_aaddr, st_nilChk, v_nil, st_len, v_len, v_lenS, st_load, v_load, got_one, got_row, mem_tip, mem_ro, mem_ret, st_alloc, st_box, st_store, v_store, got_store, cells_agg, cells_int, cells_bool, cells_slice, cells_pointer, cells_string, cells_complex, cells_func, one_int, one_bool, one_slice, one_pointer, one_string, one_complex, one_func, upd_push, get_push_self, AHeap.n_push, AHeap.n_upd, st_build, parts_nil, parts_cons, st_bslice, st_append, st_mkfun, st_mkface, st_isNil, st_max, v_max, st_min, v_min, st_field, st_index, st_slice0, v_slice0, v_slice0n, st_slice, kill_nil, st_call, v_call, forget_nil, forget_cons, Option.map_some, Option.map_none, Option.bind_some, List.map_cons, List.map_nil, if_true, if_false, Nat.reduceEqDiff, Int.reduceEq, Nat.reduceAdd, Nat.reduceMul, Bool.not_true, Bool.not_false, reduceCtorEq, decide_true, decide_false, Int.cast_ofNat_Int, eq_self, Int.reduceLT, Int.reduceLE, Int.reduceToNat, Int.toNat_natCast, Int.le_refl, Nat.le_refl, Nat.zero_add, Nat.add_zero, Nat.zero_mul, Nat.mul_one, Nat.mul_zero, and_self, and_true, true_and, List.length_cons, List.length_nil, List.all_cons, List.all_nil, Bool.and_self, Bool.and_true, Bool.true_and, List.take_zero, List.nil_append, List.drop_nil, List.append_nil, List.getElem?_cons_zero, List.getElem?_cons_succ, List.drop_succ_cons, List.drop_zero, List.take_succ_cons, List.cons_append, Nat.reduceLeDiff, c, h0, Option.isSome_some]
theorem c_side {a : Value} {l : List Int} {H : AHeap} (ha : Ints H a l) (hs : tiny l) : cw Try.prog (tabF tab) om1 26 [a] H = some (.bool (sideB l), H) := by
  rw [cw_run (F := F_rule_side) rfl rfl rfl]
  unfold F_rule_side k_rule_side sideB
  have c := c_Contains ha hs
  by_cases h1 : 0 < l.length
  · have h1' : (l.length : Int) > 0 := by omega
    by_cases h2 : l.length ≤ 8
    · have h2' : (l.length : Int) ≤ 8 := by omega
      simp only [w_draw, dr_cons, dr_some, dr_none, dr_go, still_no, still_yes, next_no, next_yes, last_cons, last_nil, isStore, calm_no, calm_nil, calm_cons, calmB_some, isCall, freshI, dr_nil, dr_end, still_nil, still_cons, stillB_some, stamp_some, stampV_ptr, stampV_tuple, stampO, still_here, still_here0, List.nil_append, w_out, w_gives, fin_ret, fin_normal, ress_nil, ress_tmp, pack_one, pack_nil, pack_two, entry_nil, entry_one, entry_two, entry_three, entry_four, eq_skip, eq_exit, eq_ret, w_rows, w_done, w_seq, w_normal, w_ret, w_exit, w_cond, w_true, w_false, eq_block, block_normal, block_ret, block_exit, rows_nil, rows_cons, on_some, on_none, row_plain, row_guard, guard_tt, guard_ff, guard_tf, guard_ft, guard_no, ev_tmp, ev_int, ev_bool, ev_string, ev_slice, ev_pointer, ev_map, ev_float, ev_complex, ev_nilIface, ev_nilFunc, ev_func, eget_cons, eget_nil, st_mv, st_pick, v_pick_t, v_pick_f, st_ext, v_ext0, v_ext1, v_ext2, v_ext3, st_int, v_int, int_add, int_sub, int_mul, int_eql, int_neq, int_lss, int_leq, int_gtr, int_geq, st_beq, v_beq, v_bne, st_not, v_not, st_conv, v_conv, st_faddr, v_faddr, st_iaddr, v_iaddr, st_aaddr, v_aaddr, st_nilChk, v_nil, st_len, v_len, v_lenS, st_load, v_load, got_one, got_row, mem_tip, mem_ro, mem_ret, st_alloc, st_box, st_store, v_store, got_store, cells_agg, cells_int, cells_bool, cells_slice, cells_pointer, cells_string, cells_complex, cells_func, one_int, one_bool, one_slice, one_pointer, one_string, one_complex, one_func, upd_push, get_push_self, AHeap.n_push, AHeap.n_upd, st_build, parts_nil, parts_cons, st_bslice, st_append, st_mkfun, st_mkface, st_isNil, st_max, v_max, st_min, v_min, st_field, st_index, st_slice0, v_slice0, v_slice0n, st_slice, kill_nil, st_call, v_call, forget_nil, forget_cons, Option.map_some, Option.map_none, Option.bind_some, List.map_cons, List.map_nil, if_true, if_false, Nat.reduceEqDiff, Int.reduceEq, Nat.reduceAdd, Nat.reduceMul, Bool.not_true, Bool.not_false, reduceCtorEq, decide_true, decide_false, Int.cast_ofNat_Int, eq_self, Int.reduceLT, Int.reduceLE, Int.reduceToNat, Int.toNat_natCast, Int.le_refl, Nat.le_refl, Nat.zero_add, Nat.add_zero, Nat.zero_mul, Nat.mul_one, Nat.mul_zero, and_self, and_true, true_and, List.length_cons, List.length_nil, List.all_cons, List.all_nil, Bool.and_self, Bool.and_true, Bool.true_and, List.take_zero, List.nil_append, List.drop_nil, List.append_nil, List.getElem?_cons_zero, List.getElem?_cons_succ, List.drop_succ_cons, List.drop_zero, List.take_succ_cons, List.cons_append, Nat.reduceLeDiff, ha.len, h1, h2, h1', h2', c]
      cases bdx l 0 <;> rfl
    · have h2' : ¬ (l.length : Int) ≤ 8 := by omega
      simp only [w_draw, dr_cons, dr_some, dr_none, dr_go, still_no, still_yes, next_no, next_yes, last_cons, last_nil, isStore, calm_no, calm_nil, calm_cons, calmB_some, isCall, freshI, dr_nil, dr_end, still_nil, still_cons, stillB_some, stamp_some, stampV_ptr, stampV_tuple, stampO, still_here, still_here0, List.nil_append, w_out, w_gives, fin_ret, fin_normal, ress_nil, ress_tmp, pack_one, pack_nil, pack_two, entry_nil, entry_one, entry_two, entry_three, entry_four, eq_skip, eq_exit, eq_ret, w_rows, w_done, w_seq, w_normal, w_ret, w_exit, w_cond, w_true, w_false, eq_block, block_normal, block_ret, block_exit, rows_nil, rows_cons, on_some, on_none, row_plain, row_guard, guard_tt, guard_ff, guard_tf, guard_ft, guard_no, ev_tmp, ev_int, ev_bool, ev_string, ev_slice, ev_pointer, ev_map, ev_float, ev_complex, ev_nilIface, ev_nilFunc, ev_func, eget_cons, eget_nil, st_mv, st_pick, v_pick_t, v_pick_f, st_ext, v_ext0, v_ext1, v_ext2, v_ext3, st_int, v_int, int_add, int_sub, int_mul, int_eql, int_neq, int_lss, int_leq, int_gtr, int_geq, st_beq, v_beq, v_bne, st_not, v_not, st_conv, v_conv, st_faddr, v_faddr, st_iaddr, v_iaddr, st_aaddr, v_aaddr, st_nilChk, v_nil, st_len, v_len, v_lenS, st_load, v_load, got_one, got_row, mem_tip, mem_ro, mem_ret, st_alloc, st_box, st_store, v_store, got_store, cells_agg, cells_int, cells_bool, cells_slice, cells_pointer, cells_string, cells_complex, cells_func, one_int, one_bool, one_slice, one_pointer, one_string, one_complex, one_func, upd_push, get_push_self, AHeap.n_push, AHeap.n_upd, st_build, parts_nil, parts_cons, st_bslice, st_append, st_mkfun, st_mkface, st_isNil, st_max, v_max, st_min, v_min, st_field, st_index, st_slice0, v_slice0, v_slice0n, st_slice, kill_nil, st_call, v_call, forget_nil, forget_cons, Option.map_some, Option.map_none, Option.bind_some, List.map_cons, List.map_nil, if_true, if_false, Nat.reduceEqDiff, Int.reduceEq, Nat.reduceAdd, Nat.reduceMul, Bool.not_true, Bool.not_false, reduceCtorEq, decide_true, decide_false, Int.cast_ofNat_Int, eq_self, Int.reduceLT, Int.reduceLE, Int.reduceToNat, Int.toNat_natCast, Int.le_refl, Nat.le_refl, Nat.zero_add, Nat.add_zero, Nat.zero_mul, Nat.mul_one, Nat.mul_zero, and_self, and_true, true_and, List.length_cons, List.length_nil, List.all_cons, List.all_nil, Bool.and_self, Bool.and_true, Bool.true_and, List.take_zero, List.nil_append, List.drop_nil, List.append_nil, List.getElem?_cons_zero, List.getElem?_cons_succ, List.drop_succ_cons, List.drop_zero, List.take_succ_cons, List.cons_append, Nat.reduceLeDiff, ha.len, h1, h2, h1', h2', c, Bool.and_false, Bool.false_and]
  · have h1' : ¬ (l.length : Int) > 0 := by omega
    simp only [w_draw, dr_cons, dr_some, dr_none, dr_go, still_no, still_yes, next_no, next_yes, last_cons, last_nil, isStore, calm_no, calm_nil, calm_cons, calmB_some, isCall, freshI, dr_nil, dr_end, still_nil, still_cons, stillB_some, stamp_some, stampV_ptr, stampV_tuple, stampO, still_here, still_here0, List.nil_append, w_out, w_gives, fin_ret, fin_normal, ress_nil, ress_tmp, pack_one, pack_nil, pack_two, entry_nil, entry_one, entry_two, entry_three, entry_four, eq_skip, eq_exit, eq_ret, w_rows, w_done, w_seq, w_normal, w_ret, w_exit, w_cond, w_true, w_false, eq_block, block_normal, block_ret, block_exit, rows_nil, rows_cons, on_some, on_none, row_plain, row_guard, guard_tt, guard_ff, guard_tf, guard_ft, guard_no, ev_tmp, ev_int, ev_bool, ev_string, ev_slice, ev_pointer, ev_map, ev_float, ev_complex, ev_nilIface, ev_nilFunc, ev_func, eget_cons, eget_nil, st_mv, st_pick, v_pick_t, v_pick_f, st_ext, v_ext0, v_ext1, v_ext2, v_ext3, st_int, v_int, int_add, int_sub, int_mul, int_eql, int_neq, int_lss, int_leq, int_gtr, int_geq, st_beq, v_beq, v_bne, st_not, v_not, st_conv, v_conv, st_faddr, v_faddr, st_iaddr, v_iaddr, st_aaddr, v_aaddr, st_nilChk, v_nil, st_len, v_len, v_lenS, st_load, v_load, got_one, got_row, mem_tip, mem_ro, mem_ret, st_alloc, st_box, st_store, v_store, got_store, cells_agg, cells_int, cells_bool, cells_slice, cells_pointer, cells_string, cells_complex, cells_func, one_int, one_bool, one_slice, one_pointer, one_string, one_complex, one_func, upd_push, get_push_self, AHeap.n_push, AHeap.n_upd, st_build, parts_nil, parts_cons, st_bslice, st_append, st_mkfun, st_mkface, st_isNil, st_max, v_max, st_min, v_min, st_field, st_index, st_slice0, v_slice0, v_slice0n, st_slice, kill_nil, st_call, v_call, forget_nil, forget_cons, Option.map_some, Option.map_none, Option.bind_some, List.map_cons, List.map_nil, if_true, if_false, Nat.reduceEqDiff, Int.reduceEq, Nat.reduceAdd, Nat.reduceMul, Bool.not_true, Bool.not_false, reduceCtorEq, decide_true, decide_false, Int.cast_ofNat_Int, eq_self, Int.reduceLT, Int.reduceLE, Int.reduceToNat, Int.toNat_natCast, Int.le_refl, Nat.le_refl, Nat.zero_add, Nat.add_zero, Nat.zero_mul, Nat.mul_one, Nat.mul_zero, and_self, and_true, true_and, List.length_cons, List.length_nil, List.all_cons, List.all_nil, Bool.and_self, Bool.and_true, Bool.true_and, List.take_zero, List.nil_append, List.drop_nil, List.append_nil, List.getElem?_cons_zero, List.getElem?_cons_succ, List.drop_succ_cons, List.drop_zero, List.take_succ_cons, List.cons_append, Nat.reduceLeDiff, ha.len, h1, h1', c, Bool.and_false, Bool.false_and]
end Go.Proofs.Ytjicdpkgcofiaaa

