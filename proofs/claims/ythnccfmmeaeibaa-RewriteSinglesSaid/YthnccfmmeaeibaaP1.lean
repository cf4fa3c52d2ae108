/- What is proved here: what the program's functions come to, as far as the claimed statement asks. Conditions: those that each theorem names, and no others. -/
import Derived.Test.YthnccfmmeaeibaaLonW
import Derived.Test.YthnccfmmeaeibaaRows
import Derived.Test.YthnccfmmeaeibaaLonZl
import Derived.Test.YthnccfmmeaeibaaLonZg
/-! The functions in the interpreter's form. Written by program. -/
set_option linter.unusedSimpArgs false
namespace Go.Proofs.Ythnccfmmeaeibaa
open Go Lon

-- lontar/lontarlaw05.RewriteAll
@[reducible] def i_lontarlaw05_RewriteAll : Nat := 3
def k_lontarlaw05_RewriteAll : ACode :=
 (.seq (.ops [⟨(some 6), .mv (.const (.bool false)), none⟩])
 (.seq (.seq (.ops [⟨(some 10), .call (.func 14) [], none⟩,
   ⟨(some 11), .not (.tmp 10), none⟩])
 (.cond (.tmp 11)
  (.seq (.ops [⟨(some 6), .mv (.const (.bool false)), none⟩])
  .ret)
  .skip))
 (.seq (.ops [⟨(some 12), .mv (.tmp 0), none⟩,
   ⟨(some 13), .call (.func 15) [(.tmp 12)], none⟩,
   ⟨(some 7), .mv (.tmp 13), none⟩])
 (.seq (.ops [⟨(some 15), .mv (.tmp 7), none⟩,
   ⟨(some 16), .call (.func 16) [(.tmp 15)], none⟩,
   ⟨(some 14), .mv (.tmp 16), none⟩,
   ⟨(some 17), .ext (.tmp 14) 0, none⟩,
   ⟨(some 18), .ext (.tmp 14) 1, none⟩,
   ⟨(some 8), .mv (.tmp 17), none⟩,
   ⟨(some 9), .mv (.tmp 18), none⟩])
 (.seq (.seq (.ops [⟨(some 19), .mv (.tmp 8), none⟩,
   ⟨(some 20), .isNil 0 false (.tmp 19), none⟩,
   ⟨(some 21), .mv (.tmp 20), none⟩,
   ⟨(some 22), .mv (.tmp 9), some (21, false)⟩,
   ⟨(some 23), .int .neq (.tmp 22) (.const (.int .i64 0)), some (21, false)⟩,
   ⟨(some 24), .pick (.tmp 21) (.const (.bool true)) (.tmp 23), none⟩])
 (.cond (.tmp 24)
  (.seq (.ops [⟨(some 6), .mv (.const (.bool false)), none⟩])
  .ret)
  .skip))
 (.seq (.ops [⟨(some 25), .mv (.tmp 2), none⟩,
   ⟨(some 26), .mv (.tmp 2), none⟩,
   ⟨(some 27), .len false (.tmp 26), none⟩,
   ⟨(some 28), .min2 (.tmp 27) (.const (.int .i64 60)), none⟩,
   ⟨(some 29), .slice (.tmp 25) none (some (.tmp 28)) 1, none⟩,
   ⟨(some 2), .mv (.tmp 29), none⟩])
 (.seq (.ops [⟨(some 30), .mv (.tmp 8), none⟩,
   ⟨(some 31), .mv (.tmp 1), none⟩,
   ⟨(some 32), .call (.func 19) [(.tmp 31)], none⟩,
   ⟨(some 33), .call (.func 18) [(.tmp 30), (.tmp 32)], none⟩,
   ⟨(some 34), .mv (.tmp 7), none⟩,
   ⟨(some 35), .mv (.tmp 1), none⟩,
   ⟨(some 36), .call (.func 19) [(.tmp 35)], none⟩,
   ⟨(some 37), .call (.func 20) [(.tmp 34), (.tmp 36)], none⟩,
   ⟨(some 38), .call (.func 17) [(.tmp 33), (.tmp 37)], none⟩,
   ⟨(some 39), .mv (.tmp 38), none⟩,
   ⟨(some 40), .mv (.tmp 8), some (39, true)⟩,
   ⟨(some 41), .mv (.tmp 2), some (39, true)⟩,
   ⟨(some 42), .call (.func 18) [(.tmp 40), (.tmp 41)], some (39, true)⟩,
   ⟨(some 43), .mv (.tmp 7), some (39, true)⟩,
   ⟨(some 44), .mv (.tmp 2), some (39, true)⟩,
   ⟨(some 45), .call (.func 20) [(.tmp 43), (.tmp 44)], some (39, true)⟩,
   ⟨(some 46), .call (.func 17) [(.tmp 42), (.tmp 45)], some (39, true)⟩,
   ⟨(some 47), .pick (.tmp 39) (.tmp 46) (.const (.bool false)), none⟩,
   ⟨(some 6), .mv (.tmp 47), none⟩])
 .ret)))))))
def F_lontarlaw05_RewriteAll : AFunc := ⟨3, 48, [.tmp 6], k_lontarlaw05_RewriteAll⟩
theorem ok_lontarlaw05_RewriteAll : FOK Try.prog 3 F_lontarlaw05_RewriteAll := FOK.of [] Try.func3 (by kernel_rfl) (by kernel_rfl)

-- lontar/lontarlaw05.RewriteUnits
@[reducible] def i_lontarlaw05_RewriteUnits : Nat := 4
/-- lontarlaw05_RewriteUnits: the body of loop 0 -/
def b_lontarlaw05_RewriteUnits_0 : ACode :=
 (.seq (.seq (.ops [⟨(some 19), .mv (.tmp 5), none⟩,
   ⟨(some 20), .int .geq (.tmp 19) (.const (.int .i64 0)), none⟩])
 (.cond (.tmp 20)
  .skip
  (.exit 0)))
 (.seq (.block 1 (.seq (.ops [⟨(some 23), .mv (.tmp 0), none⟩,
   ⟨(some 24), .mv (.tmp 5), none⟩,
   ⟨(some 25), .iaddr (.tmp 23) (.tmp 24) 4, none⟩,
   ⟨(some 26), .faddr (.tmp 25) 2, none⟩,
   ⟨(some 27), .load (.tmp 26) none, none⟩,
   ⟨(some 28), .append (.const (.slice none 0 0)) (.tmp 27) 3 1 8, none⟩,
   ⟨(some 29), .mv (.tmp 3), none⟩,
   ⟨(some 30), .append (.tmp 28) (.tmp 29) 3 1 8, none⟩,
   ⟨(some 3), .mv (.tmp 30), none⟩])
 (.seq (.ops [⟨(some 31), .mv (.tmp 0), none⟩,
   ⟨(some 32), .mv (.tmp 5), none⟩,
   ⟨(some 33), .iaddr (.tmp 31) (.tmp 32) 4, none⟩,
   ⟨(some 34), .faddr (.tmp 33) 3, none⟩,
   ⟨(some 35), .load (.tmp 34) none, none⟩,
   ⟨(some 36), .int .neq (.tmp 35) (.const (.int .i64 0)), none⟩])
 (.cond (.tmp 36)
  (.ops [⟨(some 37), .mv (.tmp 0), none⟩,
    ⟨(some 38), .mv (.tmp 5), none⟩,
    ⟨(some 39), .iaddr (.tmp 37) (.tmp 38) 4, none⟩,
    ⟨(some 40), .load (.tmp 39) (some 4), none⟩,
    ⟨none, .store (.tmp 4) (.tmp 40) 4, none⟩])
  .skip))))
 (.ops [⟨(some 21), .mv (.tmp 5), none⟩,
   ⟨(some 22), .int .sub (.tmp 21) (.const (.int .i64 1)), none⟩,
   ⟨(some 5), .mv (.tmp 22), none⟩])))

def k_lontarlaw05_RewriteUnits : ACode :=
 (.seq (.ops [⟨(some 2), .mv (.const (.bool false)), none⟩])
 (.seq (.seq (.ops [⟨(some 8), .call (.func 14) [], none⟩,
   ⟨(some 9), .not (.tmp 8), none⟩])
 (.cond (.tmp 9)
  (.seq (.ops [⟨(some 2), .mv (.const (.bool false)), none⟩])
  .ret)
  .skip))
 (.seq (.ops [⟨(some 10), .mv (.tmp 0), none⟩,
   ⟨(some 11), .mv (.tmp 0), none⟩,
   ⟨(some 12), .len false (.tmp 11), none⟩,
   ⟨(some 13), .min2 (.tmp 12) (.const (.int .i64 60)), none⟩,
   ⟨(some 14), .slice (.tmp 10) none (some (.tmp 13)) 4, none⟩,
   ⟨(some 0), .mv (.tmp 14), none⟩])
 (.seq (.ops [⟨(some 3), .mv (.const (.slice none 0 0)), none⟩])
 (.seq (.ops [⟨(some 15), .build [(.int .i64 0), (.int .i64 0), (.slice none 0 0), (.int .i64 0)] [], none⟩,
   ⟨(some 4), .alloc [(.int .i64 0), (.int .i64 0), (.slice none 0 0), (.int .i64 0)] 39, none⟩,
   ⟨none, .store (.tmp 4) (.tmp 15) 4, none⟩])
 (.seq (.seq (.ops [⟨(some 16), .mv (.tmp 0), none⟩,
   ⟨(some 17), .len false (.tmp 16), none⟩,
   ⟨(some 18), .int .sub (.tmp 17) (.const (.int .i64 1)), none⟩,
   ⟨(some 5), .mv (.tmp 18), none⟩])
 (.block 0 (.loop [0, 3, 4, 5] b_lontarlaw05_RewriteUnits_0)))
 (.seq (.ops [⟨(some 42), .mv (.tmp 0), none⟩,
   ⟨(some 43), .call (.func 21) [(.tmp 42)], none⟩,
   ⟨(some 41), .mv (.tmp 43), none⟩,
   ⟨(some 44), .ext (.tmp 41) 0, none⟩,
   ⟨(some 45), .ext (.tmp 41) 1, none⟩,
   ⟨(some 7), .alloc [(.int .i64 0), (.int .i64 0), (.slice none 0 0), (.int .i64 0)] 39, none⟩,
   ⟨(some 6), .mv (.tmp 44), none⟩,
   ⟨none, .store (.tmp 7) (.tmp 45) 4, none⟩])
 (.seq (.ops [⟨(some 46), .mv (.tmp 6), none⟩,
   ⟨(some 47), .mv (.tmp 3), none⟩,
   ⟨(some 48), .call (.func 22) [(.tmp 46), (.tmp 47)], none⟩,
   ⟨(some 49), .mv (.tmp 48), none⟩,
   ⟨(some 50), .faddr (.tmp 7) 0, some (49, true)⟩,
   ⟨(some 51), .load (.tmp 50) none, some (49, true)⟩,
   ⟨(some 52), .faddr (.tmp 4) 0, some (49, true)⟩,
   ⟨(some 53), .load (.tmp 52) none, some (49, true)⟩,
   ⟨(some 54), .int .eql (.tmp 51) (.tmp 53), some (49, true)⟩,
   ⟨(some 55), .pick (.tmp 49) (.tmp 54) (.const (.bool false)), none⟩,
   ⟨(some 56), .mv (.tmp 55), none⟩,
   ⟨(some 57), .faddr (.tmp 7) 1, some (56, true)⟩,
   ⟨(some 58), .load (.tmp 57) none, some (56, true)⟩,
   ⟨(some 59), .faddr (.tmp 4) 1, some (56, true)⟩,
   ⟨(some 60), .load (.tmp 59) none, some (56, true)⟩,
   ⟨(some 61), .int .eql (.tmp 58) (.tmp 60), some (56, true)⟩,
   ⟨(some 62), .pick (.tmp 56) (.tmp 61) (.const (.bool false)), none⟩,
   ⟨(some 63), .mv (.tmp 62), none⟩,
   ⟨(some 64), .faddr (.tmp 7) 3, some (63, true)⟩,
   ⟨(some 65), .load (.tmp 64) none, some (63, true)⟩,
   ⟨(some 66), .faddr (.tmp 4) 3, some (63, true)⟩,
   ⟨(some 67), .load (.tmp 66) none, some (63, true)⟩,
   ⟨(some 68), .int .eql (.tmp 65) (.tmp 67), some (63, true)⟩,
   ⟨(some 69), .pick (.tmp 63) (.tmp 68) (.const (.bool false)), none⟩,
   ⟨(some 70), .mv (.tmp 69), none⟩,
   ⟨(some 71), .faddr (.tmp 7) 2, some (70, true)⟩,
   ⟨(some 72), .load (.tmp 71) none, some (70, true)⟩,
   ⟨(some 73), .faddr (.tmp 4) 2, some (70, true)⟩,
   ⟨(some 74), .load (.tmp 73) none, some (70, true)⟩,
   ⟨(some 75), .call (.func 22) [(.tmp 72), (.tmp 74)], some (70, true)⟩,
   ⟨(some 76), .pick (.tmp 70) (.tmp 75) (.const (.bool false)), none⟩,
   ⟨(some 2), .mv (.tmp 76), none⟩])
 .ret))))))))
def F_lontarlaw05_RewriteUnits : AFunc := ⟨1, 77, [.tmp 2], k_lontarlaw05_RewriteUnits⟩
theorem ok_lontarlaw05_RewriteUnits : FOK Try.prog 4 F_lontarlaw05_RewriteUnits := FOK.of [[0, 3, 4, 5]] Try.func4 (by kernel_rfl) (by kernel_rfl)

-- lontar/lontarlaw05.RewriteCover
@[reducible] def i_lontarlaw05_RewriteCover : Nat := 5
/-- lontarlaw05_RewriteCover: the body of loop 0 -/
def b_lontarlaw05_RewriteCover_0 : ACode :=
 (.seq (.ops [⟨(some 32), .int .lss (.tmp 31) (.tmp 30), none⟩])
 (.seq (.cond (.tmp 32)
  .skip
  (.exit 0))
 (.seq (.block 1 (.seq (.ops [⟨(some 33), .iaddr (.tmp 29) (.tmp 31) 4, none⟩,
   ⟨(some 34), .load (.tmp 33) (some 4), none⟩,
   ⟨(some 10), .alloc [(.int .i64 0), (.int .i64 0), (.slice none 0 0), (.int .i64 0)] 39, none⟩,
   ⟨none, .store (.tmp 10) (.tmp 34) 4, none⟩])
 (.seq (.seq (.ops [⟨(some 35), .faddr (.tmp 10) 0, none⟩,
   ⟨(some 36), .load (.tmp 35) none, none⟩,
   ⟨(some 37), .mv (.tmp 8), none⟩,
   ⟨(some 38), .int .neq (.tmp 36) (.tmp 37), none⟩,
   ⟨(some 39), .mv (.tmp 38), none⟩,
   ⟨(some 40), .faddr (.tmp 10) 1, some (39, false)⟩,
   ⟨(some 41), .load (.tmp 40) none, some (39, false)⟩,
   ⟨(some 42), .int .lss (.tmp 41) (.const (.int .i64 1)), some (39, false)⟩,
   ⟨(some 43), .pick (.tmp 39) (.const (.bool true)) (.tmp 42), none⟩,
   ⟨(some 44), .mv (.tmp 43), none⟩,
   ⟨(some 45), .faddr (.tmp 10) 3, some (44, false)⟩,
   ⟨(some 46), .load (.tmp 45) none, some (44, false)⟩,
   ⟨(some 47), .int .eql (.tmp 46) (.const (.int .i64 0)), some (44, false)⟩,
   ⟨(some 48), .faddr (.tmp 10) 2, some (44, false)⟩,
   ⟨(some 49), .load (.tmp 48) none, some (44, false)⟩,
   ⟨(some 50), .len false (.tmp 49), some (44, false)⟩,
   ⟨(some 51), .int .gtr (.tmp 50) (.const (.int .i64 0)), some (44, false)⟩,
   ⟨(some 52), .beq true (.tmp 47) (.tmp 51), some (44, false)⟩,
   ⟨(some 53), .pick (.tmp 44) (.const (.bool true)) (.tmp 52), none⟩,
   ⟨(some 54), .mv (.tmp 53), none⟩,
   ⟨(some 55), .faddr (.tmp 10) 3, some (54, false)⟩,
   ⟨(some 56), .load (.tmp 55) none, some (54, false)⟩,
   ⟨(some 57), .int .neq (.tmp 56) (.const (.int .i64 0)), some (54, false)⟩,
   ⟨(some 58), .mv (.tmp 57), some (54, false)⟩,
   ⟨(some 59), .faddr (.tmp 10) 3, some (58, true)⟩,
   ⟨(some 60), .load (.tmp 59) none, some (58, true)⟩,
   ⟨(some 61), .int .neq (.tmp 60) (.const (.int .i64 3)), some (58, true)⟩,
   ⟨(some 62), .mv (.tmp 61), some (58, true)⟩,
   ⟨(some 63), .faddr (.tmp 10) 1, some (62, false)⟩,
   ⟨(some 64), .load (.tmp 63) none, some (62, false)⟩,
   ⟨(some 65), .int .neq (.tmp 64) (.const (.int .i64 1)), some (62, false)⟩,
   ⟨(some 66), .pick (.tmp 62) (.const (.bool true)) (.tmp 65), some (58, true)⟩,
   ⟨(some 67), .pick (.tmp 58) (.tmp 66) (.const (.bool false)), some (54, false)⟩,
   ⟨(some 68), .pick (.tmp 54) (.const (.bool true)) (.tmp 67), none⟩])
 (.cond (.tmp 68)
  (.seq (.ops [⟨(some 4), .mv (.const (.bool false)), none⟩])
  .ret)
  .skip))
 (.ops [⟨(some 69), .mv (.tmp 8), none⟩,
   ⟨(some 70), .faddr (.tmp 10) 1, none⟩,
   ⟨(some 71), .load (.tmp 70) none, none⟩,
   ⟨(some 72), .int .add (.tmp 69) (.tmp 71), none⟩,
   ⟨(some 8), .mv (.tmp 72), none⟩]))))
 (.ops [⟨(some 73), .int .add (.tmp 31) (.const (.int .i64 1)), none⟩,
   ⟨(some 31), .mv (.tmp 73), none⟩]))))

def k_lontarlaw05_RewriteCover : ACode :=
 (.seq (.ops [⟨(some 4), .mv (.const (.bool false)), none⟩])
 (.seq (.seq (.ops [⟨(some 11), .call (.func 14) [], none⟩,
   ⟨(some 12), .not (.tmp 11), none⟩])
 (.cond (.tmp 12)
  (.seq (.ops [⟨(some 4), .mv (.const (.bool false)), none⟩])
  .ret)
  .skip))
 (.seq (.ops [⟨(some 14), .mv (.tmp 0), none⟩,
   ⟨(some 15), .call (.func 15) [(.tmp 14)], none⟩,
   ⟨(some 16), .call (.func 16) [(.tmp 15)], none⟩,
   ⟨(some 13), .mv (.tmp 16), none⟩,
   ⟨(some 17), .ext (.tmp 13) 0, none⟩,
   ⟨(some 18), .ext (.tmp 13) 1, none⟩,
   ⟨(some 5), .mv (.tmp 17), none⟩,
   ⟨(some 6), .mv (.tmp 18), none⟩])
 (.seq (.seq (.ops [⟨(some 19), .mv (.tmp 5), none⟩,
   ⟨(some 20), .isNil 0 false (.tmp 19), none⟩,
   ⟨(some 21), .mv (.tmp 20), none⟩,
   ⟨(some 22), .mv (.tmp 6), some (21, false)⟩,
   ⟨(some 23), .int .neq (.tmp 22) (.const (.int .i64 0)), some (21, false)⟩,
   ⟨(some 24), .pick (.tmp 21) (.const (.bool true)) (.tmp 23), none⟩])
 (.cond (.tmp 24)
  (.seq (.ops [⟨(some 4), .mv (.const (.bool false)), none⟩])
  .ret)
  .skip))
 (.seq (.ops [⟨(some 25), .mv (.tmp 1), none⟩,
   ⟨(some 26), .call (.func 19) [(.tmp 25)], none⟩,
   ⟨(some 7), .mv (.tmp 26), none⟩])
 (.seq (.ops [⟨(some 8), .mv (.const (.int .i64 0)), none⟩])
 (.seq (.seq (.ops [⟨(some 27), .mv (.tmp 5), none⟩,
   ⟨(some 28), .mv (.tmp 7), none⟩,
   ⟨(some 29), .call (.func 18) [(.tmp 27), (.tmp 28)], none⟩,
   ⟨(some 30), .len false (.tmp 29), none⟩,
   ⟨(some 31), .mv (.const (.int .i64 0)), none⟩])
 (.block 0 (.loop [7, 8, 29, 30, 31] b_lontarlaw05_RewriteCover_0)))
 (.seq (.ops [⟨(some 74), .mv (.tmp 8), none⟩,
   ⟨(some 75), .mv (.tmp 7), none⟩,
   ⟨(some 76), .len false (.tmp 75), none⟩,
   ⟨(some 77), .int .eql (.tmp 74) (.tmp 76), none⟩,
   ⟨(some 4), .mv (.tmp 77), none⟩])
 .ret))))))))
def F_lontarlaw05_RewriteCover : AFunc := ⟨2, 78, [.tmp 4], k_lontarlaw05_RewriteCover⟩
theorem ok_lontarlaw05_RewriteCover : FOK Try.prog 5 F_lontarlaw05_RewriteCover := FOK.of [[7, 8, 29, 30, 31]] Try.func5 (by kernel_rfl) (by kernel_rfl)

-- lontar/lontarlaw05.RewriteTail
@[reducible] def i_lontarlaw05_RewriteTail : Nat := 6
/-- lontarlaw05_RewriteTail: the body of loop 0 -/
def b_lontarlaw05_RewriteTail_0 : ACode :=
 (.seq (.ops [⟨(some 56), .int .lss (.tmp 55) (.tmp 54), none⟩])
 (.seq (.cond (.tmp 56)
  .skip
  (.exit 0))
 (.seq (.block 1 (.seq (.ops [⟨(some 57), .mv (.tmp 55), none⟩,
   ⟨(some 13), .mv (.tmp 57), none⟩])
 (.draw [⟨(some 58), .mv (.tmp 12), none⟩,
   ⟨(some 59), .mv (.tmp 13), none⟩,
   ⟨(some 60), .iaddr (.tmp 58) (.tmp 59) 4, none⟩,
   ⟨(some 61), .faddr (.tmp 60) 0, none⟩,
   ⟨(some 62), .load (.tmp 61) none, none⟩,
   ⟨(some 63), .mv (.tmp 10), none⟩,
   ⟨(some 64), .mv (.tmp 11), none⟩,
   ⟨(some 65), .iaddr (.tmp 63) (.tmp 64) 4, none⟩,
   ⟨(some 66), .faddr (.tmp 65) 0, none⟩,
   ⟨(some 67), .load (.tmp 66) none, none⟩,
   ⟨(some 68), .int .add (.tmp 62) (.tmp 67), none⟩,
   ⟨(some 69), .iaddr (.tmp 58) (.tmp 59) 4, none⟩,
   ⟨(some 70), .faddr (.tmp 69) 0, none⟩,
   ⟨none, .store (.tmp 70) (.tmp 68) 1, none⟩])))
 (.ops [⟨(some 71), .int .add (.tmp 55) (.const (.int .i64 1)), none⟩,
   ⟨(some 55), .mv (.tmp 71), none⟩]))))

def k_lontarlaw05_RewriteTail : ACode :=
 (.seq (.ops [⟨(some 6), .mv (.const (.bool false)), none⟩])
 (.seq (.seq (.ops [⟨(some 14), .call (.func 14) [], none⟩,
   ⟨(some 15), .not (.tmp 14), none⟩])
 (.cond (.tmp 15)
  (.seq (.ops [⟨(some 6), .mv (.const (.bool false)), none⟩])
  .ret)
  .skip))
 (.seq (.ops [⟨(some 17), .mv (.tmp 0), none⟩,
   ⟨(some 18), .call (.func 15) [(.tmp 17)], none⟩,
   ⟨(some 19), .call (.func 16) [(.tmp 18)], none⟩,
   ⟨(some 16), .mv (.tmp 19), none⟩,
   ⟨(some 20), .ext (.tmp 16) 0, none⟩,
   ⟨(some 21), .ext (.tmp 16) 1, none⟩,
   ⟨(some 7), .mv (.tmp 20), none⟩,
   ⟨(some 8), .mv (.tmp 21), none⟩])
 (.seq (.seq (.ops [⟨(some 22), .mv (.tmp 7), none⟩,
   ⟨(some 23), .isNil 0 false (.tmp 22), none⟩,
   ⟨(some 24), .mv (.tmp 23), none⟩,
   ⟨(some 25), .mv (.tmp 8), some (24, false)⟩,
   ⟨(some 26), .int .neq (.tmp 25) (.const (.int .i64 0)), some (24, false)⟩,
   ⟨(some 27), .pick (.tmp 24) (.const (.bool true)) (.tmp 26), none⟩])
 (.cond (.tmp 27)
  (.seq (.ops [⟨(some 6), .mv (.const (.bool false)), none⟩])
  .ret)
  .skip))
 (.seq (.ops [⟨(some 28), .mv (.tmp 1), none⟩,
   ⟨(some 29), .call (.func 19) [(.tmp 28)], none⟩,
   ⟨(some 9), .mv (.tmp 29), none⟩])
 (.seq (.ops [⟨(some 30), .mv (.tmp 7), none⟩,
   ⟨(some 31), .mv (.tmp 9), none⟩,
   ⟨(some 32), .call (.func 18) [(.tmp 30), (.tmp 31)], none⟩,
   ⟨(some 10), .mv (.tmp 32), none⟩])
 (.seq (.seq (.ops [⟨(some 33), .mv (.tmp 10), none⟩,
   ⟨(some 34), .len false (.tmp 33), none⟩,
   ⟨(some 35), .int .eql (.tmp 34) (.const (.int .i64 0)), none⟩])
 (.cond (.tmp 35)
  (.seq (.ops [⟨(some 36), .mv (.tmp 9), none⟩,
    ⟨(some 37), .len false (.tmp 36), none⟩,
    ⟨(some 38), .int .eql (.tmp 37) (.const (.int .i64 0)), none⟩,
    ⟨(some 6), .mv (.tmp 38), none⟩])
  .ret)
  .skip))
 (.seq (.ops [⟨(some 39), .mv (.tmp 2), none⟩,
   ⟨(some 40), .conv .i64 (.tmp 39), none⟩,
   ⟨(some 41), .mv (.tmp 10), none⟩,
   ⟨(some 42), .len false (.tmp 41), none⟩,
   ⟨(some 43), .int .rem (.tmp 40) (.tmp 42), none⟩,
   ⟨(some 11), .mv (.tmp 43), none⟩])
 (.seq (.ops [⟨(some 44), .mv (.tmp 7), none⟩,
   ⟨(some 45), .mv (.tmp 9), none⟩,
   ⟨(some 46), .mv (.tmp 10), none⟩,
   ⟨(some 47), .mv (.tmp 11), none⟩,
   ⟨(some 48), .iaddr (.tmp 46) (.tmp 47) 4, none⟩,
   ⟨(some 49), .faddr (.tmp 48) 0, none⟩,
   ⟨(some 50), .load (.tmp 49) none, none⟩,
   ⟨(some 51), .slice (.tmp 45) (some (.tmp 50)) none 1, none⟩,
   ⟨(some 52), .call (.func 18) [(.tmp 44), (.tmp 51)], none⟩,
   ⟨(some 12), .mv (.tmp 52), none⟩])
 (.seq (.seq (.ops [⟨(some 53), .mv (.tmp 12), none⟩,
   ⟨(some 54), .len false (.tmp 53), none⟩,
   ⟨(some 55), .mv (.const (.int .i64 0)), none⟩])
 (.block 0 (.loop [10, 11, 12, 54, 55] b_lontarlaw05_RewriteTail_0)))
 (.seq (.ops [⟨(some 72), .mv (.tmp 12), none⟩,
   ⟨(some 73), .mv (.tmp 10), none⟩,
   ⟨(some 74), .mv (.tmp 11), none⟩,
   ⟨(some 75), .slice (.tmp 73) (some (.tmp 74)) none 4, none⟩,
   ⟨(some 76), .call (.func 17) [(.tmp 72), (.tmp 75)], none⟩,
   ⟨(some 6), .mv (.tmp 76), none⟩])
 .ret)))))))))))
def F_lontarlaw05_RewriteTail : AFunc := ⟨3, 77, [.tmp 6], k_lontarlaw05_RewriteTail⟩
theorem ok_lontarlaw05_RewriteTail : FOK Try.prog 6 F_lontarlaw05_RewriteTail := FOK.of [[10, 11, 12, 54, 55], [0, 1, 2, 3, 4, 5, 6, 7, 8, 9, 10, 11, 12, 13]] Try.func6 (by kernel_rfl) (by kernel_rfl)

-- lontar/lontarlaw05.RewriteSingles
@[reducible] def i_lontarlaw05_RewriteSingles : Nat := 7
/-- lontarlaw05_RewriteSingles: the body of loop 0 -/
def b_lontarlaw05_RewriteSingles_0 : ACode :=
 (.seq (.ops [⟨(some 31), .int .lss (.tmp 30) (.tmp 29), none⟩])
 (.seq (.cond (.tmp 31)
  .skip
  (.exit 0))
 (.seq (.block 1 (.seq (.ops [⟨(some 32), .iaddr (.tmp 28) (.tmp 30) 2, none⟩,
   ⟨(some 33), .load (.tmp 32) (some 2), none⟩,
   ⟨(some 8), .alloc [(.int .u8 0), (.int .u8 0)] 48, none⟩,
   ⟨none, .store (.tmp 8) (.tmp 33) 2, none⟩])
 (.seq (.ops [⟨(some 35), .mv (.tmp 6), none⟩,
   ⟨(some 36), .aaddr (.tmp 8) (.const (.int .i64 0)) 2 1, none⟩,
   ⟨(some 37), .load (.tmp 36) none, none⟩,
   ⟨(some 38), .conv .i64 (.tmp 37), none⟩,
   ⟨(some 39), .mop (.get (.tmp 35) (.tmp 38) (.int .i64 0) true), none⟩,
   ⟨(some 34), .mv (.tmp 39), none⟩,
   ⟨(some 40), .ext (.tmp 34) 0, none⟩,
   ⟨(some 41), .ext (.tmp 34) 1, none⟩,
   ⟨(some 9), .mv (.tmp 40), none⟩,
   ⟨(some 10), .mv (.tmp 41), none⟩])
 (.seq (.ops [⟨(some 42), .mv (.tmp 10), none⟩,
   ⟨(some 43), .not (.tmp 42), none⟩])
 (.cond (.tmp 43)
  (.seq (.ops [⟨(some 44), .mv (.tmp 6), none⟩,
    ⟨(some 45), .aaddr (.tmp 8) (.const (.int .i64 0)) 2 1, none⟩,
    ⟨(some 46), .load (.tmp 45) none, none⟩,
    ⟨(some 47), .conv .i64 (.tmp 46), none⟩,
    ⟨(some 48), .aaddr (.tmp 8) (.const (.int .i64 1)) 2 1, none⟩,
    ⟨(some 49), .load (.tmp 48) none, none⟩,
    ⟨(some 50), .conv .i64 (.tmp 49), none⟩,
    ⟨none, .mop (.set (.tmp 44) (.tmp 47) (.tmp 50)), none⟩])
  (.ops [⟨(some 51), .mv (.tmp 5), none⟩,
    ⟨(some 52), .aaddr (.tmp 8) (.const (.int .i64 0)) 2 1, none⟩,
    ⟨(some 53), .load (.tmp 52) none, none⟩,
    ⟨(some 54), .conv .i64 (.tmp 53), none⟩,
    ⟨(some 55), .bslice 3 1 1 [(.int .i64 0)] [(0, 1, (.tmp 54))], none⟩,
    ⟨(some 56), .aaddr (.tmp 8) (.const (.int .i64 1)) 2 1, none⟩,
    ⟨(some 57), .load (.tmp 56) none, none⟩,
    ⟨(some 58), .conv .i64 (.tmp 57), none⟩,
    ⟨(some 59), .bslice 3 1 1 [(.int .i64 0)] [(0, 1, (.tmp 58))], none⟩,
    ⟨(some 60), .build [(.slice none 0 0), (.slice none 0 0)] [(0, 1, (.tmp 55)), (1, 1, (.tmp 59))], none⟩,
    ⟨(some 61), .bslice 51 1 2 [(.slice none 0 0), (.slice none 0 0)] [(0, 2, (.tmp 60))], none⟩,
    ⟨(some 62), .append (.tmp 51) (.tmp 61) 51 2 48, none⟩,
    ⟨(some 5), .mv (.tmp 62), none⟩]))
  .skip)))))
 (.ops [⟨(some 63), .int .add (.tmp 30) (.const (.int .i64 1)), none⟩,
   ⟨(some 30), .mv (.tmp 63), none⟩]))))

/-- lontarlaw05_RewriteSingles: the body of loop 1 -/
def b_lontarlaw05_RewriteSingles_1 : ACode :=
 (.seq (.ops [⟨(some 82), .int .lss (.tmp 81) (.tmp 80), none⟩])
 (.seq (.cond (.tmp 82)
  .skip
  (.exit 2))
 (.seq (.block 3 (.seq (.ops [⟨(some 83), .iaddr (.tmp 79) (.tmp 81) 1, none⟩,
   ⟨(some 84), .load (.tmp 83) none, none⟩,
   ⟨(some 15), .mv (.tmp 84), none⟩])
 (.ops [⟨(some 85), .mv (.tmp 13), none⟩,
   ⟨(some 86), .mv (.tmp 15), none⟩,
   ⟨(some 87), .conv .i64 (.tmp 86), none⟩,
   ⟨(some 88), .bslice 3 1 1 [(.int .i64 0)] [(0, 1, (.tmp 87))], none⟩,
   ⟨(some 89), .append (.tmp 85) (.tmp 88) 3 1 8, none⟩,
   ⟨(some 13), .mv (.tmp 89), none⟩])))
 (.ops [⟨(some 90), .int .add (.tmp 81) (.const (.int .i64 1)), none⟩,
   ⟨(some 81), .mv (.tmp 90), none⟩]))))

/-- lontarlaw05_RewriteSingles: the body of loop 2 -/
def b_lontarlaw05_RewriteSingles_2 : ACode :=
 (.seq (.ops [⟨(some 102), .int .lss (.tmp 101) (.tmp 100), none⟩])
 (.seq (.cond (.tmp 102)
  .skip
  (.exit 4))
 (.seq (.block 5 (.seq (.ops [⟨(some 103), .mv (.tmp 101), none⟩,
   ⟨(some 104), .iaddr (.tmp 99) (.tmp 101) 4, none⟩,
   ⟨(some 105), .load (.tmp 104) (some 4), none⟩,
   ⟨(some 18), .alloc [(.int .i64 0), (.int .i64 0), (.slice none 0 0), (.int .i64 0)] 39, none⟩,
   ⟨(some 17), .mv (.tmp 103), none⟩,
   ⟨none, .store (.tmp 18) (.tmp 105) 4, none⟩])
 (.seq (.ops [⟨(some 107), .mv (.tmp 6), none⟩,
   ⟨(some 108), .mv (.tmp 13), none⟩,
   ⟨(some 109), .mv (.tmp 17), none⟩,
   ⟨(some 110), .iaddr (.tmp 108) (.tmp 109) 1, none⟩,
   ⟨(some 111), .load (.tmp 110) none, none⟩,
   ⟨(some 112), .mop (.get (.tmp 107) (.tmp 111) (.int .i64 0) true), none⟩,
   ⟨(some 106), .mv (.tmp 112), none⟩,
   ⟨(some 113), .ext (.tmp 106) 0, none⟩,
   ⟨(some 114), .ext (.tmp 106) 1, none⟩,
   ⟨(some 19), .mv (.tmp 113), none⟩,
   ⟨(some 20), .mv (.tmp 114), none⟩])
 (.seq (.ops [⟨(some 115), .mv (.tmp 20), none⟩,
   ⟨(some 116), .faddr (.tmp 18) 3, none⟩,
   ⟨(some 117), .load (.tmp 116) none, none⟩,
   ⟨(some 118), .int .eql (.tmp 117) (.const (.int .i64 0)), none⟩,
   ⟨(some 119), .beq true (.tmp 115) (.tmp 118), none⟩,
   ⟨(some 120), .mv (.tmp 119), none⟩,
   ⟨(some 121), .mv (.tmp 20), some (120, false)⟩,
   ⟨(some 122), .mv (.tmp 121), some (120, false)⟩,
   ⟨(some 123), .faddr (.tmp 18) 2, some (122, true)⟩,
   ⟨(some 124), .load (.tmp 123) none, some (122, true)⟩,
   ⟨(some 125), .len false (.tmp 124), some (122, true)⟩,
   ⟨(some 126), .int .neq (.tmp 125) (.const (.int .i64 1)), some (122, true)⟩,
   ⟨(some 127), .mv (.tmp 126), some (122, true)⟩,
   ⟨(some 128), .faddr (.tmp 18) 2, some (127, false)⟩,
   ⟨(some 129), .load (.tmp 128) none, some (127, false)⟩,
   ⟨(some 130), .iaddr (.tmp 129) (.const (.int .i64 0)) 1, some (127, false)⟩,
   ⟨(some 131), .load (.tmp 130) none, some (127, false)⟩,
   ⟨(some 132), .mv (.tmp 19), some (127, false)⟩,
   ⟨(some 133), .int .neq (.tmp 131) (.tmp 132), some (127, false)⟩,
   ⟨(some 134), .pick (.tmp 127) (.const (.bool true)) (.tmp 133), some (122, true)⟩,
   ⟨(some 135), .pick (.tmp 122) (.tmp 134) (.const (.bool false)), some (120, false)⟩,
   ⟨(some 136), .pick (.tmp 120) (.const (.bool true)) (.tmp 135), none⟩])
 (.cond (.tmp 136)
  (.seq (.ops [⟨(some 4), .mv (.const (.bool false)), none⟩])
  .ret)
  .skip)))))
 (.ops [⟨(some 137), .int .add (.tmp 101) (.const (.int .i64 1)), none⟩,
   ⟨(some 101), .mv (.tmp 137), none⟩]))))

def k_lontarlaw05_RewriteSingles : ACode :=
 (.seq (.ops [⟨(some 4), .mv (.const (.bool false)), none⟩])
 (.seq (.seq (.ops [⟨(some 21), .call (.func 14) [], none⟩,
   ⟨(some 22), .not (.tmp 21), none⟩])
 (.cond (.tmp 22)
  (.seq (.ops [⟨(some 4), .mv (.const (.bool false)), none⟩])
  .ret)
  .skip))
 (.seq (.ops [⟨(some 5), .mv (.const (.slice none 0 0)), none⟩])
 (.seq (.ops [⟨(some 23), .mop (.make 47), none⟩,
   ⟨(some 6), .mv (.tmp 23), none⟩])
 (.seq (.seq (.ops [⟨(some 24), .mv (.tmp 0), none⟩,
   ⟨(some 25), .mv (.tmp 0), none⟩,
   ⟨(some 26), .len false (.tmp 25), none⟩,
   ⟨(some 27), .min2 (.tmp 26) (.const (.int .i64 40)), none⟩,
   ⟨(some 28), .slice (.tmp 24) none (some (.tmp 27)) 2, none⟩,
   ⟨(some 29), .len false (.tmp 28), none⟩,
   ⟨(some 30), .mv (.const (.int .i64 0)), none⟩])
 (.block 0 (.loop [1, 5, 6, 28, 29, 30] b_lontarlaw05_RewriteSingles_0)))
 (.seq (.ops [⟨(some 65), .mv (.tmp 5), none⟩,
   ⟨(some 66), .call (.func 16) [(.tmp 65)], none⟩,
   ⟨(some 64), .mv (.tmp 66), none⟩,
   ⟨(some 67), .ext (.tmp 64) 0, none⟩,
   ⟨(some 68), .ext (.tmp 64) 1, none⟩,
   ⟨(some 11), .mv (.tmp 67), none⟩,
   ⟨(some 12), .mv (.tmp 68), none⟩])
 (.seq (.seq (.ops [⟨(some 69), .mv (.tmp 11), none⟩,
   ⟨(some 70), .isNil 0 false (.tmp 69), none⟩,
   ⟨(some 71), .mv (.tmp 70), none⟩,
   ⟨(some 72), .mv (.tmp 12), some (71, false)⟩,
   ⟨(some 73), .int .neq (.tmp 72) (.const (.int .i64 0)), some (71, false)⟩,
   ⟨(some 74), .pick (.tmp 71) (.const (.bool true)) (.tmp 73), none⟩])
 (.cond (.tmp 74)
  (.seq (.ops [⟨(some 4), .mv (.const (.bool false)), none⟩])
  .ret)
  .skip))
 (.seq (.ops [⟨(some 13), .mv (.const (.slice none 0 0)), none⟩])
 (.seq (.seq (.ops [⟨(some 75), .mv (.tmp 1), none⟩,
   ⟨(some 76), .mv (.tmp 1), none⟩,
   ⟨(some 77), .len false (.tmp 76), none⟩,
   ⟨(some 78), .min2 (.tmp 77) (.const (.int .i64 60)), none⟩,
   ⟨(some 79), .slice (.tmp 75) none (some (.tmp 78)) 1, none⟩,
   ⟨(some 80), .len false (.tmp 79), none⟩,
   ⟨(some 81), .mv (.const (.int .i64 0)), none⟩])
 (.block 2 (.loop [6, 11, 13, 79, 80, 81] b_lontarlaw05_RewriteSingles_1)))
 (.seq (.ops [⟨(some 91), .mv (.tmp 11), none⟩,
   ⟨(some 92), .mv (.tmp 13), none⟩,
   ⟨(some 93), .call (.func 18) [(.tmp 91), (.tmp 92)], none⟩,
   ⟨(some 16), .mv (.tmp 93), none⟩])
 (.seq (.seq (.ops [⟨(some 94), .mv (.tmp 16), none⟩,
   ⟨(some 95), .len false (.tmp 94), none⟩,
   ⟨(some 96), .mv (.tmp 13), none⟩,
   ⟨(some 97), .len false (.tmp 96), none⟩,
   ⟨(some 98), .int .neq (.tmp 95) (.tmp 97), none⟩])
 (.cond (.tmp 98)
  (.seq (.ops [⟨(some 4), .mv (.const (.bool false)), none⟩])
  .ret)
  .skip))
 (.seq (.seq (.ops [⟨(some 99), .mv (.tmp 16), none⟩,
   ⟨(some 100), .len false (.tmp 99), none⟩,
   ⟨(some 101), .mv (.const (.int .i64 0)), none⟩])
 (.block 4 (.loop [6, 13, 99, 100, 101] b_lontarlaw05_RewriteSingles_2)))
 (.seq (.ops [⟨(some 4), .mv (.const (.bool true)), none⟩])
 .ret)))))))))))))
def F_lontarlaw05_RewriteSingles : AFunc := ⟨2, 138, [.tmp 4], k_lontarlaw05_RewriteSingles⟩
theorem ok_lontarlaw05_RewriteSingles : FOK Try.prog 7 F_lontarlaw05_RewriteSingles := FOK.of [[1, 5, 6, 28, 29, 30], [6, 11, 13, 79, 80, 81], [6, 13, 99, 100, 101]] Try.func7 (by kernel_rfl) (by kernel_rfl)

-- lontar/lontarlaw05.RewriteSum
@[reducible] def i_lontarlaw05_RewriteSum : Nat := 8
def k_lontarlaw05_RewriteSum : ACode :=
 (.seq (.ops [⟨(some 4), .mv (.const (.bool false)), none⟩])
 (.seq (.seq (.ops [⟨(some 12), .call (.func 14) [], none⟩,
   ⟨(some 13), .not (.tmp 12), none⟩])
 (.cond (.tmp 13)
  (.seq (.ops [⟨(some 4), .mv (.const (.bool false)), none⟩])
  .ret)
  .skip))
 (.seq (.ops [⟨(some 14), .mv (.tmp 0), none⟩,
   ⟨(some 15), .mv (.tmp 0), none⟩,
   ⟨(some 16), .len false (.tmp 15), none⟩,
   ⟨(some 17), .min2 (.tmp 16) (.const (.int .i64 60)), none⟩,
   ⟨(some 18), .slice (.tmp 14) none (some (.tmp 17)) 4, none⟩,
   ⟨(some 0), .mv (.tmp 18), none⟩])
 (.seq (.ops [⟨(some 19), .mv (.tmp 1), none⟩,
   ⟨(some 20), .conv .i64 (.tmp 19), none⟩,
   ⟨(some 21), .mv (.tmp 0), none⟩,
   ⟨(some 22), .len false (.tmp 21), none⟩,
   ⟨(some 23), .int .add (.tmp 22) (.const (.int .i64 1)), none⟩,
   ⟨(some 24), .int .rem (.tmp 20) (.tmp 23), none⟩,
   ⟨(some 5), .mv (.tmp 24), none⟩])
 (.seq (.ops [⟨(some 26), .mv (.tmp 0), none⟩,
   ⟨(some 27), .mv (.tmp 5), none⟩,
   ⟨(some 28), .slice (.tmp 26) none (some (.tmp 27)) 4, none⟩,
   ⟨(some 29), .call (.func 21) [(.tmp 28)], none⟩,
   ⟨(some 25), .mv (.tmp 29), none⟩,
   ⟨(some 30), .ext (.tmp 25) 0, none⟩,
   ⟨(some 31), .ext (.tmp 25) 1, none⟩,
   ⟨(some 7), .alloc [(.int .i64 0), (.int .i64 0), (.slice none 0 0), (.int .i64 0)] 39, none⟩,
   ⟨(some 6), .mv (.tmp 30), none⟩,
   ⟨none, .store (.tmp 7) (.tmp 31) 4, none⟩])
 (.seq (.ops [⟨(some 33), .mv (.tmp 0), none⟩,
   ⟨(some 34), .mv (.tmp 5), none⟩,
   ⟨(some 35), .slice (.tmp 33) (some (.tmp 34)) none 4, none⟩,
   ⟨(some 36), .call (.func 21) [(.tmp 35)], none⟩,
   ⟨(some 32), .mv (.tmp 36), none⟩,
   ⟨(some 37), .ext (.tmp 32) 0, none⟩,
   ⟨(some 38), .ext (.tmp 32) 1, none⟩,
   ⟨(some 9), .alloc [(.int .i64 0), (.int .i64 0), (.slice none 0 0), (.int .i64 0)] 39, none⟩,
   ⟨(some 8), .mv (.tmp 37), none⟩,
   ⟨none, .store (.tmp 9) (.tmp 38) 4, none⟩])
 (.seq (.ops [⟨(some 40), .mv (.tmp 0), none⟩,
   ⟨(some 41), .call (.func 21) [(.tmp 40)], none⟩,
   ⟨(some 39), .mv (.tmp 41), none⟩,
   ⟨(some 42), .ext (.tmp 39) 0, none⟩,
   ⟨(some 43), .ext (.tmp 39) 1, none⟩,
   ⟨(some 11), .alloc [(.int .i64 0), (.int .i64 0), (.slice none 0 0), (.int .i64 0)] 39, none⟩,
   ⟨(some 10), .mv (.tmp 42), none⟩,
   ⟨none, .store (.tmp 11) (.tmp 43) 4, none⟩])
 (.seq (.seq (.ops [⟨(some 44), .faddr (.tmp 7) 3, none⟩,
   ⟨(some 45), .load (.tmp 44) none, none⟩,
   ⟨(some 46), .int .neq (.tmp 45) (.const (.int .i64 0)), none⟩])
 (.cond (.tmp 46)
  (.ops [⟨(some 47), .load (.tmp 7) (some 4), none⟩,
    ⟨none, .store (.tmp 9) (.tmp 47) 4, none⟩])
  .skip))
 (.seq (.ops [⟨(some 48), .mv (.tmp 6), none⟩,
   ⟨(some 49), .append (.const (.slice none 0 0)) (.tmp 48) 3 1 8, none⟩,
   ⟨(some 50), .mv (.tmp 8), none⟩,
   ⟨(some 51), .append (.tmp 49) (.tmp 50) 3 1 8, none⟩,
   ⟨(some 52), .mv (.tmp 10), none⟩,
   ⟨(some 53), .call (.func 22) [(.tmp 51), (.tmp 52)], none⟩,
   ⟨(some 54), .mv (.tmp 53), none⟩,
   ⟨(some 55), .faddr (.tmp 9) 0, some (54, true)⟩,
   ⟨(some 56), .load (.tmp 55) none, some (54, true)⟩,
   ⟨(some 57), .faddr (.tmp 11) 0, some (54, true)⟩,
   ⟨(some 58), .load (.tmp 57) none, some (54, true)⟩,
   ⟨(some 59), .int .eql (.tmp 56) (.tmp 58), some (54, true)⟩,
   ⟨(some 60), .pick (.tmp 54) (.tmp 59) (.const (.bool false)), none⟩,
   ⟨(some 61), .mv (.tmp 60), none⟩,
   ⟨(some 62), .faddr (.tmp 9) 3, some (61, true)⟩,
   ⟨(some 63), .load (.tmp 62) none, some (61, true)⟩,
   ⟨(some 64), .faddr (.tmp 11) 3, some (61, true)⟩,
   ⟨(some 65), .load (.tmp 64) none, some (61, true)⟩,
   ⟨(some 66), .int .eql (.tmp 63) (.tmp 65), some (61, true)⟩,
   ⟨(some 67), .pick (.tmp 61) (.tmp 66) (.const (.bool false)), none⟩,
   ⟨(some 68), .mv (.tmp 67), none⟩,
   ⟨(some 69), .faddr (.tmp 9) 1, some (68, true)⟩,
   ⟨(some 70), .load (.tmp 69) none, some (68, true)⟩,
   ⟨(some 71), .faddr (.tmp 11) 1, some (68, true)⟩,
   ⟨(some 72), .load (.tmp 71) none, some (68, true)⟩,
   ⟨(some 73), .int .eql (.tmp 70) (.tmp 72), some (68, true)⟩,
   ⟨(some 74), .pick (.tmp 68) (.tmp 73) (.const (.bool false)), none⟩,
   ⟨(some 4), .mv (.tmp 74), none⟩])
 .ret)))))))))
def F_lontarlaw05_RewriteSum : AFunc := ⟨2, 75, [.tmp 4], k_lontarlaw05_RewriteSum⟩
theorem ok_lontarlaw05_RewriteSum : FOK Try.prog 8 F_lontarlaw05_RewriteSum := FOK.of [] Try.func8 (by kernel_rfl) (by kernel_rfl)

-- lontar/lontarlaw06.MatchAll
@[reducible] def i_lontarlaw06_MatchAll : Nat := 9
/-- lontarlaw06_MatchAll: the body of loop 0 -/
def b_lontarlaw06_MatchAll_0 : ACode :=
 (.seq (.ops [⟨(some 49), .int .lss (.tmp 48) (.tmp 47), none⟩])
 (.seq (.cond (.tmp 49)
  .skip
  (.exit 2))
 (.seq (.block 3 (.seq (.ops [⟨(some 50), .iaddr (.tmp 46) (.tmp 48) 1, none⟩,
   ⟨(some 51), .load (.tmp 50) none, none⟩,
   ⟨(some 15), .mv (.tmp 51), none⟩])
 (.ops [⟨(some 52), .mv (.tmp 13), none⟩,
   ⟨(some 53), .mv (.tmp 12), none⟩,
   ⟨(some 54), .mv (.tmp 15), none⟩,
   ⟨(some 55), .call (.func 25) [(.tmp 53), (.tmp 54)], none⟩,
   ⟨(some 56), .append (.tmp 52) (.tmp 55) 39 4 48, none⟩,
   ⟨(some 13), .mv (.tmp 56), none⟩])))
 (.ops [⟨(some 57), .int .add (.tmp 48) (.const (.int .i64 1)), none⟩,
   ⟨(some 48), .mv (.tmp 57), none⟩]))))

/-- lontarlaw06_MatchAll: the body of loop 1 -/
def b_lontarlaw06_MatchAll_1 : ACode :=
 (.seq (.ops [⟨(some 41), .int .lss (.tmp 40) (.tmp 39), none⟩])
 (.seq (.cond (.tmp 41)
  .skip
  (.exit 0))
 (.seq (.block 1 (.seq (.ops [⟨(some 42), .iaddr (.tmp 38) (.tmp 40) 1, none⟩,
   ⟨(some 43), .load (.tmp 42) none, none⟩,
   ⟨(some 11), .mv (.tmp 43), none⟩])
 (.seq (.ops [⟨(some 44), .mv (.tmp 8), none⟩,
   ⟨(some 45), .call (.func 24) [(.tmp 44)], none⟩,
   ⟨(some 12), .mv (.tmp 45), none⟩])
 (.seq (.ops [⟨(some 13), .mv (.const (.slice none 0 0)), none⟩])
 (.seq (.seq (.ops [⟨(some 46), .mv (.tmp 11), none⟩,
   ⟨(some 47), .len false (.tmp 46), none⟩,
   ⟨(some 48), .mv (.const (.int .i64 0)), none⟩])
 (.block 2 (.loop [7, 8, 11, 12, 13, 38, 39, 40, 46, 47, 48] b_lontarlaw06_MatchAll_0)))
 (.seq (.ops [⟨(some 58), .mv (.tmp 13), none⟩,
   ⟨(some 59), .mv (.tmp 12), none⟩,
   ⟨(some 60), .call (.func 26) [(.tmp 59)], none⟩,
   ⟨(some 61), .append (.tmp 58) (.tmp 60) 39 4 48, none⟩,
   ⟨(some 62), .mv (.tmp 7), none⟩,
   ⟨(some 63), .mv (.tmp 11), none⟩,
   ⟨(some 64), .call (.func 20) [(.tmp 62), (.tmp 63)], none⟩,
   ⟨(some 65), .call (.func 17) [(.tmp 61), (.tmp 64)], none⟩,
   ⟨(some 66), .not (.tmp 65), none⟩,
   ⟨(some 67), .mv (.tmp 66), none⟩,
   ⟨(some 68), .mv (.tmp 12), some (67, false)⟩,
   ⟨(some 69), .call (.func 27) [(.tmp 68)], some (67, false)⟩,
   ⟨(some 70), .int .neq (.tmp 69) (.const (.int .i64 0)), some (67, false)⟩,
   ⟨(some 71), .pick (.tmp 67) (.const (.bool true)) (.tmp 70), none⟩])
 (.cond (.tmp 71)
  (.seq (.ops [⟨(some 6), .mv (.const (.bool false)), none⟩])
  .ret)
  .skip)))))))
 (.ops [⟨(some 72), .int .add (.tmp 40) (.const (.int .i64 1)), none⟩,
   ⟨(some 40), .mv (.tmp 72), none⟩]))))

def k_lontarlaw06_MatchAll : ACode :=
 (.seq (.ops [⟨(some 6), .mv (.const (.bool false)), none⟩])
 (.seq (.seq (.ops [⟨(some 16), .call (.func 23) [], none⟩,
   ⟨(some 17), .not (.tmp 16), none⟩])
 (.cond (.tmp 17)
  (.seq (.ops [⟨(some 6), .mv (.const (.bool false)), none⟩])
  .ret)
  .skip))
 (.seq (.ops [⟨(some 18), .mv (.tmp 0), none⟩,
   ⟨(some 19), .call (.func 15) [(.tmp 18)], none⟩,
   ⟨(some 7), .mv (.tmp 19), none⟩])
 (.seq (.ops [⟨(some 21), .mv (.tmp 7), none⟩,
   ⟨(some 22), .call (.func 16) [(.tmp 21)], none⟩,
   ⟨(some 20), .mv (.tmp 22), none⟩,
   ⟨(some 23), .ext (.tmp 20) 0, none⟩,
   ⟨(some 24), .ext (.tmp 20) 1, none⟩,
   ⟨(some 8), .mv (.tmp 23), none⟩,
   ⟨(some 9), .mv (.tmp 24), none⟩])
 (.seq (.seq (.ops [⟨(some 25), .mv (.tmp 8), none⟩,
   ⟨(some 26), .isNil 0 false (.tmp 25), none⟩,
   ⟨(some 27), .mv (.tmp 26), none⟩,
   ⟨(some 28), .mv (.tmp 9), some (27, false)⟩,
   ⟨(some 29), .int .neq (.tmp 28) (.const (.int .i64 0)), some (27, false)⟩,
   ⟨(some 30), .pick (.tmp 27) (.const (.bool true)) (.tmp 29), none⟩])
 (.cond (.tmp 30)
  (.seq (.ops [⟨(some 6), .mv (.const (.bool false)), none⟩])
  .ret)
  .skip))
 (.seq (.seq (.draw [⟨(some 31), .mv (.tmp 1), none⟩,
   ⟨(some 33), .mv (.tmp 2), none⟩,
   ⟨(some 34), .mv (.tmp 2), none⟩,
   ⟨(some 35), .len false (.tmp 34), none⟩,
   ⟨(some 36), .min2 (.tmp 35) (.const (.int .i64 60)), none⟩,
   ⟨(some 37), .slice (.tmp 33) none (some (.tmp 36)) 1, none⟩,
   ⟨(some 40), .mv (.const (.int .i64 0)), none⟩,
   ⟨(some 32), .call (.func 19) [(.tmp 31)], none⟩,
   ⟨(some 38), .bslice 24 2 1 [(.slice none 0 0)] [(0, 1, (.tmp 32)), (1, 1, (.tmp 37))], none⟩,
   ⟨(some 39), .len false (.tmp 38), none⟩])
 (.block 0 (.loop [7, 8, 38, 39, 40] b_lontarlaw06_MatchAll_1)))
 (.seq (.ops [⟨(some 6), .mv (.const (.bool true)), none⟩])
 .ret)))))))
def F_lontarlaw06_MatchAll : AFunc := ⟨3, 73, [.tmp 6], k_lontarlaw06_MatchAll⟩
theorem ok_lontarlaw06_MatchAll : FOK Try.prog 9 F_lontarlaw06_MatchAll := FOK.of [[0, 2, 3, 4, 5, 6, 9, 1, 7, 8], [7, 8, 38, 39, 40], [7, 8, 11, 12, 13, 38, 39, 40, 46, 47, 48]] Try.func9 (by kernel_rfl) (by kernel_rfl)

-- lontar/lontarlaw06.MatchSoon
@[reducible] def i_lontarlaw06_MatchSoon : Nat := 10
/-- lontarlaw06_MatchSoon: the body of loop 0 -/
def b_lontarlaw06_MatchSoon_0 : ACode :=
 (.seq (.ops [⟨(some 38), .int .lss (.tmp 37) (.tmp 36), none⟩])
 (.seq (.cond (.tmp 38)
  .skip
  (.exit 0))
 (.seq (.block 1 (.seq (.ops [⟨(some 39), .mv (.tmp 37), none⟩,
   ⟨(some 40), .iaddr (.tmp 35) (.tmp 37) 1, none⟩,
   ⟨(some 41), .load (.tmp 40) none, none⟩,
   ⟨(some 10), .mv (.tmp 39), none⟩,
   ⟨(some 11), .mv (.tmp 41), none⟩])
 (.seq (.ops [⟨(some 42), .mv (.tmp 8), none⟩,
   ⟨(some 43), .mv (.tmp 11), none⟩,
   ⟨(some 44), .call (.func 25) [(.tmp 42), (.tmp 43)], none⟩])
 (.seq (.ops [⟨(some 45), .mv (.tmp 8), none⟩,
   ⟨(some 46), .call (.func 27) [(.tmp 45)], none⟩,
   ⟨(some 12), .mv (.tmp 46), none⟩])
 (.seq (.seq (.ops [⟨(some 47), .mv (.tmp 12), none⟩,
   ⟨(some 48), .mv (.tmp 10), none⟩,
   ⟨(some 49), .int .add (.tmp 48) (.const (.int .i64 1)), none⟩,
   ⟨(some 50), .int .gtr (.tmp 47) (.tmp 49), none⟩])
 (.cond (.tmp 50)
  (.seq (.ops [⟨(some 4), .mv (.const (.bool false)), none⟩])
  .ret)
  .skip))
 (.seq (.ops [⟨(some 52), .mv (.tmp 6), none⟩,
   ⟨(some 53), .mv (.tmp 9), none⟩,
   ⟨(some 54), .mv (.tmp 10), none⟩,
   ⟨(some 55), .int .add (.tmp 54) (.const (.int .i64 1)), none⟩,
   ⟨(some 56), .mv (.tmp 12), none⟩,
   ⟨(some 57), .int .sub (.tmp 55) (.tmp 56), none⟩,
   ⟨(some 58), .mv (.tmp 10), none⟩,
   ⟨(some 59), .int .add (.tmp 58) (.const (.int .i64 1)), none⟩,
   ⟨(some 60), .slice (.tmp 53) (some (.tmp 57)) (some (.tmp 59)) 1, none⟩,
   ⟨(some 61), .call (.func 28) [(.tmp 52), (.tmp 60)], none⟩,
   ⟨(some 51), .mv (.tmp 61), none⟩,
   ⟨(some 62), .ext (.tmp 51) 0, none⟩,
   ⟨(some 63), .ext (.tmp 51) 1, none⟩,
   ⟨(some 64), .ext (.tmp 51) 2, none⟩,
   ⟨(some 13), .mv (.tmp 62), none⟩,
   ⟨(some 14), .mv (.tmp 63), none⟩,
   ⟨(some 15), .mv (.tmp 64), none⟩])
 (.seq (.ops [⟨(some 65), .mv (.tmp 12), none⟩,
   ⟨(some 66), .int .gtr (.tmp 65) (.const (.int .i64 0)), none⟩,
   ⟨(some 67), .mv (.tmp 66), none⟩,
   ⟨(some 68), .mv (.tmp 15), some (67, true)⟩,
   ⟨(some 69), .not (.tmp 68), some (67, true)⟩,
   ⟨(some 70), .pick (.tmp 67) (.tmp 69) (.const (.bool false)), none⟩])
 (.cond (.tmp 70)
  (.seq (.ops [⟨(some 4), .mv (.const (.bool false)), none⟩])
  .ret)
  .skip))))))))
 (.ops [⟨(some 71), .int .add (.tmp 37) (.const (.int .i64 1)), none⟩,
   ⟨(some 37), .mv (.tmp 71), none⟩]))))

def k_lontarlaw06_MatchSoon : ACode :=
 (.seq (.ops [⟨(some 4), .mv (.const (.bool false)), none⟩])
 (.seq (.seq (.ops [⟨(some 16), .call (.func 23) [], none⟩,
   ⟨(some 17), .not (.tmp 16), none⟩])
 (.cond (.tmp 17)
  (.seq (.ops [⟨(some 4), .mv (.const (.bool false)), none⟩])
  .ret)
  .skip))
 (.seq (.ops [⟨(some 18), .mv (.tmp 0), none⟩,
   ⟨(some 19), .call (.func 15) [(.tmp 18)], none⟩,
   ⟨(some 5), .mv (.tmp 19), none⟩])
 (.seq (.ops [⟨(some 21), .mv (.tmp 5), none⟩,
   ⟨(some 22), .call (.func 16) [(.tmp 21)], none⟩,
   ⟨(some 20), .mv (.tmp 22), none⟩,
   ⟨(some 23), .ext (.tmp 20) 0, none⟩,
   ⟨(some 24), .ext (.tmp 20) 1, none⟩,
   ⟨(some 6), .mv (.tmp 23), none⟩,
   ⟨(some 7), .mv (.tmp 24), none⟩])
 (.seq (.seq (.ops [⟨(some 25), .mv (.tmp 6), none⟩,
   ⟨(some 26), .isNil 0 false (.tmp 25), none⟩,
   ⟨(some 27), .mv (.tmp 26), none⟩,
   ⟨(some 28), .mv (.tmp 7), some (27, false)⟩,
   ⟨(some 29), .int .neq (.tmp 28) (.const (.int .i64 0)), some (27, false)⟩,
   ⟨(some 30), .pick (.tmp 27) (.const (.bool true)) (.tmp 29), none⟩])
 (.cond (.tmp 30)
  (.seq (.ops [⟨(some 4), .mv (.const (.bool false)), none⟩])
  .ret)
  .skip))
 (.seq (.ops [⟨(some 31), .mv (.tmp 6), none⟩,
   ⟨(some 32), .call (.func 24) [(.tmp 31)], none⟩,
   ⟨(some 8), .mv (.tmp 32), none⟩])
 (.seq (.ops [⟨(some 33), .mv (.tmp 1), none⟩,
   ⟨(some 34), .call (.func 19) [(.tmp 33)], none⟩,
   ⟨(some 9), .mv (.tmp 34), none⟩])
 (.seq (.seq (.ops [⟨(some 35), .mv (.tmp 9), none⟩,
   ⟨(some 36), .len false (.tmp 35), none⟩,
   ⟨(some 37), .mv (.const (.int .i64 0)), none⟩])
 (.block 0 (.loop [6, 8, 9, 35, 36, 37] b_lontarlaw06_MatchSoon_0)))
 (.seq (.ops [⟨(some 72), .mv (.tmp 8), none⟩,
   ⟨(some 73), .call (.func 27) [(.tmp 72)], none⟩,
   ⟨(some 74), .mv (.tmp 9), none⟩,
   ⟨(some 75), .len false (.tmp 74), none⟩,
   ⟨(some 76), .int .leq (.tmp 73) (.tmp 75), none⟩,
   ⟨(some 4), .mv (.tmp 76), none⟩])
 .ret)))))))))
def F_lontarlaw06_MatchSoon : AFunc := ⟨2, 77, [.tmp 4], k_lontarlaw06_MatchSoon⟩
theorem ok_lontarlaw06_MatchSoon : FOK Try.prog 10 F_lontarlaw06_MatchSoon := FOK.of [[6, 8, 9, 35, 36, 37]] Try.func10 (by kernel_rfl) (by kernel_rfl)

-- lontar/lontarlaw06.MatchWaits
@[reducible] def i_lontarlaw06_MatchWaits : Nat := 11
/-- lontarlaw06_MatchWaits: the body of loop 0 -/
def b_lontarlaw06_MatchWaits_0 : ACode :=
 (.seq (.seq (.ops [⟨(some 45), .mv (.tmp 9), none⟩,
   ⟨(some 46), .len false (.tmp 45), none⟩,
   ⟨(some 47), .int .gtr (.tmp 46) (.const (.int .i64 0)), none⟩])
 (.cond (.tmp 47)
  .skip
  (.exit 2)))
 (.block 3 (.seq (.ops [⟨(some 49), .mv (.tmp 5), none⟩,
   ⟨(some 50), .mv (.tmp 9), none⟩,
   ⟨(some 51), .call (.func 29) [(.tmp 49), (.tmp 50)], none⟩,
   ⟨(some 48), .mv (.tmp 51), none⟩,
   ⟨(some 52), .ext (.tmp 48) 0, none⟩,
   ⟨(some 53), .ext (.tmp 48) 1, none⟩,
   ⟨(some 54), .ext (.tmp 48) 2, none⟩,
   ⟨(some 14), .mv (.tmp 52), none⟩,
   ⟨(some 15), .mv (.tmp 53), none⟩,
   ⟨(some 16), .mv (.tmp 54), none⟩])
 (.seq (.ops [⟨(some 55), .mv (.tmp 10), none⟩,
   ⟨(some 56), .mv (.tmp 9), none⟩,
   ⟨(some 57), .len false (.tmp 56), none⟩,
   ⟨(some 58), .int .add (.tmp 55) (.tmp 57), none⟩,
   ⟨(some 10), .mv (.tmp 58), none⟩])
 (.seq (.seq (.ops [⟨(some 59), .mv (.tmp 16), none⟩])
 (.cond (.tmp 59)
  (.exit 2)
  .skip))
 (.seq (.seq (.ops [⟨(some 60), .mv (.tmp 14), none⟩,
   ⟨(some 61), .int .lss (.tmp 60) (.const (.int .i64 0)), none⟩])
 (.cond (.tmp 61)
  (.ops [⟨(some 15), .mv (.const (.int .i64 1)), none⟩])
  .skip))
 (.seq (.ops [⟨(some 62), .mv (.tmp 9), none⟩,
   ⟨(some 63), .mv (.tmp 15), none⟩,
   ⟨(some 64), .slice (.tmp 62) (some (.tmp 63)) none 1, none⟩,
   ⟨(some 9), .mv (.tmp 64), none⟩])
 (.ops [⟨(some 65), .mv (.tmp 13), none⟩,
   ⟨(some 66), .int .add (.tmp 65) (.const (.int .i64 1)), none⟩,
   ⟨(some 13), .mv (.tmp 66), none⟩]))))))))

/-- lontarlaw06_MatchWaits: the body of loop 1 -/
def b_lontarlaw06_MatchWaits_1 : ACode :=
 (.seq (.ops [⟨(some 38), .int .lss (.tmp 37) (.tmp 36), none⟩])
 (.seq (.cond (.tmp 38)
  .skip
  (.exit 0))
 (.seq (.block 1 (.seq (.ops [⟨(some 39), .iaddr (.tmp 35) (.tmp 37) 1, none⟩,
   ⟨(some 40), .load (.tmp 39) none, none⟩,
   ⟨(some 12), .mv (.tmp 40), none⟩])
 (.seq (.ops [⟨(some 41), .mv (.tmp 9), none⟩,
   ⟨(some 42), .mv (.tmp 12), none⟩,
   ⟨(some 43), .bslice 3 1 1 [(.int .i64 0)] [(0, 1, (.tmp 42))], none⟩,
   ⟨(some 44), .append (.tmp 41) (.tmp 43) 3 1 8, none⟩,
   ⟨(some 9), .mv (.tmp 44), none⟩])
 (.seq (.ops [⟨(some 13), .mv (.const (.int .i64 0)), none⟩])
 (.seq (.block 2 (.loop [5, 8, 9, 10, 12, 13, 35, 36, 37] b_lontarlaw06_MatchWaits_0))
 (.seq (.ops [⟨(some 67), .mv (.tmp 8), none⟩,
   ⟨(some 68), .mv (.tmp 12), none⟩,
   ⟨(some 69), .call (.func 25) [(.tmp 67), (.tmp 68)], none⟩,
   ⟨(some 70), .len false (.tmp 69), none⟩,
   ⟨(some 71), .mv (.tmp 13), none⟩,
   ⟨(some 72), .int .neq (.tmp 70) (.tmp 71), none⟩,
   ⟨(some 73), .mv (.tmp 72), none⟩,
   ⟨(some 74), .mv (.tmp 8), some (73, false)⟩,
   ⟨(some 75), .call (.func 27) [(.tmp 74)], some (73, false)⟩,
   ⟨(some 76), .mv (.tmp 9), some (73, false)⟩,
   ⟨(some 77), .len false (.tmp 76), some (73, false)⟩,
   ⟨(some 78), .int .neq (.tmp 75) (.tmp 77), some (73, false)⟩,
   ⟨(some 79), .pick (.tmp 73) (.const (.bool true)) (.tmp 78), none⟩,
   ⟨(some 80), .mv (.tmp 79), none⟩,
   ⟨(some 81), .mv (.tmp 8), some (80, false)⟩,
   ⟨(some 82), .call (.func 30) [(.tmp 81)], some (80, false)⟩,
   ⟨(some 83), .mv (.tmp 10), some (80, false)⟩,
   ⟨(some 84), .int .neq (.tmp 82) (.tmp 83), some (80, false)⟩,
   ⟨(some 85), .pick (.tmp 80) (.const (.bool true)) (.tmp 84), none⟩])
 (.cond (.tmp 85)
  (.seq (.ops [⟨(some 4), .mv (.const (.bool false)), none⟩])
  .ret)
  .skip)))))))
 (.ops [⟨(some 86), .int .add (.tmp 37) (.const (.int .i64 1)), none⟩,
   ⟨(some 37), .mv (.tmp 86), none⟩]))))

def k_lontarlaw06_MatchWaits : ACode :=
 (.seq (.ops [⟨(some 4), .mv (.const (.bool false)), none⟩])
 (.seq (.seq (.ops [⟨(some 17), .call (.func 23) [], none⟩,
   ⟨(some 18), .not (.tmp 17), none⟩])
 (.cond (.tmp 18)
  (.seq (.ops [⟨(some 4), .mv (.const (.bool false)), none⟩])
  .ret)
  .skip))
 (.seq (.ops [⟨(some 19), .mv (.tmp 0), none⟩,
   ⟨(some 20), .call (.func 15) [(.tmp 19)], none⟩,
   ⟨(some 5), .mv (.tmp 20), none⟩])
 (.seq (.ops [⟨(some 22), .mv (.tmp 5), none⟩,
   ⟨(some 23), .call (.func 16) [(.tmp 22)], none⟩,
   ⟨(some 21), .mv (.tmp 23), none⟩,
   ⟨(some 24), .ext (.tmp 21) 0, none⟩,
   ⟨(some 25), .ext (.tmp 21) 1, none⟩,
   ⟨(some 6), .mv (.tmp 24), none⟩,
   ⟨(some 7), .mv (.tmp 25), none⟩])
 (.seq (.seq (.ops [⟨(some 26), .mv (.tmp 6), none⟩,
   ⟨(some 27), .isNil 0 false (.tmp 26), none⟩,
   ⟨(some 28), .mv (.tmp 27), none⟩,
   ⟨(some 29), .mv (.tmp 7), some (28, false)⟩,
   ⟨(some 30), .int .neq (.tmp 29) (.const (.int .i64 0)), some (28, false)⟩,
   ⟨(some 31), .pick (.tmp 28) (.const (.bool true)) (.tmp 30), none⟩])
 (.cond (.tmp 31)
  (.seq (.ops [⟨(some 4), .mv (.const (.bool false)), none⟩])
  .ret)
  .skip))
 (.seq (.ops [⟨(some 32), .mv (.tmp 6), none⟩,
   ⟨(some 33), .call (.func 24) [(.tmp 32)], none⟩,
   ⟨(some 8), .mv (.tmp 33), none⟩])
 (.seq (.ops [⟨(some 9), .mv (.const (.slice none 0 0)), none⟩])
 (.seq (.ops [⟨(some 10), .mv (.const (.int .i64 0)), none⟩])
 (.seq (.seq (.ops [⟨(some 34), .mv (.tmp 1), none⟩,
   ⟨(some 35), .call (.func 19) [(.tmp 34)], none⟩,
   ⟨(some 36), .len false (.tmp 35), none⟩,
   ⟨(some 37), .mv (.const (.int .i64 0)), none⟩])
 (.block 0 (.loop [5, 8, 9, 10, 35, 36, 37] b_lontarlaw06_MatchWaits_1)))
 (.seq (.ops [⟨(some 4), .mv (.const (.bool true)), none⟩])
 .ret))))))))))
def F_lontarlaw06_MatchWaits : AFunc := ⟨2, 87, [.tmp 4], k_lontarlaw06_MatchWaits⟩
theorem ok_lontarlaw06_MatchWaits : FOK Try.prog 11 F_lontarlaw06_MatchWaits := FOK.of [[5, 8, 9, 10, 35, 36, 37], [5, 8, 9, 10, 12, 13, 35, 36, 37]] Try.func11 (by kernel_rfl) (by kernel_rfl)

-- lontar/lontarlaw06.MatchHeld
@[reducible] def i_lontarlaw06_MatchHeld : Nat := 12
/-- lontarlaw06_MatchHeld: the body of loop 0 -/
def b_lontarlaw06_MatchHeld_0 : ACode :=
 (.seq (.ops [⟨(some 34), .int .lss (.tmp 33) (.tmp 32), none⟩])
 (.seq (.cond (.tmp 34)
  .skip
  (.exit 0))
 (.seq (.block 1 (.seq (.ops [⟨(some 35), .iaddr (.tmp 31) (.tmp 33) 1, none⟩,
   ⟨(some 36), .load (.tmp 35) none, none⟩,
   ⟨(some 11), .mv (.tmp 36), none⟩])
 (.seq (.ops [⟨(some 37), .mv (.tmp 8), none⟩,
   ⟨(some 38), .mv (.tmp 11), none⟩,
   ⟨(some 39), .call (.func 25) [(.tmp 37), (.tmp 38)], none⟩])
 (.seq (.ops [⟨(some 40), .mv (.tmp 8), none⟩,
   ⟨(some 41), .call (.func 27) [(.tmp 40)], none⟩,
   ⟨(some 42), .mv (.tmp 5), none⟩,
   ⟨(some 43), .call (.func 31) [(.tmp 42)], none⟩,
   ⟨(some 44), .max2 (.const (.int .i64 1)) (.tmp 43), none⟩,
   ⟨(some 45), .int .geq (.tmp 41) (.tmp 44), none⟩])
 (.cond (.tmp 45)
  (.seq (.ops [⟨(some 4), .mv (.const (.bool false)), none⟩])
  .ret)
  .skip)))))
 (.ops [⟨(some 46), .int .add (.tmp 33) (.const (.int .i64 1)), none⟩,
   ⟨(some 33), .mv (.tmp 46), none⟩]))))

def k_lontarlaw06_MatchHeld : ACode :=
 (.seq (.ops [⟨(some 4), .mv (.const (.bool false)), none⟩])
 (.seq (.seq (.ops [⟨(some 12), .call (.func 23) [], none⟩,
   ⟨(some 13), .not (.tmp 12), none⟩])
 (.cond (.tmp 13)
  (.seq (.ops [⟨(some 4), .mv (.const (.bool false)), none⟩])
  .ret)
  .skip))
 (.seq (.ops [⟨(some 14), .mv (.tmp 0), none⟩,
   ⟨(some 15), .call (.func 15) [(.tmp 14)], none⟩,
   ⟨(some 5), .mv (.tmp 15), none⟩])
 (.seq (.ops [⟨(some 17), .mv (.tmp 5), none⟩,
   ⟨(some 18), .call (.func 16) [(.tmp 17)], none⟩,
   ⟨(some 16), .mv (.tmp 18), none⟩,
   ⟨(some 19), .ext (.tmp 16) 0, none⟩,
   ⟨(some 20), .ext (.tmp 16) 1, none⟩,
   ⟨(some 6), .mv (.tmp 19), none⟩,
   ⟨(some 7), .mv (.tmp 20), none⟩])
 (.seq (.seq (.ops [⟨(some 21), .mv (.tmp 6), none⟩,
   ⟨(some 22), .isNil 0 false (.tmp 21), none⟩,
   ⟨(some 23), .mv (.tmp 22), none⟩,
   ⟨(some 24), .mv (.tmp 7), some (23, false)⟩,
   ⟨(some 25), .int .neq (.tmp 24) (.const (.int .i64 0)), some (23, false)⟩,
   ⟨(some 26), .pick (.tmp 23) (.const (.bool true)) (.tmp 25), none⟩])
 (.cond (.tmp 26)
  (.seq (.ops [⟨(some 4), .mv (.const (.bool false)), none⟩])
  .ret)
  .skip))
 (.seq (.ops [⟨(some 27), .mv (.tmp 6), none⟩,
   ⟨(some 28), .call (.func 24) [(.tmp 27)], none⟩,
   ⟨(some 8), .mv (.tmp 28), none⟩])
 (.seq (.ops [⟨(some 29), .mv (.tmp 1), none⟩,
   ⟨(some 30), .call (.func 19) [(.tmp 29)], none⟩,
   ⟨(some 9), .mv (.tmp 30), none⟩])
 (.seq (.seq (.ops [⟨(some 31), .mv (.tmp 9), none⟩,
   ⟨(some 32), .len false (.tmp 31), none⟩,
   ⟨(some 33), .mv (.const (.int .i64 0)), none⟩])
 (.block 0 (.loop [5, 8, 9, 31, 32, 33] b_lontarlaw06_MatchHeld_0)))
 (.seq (.ops [⟨(some 47), .mv (.tmp 8), none⟩,
   ⟨(some 48), .call (.func 26) [(.tmp 47)], none⟩])
 (.seq (.ops [⟨(some 49), .mv (.tmp 8), none⟩,
   ⟨(some 50), .call (.func 27) [(.tmp 49)], none⟩,
   ⟨(some 51), .int .eql (.tmp 50) (.const (.int .i64 0)), none⟩,
   ⟨(some 52), .mv (.tmp 51), none⟩,
   ⟨(some 53), .mv (.tmp 8), some (52, true)⟩,
   ⟨(some 54), .call (.func 30) [(.tmp 53)], some (52, true)⟩,
   ⟨(some 55), .mv (.tmp 9), some (52, true)⟩,
   ⟨(some 56), .len false (.tmp 55), some (52, true)⟩,
   ⟨(some 57), .int .mul (.const (.int .i64 16)) (.tmp 56), some (52, true)⟩,
   ⟨(some 58), .int .add (.tmp 57) (.const (.int .i64 64)), some (52, true)⟩,
   ⟨(some 59), .int .leq (.tmp 54) (.tmp 58), some (52, true)⟩,
   ⟨(some 60), .pick (.tmp 52) (.tmp 59) (.const (.bool false)), none⟩,
   ⟨(some 4), .mv (.tmp 60), none⟩])
 .ret))))))))))
def F_lontarlaw06_MatchHeld : AFunc := ⟨2, 61, [.tmp 4], k_lontarlaw06_MatchHeld⟩
theorem ok_lontarlaw06_MatchHeld : FOK Try.prog 12 F_lontarlaw06_MatchHeld := FOK.of [[5, 8, 9, 31, 32, 33]] Try.func12 (by kernel_rfl) (by kernel_rfl)

-- lontar/lontarlaw06.MatchEnds
@[reducible] def i_lontarlaw06_MatchEnds : Nat := 13
/-- lontarlaw06_MatchEnds: the body of loop 0 -/
def b_lontarlaw06_MatchEnds_0 : ACode :=
 (.seq (.ops [⟨(some 43), .int .lss (.tmp 42) (.tmp 41), none⟩])
 (.seq (.cond (.tmp 43)
  .skip
  (.exit 0))
 (.seq (.block 1 (.seq (.ops [⟨(some 44), .iaddr (.tmp 40) (.tmp 42) 1, none⟩,
   ⟨(some 45), .load (.tmp 44) none, none⟩,
   ⟨(some 14), .mv (.tmp 45), none⟩])
 (.ops [⟨(some 46), .mv (.tmp 12), none⟩,
   ⟨(some 47), .mv (.tmp 11), none⟩,
   ⟨(some 48), .mv (.tmp 14), none⟩,
   ⟨(some 49), .call (.func 25) [(.tmp 47), (.tmp 48)], none⟩,
   ⟨(some 50), .append (.tmp 46) (.tmp 49) 39 4 48, none⟩,
   ⟨(some 12), .mv (.tmp 50), none⟩])))
 (.ops [⟨(some 51), .int .add (.tmp 42) (.const (.int .i64 1)), none⟩,
   ⟨(some 42), .mv (.tmp 51), none⟩]))))

/-- lontarlaw06_MatchEnds: the body of loop 1 -/
def b_lontarlaw06_MatchEnds_1 : ACode :=
 (.seq (.ops [⟨(some 61), .int .lss (.tmp 60) (.tmp 59), none⟩])
 (.seq (.cond (.tmp 61)
  .skip
  (.exit 2))
 (.seq (.block 3 (.seq (.ops [⟨(some 62), .iaddr (.tmp 58) (.tmp 60) 1, none⟩,
   ⟨(some 63), .load (.tmp 62) none, none⟩,
   ⟨(some 17), .mv (.tmp 63), none⟩])
 (.ops [⟨(some 64), .mv (.tmp 12), none⟩,
   ⟨(some 65), .mv (.tmp 11), none⟩,
   ⟨(some 66), .mv (.tmp 17), none⟩,
   ⟨(some 67), .call (.func 25) [(.tmp 65), (.tmp 66)], none⟩,
   ⟨(some 68), .append (.tmp 64) (.tmp 67) 39 4 48, none⟩,
   ⟨(some 12), .mv (.tmp 68), none⟩])))
 (.ops [⟨(some 69), .int .add (.tmp 60) (.const (.int .i64 1)), none⟩,
   ⟨(some 60), .mv (.tmp 69), none⟩]))))

/-- lontarlaw06_MatchEnds: the body of loop 2 -/
def b_lontarlaw06_MatchEnds_2 : ACode :=
 (.seq (.ops [⟨(some 80), .int .lss (.tmp 79) (.tmp 78), none⟩])
 (.seq (.cond (.tmp 80)
  .skip
  (.exit 4))
 (.seq (.block 5 (.seq (.ops [⟨(some 81), .mv (.tmp 79), none⟩,
   ⟨(some 19), .mv (.tmp 81), none⟩])
 (.ops [⟨(some 82), .mv (.tmp 18), none⟩,
   ⟨(some 83), .mv (.tmp 19), none⟩,
   ⟨(some 84), .iaddr (.tmp 82) (.tmp 83) 4, none⟩,
   ⟨(some 85), .faddr (.tmp 84) 0, none⟩,
   ⟨(some 86), .load (.tmp 85) none, none⟩,
   ⟨(some 87), .mv (.tmp 9), none⟩,
   ⟨(some 88), .len false (.tmp 87), none⟩,
   ⟨(some 89), .int .add (.tmp 86) (.tmp 88), none⟩,
   ⟨(some 90), .iaddr (.tmp 82) (.tmp 83) 4, none⟩,
   ⟨(some 91), .faddr (.tmp 90) 0, none⟩,
   ⟨none, .store (.tmp 91) (.tmp 89) 1, none⟩])))
 (.ops [⟨(some 92), .int .add (.tmp 79) (.const (.int .i64 1)), none⟩,
   ⟨(some 79), .mv (.tmp 92), none⟩]))))

def k_lontarlaw06_MatchEnds : ACode :=
 (.seq (.ops [⟨(some 6), .mv (.const (.bool false)), none⟩])
 (.seq (.seq (.ops [⟨(some 20), .call (.func 23) [], none⟩,
   ⟨(some 21), .not (.tmp 20), none⟩])
 (.cond (.tmp 21)
  (.seq (.ops [⟨(some 6), .mv (.const (.bool false)), none⟩])
  .ret)
  .skip))
 (.seq (.ops [⟨(some 23), .mv (.tmp 0), none⟩,
   ⟨(some 24), .call (.func 15) [(.tmp 23)], none⟩,
   ⟨(some 25), .call (.func 16) [(.tmp 24)], none⟩,
   ⟨(some 22), .mv (.tmp 25), none⟩,
   ⟨(some 26), .ext (.tmp 22) 0, none⟩,
   ⟨(some 27), .ext (.tmp 22) 1, none⟩,
   ⟨(some 7), .mv (.tmp 26), none⟩,
   ⟨(some 8), .mv (.tmp 27), none⟩])
 (.seq (.seq (.ops [⟨(some 28), .mv (.tmp 7), none⟩,
   ⟨(some 29), .isNil 0 false (.tmp 28), none⟩,
   ⟨(some 30), .mv (.tmp 29), none⟩,
   ⟨(some 31), .mv (.tmp 8), some (30, false)⟩,
   ⟨(some 32), .int .neq (.tmp 31) (.const (.int .i64 0)), some (30, false)⟩,
   ⟨(some 33), .pick (.tmp 30) (.const (.bool true)) (.tmp 32), none⟩])
 (.cond (.tmp 33)
  (.seq (.ops [⟨(some 6), .mv (.const (.bool false)), none⟩])
  .ret)
  .skip))
 (.seq (.ops [⟨(some 34), .mv (.tmp 1), none⟩,
   ⟨(some 35), .call (.func 19) [(.tmp 34)], none⟩,
   ⟨(some 36), .mv (.tmp 2), none⟩,
   ⟨(some 37), .call (.func 19) [(.tmp 36)], none⟩,
   ⟨(some 9), .mv (.tmp 35), none⟩,
   ⟨(some 10), .mv (.tmp 37), none⟩])
 (.seq (.ops [⟨(some 38), .mv (.tmp 7), none⟩,
   ⟨(some 39), .call (.func 24) [(.tmp 38)], none⟩,
   ⟨(some 11), .mv (.tmp 39), none⟩])
 (.seq (.ops [⟨(some 12), .mv (.const (.slice none 0 0)), none⟩])
 (.seq (.seq (.ops [⟨(some 40), .mv (.tmp 9), none⟩,
   ⟨(some 41), .len false (.tmp 40), none⟩,
   ⟨(some 42), .mv (.const (.int .i64 0)), none⟩])
 (.block 0 (.loop [7, 9, 10, 11, 12, 40, 41, 42] b_lontarlaw06_MatchEnds_0)))
 (.seq (.ops [⟨(some 52), .mv (.tmp 12), none⟩,
   ⟨(some 53), .mv (.tmp 11), none⟩,
   ⟨(some 54), .call (.func 26) [(.tmp 53)], none⟩,
   ⟨(some 55), .append (.tmp 52) (.tmp 54) 39 4 48, none⟩,
   ⟨(some 12), .mv (.tmp 55), none⟩])
 (.seq (.ops [⟨(some 56), .mv (.tmp 12), none⟩,
   ⟨(some 57), .len false (.tmp 56), none⟩,
   ⟨(some 15), .mv (.tmp 57), none⟩])
 (.seq (.seq (.ops [⟨(some 58), .mv (.tmp 10), none⟩,
   ⟨(some 59), .len false (.tmp 58), none⟩,
   ⟨(some 60), .mv (.const (.int .i64 0)), none⟩])
 (.block 2 (.loop [7, 9, 10, 11, 12, 15, 58, 59, 60] b_lontarlaw06_MatchEnds_1)))
 (.seq (.ops [⟨(some 70), .mv (.tmp 12), none⟩,
   ⟨(some 71), .mv (.tmp 11), none⟩,
   ⟨(some 72), .call (.func 26) [(.tmp 71)], none⟩,
   ⟨(some 73), .append (.tmp 70) (.tmp 72) 39 4 48, none⟩,
   ⟨(some 12), .mv (.tmp 73), none⟩])
 (.seq (.ops [⟨(some 74), .mv (.tmp 7), none⟩,
   ⟨(some 75), .mv (.tmp 10), none⟩,
   ⟨(some 76), .call (.func 18) [(.tmp 74), (.tmp 75)], none⟩,
   ⟨(some 18), .mv (.tmp 76), none⟩])
 (.seq (.seq (.ops [⟨(some 77), .mv (.tmp 18), none⟩,
   ⟨(some 78), .len false (.tmp 77), none⟩,
   ⟨(some 79), .mv (.const (.int .i64 0)), none⟩])
 (.block 4 (.loop [7, 9, 12, 15, 18, 78, 79] b_lontarlaw06_MatchEnds_2)))
 (.seq (.draw [⟨(some 93), .mv (.tmp 12), none⟩,
   ⟨(some 94), .mv (.tmp 15), none⟩,
   ⟨(some 95), .slice (.tmp 93) none (some (.tmp 94)) 4, none⟩,
   ⟨(some 96), .mv (.tmp 7), none⟩,
   ⟨(some 97), .mv (.tmp 9), none⟩,
   ⟨(some 98), .call (.func 18) [(.tmp 96), (.tmp 97)], none⟩,
   ⟨(some 99), .call (.func 17) [(.tmp 95), (.tmp 98)], none⟩,
   ⟨(some 100), .mv (.tmp 99), none⟩,
   ⟨(some 101), .mv (.tmp 12), some (100, true)⟩,
   ⟨(some 102), .mv (.tmp 15), some (100, true)⟩,
   ⟨(some 103), .slice (.tmp 101) (some (.tmp 102)) none 4, some (100, true)⟩,
   ⟨(some 104), .mv (.tmp 18), some (100, true)⟩,
   ⟨(some 105), .call (.func 17) [(.tmp 103), (.tmp 104)], some (100, true)⟩,
   ⟨(some 106), .pick (.tmp 100) (.tmp 105) (.const (.bool false)), none⟩,
   ⟨(some 6), .mv (.tmp 106), none⟩])
 .ret)))))))))))))))
def F_lontarlaw06_MatchEnds : AFunc := ⟨3, 107, [.tmp 6], k_lontarlaw06_MatchEnds⟩
theorem ok_lontarlaw06_MatchEnds : FOK Try.prog 13 F_lontarlaw06_MatchEnds := FOK.of [[7, 9, 10, 11, 12, 40, 41, 42], [7, 9, 10, 11, 12, 15, 58, 59, 60], [7, 9, 12, 15, 18, 78, 79], [0, 1, 2, 3, 4, 5, 6, 7, 8, 9, 10, 11, 12, 13, 14]] Try.func13 (by kernel_rfl) (by kernel_rfl)

-- lontar/lontarlaw05.awake
@[reducible] def i_lontarlaw05_awake : Nat := 14
def k_lontarlaw05_awake : ACode :=
 (.seq (.ops [⟨(some 0), .mv (.const (.bool false)), none⟩])
 (.seq (.ops [⟨(some 7), .bslice 3 1 1 [(.int .i64 0)] [(0, 1, (.const (.int .i64 1)))], none⟩,
   ⟨(some 8), .bslice 3 1 1 [(.int .i64 0)] [(0, 1, (.const (.int .i64 7)))], none⟩,
   ⟨(some 9), .build [(.slice none 0 0), (.slice none 0 0)] [(0, 1, (.tmp 7)), (1, 1, (.tmp 8))], none⟩,
   ⟨(some 10), .bslice 3 2 1 [(.int .i64 0)] [(0, 1, (.const (.int .i64 1))), (1, 1, (.const (.int .i64 2)))], none⟩,
   ⟨(some 11), .bslice 3 2 1 [(.int .i64 0)] [(0, 1, (.const (.int .i64 8))), (1, 1, (.const (.int .i64 9)))], none⟩,
   ⟨(some 12), .build [(.slice none 0 0), (.slice none 0 0)] [(0, 1, (.tmp 10)), (1, 1, (.tmp 11))], none⟩,
   ⟨(some 13), .bslice 51 2 2 [(.slice none 0 0), (.slice none 0 0)] [(0, 2, (.tmp 9)), (2, 2, (.tmp 12))], none⟩,
   ⟨(some 14), .call (.func 16) [(.tmp 13)], none⟩,
   ⟨(some 6), .mv (.tmp 14), none⟩,
   ⟨(some 15), .ext (.tmp 6) 0, none⟩,
   ⟨(some 16), .ext (.tmp 6) 1, none⟩,
   ⟨(some 1), .mv (.tmp 15), none⟩,
   ⟨(some 2), .mv (.tmp 16), none⟩])
 (.seq (.seq (.ops [⟨(some 17), .mv (.tmp 1), none⟩,
   ⟨(some 18), .isNil 0 false (.tmp 17), none⟩,
   ⟨(some 19), .mv (.tmp 18), none⟩,
   ⟨(some 20), .mv (.tmp 2), some (19, false)⟩,
   ⟨(some 21), .int .neq (.tmp 20) (.const (.int .i64 0)), some (19, false)⟩,
   ⟨(some 22), .pick (.tmp 19) (.const (.bool true)) (.tmp 21), none⟩])
 (.cond (.tmp 22)
  (.seq (.ops [⟨(some 0), .mv (.const (.bool false)), none⟩])
  .ret)
  .skip))
 (.seq (.ops [⟨(some 23), .mv (.tmp 1), none⟩,
   ⟨(some 24), .bslice 3 4 1 [(.int .i64 0)] [(0, 1, (.const (.int .i64 1))), (1, 1, (.const (.int .i64 2))), (2, 1, (.const (.int .i64 1))), (3, 1, (.const (.int .i64 3)))], none⟩,
   ⟨(some 25), .call (.func 18) [(.tmp 23), (.tmp 24)], none⟩,
   ⟨(some 3), .mv (.tmp 25), none⟩])
 (.seq (.ops [⟨(some 27), .mv (.tmp 3), none⟩,
   ⟨(some 28), .call (.func 21) [(.tmp 27)], none⟩,
   ⟨(some 26), .mv (.tmp 28), none⟩,
   ⟨(some 29), .ext (.tmp 26) 0, none⟩,
   ⟨(some 30), .ext (.tmp 26) 1, none⟩,
   ⟨(some 5), .alloc [(.int .i64 0), (.int .i64 0), (.slice none 0 0), (.int .i64 0)] 39, none⟩,
   ⟨(some 4), .mv (.tmp 29), none⟩,
   ⟨none, .store (.tmp 5) (.tmp 30) 4, none⟩])
 (.seq (.ops [⟨(some 31), .mv (.tmp 3), none⟩,
   ⟨(some 32), .len false (.tmp 31), none⟩,
   ⟨(some 33), .int .eql (.tmp 32) (.const (.int .i64 3)), none⟩,
   ⟨(some 34), .mv (.tmp 33), none⟩,
   ⟨(some 35), .mv (.tmp 4), some (34, true)⟩,
   ⟨(some 36), .len false (.tmp 35), some (34, true)⟩,
   ⟨(some 37), .int .eql (.tmp 36) (.const (.int .i64 3)), some (34, true)⟩,
   ⟨(some 38), .pick (.tmp 34) (.tmp 37) (.const (.bool false)), none⟩,
   ⟨(some 39), .mv (.tmp 38), none⟩,
   ⟨(some 40), .mv (.tmp 4), some (39, true)⟩,
   ⟨(some 41), .iaddr (.tmp 40) (.const (.int .i64 0)) 1, some (39, true)⟩,
   ⟨(some 42), .load (.tmp 41) none, some (39, true)⟩,
   ⟨(some 43), .int .eql (.tmp 42) (.const (.int .i64 8)), some (39, true)⟩,
   ⟨(some 44), .pick (.tmp 39) (.tmp 43) (.const (.bool false)), none⟩,
   ⟨(some 45), .mv (.tmp 44), none⟩,
   ⟨(some 46), .mv (.tmp 4), some (45, true)⟩,
   ⟨(some 47), .iaddr (.tmp 46) (.const (.int .i64 2)) 1, some (45, true)⟩,
   ⟨(some 48), .load (.tmp 47) none, some (45, true)⟩,
   ⟨(some 49), .int .eql (.tmp 48) (.const (.int .i64 7)), some (45, true)⟩,
   ⟨(some 50), .pick (.tmp 45) (.tmp 49) (.const (.bool false)), none⟩,
   ⟨(some 51), .mv (.tmp 50), none⟩,
   ⟨(some 52), .faddr (.tmp 5) 0, some (51, true)⟩,
   ⟨(some 53), .load (.tmp 52) none, some (51, true)⟩,
   ⟨(some 54), .int .eql (.tmp 53) (.const (.int .i64 3)), some (51, true)⟩,
   ⟨(some 55), .pick (.tmp 51) (.tmp 54) (.const (.bool false)), none⟩,
   ⟨(some 56), .mv (.tmp 55), none⟩,
   ⟨(some 57), .faddr (.tmp 5) 3, some (56, true)⟩,
   ⟨(some 58), .load (.tmp 57) none, some (56, true)⟩,
   ⟨(some 59), .int .eql (.tmp 58) (.const (.int .i64 3)), some (56, true)⟩,
   ⟨(some 60), .pick (.tmp 56) (.tmp 59) (.const (.bool false)), none⟩,
   ⟨(some 0), .mv (.tmp 60), none⟩])
 .ret))))))
def F_lontarlaw05_awake : AFunc := ⟨0, 61, [.tmp 0], k_lontarlaw05_awake⟩
theorem ok_lontarlaw05_awake : FOK Try.prog 14 F_lontarlaw05_awake := FOK.of [] Try.func14 (by kernel_rfl) (by kernel_rfl)

-- lontar/lontarlaw03.Right
@[reducible] def i_lontarlaw03_Right : Nat := 15
/-- lontarlaw03_Right: the body of loop 0 -/
def b_lontarlaw03_Right_0 : ACode :=
 (.seq (.ops [⟨(some 10), .int .lss (.tmp 9) (.tmp 8), none⟩])
 (.seq (.cond (.tmp 10)
  .skip
  (.exit 0))
 (.seq (.block 1 (.seq (.ops [⟨(some 11), .iaddr (.tmp 7) (.tmp 9) 2, none⟩,
   ⟨(some 12), .load (.tmp 11) (some 2), none⟩,
   ⟨(some 5), .alloc [(.slice none 0 0), (.slice none 0 0)] 51, none⟩,
   ⟨none, .store (.tmp 5) (.tmp 12) 2, none⟩])
 (.seq (.ops [⟨(some 13), .faddr (.tmp 5) 0, none⟩,
   ⟨(some 14), .load (.tmp 13) none, none⟩,
   ⟨(some 15), .call (.func 33) [(.tmp 14)], none⟩,
   ⟨(some 16), .mv (.tmp 15), none⟩,
   ⟨(some 17), .faddr (.tmp 5) 1, some (16, true)⟩,
   ⟨(some 18), .load (.tmp 17) none, some (16, true)⟩,
   ⟨(some 19), .call (.func 33) [(.tmp 18)], some (16, true)⟩,
   ⟨(some 20), .pick (.tmp 16) (.tmp 19) (.const (.bool false)), none⟩,
   ⟨(some 21), .mv (.tmp 20), none⟩,
   ⟨(some 22), .mv (.tmp 3), some (21, true)⟩,
   ⟨(some 23), .faddr (.tmp 5) 0, some (21, true)⟩,
   ⟨(some 24), .load (.tmp 23) none, some (21, true)⟩,
   ⟨(some 25), .call (.func 34) [(.tmp 22), (.tmp 24)], some (21, true)⟩,
   ⟨(some 26), .int .lss (.tmp 25) (.const (.int .i64 0)), some (21, true)⟩,
   ⟨(some 27), .pick (.tmp 21) (.tmp 26) (.const (.bool false)), none⟩])
 (.cond (.tmp 27)
  (.ops [⟨(some 28), .mv (.tmp 3), none⟩,
    ⟨(some 29), .load (.tmp 5) (some 2), none⟩,
    ⟨(some 30), .bslice 51 1 2 [(.slice none 0 0), (.slice none 0 0)] [(0, 2, (.tmp 29))], none⟩,
    ⟨(some 31), .append (.tmp 28) (.tmp 30) 51 2 48, none⟩,
    ⟨(some 3), .mv (.tmp 31), none⟩])
  .skip))))
 (.ops [⟨(some 32), .int .add (.tmp 9) (.const (.int .i64 1)), none⟩,
   ⟨(some 9), .mv (.tmp 32), none⟩]))))

def k_lontarlaw03_Right : ACode :=
 (.seq (.ops [⟨(some 2), .mv (.const (.slice none 0 0)), none⟩])
 (.seq (.ops [⟨(some 3), .mv (.const (.slice none 0 0)), none⟩])
 (.seq (.seq (.ops [⟨(some 6), .mv (.tmp 0), none⟩,
   ⟨(some 7), .call (.func 32) [(.tmp 6)], none⟩,
   ⟨(some 8), .len false (.tmp 7), none⟩,
   ⟨(some 9), .mv (.const (.int .i64 0)), none⟩])
 (.block 0 (.loop [3, 7, 8, 9] b_lontarlaw03_Right_0)))
 (.seq (.ops [⟨(some 33), .mv (.tmp 3), none⟩,
   ⟨(some 2), .mv (.tmp 33), none⟩])
 .ret))))
def F_lontarlaw03_Right : AFunc := ⟨1, 34, [.tmp 2], k_lontarlaw03_Right⟩
theorem ok_lontarlaw03_Right : FOK Try.prog 15 F_lontarlaw03_Right := FOK.of [[3, 7, 8, 9]] Try.func15 (by kernel_rfl) (by kernel_rfl)

-- lontar/trie.Of
@[reducible] def i_trie_Of : Nat := 16
/-- trie_Of: the body of loop 0 -/
def b_trie_Of_0 : ACode :=
 (.seq (.ops [⟨(some 50), .int .lss (.tmp 49) (.tmp 48), none⟩])
 (.seq (.cond (.tmp 50)
  .skip
  (.exit 2))
 (.seq (.block 3 (.seq (.ops [⟨(some 51), .iaddr (.tmp 47) (.tmp 49) 1, none⟩,
   ⟨(some 52), .load (.tmp 51) none, none⟩,
   ⟨(some 11), .mv (.tmp 52), none⟩])
 (.seq (.ops [⟨(some 54), .mv (.tmp 6), none⟩,
   ⟨(some 55), .mv (.tmp 9), none⟩,
   ⟨(some 56), .mv (.tmp 11), none⟩,
   ⟨(some 57), .call (.func 36) [(.tmp 54), (.tmp 55), (.tmp 56)], none⟩,
   ⟨(some 53), .mv (.tmp 57), none⟩,
   ⟨(some 58), .ext (.tmp 53) 0, none⟩,
   ⟨(some 59), .ext (.tmp 53) 1, none⟩,
   ⟨(some 12), .mv (.tmp 58), none⟩,
   ⟨(some 13), .mv (.tmp 59), none⟩])
 (.seq (.seq (.ops [⟨(some 60), .mv (.tmp 13), none⟩,
   ⟨(some 61), .not (.tmp 60), none⟩])
 (.cond (.tmp 61)
  (.seq (.ops [⟨(some 62), .mv (.tmp 6), none⟩,
    ⟨(some 63), .nilChk (.tmp 62), none⟩,
    ⟨(some 64), .faddr (.tmp 63) 0, none⟩,
    ⟨(some 65), .load (.tmp 64) none, none⟩,
    ⟨(some 66), .len false (.tmp 65), none⟩,
    ⟨(some 12), .mv (.tmp 66), none⟩])
  (.seq (.draw [⟨(some 67), .mv (.tmp 6), none⟩,
    ⟨(some 68), .mv (.tmp 6), none⟩,
    ⟨(some 69), .nilChk (.tmp 68), none⟩,
    ⟨(some 70), .faddr (.tmp 69) 0, none⟩,
    ⟨(some 71), .load (.tmp 70) none, none⟩,
    ⟨(some 72), .mv (.tmp 11), none⟩,
    ⟨(some 73), .mv (.tmp 6), none⟩,
    ⟨(some 74), .nilChk (.tmp 73), none⟩,
    ⟨(some 75), .faddr (.tmp 74) 0, none⟩,
    ⟨(some 76), .load (.tmp 75) none, none⟩,
    ⟨(some 77), .mv (.tmp 9), none⟩,
    ⟨(some 78), .iaddr (.tmp 76) (.tmp 77) 4, none⟩,
    ⟨(some 79), .faddr (.tmp 78) 1, none⟩,
    ⟨(some 80), .load (.tmp 79) none, none⟩,
    ⟨(some 81), .build [(.int .i64 0), (.int .i64 0), (.int .i64 0), (.int .i64 0)] [(0, 1, (.tmp 72)), (2, 1, (.tmp 80)), (3, 1, (.const (.int .i64 (-1))))], none⟩,
    ⟨(some 82), .bslice 70 1 4 [(.int .i64 0), (.int .i64 0), (.int .i64 0), (.int .i64 0)] [(0, 4, (.tmp 81))], none⟩,
    ⟨(some 83), .append (.tmp 71) (.tmp 82) 70 4 32, none⟩,
    ⟨(some 84), .nilChk (.tmp 67), none⟩,
    ⟨(some 85), .faddr (.tmp 84) 0, none⟩,
    ⟨none, .store (.tmp 85) (.tmp 83) 1, none⟩])
  (.ops [⟨(some 86), .mv (.tmp 6), none⟩,
    ⟨(some 87), .nilChk (.tmp 86), none⟩,
    ⟨(some 88), .faddr (.tmp 87) 0, none⟩,
    ⟨(some 89), .load (.tmp 88) none, none⟩,
    ⟨(some 90), .mv (.tmp 9), none⟩,
    ⟨(some 91), .mv (.tmp 12), none⟩,
    ⟨(some 92), .iaddr (.tmp 89) (.tmp 90) 4, none⟩,
    ⟨(some 93), .faddr (.tmp 92) 1, none⟩,
    ⟨none, .store (.tmp 93) (.tmp 91) 1, none⟩])))
  .skip))
 (.ops [⟨(some 94), .mv (.tmp 12), none⟩,
   ⟨(some 9), .mv (.tmp 94), none⟩])))))
 (.ops [⟨(some 95), .int .add (.tmp 49) (.const (.int .i64 1)), none⟩,
   ⟨(some 49), .mv (.tmp 95), none⟩]))))

/-- trie_Of: the body of loop 1 -/
def b_trie_Of_1 : ACode :=
 (.seq (.ops [⟨(some 29), .int .lss (.tmp 28) (.tmp 27), none⟩])
 (.seq (.cond (.tmp 29)
  .skip
  (.exit 0))
 (.seq (.block 1 (.seq (.ops [⟨(some 30), .mv (.tmp 28), none⟩,
   ⟨(some 31), .iaddr (.tmp 26) (.tmp 28) 2, none⟩,
   ⟨(some 32), .load (.tmp 31) (some 2), none⟩,
   ⟨(some 8), .alloc [(.slice none 0 0), (.slice none 0 0)] 51, none⟩,
   ⟨(some 7), .mv (.tmp 30), none⟩,
   ⟨none, .store (.tmp 8) (.tmp 32) 2, none⟩])
 (.seq (.ops [⟨(some 9), .mv (.const (.int .i64 0)), none⟩])
 (.seq (.draw [⟨(some 33), .mv (.tmp 6), none⟩,
   ⟨(some 34), .mv (.tmp 6), none⟩,
   ⟨(some 35), .nilChk (.tmp 34), none⟩,
   ⟨(some 36), .faddr (.tmp 35) 1, none⟩,
   ⟨(some 37), .load (.tmp 36) none, none⟩,
   ⟨(some 38), .faddr (.tmp 8) 1, none⟩,
   ⟨(some 39), .load (.tmp 38) none, none⟩,
   ⟨(some 40), .append (.const (.slice none 0 0)) (.tmp 39) 3 1 8, none⟩,
   ⟨(some 41), .build [(.slice none 0 0), (.slice none 0 0)] [(1, 1, (.tmp 40))], none⟩,
   ⟨(some 42), .bslice 51 1 2 [(.slice none 0 0), (.slice none 0 0)] [(0, 2, (.tmp 41))], none⟩,
   ⟨(some 43), .append (.tmp 37) (.tmp 42) 51 2 48, none⟩,
   ⟨(some 44), .nilChk (.tmp 33), none⟩,
   ⟨(some 45), .faddr (.tmp 44) 1, none⟩,
   ⟨none, .store (.tmp 45) (.tmp 43) 1, none⟩])
 (.seq (.seq (.ops [⟨(some 46), .faddr (.tmp 8) 0, none⟩,
   ⟨(some 47), .load (.tmp 46) none, none⟩,
   ⟨(some 48), .len false (.tmp 47), none⟩,
   ⟨(some 49), .mv (.const (.int .i64 0)), none⟩])
 (.block 2 (.loop [6, 7, 9, 26, 27, 28, 47, 48, 49] b_trie_Of_0)))
 (.ops [⟨(some 96), .mv (.tmp 6), none⟩,
   ⟨(some 97), .nilChk (.tmp 96), none⟩,
   ⟨(some 98), .faddr (.tmp 97) 0, none⟩,
   ⟨(some 99), .load (.tmp 98) none, none⟩,
   ⟨(some 100), .mv (.tmp 9), none⟩,
   ⟨(some 101), .mv (.tmp 7), none⟩,
   ⟨(some 102), .iaddr (.tmp 99) (.tmp 100) 4, none⟩,
   ⟨(some 103), .faddr (.tmp 102) 3, none⟩,
   ⟨none, .store (.tmp 103) (.tmp 101) 1, none⟩]))))))
 (.ops [⟨(some 104), .int .add (.tmp 28) (.const (.int .i64 1)), none⟩,
   ⟨(some 28), .mv (.tmp 104), none⟩]))))

def k_trie_Of : ACode :=
 (.seq (.ops [⟨(some 2), .mv (.const (.pointer none)), none⟩,
   ⟨(some 3), .mv (.const (.int .i64 0)), none⟩])
 (.seq (.seq (.ops [⟨(some 15), .mv (.tmp 0), none⟩,
   ⟨(some 16), .call (.func 35) [(.tmp 15)], none⟩,
   ⟨(some 14), .mv (.tmp 16), none⟩,
   ⟨(some 17), .ext (.tmp 14) 0, none⟩,
   ⟨(some 18), .ext (.tmp 14) 1, none⟩,
   ⟨(some 4), .mv (.tmp 17), none⟩,
   ⟨(some 5), .mv (.tmp 18), none⟩])
 (.seq (.ops [⟨(some 19), .mv (.tmp 5), none⟩,
   ⟨(some 20), .int .neq (.tmp 19) (.const (.int .i64 0)), none⟩])
 (.cond (.tmp 20)
  (.seq (.ops [⟨(some 21), .mv (.tmp 5), none⟩,
    ⟨(some 2), .mv (.const (.pointer none)), none⟩,
    ⟨(some 3), .mv (.tmp 21), none⟩])
  .ret)
  .skip)))
 (.seq (.ops [⟨(some 22), .build [(.int .i64 0), (.int .i64 0), (.int .i64 0), (.int .i64 0)] [(3, 1, (.const (.int .i64 (-1))))], none⟩,
   ⟨(some 23), .bslice 70 1 4 [(.int .i64 0), (.int .i64 0), (.int .i64 0), (.int .i64 0)] [(0, 4, (.tmp 22))], none⟩,
   ⟨(some 24), .build [(.slice none 0 0), (.slice none 0 0)] [(0, 1, (.tmp 23))], none⟩,
   ⟨(some 25), .box (.tmp 24) 73, none⟩,
   ⟨(some 6), .mv (.tmp 25), none⟩])
 (.seq (.seq (.ops [⟨(some 26), .mv (.tmp 0), none⟩,
   ⟨(some 27), .len false (.tmp 26), none⟩,
   ⟨(some 28), .mv (.const (.int .i64 0)), none⟩])
 (.block 0 (.loop [6, 26, 27, 28] b_trie_Of_1)))
 (.seq (.ops [⟨(some 105), .mv (.tmp 6), none⟩,
   ⟨(some 2), .mv (.tmp 105), none⟩,
   ⟨(some 3), .mv (.const (.int .i64 0)), none⟩])
 .ret)))))
def F_trie_Of : AFunc := ⟨1, 106, [.tmp 2, .tmp 3], k_trie_Of⟩
theorem ok_trie_Of : FOK Try.prog 16 F_trie_Of := FOK.of [[6, 26, 27, 28], [0, 1, 2, 3, 4, 5, 6, 7, 8, 9, 10, 11, 12, 13], [6, 7, 9, 26, 27, 28, 47, 48, 49], [0, 1, 2, 3, 4, 5, 6, 7, 8, 9, 10, 11, 12, 13, 14, 15, 16, 17, 18, 19]] Try.func16 (by kernel_rfl) (by kernel_rfl)

-- lontar/lontarlaw01.Same
@[reducible] def i_lontarlaw01_Same : Nat := 17
/-- lontarlaw01_Same: the body of loop 0 -/
def b_lontarlaw01_Same_0 : ACode :=
 (.seq (.ops [⟨(some 14), .int .lss (.tmp 13) (.tmp 12), none⟩])
 (.seq (.cond (.tmp 14)
  .skip
  (.exit 0))
 (.seq (.block 1 (.seq (.ops [⟨(some 15), .mv (.tmp 13), none⟩,
   ⟨(some 5), .mv (.tmp 15), none⟩])
 (.seq (.draw [⟨(some 16), .mv (.tmp 0), none⟩,
   ⟨(some 17), .mv (.tmp 5), none⟩,
   ⟨(some 18), .iaddr (.tmp 16) (.tmp 17) 4, none⟩,
   ⟨(some 19), .faddr (.tmp 18) 0, none⟩,
   ⟨(some 20), .load (.tmp 19) none, none⟩,
   ⟨(some 21), .mv (.tmp 1), none⟩,
   ⟨(some 22), .mv (.tmp 5), none⟩,
   ⟨(some 23), .iaddr (.tmp 21) (.tmp 22) 4, none⟩,
   ⟨(some 24), .faddr (.tmp 23) 0, none⟩,
   ⟨(some 25), .load (.tmp 24) none, none⟩,
   ⟨(some 26), .int .neq (.tmp 20) (.tmp 25), none⟩,
   ⟨(some 27), .mv (.tmp 26), none⟩,
   ⟨(some 28), .mv (.tmp 0), some (27, false)⟩,
   ⟨(some 29), .mv (.tmp 5), some (27, false)⟩,
   ⟨(some 30), .iaddr (.tmp 28) (.tmp 29) 4, some (27, false)⟩,
   ⟨(some 31), .faddr (.tmp 30) 1, some (27, false)⟩,
   ⟨(some 32), .load (.tmp 31) none, some (27, false)⟩,
   ⟨(some 33), .mv (.tmp 1), some (27, false)⟩,
   ⟨(some 34), .mv (.tmp 5), some (27, false)⟩,
   ⟨(some 35), .iaddr (.tmp 33) (.tmp 34) 4, some (27, false)⟩,
   ⟨(some 36), .faddr (.tmp 35) 1, some (27, false)⟩,
   ⟨(some 37), .load (.tmp 36) none, some (27, false)⟩,
   ⟨(some 38), .int .neq (.tmp 32) (.tmp 37), some (27, false)⟩,
   ⟨(some 39), .pick (.tmp 27) (.const (.bool true)) (.tmp 38), none⟩,
   ⟨(some 40), .mv (.tmp 39), none⟩,
   ⟨(some 41), .mv (.tmp 0), some (40, false)⟩,
   ⟨(some 42), .mv (.tmp 5), some (40, false)⟩,
   ⟨(some 43), .iaddr (.tmp 41) (.tmp 42) 4, some (40, false)⟩,
   ⟨(some 44), .faddr (.tmp 43) 3, some (40, false)⟩,
   ⟨(some 45), .load (.tmp 44) none, some (40, false)⟩,
   ⟨(some 46), .mv (.tmp 1), some (40, false)⟩,
   ⟨(some 47), .mv (.tmp 5), some (40, false)⟩,
   ⟨(some 48), .iaddr (.tmp 46) (.tmp 47) 4, some (40, false)⟩,
   ⟨(some 49), .faddr (.tmp 48) 3, some (40, false)⟩,
   ⟨(some 50), .load (.tmp 49) none, some (40, false)⟩,
   ⟨(some 51), .int .neq (.tmp 45) (.tmp 50), some (40, false)⟩,
   ⟨(some 52), .pick (.tmp 40) (.const (.bool true)) (.tmp 51), none⟩,
   ⟨(some 53), .mv (.tmp 52), none⟩,
   ⟨(some 54), .mv (.tmp 0), some (53, false)⟩,
   ⟨(some 55), .mv (.tmp 5), some (53, false)⟩,
   ⟨(some 56), .iaddr (.tmp 54) (.tmp 55) 4, some (53, false)⟩,
   ⟨(some 57), .faddr (.tmp 56) 2, some (53, false)⟩,
   ⟨(some 58), .load (.tmp 57) none, some (53, false)⟩,
   ⟨(some 59), .mv (.tmp 1), some (53, false)⟩,
   ⟨(some 60), .mv (.tmp 5), some (53, false)⟩,
   ⟨(some 61), .iaddr (.tmp 59) (.tmp 60) 4, some (53, false)⟩,
   ⟨(some 62), .faddr (.tmp 61) 2, some (53, false)⟩,
   ⟨(some 63), .load (.tmp 62) none, some (53, false)⟩,
   ⟨(some 64), .call (.func 22) [(.tmp 58), (.tmp 63)], some (53, false)⟩,
   ⟨(some 65), .not (.tmp 64), some (53, false)⟩,
   ⟨(some 66), .pick (.tmp 53) (.const (.bool true)) (.tmp 65), none⟩])
 (.cond (.tmp 66)
  (.seq (.ops [⟨(some 4), .mv (.const (.bool false)), none⟩])
  .ret)
  .skip))))
 (.ops [⟨(some 67), .int .add (.tmp 13) (.const (.int .i64 1)), none⟩,
   ⟨(some 13), .mv (.tmp 67), none⟩]))))

def k_lontarlaw01_Same : ACode :=
 (.seq (.ops [⟨(some 4), .mv (.const (.bool false)), none⟩])
 (.seq (.seq (.ops [⟨(some 6), .mv (.tmp 0), none⟩,
   ⟨(some 7), .len false (.tmp 6), none⟩,
   ⟨(some 8), .mv (.tmp 1), none⟩,
   ⟨(some 9), .len false (.tmp 8), none⟩,
   ⟨(some 10), .int .neq (.tmp 7) (.tmp 9), none⟩])
 (.cond (.tmp 10)
  (.seq (.ops [⟨(some 4), .mv (.const (.bool false)), none⟩])
  .ret)
  .skip))
 (.seq (.seq (.ops [⟨(some 11), .mv (.tmp 0), none⟩,
   ⟨(some 12), .len false (.tmp 11), none⟩,
   ⟨(some 13), .mv (.const (.int .i64 0)), none⟩])
 (.block 0 (.loop [0, 1, 12, 13] b_lontarlaw01_Same_0)))
 (.seq (.ops [⟨(some 4), .mv (.const (.bool true)), none⟩])
 .ret))))
def F_lontarlaw01_Same : AFunc := ⟨2, 68, [.tmp 4], k_lontarlaw01_Same⟩
theorem ok_lontarlaw01_Same : FOK Try.prog 17 F_lontarlaw01_Same := FOK.of [[0, 1, 12, 13], [0, 1, 2, 3, 4, 5, 6, 7, 8, 9, 10, 11, 12, 13, 14, 15, 16, 17, 18, 19, 20, 21, 22, 23, 24, 25, 26, 27, 28, 29, 30, 31, 32, 33, 34, 35, 36, 37, 38, 39, 40, 41, 42, 43, 44, 45, 46, 47, 48, 49, 50]] Try.func17 (by kernel_rfl) (by kernel_rfl)

-- lontar/rewrite.All
@[reducible] def i_rewrite_All : Nat := 18
/-- rewrite_All: the body of loop 0 -/
def b_rewrite_All_0 : ACode :=
 (.seq (.seq (.ops [⟨(some 8), .mv (.tmp 6), none⟩,
   ⟨(some 9), .mv (.tmp 1), none⟩,
   ⟨(some 10), .len false (.tmp 9), none⟩,
   ⟨(some 11), .int .lss (.tmp 8) (.tmp 10), none⟩])
 (.cond (.tmp 11)
  .skip
  (.exit 0)))
 (.block 1 (.seq (.ops [⟨(some 12), .mv (.tmp 0), none⟩,
   ⟨(some 13), .mv (.tmp 1), none⟩,
   ⟨(some 14), .mv (.tmp 6), none⟩,
   ⟨(some 15), .slice (.tmp 13) (some (.tmp 14)) none 1, none⟩,
   ⟨(some 16), .mv (.tmp 6), none⟩,
   ⟨(some 17), .call (.func 37) [(.tmp 12), (.tmp 15), (.tmp 16)], none⟩,
   ⟨(some 7), .alloc [(.int .i64 0), (.int .i64 0), (.slice none 0 0), (.int .i64 0)] 39, none⟩,
   ⟨none, .store (.tmp 7) (.tmp 17) 4, none⟩])
 (.seq (.ops [⟨(some 18), .mv (.tmp 5), none⟩,
   ⟨(some 19), .load (.tmp 7) (some 4), none⟩,
   ⟨(some 20), .bslice 39 1 4 [(.int .i64 0), (.int .i64 0), (.slice none 0 0), (.int .i64 0)] [(0, 4, (.tmp 19))], none⟩,
   ⟨(some 21), .append (.tmp 18) (.tmp 20) 39 4 48, none⟩,
   ⟨(some 5), .mv (.tmp 21), none⟩])
 (.ops [⟨(some 22), .mv (.tmp 6), none⟩,
   ⟨(some 23), .faddr (.tmp 7) 1, none⟩,
   ⟨(some 24), .load (.tmp 23) none, none⟩,
   ⟨(some 25), .int .add (.tmp 22) (.tmp 24), none⟩,
   ⟨(some 6), .mv (.tmp 25), none⟩])))))

def k_rewrite_All : ACode :=
 (.seq (.ops [⟨(some 4), .mv (.const (.slice none 0 0)), none⟩])
 (.seq (.ops [⟨(some 5), .mv (.const (.slice none 0 0)), none⟩])
 (.seq (.seq (.ops [⟨(some 6), .mv (.const (.int .i64 0)), none⟩])
 (.block 0 (.loop [0, 1, 5, 6] b_rewrite_All_0)))
 (.seq (.ops [⟨(some 26), .mv (.tmp 5), none⟩,
   ⟨(some 4), .mv (.tmp 26), none⟩])
 .ret))))
def F_rewrite_All : AFunc := ⟨2, 27, [.tmp 4], k_rewrite_All⟩
theorem ok_rewrite_All : FOK Try.prog 18 F_rewrite_All := FOK.of [[0, 1, 5, 6]] Try.func18 (by kernel_rfl) (by kernel_rfl)

-- lontar/lontarlaw04.Some
@[reducible] def i_lontarlaw04_Some : Nat := 19
/-- lontarlaw04_Some: the body of loop 0 -/
def b_lontarlaw04_Some_0 : ACode :=
 (.seq (.ops [⟨(some 13), .int .lss (.tmp 12) (.tmp 11), none⟩])
 (.seq (.cond (.tmp 13)
  .skip
  (.exit 0))
 (.seq (.block 1 (.seq (.ops [⟨(some 14), .iaddr (.tmp 10) (.tmp 12) 1, none⟩,
   ⟨(some 15), .load (.tmp 14) none, none⟩,
   ⟨(some 5), .mv (.tmp 15), none⟩])
 (.ops [⟨(some 16), .mv (.tmp 3), none⟩,
   ⟨(some 17), .mv (.tmp 5), none⟩,
   ⟨(some 18), .int .rem (.tmp 17) (.const (.int .u8 6)), none⟩,
   ⟨(some 19), .conv .i64 (.tmp 18), none⟩,
   ⟨(some 20), .int .add (.const (.int .i64 97)) (.tmp 19), none⟩,
   ⟨(some 21), .bslice 3 1 1 [(.int .i64 0)] [(0, 1, (.tmp 20))], none⟩,
   ⟨(some 22), .append (.tmp 16) (.tmp 21) 3 1 8, none⟩,
   ⟨(some 3), .mv (.tmp 22), none⟩])))
 (.ops [⟨(some 23), .int .add (.tmp 12) (.const (.int .i64 1)), none⟩,
   ⟨(some 12), .mv (.tmp 23), none⟩]))))

def k_lontarlaw04_Some : ACode :=
 (.seq (.ops [⟨(some 2), .mv (.const (.slice none 0 0)), none⟩])
 (.seq (.ops [⟨(some 3), .mv (.const (.slice none 0 0)), none⟩])
 (.seq (.seq (.ops [⟨(some 6), .mv (.tmp 0), none⟩,
   ⟨(some 7), .mv (.tmp 0), none⟩,
   ⟨(some 8), .len false (.tmp 7), none⟩,
   ⟨(some 9), .min2 (.tmp 8) (.const (.int .i64 60)), none⟩,
   ⟨(some 10), .slice (.tmp 6) none (some (.tmp 9)) 1, none⟩,
   ⟨(some 11), .len false (.tmp 10), none⟩,
   ⟨(some 12), .mv (.const (.int .i64 0)), none⟩])
 (.block 0 (.loop [3, 10, 11, 12] b_lontarlaw04_Some_0)))
 (.seq (.ops [⟨(some 24), .mv (.tmp 3), none⟩,
   ⟨(some 2), .mv (.tmp 24), none⟩])
 .ret))))
def F_lontarlaw04_Some : AFunc := ⟨1, 25, [.tmp 2], k_lontarlaw04_Some⟩
theorem ok_lontarlaw04_Some : FOK Try.prog 19 F_lontarlaw04_Some := FOK.of [[3, 10, 11, 12]] Try.func19 (by kernel_rfl) (by kernel_rfl)

-- lontar/lontarlaw05.All
@[reducible] def i_lontarlaw05_All : Nat := 20
/-- lontarlaw05_All: the body of loop 0 -/
def b_lontarlaw05_All_0 : ACode :=
 (.seq (.seq (.ops [⟨(some 10), .mv (.tmp 6), none⟩,
   ⟨(some 11), .mv (.tmp 1), none⟩,
   ⟨(some 12), .len false (.tmp 11), none⟩,
   ⟨(some 13), .int .lss (.tmp 10) (.tmp 12), none⟩])
 (.cond (.tmp 13)
  .skip
  (.exit 0)))
 (.block 1 (.seq (.ops [⟨(some 15), .mv (.tmp 0), none⟩,
   ⟨(some 16), .mv (.tmp 1), none⟩,
   ⟨(some 17), .mv (.tmp 6), none⟩,
   ⟨(some 18), .slice (.tmp 16) (some (.tmp 17)) none 1, none⟩,
   ⟨(some 19), .call (.func 29) [(.tmp 15), (.tmp 18)], none⟩,
   ⟨(some 14), .mv (.tmp 19), none⟩,
   ⟨(some 20), .ext (.tmp 14) 0, none⟩,
   ⟨(some 21), .ext (.tmp 14) 1, none⟩,
   ⟨(some 22), .ext (.tmp 14) 2, none⟩,
   ⟨(some 7), .mv (.tmp 20), none⟩,
   ⟨(some 8), .mv (.tmp 21), none⟩,
   ⟨(some 9), .mv (.tmp 22), none⟩])
 (.seq (.seq (.ops [⟨(some 23), .mv (.tmp 7), none⟩,
   ⟨(some 24), .int .lss (.tmp 23) (.const (.int .i64 0)), none⟩])
 (.cond (.tmp 24)
  (.seq (.ops [⟨(some 25), .mv (.tmp 5), none⟩,
    ⟨(some 26), .mv (.tmp 6), none⟩,
    ⟨(some 27), .build [(.int .i64 0), (.int .i64 0), (.slice none 0 0), (.int .i64 0)] [(0, 1, (.tmp 26)), (1, 1, (.const (.int .i64 1))), (3, 1, (.const (.int .i64 3)))], none⟩,
    ⟨(some 28), .bslice 39 1 4 [(.int .i64 0), (.int .i64 0), (.slice none 0 0), (.int .i64 0)] [(0, 4, (.tmp 27))], none⟩,
    ⟨(some 29), .append (.tmp 25) (.tmp 28) 39 4 48, none⟩,
    ⟨(some 5), .mv (.tmp 29), none⟩])
  (.seq (.ops [⟨(some 30), .mv (.tmp 6), none⟩,
    ⟨(some 31), .int .add (.tmp 30) (.const (.int .i64 1)), none⟩,
    ⟨(some 6), .mv (.tmp 31), none⟩])
  (.exit 1)))
  .skip))
 (.seq (.ops [⟨(some 32), .mv (.tmp 5), none⟩,
   ⟨(some 33), .mv (.tmp 6), none⟩,
   ⟨(some 34), .mv (.tmp 8), none⟩,
   ⟨(some 35), .mv (.tmp 0), none⟩,
   ⟨(some 36), .mv (.tmp 7), none⟩,
   ⟨(some 37), .iaddr (.tmp 35) (.tmp 36) 2, none⟩,
   ⟨(some 38), .faddr (.tmp 37) 1, none⟩,
   ⟨(some 39), .load (.tmp 38) none, none⟩,
   ⟨(some 40), .build [(.int .i64 0), (.int .i64 0), (.slice none 0 0), (.int .i64 0)] [(0, 1, (.tmp 33)), (1, 1, (.tmp 34)), (2, 1, (.tmp 39))], none⟩,
   ⟨(some 41), .bslice 39 1 4 [(.int .i64 0), (.int .i64 0), (.slice none 0 0), (.int .i64 0)] [(0, 4, (.tmp 40))], none⟩,
   ⟨(some 42), .append (.tmp 32) (.tmp 41) 39 4 48, none⟩,
   ⟨(some 5), .mv (.tmp 42), none⟩])
 (.ops [⟨(some 43), .mv (.tmp 6), none⟩,
   ⟨(some 44), .mv (.tmp 8), none⟩,
   ⟨(some 45), .int .add (.tmp 43) (.tmp 44), none⟩,
   ⟨(some 6), .mv (.tmp 45), none⟩]))))))

def k_lontarlaw05_All : ACode :=
 (.seq (.ops [⟨(some 4), .mv (.const (.slice none 0 0)), none⟩])
 (.seq (.ops [⟨(some 5), .mv (.const (.slice none 0 0)), none⟩])
 (.seq (.seq (.ops [⟨(some 6), .mv (.const (.int .i64 0)), none⟩])
 (.block 0 (.loop [0, 1, 5, 6] b_lontarlaw05_All_0)))
 (.seq (.ops [⟨(some 46), .mv (.tmp 5), none⟩,
   ⟨(some 4), .mv (.tmp 46), none⟩])
 .ret))))
def F_lontarlaw05_All : AFunc := ⟨2, 47, [.tmp 4], k_lontarlaw05_All⟩
theorem ok_lontarlaw05_All : FOK Try.prog 20 F_lontarlaw05_All := FOK.of [[0, 1, 5, 6]] Try.func20 (by kernel_rfl) (by kernel_rfl)

-- lontar/rewrite.Units
@[reducible] def i_rewrite_Units : Nat := 21
/-- rewrite_Units: the body of loop 0 -/
def b_rewrite_Units_0 : ACode :=
 (.seq (.ops [⟨(some 11), .int .lss (.tmp 10) (.tmp 9), none⟩])
 (.seq (.cond (.tmp 11)
  .skip
  (.exit 0))
 (.seq (.block 1 (.seq (.ops [⟨(some 12), .iaddr (.tmp 8) (.tmp 10) 4, none⟩,
   ⟨(some 13), .load (.tmp 12) (some 4), none⟩,
   ⟨(some 7), .alloc [(.int .i64 0), (.int .i64 0), (.slice none 0 0), (.int .i64 0)] 39, none⟩,
   ⟨none, .store (.tmp 7) (.tmp 13) 4, none⟩])
 (.seq (.ops [⟨(some 14), .mv (.tmp 4), none⟩,
   ⟨(some 15), .faddr (.tmp 7) 2, none⟩,
   ⟨(some 16), .load (.tmp 15) none, none⟩,
   ⟨(some 17), .append (.tmp 14) (.tmp 16) 3 1 8, none⟩,
   ⟨(some 4), .mv (.tmp 17), none⟩])
 (.seq (.ops [⟨(some 18), .faddr (.tmp 7) 3, none⟩,
   ⟨(some 19), .load (.tmp 18) none, none⟩,
   ⟨(some 20), .int .neq (.tmp 19) (.const (.int .i64 0)), none⟩,
   ⟨(some 21), .mv (.tmp 20), none⟩,
   ⟨(some 22), .faddr (.tmp 5) 3, some (21, true)⟩,
   ⟨(some 23), .load (.tmp 22) none, some (21, true)⟩,
   ⟨(some 24), .int .eql (.tmp 23) (.const (.int .i64 0)), some (21, true)⟩,
   ⟨(some 25), .pick (.tmp 21) (.tmp 24) (.const (.bool false)), none⟩])
 (.cond (.tmp 25)
  (.ops [⟨(some 26), .load (.tmp 7) (some 4), none⟩,
    ⟨none, .store (.tmp 5) (.tmp 26) 4, none⟩])
  .skip)))))
 (.ops [⟨(some 27), .int .add (.tmp 10) (.const (.int .i64 1)), none⟩,
   ⟨(some 10), .mv (.tmp 27), none⟩]))))

def k_rewrite_Units : ACode :=
 (.seq (.ops [⟨(some 2), .mv (.const (.slice none 0 0)), none⟩,
   ⟨(some 3), .alloc [(.int .i64 0), (.int .i64 0), (.slice none 0 0), (.int .i64 0)] 39, none⟩])
 (.seq (.ops [⟨(some 4), .mv (.const (.slice none 0 0)), none⟩])
 (.seq (.ops [⟨(some 5), .alloc [(.int .i64 0), (.int .i64 0), (.slice none 0 0), (.int .i64 0)] 39, none⟩])
 (.seq (.seq (.ops [⟨(some 8), .mv (.tmp 0), none⟩,
   ⟨(some 9), .len false (.tmp 8), none⟩,
   ⟨(some 10), .mv (.const (.int .i64 0)), none⟩])
 (.block 0 (.loop [3, 4, 5, 8, 9, 10] b_rewrite_Units_0)))
 (.seq (.draw [⟨(some 28), .mv (.tmp 4), none⟩,
   ⟨(some 29), .load (.tmp 5) (some 4), none⟩,
   ⟨(some 2), .mv (.tmp 28), none⟩,
   ⟨none, .store (.tmp 3) (.tmp 29) 4, none⟩])
 .ret)))))
def F_rewrite_Units : AFunc := ⟨1, 30, [.tmp 2, .cell 3 (some 4)], k_rewrite_Units⟩
theorem ok_rewrite_Units : FOK Try.prog 21 F_rewrite_Units := FOK.of [[3, 4, 5, 8, 9, 10], [0, 1, 2, 3]] Try.func21 (by kernel_rfl) (by kernel_rfl)

-- lontar/lontarlaw01.Units
@[reducible] def i_lontarlaw01_Units : Nat := 22
/-- lontarlaw01_Units: the body of loop 0 -/
def b_lontarlaw01_Units_0 : ACode :=
 (.seq (.ops [⟨(some 14), .int .lss (.tmp 13) (.tmp 12), none⟩])
 (.seq (.cond (.tmp 14)
  .skip
  (.exit 0))
 (.seq (.block 1 (.seq (.ops [⟨(some 15), .mv (.tmp 13), none⟩,
   ⟨(some 5), .mv (.tmp 15), none⟩])
 (.seq (.draw [⟨(some 16), .mv (.tmp 0), none⟩,
   ⟨(some 17), .mv (.tmp 5), none⟩,
   ⟨(some 18), .iaddr (.tmp 16) (.tmp 17) 1, none⟩,
   ⟨(some 19), .load (.tmp 18) none, none⟩,
   ⟨(some 20), .mv (.tmp 1), none⟩,
   ⟨(some 21), .mv (.tmp 5), none⟩,
   ⟨(some 22), .iaddr (.tmp 20) (.tmp 21) 1, none⟩,
   ⟨(some 23), .load (.tmp 22) none, none⟩,
   ⟨(some 24), .int .neq (.tmp 19) (.tmp 23), none⟩])
 (.cond (.tmp 24)
  (.seq (.ops [⟨(some 4), .mv (.const (.bool false)), none⟩])
  .ret)
  .skip))))
 (.ops [⟨(some 25), .int .add (.tmp 13) (.const (.int .i64 1)), none⟩,
   ⟨(some 13), .mv (.tmp 25), none⟩]))))

def k_lontarlaw01_Units : ACode :=
 (.seq (.ops [⟨(some 4), .mv (.const (.bool false)), none⟩])
 (.seq (.seq (.ops [⟨(some 6), .mv (.tmp 0), none⟩,
   ⟨(some 7), .len false (.tmp 6), none⟩,
   ⟨(some 8), .mv (.tmp 1), none⟩,
   ⟨(some 9), .len false (.tmp 8), none⟩,
   ⟨(some 10), .int .neq (.tmp 7) (.tmp 9), none⟩])
 (.cond (.tmp 10)
  (.seq (.ops [⟨(some 4), .mv (.const (.bool false)), none⟩])
  .ret)
  .skip))
 (.seq (.seq (.ops [⟨(some 11), .mv (.tmp 0), none⟩,
   ⟨(some 12), .len false (.tmp 11), none⟩,
   ⟨(some 13), .mv (.const (.int .i64 0)), none⟩])
 (.block 0 (.loop [0, 1, 12, 13] b_lontarlaw01_Units_0)))
 (.seq (.ops [⟨(some 4), .mv (.const (.bool true)), none⟩])
 .ret))))
def F_lontarlaw01_Units : AFunc := ⟨2, 26, [.tmp 4], k_lontarlaw01_Units⟩
theorem ok_lontarlaw01_Units : FOK Try.prog 22 F_lontarlaw01_Units := FOK.of [[0, 1, 12, 13], [0, 1, 2, 3, 4, 5, 6, 7, 8]] Try.func22 (by kernel_rfl) (by kernel_rfl)

-- lontar/lontarlaw06.awake
@[reducible] def i_lontarlaw06_awake : Nat := 23
def k_lontarlaw06_awake : ACode :=
 (.seq (.ops [⟨(some 0), .mv (.const (.bool false)), none⟩])
 (.seq (.ops [⟨(some 8), .bslice 3 1 1 [(.int .i64 0)] [(0, 1, (.const (.int .i64 1)))], none⟩,
   ⟨(some 9), .bslice 3 1 1 [(.int .i64 0)] [(0, 1, (.const (.int .i64 7)))], none⟩,
   ⟨(some 10), .build [(.slice none 0 0), (.slice none 0 0)] [(0, 1, (.tmp 8)), (1, 1, (.tmp 9))], none⟩,
   ⟨(some 11), .bslice 3 2 1 [(.int .i64 0)] [(0, 1, (.const (.int .i64 1))), (1, 1, (.const (.int .i64 2)))], none⟩,
   ⟨(some 12), .bslice 3 1 1 [(.int .i64 0)] [(0, 1, (.const (.int .i64 8)))], none⟩,
   ⟨(some 13), .build [(.slice none 0 0), (.slice none 0 0)] [(0, 1, (.tmp 11)), (1, 1, (.tmp 12))], none⟩,
   ⟨(some 14), .bslice 51 2 2 [(.slice none 0 0), (.slice none 0 0)] [(0, 2, (.tmp 10)), (2, 2, (.tmp 13))], none⟩,
   ⟨(some 15), .call (.func 16) [(.tmp 14)], none⟩,
   ⟨(some 7), .mv (.tmp 15), none⟩,
   ⟨(some 16), .ext (.tmp 7) 0, none⟩,
   ⟨(some 17), .ext (.tmp 7) 1, none⟩,
   ⟨(some 1), .mv (.tmp 16), none⟩,
   ⟨(some 2), .mv (.tmp 17), none⟩])
 (.seq (.seq (.ops [⟨(some 18), .mv (.tmp 1), none⟩,
   ⟨(some 19), .isNil 0 false (.tmp 18), none⟩,
   ⟨(some 20), .mv (.tmp 19), none⟩,
   ⟨(some 21), .mv (.tmp 2), some (20, false)⟩,
   ⟨(some 22), .int .neq (.tmp 21) (.const (.int .i64 0)), some (20, false)⟩,
   ⟨(some 23), .pick (.tmp 20) (.const (.bool true)) (.tmp 22), none⟩])
 (.cond (.tmp 23)
  (.seq (.ops [⟨(some 0), .mv (.const (.bool false)), none⟩])
  .ret)
  .skip))
 (.seq (.ops [⟨(some 24), .mv (.tmp 1), none⟩,
   ⟨(some 25), .call (.func 24) [(.tmp 24)], none⟩,
   ⟨(some 3), .mv (.tmp 25), none⟩])
 (.seq (.ops [⟨(some 26), .mv (.tmp 3), none⟩,
   ⟨(some 27), .call (.func 25) [(.tmp 26), (.const (.int .i64 1))], none⟩,
   ⟨(some 4), .mv (.tmp 27), none⟩])
 (.seq (.ops [⟨(some 28), .mv (.tmp 3), none⟩,
   ⟨(some 29), .call (.func 27) [(.tmp 28)], none⟩,
   ⟨(some 5), .mv (.tmp 29), none⟩])
 (.seq (.ops [⟨(some 30), .mv (.tmp 3), none⟩,
   ⟨(some 31), .call (.func 25) [(.tmp 30), (.const (.int .i64 3))], none⟩,
   ⟨(some 6), .mv (.tmp 31), none⟩])
 (.seq (.ops [⟨(some 32), .mv (.tmp 4), none⟩,
   ⟨(some 33), .len false (.tmp 32), none⟩,
   ⟨(some 34), .int .eql (.tmp 33) (.const (.int .i64 0)), none⟩,
   ⟨(some 35), .mv (.tmp 34), none⟩,
   ⟨(some 36), .mv (.tmp 5), some (35, true)⟩,
   ⟨(some 37), .int .eql (.tmp 36) (.const (.int .i64 1)), some (35, true)⟩,
   ⟨(some 38), .pick (.tmp 35) (.tmp 37) (.const (.bool false)), none⟩,
   ⟨(some 39), .mv (.tmp 38), none⟩,
   ⟨(some 40), .mv (.tmp 6), some (39, true)⟩,
   ⟨(some 41), .len false (.tmp 40), some (39, true)⟩,
   ⟨(some 42), .int .eql (.tmp 41) (.const (.int .i64 2)), some (39, true)⟩,
   ⟨(some 43), .pick (.tmp 39) (.tmp 42) (.const (.bool false)), none⟩,
   ⟨(some 44), .mv (.tmp 43), none⟩,
   ⟨(some 45), .mv (.tmp 6), some (44, true)⟩,
   ⟨(some 46), .iaddr (.tmp 45) (.const (.int .i64 0)) 4, some (44, true)⟩,
   ⟨(some 47), .faddr (.tmp 46) 2, some (44, true)⟩,
   ⟨(some 48), .load (.tmp 47) none, some (44, true)⟩,
   ⟨(some 49), .len false (.tmp 48), some (44, true)⟩,
   ⟨(some 50), .int .eql (.tmp 49) (.const (.int .i64 1)), some (44, true)⟩,
   ⟨(some 51), .pick (.tmp 44) (.tmp 50) (.const (.bool false)), none⟩,
   ⟨(some 52), .mv (.tmp 51), none⟩,
   ⟨(some 53), .mv (.tmp 6), some (52, true)⟩,
   ⟨(some 54), .iaddr (.tmp 53) (.const (.int .i64 0)) 4, some (52, true)⟩,
   ⟨(some 55), .faddr (.tmp 54) 2, some (52, true)⟩,
   ⟨(some 56), .load (.tmp 55) none, some (52, true)⟩,
   ⟨(some 57), .iaddr (.tmp 56) (.const (.int .i64 0)) 1, some (52, true)⟩,
   ⟨(some 58), .load (.tmp 57) none, some (52, true)⟩,
   ⟨(some 59), .int .eql (.tmp 58) (.const (.int .i64 7)), some (52, true)⟩,
   ⟨(some 60), .pick (.tmp 52) (.tmp 59) (.const (.bool false)), none⟩,
   ⟨(some 61), .mv (.tmp 60), none⟩,
   ⟨(some 62), .mv (.tmp 6), some (61, true)⟩,
   ⟨(some 63), .iaddr (.tmp 62) (.const (.int .i64 1)) 4, some (61, true)⟩,
   ⟨(some 64), .faddr (.tmp 63) 3, some (61, true)⟩,
   ⟨(some 65), .load (.tmp 64) none, some (61, true)⟩,
   ⟨(some 66), .int .eql (.tmp 65) (.const (.int .i64 3)), some (61, true)⟩,
   ⟨(some 67), .pick (.tmp 61) (.tmp 66) (.const (.bool false)), none⟩,
   ⟨(some 68), .mv (.tmp 67), none⟩,
   ⟨(some 69), .mv (.tmp 3), some (68, true)⟩,
   ⟨(some 70), .call (.func 26) [(.tmp 69)], some (68, true)⟩,
   ⟨(some 71), .len false (.tmp 70), some (68, true)⟩,
   ⟨(some 72), .int .eql (.tmp 71) (.const (.int .i64 0)), some (68, true)⟩,
   ⟨(some 73), .pick (.tmp 68) (.tmp 72) (.const (.bool false)), none⟩,
   ⟨(some 0), .mv (.tmp 73), none⟩])
 .ret))))))))
def F_lontarlaw06_awake : AFunc := ⟨0, 74, [.tmp 0], k_lontarlaw06_awake⟩
theorem ok_lontarlaw06_awake : FOK Try.prog 23 F_lontarlaw06_awake := FOK.of [] Try.func23 (by kernel_rfl) (by kernel_rfl)

-- lontar/match.Of
@[reducible] def i_match_Of : Nat := 24
def k_match_Of : ACode :=
 (.seq (.ops [⟨(some 2), .mv (.const (.pointer none)), none⟩])
 (.seq (.ops [⟨(some 3), .mv (.tmp 0), none⟩,
   ⟨(some 4), .build [(.pointer none), (.slice none 0 0), (.int .i64 0), (.int .i64 0)] [(0, 1, (.tmp 3))], none⟩,
   ⟨(some 5), .box (.tmp 4) 77, none⟩,
   ⟨(some 2), .mv (.tmp 5), none⟩])
 .ret))
def F_match_Of : AFunc := ⟨1, 6, [.tmp 2], k_match_Of⟩
theorem ok_match_Of : FOK Try.prog 24 F_match_Of := FOK.of [] Try.func24 (by kernel_rfl) (by kernel_rfl)

-- (*lontar/match.Match).Put
@[reducible] def i_match_Match__Put : Nat := 25
def k_match_Match__Put : ACode :=
 (.seq (.ops [⟨(some 4), .mv (.const (.slice none 0 0)), none⟩])
 (.seq (.ops [⟨(some 5), .mv (.tmp 0), none⟩,
   ⟨(some 6), .mv (.tmp 0), none⟩,
   ⟨(some 7), .nilChk (.tmp 6), none⟩,
   ⟨(some 8), .faddr (.tmp 7) 1, none⟩,
   ⟨(some 9), .load (.tmp 8) none, none⟩,
   ⟨(some 10), .mv (.tmp 1), none⟩,
   ⟨(some 11), .bslice 3 1 1 [(.int .i64 0)] [(0, 1, (.tmp 10))], none⟩,
   ⟨(some 12), .append (.tmp 9) (.tmp 11) 3 1 8, none⟩,
   ⟨(some 13), .nilChk (.tmp 5), none⟩,
   ⟨(some 14), .faddr (.tmp 13) 1, none⟩,
   ⟨none, .store (.tmp 14) (.tmp 12) 1, none⟩])
 (.seq (.ops [⟨(some 15), .mv (.tmp 0), none⟩,
   ⟨(some 16), .call (.func 38) [(.tmp 15), (.const (.bool false))], none⟩,
   ⟨(some 4), .mv (.tmp 16), none⟩])
 .ret)))
def F_match_Match__Put : AFunc := ⟨2, 17, [.tmp 4], k_match_Match__Put⟩
theorem ok_match_Match__Put : FOK Try.prog 25 F_match_Match__Put := FOK.of [] Try.func25 (by kernel_rfl) (by kernel_rfl)

-- (*lontar/match.Match).End
@[reducible] def i_match_Match__End : Nat := 26
def k_match_Match__End : ACode :=
 (.seq (.ops [⟨(some 2), .mv (.const (.slice none 0 0)), none⟩])
 (.seq (.ops [⟨(some 3), .mv (.tmp 0), none⟩,
   ⟨(some 4), .call (.func 38) [(.tmp 3), (.const (.bool true))], none⟩,
   ⟨(some 2), .mv (.tmp 4), none⟩])
 .ret))
def F_match_Match__End : AFunc := ⟨1, 5, [.tmp 2], k_match_Match__End⟩
theorem ok_match_Match__End : FOK Try.prog 26 F_match_Match__End := FOK.of [] Try.func26 (by kernel_rfl) (by kernel_rfl)

-- (*lontar/match.Match).Held
@[reducible] def i_match_Match__Held : Nat := 27
def k_match_Match__Held : ACode :=
 (.seq (.ops [⟨(some 2), .mv (.const (.int .i64 0)), none⟩])
 (.seq (.ops [⟨(some 3), .mv (.tmp 0), none⟩,
   ⟨(some 4), .nilChk (.tmp 3), none⟩,
   ⟨(some 5), .faddr (.tmp 4) 1, none⟩,
   ⟨(some 6), .load (.tmp 5) none, none⟩,
   ⟨(some 7), .len false (.tmp 6), none⟩,
   ⟨(some 2), .mv (.tmp 7), none⟩])
 .ret))
def F_match_Match__Held : AFunc := ⟨1, 8, [.tmp 2], k_match_Match__Held⟩
theorem ok_match_Match__Held : FOK Try.prog 27 F_match_Match__Held := FOK.of [] Try.func27 (by kernel_rfl) (by kernel_rfl)

-- (*lontar/trie.Trie).Longest
@[reducible] def i_trie_Trie__Longest : Nat := 28
/-- trie_Trie__Longest: the body of loop 0 -/
def b_trie_Trie__Longest_0 : ACode :=
 (.seq (.ops [⟨(some 18), .int .lss (.tmp 17) (.tmp 16), none⟩])
 (.seq (.cond (.tmp 18)
  .skip
  (.exit 0))
 (.seq (.block 1 (.seq (.ops [⟨(some 19), .mv (.tmp 17), none⟩,
   ⟨(some 20), .iaddr (.tmp 15) (.tmp 17) 1, none⟩,
   ⟨(some 21), .load (.tmp 20) none, none⟩,
   ⟨(some 10), .mv (.tmp 19), none⟩,
   ⟨(some 11), .mv (.tmp 21), none⟩])
 (.seq (.ops [⟨(some 23), .mv (.tmp 0), none⟩,
   ⟨(some 24), .mv (.tmp 9), none⟩,
   ⟨(some 25), .mv (.tmp 11), none⟩,
   ⟨(some 26), .call (.func 36) [(.tmp 23), (.tmp 24), (.tmp 25)], none⟩,
   ⟨(some 22), .mv (.tmp 26), none⟩,
   ⟨(some 27), .ext (.tmp 22) 0, none⟩,
   ⟨(some 28), .ext (.tmp 22) 1, none⟩,
   ⟨(some 12), .mv (.tmp 27), none⟩,
   ⟨(some 13), .mv (.tmp 28), none⟩])
 (.seq (.seq (.ops [⟨(some 29), .mv (.tmp 13), none⟩,
   ⟨(some 30), .not (.tmp 29), none⟩])
 (.cond (.tmp 30)
  (.seq (.ops [⟨(some 31), .mv (.tmp 7), none⟩,
    ⟨(some 32), .mv (.tmp 8), none⟩,
    ⟨(some 4), .mv (.tmp 31), none⟩,
    ⟨(some 5), .mv (.tmp 32), none⟩,
    ⟨(some 6), .mv (.const (.bool false)), none⟩])
  .ret)
  .skip))
 (.seq (.ops [⟨(some 33), .mv (.tmp 12), none⟩,
   ⟨(some 9), .mv (.tmp 33), none⟩])
 (.seq (.ops [⟨(some 34), .mv (.tmp 0), none⟩,
   ⟨(some 35), .mv (.tmp 9), none⟩,
   ⟨(some 36), .call (.func 39) [(.tmp 34), (.tmp 35)], none⟩,
   ⟨(some 14), .mv (.tmp 36), none⟩])
 (.seq (.ops [⟨(some 37), .mv (.tmp 14), none⟩,
   ⟨(some 38), .int .geq (.tmp 37) (.const (.int .i64 0)), none⟩])
 (.cond (.tmp 38)
  (.ops [⟨(some 39), .mv (.tmp 14), none⟩,
    ⟨(some 40), .mv (.tmp 10), none⟩,
    ⟨(some 41), .int .add (.tmp 40) (.const (.int .i64 1)), none⟩,
    ⟨(some 7), .mv (.tmp 39), none⟩,
    ⟨(some 8), .mv (.tmp 41), none⟩])
  .skip))))))))
 (.ops [⟨(some 42), .int .add (.tmp 17) (.const (.int .i64 1)), none⟩,
   ⟨(some 17), .mv (.tmp 42), none⟩]))))

def k_trie_Trie__Longest : ACode :=
 (.seq (.ops [⟨(some 4), .mv (.const (.int .i64 0)), none⟩,
   ⟨(some 5), .mv (.const (.int .i64 0)), none⟩,
   ⟨(some 6), .mv (.const (.bool false)), none⟩])
 (.seq (.ops [⟨(some 7), .mv (.const (.int .i64 (-1))), none⟩,
   ⟨(some 8), .mv (.const (.int .i64 0)), none⟩,
   ⟨(some 9), .mv (.const (.int .i64 0)), none⟩])
 (.seq (.seq (.ops [⟨(some 15), .mv (.tmp 1), none⟩,
   ⟨(some 16), .len false (.tmp 15), none⟩,
   ⟨(some 17), .mv (.const (.int .i64 0)), none⟩])
 (.block 0 (.loop [0, 7, 8, 9, 15, 16, 17] b_trie_Trie__Longest_0)))
 (.seq (.ops [⟨(some 43), .mv (.tmp 7), none⟩,
   ⟨(some 44), .mv (.tmp 8), none⟩,
   ⟨(some 45), .mv (.tmp 0), none⟩,
   ⟨(some 46), .mv (.tmp 9), none⟩,
   ⟨(some 47), .call (.func 40) [(.tmp 45), (.tmp 46)], none⟩,
   ⟨(some 48), .not (.tmp 47), none⟩,
   ⟨(some 4), .mv (.tmp 43), none⟩,
   ⟨(some 5), .mv (.tmp 44), none⟩,
   ⟨(some 6), .mv (.tmp 48), none⟩])
 .ret))))
def F_trie_Trie__Longest : AFunc := ⟨2, 49, [.tmp 4, .tmp 5, .tmp 6], k_trie_Trie__Longest⟩
theorem ok_trie_Trie__Longest : FOK Try.prog 28 F_trie_Trie__Longest := FOK.of [[0, 7, 8, 9, 15, 16, 17]] Try.func28 (by kernel_rfl) (by kernel_rfl)

-- lontar/lontarlaw04.Longest
@[reducible] def i_lontarlaw04_Longest : Nat := 29
/-- lontarlaw04_Longest: the body of loop 0 -/
def b_lontarlaw04_Longest_0 : ACode :=
 (.seq (.ops [⟨(some 15), .int .lss (.tmp 14) (.tmp 13), none⟩])
 (.seq (.cond (.tmp 15)
  .skip
  (.exit 0))
 (.seq (.block 1 (.seq (.ops [⟨(some 16), .mv (.tmp 14), none⟩,
   ⟨(some 17), .iaddr (.tmp 12) (.tmp 14) 2, none⟩,
   ⟨(some 18), .load (.tmp 17) (some 2), none⟩,
   ⟨(some 11), .alloc [(.slice none 0 0), (.slice none 0 0)] 51, none⟩,
   ⟨(some 10), .mv (.tmp 16), none⟩,
   ⟨none, .store (.tmp 11) (.tmp 18) 2, none⟩])
 (.seq (.seq (.draw [⟨(some 19), .faddr (.tmp 11) 0, none⟩,
   ⟨(some 20), .load (.tmp 19) none, none⟩,
   ⟨(some 21), .len false (.tmp 20), none⟩,
   ⟨(some 22), .mv (.tmp 1), none⟩,
   ⟨(some 23), .len false (.tmp 22), none⟩,
   ⟨(some 24), .int .leq (.tmp 21) (.tmp 23), none⟩,
   ⟨(some 25), .mv (.tmp 24), none⟩,
   ⟨(some 26), .faddr (.tmp 11) 0, some (25, true)⟩,
   ⟨(some 27), .load (.tmp 26) none, some (25, true)⟩,
   ⟨(some 28), .mv (.tmp 1), some (25, true)⟩,
   ⟨(some 29), .faddr (.tmp 11) 0, some (25, true)⟩,
   ⟨(some 30), .load (.tmp 29) none, some (25, true)⟩,
   ⟨(some 31), .len false (.tmp 30), some (25, true)⟩,
   ⟨(some 32), .slice (.tmp 28) none (some (.tmp 31)) 1, some (25, true)⟩,
   ⟨(some 33), .call (.func 22) [(.tmp 27), (.tmp 32)], some (25, true)⟩,
   ⟨(some 34), .pick (.tmp 25) (.tmp 33) (.const (.bool false)), none⟩,
   ⟨(some 35), .mv (.tmp 34), none⟩,
   ⟨(some 36), .faddr (.tmp 11) 0, some (35, true)⟩,
   ⟨(some 37), .load (.tmp 36) none, some (35, true)⟩,
   ⟨(some 38), .len false (.tmp 37), some (35, true)⟩,
   ⟨(some 39), .mv (.tmp 8), some (35, true)⟩,
   ⟨(some 40), .int .gtr (.tmp 38) (.tmp 39), some (35, true)⟩,
   ⟨(some 41), .pick (.tmp 35) (.tmp 40) (.const (.bool false)), none⟩])
 (.cond (.tmp 41)
  (.draw [⟨(some 42), .mv (.tmp 10), none⟩,
    ⟨(some 43), .faddr (.tmp 11) 0, none⟩,
    ⟨(some 44), .load (.tmp 43) none, none⟩,
    ⟨(some 45), .len false (.tmp 44), none⟩,
    ⟨(some 7), .mv (.tmp 42), none⟩,
    ⟨(some 8), .mv (.tmp 45), none⟩])
  .skip))
 (.ops [⟨(some 46), .mv (.tmp 9), none⟩,
   ⟨(some 47), .mv (.tmp 46), none⟩,
   ⟨(some 48), .faddr (.tmp 11) 0, some (47, false)⟩,
   ⟨(some 49), .load (.tmp 48) none, some (47, false)⟩,
   ⟨(some 50), .len false (.tmp 49), some (47, false)⟩,
   ⟨(some 51), .mv (.tmp 1), some (47, false)⟩,
   ⟨(some 52), .len false (.tmp 51), some (47, false)⟩,
   ⟨(some 53), .int .gtr (.tmp 50) (.tmp 52), some (47, false)⟩,
   ⟨(some 54), .mv (.tmp 53), some (47, false)⟩,
   ⟨(some 55), .faddr (.tmp 11) 0, some (54, true)⟩,
   ⟨(some 56), .load (.tmp 55) none, some (54, true)⟩,
   ⟨(some 57), .mv (.tmp 1), some (54, true)⟩,
   ⟨(some 58), .len false (.tmp 57), some (54, true)⟩,
   ⟨(some 59), .slice (.tmp 56) none (some (.tmp 58)) 1, some (54, true)⟩,
   ⟨(some 60), .mv (.tmp 1), some (54, true)⟩,
   ⟨(some 61), .call (.func 22) [(.tmp 59), (.tmp 60)], some (54, true)⟩,
   ⟨(some 62), .pick (.tmp 54) (.tmp 61) (.const (.bool false)), some (47, false)⟩,
   ⟨(some 63), .pick (.tmp 47) (.const (.bool true)) (.tmp 62), none⟩,
   ⟨(some 9), .mv (.tmp 63), none⟩]))))
 (.ops [⟨(some 64), .int .add (.tmp 14) (.const (.int .i64 1)), none⟩,
   ⟨(some 14), .mv (.tmp 64), none⟩]))))

def k_lontarlaw04_Longest : ACode :=
 (.seq (.ops [⟨(some 4), .mv (.const (.int .i64 0)), none⟩,
   ⟨(some 5), .mv (.const (.int .i64 0)), none⟩,
   ⟨(some 6), .mv (.const (.bool false)), none⟩])
 (.seq (.ops [⟨(some 7), .mv (.const (.int .i64 (-1))), none⟩,
   ⟨(some 8), .mv (.const (.int .i64 0)), none⟩,
   ⟨(some 9), .mv (.const (.bool false)), none⟩])
 (.seq (.seq (.ops [⟨(some 12), .mv (.tmp 0), none⟩,
   ⟨(some 13), .len false (.tmp 12), none⟩,
   ⟨(some 14), .mv (.const (.int .i64 0)), none⟩])
 (.block 0 (.loop [1, 7, 8, 9, 12, 13, 14] b_lontarlaw04_Longest_0)))
 (.seq (.ops [⟨(some 65), .mv (.tmp 7), none⟩,
   ⟨(some 66), .mv (.tmp 8), none⟩,
   ⟨(some 67), .mv (.tmp 9), none⟩,
   ⟨(some 4), .mv (.tmp 65), none⟩,
   ⟨(some 5), .mv (.tmp 66), none⟩,
   ⟨(some 6), .mv (.tmp 67), none⟩])
 .ret))))
def F_lontarlaw04_Longest : AFunc := ⟨2, 68, [.tmp 4, .tmp 5, .tmp 6], k_lontarlaw04_Longest⟩
theorem ok_lontarlaw04_Longest : FOK Try.prog 29 F_lontarlaw04_Longest := FOK.of [[1, 7, 8, 9, 12, 13, 14], [0, 1, 2, 3, 4, 5, 6, 7, 8, 9, 10, 11, 12, 13, 14, 15, 16, 17, 18, 19, 20, 21, 22], [0, 1, 2, 3, 4, 5]] Try.func29 (by kernel_rfl) (by kernel_rfl)

-- (*lontar/match.Match).Steps
@[reducible] def i_match_Match__Steps : Nat := 30
def k_match_Match__Steps : ACode :=
 (.seq (.ops [⟨(some 2), .mv (.const (.int .i64 0)), none⟩])
 (.seq (.ops [⟨(some 3), .mv (.tmp 0), none⟩,
   ⟨(some 4), .nilChk (.tmp 3), none⟩,
   ⟨(some 5), .faddr (.tmp 4) 3, none⟩,
   ⟨(some 6), .load (.tmp 5) none, none⟩,
   ⟨(some 2), .mv (.tmp 6), none⟩])
 .ret))
def F_match_Match__Steps : AFunc := ⟨1, 7, [.tmp 2], k_match_Match__Steps⟩
theorem ok_match_Match__Steps : FOK Try.prog 30 F_match_Match__Steps := FOK.of [] Try.func30 (by kernel_rfl) (by kernel_rfl)

-- lontar/rule.Longest
@[reducible] def i_rule_Longest : Nat := 31
/-- rule_Longest: the body of loop 0 -/
def b_rule_Longest_0 : ACode :=
 (.seq (.ops [⟨(some 9), .int .lss (.tmp 8) (.tmp 7), none⟩])
 (.seq (.cond (.tmp 9)
  .skip
  (.exit 0))
 (.seq (.block 1 (.seq (.ops [⟨(some 10), .iaddr (.tmp 6) (.tmp 8) 2, none⟩,
   ⟨(some 11), .load (.tmp 10) (some 2), none⟩,
   ⟨(some 5), .alloc [(.slice none 0 0), (.slice none 0 0)] 51, none⟩,
   ⟨none, .store (.tmp 5) (.tmp 11) 2, none⟩])
 (.ops [⟨(some 12), .mv (.tmp 3), none⟩,
   ⟨(some 13), .faddr (.tmp 5) 0, none⟩,
   ⟨(some 14), .load (.tmp 13) none, none⟩,
   ⟨(some 15), .len false (.tmp 14), none⟩,
   ⟨(some 16), .max2 (.tmp 12) (.tmp 15), none⟩,
   ⟨(some 3), .mv (.tmp 16), none⟩])))
 (.ops [⟨(some 17), .int .add (.tmp 8) (.const (.int .i64 1)), none⟩,
   ⟨(some 8), .mv (.tmp 17), none⟩]))))

def k_rule_Longest : ACode :=
 (.seq (.ops [⟨(some 2), .mv (.const (.int .i64 0)), none⟩])
 (.seq (.ops [⟨(some 3), .mv (.const (.int .i64 0)), none⟩])
 (.seq (.seq (.ops [⟨(some 6), .mv (.tmp 0), none⟩,
   ⟨(some 7), .len false (.tmp 6), none⟩,
   ⟨(some 8), .mv (.const (.int .i64 0)), none⟩])
 (.block 0 (.loop [3, 6, 7, 8] b_rule_Longest_0)))
 (.seq (.ops [⟨(some 18), .mv (.tmp 3), none⟩,
   ⟨(some 2), .mv (.tmp 18), none⟩])
 .ret))))
def F_rule_Longest : AFunc := ⟨1, 19, [.tmp 2], k_rule_Longest⟩
theorem ok_rule_Longest : FOK Try.prog 31 F_rule_Longest := FOK.of [[3, 6, 7, 8]] Try.func31 (by kernel_rfl) (by kernel_rfl)

-- lontar/lontarlaw03.Rules
@[reducible] def i_lontarlaw03_Rules : Nat := 32
/-- lontarlaw03_Rules: the body of loop 0 -/
def b_lontarlaw03_Rules_0 : ACode :=
 (.seq (.ops [⟨(some 14), .int .lss (.tmp 13) (.tmp 12), none⟩])
 (.seq (.cond (.tmp 14)
  .skip
  (.exit 0))
 (.seq (.block 1 (.seq (.ops [⟨(some 15), .iaddr (.tmp 11) (.tmp 13) 5, none⟩,
   ⟨(some 16), .load (.tmp 15) (some 5), none⟩,
   ⟨(some 5), .alloc [(.slice none 0 0), (.slice none 0 0), (.bool false), (.slice none 0 0), (.slice none 0 0)] 82, none⟩,
   ⟨none, .store (.tmp 5) (.tmp 16) 5, none⟩])
 (.seq (.draw [⟨(some 17), .faddr (.tmp 5) 0, none⟩,
   ⟨(some 18), .load (.tmp 17) none, none⟩,
   ⟨(some 20), .faddr (.tmp 5) 1, none⟩,
   ⟨(some 21), .load (.tmp 20) none, none⟩,
   ⟨(some 6), .alloc [(.slice none 0 0), (.slice none 0 0)] 51, none⟩,
   ⟨(some 19), .call (.func 41) [(.tmp 18), (.const (.int .i64 97))], none⟩,
   ⟨(some 22), .call (.func 41) [(.tmp 21), (.const (.int .i64 97))], none⟩,
   ⟨(some 23), .build [(.slice none 0 0), (.slice none 0 0)] [(0, 1, (.tmp 19)), (1, 1, (.tmp 22))], none⟩,
   ⟨none, .store (.tmp 6) (.tmp 23) 2, none⟩])
 (.seq (.seq (.ops [⟨(some 24), .faddr (.tmp 5) 2, none⟩,
   ⟨(some 25), .load (.tmp 24) none, none⟩])
 (.cond (.tmp 25)
  (.ops [⟨(some 26), .faddr (.tmp 5) 3, none⟩,
    ⟨(some 27), .load (.tmp 26) (some 2), none⟩,
    ⟨none, .store (.tmp 6) (.tmp 27) 2, none⟩])
  .skip))
 (.ops [⟨(some 28), .mv (.tmp 3), none⟩,
   ⟨(some 29), .load (.tmp 6) (some 2), none⟩,
   ⟨(some 30), .bslice 51 1 2 [(.slice none 0 0), (.slice none 0 0)] [(0, 2, (.tmp 29))], none⟩,
   ⟨(some 31), .append (.tmp 28) (.tmp 30) 51 2 48, none⟩,
   ⟨(some 3), .mv (.tmp 31), none⟩])))))
 (.ops [⟨(some 32), .int .add (.tmp 13) (.const (.int .i64 1)), none⟩,
   ⟨(some 13), .mv (.tmp 32), none⟩]))))

def k_lontarlaw03_Rules : ACode :=
 (.seq (.ops [⟨(some 2), .mv (.const (.slice none 0 0)), none⟩])
 (.seq (.ops [⟨(some 3), .mv (.const (.slice none 0 0)), none⟩])
 (.seq (.seq (.ops [⟨(some 7), .mv (.tmp 0), none⟩,
   ⟨(some 8), .mv (.tmp 0), none⟩,
   ⟨(some 9), .len false (.tmp 8), none⟩,
   ⟨(some 10), .min2 (.tmp 9) (.const (.int .i64 40)), none⟩,
   ⟨(some 11), .slice (.tmp 7) none (some (.tmp 10)) 5, none⟩,
   ⟨(some 12), .len false (.tmp 11), none⟩,
   ⟨(some 13), .mv (.const (.int .i64 0)), none⟩])
 (.block 0 (.loop [3, 11, 12, 13] b_lontarlaw03_Rules_0)))
 (.seq (.ops [⟨(some 33), .mv (.tmp 3), none⟩,
   ⟨(some 2), .mv (.tmp 33), none⟩])
 .ret))))
def F_lontarlaw03_Rules : AFunc := ⟨1, 34, [.tmp 2], k_lontarlaw03_Rules⟩
theorem ok_lontarlaw03_Rules : FOK Try.prog 32 F_lontarlaw03_Rules := FOK.of [[3, 11, 12, 13], [0, 1, 3, 4, 7, 2, 5, 6, 8]] Try.func32 (by kernel_rfl) (by kernel_rfl)

-- lontar/lontarlaw03.may
@[reducible] def i_lontarlaw03_may : Nat := 33
/-- lontarlaw03_may: the body of loop 0 -/
def b_lontarlaw03_may_0 : ACode :=
 (.seq (.ops [⟨(some 8), .int .lss (.tmp 7) (.tmp 6), none⟩])
 (.seq (.cond (.tmp 8)
  .skip
  (.exit 0))
 (.seq (.block 1 (.seq (.ops [⟨(some 9), .iaddr (.tmp 5) (.tmp 7) 1, none⟩,
   ⟨(some 10), .load (.tmp 9) none, none⟩,
   ⟨(some 4), .mv (.tmp 10), none⟩])
 (.seq (.ops [⟨(some 11), .mv (.tmp 4), none⟩,
   ⟨(some 12), .int .lss (.tmp 11) (.const (.int .i64 0)), none⟩,
   ⟨(some 13), .mv (.tmp 12), none⟩,
   ⟨(some 14), .mv (.tmp 4), some (13, false)⟩,
   ⟨(some 15), .int .gtr (.tmp 14) (.const (.int .i64 1114111)), some (13, false)⟩,
   ⟨(some 16), .pick (.tmp 13) (.const (.bool true)) (.tmp 15), none⟩])
 (.cond (.tmp 16)
  (.seq (.ops [⟨(some 2), .mv (.const (.bool false)), none⟩])
  .ret)
  .skip))))
 (.ops [⟨(some 17), .int .add (.tmp 7) (.const (.int .i64 1)), none⟩,
   ⟨(some 7), .mv (.tmp 17), none⟩]))))

def k_lontarlaw03_may : ACode :=
 (.seq (.ops [⟨(some 2), .mv (.const (.bool false)), none⟩])
 (.seq (.seq (.ops [⟨(some 5), .mv (.tmp 0), none⟩,
   ⟨(some 6), .len false (.tmp 5), none⟩,
   ⟨(some 7), .mv (.const (.int .i64 0)), none⟩])
 (.block 0 (.loop [0, 5, 6, 7] b_lontarlaw03_may_0)))
 (.seq (.ops [⟨(some 18), .mv (.tmp 0), none⟩,
   ⟨(some 19), .len false (.tmp 18), none⟩,
   ⟨(some 20), .int .gtr (.tmp 19) (.const (.int .i64 0)), none⟩,
   ⟨(some 21), .mv (.tmp 20), none⟩,
   ⟨(some 22), .mv (.tmp 0), some (21, true)⟩,
   ⟨(some 23), .len false (.tmp 22), some (21, true)⟩,
   ⟨(some 24), .int .lss (.tmp 23) (.const (.int .i64 9)), some (21, true)⟩,
   ⟨(some 25), .pick (.tmp 21) (.tmp 24) (.const (.bool false)), none⟩,
   ⟨(some 2), .mv (.tmp 25), none⟩])
 .ret)))
def F_lontarlaw03_may : AFunc := ⟨1, 26, [.tmp 2], k_lontarlaw03_may⟩
theorem ok_lontarlaw03_may : FOK Try.prog 33 F_lontarlaw03_may := FOK.of [[0, 5, 6, 7]] Try.func33 (by kernel_rfl) (by kernel_rfl)

-- lontar/lontarlaw03.find
@[reducible] def i_lontarlaw03_find : Nat := 34
/-- lontarlaw03_find: the body of loop 0 -/
def b_lontarlaw03_find_0 : ACode :=
 (.seq (.ops [⟨(some 10), .int .lss (.tmp 9) (.tmp 8), none⟩])
 (.seq (.cond (.tmp 10)
  .skip
  (.exit 0))
 (.seq (.block 1 (.seq (.ops [⟨(some 11), .mv (.tmp 9), none⟩,
   ⟨(some 12), .iaddr (.tmp 7) (.tmp 9) 2, none⟩,
   ⟨(some 13), .load (.tmp 12) (some 2), none⟩,
   ⟨(some 6), .alloc [(.slice none 0 0), (.slice none 0 0)] 51, none⟩,
   ⟨(some 5), .mv (.tmp 11), none⟩,
   ⟨none, .store (.tmp 6) (.tmp 13) 2, none⟩])
 (.seq (.ops [⟨(some 14), .faddr (.tmp 6) 0, none⟩,
   ⟨(some 15), .load (.tmp 14) none, none⟩,
   ⟨(some 16), .mv (.tmp 1), none⟩,
   ⟨(some 17), .call (.func 22) [(.tmp 15), (.tmp 16)], none⟩])
 (.cond (.tmp 17)
  (.seq (.ops [⟨(some 18), .mv (.tmp 5), none⟩,
    ⟨(some 4), .mv (.tmp 18), none⟩])
  .ret)
  .skip))))
 (.ops [⟨(some 19), .int .add (.tmp 9) (.const (.int .i64 1)), none⟩,
   ⟨(some 9), .mv (.tmp 19), none⟩]))))

def k_lontarlaw03_find : ACode :=
 (.seq (.ops [⟨(some 4), .mv (.const (.int .i64 0)), none⟩])
 (.seq (.seq (.ops [⟨(some 7), .mv (.tmp 0), none⟩,
   ⟨(some 8), .len false (.tmp 7), none⟩,
   ⟨(some 9), .mv (.const (.int .i64 0)), none⟩])
 (.block 0 (.loop [1, 7, 8, 9] b_lontarlaw03_find_0)))
 (.seq (.ops [⟨(some 4), .mv (.const (.int .i64 (-1))), none⟩])
 .ret)))
def F_lontarlaw03_find : AFunc := ⟨2, 20, [.tmp 4], k_lontarlaw03_find⟩
theorem ok_lontarlaw03_find : FOK Try.prog 34 F_lontarlaw03_find := FOK.of [[1, 7, 8, 9]] Try.func34 (by kernel_rfl) (by kernel_rfl)

-- lontar/rule.Check
@[reducible] def i_rule_Check : Nat := 35
/-- rule_Check: the body of loop 0 -/
def b_rule_Check_0 : ACode :=
 (.seq (.ops [⟨(some 9), .int .lss (.tmp 8) (.tmp 7), none⟩])
 (.seq (.cond (.tmp 9)
  .skip
  (.exit 0))
 (.seq (.block 1 (.seq (.ops [⟨(some 10), .mv (.tmp 8), none⟩,
   ⟨(some 11), .iaddr (.tmp 6) (.tmp 8) 2, none⟩,
   ⟨(some 12), .load (.tmp 11) (some 2), none⟩,
   ⟨(some 5), .alloc [(.slice none 0 0), (.slice none 0 0)] 51, none⟩,
   ⟨(some 4), .mv (.tmp 10), none⟩,
   ⟨none, .store (.tmp 5) (.tmp 12) 2, none⟩])
 (.block 2 (.seq (.ops [⟨(some 14), .mv (.tmp 4), none⟩,
   ⟨(some 15), .int .geq (.tmp 14) (.const (.int .i64 512)), none⟩,
   ⟨(some 13), .mv (.tmp 15), none⟩])
 (.cond (.tmp 13)
  (.seq (.ops [⟨(some 16), .mv (.tmp 4), none⟩,
    ⟨(some 2), .mv (.tmp 16), none⟩,
    ⟨(some 3), .mv (.const (.int .i64 7)), none⟩])
  .ret)
  (.seq (.ops [⟨(some 18), .faddr (.tmp 5) 0, none⟩,
    ⟨(some 19), .load (.tmp 18) none, none⟩,
    ⟨(some 20), .call (.func 42) [(.tmp 19)], none⟩,
    ⟨(some 21), .not (.tmp 20), none⟩,
    ⟨(some 22), .mv (.tmp 21), none⟩,
    ⟨(some 23), .faddr (.tmp 5) 1, some (22, false)⟩,
    ⟨(some 24), .load (.tmp 23) none, some (22, false)⟩,
    ⟨(some 25), .call (.func 42) [(.tmp 24)], some (22, false)⟩,
    ⟨(some 26), .not (.tmp 25), some (22, false)⟩,
    ⟨(some 27), .pick (.tmp 22) (.const (.bool true)) (.tmp 26), none⟩,
    ⟨(some 17), .mv (.tmp 27), none⟩])
  (.cond (.tmp 17)
   (.seq (.ops [⟨(some 28), .mv (.tmp 4), none⟩,
     ⟨(some 2), .mv (.tmp 28), none⟩,
     ⟨(some 3), .mv (.const (.int .i64 9)), none⟩])
   .ret)
   (.seq (.draw [⟨(some 30), .mv (.tmp 0), none⟩,
     ⟨(some 31), .mv (.tmp 4), none⟩,
     ⟨(some 32), .slice (.tmp 30) none (some (.tmp 31)) 2, none⟩,
     ⟨(some 33), .faddr (.tmp 5) 0, none⟩,
     ⟨(some 34), .load (.tmp 33) none, none⟩,
     ⟨(some 35), .call (.func 43) [(.tmp 32), (.tmp 34)], none⟩,
     ⟨(some 36), .int .geq (.tmp 35) (.const (.int .i64 0)), none⟩,
     ⟨(some 29), .mv (.tmp 36), none⟩])
   (.cond (.tmp 29)
    (.seq (.ops [⟨(some 37), .mv (.tmp 4), none⟩,
      ⟨(some 2), .mv (.tmp 37), none⟩,
      ⟨(some 3), .mv (.const (.int .i64 8)), none⟩])
    .ret)
    .skip)))))))))
 (.ops [⟨(some 38), .int .add (.tmp 8) (.const (.int .i64 1)), none⟩,
   ⟨(some 8), .mv (.tmp 38), none⟩]))))

def k_rule_Check : ACode :=
 (.seq (.ops [⟨(some 2), .mv (.const (.int .i64 0)), none⟩,
   ⟨(some 3), .mv (.const (.int .i64 0)), none⟩])
 (.seq (.seq (.ops [⟨(some 6), .mv (.tmp 0), none⟩,
   ⟨(some 7), .len false (.tmp 6), none⟩,
   ⟨(some 8), .mv (.const (.int .i64 0)), none⟩])
 (.block 0 (.loop [0, 6, 7, 8] b_rule_Check_0)))
 (.seq (.ops [⟨(some 2), .mv (.const (.int .i64 (-1))), none⟩,
   ⟨(some 3), .mv (.const (.int .i64 0)), none⟩])
 .ret)))
def F_rule_Check : AFunc := ⟨1, 39, [.tmp 2, .tmp 3], k_rule_Check⟩
theorem ok_rule_Check : FOK Try.prog 35 F_rule_Check := FOK.of [[0, 6, 7, 8], [0, 1, 2, 3, 4, 5, 6, 7]] Try.func35 (by kernel_rfl) (by kernel_rfl)

-- (*lontar/trie.Trie).Step
@[reducible] def i_trie_Trie__Step : Nat := 36
/-- trie_Trie__Step: the body of loop 0 -/
def b_trie_Trie__Step_0 : ACode :=
 (.seq (.seq (.ops [⟨(some 28), .mv (.tmp 8), none⟩,
   ⟨(some 29), .int .gtr (.tmp 28) (.const (.int .i64 0)), none⟩])
 (.cond (.tmp 29)
  .skip
  (.exit 0)))
 (.seq (.block 1 (.seq (.ops [⟨(some 38), .mv (.tmp 0), none⟩,
   ⟨(some 39), .nilChk (.tmp 38), none⟩,
   ⟨(some 40), .faddr (.tmp 39) 0, none⟩,
   ⟨(some 41), .load (.tmp 40) none, none⟩,
   ⟨(some 42), .mv (.tmp 8), none⟩,
   ⟨(some 43), .iaddr (.tmp 41) (.tmp 42) 4, none⟩,
   ⟨(some 44), .faddr (.tmp 43) 0, none⟩,
   ⟨(some 45), .load (.tmp 44) none, none⟩,
   ⟨(some 46), .mv (.tmp 2), none⟩,
   ⟨(some 47), .int .eql (.tmp 45) (.tmp 46), none⟩])
 (.cond (.tmp 47)
  (.seq (.ops [⟨(some 48), .mv (.tmp 8), none⟩,
    ⟨(some 6), .mv (.tmp 48), none⟩,
    ⟨(some 7), .mv (.const (.bool true)), none⟩])
  .ret)
  .skip)))
 (.ops [⟨(some 30), .mv (.tmp 0), none⟩,
   ⟨(some 31), .nilChk (.tmp 30), none⟩,
   ⟨(some 32), .faddr (.tmp 31) 0, none⟩,
   ⟨(some 33), .load (.tmp 32) none, none⟩,
   ⟨(some 34), .mv (.tmp 8), none⟩,
   ⟨(some 35), .iaddr (.tmp 33) (.tmp 34) 4, none⟩,
   ⟨(some 36), .faddr (.tmp 35) 2, none⟩,
   ⟨(some 37), .load (.tmp 36) none, none⟩,
   ⟨(some 8), .mv (.tmp 37), none⟩])))

def k_trie_Trie__Step : ACode :=
 (.seq (.ops [⟨(some 6), .mv (.const (.int .i64 0)), none⟩,
   ⟨(some 7), .mv (.const (.bool false)), none⟩])
 (.seq (.seq (.ops [⟨(some 9), .mv (.tmp 1), none⟩,
   ⟨(some 10), .int .lss (.tmp 9) (.const (.int .i64 0)), none⟩,
   ⟨(some 11), .mv (.tmp 10), none⟩,
   ⟨(some 12), .mv (.tmp 1), some (11, false)⟩,
   ⟨(some 13), .mv (.tmp 0), some (11, false)⟩,
   ⟨(some 14), .nilChk (.tmp 13), some (11, false)⟩,
   ⟨(some 15), .faddr (.tmp 14) 0, some (11, false)⟩,
   ⟨(some 16), .load (.tmp 15) none, some (11, false)⟩,
   ⟨(some 17), .len false (.tmp 16), some (11, false)⟩,
   ⟨(some 18), .int .geq (.tmp 12) (.tmp 17), some (11, false)⟩,
   ⟨(some 19), .pick (.tmp 11) (.const (.bool true)) (.tmp 18), none⟩])
 (.cond (.tmp 19)
  (.seq (.ops [⟨(some 6), .mv (.const (.int .i64 0)), none⟩,
    ⟨(some 7), .mv (.const (.bool false)), none⟩])
  .ret)
  .skip))
 (.seq (.seq (.ops [⟨(some 20), .mv (.tmp 0), none⟩,
   ⟨(some 21), .nilChk (.tmp 20), none⟩,
   ⟨(some 22), .faddr (.tmp 21) 0, none⟩,
   ⟨(some 23), .load (.tmp 22) none, none⟩,
   ⟨(some 24), .mv (.tmp 1), none⟩,
   ⟨(some 25), .iaddr (.tmp 23) (.tmp 24) 4, none⟩,
   ⟨(some 26), .faddr (.tmp 25) 1, none⟩,
   ⟨(some 27), .load (.tmp 26) none, none⟩,
   ⟨(some 8), .mv (.tmp 27), none⟩])
 (.block 0 (.loop [0, 2, 8] b_trie_Trie__Step_0)))
 (.seq (.ops [⟨(some 6), .mv (.const (.int .i64 0)), none⟩,
   ⟨(some 7), .mv (.const (.bool false)), none⟩])
 .ret))))
def F_trie_Trie__Step : AFunc := ⟨3, 49, [.tmp 6, .tmp 7], k_trie_Trie__Step⟩
theorem ok_trie_Trie__Step : FOK Try.prog 36 F_trie_Trie__Step := FOK.of [[0, 2, 8]] Try.func36 (by kernel_rfl) (by kernel_rfl)

-- lontar/rewrite.one
@[reducible] def i_rewrite_one : Nat := 37
def k_rewrite_one : ACode :=
 (.seq (.ops [⟨(some 6), .alloc [(.int .i64 0), (.int .i64 0), (.slice none 0 0), (.int .i64 0)] 39, none⟩])
 (.seq (.ops [⟨(some 11), .mv (.tmp 0), none⟩,
   ⟨(some 12), .mv (.tmp 1), none⟩,
   ⟨(some 13), .call (.func 28) [(.tmp 11), (.tmp 12)], none⟩,
   ⟨(some 10), .mv (.tmp 13), none⟩,
   ⟨(some 14), .ext (.tmp 10) 0, none⟩,
   ⟨(some 15), .ext (.tmp 10) 1, none⟩,
   ⟨(some 16), .ext (.tmp 10) 2, none⟩,
   ⟨(some 7), .mv (.tmp 14), none⟩,
   ⟨(some 8), .mv (.tmp 15), none⟩,
   ⟨(some 9), .mv (.tmp 16), none⟩])
 (.seq (.seq (.ops [⟨(some 17), .mv (.tmp 7), none⟩,
   ⟨(some 18), .int .lss (.tmp 17) (.const (.int .i64 0)), none⟩])
 (.cond (.tmp 18)
  (.seq (.ops [⟨(some 19), .mv (.tmp 2), none⟩,
    ⟨(some 20), .build [(.int .i64 0), (.int .i64 0), (.slice none 0 0), (.int .i64 0)] [(0, 1, (.tmp 19)), (1, 1, (.const (.int .i64 1))), (3, 1, (.const (.int .i64 3)))], none⟩,
    ⟨none, .store (.tmp 6) (.tmp 20) 4, none⟩])
  .ret)
  .skip))
 (.seq (.ops [⟨(some 21), .mv (.tmp 2), none⟩,
   ⟨(some 22), .mv (.tmp 8), none⟩,
   ⟨(some 23), .mv (.tmp 0), none⟩,
   ⟨(some 24), .mv (.tmp 7), none⟩,
   ⟨(some 25), .call (.func 44) [(.tmp 23), (.tmp 24)], none⟩,
   ⟨(some 26), .build [(.int .i64 0), (.int .i64 0), (.slice none 0 0), (.int .i64 0)] [(0, 1, (.tmp 21)), (1, 1, (.tmp 22)), (2, 1, (.tmp 25))], none⟩,
   ⟨none, .store (.tmp 6) (.tmp 26) 4, none⟩])
 .ret))))
def F_rewrite_one : AFunc := ⟨3, 27, [.cell 6 (some 4)], k_rewrite_one⟩
theorem ok_rewrite_one : FOK Try.prog 37 F_rewrite_one := FOK.of [] Try.func37 (by kernel_rfl) (by kernel_rfl)

-- (*lontar/match.Match).take
@[reducible] def i_match_Match__take : Nat := 38
/-- match_Match__take: the body of loop 0 -/
def b_match_Match__take_0 : ACode :=
 (.seq (.seq (.ops [⟨(some 10), .mv (.tmp 0), none⟩,
   ⟨(some 11), .nilChk (.tmp 10), none⟩,
   ⟨(some 12), .faddr (.tmp 11) 1, none⟩,
   ⟨(some 13), .load (.tmp 12) none, none⟩,
   ⟨(some 14), .len false (.tmp 13), none⟩,
   ⟨(some 15), .int .gtr (.tmp 14) (.const (.int .i64 0)), none⟩])
 (.cond (.tmp 15)
  .skip
  (.exit 0)))
 (.block 1 (.seq (.draw [⟨(some 17), .mv (.tmp 0), none⟩,
   ⟨(some 18), .nilChk (.tmp 17), none⟩,
   ⟨(some 19), .faddr (.tmp 18) 0, none⟩,
   ⟨(some 20), .load (.tmp 19) none, none⟩,
   ⟨(some 21), .mv (.tmp 0), none⟩,
   ⟨(some 22), .nilChk (.tmp 21), none⟩,
   ⟨(some 23), .faddr (.tmp 22) 1, none⟩,
   ⟨(some 24), .load (.tmp 23) none, none⟩,
   ⟨(some 25), .call (.func 28) [(.tmp 20), (.tmp 24)], none⟩,
   ⟨(some 16), .mv (.tmp 25), none⟩,
   ⟨(some 26), .ext (.tmp 16) 0, none⟩,
   ⟨(some 27), .ext (.tmp 16) 1, none⟩,
   ⟨(some 28), .ext (.tmp 16) 2, none⟩,
   ⟨(some 6), .mv (.tmp 26), none⟩,
   ⟨(some 7), .mv (.tmp 27), none⟩,
   ⟨(some 8), .mv (.tmp 28), none⟩])
 (.seq (.draw [⟨(some 29), .mv (.tmp 0), none⟩,
   ⟨(some 30), .nilChk (.tmp 29), none⟩,
   ⟨(some 31), .faddr (.tmp 30) 3, none⟩,
   ⟨(some 32), .load (.tmp 31) none, none⟩,
   ⟨(some 33), .mv (.tmp 0), none⟩,
   ⟨(some 34), .nilChk (.tmp 33), none⟩,
   ⟨(some 35), .faddr (.tmp 34) 1, none⟩,
   ⟨(some 36), .load (.tmp 35) none, none⟩,
   ⟨(some 37), .len false (.tmp 36), none⟩,
   ⟨(some 38), .int .add (.tmp 32) (.tmp 37), none⟩,
   ⟨(some 39), .nilChk (.tmp 29), none⟩,
   ⟨(some 40), .faddr (.tmp 39) 3, none⟩,
   ⟨none, .store (.tmp 40) (.tmp 38) 1, none⟩])
 (.seq (.seq (.ops [⟨(some 41), .mv (.tmp 8), none⟩,
   ⟨(some 42), .mv (.tmp 41), none⟩,
   ⟨(some 43), .mv (.tmp 1), some (42, true)⟩,
   ⟨(some 44), .not (.tmp 43), some (42, true)⟩,
   ⟨(some 45), .pick (.tmp 42) (.tmp 44) (.const (.bool false)), none⟩])
 (.cond (.tmp 45)
  (.exit 0)
  .skip))
 (.seq (.ops [⟨(some 46), .mv (.tmp 0), none⟩,
   ⟨(some 47), .nilChk (.tmp 46), none⟩,
   ⟨(some 48), .faddr (.tmp 47) 2, none⟩,
   ⟨(some 49), .load (.tmp 48) none, none⟩,
   ⟨(some 50), .mv (.tmp 7), none⟩,
   ⟨(some 51), .max2 (.const (.int .i64 1)) (.tmp 50), none⟩,
   ⟨(some 52), .build [(.int .i64 0), (.int .i64 0), (.slice none 0 0), (.int .i64 0)] [(0, 1, (.tmp 49)), (1, 1, (.tmp 51))], none⟩,
   ⟨(some 9), .alloc [(.int .i64 0), (.int .i64 0), (.slice none 0 0), (.int .i64 0)] 39, none⟩,
   ⟨none, .store (.tmp 9) (.tmp 52) 4, none⟩])
 (.seq (.seq (.ops [⟨(some 53), .mv (.tmp 6), none⟩,
   ⟨(some 54), .int .lss (.tmp 53) (.const (.int .i64 0)), none⟩])
 (.cond (.tmp 54)
  (.ops [⟨(some 55), .faddr (.tmp 9) 3, none⟩,
    ⟨none, .store (.tmp 55) (.const (.int .i64 3)) 1, none⟩])
  (.ops [⟨(some 56), .mv (.tmp 0), none⟩,
    ⟨(some 57), .nilChk (.tmp 56), none⟩,
    ⟨(some 58), .faddr (.tmp 57) 0, none⟩,
    ⟨(some 59), .load (.tmp 58) none, none⟩,
    ⟨(some 60), .mv (.tmp 6), none⟩,
    ⟨(some 61), .call (.func 44) [(.tmp 59), (.tmp 60)], none⟩,
    ⟨(some 62), .faddr (.tmp 9) 2, none⟩,
    ⟨none, .store (.tmp 62) (.tmp 61) 1, none⟩])))
 (.seq (.ops [⟨(some 63), .mv (.tmp 5), none⟩,
   ⟨(some 64), .load (.tmp 9) (some 4), none⟩,
   ⟨(some 65), .bslice 39 1 4 [(.int .i64 0), (.int .i64 0), (.slice none 0 0), (.int .i64 0)] [(0, 4, (.tmp 64))], none⟩,
   ⟨(some 66), .append (.tmp 63) (.tmp 65) 39 4 48, none⟩,
   ⟨(some 5), .mv (.tmp 66), none⟩])
 (.seq (.draw [⟨(some 67), .mv (.tmp 0), none⟩,
   ⟨(some 68), .mv (.tmp 0), none⟩,
   ⟨(some 69), .nilChk (.tmp 68), none⟩,
   ⟨(some 70), .faddr (.tmp 69) 1, none⟩,
   ⟨(some 71), .load (.tmp 70) none, none⟩,
   ⟨(some 72), .faddr (.tmp 9) 1, none⟩,
   ⟨(some 73), .load (.tmp 72) none, none⟩,
   ⟨(some 74), .slice (.tmp 71) (some (.tmp 73)) none 1, none⟩,
   ⟨(some 75), .append (.const (.slice none 0 0)) (.tmp 74) 3 1 8, none⟩,
   ⟨(some 76), .nilChk (.tmp 67), none⟩,
   ⟨(some 77), .faddr (.tmp 76) 1, none⟩,
   ⟨none, .store (.tmp 77) (.tmp 75) 1, none⟩])
 (.draw [⟨(some 78), .mv (.tmp 0), none⟩,
   ⟨(some 79), .nilChk (.tmp 78), none⟩,
   ⟨(some 80), .faddr (.tmp 79) 2, none⟩,
   ⟨(some 81), .load (.tmp 80) none, none⟩,
   ⟨(some 82), .faddr (.tmp 9) 1, none⟩,
   ⟨(some 83), .load (.tmp 82) none, none⟩,
   ⟨(some 84), .int .add (.tmp 81) (.tmp 83), none⟩,
   ⟨(some 85), .nilChk (.tmp 78), none⟩,
   ⟨(some 86), .faddr (.tmp 85) 2, none⟩,
   ⟨none, .store (.tmp 86) (.tmp 84) 1, none⟩]))))))))))

def k_match_Match__take : ACode :=
 (.seq (.ops [⟨(some 4), .mv (.const (.slice none 0 0)), none⟩])
 (.seq (.ops [⟨(some 5), .mv (.const (.slice none 0 0)), none⟩])
 (.seq (.block 0 (.loop [0, 1, 5] b_match_Match__take_0))
 (.seq (.ops [⟨(some 87), .mv (.tmp 5), none⟩,
   ⟨(some 4), .mv (.tmp 87), none⟩])
 .ret))))
def F_match_Match__take : AFunc := ⟨2, 88, [.tmp 4], k_match_Match__take⟩
theorem ok_match_Match__take : FOK Try.prog 38 F_match_Match__take := FOK.of [[0, 1, 5], [0, 1, 2, 3, 4, 5, 6, 7, 8, 9, 10, 11, 12, 13, 14, 15], [0, 1, 2, 3, 4, 5, 6, 7, 8, 9, 10, 11, 12], [0, 1, 2, 3, 4, 5, 6, 7, 8, 9, 10, 11], [0, 1, 2, 3, 4, 5, 6, 7, 8, 9]] Try.func38 (by kernel_rfl) (by kernel_rfl)

-- (*lontar/trie.Trie).Rule
@[reducible] def i_trie_Trie__Rule : Nat := 39
def k_trie_Trie__Rule : ACode :=
 (.seq (.ops [⟨(some 4), .mv (.const (.int .i64 0)), none⟩])
 (.seq (.seq (.ops [⟨(some 5), .mv (.tmp 1), none⟩,
   ⟨(some 6), .int .lss (.tmp 5) (.const (.int .i64 0)), none⟩,
   ⟨(some 7), .mv (.tmp 6), none⟩,
   ⟨(some 8), .mv (.tmp 1), some (7, false)⟩,
   ⟨(some 9), .mv (.tmp 0), some (7, false)⟩,
   ⟨(some 10), .nilChk (.tmp 9), some (7, false)⟩,
   ⟨(some 11), .faddr (.tmp 10) 0, some (7, false)⟩,
   ⟨(some 12), .load (.tmp 11) none, some (7, false)⟩,
   ⟨(some 13), .len false (.tmp 12), some (7, false)⟩,
   ⟨(some 14), .int .geq (.tmp 8) (.tmp 13), some (7, false)⟩,
   ⟨(some 15), .pick (.tmp 7) (.const (.bool true)) (.tmp 14), none⟩])
 (.cond (.tmp 15)
  (.seq (.ops [⟨(some 4), .mv (.const (.int .i64 (-1))), none⟩])
  .ret)
  .skip))
 (.seq (.ops [⟨(some 16), .mv (.tmp 0), none⟩,
   ⟨(some 17), .nilChk (.tmp 16), none⟩,
   ⟨(some 18), .faddr (.tmp 17) 0, none⟩,
   ⟨(some 19), .load (.tmp 18) none, none⟩,
   ⟨(some 20), .mv (.tmp 1), none⟩,
   ⟨(some 21), .iaddr (.tmp 19) (.tmp 20) 4, none⟩,
   ⟨(some 22), .faddr (.tmp 21) 3, none⟩,
   ⟨(some 23), .load (.tmp 22) none, none⟩,
   ⟨(some 4), .mv (.tmp 23), none⟩])
 .ret)))
def F_trie_Trie__Rule : AFunc := ⟨2, 24, [.tmp 4], k_trie_Trie__Rule⟩
theorem ok_trie_Trie__Rule : FOK Try.prog 39 F_trie_Trie__Rule := FOK.of [] Try.func39 (by kernel_rfl) (by kernel_rfl)

-- (*lontar/trie.Trie).Leaf
@[reducible] def i_trie_Trie__Leaf : Nat := 40
def k_trie_Trie__Leaf : ACode :=
 (.seq (.ops [⟨(some 4), .mv (.const (.bool false)), none⟩])
 (.seq (.ops [⟨(some 5), .mv (.tmp 1), none⟩,
   ⟨(some 6), .int .lss (.tmp 5) (.const (.int .i64 0)), none⟩,
   ⟨(some 7), .mv (.tmp 6), none⟩,
   ⟨(some 8), .mv (.tmp 1), some (7, false)⟩,
   ⟨(some 9), .mv (.tmp 0), some (7, false)⟩,
   ⟨(some 10), .nilChk (.tmp 9), some (7, false)⟩,
   ⟨(some 11), .faddr (.tmp 10) 0, some (7, false)⟩,
   ⟨(some 12), .load (.tmp 11) none, some (7, false)⟩,
   ⟨(some 13), .len false (.tmp 12), some (7, false)⟩,
   ⟨(some 14), .int .geq (.tmp 8) (.tmp 13), some (7, false)⟩,
   ⟨(some 15), .pick (.tmp 7) (.const (.bool true)) (.tmp 14), none⟩,
   ⟨(some 16), .mv (.tmp 15), none⟩,
   ⟨(some 17), .mv (.tmp 0), some (16, false)⟩,
   ⟨(some 18), .nilChk (.tmp 17), some (16, false)⟩,
   ⟨(some 19), .faddr (.tmp 18) 0, some (16, false)⟩,
   ⟨(some 20), .load (.tmp 19) none, some (16, false)⟩,
   ⟨(some 21), .mv (.tmp 1), some (16, false)⟩,
   ⟨(some 22), .iaddr (.tmp 20) (.tmp 21) 4, some (16, false)⟩,
   ⟨(some 23), .faddr (.tmp 22) 1, some (16, false)⟩,
   ⟨(some 24), .load (.tmp 23) none, some (16, false)⟩,
   ⟨(some 25), .int .eql (.tmp 24) (.const (.int .i64 0)), some (16, false)⟩,
   ⟨(some 26), .pick (.tmp 16) (.const (.bool true)) (.tmp 25), none⟩,
   ⟨(some 4), .mv (.tmp 26), none⟩])
 .ret))
def F_trie_Trie__Leaf : AFunc := ⟨2, 27, [.tmp 4], k_trie_Trie__Leaf⟩
theorem ok_trie_Trie__Leaf : FOK Try.prog 40 F_trie_Trie__Leaf := FOK.of [] Try.func40 (by kernel_rfl) (by kernel_rfl)

-- lontar/lontarlaw03.units
@[reducible] def i_lontarlaw03_units : Nat := 41
/-- lontarlaw03_units: the body of loop 0 -/
def b_lontarlaw03_units_0 : ACode :=
 (.seq (.ops [⟨(some 15), .int .lss (.tmp 14) (.tmp 13), none⟩])
 (.seq (.cond (.tmp 15)
  .skip
  (.exit 0))
 (.seq (.block 1 (.seq (.ops [⟨(some 16), .iaddr (.tmp 12) (.tmp 14) 1, none⟩,
   ⟨(some 17), .load (.tmp 16) none, none⟩,
   ⟨(some 7), .mv (.tmp 17), none⟩])
 (.ops [⟨(some 18), .mv (.tmp 5), none⟩,
   ⟨(some 19), .mv (.tmp 1), none⟩,
   ⟨(some 20), .mv (.tmp 7), none⟩,
   ⟨(some 21), .int .rem (.tmp 20) (.const (.int .u8 5)), none⟩,
   ⟨(some 22), .conv .i64 (.tmp 21), none⟩,
   ⟨(some 23), .int .add (.tmp 19) (.tmp 22), none⟩,
   ⟨(some 24), .bslice 3 1 1 [(.int .i64 0)] [(0, 1, (.tmp 23))], none⟩,
   ⟨(some 25), .append (.tmp 18) (.tmp 24) 3 1 8, none⟩,
   ⟨(some 5), .mv (.tmp 25), none⟩])))
 (.ops [⟨(some 26), .int .add (.tmp 14) (.const (.int .i64 1)), none⟩,
   ⟨(some 14), .mv (.tmp 26), none⟩]))))

def k_lontarlaw03_units : ACode :=
 (.seq (.ops [⟨(some 4), .mv (.const (.slice none 0 0)), none⟩])
 (.seq (.ops [⟨(some 5), .mv (.const (.slice none 0 0)), none⟩])
 (.seq (.seq (.ops [⟨(some 8), .mv (.tmp 0), none⟩,
   ⟨(some 9), .mv (.tmp 0), none⟩,
   ⟨(some 10), .len false (.tmp 9), none⟩,
   ⟨(some 11), .min2 (.tmp 10) (.const (.int .i64 4)), none⟩,
   ⟨(some 12), .slice (.tmp 8) none (some (.tmp 11)) 1, none⟩,
   ⟨(some 13), .len false (.tmp 12), none⟩,
   ⟨(some 14), .mv (.const (.int .i64 0)), none⟩])
 (.block 0 (.loop [1, 5, 12, 13, 14] b_lontarlaw03_units_0)))
 (.seq (.ops [⟨(some 27), .mv (.tmp 5), none⟩,
   ⟨(some 28), .mv (.tmp 1), none⟩,
   ⟨(some 29), .bslice 3 1 1 [(.int .i64 0)] [(0, 1, (.tmp 28))], none⟩,
   ⟨(some 30), .append (.tmp 27) (.tmp 29) 3 1 8, none⟩,
   ⟨(some 31), .mv (.tmp 5), none⟩,
   ⟨(some 32), .len false (.tmp 31), none⟩,
   ⟨(some 33), .max2 (.const (.int .i64 1)) (.tmp 32), none⟩,
   ⟨(some 34), .slice (.tmp 30) none (some (.tmp 33)) 1, none⟩,
   ⟨(some 4), .mv (.tmp 34), none⟩])
 .ret))))
def F_lontarlaw03_units : AFunc := ⟨2, 35, [.tmp 4], k_lontarlaw03_units⟩
theorem ok_lontarlaw03_units : FOK Try.prog 41 F_lontarlaw03_units := FOK.of [[1, 5, 12, 13, 14]] Try.func41 (by kernel_rfl) (by kernel_rfl)

-- lontar/rule.side
@[reducible] def i_rule_side : Nat := 42
def k_rule_side : ACode :=
 (.seq (.ops [⟨(some 2), .mv (.const (.bool false)), none⟩])
 (.seq (.ops [⟨(some 3), .mv (.tmp 0), none⟩,
   ⟨(some 4), .len false (.tmp 3), none⟩,
   ⟨(some 5), .int .gtr (.tmp 4) (.const (.int .i64 0)), none⟩,
   ⟨(some 6), .mv (.tmp 5), none⟩,
   ⟨(some 7), .mv (.tmp 0), some (6, true)⟩,
   ⟨(some 8), .len false (.tmp 7), some (6, true)⟩,
   ⟨(some 9), .int .leq (.tmp 8) (.const (.int .i64 8)), some (6, true)⟩,
   ⟨(some 10), .pick (.tmp 6) (.tmp 9) (.const (.bool false)), none⟩,
   ⟨(some 11), .mv (.tmp 10), none⟩,
   ⟨(some 12), .mv (.tmp 0), some (11, true)⟩,
   ⟨(some 13), .call (.func 45) [(.tmp 12), (.func 46)], some (11, true)⟩,
   ⟨(some 14), .not (.tmp 13), some (11, true)⟩,
   ⟨(some 15), .pick (.tmp 11) (.tmp 14) (.const (.bool false)), none⟩,
   ⟨(some 2), .mv (.tmp 15), none⟩])
 .ret))
def F_rule_side : AFunc := ⟨1, 16, [.tmp 2], k_rule_side⟩
theorem ok_rule_side : FOK Try.prog 42 F_rule_side := FOK.of [] Try.func42 (by kernel_rfl) (by kernel_rfl)

-- lontar/rule.Find
@[reducible] def i_rule_Find : Nat := 43
def k_rule_Find : ACode :=
 (.seq (.ops [⟨(some 3), .box (.tmp 1) 24, none⟩,
   ⟨(some 4), .mv (.const (.int .i64 0)), none⟩])
 (.seq (.ops [⟨(some 5), .mv (.tmp 0), none⟩,
   ⟨(some 6), .mkfun (.func 48) [] [(.tmp 3)], none⟩,
   ⟨(some 7), .call (.func 47) [(.tmp 5), (.tmp 6)], none⟩,
   ⟨(some 4), .mv (.tmp 7), none⟩])
 .ret))
def F_rule_Find : AFunc := ⟨2, 8, [.tmp 4], k_rule_Find⟩
theorem ok_rule_Find : FOK Try.prog 43 F_rule_Find := FOK.of [] Try.func43 (by kernel_rfl) (by kernel_rfl)

-- (*lontar/trie.Trie).Out
@[reducible] def i_trie_Trie__Out : Nat := 44
def k_trie_Trie__Out : ACode :=
 (.seq (.ops [⟨(some 4), .mv (.const (.slice none 0 0)), none⟩])
 (.seq (.seq (.ops [⟨(some 5), .mv (.tmp 1), none⟩,
   ⟨(some 6), .int .lss (.tmp 5) (.const (.int .i64 0)), none⟩,
   ⟨(some 7), .mv (.tmp 6), none⟩,
   ⟨(some 8), .mv (.tmp 1), some (7, false)⟩,
   ⟨(some 9), .mv (.tmp 0), some (7, false)⟩,
   ⟨(some 10), .nilChk (.tmp 9), some (7, false)⟩,
   ⟨(some 11), .faddr (.tmp 10) 1, some (7, false)⟩,
   ⟨(some 12), .load (.tmp 11) none, some (7, false)⟩,
   ⟨(some 13), .len false (.tmp 12), some (7, false)⟩,
   ⟨(some 14), .int .geq (.tmp 8) (.tmp 13), some (7, false)⟩,
   ⟨(some 15), .pick (.tmp 7) (.const (.bool true)) (.tmp 14), none⟩])
 (.cond (.tmp 15)
  (.seq (.ops [⟨(some 4), .mv (.const (.slice none 0 0)), none⟩])
  .ret)
  .skip))
 (.seq (.ops [⟨(some 16), .mv (.tmp 0), none⟩,
   ⟨(some 17), .nilChk (.tmp 16), none⟩,
   ⟨(some 18), .faddr (.tmp 17) 1, none⟩,
   ⟨(some 19), .load (.tmp 18) none, none⟩,
   ⟨(some 20), .mv (.tmp 1), none⟩,
   ⟨(some 21), .iaddr (.tmp 19) (.tmp 20) 2, none⟩,
   ⟨(some 22), .faddr (.tmp 21) 1, none⟩,
   ⟨(some 23), .load (.tmp 22) none, none⟩,
   ⟨(some 24), .append (.const (.slice none 0 0)) (.tmp 23) 3 1 8, none⟩,
   ⟨(some 4), .mv (.tmp 24), none⟩])
 .ret)))
def F_trie_Trie__Out : AFunc := ⟨2, 25, [.tmp 4], k_trie_Trie__Out⟩
theorem ok_trie_Trie__Out : FOK Try.prog 44 F_trie_Trie__Out := FOK.of [] Try.func44 (by kernel_rfl) (by kernel_rfl)

-- slices.ContainsFunc[[]int,int]
@[reducible] def i_slices_ContainsFunc___int_int_ : Nat := 45
def k_slices_ContainsFunc___int_int_ : ACode :=
 (.seq (.ops [⟨(some 4), .mv (.const (.bool false)), none⟩])
 (.seq (.ops [⟨(some 5), .mv (.tmp 0), none⟩,
   ⟨(some 6), .mv (.tmp 1), none⟩,
   ⟨(some 7), .call (.func 50) [(.tmp 5), (.tmp 6)], none⟩,
   ⟨(some 8), .int .geq (.tmp 7) (.const (.int .i64 0)), none⟩,
   ⟨(some 4), .mv (.tmp 8), none⟩])
 .ret))
def F_slices_ContainsFunc___int_int_ : AFunc := ⟨2, 9, [.tmp 4], k_slices_ContainsFunc___int_int_⟩
theorem ok_slices_ContainsFunc___int_int_ : FOK Try.prog 45 F_slices_ContainsFunc___int_int_ := FOK.of [] Try.func45 (by kernel_rfl) (by kernel_rfl)

-- lontar/rule.side$1
@[reducible] def i_rule_side_1 : Nat := 46
def k_rule_side_1 : ACode :=
 (.seq (.ops [⟨(some 2), .mv (.const (.bool false)), none⟩])
 (.seq (.ops [⟨(some 3), .mv (.tmp 0), none⟩,
   ⟨(some 4), .int .lss (.tmp 3) (.const (.int .i64 0)), none⟩,
   ⟨(some 5), .mv (.tmp 4), none⟩,
   ⟨(some 6), .mv (.tmp 0), some (5, false)⟩,
   ⟨(some 7), .int .gtr (.tmp 6) (.const (.int .i64 1114111)), some (5, false)⟩,
   ⟨(some 8), .pick (.tmp 5) (.const (.bool true)) (.tmp 7), none⟩,
   ⟨(some 2), .mv (.tmp 8), none⟩])
 .ret))
def F_rule_side_1 : AFunc := ⟨1, 9, [.tmp 2], k_rule_side_1⟩
theorem ok_rule_side_1 : FOK Try.prog 46 F_rule_side_1 := FOK.of [] Try.func46 (by kernel_rfl) (by kernel_rfl)

-- slices.IndexFunc[[]lontar/api.Rule,lontar/api.Rule]
@[reducible] def i_api_Rule_ : Nat := 47
/-- api_Rule_: the body of loop 0 -/
def b_api_Rule__0 : ACode :=
 (.seq (.ops [⟨(some 9), .int .lss (.tmp 8) (.tmp 7), none⟩])
 (.seq (.cond (.tmp 9)
  .skip
  (.exit 0))
 (.seq (.block 1 (.seq (.ops [⟨(some 10), .mv (.tmp 8), none⟩,
   ⟨(some 5), .mv (.tmp 10), none⟩])
 (.seq (.ops [⟨(some 11), .mv (.tmp 1), none⟩,
   ⟨(some 12), .mv (.tmp 0), none⟩,
   ⟨(some 13), .mv (.tmp 5), none⟩,
   ⟨(some 14), .iaddr (.tmp 12) (.tmp 13) 2, none⟩,
   ⟨(some 15), .load (.tmp 14) (some 2), none⟩,
   ⟨(some 16), .call (.tmp 11) [(.tmp 15)], none⟩])
 (.cond (.tmp 16)
  (.seq (.ops [⟨(some 17), .mv (.tmp 5), none⟩,
    ⟨(some 4), .mv (.tmp 17), none⟩])
  .ret)
  .skip))))
 (.ops [⟨(some 18), .int .add (.tmp 8) (.const (.int .i64 1)), none⟩,
   ⟨(some 8), .mv (.tmp 18), none⟩]))))

def k_api_Rule_ : ACode :=
 (.seq (.ops [⟨(some 4), .mv (.const (.int .i64 0)), none⟩])
 (.seq (.seq (.ops [⟨(some 6), .mv (.tmp 0), none⟩,
   ⟨(some 7), .len false (.tmp 6), none⟩,
   ⟨(some 8), .mv (.const (.int .i64 0)), none⟩])
 (.block 0 (.loop [0, 1, 7, 8] b_api_Rule__0)))
 (.seq (.ops [⟨(some 4), .mv (.const (.int .i64 (-1))), none⟩])
 .ret)))
def F_api_Rule_ : AFunc := ⟨2, 19, [.tmp 4], k_api_Rule_⟩
theorem ok_api_Rule_ : FOK Try.prog 47 F_api_Rule_ := FOK.of [[0, 1, 7, 8]] Try.func47 (by kernel_rfl) (by kernel_rfl)

-- lontar/rule.Find$1
@[reducible] def i_rule_Find_1 : Nat := 48
def k_rule_Find_1 : ACode :=
 (.seq (.ops [⟨(some 2), .box (.tmp 0) 51, none⟩,
   ⟨(some 3), .mv (.const (.bool false)), none⟩])
 (.seq (.ops [⟨(some 4), .faddr (.tmp 2) 0, none⟩,
   ⟨(some 5), .load (.tmp 4) none, none⟩,
   ⟨(some 6), .load (.tmp 1) none, none⟩,
   ⟨(some 7), .call (.func 49) [(.tmp 5), (.tmp 6)], none⟩,
   ⟨(some 3), .mv (.tmp 7), none⟩])
 .ret))
def F_rule_Find_1 : AFunc := ⟨2, 8, [.tmp 3], k_rule_Find_1⟩
theorem ok_rule_Find_1 : FOK Try.prog 48 F_rule_Find_1 := FOK.of [] Try.func48 (by kernel_rfl) (by kernel_rfl)

-- slices.Equal[[]int,int]
@[reducible] def i_slices_Equal___int_int_ : Nat := 49
/-- slices_Equal___int_int_: the body of loop 0 -/
def b_slices_Equal___int_int__0 : ACode :=
 (.seq (.ops [⟨(some 14), .int .lss (.tmp 13) (.tmp 12), none⟩])
 (.seq (.cond (.tmp 14)
  .skip
  (.exit 0))
 (.seq (.block 1 (.seq (.ops [⟨(some 15), .mv (.tmp 13), none⟩,
   ⟨(some 5), .mv (.tmp 15), none⟩])
 (.seq (.draw [⟨(some 16), .mv (.tmp 0), none⟩,
   ⟨(some 17), .mv (.tmp 5), none⟩,
   ⟨(some 18), .iaddr (.tmp 16) (.tmp 17) 1, none⟩,
   ⟨(some 19), .load (.tmp 18) none, none⟩,
   ⟨(some 20), .mv (.tmp 1), none⟩,
   ⟨(some 21), .mv (.tmp 5), none⟩,
   ⟨(some 22), .iaddr (.tmp 20) (.tmp 21) 1, none⟩,
   ⟨(some 23), .load (.tmp 22) none, none⟩,
   ⟨(some 24), .int .neq (.tmp 19) (.tmp 23), none⟩])
 (.cond (.tmp 24)
  (.seq (.ops [⟨(some 4), .mv (.const (.bool false)), none⟩])
  .ret)
  .skip))))
 (.ops [⟨(some 25), .int .add (.tmp 13) (.const (.int .i64 1)), none⟩,
   ⟨(some 13), .mv (.tmp 25), none⟩]))))

def k_slices_Equal___int_int_ : ACode :=
 (.seq (.ops [⟨(some 4), .mv (.const (.bool false)), none⟩])
 (.seq (.seq (.ops [⟨(some 6), .mv (.tmp 0), none⟩,
   ⟨(some 7), .len false (.tmp 6), none⟩,
   ⟨(some 8), .mv (.tmp 1), none⟩,
   ⟨(some 9), .len false (.tmp 8), none⟩,
   ⟨(some 10), .int .neq (.tmp 7) (.tmp 9), none⟩])
 (.cond (.tmp 10)
  (.seq (.ops [⟨(some 4), .mv (.const (.bool false)), none⟩])
  .ret)
  .skip))
 (.seq (.seq (.ops [⟨(some 11), .mv (.tmp 0), none⟩,
   ⟨(some 12), .len false (.tmp 11), none⟩,
   ⟨(some 13), .mv (.const (.int .i64 0)), none⟩])
 (.block 0 (.loop [0, 1, 12, 13] b_slices_Equal___int_int__0)))
 (.seq (.ops [⟨(some 4), .mv (.const (.bool true)), none⟩])
 .ret))))
def F_slices_Equal___int_int_ : AFunc := ⟨2, 26, [.tmp 4], k_slices_Equal___int_int_⟩
theorem ok_slices_Equal___int_int_ : FOK Try.prog 49 F_slices_Equal___int_int_ := FOK.of [[0, 1, 12, 13], [0, 1, 2, 3, 4, 5, 6, 7, 8]] Try.func49 (by kernel_rfl) (by kernel_rfl)

-- slices.IndexFunc[[]int,int]
@[reducible] def i_slices_IndexFunc___int_int_ : Nat := 50
/-- slices_IndexFunc___int_int_: the body of loop 0 -/
def b_slices_IndexFunc___int_int__0 : ACode :=
 (.seq (.ops [⟨(some 9), .int .lss (.tmp 8) (.tmp 7), none⟩])
 (.seq (.cond (.tmp 9)
  .skip
  (.exit 0))
 (.seq (.block 1 (.seq (.ops [⟨(some 10), .mv (.tmp 8), none⟩,
   ⟨(some 5), .mv (.tmp 10), none⟩])
 (.seq (.ops [⟨(some 11), .mv (.tmp 1), none⟩,
   ⟨(some 12), .mv (.tmp 0), none⟩,
   ⟨(some 13), .mv (.tmp 5), none⟩,
   ⟨(some 14), .iaddr (.tmp 12) (.tmp 13) 1, none⟩,
   ⟨(some 15), .load (.tmp 14) none, none⟩,
   ⟨(some 16), .call (.tmp 11) [(.tmp 15)], none⟩])
 (.cond (.tmp 16)
  (.seq (.ops [⟨(some 17), .mv (.tmp 5), none⟩,
    ⟨(some 4), .mv (.tmp 17), none⟩])
  .ret)
  .skip))))
 (.ops [⟨(some 18), .int .add (.tmp 8) (.const (.int .i64 1)), none⟩,
   ⟨(some 8), .mv (.tmp 18), none⟩]))))

def k_slices_IndexFunc___int_int_ : ACode :=
 (.seq (.ops [⟨(some 4), .mv (.const (.int .i64 0)), none⟩])
 (.seq (.seq (.ops [⟨(some 6), .mv (.tmp 0), none⟩,
   ⟨(some 7), .len false (.tmp 6), none⟩,
   ⟨(some 8), .mv (.const (.int .i64 0)), none⟩])
 (.block 0 (.loop [0, 1, 7, 8] b_slices_IndexFunc___int_int__0)))
 (.seq (.ops [⟨(some 4), .mv (.const (.int .i64 (-1))), none⟩])
 .ret)))
def F_slices_IndexFunc___int_int_ : AFunc := ⟨2, 19, [.tmp 4], k_slices_IndexFunc___int_int_⟩
theorem ok_slices_IndexFunc___int_int_ : FOK Try.prog 50 F_slices_IndexFunc___int_int_ := FOK.of [[0, 1, 7, 8]] Try.func50 (by kernel_rfl) (by kernel_rfl)

end Go.Proofs.Ythnccfmmeaeibaa

/-! Layers 5 and 6: what is known of the calls. -/
set_option linter.unusedSimpArgs false
set_option linter.unusedVariables false
namespace Go.Proofs.Ythnccfmmeaeibaa
open Go Lon
set_option maxRecDepth 100000
def tab : List (FuncId × AFunc) := [(3, F_lontarlaw05_RewriteAll), (4, F_lontarlaw05_RewriteUnits), (5, F_lontarlaw05_RewriteCover), (6, F_lontarlaw05_RewriteTail), (7, F_lontarlaw05_RewriteSingles), (8, F_lontarlaw05_RewriteSum), (9, F_lontarlaw06_MatchAll), (10, F_lontarlaw06_MatchSoon), (11, F_lontarlaw06_MatchWaits), (12, F_lontarlaw06_MatchHeld), (13, F_lontarlaw06_MatchEnds), (14, F_lontarlaw05_awake), (15, F_lontarlaw03_Right), (16, F_trie_Of), (17, F_lontarlaw01_Same), (18, F_rewrite_All), (19, F_lontarlaw04_Some), (20, F_lontarlaw05_All), (21, F_rewrite_Units), (22, F_lontarlaw01_Units), (23, F_lontarlaw06_awake), (24, F_match_Of), (25, F_match_Match__Put), (26, F_match_Match__End), (27, F_match_Match__Held), (28, F_trie_Trie__Longest), (29, F_lontarlaw04_Longest), (30, F_match_Match__Steps), (31, F_rule_Longest), (32, F_lontarlaw03_Rules), (33, F_lontarlaw03_may), (34, F_lontarlaw03_find), (35, F_rule_Check), (36, F_trie_Trie__Step), (37, F_rewrite_one), (38, F_match_Match__take), (39, F_trie_Trie__Rule), (40, F_trie_Trie__Leaf), (41, F_lontarlaw03_units), (42, F_rule_side), (43, F_rule_Find), (44, F_trie_Trie__Out), (45, F_slices_ContainsFunc___int_int_), (46, F_rule_side_1), (47, F_api_Rule_), (48, F_rule_Find_1), (49, F_slices_Equal___int_int_), (50, F_slices_IndexFunc___int_int_)]
theorem gok : ∀ g F, tabF tab g = some F → FOK Try.prog g F := tabF_ok (tab_cons ok_lontarlaw05_RewriteAll (tab_cons ok_lontarlaw05_RewriteUnits (tab_cons ok_lontarlaw05_RewriteCover (tab_cons ok_lontarlaw05_RewriteTail (tab_cons ok_lontarlaw05_RewriteSingles (tab_cons ok_lontarlaw05_RewriteSum (tab_cons ok_lontarlaw06_MatchAll (tab_cons ok_lontarlaw06_MatchSoon (tab_cons ok_lontarlaw06_MatchWaits (tab_cons ok_lontarlaw06_MatchHeld (tab_cons ok_lontarlaw06_MatchEnds (tab_cons ok_lontarlaw05_awake (tab_cons ok_lontarlaw03_Right (tab_cons ok_trie_Of (tab_cons ok_lontarlaw01_Same (tab_cons ok_rewrite_All (tab_cons ok_lontarlaw04_Some (tab_cons ok_lontarlaw05_All (tab_cons ok_rewrite_Units (tab_cons ok_lontarlaw01_Units (tab_cons ok_lontarlaw06_awake (tab_cons ok_match_Of (tab_cons ok_match_Match__Put (tab_cons ok_match_Match__End (tab_cons ok_match_Match__Held (tab_cons ok_trie_Trie__Longest (tab_cons ok_lontarlaw04_Longest (tab_cons ok_match_Match__Steps (tab_cons ok_rule_Longest (tab_cons ok_lontarlaw03_Rules (tab_cons ok_lontarlaw03_may (tab_cons ok_lontarlaw03_find (tab_cons ok_rule_Check (tab_cons ok_trie_Trie__Step (tab_cons ok_rewrite_one (tab_cons ok_match_Match__take (tab_cons ok_trie_Trie__Rule (tab_cons ok_trie_Trie__Leaf (tab_cons ok_lontarlaw03_units (tab_cons ok_rule_side (tab_cons ok_rule_Find (tab_cons ok_trie_Trie__Out (tab_cons ok_slices_ContainsFunc___int_int_ (tab_cons ok_rule_side_1 (tab_cons ok_api_Rule_ (tab_cons ok_rule_Find_1 (tab_cons ok_slices_Equal___int_int_ (tab_cons ok_slices_IndexFunc___int_int_ (tab_nil)))))))))))))))))))))))))))))))))))))))))))))))))
def om : CallF := fun _ _ _ => none
theorem omok0 {base : Nat} : ∀ g args H v H', om g args H = some (v, H') → Sim Try.prog base g args H v H' := fun _ _ _ _ _ h => by cases h
theorem simT {base : Nat} {g : FuncId} {args : List Value} {H H' : AHeap} {v : Value} (h : cw Try.prog (tabF tab) om g args H = some (v, H')) : Sim Try.prog base g args H v H' := cw_sound (by kernel_rfl) gok omok0 h
theorem c_awake5 : Gives (cw Try.prog (tabF tab) om 14 [] AHeap.empty) fun v H' => v = .bool true := gives_true 2000 (by kernel_rfl)
theorem c_awake6 : Gives (cw Try.prog (tabF tab) om 23 [] AHeap.empty) fun v H' => v = .bool true := gives_true 2000 (by kernel_rfl)
def om1 : CallF := fun g args H => match g, args with
  | 14, [] => some (.bool true, H)
  | 23, [] => some (.bool true, H)
  | _, _ => none
theorem omok {base : Nat} : ∀ g args H v H', om1 g args H = some (v, H') → Sim Try.prog base g args H v H' := by
  intro g args H v H' h
  unfold om1 at h
  split at h
  · injection h with h
    injection h with h1 h2
    subst h1 h2
    obtain ⟨v, H1, r, rfl⟩ := c_awake5
    exact sim_closed (fun base => simT r) rfl rfl base _
  · injection h with h
    injection h with h1 h2
    subst h1 h2
    obtain ⟨v, H1, r, rfl⟩ := c_awake6
    exact sim_closed (fun base => simT r) rfl rfl base _
  · cases h
theorem o_awake5 (H : AHeap) : cw Try.prog (tabF tab) om1 14 [] H = some (.bool true, H) := cw_omega rfl
theorem o_awake6 (H : AHeap) : cw Try.prog (tabF tab) om1 23 [] H = some (.bool true, H) := cw_omega rfl
end Go.Proofs.Ythnccfmmeaeibaa

/-! Slices of units, rules. -/
set_option linter.unusedSimpArgs false
set_option linter.unusedVariables false
namespace Go.Proofs.Ythnccfmmeaeibaa
open Go Lon
theorem l_Units {a b : Value} {la lb : List Int} {H : AHeap} (ha : Ints H a la) (hb : Ints H b lb) (hl : la.length = lb.length) (hs : la.length < 4611686018427387904) : ∀ (k i : Nat), i + k = la.length →
    Out (run Try.prog (tabF tab) om1 (.loop [0, 1, 12, 13] b_lontarlaw01_Units_0) [(0, a), (1, b), (12, .int .i64 la.length), (13, .int .i64 i)] H) fun x e' H' => H' = H ∧
      if la.drop i = lb.drop i then x = .exit 0 else x = .ret ∧ eget e' 4 = .bool false := by
  intro k
  induction k with
  | zero =>
    intro i hi
    have hlt : ¬ ((i : Int) < la.length) := by omega
    rw [w_loop_b b_lontarlaw01_Units_0.eq_1, List.drop_of_length_le (by omega), List.drop_of_length_le (by omega)]
    simp only [WA, isStore, isCall, isK, freshI, stampO, List.nil_append, Option.map_some, Option.map_none, Option.bind_some, List.map_cons, List.map_nil, if_true, if_false, Nat.reduceEqDiff, Int.reduceEq, Nat.reduceAdd, Nat.reduceMul, reduceCtorEq, eq_self, Int.reduceLT, Int.reduceLE, Int.reduceToNat, List.length_cons, List.length_nil, List.all_cons, List.all_nil, List.take_zero, List.drop_nil, List.append_nil, List.getElem?_cons_zero, List.getElem?_cons_succ, List.drop_succ_cons, List.drop_zero, List.take_succ_cons, List.cons_append, Nat.reduceLeDiff, Int.cast_ofNat_Int, hlt]
  | succ k ih =>
    intro i hi
    have hlt : (i : Int) < la.length := by omega
    obtain ⟨x, hx, hdx⟩ := drop_at (L := la) (i := i) (by omega)
    obtain ⟨y, hy, hdy⟩ := drop_at (L := lb) (i := i) (by omega)
    obtain ⟨i1, o1, h1, h2⟩ := ha.at hx
    obtain ⟨i2, o2, h3, h4⟩ := hb.at hy
    have hw2 : IntKind.i64.wrap ((i : Int) + 1) = ((i + 1 : Nat) : Int) := by rw [wrap64 (by omega) (by omega)]; omega
    rw [w_loop_b b_lontarlaw01_Units_0.eq_1, hdx, hdy]
    by_cases hxy : x = y
    · subst hxy
      obtain ⟨z, e', H', r1, r2, r3⟩ := ih (i + 1) (by omega)
      have hne : (x ≠ x) = False := by simp
      simp only [WA, isStore, isCall, isK, freshI, stampO, List.nil_append, Option.map_some, Option.map_none, Option.bind_some, List.map_cons, List.map_nil, if_true, if_false, Nat.reduceEqDiff, Int.reduceEq, Nat.reduceAdd, Nat.reduceMul, reduceCtorEq, eq_self, Int.reduceLT, Int.reduceLE, Int.reduceToNat, List.length_cons, List.length_nil, List.all_cons, List.all_nil, List.take_zero, List.drop_nil, List.append_nil, List.getElem?_cons_zero, List.getElem?_cons_succ, List.drop_succ_cons, List.drop_zero, List.take_succ_cons, List.cons_append, Nat.reduceLeDiff, Int.cast_ofNat_Int, hlt, h1, h2, h3, h4, hne, hw2]
      rw [w_enter]
      simp only [WA, isStore, isCall, isK, freshI, stampO, List.nil_append, Option.map_some, Option.map_none, Option.bind_some, List.map_cons, List.map_nil, if_true, if_false, Nat.reduceEqDiff, Int.reduceEq, Nat.reduceAdd, Nat.reduceMul, reduceCtorEq, eq_self, Int.reduceLT, Int.reduceLE, Int.reduceToNat, List.length_cons, List.length_nil, List.all_cons, List.all_nil, List.take_zero, List.drop_nil, List.append_nil, List.getElem?_cons_zero, List.getElem?_cons_succ, List.drop_succ_cons, List.drop_zero, List.take_succ_cons, List.cons_append, Nat.reduceLeDiff, Int.cast_ofNat_Int, r1]
      refine ⟨r2, ?_⟩
      simpa using r3
    · have hne : (x ≠ y) = True := by simp [hxy]
      simp only [WA, isStore, isCall, isK, freshI, stampO, List.nil_append, Option.map_some, Option.map_none, Option.bind_some, List.map_cons, List.map_nil, if_true, if_false, Nat.reduceEqDiff, Int.reduceEq, Nat.reduceAdd, Nat.reduceMul, reduceCtorEq, eq_self, Int.reduceLT, Int.reduceLE, Int.reduceToNat, List.length_cons, List.length_nil, List.all_cons, List.all_nil, List.take_zero, List.drop_nil, List.append_nil, List.getElem?_cons_zero, List.getElem?_cons_succ, List.drop_succ_cons, List.drop_zero, List.take_succ_cons, List.cons_append, Nat.reduceLeDiff, Int.cast_ofNat_Int, hlt, h1, h2, h3, h4, hne]
      simp [hxy]
theorem c_Units {a b : Value} {la lb : List Int} {H : AHeap} (ha : Ints H a la) (hb : Ints H b lb) (hs : la.length < 4611686018427387904) : cw Try.prog (tabF tab) om1 22 [a, b] H = some (.bool (decide (la = lb)), H) := by
  rw [cw_run (F := F_lontarlaw01_Units) rfl rfl rfl]
  unfold F_lontarlaw01_Units k_lontarlaw01_Units
  by_cases hl : la.length = lb.length
  · obtain ⟨x, e', H', r1, rfl, r3⟩ := l_Units ha hb hl hs la.length 0 (by omega)
    have hne : (((la.length : Nat) : Int) ≠ ((lb.length : Nat) : Int)) = False := by simp [hl]
    simp only [Int.cast_ofNat_Int] at r1
    simp only [WA, isStore, isCall, isK, freshI, stampO, List.nil_append, Option.map_some, Option.map_none, Option.bind_some, List.map_cons, List.map_nil, if_true, if_false, Nat.reduceEqDiff, Int.reduceEq, Nat.reduceAdd, Nat.reduceMul, reduceCtorEq, eq_self, Int.reduceLT, Int.reduceLE, Int.reduceToNat, List.length_cons, List.length_nil, List.all_cons, List.all_nil, List.take_zero, List.drop_nil, List.append_nil, List.getElem?_cons_zero, List.getElem?_cons_succ, List.drop_succ_cons, List.drop_zero, List.take_succ_cons, List.cons_append, Nat.reduceLeDiff, Int.cast_ofNat_Int, ha.len, hb.len, hne]
    rw [w_enter]
    simp only [WA, isStore, isCall, isK, freshI, stampO, List.nil_append, Option.map_some, Option.map_none, Option.bind_some, List.map_cons, List.map_nil, if_true, if_false, Nat.reduceEqDiff, Int.reduceEq, Nat.reduceAdd, Nat.reduceMul, reduceCtorEq, eq_self, Int.reduceLT, Int.reduceLE, Int.reduceToNat, List.length_cons, List.length_nil, List.all_cons, List.all_nil, List.take_zero, List.drop_nil, List.append_nil, List.getElem?_cons_zero, List.getElem?_cons_succ, List.drop_succ_cons, List.drop_zero, List.take_succ_cons, List.cons_append, Nat.reduceLeDiff, Int.cast_ofNat_Int, r1]
    simp only [List.drop_zero] at r3
    split at r3
    · rename_i h
      subst r3
      simp only [WA, isStore, isCall, isK, freshI, stampO, List.nil_append, Option.map_some, Option.map_none, Option.bind_some, List.map_cons, List.map_nil, if_true, if_false, Nat.reduceEqDiff, Int.reduceEq, Nat.reduceAdd, Nat.reduceMul, reduceCtorEq, eq_self, Int.reduceLT, Int.reduceLE, Int.reduceToNat, List.length_cons, List.length_nil, List.all_cons, List.all_nil, List.take_zero, List.drop_nil, List.append_nil, List.getElem?_cons_zero, List.getElem?_cons_succ, List.drop_succ_cons, List.drop_zero, List.take_succ_cons, List.cons_append, Nat.reduceLeDiff, Int.cast_ofNat_Int, h]
    · rename_i h
      obtain ⟨rfl, r4⟩ := r3
      simp only [WA, isStore, isCall, isK, freshI, stampO, List.nil_append, Option.map_some, Option.map_none, Option.bind_some, List.map_cons, List.map_nil, if_true, if_false, Nat.reduceEqDiff, Int.reduceEq, Nat.reduceAdd, Nat.reduceMul, reduceCtorEq, eq_self, Int.reduceLT, Int.reduceLE, Int.reduceToNat, List.length_cons, List.length_nil, List.all_cons, List.all_nil, List.take_zero, List.drop_nil, List.append_nil, List.getElem?_cons_zero, List.getElem?_cons_succ, List.drop_succ_cons, List.drop_zero, List.take_succ_cons, List.cons_append, Nat.reduceLeDiff, Int.cast_ofNat_Int, r4, h]
  · have hne : (((la.length : Nat) : Int) ≠ ((lb.length : Nat) : Int)) = True := by simp; omega
    have hab : ¬ la = lb := fun h => hl (by rw [h])
    simp only [WA, isStore, isCall, isK, freshI, stampO, List.nil_append, Option.map_some, Option.map_none, Option.bind_some, List.map_cons, List.map_nil, if_true, if_false, Nat.reduceEqDiff, Int.reduceEq, Nat.reduceAdd, Nat.reduceMul, reduceCtorEq, eq_self, Int.reduceLT, Int.reduceLE, Int.reduceToNat, List.length_cons, List.length_nil, List.all_cons, List.all_nil, List.take_zero, List.drop_nil, List.append_nil, List.getElem?_cons_zero, List.getElem?_cons_succ, List.drop_succ_cons, List.drop_zero, List.take_succ_cons, List.cons_append, Nat.reduceLeDiff, Int.cast_ofNat_Int, ha.len, hb.len, hne, hab]
end Go.Proofs.Ythnccfmmeaeibaa

/-! Slices of units, rules. -/
set_option linter.unusedSimpArgs false
set_option linter.unusedVariables false
namespace Go.Proofs.Ythnccfmmeaeibaa
open Go Lon
theorem l_Equal {a b : Value} {la lb : List Int} {H : AHeap} (ha : Ints H a la) (hb : Ints H b lb) (hl : la.length = lb.length) (hs : la.length < 4611686018427387904) : ∀ (k i : Nat), i + k = la.length →
    Out (run Try.prog (tabF tab) om1 (.loop [0, 1, 12, 13] b_slices_Equal___int_int__0) [(0, a), (1, b), (12, .int .i64 la.length), (13, .int .i64 i)] H) fun x e' H' => H' = H ∧
      if la.drop i = lb.drop i then x = .exit 0 else x = .ret ∧ eget e' 4 = .bool false := by
  intro k
  induction k with
  | zero =>
    intro i hi
    have hlt : ¬ ((i : Int) < la.length) := by omega
    rw [w_loop_b b_slices_Equal___int_int__0.eq_1, List.drop_of_length_le (by omega), List.drop_of_length_le (by omega)]
    simp only [WA, isStore, isCall, isK, freshI, stampO, List.nil_append, Option.map_some, Option.map_none, Option.bind_some, List.map_cons, List.map_nil, if_true, if_false, Nat.reduceEqDiff, Int.reduceEq, Nat.reduceAdd, Nat.reduceMul, reduceCtorEq, eq_self, Int.reduceLT, Int.reduceLE, Int.reduceToNat, List.length_cons, List.length_nil, List.all_cons, List.all_nil, List.take_zero, List.drop_nil, List.append_nil, List.getElem?_cons_zero, List.getElem?_cons_succ, List.drop_succ_cons, List.drop_zero, List.take_succ_cons, List.cons_append, Nat.reduceLeDiff, Int.cast_ofNat_Int, hlt]
  | succ k ih =>
    intro i hi
    have hlt : (i : Int) < la.length := by omega
    obtain ⟨x, hx, hdx⟩ := drop_at (L := la) (i := i) (by omega)
    obtain ⟨y, hy, hdy⟩ := drop_at (L := lb) (i := i) (by omega)
    obtain ⟨i1, o1, h1, h2⟩ := ha.at hx
    obtain ⟨i2, o2, h3, h4⟩ := hb.at hy
    have hw2 : IntKind.i64.wrap ((i : Int) + 1) = ((i + 1 : Nat) : Int) := by rw [wrap64 (by omega) (by omega)]; omega
    rw [w_loop_b b_slices_Equal___int_int__0.eq_1, hdx, hdy]
    by_cases hxy : x = y
    · subst hxy
      obtain ⟨z, e', H', r1, r2, r3⟩ := ih (i + 1) (by omega)
      have hne : (x ≠ x) = False := by simp
      simp only [WA, isStore, isCall, isK, freshI, stampO, List.nil_append, Option.map_some, Option.map_none, Option.bind_some, List.map_cons, List.map_nil, if_true, if_false, Nat.reduceEqDiff, Int.reduceEq, Nat.reduceAdd, Nat.reduceMul, reduceCtorEq, eq_self, Int.reduceLT, Int.reduceLE, Int.reduceToNat, List.length_cons, List.length_nil, List.all_cons, List.all_nil, List.take_zero, List.drop_nil, List.append_nil, List.getElem?_cons_zero, List.getElem?_cons_succ, List.drop_succ_cons, List.drop_zero, List.take_succ_cons, List.cons_append, Nat.reduceLeDiff, Int.cast_ofNat_Int, hlt, h1, h2, h3, h4, hne, hw2]
      rw [w_enter]
      simp only [WA, isStore, isCall, isK, freshI, stampO, List.nil_append, Option.map_some, Option.map_none, Option.bind_some, List.map_cons, List.map_nil, if_true, if_false, Nat.reduceEqDiff, Int.reduceEq, Nat.reduceAdd, Nat.reduceMul, reduceCtorEq, eq_self, Int.reduceLT, Int.reduceLE, Int.reduceToNat, List.length_cons, List.length_nil, List.all_cons, List.all_nil, List.take_zero, List.drop_nil, List.append_nil, List.getElem?_cons_zero, List.getElem?_cons_succ, List.drop_succ_cons, List.drop_zero, List.take_succ_cons, List.cons_append, Nat.reduceLeDiff, Int.cast_ofNat_Int, r1]
      refine ⟨r2, ?_⟩
      simpa using r3
    · have hne : (x ≠ y) = True := by simp [hxy]
      simp only [WA, isStore, isCall, isK, freshI, stampO, List.nil_append, Option.map_some, Option.map_none, Option.bind_some, List.map_cons, List.map_nil, if_true, if_false, Nat.reduceEqDiff, Int.reduceEq, Nat.reduceAdd, Nat.reduceMul, reduceCtorEq, eq_self, Int.reduceLT, Int.reduceLE, Int.reduceToNat, List.length_cons, List.length_nil, List.all_cons, List.all_nil, List.take_zero, List.drop_nil, List.append_nil, List.getElem?_cons_zero, List.getElem?_cons_succ, List.drop_succ_cons, List.drop_zero, List.take_succ_cons, List.cons_append, Nat.reduceLeDiff, Int.cast_ofNat_Int, hlt, h1, h2, h3, h4, hne]
      simp [hxy]
theorem c_Equal {a b : Value} {la lb : List Int} {H : AHeap} (ha : Ints H a la) (hb : Ints H b lb) (hs : la.length < 4611686018427387904) : cw Try.prog (tabF tab) om1 49 [a, b] H = some (.bool (decide (la = lb)), H) := by
  rw [cw_run (F := F_slices_Equal___int_int_) rfl rfl rfl]
  unfold F_slices_Equal___int_int_ k_slices_Equal___int_int_
  by_cases hl : la.length = lb.length
  · obtain ⟨x, e', H', r1, rfl, r3⟩ := l_Equal ha hb hl hs la.length 0 (by omega)
    have hne : (((la.length : Nat) : Int) ≠ ((lb.length : Nat) : Int)) = False := by simp [hl]
    simp only [Int.cast_ofNat_Int] at r1
    simp only [WA, isStore, isCall, isK, freshI, stampO, List.nil_append, Option.map_some, Option.map_none, Option.bind_some, List.map_cons, List.map_nil, if_true, if_false, Nat.reduceEqDiff, Int.reduceEq, Nat.reduceAdd, Nat.reduceMul, reduceCtorEq, eq_self, Int.reduceLT, Int.reduceLE, Int.reduceToNat, List.length_cons, List.length_nil, List.all_cons, List.all_nil, List.take_zero, List.drop_nil, List.append_nil, List.getElem?_cons_zero, List.getElem?_cons_succ, List.drop_succ_cons, List.drop_zero, List.take_succ_cons, List.cons_append, Nat.reduceLeDiff, Int.cast_ofNat_Int, ha.len, hb.len, hne]
    rw [w_enter]
    simp only [WA, isStore, isCall, isK, freshI, stampO, List.nil_append, Option.map_some, Option.map_none, Option.bind_some, List.map_cons, List.map_nil, if_true, if_false, Nat.reduceEqDiff, Int.reduceEq, Nat.reduceAdd, Nat.reduceMul, reduceCtorEq, eq_self, Int.reduceLT, Int.reduceLE, Int.reduceToNat, List.length_cons, List.length_nil, List.all_cons, List.all_nil, List.take_zero, List.drop_nil, List.append_nil, List.getElem?_cons_zero, List.getElem?_cons_succ, List.drop_succ_cons, List.drop_zero, List.take_succ_cons, List.cons_append, Nat.reduceLeDiff, Int.cast_ofNat_Int, r1]
    simp only [List.drop_zero] at r3
    split at r3
    · rename_i h
      subst r3
      simp only [WA, isStore, isCall, isK, freshI, stampO, List.nil_append, Option.map_some, Option.map_none, Option.bind_some, List.map_cons, List.map_nil, if_true, if_false, Nat.reduceEqDiff, Int.reduceEq, Nat.reduceAdd, Nat.reduceMul, reduceCtorEq, eq_self, Int.reduceLT, Int.reduceLE, Int.reduceToNat, List.length_cons, List.length_nil, List.all_cons, List.all_nil, List.take_zero, List.drop_nil, List.append_nil, List.getElem?_cons_zero, List.getElem?_cons_succ, List.drop_succ_cons, List.drop_zero, List.take_succ_cons, List.cons_append, Nat.reduceLeDiff, Int.cast_ofNat_Int, h]
    · rename_i h
      obtain ⟨rfl, r4⟩ := r3
      simp only [WA, isStore, isCall, isK, freshI, stampO, List.nil_append, Option.map_some, Option.map_none, Option.bind_some, List.map_cons, List.map_nil, if_true, if_false, Nat.reduceEqDiff, Int.reduceEq, Nat.reduceAdd, Nat.reduceMul, reduceCtorEq, eq_self, Int.reduceLT, Int.reduceLE, Int.reduceToNat, List.length_cons, List.length_nil, List.all_cons, List.all_nil, List.take_zero, List.drop_nil, List.append_nil, List.getElem?_cons_zero, List.getElem?_cons_succ, List.drop_succ_cons, List.drop_zero, List.take_succ_cons, List.cons_append, Nat.reduceLeDiff, Int.cast_ofNat_Int, r4, h]
  · have hne : (((la.length : Nat) : Int) ≠ ((lb.length : Nat) : Int)) = True := by simp; omega
    have hab : ¬ la = lb := fun h => hl (by rw [h])
    simp only [WA, isStore, isCall, isK, freshI, stampO, List.nil_append, Option.map_some, Option.map_none, Option.bind_some, List.map_cons, List.map_nil, if_true, if_false, Nat.reduceEqDiff, Int.reduceEq, Nat.reduceAdd, Nat.reduceMul, reduceCtorEq, eq_self, Int.reduceLT, Int.reduceLE, Int.reduceToNat, List.length_cons, List.length_nil, List.all_cons, List.all_nil, List.take_zero, List.drop_nil, List.append_nil, List.getElem?_cons_zero, List.getElem?_cons_succ, List.drop_succ_cons, List.drop_zero, List.take_succ_cons, List.cons_append, Nat.reduceLeDiff, Int.cast_ofNat_Int, ha.len, hb.len, hne, hab]
end Go.Proofs.Ythnccfmmeaeibaa

/-! Sides of rules. -/
set_option linter.unusedSimpArgs false
set_option linter.unusedVariables false
namespace Go.Proofs.Ythnccfmmeaeibaa
open Go Lon
def bad (u : Int) : Prop := u < 0 ∨ u > 1114111
instance (u : Int) : Decidable (bad u) := by unfold bad; infer_instance
/-- The first unit that may not be, from place i on. -/
def bdx : List Int → Nat → Option Nat
  | [], _ => none
  | u :: l, i => if bad u then some i else bdx l (i + 1)
theorem bdx_ge : ∀ {l : List Int} {i j : Nat}, bdx l i = some j → i ≤ j ∧ j < i + l.length
  | [], i, j, h => by cases h
  | u :: l, i, j, h => by
    unfold bdx at h
    split at h
    · injection h with h; subst h; simp
    · have := bdx_ge h; simp; omega
def sideB (l : List Int) : Bool := decide (0 < l.length) && decide (l.length ≤ 8) && (bdx l 0).isNone
theorem c_side1 {u : Int} (H : AHeap) : cw Try.prog (tabF tab) om1 46 [.int .i64 u] H = some (.bool (decide (bad u)), H) := by
  rw [cw_run (F := F_rule_side_1) rfl rfl rfl]
  unfold F_rule_side_1 k_rule_side_1
  by_cases h1 : u < 0
  · have hb : bad u := .inl h1
    simp only [WA, isStore, isCall, isK, freshI, stampO, List.nil_append, Option.map_some, Option.map_none, Option.bind_some, List.map_cons, List.map_nil, if_true, if_false, Nat.reduceEqDiff, Int.reduceEq, Nat.reduceAdd, Nat.reduceMul, reduceCtorEq, eq_self, Int.reduceLT, Int.reduceLE, Int.reduceToNat, List.length_cons, List.length_nil, List.all_cons, List.all_nil, List.take_zero, List.drop_nil, List.append_nil, List.getElem?_cons_zero, List.getElem?_cons_succ, List.drop_succ_cons, List.drop_zero, List.take_succ_cons, List.cons_append, Nat.reduceLeDiff, Int.cast_ofNat_Int, h1, hb]
  · by_cases h2 : u > 1114111
    · have hb : bad u := .inr h2
      simp only [WA, isStore, isCall, isK, freshI, stampO, List.nil_append, Option.map_some, Option.map_none, Option.bind_some, List.map_cons, List.map_nil, if_true, if_false, Nat.reduceEqDiff, Int.reduceEq, Nat.reduceAdd, Nat.reduceMul, reduceCtorEq, eq_self, Int.reduceLT, Int.reduceLE, Int.reduceToNat, List.length_cons, List.length_nil, List.all_cons, List.all_nil, List.take_zero, List.drop_nil, List.append_nil, List.getElem?_cons_zero, List.getElem?_cons_succ, List.drop_succ_cons, List.drop_zero, List.take_succ_cons, List.cons_append, Nat.reduceLeDiff, Int.cast_ofNat_Int, h1, h2, hb]
    · have hb : ¬ bad u := fun h => by rcases h with h | h; exact h1 h; exact h2 h
      simp only [WA, isStore, isCall, isK, freshI, stampO, List.nil_append, Option.map_some, Option.map_none, Option.bind_some, List.map_cons, List.map_nil, if_true, if_false, Nat.reduceEqDiff, Int.reduceEq, Nat.reduceAdd, Nat.reduceMul, reduceCtorEq, eq_self, Int.reduceLT, Int.reduceLE, Int.reduceToNat, List.length_cons, List.length_nil, List.all_cons, List.all_nil, List.take_zero, List.drop_nil, List.append_nil, List.getElem?_cons_zero, List.getElem?_cons_succ, List.drop_succ_cons, List.drop_zero, List.take_succ_cons, List.cons_append, Nat.reduceLeDiff, Int.cast_ofNat_Int, h1, h2, hb]
theorem l_IdxI {a : Value} {l : List Int} {H : AHeap} (ha : Ints H a l) (hs : tiny l) : ∀ (k i : Nat), i + k = l.length →
    Out (run Try.prog (tabF tab) om1 (.loop [0, 1, 7, 8] b_slices_IndexFunc___int_int__0) [(0, a), (1, .func (.func 46) ⟨[]⟩ ⟨[]⟩), (7, .int .i64 l.length), (8, .int .i64 i)] H) fun x e' H' => H' = H ∧
      match bdx (l.drop i) i with | some j => x = .ret ∧ eget e' 4 = .int .i64 j | none => x = .exit 0 := by
  intro k
  have ht := hs
  unfold tiny at ht
  induction k with
  | zero =>
    intro i hi
    have hlt : ¬ ((i : Int) < l.length) := by omega
    rw [w_loop_b b_slices_IndexFunc___int_int__0.eq_1, List.drop_of_length_le (by omega)]
    simp only [WA, isStore, isCall, isK, freshI, stampO, List.nil_append, Option.map_some, Option.map_none, Option.bind_some, List.map_cons, List.map_nil, if_true, if_false, Nat.reduceEqDiff, Int.reduceEq, Nat.reduceAdd, Nat.reduceMul, reduceCtorEq, eq_self, Int.reduceLT, Int.reduceLE, Int.reduceToNat, List.length_cons, List.length_nil, List.all_cons, List.all_nil, List.take_zero, List.drop_nil, List.append_nil, List.getElem?_cons_zero, List.getElem?_cons_succ, List.drop_succ_cons, List.drop_zero, List.take_succ_cons, List.cons_append, Nat.reduceLeDiff, Int.cast_ofNat_Int, hlt, bdx]
  | succ k ih =>
    intro i hi
    have hlt : (i : Int) < l.length := by omega
    obtain ⟨x, hx, hdx⟩ := drop_at (L := l) (i := i) (by omega)
    obtain ⟨i1, o1, h1, h2⟩ := ha.at hx
    have hw2 : IntKind.i64.wrap ((i : Int) + 1) = ((i + 1 : Nat) : Int) := by rw [wrap64 (by omega) (by omega)]; omega
    rw [w_loop_b b_slices_IndexFunc___int_int__0.eq_1, hdx]
    unfold bdx
    by_cases hb : bad x
    · simp only [WA, isStore, isCall, isK, freshI, stampO, List.nil_append, Option.map_some, Option.map_none, Option.bind_some, List.map_cons, List.map_nil, if_true, if_false, Nat.reduceEqDiff, Int.reduceEq, Nat.reduceAdd, Nat.reduceMul, reduceCtorEq, eq_self, Int.reduceLT, Int.reduceLE, Int.reduceToNat, List.length_cons, List.length_nil, List.all_cons, List.all_nil, List.take_zero, List.drop_nil, List.append_nil, List.getElem?_cons_zero, List.getElem?_cons_succ, List.drop_succ_cons, List.drop_zero, List.take_succ_cons, List.cons_append, Nat.reduceLeDiff, Int.cast_ofNat_Int, hlt, h1, h2, c_side1, hb]
    · obtain ⟨z, e', H', r1, r2, r3⟩ := ih (i + 1) (by omega)
      simp only [WA, isStore, isCall, isK, freshI, stampO, List.nil_append, Option.map_some, Option.map_none, Option.bind_some, List.map_cons, List.map_nil, if_true, if_false, Nat.reduceEqDiff, Int.reduceEq, Nat.reduceAdd, Nat.reduceMul, reduceCtorEq, eq_self, Int.reduceLT, Int.reduceLE, Int.reduceToNat, List.length_cons, List.length_nil, List.all_cons, List.all_nil, List.take_zero, List.drop_nil, List.append_nil, List.getElem?_cons_zero, List.getElem?_cons_succ, List.drop_succ_cons, List.drop_zero, List.take_succ_cons, List.cons_append, Nat.reduceLeDiff, Int.cast_ofNat_Int, hlt, h1, h2, c_side1, hb, hw2]
      rw [w_enter]
      simp only [WA, isStore, isCall, isK, freshI, stampO, List.nil_append, Option.map_some, Option.map_none, Option.bind_some, List.map_cons, List.map_nil, if_true, if_false, Nat.reduceEqDiff, Int.reduceEq, Nat.reduceAdd, Nat.reduceMul, reduceCtorEq, eq_self, Int.reduceLT, Int.reduceLE, Int.reduceToNat, List.length_cons, List.length_nil, List.all_cons, List.all_nil, List.take_zero, List.drop_nil, List.append_nil, List.getElem?_cons_zero, List.getElem?_cons_succ, List.drop_succ_cons, List.drop_zero, List.take_succ_cons, List.cons_append, Nat.reduceLeDiff, Int.cast_ofNat_Int, r1]
      exact ⟨r2, r3⟩
theorem c_IdxI {a : Value} {l : List Int} {H : AHeap} (ha : Ints H a l) (hs : tiny l) : cw Try.prog (tabF tab) om1 50 [a, .func (.func 46) ⟨[]⟩ ⟨[]⟩] H = some (.int .i64 (match bdx l 0 with | some j => (j : Int) | none => -1), H) := by
  rw [cw_run (F := F_slices_IndexFunc___int_int_) rfl rfl rfl]
  unfold F_slices_IndexFunc___int_int_ k_slices_IndexFunc___int_int_
  obtain ⟨x, e', H', r1, rfl, r3⟩ := l_IdxI ha hs l.length 0 (by omega)
  simp only [Int.cast_ofNat_Int] at r1
  simp only [WA, isStore, isCall, isK, freshI, stampO, List.nil_append, Option.map_some, Option.map_none, Option.bind_some, List.map_cons, List.map_nil, if_true, if_false, Nat.reduceEqDiff, Int.reduceEq, Nat.reduceAdd, Nat.reduceMul, reduceCtorEq, eq_self, Int.reduceLT, Int.reduceLE, Int.reduceToNat, List.length_cons, List.length_nil, List.all_cons, List.all_nil, List.take_zero, List.drop_nil, List.append_nil, List.getElem?_cons_zero, List.getElem?_cons_succ, List.drop_succ_cons, List.drop_zero, List.take_succ_cons, List.cons_append, Nat.reduceLeDiff, Int.cast_ofNat_Int, ha.len]
  rw [w_enter]
  simp only [WA, isStore, isCall, isK, freshI, stampO, List.nil_append, Option.map_some, Option.map_none, Option.bind_some, List.map_cons, List.map_nil, if_true, if_false, Nat.reduceEqDiff, Int.reduceEq, Nat.reduceAdd, Nat.reduceMul, reduceCtorEq, eq_self, Int.reduceLT, Int.reduceLE, Int.reduceToNat, List.length_cons, List.length_nil, List.all_cons, List.all_nil, List.take_zero, List.drop_nil, List.append_nil, List.getElem?_cons_zero, List.getElem?_cons_succ, List.drop_succ_cons, List.drop_zero, List.take_succ_cons, List.cons_append, Nat.reduceLeDiff, Int.cast_ofNat_Int, r1]
  rw [List.drop_zero] at r3
  cases hb : bdx l 0 with
  | none =>
    rw [hb] at r3
    subst r3
    simp only [WA, isStore, isCall, isK, freshI, stampO, List.nil_append, Option.map_some, Option.map_none, Option.bind_some, List.map_cons, List.map_nil, if_true, if_false, Nat.reduceEqDiff, Int.reduceEq, Nat.reduceAdd, Nat.reduceMul, reduceCtorEq, eq_self, Int.reduceLT, Int.reduceLE, Int.reduceToNat, List.length_cons, List.length_nil, List.all_cons, List.all_nil, List.take_zero, List.drop_nil, List.append_nil, List.getElem?_cons_zero, List.getElem?_cons_succ, List.drop_succ_cons, List.drop_zero, List.take_succ_cons, List.cons_append, Nat.reduceLeDiff, Int.cast_ofNat_Int]
  | some j =>
    rw [hb] at r3
    obtain ⟨rfl, r4⟩ := r3
    simp only [WA, isStore, isCall, isK, freshI, stampO, List.nil_append, Option.map_some, Option.map_none, Option.bind_some, List.map_cons, List.map_nil, if_true, if_false, Nat.reduceEqDiff, Int.reduceEq, Nat.reduceAdd, Nat.reduceMul, reduceCtorEq, eq_self, Int.reduceLT, Int.reduceLE, Int.reduceToNat, List.length_cons, List.length_nil, List.all_cons, List.all_nil, List.take_zero, List.drop_nil, List.append_nil, List.getElem?_cons_zero, List.getElem?_cons_succ, List.drop_succ_cons, List.drop_zero, List.take_succ_cons, List.cons_append, Nat.reduceLeDiff, Int.cast_ofNat_Int, r4]
theorem c_Contains {a : Value} {l : List Int} {H : AHeap} (ha : Ints H a l) (hs : tiny l) : cw Try.prog (tabF tab) om1 45 [a, .func (.func 46) ⟨[]⟩ ⟨[]⟩] H = some (.bool (bdx l 0).isSome, H) := by
  rw [cw_run (F := F_slices_ContainsFunc___int_int_) rfl rfl rfl]
  unfold F_slices_ContainsFunc___int_int_ k_slices_ContainsFunc___int_int_
  have c := c_IdxI ha hs
  cases hb : bdx l 0 with
  | none =>
    rw [hb] at c
    have h0 : ¬ (-1 : Int) ≥ 0 := by decide
    simp only [WA, isStore, isCall, isK, freshI, stampO, List.nil_append, Option.map_some, Option.map_none, Option.bind_some, List.map_cons, List.map_nil, if_true, if_false, Nat.reduceEqDiff, Int.reduceEq, Nat.reduceAdd, Nat.reduceMul, reduceCtorEq, eq_self, Int.reduceLT, Int.reduceLE, Int.reduceToNat, List.length_cons, List.length_nil, List.all_cons, List.all_nil, List.take_zero, List.drop_nil, List.append_nil, List.getElem?_cons_zero, List.getElem?_cons_succ, List.drop_succ_cons, List.drop_zero, List.take_succ_cons, List.cons_append, Nat.reduceLeDiff, Int.cast_ofNat_Int, c, h0, Option.isSome_none]
  | some j =>
    rw [hb] at c
    have h0 : (j : Int) ≥ 0 := by omega
    simp only [WA, isStore, isCall, isK, freshI, stampO, List.nil_append, Option.map_some, Option.map_none, Option.bind_some, List.map_cons, List.map_nil, if_true, if_false, Nat.reduceEqDiff, Int.reduceEq, Nat.reduceAdd, Nat.reduceMul, reduceCtorEq, eq_self, Int.reduceLT, Int.reduceLE, Int.reduceToNat, List.length_cons, List.length_nil, List.all_cons, List.all_nil, List.take_zero, List.drop_nil, List.append_nil, List.getElem?_cons_zero, List.getElem?_cons_succ, List.drop_succ_cons, List.drop_zero, List.take_succ_cons, List.cons_append, Nat.reduceLeDiff, Int.cast_ofNat_Int, c, h0, Option.isSome_some]
theorem c_side {a : Value} {l : List Int} {H : AHeap} (ha : Ints H a l) (hs : tiny l) : cw Try.prog (tabF tab) om1 42 [a] H = some (.bool (sideB l), H) := by
  rw [cw_run (F := F_rule_side) rfl rfl rfl]
  unfold F_rule_side k_rule_side sideB
  have c := c_Contains ha hs
  by_cases h1 : 0 < l.length
  · have h1' : (l.length : Int) > 0 := by omega
    by_cases h2 : l.length ≤ 8
    · have h2' : (l.length : Int) ≤ 8 := by omega
      simp only [WA, isStore, isCall, isK, freshI, stampO, List.nil_append, Option.map_some, Option.map_none, Option.bind_some, List.map_cons, List.map_nil, if_true, if_false, Nat.reduceEqDiff, Int.reduceEq, Nat.reduceAdd, Nat.reduceMul, reduceCtorEq, eq_self, Int.reduceLT, Int.reduceLE, Int.reduceToNat, List.length_cons, List.length_nil, List.all_cons, List.all_nil, List.take_zero, List.drop_nil, List.append_nil, List.getElem?_cons_zero, List.getElem?_cons_succ, List.drop_succ_cons, List.drop_zero, List.take_succ_cons, List.cons_append, Nat.reduceLeDiff, Int.cast_ofNat_Int, ha.len, h1, h2, h1', h2', c]
      cases bdx l 0 <;> rfl
    · have h2' : ¬ (l.length : Int) ≤ 8 := by omega
      simp only [WA, isStore, isCall, isK, freshI, stampO, List.nil_append, Option.map_some, Option.map_none, Option.bind_some, List.map_cons, List.map_nil, if_true, if_false, Nat.reduceEqDiff, Int.reduceEq, Nat.reduceAdd, Nat.reduceMul, reduceCtorEq, eq_self, Int.reduceLT, Int.reduceLE, Int.reduceToNat, List.length_cons, List.length_nil, List.all_cons, List.all_nil, List.take_zero, List.drop_nil, List.append_nil, List.getElem?_cons_zero, List.getElem?_cons_succ, List.drop_succ_cons, List.drop_zero, List.take_succ_cons, List.cons_append, Nat.reduceLeDiff, Int.cast_ofNat_Int, ha.len, h1, h2, h1', h2', c, Bool.and_false, Bool.false_and]
  · have h1' : ¬ (l.length : Int) > 0 := by omega
    simp only [WA, isStore, isCall, isK, freshI, stampO, List.nil_append, Option.map_some, Option.map_none, Option.bind_some, List.map_cons, List.map_nil, if_true, if_false, Nat.reduceEqDiff, Int.reduceEq, Nat.reduceAdd, Nat.reduceMul, reduceCtorEq, eq_self, Int.reduceLT, Int.reduceLE, Int.reduceToNat, List.length_cons, List.length_nil, List.all_cons, List.all_nil, List.take_zero, List.drop_nil, List.append_nil, List.getElem?_cons_zero, List.getElem?_cons_succ, List.drop_succ_cons, List.drop_zero, List.take_succ_cons, List.cons_append, Nat.reduceLeDiff, Int.cast_ofNat_Int, ha.len, h1, h1', c, Bool.and_false, Bool.false_and]
end Go.Proofs.Ythnccfmmeaeibaa

/-! Where a rule is. -/
set_option linter.unusedSimpArgs false
set_option linter.unusedVariables false
namespace Go.Proofs.Ythnccfmmeaeibaa
open Go Lon
/-- The first rule of these units, from place i on. -/
def fdx (x : List Int) : List Rl → Nat → Option Nat
  | [], _ => none
  | r :: L, i => if r.1 = x then some i else fdx x L (i + 1)
theorem fdx_ge {x : List Int} : ∀ {L : List Rl} {i j : Nat}, fdx x L i = some j → i ≤ j ∧ j < i + L.length
  | [], i, j, h => by cases h
  | u :: l, i, j, h => by
    unfold fdx at h
    split at h
    · injection h with h; subst h; simp
    · have := fdx_ge h; simp; omega
def fnd (L : List Rl) (x : List Int) : Int := match fdx x L 0 with | some k => (k : Int) | none => -1
theorem c_Find1 {ai ao : Option Addr} {ni ci no co q : Nat} {b : Value} {li x : List Int} {H : AHeap} (hi : Ints H (.slice ai ni ci) li) (hb : Ints H b x) (hs : tiny li) (hq : H.get q = some ⟨[b], 24, .tip, 0, []⟩) :
    Gives (cw Try.prog (tabF tab) om1 48 [.agg ⟨[.slice ai ni ci, .slice ao no co]⟩, .pointer (some ⟨q, 0, none⟩)] H) fun v H' => Ext H H' ∧ v = .bool (decide (li = x)) := by
  rw [cw_run (F := F_rule_Find_1) rfl rfl rfl]
  unfold F_rule_Find_1 k_rule_Find_1
  have hx1 := Ext.push H ⟨[.slice ai ni ci, .slice ao no co], 51, .tip, 0, []⟩
  have hbx : vBox (.agg ⟨[.slice ai ni ci, .slice ao no co]⟩) 51 H = some (.pointer (some ⟨H.n, 0, none⟩), H.push ⟨[.slice ai ni ci, .slice ao no co], 51, .tip, 0, []⟩) := v_box rfl
  have hq2 := hx1.get hq
  have c := c_Equal (hi.ext hx1) (hb.ext hx1) hs
  simp only [WA, isStore, isCall, isK, freshI, stampO, List.nil_append, Option.map_some, Option.map_none, Option.bind_some, List.map_cons, List.map_nil, if_true, if_false, Nat.reduceEqDiff, Int.reduceEq, Nat.reduceAdd, Nat.reduceMul, reduceCtorEq, eq_self, Int.reduceLT, Int.reduceLE, Int.reduceToNat, List.length_cons, List.length_nil, List.all_cons, List.all_nil, List.take_zero, List.drop_nil, List.append_nil, List.getElem?_cons_zero, List.getElem?_cons_succ, List.drop_succ_cons, List.drop_zero, List.take_succ_cons, List.cons_append, Nat.reduceLeDiff, Int.cast_ofNat_Int, hbx, hq2, c]
  exact hx1
theorem l_IdxR {a b : Value} {q : Nat} {L : List Rl} {x : List Int} : ∀ (k i : Nat) (H : AHeap), i + k = L.length → Rules H a L → Ints H b x → H.get q = some ⟨[b], 24, .tip, 0, []⟩ →
    Out (run Try.prog (tabF tab) om1 (.loop [0, 1, 7, 8] b_api_Rule__0) [(0, a), (1, .func (.func 48) ⟨[]⟩ ⟨[.pointer (some ⟨q, 0, none⟩)]⟩), (7, .int .i64 L.length), (8, .int .i64 i)] H) fun y e' H' => Ext H H' ∧
      match fdx x (L.drop i) i with | some j => y = .ret ∧ eget e' 4 = .int .i64 j | none => y = .exit 0 := by
  intro k
  induction k with
  | zero =>
    intro i H hi ha hb hq
    have hlt : ¬ ((i : Int) < L.length) := by omega
    rw [w_loop_b b_api_Rule__0.eq_1, List.drop_of_length_le (by omega)]
    simp only [WA, isStore, isCall, isK, freshI, stampO, List.nil_append, Option.map_some, Option.map_none, Option.bind_some, List.map_cons, List.map_nil, if_true, if_false, Nat.reduceEqDiff, Int.reduceEq, Nat.reduceAdd, Nat.reduceMul, reduceCtorEq, eq_self, Int.reduceLT, Int.reduceLE, Int.reduceToNat, List.length_cons, List.length_nil, List.all_cons, List.all_nil, List.take_zero, List.drop_nil, List.append_nil, List.getElem?_cons_zero, List.getElem?_cons_succ, List.drop_succ_cons, List.drop_zero, List.take_succ_cons, List.cons_append, Nat.reduceLeDiff, Int.cast_ofNat_Int, hlt, fdx]
    exact Ext.refl _
  | succ k ih =>
    intro i H hi ha hb hq
    have hL := ha.1
    have hlt : (i : Int) < L.length := by omega
    obtain ⟨r, hr, hdr⟩ := drop_at (L := L) (i := i) (by omega)
    obtain ⟨i1, o1, vi, vo, h1, h2, h3, h4, h5, h6, h7, h8⟩ := ha.at hr
    have h5' := h5
    have h6' := h6
    obtain ⟨⟨ai, ci, rfl⟩, _⟩ := h5'
    obtain ⟨⟨ao, co, rfl⟩, _⟩ := h6'
    obtain ⟨v, H1, c1, c2, rfl⟩ := c_Find1 (ao := ao) (no := r.2.length) (co := co) h5 hb h7 hq
    have hw2 : IntKind.i64.wrap ((i : Int) + 1) = ((i + 1 : Nat) : Int) := by rw [wrap64 (by omega) (by omega)]; omega
    rw [w_loop_b b_api_Rule__0.eq_1, hdr]
    unfold fdx
    by_cases he : r.1 = x
    · simp only [he] at c1
      simp only [WA, isStore, isCall, isK, freshI, stampO, List.nil_append, Option.map_some, Option.map_none, Option.bind_some, List.map_cons, List.map_nil, if_true, if_false, Nat.reduceEqDiff, Int.reduceEq, Nat.reduceAdd, Nat.reduceMul, reduceCtorEq, eq_self, Int.reduceLT, Int.reduceLE, Int.reduceToNat, List.length_cons, List.length_nil, List.all_cons, List.all_nil, List.take_zero, List.drop_nil, List.append_nil, List.getElem?_cons_zero, List.getElem?_cons_succ, List.drop_succ_cons, List.drop_zero, List.take_succ_cons, List.cons_append, Nat.reduceLeDiff, Int.cast_ofNat_Int, hlt, h1, h4, v_call1, c1, he]
      exact c2
    · obtain ⟨z, e', H', r1, r2, r3⟩ := ih (i + 1) H1 (by omega) (ha.ext c2) (hb.ext c2) (c2.get hq)
      simp only [he] at c1
      simp only [WA, isStore, isCall, isK, freshI, stampO, List.nil_append, Option.map_some, Option.map_none, Option.bind_some, List.map_cons, List.map_nil, if_true, if_false, Nat.reduceEqDiff, Int.reduceEq, Nat.reduceAdd, Nat.reduceMul, reduceCtorEq, eq_self, Int.reduceLT, Int.reduceLE, Int.reduceToNat, List.length_cons, List.length_nil, List.all_cons, List.all_nil, List.take_zero, List.drop_nil, List.append_nil, List.getElem?_cons_zero, List.getElem?_cons_succ, List.drop_succ_cons, List.drop_zero, List.take_succ_cons, List.cons_append, Nat.reduceLeDiff, Int.cast_ofNat_Int, hlt, h1, h4, v_call1, c1, he, hw2]
      rw [w_enter]
      simp only [WA, isStore, isCall, isK, freshI, stampO, List.nil_append, Option.map_some, Option.map_none, Option.bind_some, List.map_cons, List.map_nil, if_true, if_false, Nat.reduceEqDiff, Int.reduceEq, Nat.reduceAdd, Nat.reduceMul, reduceCtorEq, eq_self, Int.reduceLT, Int.reduceLE, Int.reduceToNat, List.length_cons, List.length_nil, List.all_cons, List.all_nil, List.take_zero, List.drop_nil, List.append_nil, List.getElem?_cons_zero, List.getElem?_cons_succ, List.drop_succ_cons, List.drop_zero, List.take_succ_cons, List.cons_append, Nat.reduceLeDiff, Int.cast_ofNat_Int, r1]
      exact ⟨c2.trans r2, r3⟩
theorem c_Find {a b : Value} {L : List Rl} {x : List Int} {H : AHeap} (ha : Rules H a L) (hb : Ints H b x) : Gives (cw Try.prog (tabF tab) om1 43 [a, b] H) fun v H' => Ext H H' ∧ v = .int .i64 (fnd L x) := by
  rw [cw_run (F := F_rule_Find) rfl rfl rfl]
  unfold F_rule_Find k_rule_Find
  have hb' := hb
  obtain ⟨⟨ab, cb, rfl⟩, _⟩ := hb'
  have hbx : vBox (.slice ab x.length cb) 24 H = some (.pointer (some ⟨H.n, 0, none⟩), H.push ⟨[.slice ab x.length cb], 24, .tip, 0, []⟩) := v_box rfl
  have hx1 := Ext.push H ⟨[.slice ab x.length cb], 24, .tip, 0, []⟩
  have inner : Gives (cw Try.prog (tabF tab) om1 47 [a, .func (.func 48) ⟨[]⟩ ⟨[.pointer (some ⟨H.n, 0, none⟩)]⟩] (H.push ⟨[.slice ab x.length cb], 24, .tip, 0, []⟩)) fun v H' => Ext (H.push ⟨[.slice ab x.length cb], 24, .tip, 0, []⟩) H' ∧ v = .int .i64 (fnd L x) := by
    rw [cw_run (F := F_api_Rule_) rfl rfl rfl]
    unfold F_api_Rule_ k_api_Rule_
    obtain ⟨y, e', H', r1, r2, r3⟩ := l_IdxR L.length 0 _ (by omega) (ha.ext hx1) (hb.ext hx1) get_push_self
    simp only [Int.cast_ofNat_Int] at r1
    simp only [WA, isStore, isCall, isK, freshI, stampO, List.nil_append, Option.map_some, Option.map_none, Option.bind_some, List.map_cons, List.map_nil, if_true, if_false, Nat.reduceEqDiff, Int.reduceEq, Nat.reduceAdd, Nat.reduceMul, reduceCtorEq, eq_self, Int.reduceLT, Int.reduceLE, Int.reduceToNat, List.length_cons, List.length_nil, List.all_cons, List.all_nil, List.take_zero, List.drop_nil, List.append_nil, List.getElem?_cons_zero, List.getElem?_cons_succ, List.drop_succ_cons, List.drop_zero, List.take_succ_cons, List.cons_append, Nat.reduceLeDiff, Int.cast_ofNat_Int, ha.len]
    rw [w_enter]
    simp only [WA, isStore, isCall, isK, freshI, stampO, List.nil_append, Option.map_some, Option.map_none, Option.bind_some, List.map_cons, List.map_nil, if_true, if_false, Nat.reduceEqDiff, Int.reduceEq, Nat.reduceAdd, Nat.reduceMul, reduceCtorEq, eq_self, Int.reduceLT, Int.reduceLE, Int.reduceToNat, List.length_cons, List.length_nil, List.all_cons, List.all_nil, List.take_zero, List.drop_nil, List.append_nil, List.getElem?_cons_zero, List.getElem?_cons_succ, List.drop_succ_cons, List.drop_zero, List.take_succ_cons, List.cons_append, Nat.reduceLeDiff, Int.cast_ofNat_Int, r1]
    rw [List.drop_zero] at r3
    unfold fnd
    cases hf : fdx x L 0 with
    | none =>
      rw [hf] at r3
      subst r3
      simp only [WA, isStore, isCall, isK, freshI, stampO, List.nil_append, Option.map_some, Option.map_none, Option.bind_some, List.map_cons, List.map_nil, if_true, if_false, Nat.reduceEqDiff, Int.reduceEq, Nat.reduceAdd, Nat.reduceMul, reduceCtorEq, eq_self, Int.reduceLT, Int.reduceLE, Int.reduceToNat, List.length_cons, List.length_nil, List.all_cons, List.all_nil, List.take_zero, List.drop_nil, List.append_nil, List.getElem?_cons_zero, List.getElem?_cons_succ, List.drop_succ_cons, List.drop_zero, List.take_succ_cons, List.cons_append, Nat.reduceLeDiff, Int.cast_ofNat_Int]
      exact r2
    | some j =>
      rw [hf] at r3
      obtain ⟨rfl, r4⟩ := r3
      simp only [WA, isStore, isCall, isK, freshI, stampO, List.nil_append, Option.map_some, Option.map_none, Option.bind_some, List.map_cons, List.map_nil, if_true, if_false, Nat.reduceEqDiff, Int.reduceEq, Nat.reduceAdd, Nat.reduceMul, reduceCtorEq, eq_self, Int.reduceLT, Int.reduceLE, Int.reduceToNat, List.length_cons, List.length_nil, List.all_cons, List.all_nil, List.take_zero, List.drop_nil, List.append_nil, List.getElem?_cons_zero, List.getElem?_cons_succ, List.drop_succ_cons, List.drop_zero, List.take_succ_cons, List.cons_append, Nat.reduceLeDiff, Int.cast_ofNat_Int, r4]
      exact r2
  obtain ⟨v, H', c1, c2, rfl⟩ := inner
  simp only [WA, isStore, isCall, isK, freshI, stampO, List.nil_append, Option.map_some, Option.map_none, Option.bind_some, List.map_cons, List.map_nil, if_true, if_false, Nat.reduceEqDiff, Int.reduceEq, Nat.reduceAdd, Nat.reduceMul, reduceCtorEq, eq_self, Int.reduceLT, Int.reduceLE, Int.reduceToNat, List.length_cons, List.length_nil, List.all_cons, List.all_nil, List.take_zero, List.drop_nil, List.append_nil, List.getElem?_cons_zero, List.getElem?_cons_succ, List.drop_succ_cons, List.drop_zero, List.take_succ_cons, List.cons_append, Nat.reduceLeDiff, Int.cast_ofNat_Int, hbx, c1]
  exact hx1.trans c2
end Go.Proofs.Ythnccfmmeaeibaa

