/- What is proved here: what the program's functions come to, as far as the claimed statement asks. Conditions: those that each theorem names, and no others. -/
import Derived.Test.YtjigddebmbhbjaaLonW
import Derived.Test.YtjigddebmbhbjaaRows
/-! The functions in the interpreter's form. Written by program. -/
set_option linter.unusedSimpArgs false
namespace Go.Proofs.Ytjigddebmbhbjaa
open Go Lon

-- lontar/lontarlaw12.TcvnDecode
@[reducible] def i_lontarlaw12_TcvnDecode : Nat := 3
def k_lontarlaw12_TcvnDecode : ACode :=
 (.seq (.ops [⟨(some 2), .mv (.const (.bool false)), none⟩])
 (.seq (.seq (.ops [⟨(some 7), .call (.func 9) [], none⟩,
   ⟨(some 8), .not (.tmp 7), none⟩])
 (.cond (.tmp 8)
  (.seq (.ops [⟨(some 2), .mv (.const (.bool false)), none⟩])
  .ret)
  .skip))
 (.seq (.ops [⟨(some 10), .mv (.tmp 0), none⟩,
   ⟨(some 11), .call (.func 10) [(.tmp 10)], none⟩,
   ⟨(some 9), .mv (.tmp 11), none⟩,
   ⟨(some 12), .ext (.tmp 9) 0, none⟩,
   ⟨(some 13), .ext (.tmp 9) 1, none⟩,
   ⟨(some 3), .mv (.tmp 12), none⟩,
   ⟨(some 4), .mv (.tmp 13), none⟩])
 (.seq (.ops [⟨(some 15), .mv (.tmp 0), none⟩,
   ⟨(some 16), .conv .i64 (.tmp 15), none⟩,
   ⟨(some 17), .call (.func 11) [(.tmp 16)], none⟩,
   ⟨(some 14), .mv (.tmp 17), none⟩,
   ⟨(some 18), .ext (.tmp 14) 0, none⟩,
   ⟨(some 19), .ext (.tmp 14) 1, none⟩,
   ⟨(some 5), .mv (.tmp 18), none⟩,
   ⟨(some 6), .mv (.tmp 19), none⟩])
 (.seq (.ops [⟨(some 20), .mv (.tmp 3), none⟩,
   ⟨(some 21), .mv (.tmp 5), none⟩,
   ⟨(some 22), .int .eql (.tmp 20) (.tmp 21), none⟩,
   ⟨(some 23), .mv (.tmp 22), none⟩,
   ⟨(some 24), .mv (.tmp 4), some (23, true)⟩,
   ⟨(some 25), .mv (.tmp 6), some (23, true)⟩,
   ⟨(some 26), .beq false (.tmp 24) (.tmp 25), some (23, true)⟩,
   ⟨(some 27), .pick (.tmp 23) (.tmp 26) (.const (.bool false)), none⟩,
   ⟨(some 2), .mv (.tmp 27), none⟩])
 .ret)))))
def F_lontarlaw12_TcvnDecode : AFunc := ⟨1, 28, [.tmp 2], k_lontarlaw12_TcvnDecode⟩
theorem ok_lontarlaw12_TcvnDecode : FOK Try.prog 3 F_lontarlaw12_TcvnDecode := FOK.of [] Try.func3 (by kernel_rfl) (by kernel_rfl)

-- lontar/lontarlaw12.TcvnEncode
@[reducible] def i_lontarlaw12_TcvnEncode : Nat := 4
/-- lontarlaw12_TcvnEncode: the body of loop 0 -/
def b_lontarlaw12_TcvnEncode_0 : ACode :=
 (.seq (.seq (.ops [⟨(some 30), .mv (.tmp 9), none⟩,
   ⟨(some 31), .int .lss (.tmp 30) (.const (.int .i64 256)), none⟩])
 (.cond (.tmp 31)
  .skip
  (.exit 2)))
 (.seq (.block 3 (.seq (.ops [⟨(some 35), .mv (.tmp 9), none⟩,
   ⟨(some 36), .call (.func 11) [(.tmp 35)], none⟩,
   ⟨(some 34), .mv (.tmp 36), none⟩,
   ⟨(some 37), .ext (.tmp 34) 0, none⟩,
   ⟨(some 38), .ext (.tmp 34) 1, none⟩,
   ⟨(some 10), .mv (.tmp 37), none⟩,
   ⟨(some 11), .mv (.tmp 38), none⟩])
 (.seq (.ops [⟨(some 39), .mv (.tmp 11), none⟩,
   ⟨(some 40), .mv (.tmp 39), none⟩,
   ⟨(some 41), .mv (.tmp 10), some (40, true)⟩,
   ⟨(some 42), .mv (.tmp 6), some (40, true)⟩,
   ⟨(some 43), .int .eql (.tmp 41) (.tmp 42), some (40, true)⟩,
   ⟨(some 44), .pick (.tmp 40) (.tmp 43) (.const (.bool false)), none⟩])
 (.cond (.tmp 44)
  (.ops [⟨(some 45), .mv (.tmp 9), none⟩,
    ⟨(some 46), .conv .u8 (.tmp 45), none⟩,
    ⟨(some 7), .mv (.tmp 46), none⟩,
    ⟨(some 8), .mv (.const (.bool true)), none⟩])
  .skip))))
 (.ops [⟨(some 32), .mv (.tmp 9), none⟩,
   ⟨(some 33), .int .add (.tmp 32) (.const (.int .i64 1)), none⟩,
   ⟨(some 9), .mv (.tmp 33), none⟩])))

/-- lontarlaw12_TcvnEncode: the body of loop 1 -/
def b_lontarlaw12_TcvnEncode_1 : ACode :=
 (.seq (.ops [⟨(some 27), .int .lss (.tmp 26) (.tmp 25), none⟩])
 (.seq (.cond (.tmp 27)
  .skip
  (.exit 0))
 (.seq (.block 1 (.seq (.ops [⟨(some 28), .iaddr (.tmp 24) (.tmp 26) 1, none⟩,
   ⟨(some 29), .load (.tmp 28) none, none⟩,
   ⟨(some 6), .mv (.tmp 29), none⟩])
 (.seq (.ops [⟨(some 7), .mv (.const (.int .u8 0)), none⟩,
   ⟨(some 8), .mv (.const (.bool false)), none⟩])
 (.seq (.seq (.ops [⟨(some 9), .mv (.const (.int .i64 0)), none⟩])
 (.block 2 (.loop [6, 7, 8, 9, 24, 25, 26] b_lontarlaw12_TcvnEncode_0)))
 (.seq (.ops [⟨(some 48), .mv (.tmp 6), none⟩,
   ⟨(some 49), .call (.func 12) [(.tmp 48)], none⟩,
   ⟨(some 47), .mv (.tmp 49), none⟩,
   ⟨(some 50), .ext (.tmp 47) 0, none⟩,
   ⟨(some 51), .ext (.tmp 47) 1, none⟩,
   ⟨(some 12), .mv (.tmp 50), none⟩,
   ⟨(some 13), .mv (.tmp 51), none⟩])
 (.seq (.ops [⟨(some 52), .mv (.tmp 12), none⟩,
   ⟨(some 53), .mv (.tmp 7), none⟩,
   ⟨(some 54), .int .neq (.tmp 52) (.tmp 53), none⟩,
   ⟨(some 55), .mv (.tmp 54), none⟩,
   ⟨(some 56), .mv (.tmp 13), some (55, false)⟩,
   ⟨(some 57), .mv (.tmp 8), some (55, false)⟩,
   ⟨(some 58), .beq true (.tmp 56) (.tmp 57), some (55, false)⟩,
   ⟨(some 59), .pick (.tmp 55) (.const (.bool true)) (.tmp 58), none⟩])
 (.cond (.tmp 59)
  (.seq (.ops [⟨(some 4), .mv (.const (.bool false)), none⟩])
  .ret)
  .skip)))))))
 (.ops [⟨(some 60), .int .add (.tmp 26) (.const (.int .i64 1)), none⟩,
   ⟨(some 26), .mv (.tmp 60), none⟩]))))

def k_lontarlaw12_TcvnEncode : ACode :=
 (.seq (.ops [⟨(some 4), .mv (.const (.bool false)), none⟩])
 (.seq (.seq (.ops [⟨(some 14), .call (.func 9) [], none⟩,
   ⟨(some 15), .not (.tmp 14), none⟩])
 (.cond (.tmp 15)
  (.seq (.ops [⟨(some 4), .mv (.const (.bool false)), none⟩])
  .ret)
  .skip))
 (.seq (.seq (.ops [⟨(some 16), .mv (.tmp 0), none⟩,
   ⟨(some 17), .mv (.tmp 1), none⟩,
   ⟨(some 18), .int .rem (.tmp 17) (.const (.int .u16 544)), none⟩,
   ⟨(some 19), .conv .i64 (.tmp 18), none⟩,
   ⟨(some 20), .mv (.tmp 1), none⟩,
   ⟨(some 21), .int .rem (.tmp 20) (.const (.int .u16 112)), none⟩,
   ⟨(some 22), .conv .i64 (.tmp 21), none⟩,
   ⟨(some 23), .int .add (.const (.int .i64 7824)) (.tmp 22), none⟩,
   ⟨(some 24), .bslice 3 3 1 [(.int .i64 0)] [(0, 1, (.tmp 16)), (1, 1, (.tmp 19)), (2, 1, (.tmp 23))], none⟩,
   ⟨(some 25), .len false (.tmp 24), none⟩,
   ⟨(some 26), .mv (.const (.int .i64 0)), none⟩])
 (.block 0 (.loop [24, 25, 26] b_lontarlaw12_TcvnEncode_1)))
 (.seq (.ops [⟨(some 4), .mv (.const (.bool true)), none⟩])
 .ret))))
def F_lontarlaw12_TcvnEncode : AFunc := ⟨2, 61, [.tmp 4], k_lontarlaw12_TcvnEncode⟩
theorem ok_lontarlaw12_TcvnEncode : FOK Try.prog 4 F_lontarlaw12_TcvnEncode := FOK.of [[24, 25, 26], [6, 7, 8, 9, 24, 25, 26]] Try.func4 (by kernel_rfl) (by kernel_rfl)

-- lontar/lontarlaw12.TcvnRules
@[reducible] def i_lontarlaw12_TcvnRules : Nat := 5
/-- lontarlaw12_TcvnRules: the body of loop 0 -/
def b_lontarlaw12_TcvnRules_0 : ACode :=
 (.seq (.seq (.ops [⟨(some 10), .mv (.tmp 4), none⟩,
   ⟨(some 11), .int .lss (.tmp 10) (.const (.int .i64 128)), none⟩])
 (.cond (.tmp 11)
  .skip
  (.exit 0)))
 (.seq (.block 1 (.ops [⟨(some 14), .mv (.tmp 3), none⟩,
   ⟨(some 15), .mv (.tmp 4), none⟩,
   ⟨(some 16), .bslice 3 1 1 [(.int .i64 0)] [(0, 1, (.tmp 15))], none⟩,
   ⟨(some 17), .mv (.tmp 4), none⟩,
   ⟨(some 18), .bslice 3 1 1 [(.int .i64 0)] [(0, 1, (.tmp 17))], none⟩,
   ⟨(some 19), .build [(.slice none 0 0), (.slice none 0 0)] [(0, 1, (.tmp 16)), (1, 1, (.tmp 18))], none⟩,
   ⟨(some 20), .bslice 34 1 2 [(.slice none 0 0), (.slice none 0 0)] [(0, 2, (.tmp 19))], none⟩,
   ⟨(some 21), .append (.tmp 14) (.tmp 20) 34 2 48, none⟩,
   ⟨(some 3), .mv (.tmp 21), none⟩]))
 (.ops [⟨(some 12), .mv (.tmp 4), none⟩,
   ⟨(some 13), .int .add (.tmp 12) (.const (.int .i64 1)), none⟩,
   ⟨(some 4), .mv (.tmp 13), none⟩])))

/-- lontarlaw12_TcvnRules: the body of loop 1 -/
def b_lontarlaw12_TcvnRules_1 : ACode :=
 (.seq (.ops [⟨(some 25), .int .lss (.tmp 24) (.tmp 23), none⟩])
 (.seq (.cond (.tmp 25)
  .skip
  (.exit 2))
 (.seq (.block 3 (.seq (.ops [⟨(some 26), .iaddr (.tmp 22) (.tmp 24) 2, none⟩,
   ⟨(some 27), .load (.tmp 26) (some 2), none⟩,
   ⟨(some 6), .alloc [(.int .i64 0), (.int .i64 0)] 37, none⟩,
   ⟨none, .store (.tmp 6) (.tmp 27) 2, none⟩])
 (.ops [⟨(some 28), .mv (.tmp 3), none⟩,
   ⟨(some 29), .aaddr (.tmp 6) (.const (.int .i64 0)) 2 1, none⟩,
   ⟨(some 30), .load (.tmp 29) none, none⟩,
   ⟨(some 31), .bslice 3 1 1 [(.int .i64 0)] [(0, 1, (.tmp 30))], none⟩,
   ⟨(some 32), .aaddr (.tmp 6) (.const (.int .i64 1)) 2 1, none⟩,
   ⟨(some 33), .load (.tmp 32) none, none⟩,
   ⟨(some 34), .bslice 3 1 1 [(.int .i64 0)] [(0, 1, (.tmp 33))], none⟩,
   ⟨(some 35), .build [(.slice none 0 0), (.slice none 0 0)] [(0, 1, (.tmp 31)), (1, 1, (.tmp 34))], none⟩,
   ⟨(some 36), .bslice 34 1 2 [(.slice none 0 0), (.slice none 0 0)] [(0, 2, (.tmp 35))], none⟩,
   ⟨(some 37), .append (.tmp 28) (.tmp 36) 34 2 48, none⟩,
   ⟨(some 3), .mv (.tmp 37), none⟩])))
 (.ops [⟨(some 38), .int .add (.tmp 24) (.const (.int .i64 1)), none⟩,
   ⟨(some 24), .mv (.tmp 38), none⟩]))))

def k_lontarlaw12_TcvnRules : ACode :=
 (.seq (.ops [⟨(some 2), .mv (.const (.bool false)), none⟩])
 (.seq (.seq (.ops [⟨(some 8), .call (.func 9) [], none⟩,
   ⟨(some 9), .not (.tmp 8), none⟩])
 (.cond (.tmp 9)
  (.seq (.ops [⟨(some 2), .mv (.const (.bool false)), none⟩])
  .ret)
  .skip))
 (.seq (.ops [⟨(some 3), .mv (.const (.slice none 0 0)), none⟩])
 (.seq (.seq (.ops [⟨(some 4), .mv (.const (.int .i64 0)), none⟩])
 (.block 0 (.loop [0, 3, 4] b_lontarlaw12_TcvnRules_0)))
 (.seq (.seq (.ops [⟨(some 22), .call (.func 13) [], none⟩,
   ⟨(some 23), .len false (.tmp 22), none⟩,
   ⟨(some 24), .mv (.const (.int .i64 0)), none⟩])
 (.block 2 (.loop [0, 3, 22, 23, 24] b_lontarlaw12_TcvnRules_1)))
 (.seq (.ops [⟨(some 39), .call (.func 14) [], none⟩,
   ⟨(some 7), .mv (.tmp 39), none⟩])
 (.seq (.ops [⟨(some 40), .mv (.tmp 7), none⟩,
   ⟨(some 41), .mv (.tmp 3), none⟩,
   ⟨(some 42), .call (.func 15) [(.tmp 40), (.tmp 41)], none⟩,
   ⟨(some 43), .mv (.tmp 42), none⟩,
   ⟨(some 44), .mv (.tmp 7), some (43, true)⟩,
   ⟨(some 45), .len false (.tmp 44), some (43, true)⟩,
   ⟨(some 46), .mv (.tmp 0), some (43, true)⟩,
   ⟨(some 47), .int .rem (.tmp 46) (.const (.int .u8 128)), some (43, true)⟩,
   ⟨(some 48), .conv .i64 (.tmp 47), some (43, true)⟩,
   ⟨(some 49), .int .gtr (.tmp 45) (.tmp 48), some (43, true)⟩,
   ⟨(some 50), .pick (.tmp 43) (.tmp 49) (.const (.bool false)), none⟩,
   ⟨(some 51), .mv (.tmp 50), none⟩,
   ⟨(some 52), .mv (.tmp 7), some (51, true)⟩,
   ⟨(some 53), .mv (.tmp 0), some (51, true)⟩,
   ⟨(some 54), .int .rem (.tmp 53) (.const (.int .u8 128)), some (51, true)⟩,
   ⟨(some 55), .iaddr (.tmp 52) (.tmp 54) 2, some (51, true)⟩,
   ⟨(some 56), .faddr (.tmp 55) 1, some (51, true)⟩,
   ⟨(some 57), .load (.tmp 56) none, some (51, true)⟩,
   ⟨(some 58), .iaddr (.tmp 57) (.const (.int .i64 0)) 1, some (51, true)⟩,
   ⟨(some 59), .load (.tmp 58) none, some (51, true)⟩,
   ⟨(some 60), .mv (.tmp 0), some (51, true)⟩,
   ⟨(some 61), .int .rem (.tmp 60) (.const (.int .u8 128)), some (51, true)⟩,
   ⟨(some 62), .conv .i64 (.tmp 61), some (51, true)⟩,
   ⟨(some 63), .int .eql (.tmp 59) (.tmp 62), some (51, true)⟩,
   ⟨(some 64), .pick (.tmp 51) (.tmp 63) (.const (.bool false)), none⟩,
   ⟨(some 2), .mv (.tmp 64), none⟩])
 .ret)))))))
def F_lontarlaw12_TcvnRules : AFunc := ⟨1, 65, [.tmp 2], k_lontarlaw12_TcvnRules⟩
theorem ok_lontarlaw12_TcvnRules : FOK Try.prog 5 F_lontarlaw12_TcvnRules := FOK.of [[0, 3, 4], [0, 3, 22, 23, 24]] Try.func5 (by kernel_rfl) (by kernel_rfl)

-- lontar/lontarlaw12.TcvnSmall
@[reducible] def i_lontarlaw12_TcvnSmall : Nat := 6
def k_lontarlaw12_TcvnSmall : ACode :=
 (.seq (.ops [⟨(some 2), .mv (.const (.bool false)), none⟩])
 (.seq (.seq (.ops [⟨(some 10), .call (.func 9) [], none⟩,
   ⟨(some 11), .not (.tmp 10), none⟩])
 (.cond (.tmp 11)
  (.seq (.ops [⟨(some 2), .mv (.const (.bool false)), none⟩])
  .ret)
  .skip))
 (.seq (.ops [⟨(some 13), .mv (.tmp 0), none⟩,
   ⟨(some 14), .conv .i64 (.tmp 13), none⟩,
   ⟨(some 15), .int .rem (.tmp 14) (.const (.int .i64 148)), none⟩,
   ⟨(some 16), .call (.func 16) [(.tmp 15)], none⟩,
   ⟨(some 12), .mv (.tmp 16), none⟩,
   ⟨(some 17), .ext (.tmp 12) 0, none⟩,
   ⟨(some 18), .ext (.tmp 12) 1, none⟩,
   ⟨(some 19), .ext (.tmp 12) 2, none⟩,
   ⟨(some 3), .alloc [(.int .i64 0), (.complex .f64 0 0)] 42, none⟩,
   ⟨none, .store (.tmp 3) (.tmp 17) 2, none⟩,
   ⟨(some 4), .mv (.tmp 18), none⟩,
   ⟨(some 5), .mv (.tmp 19), none⟩])
 (.seq (.ops [⟨(some 21), .mv (.tmp 4), none⟩,
   ⟨(some 22), .call (.func 12) [(.tmp 21)], none⟩,
   ⟨(some 20), .mv (.tmp 22), none⟩,
   ⟨(some 23), .ext (.tmp 20) 0, none⟩,
   ⟨(some 24), .ext (.tmp 20) 1, none⟩,
   ⟨(some 6), .mv (.tmp 23), none⟩,
   ⟨(some 7), .mv (.tmp 24), none⟩])
 (.seq (.ops [⟨(some 26), .mv (.tmp 6), none⟩,
   ⟨(some 27), .call (.func 10) [(.tmp 26)], none⟩,
   ⟨(some 25), .mv (.tmp 27), none⟩,
   ⟨(some 28), .ext (.tmp 25) 0, none⟩,
   ⟨(some 29), .ext (.tmp 25) 1, none⟩,
   ⟨(some 8), .mv (.tmp 28), none⟩,
   ⟨(some 9), .mv (.tmp 29), none⟩])
 (.seq (.seq (.ops [⟨(some 30), .mv (.tmp 5), none⟩,
   ⟨(some 31), .not (.tmp 30), none⟩,
   ⟨(some 32), .mv (.tmp 31), none⟩,
   ⟨(some 33), .mv (.tmp 7), some (32, false)⟩,
   ⟨(some 34), .mv (.tmp 33), some (32, false)⟩,
   ⟨(some 35), .mv (.tmp 9), some (34, true)⟩,
   ⟨(some 36), .not (.tmp 35), some (34, true)⟩,
   ⟨(some 37), .mv (.tmp 36), some (34, true)⟩,
   ⟨(some 38), .mv (.tmp 8), some (37, false)⟩,
   ⟨(some 39), .mv (.tmp 4), some (37, false)⟩,
   ⟨(some 40), .int .neq (.tmp 38) (.tmp 39), some (37, false)⟩,
   ⟨(some 41), .pick (.tmp 37) (.const (.bool true)) (.tmp 40), some (34, true)⟩,
   ⟨(some 42), .pick (.tmp 34) (.tmp 41) (.const (.bool false)), some (32, false)⟩,
   ⟨(some 43), .pick (.tmp 32) (.const (.bool true)) (.tmp 42), none⟩])
 (.cond (.tmp 43)
  (.seq (.ops [⟨(some 2), .mv (.const (.bool false)), none⟩])
  .ret)
  .skip))
 (.seq (.ops [⟨(some 44), .mv (.tmp 7), none⟩,
   ⟨(some 45), .mv (.tmp 0), none⟩,
   ⟨(some 46), .int .rem (.tmp 45) (.const (.int .u8 148)), none⟩,
   ⟨(some 47), .int .lss (.tmp 46) (.const (.int .u8 74)), none⟩,
   ⟨(some 48), .mv (.tmp 47), none⟩,
   ⟨(some 49), .faddr (.tmp 3) 1, some (48, false)⟩,
   ⟨(some 50), .load (.tmp 49) none, some (48, false)⟩,
   ⟨(some 51), .gen ⟨none, (.call ⟨.builtin .imag, #[(.tmp 50)], #[40]⟩), 45, "", #[], none⟩, some (48, false)⟩,
   ⟨(some 52), .gen ⟨none, (.binOp .eql 45 (.tmp 51) (.const (.float .f64 0)) 45), 4, "", #[], none⟩, some (48, false)⟩,
   ⟨(some 53), .pick (.tmp 48) (.const (.bool true)) (.tmp 52), none⟩,
   ⟨(some 54), .beq false (.tmp 44) (.tmp 53), none⟩,
   ⟨(some 2), .mv (.tmp 54), none⟩])
 .ret)))))))
def F_lontarlaw12_TcvnSmall : AFunc := ⟨1, 55, [.tmp 2], k_lontarlaw12_TcvnSmall⟩
theorem ok_lontarlaw12_TcvnSmall : FOK Try.prog 6 F_lontarlaw12_TcvnSmall := FOK.of [] Try.func6 (by kernel_rfl) (by kernel_rfl)

-- lontar/lontarlaw12.TcvnRound
@[reducible] def i_lontarlaw12_TcvnRound : Nat := 7
def k_lontarlaw12_TcvnRound : ACode :=
 (.seq (.ops [⟨(some 4), .mv (.const (.bool false)), none⟩])
 (.seq (.seq (.ops [⟨(some 11), .call (.func 9) [], none⟩,
   ⟨(some 12), .not (.tmp 11), none⟩])
 (.cond (.tmp 12)
  (.seq (.ops [⟨(some 4), .mv (.const (.bool false)), none⟩])
  .ret)
  .skip))
 (.seq (.ops [⟨(some 14), .mv (.tmp 0), none⟩,
   ⟨(some 15), .call (.func 10) [(.tmp 14)], none⟩,
   ⟨(some 13), .mv (.tmp 15), none⟩,
   ⟨(some 16), .ext (.tmp 13) 0, none⟩,
   ⟨(some 17), .ext (.tmp 13) 1, none⟩,
   ⟨(some 5), .mv (.tmp 16), none⟩,
   ⟨(some 6), .mv (.tmp 17), none⟩])
 (.seq (.ops [⟨(some 19), .mv (.tmp 1), none⟩,
   ⟨(some 20), .call (.func 10) [(.tmp 19)], none⟩,
   ⟨(some 18), .mv (.tmp 20), none⟩,
   ⟨(some 21), .ext (.tmp 18) 0, none⟩,
   ⟨(some 22), .ext (.tmp 18) 1, none⟩,
   ⟨(some 7), .mv (.tmp 21), none⟩,
   ⟨(some 8), .mv (.tmp 22), none⟩])
 (.seq (.seq (.ops [⟨(some 23), .mv (.tmp 6), none⟩,
   ⟨(some 24), .not (.tmp 23), none⟩,
   ⟨(some 25), .mv (.tmp 24), none⟩,
   ⟨(some 26), .mv (.tmp 8), some (25, false)⟩,
   ⟨(some 27), .not (.tmp 26), some (25, false)⟩,
   ⟨(some 28), .pick (.tmp 25) (.const (.bool true)) (.tmp 27), none⟩])
 (.cond (.tmp 28)
  (.seq (.ops [⟨(some 29), .mv (.tmp 6), none⟩,
    ⟨(some 30), .mv (.tmp 29), none⟩,
    ⟨(some 31), .mv (.tmp 5), some (30, false)⟩,
    ⟨(some 32), .int .eql (.tmp 31) (.const (.int .i64 0)), some (30, false)⟩,
    ⟨(some 33), .pick (.tmp 30) (.const (.bool true)) (.tmp 32), none⟩,
    ⟨(some 34), .mv (.tmp 33), none⟩,
    ⟨(some 35), .mv (.tmp 8), some (34, true)⟩,
    ⟨(some 36), .mv (.tmp 35), some (34, true)⟩,
    ⟨(some 37), .mv (.tmp 7), some (36, false)⟩,
    ⟨(some 38), .int .eql (.tmp 37) (.const (.int .i64 0)), some (36, false)⟩,
    ⟨(some 39), .pick (.tmp 36) (.const (.bool true)) (.tmp 38), some (34, true)⟩,
    ⟨(some 40), .pick (.tmp 34) (.tmp 39) (.const (.bool false)), none⟩,
    ⟨(some 4), .mv (.tmp 40), none⟩])
  .ret)
  .skip))
 (.seq (.ops [⟨(some 42), .mv (.tmp 5), none⟩,
   ⟨(some 43), .call (.func 12) [(.tmp 42)], none⟩,
   ⟨(some 41), .mv (.tmp 43), none⟩,
   ⟨(some 44), .ext (.tmp 41) 0, none⟩,
   ⟨(some 45), .ext (.tmp 41) 1, none⟩,
   ⟨(some 9), .mv (.tmp 44), none⟩,
   ⟨(some 10), .mv (.tmp 45), none⟩])
 (.seq (.ops [⟨(some 46), .mv (.tmp 10), none⟩,
   ⟨(some 47), .mv (.tmp 46), none⟩,
   ⟨(some 48), .mv (.tmp 9), some (47, true)⟩,
   ⟨(some 49), .mv (.tmp 0), some (47, true)⟩,
   ⟨(some 50), .int .eql (.tmp 48) (.tmp 49), some (47, true)⟩,
   ⟨(some 51), .pick (.tmp 47) (.tmp 50) (.const (.bool false)), none⟩,
   ⟨(some 52), .mv (.tmp 51), none⟩,
   ⟨(some 53), .mv (.tmp 5), some (52, true)⟩,
   ⟨(some 54), .mv (.tmp 7), some (52, true)⟩,
   ⟨(some 55), .int .eql (.tmp 53) (.tmp 54), some (52, true)⟩,
   ⟨(some 56), .mv (.tmp 0), some (52, true)⟩,
   ⟨(some 57), .mv (.tmp 1), some (52, true)⟩,
   ⟨(some 58), .int .eql (.tmp 56) (.tmp 57), some (52, true)⟩,
   ⟨(some 59), .beq false (.tmp 55) (.tmp 58), some (52, true)⟩,
   ⟨(some 60), .pick (.tmp 52) (.tmp 59) (.const (.bool false)), none⟩,
   ⟨(some 4), .mv (.tmp 60), none⟩])
 .ret)))))))
def F_lontarlaw12_TcvnRound : AFunc := ⟨2, 61, [.tmp 4], k_lontarlaw12_TcvnRound⟩
theorem ok_lontarlaw12_TcvnRound : FOK Try.prog 7 F_lontarlaw12_TcvnRound := FOK.of [] Try.func7 (by kernel_rfl) (by kernel_rfl)

-- lontar/lontarlaw12.TcvnAscii
@[reducible] def i_lontarlaw12_TcvnAscii : Nat := 8
def k_lontarlaw12_TcvnAscii : ACode :=
 (.seq (.ops [⟨(some 2), .mv (.const (.bool false)), none⟩])
 (.seq (.seq (.ops [⟨(some 7), .call (.func 9) [], none⟩,
   ⟨(some 8), .not (.tmp 7), none⟩])
 (.cond (.tmp 8)
  (.seq (.ops [⟨(some 2), .mv (.const (.bool false)), none⟩])
  .ret)
  .skip))
 (.seq (.ops [⟨(some 10), .mv (.tmp 0), none⟩,
   ⟨(some 11), .call (.func 10) [(.tmp 10)], none⟩,
   ⟨(some 9), .mv (.tmp 11), none⟩,
   ⟨(some 12), .ext (.tmp 9) 0, none⟩,
   ⟨(some 13), .ext (.tmp 9) 1, none⟩,
   ⟨(some 3), .mv (.tmp 12), none⟩,
   ⟨(some 4), .mv (.tmp 13), none⟩])
 (.seq (.seq (.ops [⟨(some 14), .mv (.tmp 0), none⟩,
   ⟨(some 15), .int .lss (.tmp 14) (.const (.int .u8 128)), none⟩])
 (.cond (.tmp 15)
  (.seq (.ops [⟨(some 16), .mv (.tmp 4), none⟩,
    ⟨(some 17), .mv (.tmp 16), none⟩,
    ⟨(some 18), .mv (.tmp 3), some (17, true)⟩,
    ⟨(some 19), .mv (.tmp 0), some (17, true)⟩,
    ⟨(some 20), .conv .i64 (.tmp 19), some (17, true)⟩,
    ⟨(some 21), .int .eql (.tmp 18) (.tmp 20), some (17, true)⟩,
    ⟨(some 22), .pick (.tmp 17) (.tmp 21) (.const (.bool false)), none⟩,
    ⟨(some 2), .mv (.tmp 22), none⟩])
  .ret)
  .skip))
 (.seq (.ops [⟨(some 24), .mv (.tmp 3), none⟩,
   ⟨(some 25), .call (.func 17) [(.tmp 24)], none⟩,
   ⟨(some 23), .mv (.tmp 25), none⟩,
   ⟨(some 26), .ext (.tmp 23) 0, none⟩,
   ⟨(some 27), .ext (.tmp 23) 1, none⟩,
   ⟨(some 5), .alloc [(.int .i64 0), (.complex .f64 0 0)] 42, none⟩,
   ⟨none, .store (.tmp 5) (.tmp 26) 2, none⟩,
   ⟨(some 6), .mv (.tmp 27), none⟩])
 (.seq (.ops [⟨(some 28), .mv (.tmp 4), none⟩,
   ⟨(some 29), .not (.tmp 28), none⟩,
   ⟨(some 30), .mv (.tmp 29), none⟩,
   ⟨(some 31), .mv (.tmp 3), some (30, true)⟩,
   ⟨(some 32), .int .eql (.tmp 31) (.const (.int .i64 0)), some (30, true)⟩,
   ⟨(some 33), .pick (.tmp 30) (.tmp 32) (.const (.bool false)), none⟩,
   ⟨(some 34), .mv (.tmp 33), none⟩,
   ⟨(some 35), .mv (.tmp 4), some (34, false)⟩,
   ⟨(some 36), .mv (.tmp 35), some (34, false)⟩,
   ⟨(some 37), .mv (.tmp 6), some (36, true)⟩,
   ⟨(some 38), .pick (.tmp 36) (.tmp 37) (.const (.bool false)), some (34, false)⟩,
   ⟨(some 39), .mv (.tmp 38), some (34, false)⟩,
   ⟨(some 40), .mv (.tmp 3), some (39, true)⟩,
   ⟨(some 41), .int .gtr (.tmp 40) (.const (.int .i64 127)), some (39, true)⟩,
   ⟨(some 42), .pick (.tmp 39) (.tmp 41) (.const (.bool false)), some (34, false)⟩,
   ⟨(some 43), .pick (.tmp 34) (.const (.bool true)) (.tmp 42), none⟩,
   ⟨(some 2), .mv (.tmp 43), none⟩])
 .ret))))))
def F_lontarlaw12_TcvnAscii : AFunc := ⟨1, 44, [.tmp 2], k_lontarlaw12_TcvnAscii⟩
theorem ok_lontarlaw12_TcvnAscii : FOK Try.prog 8 F_lontarlaw12_TcvnAscii := FOK.of [] Try.func8 (by kernel_rfl) (by kernel_rfl)

-- lontar/lontarlaw12.awake
@[reducible] def i_lontarlaw12_awake : Nat := 9
def k_lontarlaw12_awake : ACode :=
 (.seq (.ops [⟨(some 0), .mv (.const (.bool false)), none⟩])
 (.seq (.ops [⟨(some 8), .call (.func 10) [(.const (.int .u8 184))], none⟩,
   ⟨(some 7), .mv (.tmp 8), none⟩,
   ⟨(some 9), .ext (.tmp 7) 0, none⟩,
   ⟨(some 10), .ext (.tmp 7) 1, none⟩,
   ⟨(some 1), .mv (.tmp 9), none⟩,
   ⟨(some 2), .mv (.tmp 10), none⟩])
 (.seq (.ops [⟨(some 12), .call (.func 12) [(.const (.int .i64 7925))], none⟩,
   ⟨(some 11), .mv (.tmp 12), none⟩,
   ⟨(some 13), .ext (.tmp 11) 0, none⟩,
   ⟨(some 14), .ext (.tmp 11) 1, none⟩,
   ⟨(some 3), .mv (.tmp 13), none⟩,
   ⟨(some 4), .mv (.tmp 14), none⟩])
 (.seq (.ops [⟨(some 16), .call (.func 10) [(.const (.int .u8 128))], none⟩,
   ⟨(some 15), .mv (.tmp 16), none⟩,
   ⟨(some 17), .ext (.tmp 15) 0, none⟩,
   ⟨(some 18), .ext (.tmp 15) 1, none⟩,
   ⟨(some 5), .mv (.tmp 17), none⟩,
   ⟨(some 6), .mv (.tmp 18), none⟩])
 (.seq (.ops [⟨(some 19), .mv (.tmp 2), none⟩,
   ⟨(some 20), .mv (.tmp 19), none⟩,
   ⟨(some 21), .mv (.tmp 1), some (20, true)⟩,
   ⟨(some 22), .int .eql (.tmp 21) (.const (.int .i64 225)), some (20, true)⟩,
   ⟨(some 23), .pick (.tmp 20) (.tmp 22) (.const (.bool false)), none⟩,
   ⟨(some 24), .mv (.tmp 23), none⟩,
   ⟨(some 25), .mv (.tmp 4), some (24, true)⟩,
   ⟨(some 26), .pick (.tmp 24) (.tmp 25) (.const (.bool false)), none⟩,
   ⟨(some 27), .mv (.tmp 26), none⟩,
   ⟨(some 28), .mv (.tmp 3), some (27, true)⟩,
   ⟨(some 29), .int .eql (.tmp 28) (.const (.int .u8 254)), some (27, true)⟩,
   ⟨(some 30), .pick (.tmp 27) (.tmp 29) (.const (.bool false)), none⟩,
   ⟨(some 31), .mv (.tmp 30), none⟩,
   ⟨(some 32), .mv (.tmp 6), some (31, true)⟩,
   ⟨(some 33), .not (.tmp 32), some (31, true)⟩,
   ⟨(some 34), .pick (.tmp 31) (.tmp 33) (.const (.bool false)), none⟩,
   ⟨(some 35), .mv (.tmp 34), none⟩,
   ⟨(some 36), .call (.func 14) [], some (35, true)⟩,
   ⟨(some 37), .len false (.tmp 36), some (35, true)⟩,
   ⟨(some 38), .int .eql (.tmp 37) (.const (.int .i64 202)), some (35, true)⟩,
   ⟨(some 39), .pick (.tmp 35) (.tmp 38) (.const (.bool false)), none⟩,
   ⟨(some 0), .mv (.tmp 39), none⟩])
 .ret)))))
def F_lontarlaw12_awake : AFunc := ⟨0, 40, [.tmp 0], k_lontarlaw12_awake⟩
theorem ok_lontarlaw12_awake : FOK Try.prog 9 F_lontarlaw12_awake := FOK.of [] Try.func9 (by kernel_rfl) (by kernel_rfl)

-- lontar/tcvn.Decode
@[reducible] def i_tcvn_Decode : Nat := 10
/-- tcvn_Decode: the body of loop 0 -/
def b_tcvn_Decode_0 : ACode :=
 (.seq (.ops [⟨(some 13), .int .lss (.tmp 12) (.tmp 11), none⟩])
 (.seq (.cond (.tmp 13)
  .skip
  (.exit 0))
 (.seq (.block 1 (.seq (.ops [⟨(some 14), .iaddr (.tmp 10) (.tmp 12) 2, none⟩,
   ⟨(some 15), .load (.tmp 14) (some 2), none⟩,
   ⟨(some 5), .alloc [(.int .i64 0), (.int .i64 0)] 37, none⟩,
   ⟨none, .store (.tmp 5) (.tmp 15) 2, none⟩])
 (.seq (.ops [⟨(some 16), .aaddr (.tmp 5) (.const (.int .i64 0)) 2 1, none⟩,
   ⟨(some 17), .load (.tmp 16) none, none⟩,
   ⟨(some 18), .mv (.tmp 0), none⟩,
   ⟨(some 19), .conv .i64 (.tmp 18), none⟩,
   ⟨(some 20), .int .eql (.tmp 17) (.tmp 19), none⟩])
 (.cond (.tmp 20)
  (.seq (.ops [⟨(some 21), .aaddr (.tmp 5) (.const (.int .i64 1)) 2 1, none⟩,
    ⟨(some 22), .load (.tmp 21) none, none⟩,
    ⟨(some 2), .mv (.tmp 22), none⟩,
    ⟨(some 3), .mv (.const (.bool true)), none⟩])
  .ret)
  .skip))))
 (.ops [⟨(some 23), .int .add (.tmp 12) (.const (.int .i64 1)), none⟩,
   ⟨(some 12), .mv (.tmp 23), none⟩]))))

def k_tcvn_Decode : ACode :=
 (.seq (.ops [⟨(some 2), .mv (.const (.int .i64 0)), none⟩,
   ⟨(some 3), .mv (.const (.bool false)), none⟩])
 (.seq (.seq (.ops [⟨(some 6), .mv (.tmp 0), none⟩,
   ⟨(some 7), .int .lss (.tmp 6) (.const (.int .u8 128)), none⟩])
 (.cond (.tmp 7)
  (.seq (.ops [⟨(some 8), .mv (.tmp 0), none⟩,
    ⟨(some 9), .conv .i64 (.tmp 8), none⟩,
    ⟨(some 2), .mv (.tmp 9), none⟩,
    ⟨(some 3), .mv (.const (.bool true)), none⟩])
  .ret)
  .skip))
 (.seq (.seq (.ops [⟨(some 10), .call (.func 18) [], none⟩,
   ⟨(some 11), .len false (.tmp 10), none⟩,
   ⟨(some 12), .mv (.const (.int .i64 0)), none⟩])
 (.block 0 (.loop [0, 10, 11, 12] b_tcvn_Decode_0)))
 (.seq (.ops [⟨(some 2), .mv (.const (.int .i64 0)), none⟩,
   ⟨(some 3), .mv (.const (.bool false)), none⟩])
 .ret))))
def F_tcvn_Decode : AFunc := ⟨1, 24, [.tmp 2, .tmp 3], k_tcvn_Decode⟩
theorem ok_tcvn_Decode : FOK Try.prog 10 F_tcvn_Decode := FOK.of [[0, 10, 11, 12]] Try.func10 (by kernel_rfl) (by kernel_rfl)

-- lontar/lontarlaw12.scalar
@[reducible] def i_lontarlaw12_scalar : Nat := 11
/-- lontarlaw12_scalar: the body of loop 0 -/
def b_lontarlaw12_scalar_0 : ACode :=
 (.seq (.ops [⟨(some 12), .int .lss (.tmp 11) (.tmp 10), none⟩])
 (.seq (.cond (.tmp 12)
  .skip
  (.exit 0))
 (.seq (.block 1 (.seq (.ops [⟨(some 13), .iaddr (.tmp 9) (.tmp 11) 2, none⟩,
   ⟨(some 14), .load (.tmp 13) (some 2), none⟩,
   ⟨(some 5), .alloc [(.int .i64 0), (.int .i64 0)] 37, none⟩,
   ⟨none, .store (.tmp 5) (.tmp 14) 2, none⟩])
 (.seq (.ops [⟨(some 15), .aaddr (.tmp 5) (.const (.int .i64 0)) 2 1, none⟩,
   ⟨(some 16), .load (.tmp 15) none, none⟩,
   ⟨(some 17), .mv (.tmp 0), none⟩,
   ⟨(some 18), .int .eql (.tmp 16) (.tmp 17), none⟩])
 (.cond (.tmp 18)
  (.seq (.ops [⟨(some 19), .aaddr (.tmp 5) (.const (.int .i64 1)) 2 1, none⟩,
    ⟨(some 20), .load (.tmp 19) none, none⟩,
    ⟨(some 2), .mv (.tmp 20), none⟩,
    ⟨(some 3), .mv (.const (.bool true)), none⟩])
  .ret)
  .skip))))
 (.ops [⟨(some 21), .int .add (.tmp 11) (.const (.int .i64 1)), none⟩,
   ⟨(some 11), .mv (.tmp 21), none⟩]))))

def k_lontarlaw12_scalar : ACode :=
 (.seq (.ops [⟨(some 2), .mv (.const (.int .i64 0)), none⟩,
   ⟨(some 3), .mv (.const (.bool false)), none⟩])
 (.seq (.seq (.ops [⟨(some 6), .mv (.tmp 0), none⟩,
   ⟨(some 7), .int .lss (.tmp 6) (.const (.int .i64 128)), none⟩])
 (.cond (.tmp 7)
  (.seq (.ops [⟨(some 8), .mv (.tmp 0), none⟩,
    ⟨(some 2), .mv (.tmp 8), none⟩,
    ⟨(some 3), .mv (.const (.bool true)), none⟩])
  .ret)
  .skip))
 (.seq (.seq (.ops [⟨(some 9), .call (.func 13) [], none⟩,
   ⟨(some 10), .len false (.tmp 9), none⟩,
   ⟨(some 11), .mv (.const (.int .i64 0)), none⟩])
 (.block 0 (.loop [0, 9, 10, 11] b_lontarlaw12_scalar_0)))
 (.seq (.ops [⟨(some 2), .mv (.const (.int .i64 0)), none⟩,
   ⟨(some 3), .mv (.const (.bool false)), none⟩])
 .ret))))
def F_lontarlaw12_scalar : AFunc := ⟨1, 22, [.tmp 2, .tmp 3], k_lontarlaw12_scalar⟩
theorem ok_lontarlaw12_scalar : FOK Try.prog 11 F_lontarlaw12_scalar := FOK.of [[0, 9, 10, 11]] Try.func11 (by kernel_rfl) (by kernel_rfl)

-- lontar/tcvn.Encode
@[reducible] def i_tcvn_Encode : Nat := 12
/-- tcvn_Encode: the body of loop 0 -/
def b_tcvn_Encode_0 : ACode :=
 (.seq (.ops [⟨(some 17), .int .lss (.tmp 16) (.tmp 15), none⟩])
 (.seq (.cond (.tmp 17)
  .skip
  (.exit 0))
 (.seq (.block 1 (.seq (.ops [⟨(some 18), .iaddr (.tmp 14) (.tmp 16) 2, none⟩,
   ⟨(some 19), .load (.tmp 18) (some 2), none⟩,
   ⟨(some 5), .alloc [(.int .i64 0), (.int .i64 0)] 37, none⟩,
   ⟨none, .store (.tmp 5) (.tmp 19) 2, none⟩])
 (.seq (.ops [⟨(some 20), .aaddr (.tmp 5) (.const (.int .i64 1)) 2 1, none⟩,
   ⟨(some 21), .load (.tmp 20) none, none⟩,
   ⟨(some 22), .mv (.tmp 0), none⟩,
   ⟨(some 23), .int .eql (.tmp 21) (.tmp 22), none⟩])
 (.cond (.tmp 23)
  (.seq (.ops [⟨(some 24), .aaddr (.tmp 5) (.const (.int .i64 0)) 2 1, none⟩,
    ⟨(some 25), .load (.tmp 24) none, none⟩,
    ⟨(some 26), .conv .u8 (.tmp 25), none⟩,
    ⟨(some 2), .mv (.tmp 26), none⟩,
    ⟨(some 3), .mv (.const (.bool true)), none⟩])
  .ret)
  .skip))))
 (.ops [⟨(some 27), .int .add (.tmp 16) (.const (.int .i64 1)), none⟩,
   ⟨(some 16), .mv (.tmp 27), none⟩]))))

def k_tcvn_Encode : ACode :=
 (.seq (.ops [⟨(some 2), .mv (.const (.int .u8 0)), none⟩,
   ⟨(some 3), .mv (.const (.bool false)), none⟩])
 (.seq (.seq (.ops [⟨(some 6), .mv (.tmp 0), none⟩,
   ⟨(some 7), .int .geq (.tmp 6) (.const (.int .i64 0)), none⟩,
   ⟨(some 8), .mv (.tmp 7), none⟩,
   ⟨(some 9), .mv (.tmp 0), some (8, true)⟩,
   ⟨(some 10), .int .lss (.tmp 9) (.const (.int .i64 128)), some (8, true)⟩,
   ⟨(some 11), .pick (.tmp 8) (.tmp 10) (.const (.bool false)), none⟩])
 (.cond (.tmp 11)
  (.seq (.ops [⟨(some 12), .mv (.tmp 0), none⟩,
    ⟨(some 13), .conv .u8 (.tmp 12), none⟩,
    ⟨(some 2), .mv (.tmp 13), none⟩,
    ⟨(some 3), .mv (.const (.bool true)), none⟩])
  .ret)
  .skip))
 (.seq (.seq (.ops [⟨(some 14), .call (.func 18) [], none⟩,
   ⟨(some 15), .len false (.tmp 14), none⟩,
   ⟨(some 16), .mv (.const (.int .i64 0)), none⟩])
 (.block 0 (.loop [0, 14, 15, 16] b_tcvn_Encode_0)))
 (.seq (.ops [⟨(some 2), .mv (.const (.int .u8 0)), none⟩,
   ⟨(some 3), .mv (.const (.bool false)), none⟩])
 .ret))))
def F_tcvn_Encode : AFunc := ⟨1, 28, [.tmp 2, .tmp 3], k_tcvn_Encode⟩
theorem ok_tcvn_Encode : FOK Try.prog 12 F_tcvn_Encode := FOK.of [[0, 14, 15, 16]] Try.func12 (by kernel_rfl) (by kernel_rfl)

-- lontar/lontarlaw12.rows
@[reducible] def i_lontarlaw12_rows : Nat := 13
def k_lontarlaw12_rows : ACode :=
 (.seq (.ops [⟨(some 0), .mv (.const (.slice none 0 0)), none⟩])
 (.seq (.ops [⟨(some 1), .build [(.int .i64 0), (.int .i64 0)] [(0, 1, (.const (.int .i64 161))), (1, 1, (.const (.int .i64 258)))], none⟩,
   ⟨(some 2), .build [(.int .i64 0), (.int .i64 0)] [(0, 1, (.const (.int .i64 162))), (1, 1, (.const (.int .i64 194)))], none⟩,
   ⟨(some 3), .build [(.int .i64 0), (.int .i64 0)] [(0, 1, (.const (.int .i64 163))), (1, 1, (.const (.int .i64 202)))], none⟩,
   ⟨(some 4), .build [(.int .i64 0), (.int .i64 0)] [(0, 1, (.const (.int .i64 164))), (1, 1, (.const (.int .i64 212)))], none⟩,
   ⟨(some 5), .build [(.int .i64 0), (.int .i64 0)] [(0, 1, (.const (.int .i64 165))), (1, 1, (.const (.int .i64 416)))], none⟩,
   ⟨(some 6), .build [(.int .i64 0), (.int .i64 0)] [(0, 1, (.const (.int .i64 166))), (1, 1, (.const (.int .i64 431)))], none⟩,
   ⟨(some 7), .build [(.int .i64 0), (.int .i64 0)] [(0, 1, (.const (.int .i64 167))), (1, 1, (.const (.int .i64 272)))], none⟩,
   ⟨(some 8), .build [(.int .i64 0), (.int .i64 0)] [(0, 1, (.const (.int .i64 168))), (1, 1, (.const (.int .i64 259)))], none⟩,
   ⟨(some 9), .build [(.int .i64 0), (.int .i64 0)] [(0, 1, (.const (.int .i64 169))), (1, 1, (.const (.int .i64 226)))], none⟩,
   ⟨(some 10), .build [(.int .i64 0), (.int .i64 0)] [(0, 1, (.const (.int .i64 170))), (1, 1, (.const (.int .i64 234)))], none⟩,
   ⟨(some 11), .build [(.int .i64 0), (.int .i64 0)] [(0, 1, (.const (.int .i64 171))), (1, 1, (.const (.int .i64 244)))], none⟩,
   ⟨(some 12), .build [(.int .i64 0), (.int .i64 0)] [(0, 1, (.const (.int .i64 172))), (1, 1, (.const (.int .i64 417)))], none⟩,
   ⟨(some 13), .build [(.int .i64 0), (.int .i64 0)] [(0, 1, (.const (.int .i64 173))), (1, 1, (.const (.int .i64 432)))], none⟩,
   ⟨(some 14), .build [(.int .i64 0), (.int .i64 0)] [(0, 1, (.const (.int .i64 174))), (1, 1, (.const (.int .i64 273)))], none⟩,
   ⟨(some 15), .build [(.int .i64 0), (.int .i64 0)] [(0, 1, (.const (.int .i64 181))), (1, 1, (.const (.int .i64 224)))], none⟩,
   ⟨(some 16), .build [(.int .i64 0), (.int .i64 0)] [(0, 1, (.const (.int .i64 182))), (1, 1, (.const (.int .i64 7843)))], none⟩,
   ⟨(some 17), .build [(.int .i64 0), (.int .i64 0)] [(0, 1, (.const (.int .i64 183))), (1, 1, (.const (.int .i64 227)))], none⟩,
   ⟨(some 18), .build [(.int .i64 0), (.int .i64 0)] [(0, 1, (.const (.int .i64 184))), (1, 1, (.const (.int .i64 225)))], none⟩,
   ⟨(some 19), .build [(.int .i64 0), (.int .i64 0)] [(0, 1, (.const (.int .i64 185))), (1, 1, (.const (.int .i64 7841)))], none⟩,
   ⟨(some 20), .build [(.int .i64 0), (.int .i64 0)] [(0, 1, (.const (.int .i64 187))), (1, 1, (.const (.int .i64 7857)))], none⟩,
   ⟨(some 21), .build [(.int .i64 0), (.int .i64 0)] [(0, 1, (.const (.int .i64 188))), (1, 1, (.const (.int .i64 7859)))], none⟩,
   ⟨(some 22), .build [(.int .i64 0), (.int .i64 0)] [(0, 1, (.const (.int .i64 189))), (1, 1, (.const (.int .i64 7861)))], none⟩,
   ⟨(some 23), .build [(.int .i64 0), (.int .i64 0)] [(0, 1, (.const (.int .i64 190))), (1, 1, (.const (.int .i64 7855)))], none⟩,
   ⟨(some 24), .build [(.int .i64 0), (.int .i64 0)] [(0, 1, (.const (.int .i64 198))), (1, 1, (.const (.int .i64 7863)))], none⟩,
   ⟨(some 25), .build [(.int .i64 0), (.int .i64 0)] [(0, 1, (.const (.int .i64 199))), (1, 1, (.const (.int .i64 7847)))], none⟩,
   ⟨(some 26), .build [(.int .i64 0), (.int .i64 0)] [(0, 1, (.const (.int .i64 200))), (1, 1, (.const (.int .i64 7849)))], none⟩,
   ⟨(some 27), .build [(.int .i64 0), (.int .i64 0)] [(0, 1, (.const (.int .i64 201))), (1, 1, (.const (.int .i64 7851)))], none⟩,
   ⟨(some 28), .build [(.int .i64 0), (.int .i64 0)] [(0, 1, (.const (.int .i64 202))), (1, 1, (.const (.int .i64 7845)))], none⟩,
   ⟨(some 29), .build [(.int .i64 0), (.int .i64 0)] [(0, 1, (.const (.int .i64 203))), (1, 1, (.const (.int .i64 7853)))], none⟩,
   ⟨(some 30), .build [(.int .i64 0), (.int .i64 0)] [(0, 1, (.const (.int .i64 204))), (1, 1, (.const (.int .i64 232)))], none⟩,
   ⟨(some 31), .build [(.int .i64 0), (.int .i64 0)] [(0, 1, (.const (.int .i64 206))), (1, 1, (.const (.int .i64 7867)))], none⟩,
   ⟨(some 32), .build [(.int .i64 0), (.int .i64 0)] [(0, 1, (.const (.int .i64 207))), (1, 1, (.const (.int .i64 7869)))], none⟩,
   ⟨(some 33), .build [(.int .i64 0), (.int .i64 0)] [(0, 1, (.const (.int .i64 208))), (1, 1, (.const (.int .i64 233)))], none⟩,
   ⟨(some 34), .build [(.int .i64 0), (.int .i64 0)] [(0, 1, (.const (.int .i64 209))), (1, 1, (.const (.int .i64 7865)))], none⟩,
   ⟨(some 35), .build [(.int .i64 0), (.int .i64 0)] [(0, 1, (.const (.int .i64 210))), (1, 1, (.const (.int .i64 7873)))], none⟩,
   ⟨(some 36), .build [(.int .i64 0), (.int .i64 0)] [(0, 1, (.const (.int .i64 211))), (1, 1, (.const (.int .i64 7875)))], none⟩,
   ⟨(some 37), .build [(.int .i64 0), (.int .i64 0)] [(0, 1, (.const (.int .i64 212))), (1, 1, (.const (.int .i64 7877)))], none⟩,
   ⟨(some 38), .build [(.int .i64 0), (.int .i64 0)] [(0, 1, (.const (.int .i64 213))), (1, 1, (.const (.int .i64 7871)))], none⟩,
   ⟨(some 39), .build [(.int .i64 0), (.int .i64 0)] [(0, 1, (.const (.int .i64 214))), (1, 1, (.const (.int .i64 7879)))], none⟩,
   ⟨(some 40), .build [(.int .i64 0), (.int .i64 0)] [(0, 1, (.const (.int .i64 215))), (1, 1, (.const (.int .i64 236)))], none⟩,
   ⟨(some 41), .build [(.int .i64 0), (.int .i64 0)] [(0, 1, (.const (.int .i64 216))), (1, 1, (.const (.int .i64 7881)))], none⟩,
   ⟨(some 42), .build [(.int .i64 0), (.int .i64 0)] [(0, 1, (.const (.int .i64 220))), (1, 1, (.const (.int .i64 297)))], none⟩,
   ⟨(some 43), .build [(.int .i64 0), (.int .i64 0)] [(0, 1, (.const (.int .i64 221))), (1, 1, (.const (.int .i64 237)))], none⟩,
   ⟨(some 44), .build [(.int .i64 0), (.int .i64 0)] [(0, 1, (.const (.int .i64 222))), (1, 1, (.const (.int .i64 7883)))], none⟩,
   ⟨(some 45), .build [(.int .i64 0), (.int .i64 0)] [(0, 1, (.const (.int .i64 223))), (1, 1, (.const (.int .i64 242)))], none⟩,
   ⟨(some 46), .build [(.int .i64 0), (.int .i64 0)] [(0, 1, (.const (.int .i64 225))), (1, 1, (.const (.int .i64 7887)))], none⟩,
   ⟨(some 47), .build [(.int .i64 0), (.int .i64 0)] [(0, 1, (.const (.int .i64 226))), (1, 1, (.const (.int .i64 245)))], none⟩,
   ⟨(some 48), .build [(.int .i64 0), (.int .i64 0)] [(0, 1, (.const (.int .i64 227))), (1, 1, (.const (.int .i64 243)))], none⟩,
   ⟨(some 49), .build [(.int .i64 0), (.int .i64 0)] [(0, 1, (.const (.int .i64 228))), (1, 1, (.const (.int .i64 7885)))], none⟩,
   ⟨(some 50), .build [(.int .i64 0), (.int .i64 0)] [(0, 1, (.const (.int .i64 229))), (1, 1, (.const (.int .i64 7891)))], none⟩,
   ⟨(some 51), .build [(.int .i64 0), (.int .i64 0)] [(0, 1, (.const (.int .i64 230))), (1, 1, (.const (.int .i64 7893)))], none⟩,
   ⟨(some 52), .build [(.int .i64 0), (.int .i64 0)] [(0, 1, (.const (.int .i64 231))), (1, 1, (.const (.int .i64 7895)))], none⟩,
   ⟨(some 53), .build [(.int .i64 0), (.int .i64 0)] [(0, 1, (.const (.int .i64 232))), (1, 1, (.const (.int .i64 7889)))], none⟩,
   ⟨(some 54), .build [(.int .i64 0), (.int .i64 0)] [(0, 1, (.const (.int .i64 233))), (1, 1, (.const (.int .i64 7897)))], none⟩,
   ⟨(some 55), .build [(.int .i64 0), (.int .i64 0)] [(0, 1, (.const (.int .i64 234))), (1, 1, (.const (.int .i64 7901)))], none⟩,
   ⟨(some 56), .build [(.int .i64 0), (.int .i64 0)] [(0, 1, (.const (.int .i64 235))), (1, 1, (.const (.int .i64 7903)))], none⟩,
   ⟨(some 57), .build [(.int .i64 0), (.int .i64 0)] [(0, 1, (.const (.int .i64 236))), (1, 1, (.const (.int .i64 7905)))], none⟩,
   ⟨(some 58), .build [(.int .i64 0), (.int .i64 0)] [(0, 1, (.const (.int .i64 237))), (1, 1, (.const (.int .i64 7899)))], none⟩,
   ⟨(some 59), .build [(.int .i64 0), (.int .i64 0)] [(0, 1, (.const (.int .i64 238))), (1, 1, (.const (.int .i64 7907)))], none⟩,
   ⟨(some 60), .build [(.int .i64 0), (.int .i64 0)] [(0, 1, (.const (.int .i64 239))), (1, 1, (.const (.int .i64 249)))], none⟩,
   ⟨(some 61), .build [(.int .i64 0), (.int .i64 0)] [(0, 1, (.const (.int .i64 241))), (1, 1, (.const (.int .i64 7911)))], none⟩,
   ⟨(some 62), .build [(.int .i64 0), (.int .i64 0)] [(0, 1, (.const (.int .i64 242))), (1, 1, (.const (.int .i64 361)))], none⟩,
   ⟨(some 63), .build [(.int .i64 0), (.int .i64 0)] [(0, 1, (.const (.int .i64 243))), (1, 1, (.const (.int .i64 250)))], none⟩,
   ⟨(some 64), .build [(.int .i64 0), (.int .i64 0)] [(0, 1, (.const (.int .i64 244))), (1, 1, (.const (.int .i64 7909)))], none⟩,
   ⟨(some 65), .build [(.int .i64 0), (.int .i64 0)] [(0, 1, (.const (.int .i64 245))), (1, 1, (.const (.int .i64 7915)))], none⟩,
   ⟨(some 66), .build [(.int .i64 0), (.int .i64 0)] [(0, 1, (.const (.int .i64 246))), (1, 1, (.const (.int .i64 7917)))], none⟩,
   ⟨(some 67), .build [(.int .i64 0), (.int .i64 0)] [(0, 1, (.const (.int .i64 247))), (1, 1, (.const (.int .i64 7919)))], none⟩,
   ⟨(some 68), .build [(.int .i64 0), (.int .i64 0)] [(0, 1, (.const (.int .i64 248))), (1, 1, (.const (.int .i64 7913)))], none⟩,
   ⟨(some 69), .build [(.int .i64 0), (.int .i64 0)] [(0, 1, (.const (.int .i64 249))), (1, 1, (.const (.int .i64 7921)))], none⟩,
   ⟨(some 70), .build [(.int .i64 0), (.int .i64 0)] [(0, 1, (.const (.int .i64 250))), (1, 1, (.const (.int .i64 7923)))], none⟩,
   ⟨(some 71), .build [(.int .i64 0), (.int .i64 0)] [(0, 1, (.const (.int .i64 251))), (1, 1, (.const (.int .i64 7927)))], none⟩,
   ⟨(some 72), .build [(.int .i64 0), (.int .i64 0)] [(0, 1, (.const (.int .i64 252))), (1, 1, (.const (.int .i64 7929)))], none⟩,
   ⟨(some 73), .build [(.int .i64 0), (.int .i64 0)] [(0, 1, (.const (.int .i64 253))), (1, 1, (.const (.int .i64 253)))], none⟩,
   ⟨(some 74), .build [(.int .i64 0), (.int .i64 0)] [(0, 1, (.const (.int .i64 254))), (1, 1, (.const (.int .i64 7925)))], none⟩,
   ⟨(some 75), .bslice 37 74 2 [(.int .i64 0), (.int .i64 0)] [(0, 2, (.tmp 1)), (2, 2, (.tmp 2)), (4, 2, (.tmp 3)), (6, 2, (.tmp 4)), (8, 2, (.tmp 5)), (10, 2, (.tmp 6)), (12, 2, (.tmp 7)), (14, 2, (.tmp 8)), (16, 2, (.tmp 9)), (18, 2, (.tmp 10)), (20, 2, (.tmp 11)), (22, 2, (.tmp 12)), (24, 2, (.tmp 13)), (26, 2, (.tmp 14)), (28, 2, (.tmp 15)), (30, 2, (.tmp 16)), (32, 2, (.tmp 17)), (34, 2, (.tmp 18)), (36, 2, (.tmp 19)), (38, 2, (.tmp 20)), (40, 2, (.tmp 21)), (42, 2, (.tmp 22)), (44, 2, (.tmp 23)), (46, 2, (.tmp 24)), (48, 2, (.tmp 25)), (50, 2, (.tmp 26)), (52, 2, (.tmp 27)), (54, 2, (.tmp 28)), (56, 2, (.tmp 29)), (58, 2, (.tmp 30)), (60, 2, (.tmp 31)), (62, 2, (.tmp 32)), (64, 2, (.tmp 33)), (66, 2, (.tmp 34)), (68, 2, (.tmp 35)), (70, 2, (.tmp 36)), (72, 2, (.tmp 37)), (74, 2, (.tmp 38)), (76, 2, (.tmp 39)), (78, 2, (.tmp 40)), (80, 2, (.tmp 41)), (82, 2, (.tmp 42)), (84, 2, (.tmp 43)), (86, 2, (.tmp 44)), (88, 2, (.tmp 45)), (90, 2, (.tmp 46)), (92, 2, (.tmp 47)), (94, 2, (.tmp 48)), (96, 2, (.tmp 49)), (98, 2, (.tmp 50)), (100, 2, (.tmp 51)), (102, 2, (.tmp 52)), (104, 2, (.tmp 53)), (106, 2, (.tmp 54)), (108, 2, (.tmp 55)), (110, 2, (.tmp 56)), (112, 2, (.tmp 57)), (114, 2, (.tmp 58)), (116, 2, (.tmp 59)), (118, 2, (.tmp 60)), (120, 2, (.tmp 61)), (122, 2, (.tmp 62)), (124, 2, (.tmp 63)), (126, 2, (.tmp 64)), (128, 2, (.tmp 65)), (130, 2, (.tmp 66)), (132, 2, (.tmp 67)), (134, 2, (.tmp 68)), (136, 2, (.tmp 69)), (138, 2, (.tmp 70)), (140, 2, (.tmp 71)), (142, 2, (.tmp 72)), (144, 2, (.tmp 73)), (146, 2, (.tmp 74))], none⟩,
   ⟨(some 0), .mv (.tmp 75), none⟩])
 .ret))
def F_lontarlaw12_rows : AFunc := ⟨0, 76, [.tmp 0], k_lontarlaw12_rows⟩
theorem ok_lontarlaw12_rows : FOK Try.prog 13 F_lontarlaw12_rows := FOK.of [] Try.func13 (by kernel_rfl) (by kernel_rfl)

-- lontar/tcvn.Rules
@[reducible] def i_tcvn_Rules : Nat := 14
/-- tcvn_Rules: the body of loop 0 -/
def b_tcvn_Rules_0 : ACode :=
 (.seq (.ops [⟨(some 4), .int .lss (.tmp 3) (.const (.int .i64 128)), none⟩])
 (.seq (.cond (.tmp 4)
  .skip
  (.exit 0))
 (.seq (.block 1 (.seq (.ops [⟨(some 5), .mv (.tmp 3), none⟩,
   ⟨(some 2), .mv (.tmp 5), none⟩])
 (.ops [⟨(some 6), .mv (.tmp 1), none⟩,
   ⟨(some 7), .mv (.tmp 2), none⟩,
   ⟨(some 8), .mv (.tmp 2), none⟩,
   ⟨(some 9), .build [(.int .i64 0), (.int .i64 0)] [(0, 1, (.tmp 7)), (1, 1, (.tmp 8))], none⟩,
   ⟨(some 10), .bslice 37 1 2 [(.int .i64 0), (.int .i64 0)] [(0, 2, (.tmp 9))], none⟩,
   ⟨(some 11), .append (.tmp 6) (.tmp 10) 37 2 16, none⟩,
   ⟨(some 1), .mv (.tmp 11), none⟩])))
 (.ops [⟨(some 12), .int .add (.tmp 3) (.const (.int .i64 1)), none⟩,
   ⟨(some 3), .mv (.tmp 12), none⟩]))))

def k_tcvn_Rules : ACode :=
 (.seq (.ops [⟨(some 0), .mv (.const (.slice none 0 0)), none⟩])
 (.seq (.ops [⟨(some 1), .mv (.const (.slice none 0 0)), none⟩])
 (.seq (.seq (.ops [⟨(some 3), .mv (.const (.int .i64 0)), none⟩])
 (.block 0 (.loop [1, 3] b_tcvn_Rules_0)))
 (.seq (.ops [⟨(some 13), .mv (.tmp 1), none⟩,
   ⟨(some 14), .call (.func 18) [], none⟩,
   ⟨(some 15), .append (.tmp 13) (.tmp 14) 37 2 16, none⟩,
   ⟨(some 16), .call (.func 19) [(.tmp 15)], none⟩,
   ⟨(some 0), .mv (.tmp 16), none⟩])
 .ret))))
def F_tcvn_Rules : AFunc := ⟨0, 17, [.tmp 0], k_tcvn_Rules⟩
theorem ok_tcvn_Rules : FOK Try.prog 14 F_tcvn_Rules := FOK.of [[1, 3]] Try.func14 (by kernel_rfl) (by kernel_rfl)

-- lontar/lontarlaw03.Same
@[reducible] def i_lontarlaw03_Same : Nat := 15
/-- lontarlaw03_Same: the body of loop 0 -/
def b_lontarlaw03_Same_0 : ACode :=
 (.seq (.ops [⟨(some 14), .int .lss (.tmp 13) (.tmp 12), none⟩])
 (.seq (.cond (.tmp 14)
  .skip
  (.exit 0))
 (.seq (.block 1 (.seq (.ops [⟨(some 15), .mv (.tmp 13), none⟩,
   ⟨(some 5), .mv (.tmp 15), none⟩])
 (.seq (.draw [⟨(some 16), .mv (.tmp 0), none⟩,
   ⟨(some 17), .mv (.tmp 5), none⟩,
   ⟨(some 18), .iaddr (.tmp 16) (.tmp 17) 2, none⟩,
   ⟨(some 19), .faddr (.tmp 18) 0, none⟩,
   ⟨(some 20), .load (.tmp 19) none, none⟩,
   ⟨(some 21), .mv (.tmp 1), none⟩,
   ⟨(some 22), .mv (.tmp 5), none⟩,
   ⟨(some 23), .iaddr (.tmp 21) (.tmp 22) 2, none⟩,
   ⟨(some 24), .faddr (.tmp 23) 0, none⟩,
   ⟨(some 25), .load (.tmp 24) none, none⟩,
   ⟨(some 26), .call (.func 20) [(.tmp 20), (.tmp 25)], none⟩,
   ⟨(some 27), .not (.tmp 26), none⟩,
   ⟨(some 28), .mv (.tmp 27), none⟩,
   ⟨(some 29), .mv (.tmp 0), some (28, false)⟩,
   ⟨(some 30), .mv (.tmp 5), some (28, false)⟩,
   ⟨(some 31), .iaddr (.tmp 29) (.tmp 30) 2, some (28, false)⟩,
   ⟨(some 32), .faddr (.tmp 31) 1, some (28, false)⟩,
   ⟨(some 33), .load (.tmp 32) none, some (28, false)⟩,
   ⟨(some 34), .mv (.tmp 1), some (28, false)⟩,
   ⟨(some 35), .mv (.tmp 5), some (28, false)⟩,
   ⟨(some 36), .iaddr (.tmp 34) (.tmp 35) 2, some (28, false)⟩,
   ⟨(some 37), .faddr (.tmp 36) 1, some (28, false)⟩,
   ⟨(some 38), .load (.tmp 37) none, some (28, false)⟩,
   ⟨(some 39), .call (.func 20) [(.tmp 33), (.tmp 38)], some (28, false)⟩,
   ⟨(some 40), .not (.tmp 39), some (28, false)⟩,
   ⟨(some 41), .pick (.tmp 28) (.const (.bool true)) (.tmp 40), none⟩])
 (.cond (.tmp 41)
  (.seq (.ops [⟨(some 4), .mv (.const (.bool false)), none⟩])
  .ret)
  .skip))))
 (.ops [⟨(some 42), .int .add (.tmp 13) (.const (.int .i64 1)), none⟩,
   ⟨(some 13), .mv (.tmp 42), none⟩]))))

def k_lontarlaw03_Same : ACode :=
 (.seq (.ops [⟨(some 4), .mv (.const (.bool false)), none⟩])
 (.seq (.seq (.ops [⟨(some 6), .mv (.tmp 0), none⟩,
   ⟨(some 7), .len false (.tmp 6), none⟩,
   ⟨(some 8), .mv (.tmp 1), none⟩,
   ⟨(some 9), .len false (.tmp 8), none⟩,
   ⟨(some 10), .int .neq (.tmp 7) (.tmp 9), none⟩])
 (.cond (.tmp 10)
  (.seq (.ops [⟨(some 4), .mv (.const (.bool false)), none⟩])
  .ret)
  .skip))
 (.seq (.seq (.ops [⟨(some 11), .mv (.tmp 0), none⟩,
   ⟨(some 12), .len false (.tmp 11), none⟩,
   ⟨(some 13), .mv (.const (.int .i64 0)), none⟩])
 (.block 0 (.loop [0, 1, 12, 13] b_lontarlaw03_Same_0)))
 (.seq (.ops [⟨(some 4), .mv (.const (.bool true)), none⟩])
 .ret))))
def F_lontarlaw03_Same : AFunc := ⟨2, 43, [.tmp 4], k_lontarlaw03_Same⟩
theorem ok_lontarlaw03_Same : FOK Try.prog 15 F_lontarlaw03_Same := FOK.of [[0, 1, 12, 13], [0, 1, 2, 3, 4, 5, 6, 7, 8, 9, 10, 11, 12, 13, 14, 15, 16, 17, 18, 19, 20, 21, 22, 23, 24, 25]] Try.func15 (by kernel_rfl) (by kernel_rfl)

-- lontar/lontarlaw09.Letter
@[reducible] def i_lontarlaw09_Letter : Nat := 16
/-- lontarlaw09_Letter: the body of loop 0 -/
def b_lontarlaw09_Letter_0 : ACode :=
 (.seq (.ops [⟨(some 26), .int .lss (.tmp 25) (.tmp 24), none⟩])
 (.seq (.cond (.tmp 26)
  .skip
  (.exit 4))
 (.seq (.block 5 (.seq (.ops [⟨(some 27), .mv (.tmp 25), none⟩,
   ⟨(some 28), .iaddr (.tmp 23) (.tmp 25) 1, none⟩,
   ⟨(some 29), .load (.tmp 28) none, none⟩,
   ⟨(some 9), .mv (.tmp 27), none⟩,
   ⟨(some 10), .mv (.tmp 29), none⟩])
 (.seq (.seq (.ops [⟨(some 30), .mv (.tmp 5), none⟩,
   ⟨(some 31), .mv (.tmp 0), none⟩,
   ⟨(some 32), .int .eql (.tmp 30) (.tmp 31), none⟩])
 (.cond (.tmp 32)
  (.seq (.ops [⟨(some 33), .faddr (.tmp 8) 0, none⟩,
    ⟨(some 34), .load (.tmp 33) none, none⟩,
    ⟨(some 11), .mv (.tmp 34), none⟩])
  (.seq (.seq (.ops [⟨(some 35), .mv (.tmp 6), none⟩,
    ⟨(some 36), .int .eql (.tmp 35) (.const (.int .i64 1)), none⟩])
  (.cond (.tmp 36)
   (.ops [⟨(some 37), .mv (.tmp 11), none⟩,
     ⟨(some 38), .call (.func 22) [(.tmp 37)], none⟩,
     ⟨(some 39), .mv (.tmp 10), none⟩,
     ⟨(some 40), .call (.func 22) [(.tmp 39)], none⟩,
     ⟨(some 11), .mv (.tmp 38), none⟩,
     ⟨(some 10), .mv (.tmp 40), none⟩])
   .skip))
  (.seq (.ops [⟨(some 41), .mv (.tmp 11), none⟩,
    ⟨(some 42), .faddr (.tmp 8) 1, none⟩,
    ⟨(some 43), .load (.tmp 42) none, none⟩,
    ⟨(some 44), .gen ⟨none, (.convert 3 45 (.tmp 43)), 45, "", #[], none⟩, none⟩,
    ⟨(some 45), .mv (.tmp 9), none⟩,
    ⟨(some 46), .gen ⟨none, (.convert 3 45 (.tmp 45)), 45, "", #[], none⟩, none⟩,
    ⟨(some 47), .gen ⟨none, (.call ⟨.builtin .complex, #[(.tmp 44), (.tmp 46)], #[45, 45]⟩), 40, "", #[], none⟩, none⟩,
    ⟨(some 48), .build [(.int .i64 0), (.complex .f64 0 0)] [(0, 1, (.tmp 41)), (1, 1, (.tmp 47))], none⟩,
    ⟨(some 49), .mv (.tmp 10), none⟩,
    ⟨none, .store (.tmp 2) (.tmp 48) 2, none⟩,
    ⟨(some 3), .mv (.tmp 49), none⟩,
    ⟨(some 4), .mv (.const (.bool true)), none⟩])
  .ret)))
  .skip))
 (.ops [⟨(some 50), .mv (.tmp 5), none⟩,
   ⟨(some 51), .int .add (.tmp 50) (.const (.int .i64 1)), none⟩,
   ⟨(some 5), .mv (.tmp 51), none⟩]))))
 (.ops [⟨(some 52), .int .add (.tmp 25) (.const (.int .i64 1)), none⟩,
   ⟨(some 25), .mv (.tmp 52), none⟩]))))

/-- lontarlaw09_Letter: the body of loop 1 -/
def b_lontarlaw09_Letter_1 : ACode :=
 (.seq (.ops [⟨(some 19), .int .lss (.tmp 18) (.tmp 17), none⟩])
 (.seq (.cond (.tmp 19)
  .skip
  (.exit 2))
 (.seq (.block 3 (.seq (.ops [⟨(some 20), .iaddr (.tmp 16) (.tmp 18) 3, none⟩,
   ⟨(some 21), .load (.tmp 20) (some 3), none⟩,
   ⟨(some 8), .alloc [(.int .i64 0), (.int .i64 0), (.slice none 0 0)] 54, none⟩,
   ⟨none, .store (.tmp 8) (.tmp 21) 3, none⟩])
 (.seq (.ops [⟨(some 22), .faddr (.tmp 8) 2, none⟩,
   ⟨(some 23), .load (.tmp 22) none, none⟩,
   ⟨(some 24), .len false (.tmp 23), none⟩,
   ⟨(some 25), .mv (.const (.int .i64 0)), none⟩])
 (.block 4 (.loop [0, 2, 5, 6, 8, 16, 17, 18, 23, 24, 25] b_lontarlaw09_Letter_0)))))
 (.ops [⟨(some 53), .int .add (.tmp 18) (.const (.int .i64 1)), none⟩,
   ⟨(some 18), .mv (.tmp 53), none⟩]))))

/-- lontarlaw09_Letter: the body of loop 2 -/
def b_lontarlaw09_Letter_2 : ACode :=
 (.seq (.seq (.ops [⟨(some 12), .mv (.tmp 6), none⟩,
   ⟨(some 13), .int .lss (.tmp 12) (.const (.int .i64 2)), none⟩])
 (.cond (.tmp 13)
  .skip
  (.exit 0)))
 (.seq (.block 1 (.seq (.ops [⟨(some 16), .call (.func 21) [], none⟩,
   ⟨(some 17), .len false (.tmp 16), none⟩,
   ⟨(some 18), .mv (.const (.int .i64 0)), none⟩])
 (.block 2 (.loop [0, 2, 5, 6, 16, 17, 18] b_lontarlaw09_Letter_1))))
 (.ops [⟨(some 14), .mv (.tmp 6), none⟩,
   ⟨(some 15), .int .add (.tmp 14) (.const (.int .i64 1)), none⟩,
   ⟨(some 6), .mv (.tmp 15), none⟩])))

def k_lontarlaw09_Letter : ACode :=
 (.seq (.ops [⟨(some 2), .alloc [(.int .i64 0), (.complex .f64 0 0)] 42, none⟩,
   ⟨(some 3), .mv (.const (.int .i64 0)), none⟩,
   ⟨(some 4), .mv (.const (.bool false)), none⟩])
 (.seq (.ops [⟨(some 5), .mv (.const (.int .i64 0)), none⟩])
 (.seq (.seq (.ops [⟨(some 6), .mv (.const (.int .i64 0)), none⟩])
 (.block 0 (.loop [0, 2, 5, 6] b_lontarlaw09_Letter_2)))
 (.seq (.ops [⟨(some 54), .build [(.int .i64 0), (.complex .f64 0 0)] [], none⟩,
   ⟨none, .store (.tmp 2) (.tmp 54) 2, none⟩,
   ⟨(some 3), .mv (.const (.int .i64 0)), none⟩,
   ⟨(some 4), .mv (.const (.bool false)), none⟩])
 .ret))))
def F_lontarlaw09_Letter : AFunc := ⟨1, 55, [.cell 2 (some 2), .tmp 3, .tmp 4], k_lontarlaw09_Letter⟩
theorem ok_lontarlaw09_Letter : FOK Try.prog 16 F_lontarlaw09_Letter := FOK.of [[0, 2, 5, 6], [0, 2, 5, 6, 16, 17, 18], [0, 2, 5, 6, 8, 16, 17, 18, 23, 24, 25]] Try.func16 (by kernel_rfl) (by kernel_rfl)

-- lontar/lontarlaw09.Split
@[reducible] def i_lontarlaw09_Split : Nat := 17
/-- lontarlaw09_Split: the body of loop 0 -/
def b_lontarlaw09_Split_0 : ACode :=
 (.seq (.seq (.ops [⟨(some 8), .mv (.tmp 4), none⟩,
   ⟨(some 9), .int .lss (.tmp 8) (.const (.int .i64 148)), none⟩])
 (.cond (.tmp 9)
  .skip
  (.exit 0)))
 (.seq (.block 1 (.seq (.ops [⟨(some 13), .mv (.tmp 4), none⟩,
   ⟨(some 14), .call (.func 16) [(.tmp 13)], none⟩,
   ⟨(some 12), .mv (.tmp 14), none⟩,
   ⟨(some 15), .ext (.tmp 12) 0, none⟩,
   ⟨(some 16), .ext (.tmp 12) 1, none⟩,
   ⟨(some 17), .ext (.tmp 12) 2, none⟩,
   ⟨(some 5), .alloc [(.int .i64 0), (.complex .f64 0 0)] 42, none⟩,
   ⟨none, .store (.tmp 5) (.tmp 15) 2, none⟩,
   ⟨(some 6), .mv (.tmp 16), none⟩,
   ⟨(some 7), .mv (.tmp 17), none⟩])
 (.seq (.ops [⟨(some 18), .mv (.tmp 6), none⟩,
   ⟨(some 19), .mv (.tmp 0), none⟩,
   ⟨(some 20), .int .eql (.tmp 18) (.tmp 19), none⟩])
 (.cond (.tmp 20)
  (.seq (.ops [⟨(some 21), .load (.tmp 5) (some 2), none⟩,
    ⟨none, .store (.tmp 2) (.tmp 21) 2, none⟩,
    ⟨(some 3), .mv (.const (.bool true)), none⟩])
  .ret)
  .skip))))
 (.ops [⟨(some 10), .mv (.tmp 4), none⟩,
   ⟨(some 11), .int .add (.tmp 10) (.const (.int .i64 1)), none⟩,
   ⟨(some 4), .mv (.tmp 11), none⟩])))

def k_lontarlaw09_Split : ACode :=
 (.seq (.ops [⟨(some 2), .alloc [(.int .i64 0), (.complex .f64 0 0)] 42, none⟩,
   ⟨(some 3), .mv (.const (.bool false)), none⟩])
 (.seq (.seq (.ops [⟨(some 4), .mv (.const (.int .i64 0)), none⟩])
 (.block 0 (.loop [0, 2, 4] b_lontarlaw09_Split_0)))
 (.seq (.ops [⟨(some 22), .build [(.int .i64 0), (.complex .f64 0 0)] [], none⟩,
   ⟨none, .store (.tmp 2) (.tmp 22) 2, none⟩,
   ⟨(some 3), .mv (.const (.bool false)), none⟩])
 .ret)))
def F_lontarlaw09_Split : AFunc := ⟨1, 23, [.cell 2 (some 2), .tmp 3], k_lontarlaw09_Split⟩
theorem ok_lontarlaw09_Split : FOK Try.prog 17 F_lontarlaw09_Split := FOK.of [[0, 2, 4]] Try.func17 (by kernel_rfl) (by kernel_rfl)

-- lontar/tcvn.rows
@[reducible] def i_tcvn_rows : Nat := 18
def k_tcvn_rows : ACode :=
 (.seq (.ops [⟨(some 0), .mv (.const (.slice none 0 0)), none⟩])
 (.seq (.ops [⟨(some 1), .build [(.int .i64 0), (.int .i64 0)] [(0, 1, (.const (.int .i64 161))), (1, 1, (.const (.int .i64 258)))], none⟩,
   ⟨(some 2), .build [(.int .i64 0), (.int .i64 0)] [(0, 1, (.const (.int .i64 162))), (1, 1, (.const (.int .i64 194)))], none⟩,
   ⟨(some 3), .build [(.int .i64 0), (.int .i64 0)] [(0, 1, (.const (.int .i64 163))), (1, 1, (.const (.int .i64 202)))], none⟩,
   ⟨(some 4), .build [(.int .i64 0), (.int .i64 0)] [(0, 1, (.const (.int .i64 164))), (1, 1, (.const (.int .i64 212)))], none⟩,
   ⟨(some 5), .build [(.int .i64 0), (.int .i64 0)] [(0, 1, (.const (.int .i64 165))), (1, 1, (.const (.int .i64 416)))], none⟩,
   ⟨(some 6), .build [(.int .i64 0), (.int .i64 0)] [(0, 1, (.const (.int .i64 166))), (1, 1, (.const (.int .i64 431)))], none⟩,
   ⟨(some 7), .build [(.int .i64 0), (.int .i64 0)] [(0, 1, (.const (.int .i64 167))), (1, 1, (.const (.int .i64 272)))], none⟩,
   ⟨(some 8), .build [(.int .i64 0), (.int .i64 0)] [(0, 1, (.const (.int .i64 168))), (1, 1, (.const (.int .i64 259)))], none⟩,
   ⟨(some 9), .build [(.int .i64 0), (.int .i64 0)] [(0, 1, (.const (.int .i64 169))), (1, 1, (.const (.int .i64 226)))], none⟩,
   ⟨(some 10), .build [(.int .i64 0), (.int .i64 0)] [(0, 1, (.const (.int .i64 170))), (1, 1, (.const (.int .i64 234)))], none⟩,
   ⟨(some 11), .build [(.int .i64 0), (.int .i64 0)] [(0, 1, (.const (.int .i64 171))), (1, 1, (.const (.int .i64 244)))], none⟩,
   ⟨(some 12), .build [(.int .i64 0), (.int .i64 0)] [(0, 1, (.const (.int .i64 172))), (1, 1, (.const (.int .i64 417)))], none⟩,
   ⟨(some 13), .build [(.int .i64 0), (.int .i64 0)] [(0, 1, (.const (.int .i64 173))), (1, 1, (.const (.int .i64 432)))], none⟩,
   ⟨(some 14), .build [(.int .i64 0), (.int .i64 0)] [(0, 1, (.const (.int .i64 174))), (1, 1, (.const (.int .i64 273)))], none⟩,
   ⟨(some 15), .build [(.int .i64 0), (.int .i64 0)] [(0, 1, (.const (.int .i64 181))), (1, 1, (.const (.int .i64 224)))], none⟩,
   ⟨(some 16), .build [(.int .i64 0), (.int .i64 0)] [(0, 1, (.const (.int .i64 182))), (1, 1, (.const (.int .i64 7843)))], none⟩,
   ⟨(some 17), .build [(.int .i64 0), (.int .i64 0)] [(0, 1, (.const (.int .i64 183))), (1, 1, (.const (.int .i64 227)))], none⟩,
   ⟨(some 18), .build [(.int .i64 0), (.int .i64 0)] [(0, 1, (.const (.int .i64 184))), (1, 1, (.const (.int .i64 225)))], none⟩,
   ⟨(some 19), .build [(.int .i64 0), (.int .i64 0)] [(0, 1, (.const (.int .i64 185))), (1, 1, (.const (.int .i64 7841)))], none⟩,
   ⟨(some 20), .build [(.int .i64 0), (.int .i64 0)] [(0, 1, (.const (.int .i64 187))), (1, 1, (.const (.int .i64 7857)))], none⟩,
   ⟨(some 21), .build [(.int .i64 0), (.int .i64 0)] [(0, 1, (.const (.int .i64 188))), (1, 1, (.const (.int .i64 7859)))], none⟩,
   ⟨(some 22), .build [(.int .i64 0), (.int .i64 0)] [(0, 1, (.const (.int .i64 189))), (1, 1, (.const (.int .i64 7861)))], none⟩,
   ⟨(some 23), .build [(.int .i64 0), (.int .i64 0)] [(0, 1, (.const (.int .i64 190))), (1, 1, (.const (.int .i64 7855)))], none⟩,
   ⟨(some 24), .build [(.int .i64 0), (.int .i64 0)] [(0, 1, (.const (.int .i64 198))), (1, 1, (.const (.int .i64 7863)))], none⟩,
   ⟨(some 25), .build [(.int .i64 0), (.int .i64 0)] [(0, 1, (.const (.int .i64 199))), (1, 1, (.const (.int .i64 7847)))], none⟩,
   ⟨(some 26), .build [(.int .i64 0), (.int .i64 0)] [(0, 1, (.const (.int .i64 200))), (1, 1, (.const (.int .i64 7849)))], none⟩,
   ⟨(some 27), .build [(.int .i64 0), (.int .i64 0)] [(0, 1, (.const (.int .i64 201))), (1, 1, (.const (.int .i64 7851)))], none⟩,
   ⟨(some 28), .build [(.int .i64 0), (.int .i64 0)] [(0, 1, (.const (.int .i64 202))), (1, 1, (.const (.int .i64 7845)))], none⟩,
   ⟨(some 29), .build [(.int .i64 0), (.int .i64 0)] [(0, 1, (.const (.int .i64 203))), (1, 1, (.const (.int .i64 7853)))], none⟩,
   ⟨(some 30), .build [(.int .i64 0), (.int .i64 0)] [(0, 1, (.const (.int .i64 204))), (1, 1, (.const (.int .i64 232)))], none⟩,
   ⟨(some 31), .build [(.int .i64 0), (.int .i64 0)] [(0, 1, (.const (.int .i64 206))), (1, 1, (.const (.int .i64 7867)))], none⟩,
   ⟨(some 32), .build [(.int .i64 0), (.int .i64 0)] [(0, 1, (.const (.int .i64 207))), (1, 1, (.const (.int .i64 7869)))], none⟩,
   ⟨(some 33), .build [(.int .i64 0), (.int .i64 0)] [(0, 1, (.const (.int .i64 208))), (1, 1, (.const (.int .i64 233)))], none⟩,
   ⟨(some 34), .build [(.int .i64 0), (.int .i64 0)] [(0, 1, (.const (.int .i64 209))), (1, 1, (.const (.int .i64 7865)))], none⟩,
   ⟨(some 35), .build [(.int .i64 0), (.int .i64 0)] [(0, 1, (.const (.int .i64 210))), (1, 1, (.const (.int .i64 7873)))], none⟩,
   ⟨(some 36), .build [(.int .i64 0), (.int .i64 0)] [(0, 1, (.const (.int .i64 211))), (1, 1, (.const (.int .i64 7875)))], none⟩,
   ⟨(some 37), .build [(.int .i64 0), (.int .i64 0)] [(0, 1, (.const (.int .i64 212))), (1, 1, (.const (.int .i64 7877)))], none⟩,
   ⟨(some 38), .build [(.int .i64 0), (.int .i64 0)] [(0, 1, (.const (.int .i64 213))), (1, 1, (.const (.int .i64 7871)))], none⟩,
   ⟨(some 39), .build [(.int .i64 0), (.int .i64 0)] [(0, 1, (.const (.int .i64 214))), (1, 1, (.const (.int .i64 7879)))], none⟩,
   ⟨(some 40), .build [(.int .i64 0), (.int .i64 0)] [(0, 1, (.const (.int .i64 215))), (1, 1, (.const (.int .i64 236)))], none⟩,
   ⟨(some 41), .build [(.int .i64 0), (.int .i64 0)] [(0, 1, (.const (.int .i64 216))), (1, 1, (.const (.int .i64 7881)))], none⟩,
   ⟨(some 42), .build [(.int .i64 0), (.int .i64 0)] [(0, 1, (.const (.int .i64 220))), (1, 1, (.const (.int .i64 297)))], none⟩,
   ⟨(some 43), .build [(.int .i64 0), (.int .i64 0)] [(0, 1, (.const (.int .i64 221))), (1, 1, (.const (.int .i64 237)))], none⟩,
   ⟨(some 44), .build [(.int .i64 0), (.int .i64 0)] [(0, 1, (.const (.int .i64 222))), (1, 1, (.const (.int .i64 7883)))], none⟩,
   ⟨(some 45), .build [(.int .i64 0), (.int .i64 0)] [(0, 1, (.const (.int .i64 223))), (1, 1, (.const (.int .i64 242)))], none⟩,
   ⟨(some 46), .build [(.int .i64 0), (.int .i64 0)] [(0, 1, (.const (.int .i64 225))), (1, 1, (.const (.int .i64 7887)))], none⟩,
   ⟨(some 47), .build [(.int .i64 0), (.int .i64 0)] [(0, 1, (.const (.int .i64 226))), (1, 1, (.const (.int .i64 245)))], none⟩,
   ⟨(some 48), .build [(.int .i64 0), (.int .i64 0)] [(0, 1, (.const (.int .i64 227))), (1, 1, (.const (.int .i64 243)))], none⟩,
   ⟨(some 49), .build [(.int .i64 0), (.int .i64 0)] [(0, 1, (.const (.int .i64 228))), (1, 1, (.const (.int .i64 7885)))], none⟩,
   ⟨(some 50), .build [(.int .i64 0), (.int .i64 0)] [(0, 1, (.const (.int .i64 229))), (1, 1, (.const (.int .i64 7891)))], none⟩,
   ⟨(some 51), .build [(.int .i64 0), (.int .i64 0)] [(0, 1, (.const (.int .i64 230))), (1, 1, (.const (.int .i64 7893)))], none⟩,
   ⟨(some 52), .build [(.int .i64 0), (.int .i64 0)] [(0, 1, (.const (.int .i64 231))), (1, 1, (.const (.int .i64 7895)))], none⟩,
   ⟨(some 53), .build [(.int .i64 0), (.int .i64 0)] [(0, 1, (.const (.int .i64 232))), (1, 1, (.const (.int .i64 7889)))], none⟩,
   ⟨(some 54), .build [(.int .i64 0), (.int .i64 0)] [(0, 1, (.const (.int .i64 233))), (1, 1, (.const (.int .i64 7897)))], none⟩,
   ⟨(some 55), .build [(.int .i64 0), (.int .i64 0)] [(0, 1, (.const (.int .i64 234))), (1, 1, (.const (.int .i64 7901)))], none⟩,
   ⟨(some 56), .build [(.int .i64 0), (.int .i64 0)] [(0, 1, (.const (.int .i64 235))), (1, 1, (.const (.int .i64 7903)))], none⟩,
   ⟨(some 57), .build [(.int .i64 0), (.int .i64 0)] [(0, 1, (.const (.int .i64 236))), (1, 1, (.const (.int .i64 7905)))], none⟩,
   ⟨(some 58), .build [(.int .i64 0), (.int .i64 0)] [(0, 1, (.const (.int .i64 237))), (1, 1, (.const (.int .i64 7899)))], none⟩,
   ⟨(some 59), .build [(.int .i64 0), (.int .i64 0)] [(0, 1, (.const (.int .i64 238))), (1, 1, (.const (.int .i64 7907)))], none⟩,
   ⟨(some 60), .build [(.int .i64 0), (.int .i64 0)] [(0, 1, (.const (.int .i64 239))), (1, 1, (.const (.int .i64 249)))], none⟩,
   ⟨(some 61), .build [(.int .i64 0), (.int .i64 0)] [(0, 1, (.const (.int .i64 241))), (1, 1, (.const (.int .i64 7911)))], none⟩,
   ⟨(some 62), .build [(.int .i64 0), (.int .i64 0)] [(0, 1, (.const (.int .i64 242))), (1, 1, (.const (.int .i64 361)))], none⟩,
   ⟨(some 63), .build [(.int .i64 0), (.int .i64 0)] [(0, 1, (.const (.int .i64 243))), (1, 1, (.const (.int .i64 250)))], none⟩,
   ⟨(some 64), .build [(.int .i64 0), (.int .i64 0)] [(0, 1, (.const (.int .i64 244))), (1, 1, (.const (.int .i64 7909)))], none⟩,
   ⟨(some 65), .build [(.int .i64 0), (.int .i64 0)] [(0, 1, (.const (.int .i64 245))), (1, 1, (.const (.int .i64 7915)))], none⟩,
   ⟨(some 66), .build [(.int .i64 0), (.int .i64 0)] [(0, 1, (.const (.int .i64 246))), (1, 1, (.const (.int .i64 7917)))], none⟩,
   ⟨(some 67), .build [(.int .i64 0), (.int .i64 0)] [(0, 1, (.const (.int .i64 247))), (1, 1, (.const (.int .i64 7919)))], none⟩,
   ⟨(some 68), .build [(.int .i64 0), (.int .i64 0)] [(0, 1, (.const (.int .i64 248))), (1, 1, (.const (.int .i64 7913)))], none⟩,
   ⟨(some 69), .build [(.int .i64 0), (.int .i64 0)] [(0, 1, (.const (.int .i64 249))), (1, 1, (.const (.int .i64 7921)))], none⟩,
   ⟨(some 70), .build [(.int .i64 0), (.int .i64 0)] [(0, 1, (.const (.int .i64 250))), (1, 1, (.const (.int .i64 7923)))], none⟩,
   ⟨(some 71), .build [(.int .i64 0), (.int .i64 0)] [(0, 1, (.const (.int .i64 251))), (1, 1, (.const (.int .i64 7927)))], none⟩,
   ⟨(some 72), .build [(.int .i64 0), (.int .i64 0)] [(0, 1, (.const (.int .i64 252))), (1, 1, (.const (.int .i64 7929)))], none⟩,
   ⟨(some 73), .build [(.int .i64 0), (.int .i64 0)] [(0, 1, (.const (.int .i64 253))), (1, 1, (.const (.int .i64 253)))], none⟩,
   ⟨(some 74), .build [(.int .i64 0), (.int .i64 0)] [(0, 1, (.const (.int .i64 254))), (1, 1, (.const (.int .i64 7925)))], none⟩,
   ⟨(some 75), .bslice 37 74 2 [(.int .i64 0), (.int .i64 0)] [(0, 2, (.tmp 1)), (2, 2, (.tmp 2)), (4, 2, (.tmp 3)), (6, 2, (.tmp 4)), (8, 2, (.tmp 5)), (10, 2, (.tmp 6)), (12, 2, (.tmp 7)), (14, 2, (.tmp 8)), (16, 2, (.tmp 9)), (18, 2, (.tmp 10)), (20, 2, (.tmp 11)), (22, 2, (.tmp 12)), (24, 2, (.tmp 13)), (26, 2, (.tmp 14)), (28, 2, (.tmp 15)), (30, 2, (.tmp 16)), (32, 2, (.tmp 17)), (34, 2, (.tmp 18)), (36, 2, (.tmp 19)), (38, 2, (.tmp 20)), (40, 2, (.tmp 21)), (42, 2, (.tmp 22)), (44, 2, (.tmp 23)), (46, 2, (.tmp 24)), (48, 2, (.tmp 25)), (50, 2, (.tmp 26)), (52, 2, (.tmp 27)), (54, 2, (.tmp 28)), (56, 2, (.tmp 29)), (58, 2, (.tmp 30)), (60, 2, (.tmp 31)), (62, 2, (.tmp 32)), (64, 2, (.tmp 33)), (66, 2, (.tmp 34)), (68, 2, (.tmp 35)), (70, 2, (.tmp 36)), (72, 2, (.tmp 37)), (74, 2, (.tmp 38)), (76, 2, (.tmp 39)), (78, 2, (.tmp 40)), (80, 2, (.tmp 41)), (82, 2, (.tmp 42)), (84, 2, (.tmp 43)), (86, 2, (.tmp 44)), (88, 2, (.tmp 45)), (90, 2, (.tmp 46)), (92, 2, (.tmp 47)), (94, 2, (.tmp 48)), (96, 2, (.tmp 49)), (98, 2, (.tmp 50)), (100, 2, (.tmp 51)), (102, 2, (.tmp 52)), (104, 2, (.tmp 53)), (106, 2, (.tmp 54)), (108, 2, (.tmp 55)), (110, 2, (.tmp 56)), (112, 2, (.tmp 57)), (114, 2, (.tmp 58)), (116, 2, (.tmp 59)), (118, 2, (.tmp 60)), (120, 2, (.tmp 61)), (122, 2, (.tmp 62)), (124, 2, (.tmp 63)), (126, 2, (.tmp 64)), (128, 2, (.tmp 65)), (130, 2, (.tmp 66)), (132, 2, (.tmp 67)), (134, 2, (.tmp 68)), (136, 2, (.tmp 69)), (138, 2, (.tmp 70)), (140, 2, (.tmp 71)), (142, 2, (.tmp 72)), (144, 2, (.tmp 73)), (146, 2, (.tmp 74))], none⟩,
   ⟨(some 0), .mv (.tmp 75), none⟩])
 .ret))
def F_tcvn_rows : AFunc := ⟨0, 76, [.tmp 0], k_tcvn_rows⟩
theorem ok_tcvn_rows : FOK Try.prog 18 F_tcvn_rows := FOK.of [] Try.func18 (by kernel_rfl) (by kernel_rfl)

-- lontar/rule.Singles
@[reducible] def i_rule_Singles : Nat := 19
/-- rule_Singles: the body of loop 0 -/
def b_rule_Singles_0 : ACode :=
 (.seq (.ops [⟨(some 9), .int .lss (.tmp 8) (.tmp 7), none⟩])
 (.seq (.cond (.tmp 9)
  .skip
  (.exit 0))
 (.seq (.block 1 (.seq (.ops [⟨(some 10), .iaddr (.tmp 6) (.tmp 8) 2, none⟩,
   ⟨(some 11), .load (.tmp 10) (some 2), none⟩,
   ⟨(some 5), .alloc [(.int .i64 0), (.int .i64 0)] 37, none⟩,
   ⟨none, .store (.tmp 5) (.tmp 11) 2, none⟩])
 (.ops [⟨(some 12), .mv (.tmp 3), none⟩,
   ⟨(some 13), .aaddr (.tmp 5) (.const (.int .i64 0)) 2 1, none⟩,
   ⟨(some 14), .load (.tmp 13) none, none⟩,
   ⟨(some 15), .bslice 3 1 1 [(.int .i64 0)] [(0, 1, (.tmp 14))], none⟩,
   ⟨(some 16), .aaddr (.tmp 5) (.const (.int .i64 1)) 2 1, none⟩,
   ⟨(some 17), .load (.tmp 16) none, none⟩,
   ⟨(some 18), .bslice 3 1 1 [(.int .i64 0)] [(0, 1, (.tmp 17))], none⟩,
   ⟨(some 19), .build [(.slice none 0 0), (.slice none 0 0)] [(0, 1, (.tmp 15)), (1, 1, (.tmp 18))], none⟩,
   ⟨(some 20), .bslice 34 1 2 [(.slice none 0 0), (.slice none 0 0)] [(0, 2, (.tmp 19))], none⟩,
   ⟨(some 21), .append (.tmp 12) (.tmp 20) 34 2 48, none⟩,
   ⟨(some 3), .mv (.tmp 21), none⟩])))
 (.ops [⟨(some 22), .int .add (.tmp 8) (.const (.int .i64 1)), none⟩,
   ⟨(some 8), .mv (.tmp 22), none⟩]))))

def k_rule_Singles : ACode :=
 (.seq (.ops [⟨(some 2), .mv (.const (.slice none 0 0)), none⟩])
 (.seq (.ops [⟨(some 3), .mv (.const (.slice none 0 0)), none⟩])
 (.seq (.seq (.ops [⟨(some 6), .mv (.tmp 0), none⟩,
   ⟨(some 7), .len false (.tmp 6), none⟩,
   ⟨(some 8), .mv (.const (.int .i64 0)), none⟩])
 (.block 0 (.loop [3, 6, 7, 8] b_rule_Singles_0)))
 (.seq (.ops [⟨(some 23), .mv (.tmp 3), none⟩,
   ⟨(some 2), .mv (.tmp 23), none⟩])
 .ret))))
def F_rule_Singles : AFunc := ⟨1, 24, [.tmp 2], k_rule_Singles⟩
theorem ok_rule_Singles : FOK Try.prog 19 F_rule_Singles := FOK.of [[3, 6, 7, 8]] Try.func19 (by kernel_rfl) (by kernel_rfl)

-- lontar/lontarlaw01.Units
@[reducible] def i_lontarlaw01_Units : Nat := 20
/-- lontarlaw01_Units: the body of loop 0 -/
def b_lontarlaw01_Units_0 : ACode :=
 (.seq (.ops [⟨(some 14), .int .lss (.tmp 13) (.tmp 12), none⟩])
 (.seq (.cond (.tmp 14)
  .skip
  (.exit 0))
 (.seq (.block 1 (.seq (.ops [⟨(some 15), .mv (.tmp 13), none⟩,
   ⟨(some 5), .mv (.tmp 15), none⟩])
 (.seq (.draw [⟨(some 16), .mv (.tmp 0), none⟩,
   ⟨(some 17), .mv (.tmp 5), none⟩,
   ⟨(some 18), .iaddr (.tmp 16) (.tmp 17) 1, none⟩,
   ⟨(some 19), .load (.tmp 18) none, none⟩,
   ⟨(some 20), .mv (.tmp 1), none⟩,
   ⟨(some 21), .mv (.tmp 5), none⟩,
   ⟨(some 22), .iaddr (.tmp 20) (.tmp 21) 1, none⟩,
   ⟨(some 23), .load (.tmp 22) none, none⟩,
   ⟨(some 24), .int .neq (.tmp 19) (.tmp 23), none⟩])
 (.cond (.tmp 24)
  (.seq (.ops [⟨(some 4), .mv (.const (.bool false)), none⟩])
  .ret)
  .skip))))
 (.ops [⟨(some 25), .int .add (.tmp 13) (.const (.int .i64 1)), none⟩,
   ⟨(some 13), .mv (.tmp 25), none⟩]))))

def k_lontarlaw01_Units : ACode :=
 (.seq (.ops [⟨(some 4), .mv (.const (.bool false)), none⟩])
 (.seq (.seq (.ops [⟨(some 6), .mv (.tmp 0), none⟩,
   ⟨(some 7), .len false (.tmp 6), none⟩,
   ⟨(some 8), .mv (.tmp 1), none⟩,
   ⟨(some 9), .len false (.tmp 8), none⟩,
   ⟨(some 10), .int .neq (.tmp 7) (.tmp 9), none⟩])
 (.cond (.tmp 10)
  (.seq (.ops [⟨(some 4), .mv (.const (.bool false)), none⟩])
  .ret)
  .skip))
 (.seq (.seq (.ops [⟨(some 11), .mv (.tmp 0), none⟩,
   ⟨(some 12), .len false (.tmp 11), none⟩,
   ⟨(some 13), .mv (.const (.int .i64 0)), none⟩])
 (.block 0 (.loop [0, 1, 12, 13] b_lontarlaw01_Units_0)))
 (.seq (.ops [⟨(some 4), .mv (.const (.bool true)), none⟩])
 .ret))))
def F_lontarlaw01_Units : AFunc := ⟨2, 26, [.tmp 4], k_lontarlaw01_Units⟩
theorem ok_lontarlaw01_Units : FOK Try.prog 20 F_lontarlaw01_Units := FOK.of [[0, 1, 12, 13], [0, 1, 2, 3, 4, 5, 6, 7, 8]] Try.func20 (by kernel_rfl) (by kernel_rfl)

-- lontar/lontarlaw09.Rows
@[reducible] def i_lontarlaw09_Rows : Nat := 21
def k_lontarlaw09_Rows : ACode :=
 (.seq (.ops [⟨(some 0), .mv (.const (.slice none 0 0)), none⟩])
 (.seq (.ops [⟨(some 1), .bslice 3 6 1 [(.int .i64 0)] [(0, 1, (.const (.int .i64 97))), (1, 1, (.const (.int .i64 224))), (2, 1, (.const (.int .i64 225))), (3, 1, (.const (.int .i64 7843))), (4, 1, (.const (.int .i64 227))), (5, 1, (.const (.int .i64 7841)))], none⟩,
   ⟨(some 2), .build [(.int .i64 0), (.int .i64 0), (.slice none 0 0)] [(0, 1, (.const (.int .i64 97))), (1, 1, (.const (.int .i64 0))), (2, 1, (.tmp 1))], none⟩,
   ⟨(some 3), .bslice 3 6 1 [(.int .i64 0)] [(0, 1, (.const (.int .i64 259))), (1, 1, (.const (.int .i64 7857))), (2, 1, (.const (.int .i64 7855))), (3, 1, (.const (.int .i64 7859))), (4, 1, (.const (.int .i64 7861))), (5, 1, (.const (.int .i64 7863)))], none⟩,
   ⟨(some 4), .build [(.int .i64 0), (.int .i64 0), (.slice none 0 0)] [(0, 1, (.const (.int .i64 97))), (1, 1, (.const (.int .i64 1))), (2, 1, (.tmp 3))], none⟩,
   ⟨(some 5), .bslice 3 6 1 [(.int .i64 0)] [(0, 1, (.const (.int .i64 226))), (1, 1, (.const (.int .i64 7847))), (2, 1, (.const (.int .i64 7845))), (3, 1, (.const (.int .i64 7849))), (4, 1, (.const (.int .i64 7851))), (5, 1, (.const (.int .i64 7853)))], none⟩,
   ⟨(some 6), .build [(.int .i64 0), (.int .i64 0), (.slice none 0 0)] [(0, 1, (.const (.int .i64 97))), (1, 1, (.const (.int .i64 2))), (2, 1, (.tmp 5))], none⟩,
   ⟨(some 7), .bslice 3 6 1 [(.int .i64 0)] [(0, 1, (.const (.int .i64 101))), (1, 1, (.const (.int .i64 232))), (2, 1, (.const (.int .i64 233))), (3, 1, (.const (.int .i64 7867))), (4, 1, (.const (.int .i64 7869))), (5, 1, (.const (.int .i64 7865)))], none⟩,
   ⟨(some 8), .build [(.int .i64 0), (.int .i64 0), (.slice none 0 0)] [(0, 1, (.const (.int .i64 101))), (1, 1, (.const (.int .i64 0))), (2, 1, (.tmp 7))], none⟩,
   ⟨(some 9), .bslice 3 6 1 [(.int .i64 0)] [(0, 1, (.const (.int .i64 234))), (1, 1, (.const (.int .i64 7873))), (2, 1, (.const (.int .i64 7871))), (3, 1, (.const (.int .i64 7875))), (4, 1, (.const (.int .i64 7877))), (5, 1, (.const (.int .i64 7879)))], none⟩,
   ⟨(some 10), .build [(.int .i64 0), (.int .i64 0), (.slice none 0 0)] [(0, 1, (.const (.int .i64 101))), (1, 1, (.const (.int .i64 2))), (2, 1, (.tmp 9))], none⟩,
   ⟨(some 11), .bslice 3 6 1 [(.int .i64 0)] [(0, 1, (.const (.int .i64 105))), (1, 1, (.const (.int .i64 236))), (2, 1, (.const (.int .i64 237))), (3, 1, (.const (.int .i64 7881))), (4, 1, (.const (.int .i64 297))), (5, 1, (.const (.int .i64 7883)))], none⟩,
   ⟨(some 12), .build [(.int .i64 0), (.int .i64 0), (.slice none 0 0)] [(0, 1, (.const (.int .i64 105))), (1, 1, (.const (.int .i64 0))), (2, 1, (.tmp 11))], none⟩,
   ⟨(some 13), .bslice 3 6 1 [(.int .i64 0)] [(0, 1, (.const (.int .i64 111))), (1, 1, (.const (.int .i64 242))), (2, 1, (.const (.int .i64 243))), (3, 1, (.const (.int .i64 7887))), (4, 1, (.const (.int .i64 245))), (5, 1, (.const (.int .i64 7885)))], none⟩,
   ⟨(some 14), .build [(.int .i64 0), (.int .i64 0), (.slice none 0 0)] [(0, 1, (.const (.int .i64 111))), (1, 1, (.const (.int .i64 0))), (2, 1, (.tmp 13))], none⟩,
   ⟨(some 15), .bslice 3 6 1 [(.int .i64 0)] [(0, 1, (.const (.int .i64 244))), (1, 1, (.const (.int .i64 7891))), (2, 1, (.const (.int .i64 7889))), (3, 1, (.const (.int .i64 7893))), (4, 1, (.const (.int .i64 7895))), (5, 1, (.const (.int .i64 7897)))], none⟩,
   ⟨(some 16), .build [(.int .i64 0), (.int .i64 0), (.slice none 0 0)] [(0, 1, (.const (.int .i64 111))), (1, 1, (.const (.int .i64 2))), (2, 1, (.tmp 15))], none⟩,
   ⟨(some 17), .bslice 3 6 1 [(.int .i64 0)] [(0, 1, (.const (.int .i64 417))), (1, 1, (.const (.int .i64 7901))), (2, 1, (.const (.int .i64 7899))), (3, 1, (.const (.int .i64 7903))), (4, 1, (.const (.int .i64 7905))), (5, 1, (.const (.int .i64 7907)))], none⟩,
   ⟨(some 18), .build [(.int .i64 0), (.int .i64 0), (.slice none 0 0)] [(0, 1, (.const (.int .i64 111))), (1, 1, (.const (.int .i64 3))), (2, 1, (.tmp 17))], none⟩,
   ⟨(some 19), .bslice 3 6 1 [(.int .i64 0)] [(0, 1, (.const (.int .i64 117))), (1, 1, (.const (.int .i64 249))), (2, 1, (.const (.int .i64 250))), (3, 1, (.const (.int .i64 7911))), (4, 1, (.const (.int .i64 361))), (5, 1, (.const (.int .i64 7909)))], none⟩,
   ⟨(some 20), .build [(.int .i64 0), (.int .i64 0), (.slice none 0 0)] [(0, 1, (.const (.int .i64 117))), (1, 1, (.const (.int .i64 0))), (2, 1, (.tmp 19))], none⟩,
   ⟨(some 21), .bslice 3 6 1 [(.int .i64 0)] [(0, 1, (.const (.int .i64 432))), (1, 1, (.const (.int .i64 7915))), (2, 1, (.const (.int .i64 7913))), (3, 1, (.const (.int .i64 7917))), (4, 1, (.const (.int .i64 7919))), (5, 1, (.const (.int .i64 7921)))], none⟩,
   ⟨(some 22), .build [(.int .i64 0), (.int .i64 0), (.slice none 0 0)] [(0, 1, (.const (.int .i64 117))), (1, 1, (.const (.int .i64 3))), (2, 1, (.tmp 21))], none⟩,
   ⟨(some 23), .bslice 3 6 1 [(.int .i64 0)] [(0, 1, (.const (.int .i64 121))), (1, 1, (.const (.int .i64 7923))), (2, 1, (.const (.int .i64 253))), (3, 1, (.const (.int .i64 7927))), (4, 1, (.const (.int .i64 7929))), (5, 1, (.const (.int .i64 7925)))], none⟩,
   ⟨(some 24), .build [(.int .i64 0), (.int .i64 0), (.slice none 0 0)] [(0, 1, (.const (.int .i64 121))), (1, 1, (.const (.int .i64 0))), (2, 1, (.tmp 23))], none⟩,
   ⟨(some 25), .bslice 3 1 1 [(.int .i64 0)] [(0, 1, (.const (.int .i64 100)))], none⟩,
   ⟨(some 26), .build [(.int .i64 0), (.int .i64 0), (.slice none 0 0)] [(0, 1, (.const (.int .i64 100))), (1, 1, (.const (.int .i64 0))), (2, 1, (.tmp 25))], none⟩,
   ⟨(some 27), .bslice 3 1 1 [(.int .i64 0)] [(0, 1, (.const (.int .i64 273)))], none⟩,
   ⟨(some 28), .build [(.int .i64 0), (.int .i64 0), (.slice none 0 0)] [(0, 1, (.const (.int .i64 100))), (1, 1, (.const (.int .i64 4))), (2, 1, (.tmp 27))], none⟩,
   ⟨(some 29), .bslice 54 14 3 [(.int .i64 0), (.int .i64 0), (.slice none 0 0)] [(0, 3, (.tmp 2)), (3, 3, (.tmp 4)), (6, 3, (.tmp 6)), (9, 3, (.tmp 8)), (12, 3, (.tmp 10)), (15, 3, (.tmp 12)), (18, 3, (.tmp 14)), (21, 3, (.tmp 16)), (24, 3, (.tmp 18)), (27, 3, (.tmp 20)), (30, 3, (.tmp 22)), (33, 3, (.tmp 24)), (36, 3, (.tmp 26)), (39, 3, (.tmp 28))], none⟩,
   ⟨(some 0), .mv (.tmp 29), none⟩])
 .ret))
def F_lontarlaw09_Rows : AFunc := ⟨0, 30, [.tmp 0], k_lontarlaw09_Rows⟩
theorem ok_lontarlaw09_Rows : FOK Try.prog 21 F_lontarlaw09_Rows := FOK.of [] Try.func21 (by kernel_rfl) (by kernel_rfl)

-- lontar/lontarlaw09.upper
@[reducible] def i_lontarlaw09_upper : Nat := 22
def k_lontarlaw09_upper : ACode :=
 (.seq (.ops [⟨(some 2), .mv (.const (.int .i64 0)), none⟩])
 (.seq (.seq (.ops [⟨(some 3), .mv (.tmp 0), none⟩,
   ⟨(some 4), .int .lss (.tmp 3) (.const (.int .i64 256)), none⟩])
 (.cond (.tmp 4)
  (.seq (.ops [⟨(some 5), .mv (.tmp 0), none⟩,
    ⟨(some 6), .int .sub (.tmp 5) (.const (.int .i64 32)), none⟩,
    ⟨(some 2), .mv (.tmp 6), none⟩])
  .ret)
  .skip))
 (.seq (.ops [⟨(some 7), .mv (.tmp 0), none⟩,
   ⟨(some 8), .int .sub (.tmp 7) (.const (.int .i64 1)), none⟩,
   ⟨(some 2), .mv (.tmp 8), none⟩])
 .ret)))
def F_lontarlaw09_upper : AFunc := ⟨1, 9, [.tmp 2], k_lontarlaw09_upper⟩
theorem ok_lontarlaw09_upper : FOK Try.prog 22 F_lontarlaw09_upper := FOK.of [] Try.func22 (by kernel_rfl) (by kernel_rfl)

end Go.Proofs.Ytjigddebmbhbjaa
