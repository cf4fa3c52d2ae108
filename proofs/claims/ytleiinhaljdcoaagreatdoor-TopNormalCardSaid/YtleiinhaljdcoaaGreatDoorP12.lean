/- What is proved here: what the program's functions come to, as far as the claimed statement asks. Conditions: those that each theorem names, and no others. -/
import Derived.Test.YtleiinhaljdcoaaGreatDoorP11
set_option linter.unusedSimpArgs false
set_option linter.unusedVariables false
namespace Go.Proofs.YtleiinhaljdcoaaGreatDoor
open Go Lon
set_option maxRecDepth 100000
theorem k_rul1:chkR (runR (nm 1)) ascR=true:=by kernel_rfl
theorem k_rul3:chkR (runR (nm 3)) Rtcvn=true:=by kernel_rfl
theorem k_rul5:chkR (runR (nm 5)) Rtis=true:=by kernel_rfl
theorem k_rul6:chkR (runR (nm 6)) Rtam=true:=by kernel_rfl
theorem k_rul7:chkR (runI) Rind=true:=by kernel_rfl
end Go.Proofs.YtleiinhaljdcoaaGreatDoor
