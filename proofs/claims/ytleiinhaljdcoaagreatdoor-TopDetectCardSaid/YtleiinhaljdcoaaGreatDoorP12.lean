/- What is proved here: what the program's functions come to, as far as the claimed statement asks. Conditions: those that each theorem names, and no others. -/
import Derived.Test.YtleiinhaljdcoaaGreatDoorP11
set_option linter.unusedSimpArgs false
set_option linter.unusedVariables false
namespace Go.Proofs.YtleiinhaljdcoaaGreatDoor
open Go Lon
set_option maxRecDepth 100000
theorem j2w:chkR (runR (nm 1)) ascR=true:=by kernel_rfl
theorem j2x:chkR (runR (nm 3)) k7H=true:=by kernel_rfl
theorem j2y:chkR (runR (nm 5)) Rtis=true:=by kernel_rfl
theorem j2z:chkR (runR (nm 6)) Rtam=true:=by kernel_rfl
theorem j2A:chkR (runI) Rind=true:=by kernel_rfl
end Go.Proofs.YtleiinhaljdcoaaGreatDoor
