/- The live question: part 1. -/
import Derived.Test.YtiohgnhgbfodjaaGreatDoorHD
import Derived.KernelRfl
set_option linter.unusedVariables false
set_option linter.unusedSimpArgs false
set_option linter.deprecated false
/- The live question, part 0: its calls, by the abstract machine. -/
namespace Am
open Go
set_option maxRecDepth 100000
theorem ckT0 : ckOk (envB.also (ckHook [])) 3000 ck0 = true := by kernel_rfl
theorem ckT1 : ckOk (envB.also (ckHook [ck0])) 3000 ck1 = true := by kernel_rfl
theorem ckT2 : ckOk (envB.also (ckHook [ck0, ck1])) 3000 ck2 = true := by kernel_rfl
theorem ckT3 : ckOk (envB.also (ckHook [ck0, ck1, ck2])) 3000 ck3 = true := by kernel_rfl
end Am
