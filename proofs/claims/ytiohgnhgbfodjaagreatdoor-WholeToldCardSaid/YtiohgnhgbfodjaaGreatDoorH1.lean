/- The live question: part 2. -/
import Derived.Test.YtiohgnhgbfodjaaGreatDoorHD
import Derived.KernelRfl
set_option linter.unusedVariables false
set_option linter.unusedSimpArgs false
set_option linter.deprecated false
/- The live question, part 1: its calls, by the abstract machine. -/
namespace Am
open Go
set_option maxRecDepth 100000
theorem ckT4 : ckOk (envB.also (ckHook [ck0, ck1, ck2, ck3])) 3000 ck4 = true := by kernel_rfl
theorem ckT5 : ckOk (envB.also (ckHook [ck0, ck1, ck2, ck3, ck4])) 3000 ck5 = true := by kernel_rfl
theorem ckT6 : ckOk (envB.also (ckHook [ck0, ck1, ck2, ck3, ck4, ck5])) 3000 ck6 = true := by kernel_rfl
theorem ckT7 : ckOk (envB.also (ckHook [ck0, ck1, ck2, ck3, ck4, ck5, ck6])) 3000 ck7 = true := by kernel_rfl
theorem ckT8 : ckOk (envB.also (ckHook [ck0, ck1, ck2, ck3, ck4, ck5, ck6, ck7])) 3000 ck8 = true := by kernel_rfl
end Am
