/- The live question: part 3. -/
import Derived.Test.YtiohgnhgbfodjaaGreatDoorHD
import Derived.KernelRfl
set_option linter.unusedVariables false
set_option linter.unusedSimpArgs false
set_option linter.deprecated false
/- The live question, part 2: its calls, by the abstract machine. -/
namespace Am
open Go
set_option maxRecDepth 100000
theorem ckT9 : ckOk (envB.also (ckHook [ck0, ck1, ck2, ck3, ck4, ck5, ck6, ck7, ck8])) 3000 ck9 = true := by kernel_rfl
theorem ckT10 : ckOk (envB.also (ckHook [ck0, ck1, ck2, ck3, ck4, ck5, ck6, ck7, ck8, ck9])) 3000 ck10 = true := by kernel_rfl
theorem ckT11 : ckOk (envB.also (ckHook [ck0, ck1, ck2, ck3, ck4, ck5, ck6, ck7, ck8, ck9, ck10])) 3000 ck11 = true := by kernel_rfl
theorem ckT12 : ckOk (envB.also (ckHook [ck0, ck1, ck2, ck3, ck4, ck5, ck6, ck7, ck8, ck9, ck10, ck11])) 3000 ck12 = true := by kernel_rfl
end Am
