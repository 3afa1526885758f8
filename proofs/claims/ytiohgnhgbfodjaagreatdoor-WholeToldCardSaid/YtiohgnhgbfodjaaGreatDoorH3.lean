/- The live question: part 4. -/
import Derived.Test.YtiohgnhgbfodjaaGreatDoorHD
import Derived.KernelRfl
set_option linter.unusedVariables false
set_option linter.unusedSimpArgs false
set_option linter.deprecated false
/- The live question, part 3: its calls, by the abstract machine. -/
namespace Am
open Go
set_option maxRecDepth 100000
theorem ckT13 : ckOk (envB.also (ckHook [ck0, ck1, ck2, ck3, ck4, ck5, ck6, ck7, ck8, ck9, ck10, ck11, ck12])) 3000 ck13 = true := by kernel_rfl
theorem ckT14 : ckOk (envB.also (ckHook [ck0, ck1, ck2, ck3, ck4, ck5, ck6, ck7, ck8, ck9, ck10, ck11, ck12, ck13])) 3000 ck14 = true := by kernel_rfl
theorem ckT15 : ckOk (envB.also (ckHook [ck0, ck1, ck2, ck3, ck4, ck5, ck6, ck7, ck8, ck9, ck10, ck11, ck12, ck13, ck14])) 3000 ck15 = true := by kernel_rfl
theorem ckT16 : ckOk (envB.also (ckHook [ck0, ck1, ck2, ck3, ck4, ck5, ck6, ck7, ck8, ck9, ck10, ck11, ck12, ck13, ck14, ck15])) 3000 ck16 = true := by kernel_rfl
theorem ckT17 : ckOk (envB.also (ckHook [ck0, ck1, ck2, ck3, ck4, ck5, ck6, ck7, ck8, ck9, ck10, ck11, ck12, ck13, ck14, ck15, ck16])) 3000 ck17 = true := by kernel_rfl
end Am
