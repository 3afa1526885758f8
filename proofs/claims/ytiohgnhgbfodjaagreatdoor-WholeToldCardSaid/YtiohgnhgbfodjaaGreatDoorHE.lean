/- The live question is true. -/
import Derived.Test.YtiohgnhgbfodjaaGreatDoorH0
import Derived.Test.YtiohgnhgbfodjaaGreatDoorH1
import Derived.Test.YtiohgnhgbfodjaaGreatDoorH2
import Derived.Test.YtiohgnhgbfodjaaGreatDoorH3
import Derived.KernelRfl
set_option linter.unusedVariables false
set_option linter.unusedSimpArgs false
set_option linter.deprecated false
/- The live question is true, whatever the state. -/
namespace Am
open Go Go.Proofs
set_option maxRecDepth 100000
variable {H : Hc}
theorem ckG0 (hH : ∃ m, H 1 0 = some (.int .i64 m)) : EnvOk Tryz.prog H (envB.also (ckHook [])) ∧ CkGood Tryz.prog H ck0 := by
  have hE : EnvOk Tryz.prog H (envB.also (ckHook [])) := EnvOk.also (envB_ok hH) (ckHook_sound _ (by simp))
  exact ⟨hE, ckOk_good mixedT hE ckT0⟩
theorem ckG1 (hH : ∃ m, H 1 0 = some (.int .i64 m)) : EnvOk Tryz.prog H (envB.also (ckHook [ck0])) ∧ CkGood Tryz.prog H ck1 := by
  have hE : EnvOk Tryz.prog H (envB.also (ckHook [ck0])) := EnvOk.also (envB_ok hH) (ckHook_sound _ (by
    simp only [List.forall_mem_cons, List.not_mem_nil, false_implies, implies_true, and_true]
    exact (ckG0 hH).2))
  exact ⟨hE, ckOk_good mixedT hE ckT1⟩
theorem ckG2 (hH : ∃ m, H 1 0 = some (.int .i64 m)) : EnvOk Tryz.prog H (envB.also (ckHook [ck0, ck1])) ∧ CkGood Tryz.prog H ck2 := by
  have hE : EnvOk Tryz.prog H (envB.also (ckHook [ck0, ck1])) := EnvOk.also (envB_ok hH) (ckHook_sound _ (by
    simp only [List.forall_mem_cons, List.not_mem_nil, false_implies, implies_true, and_true]
    exact ⟨(ckG0 hH).2, (ckG1 hH).2⟩))
  exact ⟨hE, ckOk_good mixedT hE ckT2⟩
theorem ckG3 (hH : ∃ m, H 1 0 = some (.int .i64 m)) : EnvOk Tryz.prog H (envB.also (ckHook [ck0, ck1, ck2])) ∧ CkGood Tryz.prog H ck3 := by
  have hE : EnvOk Tryz.prog H (envB.also (ckHook [ck0, ck1, ck2])) := EnvOk.also (envB_ok hH) (ckHook_sound _ (by
    simp only [List.forall_mem_cons, List.not_mem_nil, false_implies, implies_true, and_true]
    exact ⟨(ckG0 hH).2, (ckG1 hH).2, (ckG2 hH).2⟩))
  exact ⟨hE, ckOk_good mixedT hE ckT3⟩
theorem ckG4 (hH : ∃ m, H 1 0 = some (.int .i64 m)) : EnvOk Tryz.prog H (envB.also (ckHook [ck0, ck1, ck2, ck3])) ∧ CkGood Tryz.prog H ck4 := by
  have hE : EnvOk Tryz.prog H (envB.also (ckHook [ck0, ck1, ck2, ck3])) := EnvOk.also (envB_ok hH) (ckHook_sound _ (by
    simp only [List.forall_mem_cons, List.not_mem_nil, false_implies, implies_true, and_true]
    exact ⟨(ckG0 hH).2, (ckG1 hH).2, (ckG2 hH).2, (ckG3 hH).2⟩))
  exact ⟨hE, ckOk_good mixedT hE ckT4⟩
theorem ckG5 (hH : ∃ m, H 1 0 = some (.int .i64 m)) : EnvOk Tryz.prog H (envB.also (ckHook [ck0, ck1, ck2, ck3, ck4])) ∧ CkGood Tryz.prog H ck5 := by
  have hE : EnvOk Tryz.prog H (envB.also (ckHook [ck0, ck1, ck2, ck3, ck4])) := EnvOk.also (envB_ok hH) (ckHook_sound _ (by
    simp only [List.forall_mem_cons, List.not_mem_nil, false_implies, implies_true, and_true]
    exact ⟨(ckG0 hH).2, (ckG1 hH).2, (ckG2 hH).2, (ckG3 hH).2, (ckG4 hH).2⟩))
  exact ⟨hE, ckOk_good mixedT hE ckT5⟩
theorem ckG6 (hH : ∃ m, H 1 0 = some (.int .i64 m)) : EnvOk Tryz.prog H (envB.also (ckHook [ck0, ck1, ck2, ck3, ck4, ck5])) ∧ CkGood Tryz.prog H ck6 := by
  have hE : EnvOk Tryz.prog H (envB.also (ckHook [ck0, ck1, ck2, ck3, ck4, ck5])) := EnvOk.also (envB_ok hH) (ckHook_sound _ (by
    simp only [List.forall_mem_cons, List.not_mem_nil, false_implies, implies_true, and_true]
    exact ⟨(ckG0 hH).2, (ckG1 hH).2, (ckG2 hH).2, (ckG3 hH).2, (ckG4 hH).2, (ckG5 hH).2⟩))
  exact ⟨hE, ckOk_good mixedT hE ckT6⟩
theorem ckG7 (hH : ∃ m, H 1 0 = some (.int .i64 m)) : EnvOk Tryz.prog H (envB.also (ckHook [ck0, ck1, ck2, ck3, ck4, ck5, ck6])) ∧ CkGood Tryz.prog H ck7 := by
  have hE : EnvOk Tryz.prog H (envB.also (ckHook [ck0, ck1, ck2, ck3, ck4, ck5, ck6])) := EnvOk.also (envB_ok hH) (ckHook_sound _ (by
    simp only [List.forall_mem_cons, List.not_mem_nil, false_implies, implies_true, and_true]
    exact ⟨(ckG0 hH).2, (ckG1 hH).2, (ckG2 hH).2, (ckG3 hH).2, (ckG4 hH).2, (ckG5 hH).2, (ckG6 hH).2⟩))
  exact ⟨hE, ckOk_good mixedT hE ckT7⟩
theorem ckG8 (hH : ∃ m, H 1 0 = some (.int .i64 m)) : EnvOk Tryz.prog H (envB.also (ckHook [ck0, ck1, ck2, ck3, ck4, ck5, ck6, ck7])) ∧ CkGood Tryz.prog H ck8 := by
  have hE : EnvOk Tryz.prog H (envB.also (ckHook [ck0, ck1, ck2, ck3, ck4, ck5, ck6, ck7])) := EnvOk.also (envB_ok hH) (ckHook_sound _ (by
    simp only [List.forall_mem_cons, List.not_mem_nil, false_implies, implies_true, and_true]
    exact ⟨(ckG0 hH).2, (ckG1 hH).2, (ckG2 hH).2, (ckG3 hH).2, (ckG4 hH).2, (ckG5 hH).2, (ckG6 hH).2, (ckG7 hH).2⟩))
  exact ⟨hE, ckOk_good mixedT hE ckT8⟩
theorem ckG9 (hH : ∃ m, H 1 0 = some (.int .i64 m)) : EnvOk Tryz.prog H (envB.also (ckHook [ck0, ck1, ck2, ck3, ck4, ck5, ck6, ck7, ck8])) ∧ CkGood Tryz.prog H ck9 := by
  have hE : EnvOk Tryz.prog H (envB.also (ckHook [ck0, ck1, ck2, ck3, ck4, ck5, ck6, ck7, ck8])) := EnvOk.also (envB_ok hH) (ckHook_sound _ (by
    simp only [List.forall_mem_cons, List.not_mem_nil, false_implies, implies_true, and_true]
    exact ⟨(ckG0 hH).2, (ckG1 hH).2, (ckG2 hH).2, (ckG3 hH).2, (ckG4 hH).2, (ckG5 hH).2, (ckG6 hH).2, (ckG7 hH).2, (ckG8 hH).2⟩))
  exact ⟨hE, ckOk_good mixedT hE ckT9⟩
theorem ckG10 (hH : ∃ m, H 1 0 = some (.int .i64 m)) : EnvOk Tryz.prog H (envB.also (ckHook [ck0, ck1, ck2, ck3, ck4, ck5, ck6, ck7, ck8, ck9])) ∧ CkGood Tryz.prog H ck10 := by
  have hE : EnvOk Tryz.prog H (envB.also (ckHook [ck0, ck1, ck2, ck3, ck4, ck5, ck6, ck7, ck8, ck9])) := EnvOk.also (envB_ok hH) (ckHook_sound _ (by
    simp only [List.forall_mem_cons, List.not_mem_nil, false_implies, implies_true, and_true]
    exact ⟨(ckG0 hH).2, (ckG1 hH).2, (ckG2 hH).2, (ckG3 hH).2, (ckG4 hH).2, (ckG5 hH).2, (ckG6 hH).2, (ckG7 hH).2, (ckG8 hH).2, (ckG9 hH).2⟩))
  exact ⟨hE, ckOk_good mixedT hE ckT10⟩
theorem ckG11 (hH : ∃ m, H 1 0 = some (.int .i64 m)) : EnvOk Tryz.prog H (envB.also (ckHook [ck0, ck1, ck2, ck3, ck4, ck5, ck6, ck7, ck8, ck9, ck10])) ∧ CkGood Tryz.prog H ck11 := by
  have hE : EnvOk Tryz.prog H (envB.also (ckHook [ck0, ck1, ck2, ck3, ck4, ck5, ck6, ck7, ck8, ck9, ck10])) := EnvOk.also (envB_ok hH) (ckHook_sound _ (by
    simp only [List.forall_mem_cons, List.not_mem_nil, false_implies, implies_true, and_true]
    exact ⟨(ckG0 hH).2, (ckG1 hH).2, (ckG2 hH).2, (ckG3 hH).2, (ckG4 hH).2, (ckG5 hH).2, (ckG6 hH).2, (ckG7 hH).2, (ckG8 hH).2, (ckG9 hH).2, (ckG10 hH).2⟩))
  exact ⟨hE, ckOk_good mixedT hE ckT11⟩
theorem ckG12 (hH : ∃ m, H 1 0 = some (.int .i64 m)) : EnvOk Tryz.prog H (envB.also (ckHook [ck0, ck1, ck2, ck3, ck4, ck5, ck6, ck7, ck8, ck9, ck10, ck11])) ∧ CkGood Tryz.prog H ck12 := by
  have hE : EnvOk Tryz.prog H (envB.also (ckHook [ck0, ck1, ck2, ck3, ck4, ck5, ck6, ck7, ck8, ck9, ck10, ck11])) := EnvOk.also (envB_ok hH) (ckHook_sound _ (by
    simp only [List.forall_mem_cons, List.not_mem_nil, false_implies, implies_true, and_true]
    exact ⟨(ckG0 hH).2, (ckG1 hH).2, (ckG2 hH).2, (ckG3 hH).2, (ckG4 hH).2, (ckG5 hH).2, (ckG6 hH).2, (ckG7 hH).2, (ckG8 hH).2, (ckG9 hH).2, (ckG10 hH).2, (ckG11 hH).2⟩))
  exact ⟨hE, ckOk_good mixedT hE ckT12⟩
theorem ckG13 (hH : ∃ m, H 1 0 = some (.int .i64 m)) : EnvOk Tryz.prog H (envB.also (ckHook [ck0, ck1, ck2, ck3, ck4, ck5, ck6, ck7, ck8, ck9, ck10, ck11, ck12])) ∧ CkGood Tryz.prog H ck13 := by
  have hE : EnvOk Tryz.prog H (envB.also (ckHook [ck0, ck1, ck2, ck3, ck4, ck5, ck6, ck7, ck8, ck9, ck10, ck11, ck12])) := EnvOk.also (envB_ok hH) (ckHook_sound _ (by
    simp only [List.forall_mem_cons, List.not_mem_nil, false_implies, implies_true, and_true]
    exact ⟨(ckG0 hH).2, (ckG1 hH).2, (ckG2 hH).2, (ckG3 hH).2, (ckG4 hH).2, (ckG5 hH).2, (ckG6 hH).2, (ckG7 hH).2, (ckG8 hH).2, (ckG9 hH).2, (ckG10 hH).2, (ckG11 hH).2, (ckG12 hH).2⟩))
  exact ⟨hE, ckOk_good mixedT hE ckT13⟩
theorem ckG14 (hH : ∃ m, H 1 0 = some (.int .i64 m)) : EnvOk Tryz.prog H (envB.also (ckHook [ck0, ck1, ck2, ck3, ck4, ck5, ck6, ck7, ck8, ck9, ck10, ck11, ck12, ck13])) ∧ CkGood Tryz.prog H ck14 := by
  have hE : EnvOk Tryz.prog H (envB.also (ckHook [ck0, ck1, ck2, ck3, ck4, ck5, ck6, ck7, ck8, ck9, ck10, ck11, ck12, ck13])) := EnvOk.also (envB_ok hH) (ckHook_sound _ (by
    simp only [List.forall_mem_cons, List.not_mem_nil, false_implies, implies_true, and_true]
    exact ⟨(ckG0 hH).2, (ckG1 hH).2, (ckG2 hH).2, (ckG3 hH).2, (ckG4 hH).2, (ckG5 hH).2, (ckG6 hH).2, (ckG7 hH).2, (ckG8 hH).2, (ckG9 hH).2, (ckG10 hH).2, (ckG11 hH).2, (ckG12 hH).2, (ckG13 hH).2⟩))
  exact ⟨hE, ckOk_good mixedT hE ckT14⟩
theorem ckG15 (hH : ∃ m, H 1 0 = some (.int .i64 m)) : EnvOk Tryz.prog H (envB.also (ckHook [ck0, ck1, ck2, ck3, ck4, ck5, ck6, ck7, ck8, ck9, ck10, ck11, ck12, ck13, ck14])) ∧ CkGood Tryz.prog H ck15 := by
  have hE : EnvOk Tryz.prog H (envB.also (ckHook [ck0, ck1, ck2, ck3, ck4, ck5, ck6, ck7, ck8, ck9, ck10, ck11, ck12, ck13, ck14])) := EnvOk.also (envB_ok hH) (ckHook_sound _ (by
    simp only [List.forall_mem_cons, List.not_mem_nil, false_implies, implies_true, and_true]
    exact ⟨(ckG0 hH).2, (ckG1 hH).2, (ckG2 hH).2, (ckG3 hH).2, (ckG4 hH).2, (ckG5 hH).2, (ckG6 hH).2, (ckG7 hH).2, (ckG8 hH).2, (ckG9 hH).2, (ckG10 hH).2, (ckG11 hH).2, (ckG12 hH).2, (ckG13 hH).2, (ckG14 hH).2⟩))
  exact ⟨hE, ckOk_good mixedT hE ckT15⟩
theorem ckG16 (hH : ∃ m, H 1 0 = some (.int .i64 m)) : EnvOk Tryz.prog H (envB.also (ckHook [ck0, ck1, ck2, ck3, ck4, ck5, ck6, ck7, ck8, ck9, ck10, ck11, ck12, ck13, ck14, ck15])) ∧ CkGood Tryz.prog H ck16 := by
  have hE : EnvOk Tryz.prog H (envB.also (ckHook [ck0, ck1, ck2, ck3, ck4, ck5, ck6, ck7, ck8, ck9, ck10, ck11, ck12, ck13, ck14, ck15])) := EnvOk.also (envB_ok hH) (ckHook_sound _ (by
    simp only [List.forall_mem_cons, List.not_mem_nil, false_implies, implies_true, and_true]
    exact ⟨(ckG0 hH).2, (ckG1 hH).2, (ckG2 hH).2, (ckG3 hH).2, (ckG4 hH).2, (ckG5 hH).2, (ckG6 hH).2, (ckG7 hH).2, (ckG8 hH).2, (ckG9 hH).2, (ckG10 hH).2, (ckG11 hH).2, (ckG12 hH).2, (ckG13 hH).2, (ckG14 hH).2, (ckG15 hH).2⟩))
  exact ⟨hE, ckOk_good mixedT hE ckT16⟩
theorem ckG17 (hH : ∃ m, H 1 0 = some (.int .i64 m)) : EnvOk Tryz.prog H (envB.also (ckHook [ck0, ck1, ck2, ck3, ck4, ck5, ck6, ck7, ck8, ck9, ck10, ck11, ck12, ck13, ck14, ck15, ck16])) ∧ CkGood Tryz.prog H ck17 := by
  have hE : EnvOk Tryz.prog H (envB.also (ckHook [ck0, ck1, ck2, ck3, ck4, ck5, ck6, ck7, ck8, ck9, ck10, ck11, ck12, ck13, ck14, ck15, ck16])) := EnvOk.also (envB_ok hH) (ckHook_sound _ (by
    simp only [List.forall_mem_cons, List.not_mem_nil, false_implies, implies_true, and_true]
    exact ⟨(ckG0 hH).2, (ckG1 hH).2, (ckG2 hH).2, (ckG3 hH).2, (ckG4 hH).2, (ckG5 hH).2, (ckG6 hH).2, (ckG7 hH).2, (ckG8 hH).2, (ckG9 hH).2, (ckG10 hH).2, (ckG11 hH).2, (ckG12 hH).2, (ckG13 hH).2, (ckG14 hH).2, (ckG15 hH).2, (ckG16 hH).2⟩))
  exact ⟨hE, ckOk_good mixedT hE ckT17⟩
def okT : Option (PV × St) → Bool
  | some (.bool b, _) => b
  | _ => false
theorem head_run : okT (hcall (envB.also (ckHook [ck0, ck1, ck2, ck3, ck4, ck5, ck6, ck7, ck8, ck9, ck10, ck11, ck12, ck13, ck14, ck15, ck16, ck17])) 3000 6 [] St.none_) = true := by kernel_rfl
theorem okT_spec {r : Option (PV × St)} (h : okT r = true) : ∃ σ', r = some (.bool true, σ') := by
  unfold okT at h
  split at h
  · subst h; exact ⟨_, rfl⟩
  · simp at h
theorem head_ok (hH : ∃ m, H 1 0 = some (.int .i64 m)) (σ : St) : CallOk Tryz.prog H 6 [] σ (.bool true) σ := by
  have hE : EnvOk Tryz.prog H (envB.also (ckHook [ck0, ck1, ck2, ck3, ck4, ck5, ck6, ck7, ck8, ck9, ck10, ck11, ck12, ck13, ck14, ck15, ck16, ck17])) := EnvOk.also (envB_ok hH) (ckHook_sound _ (by
    simp only [List.forall_mem_cons, List.not_mem_nil, false_implies, implies_true, and_true]
    exact ⟨(ckG0 hH).2, (ckG1 hH).2, (ckG2 hH).2, (ckG3 hH).2, (ckG4 hH).2, (ckG5 hH).2, (ckG6 hH).2, (ckG7 hH).2, (ckG8 hH).2, (ckG9 hH).2, (ckG10 hH).2, (ckG11 hH).2, (ckG12 hH).2, (ckG13 hH).2, (ckG14 hH).2, (ckG15 hH).2, (ckG16 hH).2, (ckG17 hH).2⟩))
  obtain ⟨σ', h⟩ := okT_spec head_run
  exact pk_call (hcall_ok mixedT hE h) rfl rfl σ
end Am
