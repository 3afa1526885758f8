/- event.Less: one event is ahead of another. -/
import Derived.Test.YtiohgnhgbfodjaaGreatDoorAmC
import Derived.Test.YtiohgnhgbfodjaaGreatDoorIr
set_option linter.unusedVariables false
set_option linter.unusedSimpArgs false
set_option linter.deprecated false
namespace Am
open Go AmIr
variable {E : Env}
/-! ### A whole number made a float is no NaN -/
theorem order_self (n : Int) : (FloatKind.f64.format.order (FloatKind.f64.nearest n) (FloatKind.f64.nearest n)) = some .eq := by
  have key : ∀ (neg : Bool) (r : Nat), r ≤ Ieee.double.infRung → (Ieee.double.read (Ieee.double.word neg r)).order (Ieee.double.read (Ieee.double.word neg r)) = some .eq := by
    intro neg r hr
    have hi : Ieee.double.infRung < Ieee.double.signWeight := by decide
    have hm : Ieee.double.word neg r % Ieee.double.signWeight = r := by
      unfold Ieee.Format.word; split
      · rw [Nat.add_mod_left]; exact Nat.mod_eq_of_lt (by omega)
      · exact Nat.mod_eq_of_lt (by omega)
    unfold Ieee.Format.read
    simp only [hm]
    split
    · simp [Ieee.Datum.order]
    · split
      · simp [Ieee.Datum.order]
      · split
        · simp [Ieee.Datum.order]
        · omega
  unfold Ieee.Format.order FloatKind.nearest FloatKind.encode Ieee.Format.write FloatKind.format
  simp only
  unfold Ieee.Format.nearest
  split
  · exact key _ _ (by decide)
  · exact key _ _ (Nat.min_le_right _ _)
set_option maxRecDepth 100000
theorem when_ok (h1 : E.hook 249 = fun _ _ => none) (h2 : E.fn 249 = some af249) (σ : St) (a b : Int) (c d e : PV) :
    CallA E 249 [.agg [.int .i64 a, .int .i64 b, c, d, e]] σ (.raw (.c .f64 (FloatKind.f64.nearest a) (FloatKind.f64.nearest b))) (σ.new (.cells [.int .i64 a, .int .i64 b, c, d, e] false)) := by
  refine call_fn (by rw [h1]) h2 ?_
  refine wp_seq (wp_region ?_)
  refine ops_v rfl rfl ?_
  refine ops_v rfl rfl ?_
  refine ops_nil rfl ?_
  refine wp_seq (wp_region ?_)
  refine ops_v rfl rfl ?_
  refine ops_v (ev_load1 rfl (rd_ptr get_new_self rfl)) rfl ?_
  refine ops_v rfl rfl ?_
  refine ops_v rfl rfl ?_
  refine ops_v (ev_load1 rfl (rd_ptr get_new_self rfl)) rfl ?_
  refine ops_v rfl rfl ?_
  refine ops_v rfl rfl ?_
  refine ops_v rfl rfl ?_
  refine ops_nil rfl ?_
  refine wp_ret ?_
  exact ⟨.inr rfl, rfl, _, rfl, rfl⟩
def lessB (a b c a' b' c' : Int) : Bool := if a = a' then (if b = b' then decide (c < c') else decide (b < b')) else decide (a < a')
theorem ltI_eq' (a b : Int) : ltI a b = decide (a < b) := ltI_eq a b
theorem less_ok (h1 : E.hook 249 = fun _ _ => none) (h2 : E.fn 249 = some af249) (h3 : E.hook 179 = fun _ _ => none) (h4 : E.fn 179 = some af179) (σ : St) (a b c a' b' c' : Int) (d e d' e' : PV) :
    CallA E 179 [.agg [.int .i64 a, .int .i64 b, .int .i64 c, d, e], .agg [.int .i64 a', .int .i64 b', .int .i64 c', d', e']] σ (.bool (lessB a b c a' b' c'))
      ((((σ.new (.cells [.int .i64 a, .int .i64 b, .int .i64 c, d, e] false)).new (.cells [.int .i64 a', .int .i64 b', .int .i64 c', d', e'] false)).new (.cells [.int .i64 a, .int .i64 b, .int .i64 c, d, e] false)).new (.cells [.int .i64 a', .int .i64 b', .int .i64 c', d', e'] false)) := by
  have w1 := fun τ => when_ok h1 h2 τ a b (.int .i64 c) d e
  have w2 := fun τ => when_ok h1 h2 τ a' b' (.int .i64 c') d' e'
  obtain ⟨q, hq⟩ : ∃ q, q = (false ^^ ((FloatKind.f64.format.order (FloatKind.f64.nearest a) (FloatKind.f64.nearest a') == some .eq) && (FloatKind.f64.format.order (FloatKind.f64.nearest b) (FloatKind.f64.nearest b') == some .eq))) := ⟨_, rfl⟩
  have hq1 : a = a' → b = b' → q = true := by rintro rfl rfl; rw [hq, order_self, order_self]; rfl
  refine call_fn (by rw [h3]) h4 ?_
  refine wp_seq (wp_region ?_)
  refine ops_v (ev_boxA rfl) rfl ?_
  refine ops_v (ev_boxA rfl) rfl ?_
  refine ops_v rfl rfl ?_
  refine ops_nil rfl ?_
  have ga : (((σ.new (.cells [PV.int .i64 a, .int .i64 b, .int .i64 c, d, e] false)).new (.cells [PV.int .i64 a', .int .i64 b', .int .i64 c', d', e'] false))).get σ.next = some (.cells [PV.int .i64 a, .int .i64 b, .int .i64 c, d, e] false) := by simp
  have gb : (((σ.new (.cells [PV.int .i64 a, .int .i64 b, .int .i64 c, d, e] false)).new (.cells [PV.int .i64 a', .int .i64 b', .int .i64 c', d', e'] false))).get (σ.new (.cells [PV.int .i64 a, .int .i64 b, .int .i64 c, d, e] false)).next = some (.cells [PV.int .i64 a', .int .i64 b', .int .i64 c', d', e'] false) := get_new_self
  have gn : (((σ.new (.cells [PV.int .i64 a, .int .i64 b, .int .i64 c, d, e] false)).new (.cells [PV.int .i64 a', .int .i64 b', .int .i64 c', d', e'] false))).next = σ.next + 2 := by simp
  have gp : (σ.new (.cells [PV.int .i64 a, .int .i64 b, .int .i64 c, d, e] false)).next = σ.next + 1 := by simp
  generalize ((σ.new (.cells [PV.int .i64 a, .int .i64 b, .int .i64 c, d, e] false)).new (.cells [PV.int .i64 a', .int .i64 b', .int .i64 c', d', e'] false)) = τ at *
  generalize (σ.new (.cells [PV.int .i64 a, .int .i64 b, .int .i64 c, d, e] false)).next = p at *
  refine wp_seq (wp_seq (wp_drawn_fl (by simp) ?_))
  refine opsT_v (ev_loadN rfl (rd_ptr ga rfl)) rfl ?_
  refine opsT_call rfl (w1 _) rfl ?_
  refine opsT_v (ev_loadN rfl (rd_ptr (get_new_old gb (by omega)) rfl)) rfl ?_
  refine opsT_call rfl (w2 _) rfl ?_
  have g1 : ((τ.new (.cells [PV.int .i64 a, .int .i64 b, .int .i64 c, d, e] false)).new (.cells [PV.int .i64 a', .int .i64 b', .int .i64 c', d', e'] false)).get σ.next = some (.cells [PV.int .i64 a, .int .i64 b, .int .i64 c, d, e] false) := get_new_old (get_new_old ga (by omega)) (by simp; omega)
  have g2 : ((τ.new (.cells [PV.int .i64 a, .int .i64 b, .int .i64 c, d, e] false)).new (.cells [PV.int .i64 a', .int .i64 b', .int .i64 c', d', e'] false)).get p = some (.cells [PV.int .i64 a', .int .i64 b', .int .i64 c', d', e'] false) := get_new_old (get_new_old gb (by omega)) (by simp; omega)
  refine opsT_v (v := .bool q) (by rw [hq]; rfl) rfl ?_
  refine opsT_v rfl rfl ?_
  have fin : ∀ {os : List AOper} {l : List (Regs × St)} {r0 r1 r2 r3 : Regs} {τ3 : St} {last : Regs × St}, nth os 2 = some ⟨some 7, .load (some 5) (.t 3), none⟩ → r2.src (.t 3) = some (.ptr p 0) → τ3.get p = some (.cells [PV.int .i64 a', .int .i64 b', .int .i64 c', d', e'] false) →
      [(2, 1, 3)].all (floatOk os ((r0, τ) :: (r1, τ) :: (r2, τ.new (.cells [PV.int .i64 a, .int .i64 b, .int .i64 c, d, e] false)) :: (r3, τ3) :: l) last) = true := by
    intro os l r0 r1 r2 r3 τ3 last h1 h2 h3
    have hb : ∀ τ' : St, τ'.get p = some (.cells [PV.int .i64 a', .int .i64 b', .int .i64 c', d', e'] false) → opEval (.load (some 5) (.t 3)) r2 τ' = some (.v (.agg [PV.int .i64 a', .int .i64 b', .int .i64 c', d', e']) τ') := fun τ' h => ev_loadN h2 (rd_ptr h rfl)
    refine all_cons (floatOk_of h1 rfl rfl (hb _ (get_new_old gb (by omega))) ?_) rfl
    exact same_cons (hb _ gb) (same_cons (hb _ (get_new_old gb (by omega))) (same_cons (hb _ h3) same_nil))
  cases q with
  | false =>
    have hno : a = a' → b = b' → False := fun h1 h2 => by have := hq1 h1 h2; simp at this
    refine opsT_no rfl rfl ?_
    refine opsT_no rfl rfl ?_
    refine opsT_no rfl rfl ?_
    refine opsT_no rfl rfl ?_
    refine opsT_no rfl rfl ?_
    refine opsT_v rfl rfl ?_
    refine opsT_v rfl rfl ?_
    refine opsT_no rfl rfl ?_
    refine opsT_no rfl rfl ?_
    refine opsT_no rfl rfl ?_
    refine opsT_no rfl rfl ?_
    refine opsT_no rfl rfl ?_
    refine opsT_v rfl rfl ?_
    refine opsT_nil (And.intro (by refine fin ?_ ?_ (get_new_old gb (by omega)) <;> rfl) ⟨_, rfl, ?_⟩)
    refine wp_false rfl (wp_skip ?_)
    refine wp_seq (wp_seq (wp_region ?_))
    refine ops_v rfl rfl ?_
    refine ops_v (ev_load1 rfl (rd_ptr g1 rfl)) rfl ?_
    refine ops_v rfl rfl ?_
    refine ops_v (ev_load1 rfl (rd_ptr g2 rfl)) rfl ?_
    by_cases ha : a = a'
    · refine ops_v (ev_neI' (r := false) rfl rfl (by simp [ha])) rfl ?_
      refine ops_nil rfl ?_
      refine wp_false rfl (wp_skip ?_)
      refine wp_seq (wp_region ?_)
      refine ops_v rfl rfl ?_
      refine ops_v (ev_load1 rfl (rd_ptr g1 rfl)) rfl ?_
      refine ops_v rfl rfl ?_
      refine ops_v (ev_load1 rfl (rd_ptr g2 rfl)) rfl ?_
      refine ops_v (ev_ltI rfl rfl) rfl ?_
      refine ops_v rfl rfl ?_
      refine ops_nil rfl ?_
      refine wp_ret ?_
      refine ⟨.inr rfl, rfl, _, rfl, ?_⟩
      have hb : b ≠ b' := fun hb => hno ha hb
      simp [lessB, ha, hb]; rfl
    · refine ops_v (ev_neI' (r := true) rfl rfl (by simp [ha])) rfl ?_
      refine ops_nil rfl ?_
      refine wp_true rfl (wp_seq (wp_region ?_))
      refine ops_v rfl rfl ?_
      refine ops_v (ev_load1 rfl (rd_ptr g1 rfl)) rfl ?_
      refine ops_v rfl rfl ?_
      refine ops_v (ev_load1 rfl (rd_ptr g2 rfl)) rfl ?_
      refine ops_v (ev_ltI rfl rfl) rfl ?_
      refine ops_v rfl rfl ?_
      refine ops_nil rfl ?_
      refine wp_ret ?_
      refine ⟨.inr rfl, rfl, _, rfl, ?_⟩
      simp [lessB, ha]; rfl
  | true =>
    refine opsT_vg rfl rfl rfl ?_
    refine opsT_vg rfl (ev_load1 rfl (rd_ptr g1 rfl)) rfl ?_
    refine opsT_vg rfl rfl rfl ?_
    refine opsT_vg rfl (ev_load1 rfl (rd_ptr g2 rfl)) rfl ?_
    by_cases ha : a = a'
    · refine opsT_vg rfl (ev_eqI' (r := true) rfl rfl (by simp [ha])) rfl ?_
      refine opsT_v rfl rfl ?_
      refine opsT_v rfl rfl ?_
      refine opsT_vg rfl rfl rfl ?_
      refine opsT_vg rfl (ev_load1 rfl (rd_ptr g1 rfl)) rfl ?_
      refine opsT_vg rfl rfl rfl ?_
      refine opsT_vg rfl (ev_load1 rfl (rd_ptr g2 rfl)) rfl ?_
      by_cases hb : b = b'
      · refine opsT_vg rfl (ev_eqI' (r := true) rfl rfl (by simp [hb])) rfl ?_
        refine opsT_v rfl rfl ?_
        refine opsT_nil (And.intro (by refine fin ?_ ?_ (get_new_old gb (by omega)) <;> rfl) ⟨_, rfl, ?_⟩)
        refine wp_true rfl (wp_seq (wp_region ?_))
        refine ops_v rfl rfl ?_
        refine ops_v (ev_load1 rfl (rd_ptr g1 rfl)) rfl ?_
        refine ops_v rfl rfl ?_
        refine ops_v (ev_load1 rfl (rd_ptr g2 rfl)) rfl ?_
        refine ops_v (ev_ltI rfl rfl) rfl ?_
        refine ops_v rfl rfl ?_
        refine ops_nil rfl ?_
        refine wp_ret ?_
        refine ⟨.inr rfl, rfl, _, rfl, ?_⟩
        simp [lessB, ha, hb]; rfl
      · refine opsT_vg rfl (ev_eqI' (r := false) rfl rfl (by simp [hb])) rfl ?_
        refine opsT_v rfl rfl ?_
        refine opsT_nil (And.intro (by refine fin ?_ ?_ (get_new_old gb (by omega)) <;> rfl) ⟨_, rfl, ?_⟩)
        have hno : a = a' → b = b' → False := fun _ h => hb h
        refine wp_false rfl (wp_skip ?_)
        refine wp_seq (wp_seq (wp_region ?_))
        refine ops_v rfl rfl ?_
        refine ops_v (ev_load1 rfl (rd_ptr g1 rfl)) rfl ?_
        refine ops_v rfl rfl ?_
        refine ops_v (ev_load1 rfl (rd_ptr g2 rfl)) rfl ?_
        by_cases ha : a = a'
        · refine ops_v (ev_neI' (r := false) rfl rfl (by simp [ha])) rfl ?_
          refine ops_nil rfl ?_
          refine wp_false rfl (wp_skip ?_)
          refine wp_seq (wp_region ?_)
          refine ops_v rfl rfl ?_
          refine ops_v (ev_load1 rfl (rd_ptr g1 rfl)) rfl ?_
          refine ops_v rfl rfl ?_
          refine ops_v (ev_load1 rfl (rd_ptr g2 rfl)) rfl ?_
          refine ops_v (ev_ltI rfl rfl) rfl ?_
          refine ops_v rfl rfl ?_
          refine ops_nil rfl ?_
          refine wp_ret ?_
          refine ⟨.inr rfl, rfl, _, rfl, ?_⟩
          have hb : b ≠ b' := fun hb => hno ha hb
          simp [lessB, ha, hb]; rfl
        · refine ops_v (ev_neI' (r := true) rfl rfl (by simp [ha])) rfl ?_
          refine ops_nil rfl ?_
          refine wp_true rfl (wp_seq (wp_region ?_))
          refine ops_v rfl rfl ?_
          refine ops_v (ev_load1 rfl (rd_ptr g1 rfl)) rfl ?_
          refine ops_v rfl rfl ?_
          refine ops_v (ev_load1 rfl (rd_ptr g2 rfl)) rfl ?_
          refine ops_v (ev_ltI rfl rfl) rfl ?_
          refine ops_v rfl rfl ?_
          refine ops_nil rfl ?_
          refine wp_ret ?_
          refine ⟨.inr rfl, rfl, _, rfl, ?_⟩
          simp [lessB, ha]; rfl
    · refine opsT_vg rfl (ev_eqI' (r := false) rfl rfl (by simp [ha])) rfl ?_
      refine opsT_v rfl rfl ?_
      refine opsT_v rfl rfl ?_
      refine opsT_no rfl rfl ?_
      refine opsT_no rfl rfl ?_
      refine opsT_no rfl rfl ?_
      refine opsT_no rfl rfl ?_
      refine opsT_no rfl rfl ?_
      refine opsT_v rfl rfl ?_
      refine opsT_nil (And.intro (by refine fin ?_ ?_ (get_new_old gb (by omega)) <;> rfl) ⟨_, rfl, ?_⟩)
      have hno : a = a' → b = b' → False := fun h _ => ha h
      refine wp_false rfl (wp_skip ?_)
      refine wp_seq (wp_seq (wp_region ?_))
      refine ops_v rfl rfl ?_
      refine ops_v (ev_load1 rfl (rd_ptr g1 rfl)) rfl ?_
      refine ops_v rfl rfl ?_
      refine ops_v (ev_load1 rfl (rd_ptr g2 rfl)) rfl ?_
      by_cases ha : a = a'
      · refine ops_v (ev_neI' (r := false) rfl rfl (by simp [ha])) rfl ?_
        refine ops_nil rfl ?_
        refine wp_false rfl (wp_skip ?_)
        refine wp_seq (wp_region ?_)
        refine ops_v rfl rfl ?_
        refine ops_v (ev_load1 rfl (rd_ptr g1 rfl)) rfl ?_
        refine ops_v rfl rfl ?_
        refine ops_v (ev_load1 rfl (rd_ptr g2 rfl)) rfl ?_
        refine ops_v (ev_ltI rfl rfl) rfl ?_
        refine ops_v rfl rfl ?_
        refine ops_nil rfl ?_
        refine wp_ret ?_
        refine ⟨.inr rfl, rfl, _, rfl, ?_⟩
        have hb : b ≠ b' := fun hb => hno ha hb
        simp [lessB, ha, hb]; rfl
      · refine ops_v (ev_neI' (r := true) rfl rfl (by simp [ha])) rfl ?_
        refine ops_nil rfl ?_
        refine wp_true rfl (wp_seq (wp_region ?_))
        refine ops_v rfl rfl ?_
        refine ops_v (ev_load1 rfl (rd_ptr g1 rfl)) rfl ?_
        refine ops_v rfl rfl ?_
        refine ops_v (ev_load1 rfl (rd_ptr g2 rfl)) rfl ?_
        refine ops_v (ev_ltI rfl rfl) rfl ?_
        refine ops_v rfl rfl ?_
        refine ops_nil rfl ?_
        refine wp_ret ?_
        refine ⟨.inr rfl, rfl, _, rfl, ?_⟩
        simp [lessB, ha]; rfl
end Am
