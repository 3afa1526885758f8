/- What the abstract machine says of the model: regions in whatever order, calls, the translation of code, rules for runs. -/
import Derived.Test.YtiohgnhgbfodjaaGreatDoorAmB
set_option linter.unusedVariables false
set_option linter.unusedSimpArgs false
set_option linter.deprecated false
/- Regions in whatever order. -/
namespace Am
open Go
variable {H : Hc} {M M' : Mu} {σ σ' : St} {w w' : World} {P : Program} {ρ ρ' : Regs} {a : Act} {E : Env} {ih : ACode → Regs → St → R}

/-! ### The states of the order of the text -/
theorem opsEval_trace {outs : List Nat} {e : AExit} : ∀ (l : List AOper) (ρ : Regs) (σ : St), opsEval E ih outs l ρ σ = some (e, ρ', σ') → ∃ tr ρe σe, opsTrace E ih l ρ σ = some (tr, ρe, σe) ∧ opsNil outs ρe σe = some (e, ρ', σ')
  | [], ρ, σ, h => ⟨[], ρ, σ, rfl, h⟩
  | o :: l, ρ, σ, h => by
    change opsCons E ih o (opsEval E ih outs l) ρ σ = _ at h
    unfold opsCons at h
    split at h
    · rename_i ρ1 σ1 ho
      obtain ⟨tr, ρe, σe, h1, h2⟩ := opsEval_trace l ρ1 σ1 h
      exact ⟨(ρ, σ) :: tr, ρe, σe, by simp [opsTrace, ho, h1], h2⟩
    · simp at h
theorem opsTrace_spec : ∀ (l : List AOper) (ρ : Regs) (σ : St) (tr : List (Regs × St)) (ρe : Regs) (σe : St), opsTrace E ih l ρ σ = some (tr, ρe, σe) →
    tr.length = l.length ∧ (tr ++ [(ρe, σe)])[0]? = some (ρ, σ) ∧ ∀ (i : Nat) o, l[i]? = some o → ∃ s s', (tr ++ [(ρe, σe)])[i]? = some s ∧ (tr ++ [(ρe, σe)])[i + 1]? = some s' ∧ operEval E ih s.1 s.2 o = some s'
  | [], ρ, σ, tr, ρe, σe, h => by
    simp only [opsTrace, Option.some.injEq, Prod.mk.injEq] at h; obtain ⟨rfl, rfl, rfl⟩ := h
    exact ⟨rfl, rfl, fun i o ho => by simp at ho⟩
  | o :: l, ρ, σ, tr, ρe, σe, h => by
    simp only [opsTrace] at h
    split at h
    · rename_i ρ1 σ1 ho
      split at h
      · rename_i tr1 ρ2 σ2 ht
        simp only [Option.some.injEq, Prod.mk.injEq] at h; obtain ⟨rfl, rfl, rfl⟩ := h
        obtain ⟨h1, h2, h3⟩ := opsTrace_spec l ρ1 σ1 tr1 ρ2 σ2 ht
        refine ⟨by simp [h1], rfl, fun i o' ho' => ?_⟩
        cases i with
        | zero =>
          simp at ho'; subst ho'
          exact ⟨(ρ, σ), (ρ1, σ1), rfl, by simpa using h2, ho⟩
        | succ i =>
          obtain ⟨s, s', g1, g2, g3⟩ := h3 i o' (by simpa using ho')
          exact ⟨s, s', by simpa using g1, by simpa using g2, g3⟩
      · simp at h
    · simp at h
theorem sameRead_spec {o : AOper} {v : PV} : ∀ (l : List (Regs × St)), sameRead ρ o v l = true → ∀ s ∈ l, ∃ σ1, opEval o.op ρ s.2 = some (.v v σ1)
  | [], _, s, hs => by simp at hs
  | (ρ1, σ1) :: l, h, s, hs => by
    simp only [sameRead] at h
    split at h
    · rename_i v' σ2 ho
      simp only [Bool.and_eq_true] at h
      have := PV.beq_eq h.1; subst this
      rcases List.mem_cons.1 hs with rfl | hs
      · exact ⟨σ2, ho⟩
      · exact sameRead_spec l h.2 s hs
    · simp at h
/-! ### Temporaries that an operation looks at -/
def picks (g : Nat → Option PV) (ts : List Nat) : List (Nat × PV) := ts.filterMap fun t => (g t).map fun v => (t, v)
theorem look_picks (g : Nat → Option PV) (t : Nat) : ∀ ts : List Nat, Regs.look t (picks g ts) .leaf = if t ∈ ts then g t else none
  | [] => by simp [picks, Regs.look]
  | x :: ts => by
    have ih := look_picks g t ts
    simp only [picks] at ih
    simp only [picks, List.filterMap_cons, List.mem_cons]
    cases hx : g x with
    | none =>
      simp only [Option.map_none, ih]
      by_cases e : t = x
      · subst e; simp [hx]
      · simp [e]
    | some v =>
      simp only [Option.map_some, Regs.look]
      by_cases e : x = t
      · subst e; simp [hx]
      · have : Nat.beq x t = false := by rw [Bool.eq_false_iff]; intro e'; exact e (Nat.eq_of_beq_eq_true e')
        simp only [this, ih]
        simp [Ne.symm e]
def restr (ts : List Nat) (ρ : Regs) : Regs := ⟨ρ.n, .leaf, picks ρ.get ts⟩
theorem get_restr (ts : List Nat) (ρ : Regs) (t : Nat) : (restr ts ρ).get t = if t ∈ ts then ρ.get t else none := look_picks ρ.get t ts
theorem restr_src {o : AOper} {s : Src} (h : s ∈ opSrcs o.op) : (restr (reads o) ρ).src s = ρ.src s := by
  cases s with
  | c v => rfl
  | t n =>
    simp only [Regs.src, get_restr]
    rw [if_pos]
    exact List.mem_append_left _ (List.mem_filterMap.2 ⟨.t n, h, rfl⟩)
theorem restr_eval {o : AOper} : opEval o.op (restr (reads o) ρ) σ = opEval o.op ρ σ := opEval_congr fun _ h => restr_src h
theorem restr_wanted {o : AOper} : wantedV (restr (reads o) ρ) o.guard = wantedV ρ o.guard := by
  cases hg : o.guard with
  | none => rfl
  | some p =>
    obtain ⟨t, u⟩ := p
    simp only [wantedV, get_restr]
    rw [if_pos]
    exact List.mem_append_right _ (by simp [hg])
theorem restr_out {o : AOper} : operOut E ih (restr (reads o) ρ) σ o = operOut E ih ρ σ o := by
  unfold operOut
  rw [restr_wanted, restr_eval]
theorem put_n {o : AOper} {s : Regs × St} (h : operEval E ih ρ σ o = some s) : s.1.n = ρ.n := by
  obtain ⟨v, _, h2⟩ := operEval_out (ρ1 := s.1) (σ1 := s.2) h
  exact (Regs.n_put h2).1
/-- An operation that does not change the store, at whatever state of it. -/
theorem quiet_out {o : AOper} {v : PV} (hq : changer o = false) (h : operOut E ih ρ σ o = some (v, σ')) : σ' = σ ∧
    (wantedV ρ o.guard = some false ∧ v = .tup [] ∨ wantedV ρ o.guard = some true ∧ opEval o.op ρ σ = some (.v v σ)) := by
  have hk : kind o.op ≤ 1 := by simpa [changer] using hq
  unfold operOut at h
  split at h
  · rename_i hg
    split at h
    · rename_i v' σ1 ho
      simp only [Option.some.injEq, Prod.mk.injEq] at h; obtain ⟨rfl, rfl⟩ := h
      have : σ1 = σ := by
        rcases Nat.lt_or_ge (kind o.op) 1 with h0 | h0
        · obtain ⟨u, hu, _⟩ := pure_op (by omega) ho; injection hu
        · obtain ⟨u, hu⟩ := read_op (by omega) ho; injection hu
      subst this
      exact ⟨rfl, .inr ⟨hg, ho⟩⟩
    · rename_i ho
      rcases Nat.lt_or_ge (kind o.op) 1 with h0 | h0
      · obtain ⟨u, hu, _⟩ := pure_op (by omega) ho; cases hu
      · obtain ⟨u, hu⟩ := read_op (by omega) ho; cases hu
    · rename_i ho
      rcases Nat.lt_or_ge (kind o.op) 1 with h0 | h0
      · obtain ⟨u, hu, _⟩ := pure_op (by omega) ho; cases hu
      · obtain ⟨u, hu⟩ := read_op (by omega) ho; cases hu
    · simp at h
  · rename_i hg
    simp only [Option.some.injEq, Prod.mk.injEq] at h; obtain ⟨rfl, rfl⟩ := h
    exact ⟨rfl, .inl ⟨hg, rfl⟩⟩
  · simp at h
/-! ### How many are left -/
def cf : List Bool → Nat
  | [] => 0
  | b :: l => (if b then 0 else 1) + cf l
theorem cf_set : ∀ (l : List Bool) (j : Nat), l[j]? = some false → cf (l.set j true) + 1 = cf l
  | [], j, h => by simp at h
  | b :: l, 0, h => by simp at h; subst h; simp [cf]; omega
  | b :: l, j + 1, h => by
    simp at h
    have := cf_set l j h
    simp only [List.set_cons_succ, cf]; omega
theorem cf_zero : ∀ (l : List Bool), cf l = 0 → ∀ (i : Nat) b, l[i]? = some b → b = true
  | [], _, i, b, h => by simp at h
  | c :: l, h0, i, b, h => by
    simp only [cf] at h0
    cases i with
    | zero => simp at h; subst h; cases c <;> simp_all
    | succ i => simp at h; exact cf_zero l (by omega) i b h
theorem cf_rep (n : Nat) : cf (List.replicate n false) = n := by
  induction n with
  | zero => rfl
  | succ n ih => simp [List.replicate_succ, cf, ih]; omega
end Am
/- An allocation, told apart from the store: what it makes, and where. -/
namespace Am
open Go
variable {CR : Code → ACode → Prop} {H : Hc} {M M' : Mu} {σ σ' : St} {w : World} {P : Program} {ρ : Regs} {a : Act}

/-- What an allocation says, whatever the store. -/
def LateOut (P : Program) (H : Hc) (M : Mu) (w : World) (sem : Sem Next) (r : ORes) (σ : St) : Prop :=
  ∃ v cs cv c1 e, r = .v v (σ.new (.cells cs false)) ∧ sem.run P w = .ok (.value cv) { w with heap := w.heap.push (.cells c1.toArray e) } ∧ VRels H M cs c1 ∧
    ∀ M1 : Mu, M1.N = σ.next → VRel H (M1.add w.heap.size c1.length) v cv
theorem mkrow_run {zc : List PV} {esz len : Nat} {ps : List (Nat × Nat × Src)} {r : ORes} {t e : TypeId} {L : Array (Nat × Operand)} {o : Oper} (ho : o.op = .buildSlice t len L)
    (hd : P.underlying t = some (.slice e)) (hz : zcells? P e = some zc) (hs : sz? P e = some esz)
    (hps : trParts (fun i => some (i * esz, esz)) L.toList = some ps) (hr : RRel H M ρ a.tmps) (h : evMkrow zc esz len ps ρ σ = some r) :
    LateOut P H M w (execOp a.eval o) r σ := by
  unfold evMkrow at h
  cases hpp : parts ρ ps with
  | none => simp [hpp] at h
  | some pp =>
    cases hf : fill (repl zc len) pp with
    | none => simp [hpp, hf] at h
    | some cs =>
      simp only [hpp, hf] at h
      cases hb : Nat.blt 0 esz && Nat.beq zc.length esz && Nat.ble (len * esz) 16777216 with
      | false => simp [hb] at h
      | true =>
        simp only [hb, Option.some.injEq] at h; subst h
        simp only [Bool.and_eq_true] at hb
        obtain ⟨⟨hb1, hb2⟩, hb3⟩ := hb
        have hpos : 0 < esz := by simpa using hb1
        have hzl := Nat.eq_of_beq_eq_true hb2
        have hle := Nat.le_of_ble_eq_true hb3
        obtain ⟨z, hz1, hz2⟩ := zcells_sound (H := H) (M := M) hz
        have hzs : z.cells.size = esz := by have := hz2.length; simp at this; omega
        obtain ⟨vs', h7, h8⟩ := fill_sound hr _ _ _ _ _ _ hps hpp hf (repl_sound hz2 len)
        have hlen : vs'.length = len * esz := by
          have e1 := h8.length
          have e2 : cs.length = (repl zc len).length := by
            clear h7 h8 hps e1
            revert hf
            generalize repl zc len = c0
            clear hpp
            intro hf
            induction pp generalizing c0 with
            | nil => simp [fill] at hf; rw [hf]
            | cons p pp ih =>
              obtain ⟨o, s, v⟩ := p
              unfold fill at hf
              cases hb : Nat.beq v.cells.length s with
              | false => simp [hb] at hf
              | true =>
                cases hwr : writeAt c0 o v.cells with
                | none => simp [hb, hwr] at hf
                | some c1 => simp only [hb, hwr] at hf; rw [ih _ hf, writeAt_length hwr]
          have e3 := (repl_sound hz2 len).length
          rw [replV_length] at e3
          simp at e3
          rw [hzs] at e3
          omega
        refine ⟨_, cs, .slice (some ⟨w.heap.size, 0, none⟩) len len, vs', e, rfl, ?_, h8, fun M1 hM1 => ?_⟩
        · simp only [execOp, ho, Instr.buildSlice, Sem.run_bind, runUnderlying hd, Result.andThen_ok, runSizeOf hs]
          rw [if_neg (by omega)]
          by_cases h0 : len * esz = 0
          · have hl0 : len = 0 := by rcases Nat.mul_eq_zero.1 h0 with h | h <;> omega
            subst hl0
            simp only [h0, if_true, map_pair, Sem.run_bind, Sem.run_pure, Result.andThen_ok]
            have harr0 : ∀ f : Nat → Value, (Array.range 0).map f = #[] := by simp
            rw [harr0]
            have h7' : Instr.fill (fun i => some (i * esz, esz)) #[] (L.toList.map fun p => (p.1, a.eval p.2)) = some vs'.toArray := h7
            simp only [h7', Sem.run_bind, newRow_run, Result.andThen_ok, Sem.run_pure]
          · have harr := zeros_eq z.cells (by omega) len
            rw [hzs] at harr
            simp only [if_neg h0, map_pair, Sem.run_bind, runZeroValue hz1, Result.andThen_ok, Sem.run_pure, hzs, harr, h7, newRow_run]
        · rw [← hM1]
          exact newSlice (H := H) M1 w.heap.size vs'.length len len esz (some len) (Nat.le_refl _) hpos (fun k hk => by simpa using hk) (by omega) (by simp)
theorem late_run {o : Oper} {ao : AOp} {r : ORes} (hl : lateOp o.op = true) (ht : trOp P o.op = some ao) (hr : RRel H M ρ a.tmps) (h : opEval ao ρ σ = some r) : LateOut P H M w (execOp a.eval o) r σ := by
  have boxed : ∀ {x : Src} {X : Operand} {e : TypeId}, o.op = .box e X → trS X = some x → evBox x ρ σ = some r → LateOut P H M w (execOp a.eval o) r σ := by
    intro x X e ho hx h
    unfold evBox at h
    cases hs : ρ.src x with
    | none => simp [hs] at h
    | some v =>
      simp [hs] at h; subst h
      have hv := vcells (trS_sound hx hr hs)
      refine ⟨_, _, .pointer (some ⟨w.heap.size, 0, none⟩), _, e, rfl, ?_, hv, fun M1 hM1 => ?_⟩
      · simp only [execOp, ho]; simp [Instr.box, newVar, newRow_run]
      · rw [← hM1]; exact newPtr M1 _ _
  cases ho : o.op with
  | box e x =>
    simp only [ho, trOp, Option.map_eq_some_iff] at ht; obtain ⟨s, h1, rfl⟩ := ht
    exact boxed ho h1 h
  | alloc e =>
    simp only [ho, trOp] at ht; split at ht
    · rename_i z hz; simp only [Option.map_eq_some_iff] at ht; obtain ⟨v, hv, rfl⟩ := ht
      simp only [opEval, evBox, Regs.src, Option.some.injEq] at h; subst h
      have hv := vcells (trV_sound (H := H) (M := M) _ _ _ hv)
      refine ⟨_, _, .pointer (some ⟨w.heap.size, 0, none⟩), _, e, rfl, ?_, hv, fun M1 hM1 => ?_⟩
      · simp only [execOp, ho]; simp [Instr.alloc, newVar, newRow_run, runZeroValue hz]
      · rw [← hM1]; exact newPtr M1 _ _
    · simp at ht
  | buildSlice t len ps =>
    simp only [ho, trOp] at ht; split at ht
    · rename_i e he; split at ht
      · rename_i n zc hs hz; simp only [Option.map_eq_some_iff] at ht; obtain ⟨ps', hps, rfl⟩ := ht
        exact mkrow_run ho (elem_of he) hz hs hps hr h
      · simp at ht
    · simp at ht
  | _ => simp [ho, lateOp] at hl
end Am
/- Regions in whatever order: the walk. -/
namespace Am
open Go
variable {H : Hc} {M M' : Mu} {σ σ' : St} {w w' : World} {P : Program} {ρ ρ' : Regs} {a : Act} {E : Env} {ih : ACode → Regs → St → R}

/-- The states of the order of the text, and what the floating reads read. -/
structure Run (E : Env) (ih : ACode → Regs → St → R) (aops : List AOper) (floats : List (Nat × Nat × Nat)) (st : Nat → Regs × St) : Prop where
  step : ∀ (i : Nat) o, aops[i]? = some o → operEval E ih (st i).1 (st i).2 o = some (st (i + 1))
  flo : ∀ x lo hi o, (x, lo, hi) ∈ floats → aops[x]? = some o → wantedV (st x).1 o.guard = some true → ∃ v, (∃ s, opEval o.op (st x).1 (st x).2 = some (.v v s)) ∧
    ∀ i, lo ≤ i → i ≤ hi → i ≤ aops.length → ∃ s, opEval o.op (st x).1 (st i).2 = some (.v v s)
def FirstOut (aops : List AOper) (D : Nat → Prop) (p : Nat) : Prop :=
  p ≤ aops.length ∧ (∀ (i : Nat) b, aops[i]? = some b → changer b = true → i < p → D i) ∧ ∀ b, aops[p]? = some b → changer b = true ∧ ¬ D p
def Agree (aops : List AOper) (D : Nat → Prop) (t q : Nat) : Prop := q ≤ aops.length ∧ ∀ (i : Nat) b, aops[i]? = some b → b.dst = some t → (D i ↔ i < q)
/-- Is the late allocation done, and its turn in the text not come? -/
def Waits (aops : List AOper) (D : Nat → Prop) (L : Nat) (b : AOper) : Prop := ∃ p, FirstOut aops D p ∧ D L ∧ p < L ∧ aops[L]? = some b
structure Pend (H : Hc) (st : Nat → Regs × St) (L : Nat) (w0 : World) (b : AOper) (M : Mu) (a : Act) (w : World) (A : Nat) (cs : List PV) (c1 : List Value) (e : TypeId) (cv : Value) (v : PV) : Prop where
  ge : w0.heap.size ≤ A
  obj : w.heap[A]? = some (Obj.cells c1.toArray e)
  free : ∀ b n, M.at_ b ≠ some (A, n)
  rel : VRels H M cs c1
  new : (st (L + 1)).2 = (st L).2.new (.cells cs false)
  put : (st L).1.put b.dst v = some (st (L + 1)).1
  tmp : ∀ d, b.dst = some d → a.tmps[d]? = some cv
  val : ∀ M1 : Mu, M1.N = (st L).2.next → VRel H (M1.add A c1.length) v cv
structure Inv (P : Program) (H : Hc) (ops : Array Oper) (aops : List AOper) (st : Nat → Regs × St) (L : Nat) (w0 : World) (D : Nat → Prop) (M : Mu) (a : Act) (w : World) : Prop where
  down : ∀ (j : Nat) o, ops[j]? = some o → D j → ∀ e ∈ o.after, Region.binds .any e = true → D e.on
  n : (st 0).1.n ≤ a.tmps.size
  regs : ∀ t v q, Agree aops D t q → (∀ b, Waits aops D L b → b.dst ≠ some t) → (st q).1.get t = some v → ∃ cv, a.tmps[t]? = some cv ∧ VRel H M v cv
  world : ∀ p, FirstOut aops D p → WRel (CRel P) H M (st p).2 w
  pend : ∀ b, Waits aops D L b → ∃ A cs c1 e cv v, Pend H st L w0 b M a w A cs c1 e cv v

section
variable {ops : Array Oper} {aops : List AOper} {B : List Nat} {floats : List (Nat × Nat × Nat)} {st : Nat → Regs × St} {D : Nat → Prop} {L : Nat} {w0 : World} {M0 : Mu}

theorem bef_down (hs : OpsRel P ops aops) (hd : DrawnOk ops aops B L floats) (hD : ∀ (j : Nat) o, ops[j]? = some o → D j → ∀ e ∈ o.after, Region.binds .any e = true → D e.on) :
    ∀ (j : Nat), j < aops.length → D j → ∀ i, bef B i j = true → D i := by
  intro j
  induction j using Nat.strongRecOn with
  | _ j ihj =>
    intro hj hDj i hb
    have hj' : j < ops.size := by rw [← hs.size]; exact hj
    obtain ⟨e, he, hbd, h⟩ := hd.mask j ops[j] (by simp [hj']) i hb
    have hon := hD j ops[j] (by simp [hj']) hDj e he hbd
    have hlt := hd.back j ops[j] (by simp [hj']) e he hbd
    rcases h with rfl | h
    · exact hon
    · exact ihj e.on hlt (by omega) hon i h
theorem n_const (hr : Run E ih aops floats st) : ∀ i, i ≤ aops.length → (st i).1.n = (st 0).1.n := by
  intro i
  induction i with
  | zero => intro _; rfl
  | succ i ihi =>
    intro h
    have := hr.step i (aops[i]'(by omega)) (by simp)
    rw [put_n this, ihi (by omega)]
theorem quiet_step (hr : Run E ih aops floats st) {i : Nat} {o : AOper} (ho : aops[i]? = some o) (hq : changer o = false) : (st (i + 1)).2 = (st i).2 := by
  obtain ⟨v, h1, _⟩ := operEval_out (ρ1 := (st (i + 1)).1) (σ1 := (st (i + 1)).2) (hr.step i o ho)
  exact (quiet_out hq h1).1
theorem quiet_span (hr : Run E ih aops floats st) (p : Nat) : ∀ d, p + d ≤ aops.length → (∀ (i : Nat) o, p ≤ i → i < p + d → aops[i]? = some o → changer o = false) → (st (p + d)).2 = (st p).2 := by
  intro d
  induction d with
  | zero => intro _ _; rfl
  | succ d ihd =>
    intro h hq
    have hlt : p + d < aops.length := by omega
    rw [show p + (d + 1) = (p + d) + 1 by omega, quiet_step hr (o := aops[p + d]) (by simp [hlt]) (hq (p + d) _ (by omega) (by omega) (by simp [hlt])), ihd (by omega) fun i o h1 h2 => hq i o h1 (by omega)]
theorem span (hr : Run E ih aops floats st) {p q : Nat} (h1 : p ≤ q) (h2 : q ≤ aops.length) (hq : ∀ (i : Nat) o, p ≤ i → i < q → aops[i]? = some o → changer o = false) : (st q).2 = (st p).2 := by
  have := quiet_span hr p (q - p) (by omega) (fun i o g1 g2 => hq i o g1 (by omega))
  rwa [show p + (q - p) = q by omega] at this
theorem first_one {p q : Nat} (hp : FirstOut aops D p) (hq : FirstOut aops D q) : p = q := by
  rcases Nat.lt_trichotomy p q with h | h | h
  · have hl : p < aops.length := by have := hq.1; omega
    obtain ⟨h1, h2⟩ := hp.2.2 _ (List.getElem?_eq_getElem hl)
    exact absurd (hq.2.1 p _ (List.getElem?_eq_getElem hl) h1 h) h2
  · exact h
  · have hl : q < aops.length := by have := hp.1; omega
    obtain ⟨h1, h2⟩ := hq.2.2 _ (List.getElem?_eq_getElem hl)
    exact absurd (hp.2.1 q _ (List.getElem?_eq_getElem hl) h1 h) h2
theorem first_ex (Pd : Nat → Prop) (p : Nat) : ∀ d, (∀ i, p ≤ i → i < p + d → ¬ Pd i) ∨ ∃ c, p ≤ c ∧ c < p + d ∧ Pd c ∧ ∀ i, p ≤ i → i < c → ¬ Pd i := by
  intro d
  induction d with
  | zero => left; intro i h1 h2; omega
  | succ d ihd =>
    rcases ihd with h | ⟨c, h1, h2, h3, h4⟩
    · by_cases hP : Pd (p + d)
      · exact .inr ⟨p + d, by omega, by omega, hP, fun i g1 g2 => h i g1 g2⟩
      · left; intro i g1 g2
        rcases Nat.lt_or_ge i (p + d) with g | g
        · exact h i g1 g
        · have : i = p + d := by omega
          subst this; exact hP
    · exact .inr ⟨c, h1, by omega, h3, h4⟩
theorem last_ex (Pd : Nat → Prop) (p : Nat) : ∀ d, (∀ i, p ≤ i → i < p + d → ¬ Pd i) ∨ ∃ c, p ≤ c ∧ c < p + d ∧ Pd c ∧ ∀ i, c < i → i < p + d → ¬ Pd i := by
  intro d
  induction d with
  | zero => left; intro i h1 h2; omega
  | succ d ihd =>
    by_cases hP : Pd (p + d)
    · exact .inr ⟨p + d, by omega, by omega, hP, fun i g1 g2 => by omega⟩
    · rcases ihd with h | ⟨c, h1, h2, h3, h4⟩
      · left; intro i g1 g2
        rcases Nat.lt_or_ge i (p + d) with g | g
        · exact h i g1 g
        · have : i = p + d := by omega
          subst this; exact hP
      · refine .inr ⟨c, h1, by omega, h3, fun i g1 g2 => ?_⟩
        rcases Nat.lt_or_ge i (p + d) with g | g
        · exact h4 i g1 g
        · have : i = p + d := by omega
          subst this; exact hP
theorem first_ex_out : ∃ p, FirstOut aops D p := by
  rcases first_ex (fun i => ∃ b, aops[i]? = some b ∧ changer b = true ∧ ¬ D i) 0 aops.length with h | ⟨c, _, h2, ⟨b, hb, hc, hn⟩, h4⟩
  · refine ⟨aops.length, Nat.le_refl _, fun i b hb hc hi => ?_, fun b hb => by simp at hb⟩
    refine Classical.byContradiction fun hn => h i (Nat.zero_le _) (by omega) ⟨b, hb, hc, hn⟩
  · refine ⟨c, by omega, fun i b hb hc hi => ?_, fun b' hb' => ?_⟩
    · refine Classical.byContradiction fun hn => h4 i (Nat.zero_le _) hi ⟨b, hb, hc, hn⟩
    · rw [hb] at hb'; simp only [Option.some.injEq] at hb'; subst hb'; exact ⟨hc, hn⟩
theorem bef_lt (hs : OpsRel P ops aops) (hd : DrawnOk ops aops B L floats) : ∀ (j : Nat), j < aops.length → ∀ i, bef B i j = true → i < j := by
  intro j
  induction j using Nat.strongRecOn with
  | _ j ihj =>
    intro hj i hb
    have hj' : j < ops.size := by rw [← hs.size]; exact hj
    obtain ⟨e, he, hbd, h⟩ := hd.mask j ops[j] (by simp [hj']) i hb
    have hlt := hd.back j ops[j] (by simp [hj']) e he hbd
    rcases h with rfl | h
    · exact hlt
    · have := ihj e.on hlt (by omega) i h; omega
/-- A read, wherever it comes up, reads what it reads in the order of the text. -/
theorem read_at (hd : DrawnOk ops aops B L floats) (hr : Run E ih aops floats st) {p j : Nat} {oj : AOper} {v : PV} (hp : FirstOut aops D p) (hao : aops[j]? = some oj)
    (hbef : ∀ i, bef B i j = true → D i) (haft : ∀ i, i < aops.length → bef B j i = true → ¬ D i) (hk : kind oj.op = 1) (hg : wantedV (st j).1 oj.guard = some true)
    (hev : opEval oj.op (st j).1 (st j).2 = some (.v v (st j).2)) : ∃ s, opEval oj.op (st j).1 (st p).2 = some (.v v s) := by
  have hjl : j < aops.length := (List.getElem?_eq_some_iff.1 hao).1
  have float : ∀ lo hi q, (j, lo, hi) ∈ floats → lo ≤ q → q ≤ hi → q ≤ aops.length → (st q).2 = (st p).2 → ∃ s, opEval oj.op (st j).1 (st p).2 = some (.v v s) := by
    intro lo hi q hm h1 h2 h3 h4
    obtain ⟨u, ⟨s0, hu0⟩, hall⟩ := hr.flo j lo hi _ hm hao hg
    rw [hev] at hu0; injection hu0 with hu0; injection hu0 with hu1 hu2
    obtain ⟨s, hs⟩ := hall q h1 h2 h3
    rw [h4] at hs
    exact ⟨s, by rw [hs, hu1]⟩
  let Pd : Nat → Prop := fun i => ∃ b, aops[i]? = some b ∧ changer b = true
  have none_ : ∀ i b, ¬ Pd i → aops[i]? = some b → changer b = false := by
    intro i b h hb
    cases hc : changer b with
    | false => rfl
    | true => exact absurd ⟨b, hb, hc⟩ h
  rcases Nat.le_total p j with hpj | hpj
  · rcases Nat.lt_or_ge p j with hlt | hge
    · obtain ⟨hc, hn⟩ := hp.2.2 _ (List.getElem?_eq_getElem (show p < aops.length by omega))
      rcases (hd.float j p _ _ hao (List.getElem?_eq_getElem (show p < aops.length by omega)) hk hc).1 hlt with h5 | ⟨lo, hi, h5, h6, h7⟩
      · exact absurd (hbef p h5) hn
      · exact float lo hi p h5 h6 (by omega) (by omega) rfl
    · have : p = j := by omega
      subst this; exact ⟨_, hev⟩
  · rcases last_ex Pd j (p - j) with h | ⟨c, h1, h2, ⟨b, hb, hcb⟩, h4⟩
    · refine ⟨(st j).2, ?_⟩
      rw [span hr hpj hp.1 fun i b g1 g2 hb => none_ i b (h i g1 (by omega)) hb]; exact hev
    · have hcp : c < p := by omega
      have hcl : c < aops.length := (List.getElem?_eq_some_iff.1 hb).1
      have hne : c ≠ j := by
        rintro rfl
        rw [hao] at hb; simp only [Option.some.injEq] at hb; subst hb
        simp [changer, hk] at hcb
      have hDc : D c := hp.2.1 c b hb hcb hcp
      rcases (hd.float j c _ b hao hb hk hcb).2 (by omega) with h5 | ⟨f, b', hf, hfc, hfl, h5⟩ | ⟨lo, hi, h5, h6, h7⟩
      · exact absurd hDc (haft c hcl h5)
      · exact absurd (hp.2.1 f b' hf hfc (by omega)) (haft f (by omega) h5)
      · exact float lo hi (c + 1) h5 (by omega) (by omega) (by omega) (span hr (by omega) hp.1 fun i b g1 g2 hb => none_ i b (h4 i (by omega) (by omega)) hb).symm
end
end Am
/- Regions in whatever order: one operation that may come up. -/
namespace Am
open Go
variable {H : Hc} {M M' : Mu} {σ σ' : St} {w w' : World} {P : Program} {ρ ρ' : Regs} {a : Act} {E : Env} {ih : ACode → Regs → St → R}

/-- An object that was nobody's is taken in. -/
theorem adopt {CR : Code → ACode → Prop} {M0 : Mu} {w0 : World} {A : Nat} {cs : List PV} {c1 : List Value} {e : TypeId} (h : WRel CR H M σ w) (hk : Keeps M0 M w0 w) (h0 : ∀ c off v, H c off = some v → c < w0.heap.size) (hA : w0.heap.size ≤ A)
    (hobj : w.heap[A]? = some (Obj.cells c1.toArray e)) (hfree : ∀ b n, M.at_ b ≠ some (A, n)) (hrel : VRels H M cs c1) :
    WRel CR H (M.add A c1.length) (σ.new (.cells cs false)) w ∧ Keeps M0 (M.add A c1.length) w0 w := by
  have hle := M.le_add A c1.length
  have at_N : (M.add A c1.length).at_ M.N = some (A, c1.length) := by simp [Mu.add]
  have at_ne : ∀ b, b ≠ M.N → (M.add A c1.length).at_ b = M.at_ b := fun b hb => by simp [Mu.add, hb]
  have hAlt : A < w.heap.size := (Array.getElem?_eq_some_iff.1 hobj).1
  refine ⟨⟨by simp [Mu.add, h.next], ?_, ?_, ?_, ?_, h.imm, ?_⟩, ⟨hk.le.trans hle, hk.size, hk.frame, ?_, hk.out, hk.os, hk.loops⟩⟩
  · intro b o1 hb
    rw [St.get_new, ← h.next] at hb
    by_cases e' : b = M.N
    · subst e'; simp at hb; subst hb
      exact ⟨_, _, at_N, c1, e, (0, 0), by simpa using hobj, rfl, fun _ => (hrel.length).symm, by simp, c1, [], by simp, hrel.mono hle⟩
    · simp [e'] at hb
      obtain ⟨c, n', h1, h2⟩ := h.obj b o1 hb
      exact ⟨c, n', by rw [at_ne b e']; exact h1, h2.mono hle⟩
  · intro b x hx
    by_cases e' : b = M.N
    · subst e'; simp [Mu.add]
    · rw [at_ne b e'] at hx; exact Nat.lt_of_lt_of_le (h.lt b x hx) hle.N
  · intro b c n' hb
    by_cases e' : b = M.N
    · subst e'; rw [at_N] at hb; cases hb; exact hAlt
    · rw [at_ne b e'] at hb; exact h.bnd b c n' hb
  · intro b b' c n1 n2 h1 h2
    by_cases e1 : b = M.N
    · subst e1; rw [at_N] at h1; cases h1
      by_cases e2 : b' = M.N
      · exact e2.symm
      · rw [at_ne b' e2] at h2; exact absurd h2 (hfree _ _)
    · rw [at_ne b e1] at h1
      by_cases e2 : b' = M.N
      · subst e2; rw [at_N] at h2; cases h2; exact absurd h1 (hfree _ _)
      · rw [at_ne b' e2] at h2; exact h.inj _ _ _ _ _ h1 h2
  · intro b c n' off hb
    by_cases e' : b = M.N
    · subst e'; rw [at_N] at hb; cases hb
      cases hH : H A off with
      | none => rfl
      | some v => have := h0 _ _ _ hH; omega
    · rw [at_ne b e'] at hb; exact h.apart _ _ _ _ hb
  · intro b c n' hb
    by_cases e' : b = M.N
    · subst e'; rw [at_N] at hb; cases hb; exact .inl hA
    · rw [at_ne b e'] at hb; exact hk.fresh b c n' hb
section
variable {ops : Array Oper} {aops : List AOper} {B : List Nat} {floats : List (Nat × Nat × Nat)} {st : Nat → Regs × St} {D : Nat → Prop} {L : Nat} {w0 : World} {M0 : Mu}
theorem Pend.keeps {b : AOper} {A : Nat} {cs : List PV} {c1 : List Value} {e : TypeId} {cv : Value} {v : PV} {a' : Act} (h : Pend H st L w0 b M a w A cs c1 e cv v) (hk : Keeps M M' w w') (ht : ∀ d, b.dst = some d → a'.tmps[d]? = a.tmps[d]?) :
    Pend H st L w0 b M' a' w' A cs c1 e cv v := by
  have hAlt : A < w.heap.size := (Array.getElem?_eq_some_iff.1 h.obj).1
  refine ⟨h.ge, by rw [hk.frame A hAlt h.free]; exact h.obj, fun b' n hb => ?_, h.rel.mono hk.le, h.new, h.put, fun d hd => by rw [ht d hd]; exact h.tmp d hd, h.val⟩
  rcases hk.fresh b' A n hb with h1 | ⟨b2, n2, h1⟩
  · omega
  · exact h.free _ _ h1
/-- One operation that may come up. -/
theorem inv_step (hs : OpsRel P ops aops) (hd : DrawnOk ops aops B L floats) (hr : Run E ih aops floats st) (h0 : ∀ c off v, H c off = some v → c < w0.heap.size)
    (hcall : ∀ f args σ v σ', callF E ih f args σ = some (v, σ') → CallOk P H f args σ v σ') (hround : ∀ b args σ v σ', roundF ih b args σ = some (v, σ') → RoundOk P H b args σ v σ')
    (hinv : Inv P H ops aops st L w0 D M a w) (hk0 : Keeps M0 M w0 w) {ro : Option Nat} (hin : InR ro w) {j : Nat} {o : Oper} (ho : ops[j]? = some o) (hj : ¬ D j)
    (hafter : ∀ e ∈ o.after, Region.binds .any e = true → D e.on) {n : Nat} {K : Act → World → Prop} {Q : Exit → Act → World → Prop}
    (hK : ∀ cv w1 M1, Inv P H ops aops st L w0 (fun i => D i ∨ i = j) M1 (a.put o.dst cv) w1 → Keeps M0 M1 w0 w1 → K (a.put o.dst cv) w1) :
    if Region.wanted o (yielded ops a.tmps) = true then o.wpIn (Wide ro) n P a w K Q else (∀ f, o.about P w a.eval = some f → (Wide ro).fn f) ∧ K (a.put o.dst undef) w := by
  have hjlt : j < ops.size := (Array.getElem?_eq_some_iff.1 ho).1
  have hjl : j < aops.length := by rw [hs.size]; exact hjlt
  have hao : aops[j]? = some aops[j] := by simp [hjl]
  have hone := hs.one j o aops[j] ho hao
  have hdown := bef_down hs hd hinv.down
  have hbef : ∀ i, bef B i j = true → D i := by
    intro i hb
    obtain ⟨e, he, hbd, h⟩ := hd.mask j o ho i hb
    have hon := hafter e he hbd
    have hlt := hd.back j o ho e he hbd
    rcases h with rfl | h
    · exact hon
    · exact hdown e.on (by omega) hon i h
  have haft : ∀ i, i < aops.length → bef B j i = true → ¬ D i := fun i hi hb hDi => hj (hdown i hi hDi j hb)
  have hagree : ∀ t, t ∈ reads aops[j] → Agree aops D t j := by
    intro t ht
    refine ⟨by omega, fun i b hb hbt => ?_⟩
    have hil : i < aops.length := (List.getElem?_eq_some_iff.1 hb).1
    rcases Nat.lt_trichotomy i j with h | h | h
    · exact ⟨fun _ => h, fun _ => hbef i ((hd.names i j b _ h hb hao).1 t hbt (.inr ht))⟩
    · subst h; exact ⟨fun hx => absurd hx hj, fun hx => by omega⟩
    · exact ⟨fun hx => absurd hx (haft i hil ((hd.names j i _ b h hao hb).2 t hbt ht)), fun hx => by omega⟩
  obtain ⟨p, hp⟩ := first_ex_out (aops := aops) (D := D)
  -- a changer behind the first that is not done: the late allocation
  have hlate : ∀ (i : Nat) b, aops[i]? = some b → changer b = true → p < i → (D i ∨ i = j) → i = L ∧ ∀ (k : Nat) c d, aops[k]? = some c → k ≠ L → b.dst = some d → (c.dst = some d ∨ d ∈ reads c) → bef B p k = true := by
    intro i b hb hc hpi hDi
    have hil : i < aops.length := (List.getElem?_eq_some_iff.1 hb).1
    have hpl : p < aops.length := by omega
    obtain ⟨hpc, hpn⟩ := hp.2.2 _ (List.getElem?_eq_getElem hpl)
    rcases hd.chain p i _ b hpi (List.getElem?_eq_getElem hpl) hb hpc hc with h | h
    · rcases hDi with hDi | rfl
      · exact absurd (hdown i hil hDi p h) hpn
      · exact absurd (hbef p h) hpn
    · exact h
  -- nobody looks at the temporary of an allocation that waits
  have hquietT : ∀ b, Waits aops D L b → ∀ d, b.dst = some d → ∀ (k : Nat) c, aops[k]? = some c → k ≠ L → (D k ∨ k = j) → ¬ (c.dst = some d ∨ d ∈ reads c) := by
    rintro b ⟨p', hp', hDL, hpL, hbL⟩ d hbd k c hkc hkL hDk hnm
    have := first_one hp hp'; subst this
    have hLl : L < aops.length := (List.getElem?_eq_some_iff.1 hbL).1
    have hLl' : L < ops.size := by rw [← hs.size]; exact hLl
    have hch := (hd.late _ b (Array.getElem?_eq_getElem hLl') hbL).2.2
    have hb := (hlate L b hbL hch hpL (.inl hDL)).2 k c d hkc hkL hbd hnm
    have hkl : k < aops.length := (List.getElem?_eq_some_iff.1 hkc).1
    have hpl : p < aops.length := by omega
    obtain ⟨-, hpn⟩ := hp.2.2 _ (List.getElem?_eq_getElem hpl)
    rcases hDk with hDk | rfl
    · exact hpn (hdown k hkl hDk p hb)
    · exact hpn (hbef p hb)
  have hjL : D L → j ≠ L := fun h e => hj (e ▸ h)
  have hrr : RRel H M (restr (reads aops[j]) (st j).1) a.tmps := by
    refine ⟨by simp only [restr]; rw [n_const hr j (by omega)]; exact hinv.n, fun t v ht => ?_⟩
    rw [get_restr] at ht
    split at ht
    · rename_i hm
      refine hinv.regs t v j (hagree t hm) (fun b hb hbt => ?_) ht
      have hDL : D L := by obtain ⟨p', _, hDL, _, _⟩ := hb; exact hDL
      exact hquietT b hb t hbt j _ hao (hjL hDL) (.inr rfl) (.inr hm)
    · simp at ht
  obtain ⟨v, hout, hput⟩ := operEval_out (ρ1 := (st (j + 1)).1) (σ1 := (st (j + 1)).2) (hr.step j _ hao)
  have hadst : aops[j].dst = o.dst := hone.dst
  -- the temporaries behind it
  have regs' : ∀ (M1 : Mu) (cv : Value), M.Le M1 → ((j = L → ¬ Waits aops (fun i => D i ∨ i = j) L aops[j]) → VRel H M1 v cv) →
      (∀ b, Waits aops D L b → ¬ Waits aops (fun i => D i ∨ i = j) L b → ∃ cvL vL, (st L).1.put b.dst vL = some (st (L + 1)).1 ∧ (∀ d, b.dst = some d → a.tmps[d]? = some cvL) ∧ VRel H M1 vL cvL) →
      ∀ t u q, Agree aops (fun i => D i ∨ i = j) t q → (∀ b, Waits aops (fun i => D i ∨ i = j) L b → b.dst ≠ some t) → (st q).1.get t = some u → ∃ cv', (a.put o.dst cv).tmps[t]? = some cv' ∧ VRel H M1 u cv' := by
    intro M1 cv hle hv hadopt t u q hq hnw ht
    rw [Act.put_get]
    by_cases hdt : o.dst = some t
    · simp only [hdt, if_true]
      have hadt : aops[j].dst = some t := by rw [hadst]; exact hdt
      have hv' : VRel H M1 v cv := hv fun _ hwt => hnw _ hwt hadt
      have hjq : j < q := (hq.2 j _ hao hadt).1 (.inr rfl)
      have hval : ∀ d, j + 1 + d ≤ q → (st (j + 1 + d)).1.get t = some v := by
        intro d
        induction d with
        | zero => intro _; rw [Nat.add_zero, Regs.get_put hput, hadt]; simp
        | succ d ihd =>
          intro hle
          have hlt : j + 1 + d < aops.length := by have := hq.1; omega
          obtain ⟨v2, _, hput2⟩ := operEval_out (ρ1 := (st (j + 1 + d + 1)).1) (σ1 := (st (j + 1 + d + 1)).2) (hr.step (j + 1 + d) _ (List.getElem?_eq_getElem hlt))
          rw [show j + 1 + (d + 1) = j + 1 + d + 1 by omega, Regs.get_put hput2]
          have hne : aops[j + 1 + d].dst ≠ some t := by
            intro hx
            rcases (hq.2 (j + 1 + d) _ (List.getElem?_eq_getElem hlt) hx).2 (by omega) with h5 | h5
            · exact haft (j + 1 + d) hlt ((hd.names j (j + 1 + d) _ _ (by omega) hao (List.getElem?_eq_getElem hlt)).1 t hadt (.inl hx)) h5
            · omega
          simp only [hne, if_false]
          exact ihd (by omega)
      have := hval (q - (j + 1)) (by omega)
      rw [show j + 1 + (q - (j + 1)) = q by omega] at this
      rw [this] at ht; simp only [Option.some.injEq] at ht; subst ht
      have hlt : t < a.tmps.size := by
        have h1 := (Regs.n_put hput).2 t hadt
        rw [n_const hr j (by omega)] at h1
        have := hinv.n; omega
      exact ⟨cv, by simp [hlt], hv'⟩
    · simp only [hdt, if_false]
      have hq' : Agree aops D t q := by
        refine ⟨hq.1, fun i b hb hbt => ?_⟩
        rw [← hq.2 i b hb hbt]
        refine ⟨.inl, fun h => h.resolve_right ?_⟩
        rintro rfl
        rw [hao] at hb; simp only [Option.some.injEq] at hb; subst hb
        exact hdt (by rw [← hadst]; exact hbt)
      by_cases hwx : ∃ b, Waits aops D L b ∧ b.dst = some t
      · obtain ⟨b, hwb, hbt⟩ := hwx
        obtain ⟨cvL, vL, hpL, htL, hvL⟩ := hadopt b hwb (fun h => hnw b h hbt)
        have hwb' := hwb
        obtain ⟨p', hp', hDL, hpL', hbL⟩ := hwb
        have hLq : L < q := (hq'.2 L b hbL hbt).1 hDL
        have hval : ∀ d, L + 1 + d ≤ q → (st (L + 1 + d)).1.get t = some vL := by
          intro d
          induction d with
          | zero => intro _; rw [Nat.add_zero, Regs.get_put hpL, hbt]; simp
          | succ d ihd =>
            intro hle
            have hlt : L + 1 + d < aops.length := by have := hq.1; omega
            obtain ⟨v2, _, hput2⟩ := operEval_out (ρ1 := (st (L + 1 + d + 1)).1) (σ1 := (st (L + 1 + d + 1)).2) (hr.step (L + 1 + d) _ (List.getElem?_eq_getElem hlt))
            rw [show L + 1 + (d + 1) = L + 1 + d + 1 by omega, Regs.get_put hput2]
            have hne : aops[L + 1 + d].dst ≠ some t := by
              intro hx
              have hDx := (hq'.2 (L + 1 + d) _ (List.getElem?_eq_getElem hlt) hx).2 (by omega)
              exact hquietT b hwb' t hbt (L + 1 + d) _ (List.getElem?_eq_getElem hlt) (by omega) (.inl hDx) (.inl hx)
            simp only [hne, if_false]
            exact ihd (by omega)
        have := hval (q - (L + 1)) (by omega)
        rw [show L + 1 + (q - (L + 1)) = q by omega] at this
        rw [this] at ht; simp only [Option.some.injEq] at ht; subst ht
        exact ⟨cvL, htL t hbt, hvL⟩
      · obtain ⟨cv', h1, h2⟩ := hinv.regs t u q hq' (fun b hb hbt => hwx ⟨b, hb, hbt⟩) ht
        exact ⟨cv', h1, h2.mono hle⟩
  have down' : ∀ (i : Nat) oi, ops[i]? = some oi → (D i ∨ i = j) → ∀ e ∈ oi.after, Region.binds .any e = true → (D e.on ∨ e.on = j) := by
    intro i oi hoi hDi e he hbd
    rcases hDi with hDi | rfl
    · exact .inl (hinv.down i oi hoi hDi e he hbd)
    · rw [ho] at hoi; simp only [Option.some.injEq] at hoi; subst hoi
      exact .inl (hafter e he hbd)
  have tmpKept : ∀ b, Waits aops D L b → ∀ (cv : Value) d, b.dst = some d → (a.put o.dst cv).tmps[d]? = a.tmps[d]? := by
    intro b hb cv d hbd
    have hDL : D L := by obtain ⟨p', _, hDL, _, _⟩ := hb; exact hDL
    rw [Act.put_get, if_neg]
    intro hx
    exact hquietT b hb d hbd j _ hao (hjL hDL) (.inr rfl) (.inl (by rw [hadst]; exact hx))
  have n' : ∀ cv : Value, (st 0).1.n ≤ (a.put o.dst cv).tmps.size := fun cv => by rw [Act.put_size]; exact hinv.n
  by_cases hch : changer aops[j] = true
  · by_cases hjp : j = p
    · -- its turn
      subst hjp
      have hout' : operOut E ih (restr (reads aops[j]) (st j).1) (st j).2 aops[j] = some (v, (st (j + 1)).2) := by rw [restr_out]; exact hout
      refine oper_out hcall hround hone hout' hrr (hinv.world j hp) hin fun cv w1 M1 hv hw1 hk => ?_
      obtain ⟨p', hp'⟩ := first_ex_out (aops := aops) (D := fun i => D i ∨ i = j)
      have hlt : j < p' := by
        rcases Nat.lt_trichotomy j p' with h | h | h
        · exact h
        · subst h; exact absurd (.inr rfl) (hp'.2.2 _ hao).2
        · have hl : p' < aops.length := by omega
          obtain ⟨h1, h2⟩ := hp'.2.2 _ (List.getElem?_eq_getElem hl)
          exact absurd (.inl (hp.2.1 p' _ (List.getElem?_eq_getElem hl) h1 h)) h2
      have hmid : ∀ (i : Nat) b, aops[i]? = some b → j < i → i < p' → changer b = true → i = L ∧ D L := by
        intro i b hb h1 h2 hcb
        rcases hp'.2.1 i b hb hcb h2 with h3 | h3
        · obtain ⟨rfl, _⟩ := hlate i b hb hcb h1 (.inl h3); exact ⟨rfl, h3⟩
        · omega
      by_cases had : ∃ b, Waits aops D L b ∧ L < p'
      · obtain ⟨b, hwb, hLp⟩ := had
        obtain ⟨A, cs, c1, e, cvL, vL, hpd⟩ := hinv.pend b hwb
        have hpd1 := hpd.keeps (a' := a.put o.dst cv) hk (tmpKept b hwb cv)
        have hwb' := hwb
        obtain ⟨p2, hp2, hDL, hpL, hbL⟩ := hwb'
        have := first_one hp hp2; subst this
        have e1 : (st L).2 = (st (j + 1)).2 := span hr (by omega) (by have := (List.getElem?_eq_some_iff.1 hbL).1; omega) fun i b' g1 g2 hb' => by
          cases hc : changer b' with
          | false => rfl
          | true => have := (hmid i b' hb' (by omega) (by omega) hc).1; omega
        have e2 : (st p').2 = (st (L + 1)).2 := span hr (by omega) hp'.1 fun i b' g1 g2 hb' => by
          cases hc : changer b' with
          | false => rfl
          | true => have := (hmid i b' hb' (by omega) (by omega) hc).1; omega
        obtain ⟨hw2, hk2⟩ := adopt hw1 (hk0.trans hk) h0 hpd1.ge hpd1.obj hpd1.free hpd1.rel
        have hle := M1.le_add A c1.length
        refine hK cv w1 (M1.add A c1.length) ⟨down', n' cv, regs' _ cv (hk.le.trans hle) (fun _ => hv.mono hle) ?_, fun q hq => ?_, ?_⟩ hk2
        · rintro b2 ⟨_, _, _, _, hb2⟩ _
          rw [hbL] at hb2; simp only [Option.some.injEq] at hb2; subst hb2
          exact ⟨cvL, vL, hpd.put, hpd.tmp, hpd.val M1 (by rw [hw1.next, e1])⟩
        · have := first_one hp' hq; subst this
          rw [e2, hpd.new, e1]; exact hw2
        · rintro b2 ⟨p3, hp3, _, hpL3, _⟩
          have := first_one hp' hp3; subst this; omega
      · have e2 : (st p').2 = (st (j + 1)).2 := span hr (by omega) hp'.1 fun i b' g1 g2 hb' => by
          cases hc : changer b' with
          | false => rfl
          | true =>
            obtain ⟨rfl, hDL⟩ := hmid i b' hb' (by omega) (by omega) hc
            exact absurd ⟨b', ⟨j, hp, hDL, by omega, hb'⟩, by omega⟩ had
        refine hK cv w1 M1 ⟨down', n' cv, regs' _ cv hk.le (fun _ => hv) ?_, fun q hq => ?_, ?_⟩ (hk0.trans hk)
        · rintro b hwb hnot
          have hwb' := hwb
          obtain ⟨p2, hp2, hDL, hpL, hbL⟩ := hwb'
          have hge : p' ≤ L := by
            rcases Nat.lt_or_ge L p' with h | h
            · exact absurd ⟨b, hwb, h⟩ had
            · exact h
          have hne : p' ≠ L := by
            rintro rfl; exact (hp'.2.2 _ hbL).2 (.inl hDL)
          exact absurd ⟨p', hp', .inl hDL, by omega, hbL⟩ hnot
        · have := first_one hp' hq; subst this
          rw [e2]; exact hw1
        · rintro b ⟨p3, hp3, hDL, hpL3, hbL⟩
          have := first_one hp' hp3; subst this
          have hDL' : D L := hDL.resolve_right (by omega)
          have hwb : Waits aops D L b := ⟨j, hp, hDL', by omega, hbL⟩
          obtain ⟨A, cs, c1, e, cvL, vL, hpd⟩ := hinv.pend b hwb
          exact ⟨A, cs, c1, e, cvL, vL, hpd.keeps (a' := a.put o.dst cv) hk (tmpKept b hwb cv)⟩
    · -- an allocation ahead of its turn
      have hpj : p < j := by
        rcases Nat.lt_trichotomy p j with h | h | h
        · exact h
        · exact absurd h.symm hjp
        · exact absurd (hp.2.1 j _ hao hch h) hj
      obtain ⟨hjL', -⟩ := hlate j _ hao hch hpj (.inr rfl)
      have hp' : FirstOut aops (fun i => D i ∨ i = j) p := ⟨hp.1, fun i b hb hc hi => .inl (hp.2.1 i b hb hc hi), fun b hb => ⟨(hp.2.2 b hb).1, fun h => h.elim (hp.2.2 b hb).2 (fun h => hjp h.symm)⟩⟩
      obtain ⟨hlo, hg, -⟩ := hd.late o aops[j] (by rw [← hjL']; exact ho) (by rw [← hjL']; exact hao)
      have hwt : wantedV (restr (reads aops[j]) (st j).1) aops[j].guard = some true := by rw [hg]; rfl
      have hev : ∃ r, opEval aops[j].op (restr (reads aops[j]) (st j).1) (st j).2 = some r := by
        have := hout
        rw [← restr_out] at this
        unfold operOut at this
        rw [hwt] at this
        simp only at this
        split at this
        · exact ⟨_, by assumption⟩
        · exact ⟨_, by assumption⟩
        · exact ⟨_, by assumption⟩
        · simp at this
      obtain ⟨r, hev⟩ := hev
      have htr : trOp P o.op = some aops[j].op := by
        rcases hone.op with h1 | h1
        · rw [h1] at hev; simp [opEval, evStuck] at hev
        · exact h1
      obtain ⟨v2, cs, cv, c1, e, hre, hrun, hrel, hval⟩ := late_run (w := w) hlo htr hrr hev
      subst hre
      have hsame : v2 = v ∧ (st j).2.new (.cells cs false) = (st (j + 1)).2 := by
        have := hout
        rw [← restr_out] at this
        unfold operOut at this
        rw [hwt, hev] at this
        simpa using this
      obtain ⟨rfl, hnew⟩ := hsame
      rw [wanted_sound hone hrr hwt]
      simp only [if_true]
      refine ⟨fun _ _ => trivial, ?_⟩
      rw [Oper.semAt_eq _ _ _ (not_defer htr), hrun]
      simp only [Oper.uponIn]
      obtain ⟨hwj, hkj⟩ := (hinv.world p hp).junk (.cells c1.toArray e)
      have hwaits : Waits aops (fun i => D i ∨ i = j) L aops[j] := ⟨p, hp', .inr hjL'.symm, by omega, by rw [← hjL']; exact hao⟩
      have hnoD : ¬ D L := by rw [← hjL']; exact hj
      refine hK cv _ M ⟨down', n' cv, regs' M cv (Mu.Le.refl M) (fun h => absurd hwaits (h hjL')) ?_, fun q hq => ?_, ?_⟩ (hk0.trans hkj)
      · rintro b ⟨_, _, hDL, _, _⟩ _; exact absurd hDL hnoD
      · have := first_one hp' hq; subst this; exact hwj
      · rintro b ⟨p3, hp3, _, _, hbL⟩
        rw [← hjL', hao] at hbL; simp only [Option.some.injEq] at hbL; subst hbL
        refine ⟨w.heap.size, cs, c1, e, cv, v2, ⟨hk0.size, by simp, fun b n hb => ?_, hrel, by rw [← hjL']; exact hnew.symm, by rw [← hjL']; exact hput, fun d hdd => ?_, by rw [← hjL']; exact hval⟩⟩
        · have := (hinv.world p hp).bnd b _ n hb; omega
        · have h1 := (Regs.n_put hput).2 d hdd
          rw [n_const hr j (by omega)] at h1
          have := hinv.n
          rw [hadst] at hdd
          rw [Act.put_get, if_pos hdd, if_pos (by omega)]
  · -- it leaves the store alone
    have hcf : changer aops[j] = false := by simpa using hch
    have hp' : FirstOut aops (fun i => D i ∨ i = j) p := ⟨hp.1, fun i b hb hc hi => .inl (hp.2.1 i b hb hc hi), fun b hb => ⟨(hp.2.2 b hb).1, fun h => h.elim (hp.2.2 b hb).2 (fun h => by
      subst h; rw [hao] at hb; simp only [Option.some.injEq] at hb; subst hb
      have := (hp.2.2 _ hao).1; rw [hcf] at this; simp at this)⟩⟩
    have hjL2 : ∀ b, aops[L]? = some b → j ≠ L := by
      rintro b hb rfl
      rw [hao] at hb; simp only [Option.some.injEq] at hb; subst hb
      have := (hd.late o _ ho hao).2.2; rw [hcf] at this; simp at this
    have hout' : operOut E ih (restr (reads aops[j]) (st j).1) (st p).2 aops[j] = some (v, (st p).2) := by
      rw [restr_out]
      obtain ⟨hsame, hq | ⟨hg, hev⟩⟩ := quiet_out hcf hout
      · obtain ⟨hg, rfl⟩ := hq
        unfold operOut; rw [hg]
      · unfold operOut
        rw [hg]
        have hk : kind aops[j].op ≤ 1 := by simpa [changer] using hcf
        have : ∃ s, opEval aops[j].op (st j).1 (st p).2 = some (.v v s) := by
          rcases Nat.lt_or_ge (kind aops[j].op) 1 with h0 | h0
          · obtain ⟨u, hu, hall⟩ := pure_op (by omega) hev
            injection hu with hu1 hu2
            rw [hu1]; exact ⟨_, hall (st p).2⟩
          · exact read_at hd hr hp hao hbef haft (by omega) hg hev
        obtain ⟨s, hs'⟩ := this
        have hss : s = (st p).2 := by
          rcases Nat.lt_or_ge (kind aops[j].op) 1 with h0 | h0
          · obtain ⟨u, hu, _⟩ := pure_op (by omega) hs'; injection hu
          · obtain ⟨u, hu⟩ := read_op (by omega) hs'; injection hu
        simp only [hs', hss]
    refine oper_out hcall hround hone hout' hrr (hinv.world p hp) hin fun cv w1 M1 hv hw1 hk => ?_
    refine hK cv w1 M1 ⟨down', n' cv, regs' _ cv hk.le (fun _ => hv) ?_, fun q hq => ?_, ?_⟩ (hk0.trans hk)
    · rintro b ⟨p2, hp2, hDL, hpL, hbL⟩ hnot
      have := first_one hp hp2; subst this
      exact absurd ⟨p, hp', .inl hDL, hpL, hbL⟩ hnot
    · have := first_one hp' hq; subst this; exact hw1
    · rintro b ⟨p3, hp3, hDL, hpL3, hbL⟩
      have := first_one hp' hp3; subst this
      have hDL' : D L := hDL.resolve_right (fun h => hjL2 b hbL h.symm)
      have hwb : Waits aops D L b := ⟨p, hp, hDL', hpL3, hbL⟩
      obtain ⟨A, cs, c1, e, cvL, vL, hpd⟩ := hinv.pend b hwb
      exact ⟨A, cs, c1, e, cvL, vL, hpd.keeps (a' := a.put o.dst cv) hk (tmpKept b hwb cv)⟩
end
end Am
/- Regions in whatever order: together. The evaluator as a whole. -/
namespace Am
open Go
variable {H : Hc} {M M' : Mu} {σ σ' : St} {w w' : World} {P : Program} {ρ ρ' : Regs} {a : Act} {E : Env} {ih : ACode → Regs → St → R}

def DL (l : Array Bool) (i : Nat) : Prop := l[i]? = some true
theorem DL_set {l : Array Bool} {j : Nat} (hj : j < l.size) (i : Nat) : DL (l.setIfInBounds j true) i ↔ DL l i ∨ i = j := by
  unfold DL
  rw [Array.getElem?_setIfInBounds]
  by_cases e : j = i
  · subst e; simp [hj]
  · simp [e, Ne.symm e]
theorem ready_iff {ops : Array Oper} {listed : Array Bool} {j : Nat} (hs : listed.size = ops.size) : j ∈ Region.ready .any ops listed ↔ j < ops.size ∧ ¬ DL listed j ∧ ∃ o, ops[j]? = some o ∧ ∀ e ∈ o.after, Region.binds .any e = true → DL listed e.on := by
  rw [mem_ready]
  constructor
  · rintro ⟨h1, o, h2, h3⟩
    have hj : j < ops.size := (Array.getElem?_eq_some_iff.1 h2).1
    refine ⟨hj, fun h => ?_, o, h2, fun e he hb => ?_⟩
    · simp [DL] at h
      rw [Array.getD_eq_getD_getElem?, h] at h1; simp at h1
    · have := h3 e he hb
      unfold DL
      rw [Array.getD_eq_getD_getElem?] at this
      cases hx : listed[e.on]? with
      | none => simp [hx] at this
      | some b => simp [hx] at this; rw [this]
  · rintro ⟨hj, h1, o, h2, h3⟩
    refine ⟨?_, o, h2, fun e he hb => ?_⟩
    · have hj' : j < listed.size := by omega
      rw [Array.getD_eq_getD_getElem?, Array.getElem?_eq_getElem hj']
      simp only [Option.getD_some]
      cases hx : listed[j] with
      | false => rfl
      | true => exact absurd (by unfold DL; rw [Array.getElem?_eq_getElem hj', hx]) h1
    · have := h3 e he hb
      unfold DL at this
      rw [Array.getD_eq_getD_getElem?, this]; rfl
section
variable {ops : Array Oper} {aops : List AOper} {B : List Nat} {floats : List (Nat × Nat × Nat)} {st : Nat → Regs × St} {L : Nat}
theorem inv_congr {w0 : World} {D D' : Nat → Prop} (h : ∀ i, D i ↔ D' i) (hi : Inv P H ops aops st L w0 D M a w) : Inv P H ops aops st L w0 D' M a w := by
  have : D = D' := funext fun i => propext (h i)
  rw [← this]; exact hi
theorem any_sound (hs : OpsRel P ops aops) (hd : DrawnOk ops aops B L floats) (hr : Run E ih aops floats st)
    (hcall : ∀ f args σ v σ', callF E ih f args σ = some (v, σ') → CallOk P H f args σ v σ') (hround : ∀ b args σ v σ', roundF ih b args σ = some (v, σ') → RoundOk P H b args σ v σ')
    {ro : Option Nat} {n : Nat} {Q : Exit → Act → World → Prop} {M0 : Mu} {w0 : World} {ds : List Deferred} (h0 : ∀ c off v, H c off = some v → c < w0.heap.size) (hin0 : InR ro w0)
    (hQ : ∀ M a w, (∀ t v, (st aops.length).1.get t = some v → ∃ cv, a.tmps[t]? = some cv ∧ VRel H M v cv) → (st 0).1.n ≤ a.tmps.size → WRel (CRel P) H M (st aops.length).2 w → Keeps M0 M w0 w → a.defers = ds → Q .normal a w) :
    ∀ (fuel : Nat) (listed : Array Bool) (M : Mu) (a : Act) (w : World), listed.size = ops.size → cf listed.toList = fuel → Inv P H ops aops st L w0 (DL listed) M a w → Keeps M0 M w0 w → a.defers = ds →
      wpAnyIn (Wide ro) n P .any ops Q fuel listed a w := by
  have hend : ∀ (listed : Array Bool) (M : Mu) (a : Act) (w : World), listed.size = ops.size → Inv P H ops aops st L w0 (DL listed) M a w → Keeps M0 M w0 w → a.defers = ds → Region.ready .any ops listed = [] → Q .normal a w := by
    intro listed M a w hsz hinv hk hdf hrd
    have all : ∀ i, i < ops.size → DL listed i := by
      intro i
      induction i using Nat.strongRecOn with
      | _ i ihi =>
        intro hi
        refine Classical.byContradiction fun hno => ?_
        have hoi : ops[i]? = some ops[i] := by simp [hi]
        have : i ∈ Region.ready .any ops listed := (ready_iff hsz).2 ⟨hi, hno, ops[i], hoi, fun e he hb => by
          have := hd.back i _ hoi e he hb
          exact ihi e.on this (by omega)⟩
        rw [hrd] at this; simp at this
    have hlt : ∀ (i : Nat) b, aops[i]? = some b → i < aops.length := fun i b hb => (List.getElem?_eq_some_iff.1 hb).1
    have hfo : FirstOut aops (DL listed) aops.length := ⟨Nat.le_refl _, fun i b hb _ _ => all i (by rw [← hs.size]; exact hlt i b hb), fun b hb => by simp at hb⟩
    refine hQ M a w (fun t v ht => ?_) hinv.n (hinv.world _ hfo) hk hdf
    refine hinv.regs t v aops.length ⟨Nat.le_refl _, fun i b hb _ => ⟨fun _ => hlt i b hb, fun _ => all i (by rw [← hs.size]; exact hlt i b hb)⟩⟩ ?_ ht
    rintro b ⟨p, hp, _, hpL, hbL⟩
    have := first_one hfo hp
    have := hlt L b hbL
    omega
  intro fuel
  induction fuel with
  | zero =>
    intro listed M a w hsz hcf hinv hk hdf
    have hrd : Region.ready .any ops listed = [] := by
      cases hx : Region.ready .any ops listed with
      | nil => rfl
      | cons j l =>
        have hj : j ∈ Region.ready .any ops listed := by rw [hx]; simp
        obtain ⟨h1, h2, _⟩ := (ready_iff hsz).1 hj
        have hj' : j < listed.size := by omega
        have := cf_zero _ hcf j listed[j] (by simp [hj'])
        exact absurd (by unfold DL; rw [Array.getElem?_eq_getElem hj', this]) h2
    exact ⟨hrd, hend listed M a w hsz hinv hk hdf hrd⟩
  | succ fuel ihf =>
    intro listed M a w hsz hcf hinv hk hdf
    refine ⟨fun hrd => hend listed M a w hsz hinv hk hdf hrd, fun j hj => ?_⟩
    obtain ⟨h1, h2, o, ho, hafter⟩ := (ready_iff hsz).1 hj
    have hj' : j < listed.size := by omega
    unfold wpOpIn
    rw [ho]
    refine inv_step hs hd hr h0 hcall hround hinv hk (hin0.keeps hk) ho h2 hafter fun cv w1 M1 hinv' hk1 => ?_
    have hfalse : listed.toList[j]? = some false := by
      rw [Array.getElem?_toList, Array.getElem?_eq_getElem hj']
      cases hx : listed[j] with
      | false => rfl
      | true => exact absurd (by unfold DL; rw [Array.getElem?_eq_getElem hj', hx]) h2
    refine ihf _ M1 _ w1 (by simpa using hsz) ?_ (inv_congr (fun i => (DL_set hj' i).symm) hinv') hk1 (by rw [Act.put_defers']; exact hdf)
    have := cf_set listed.toList j hfalse
    have e : (listed.setIfInBounds j true).toList = listed.toList.set j true := by simp
    rw [e]; omega
end
theorem drawn_sound (hm : P.follows .mixedOrders = true) : DrawnSound P H E := by
  intro ih hcall hround id ops aops B L floats outs ρ σ e ρ' σ' hs hd h ro n M a w hr hw hin
  -- the states
  have htr : ∃ tr ρe σe, opsTrace E ih aops ρ σ = some (tr, ρe, σe) ∧ opsNil outs ρe σe = some (e, ρ', σ') ∧ floats.all (floatOk aops tr (ρe, σe)) = true := by
    unfold drawnEval at h
    split at h
    · obtain ⟨tr, ρe, σe, h1, h2⟩ := opsEval_trace _ _ _ h
      exact ⟨tr, ρe, σe, h1, h2, rfl⟩
    · split at h
      · rename_i tr ρe σe ht
        split at h
        · rename_i hf; exact ⟨tr, ρe, σe, ht, h, hf⟩
        · simp at h
      · simp at h
  obtain ⟨tr, ρe, σe, htr, hnil, hfl⟩ := htr
  obtain ⟨hlen, h0, hstep⟩ := opsTrace_spec _ _ _ _ _ _ htr
  have hL : (tr ++ [(ρe, σe)]).length = aops.length + 1 := by simp [hlen]
  let st : Nat → Regs × St := fun i => ((tr ++ [(ρe, σe)])[i]?).getD (ρ, σ)
  have hst : ∀ i s, (tr ++ [(ρe, σe)])[i]? = some s → st i = s := fun i s h => by simp only [st, h, Option.getD_some]
  have hst' : ∀ i, i ≤ aops.length → (tr ++ [(ρe, σe)])[i]? = some (st i) := by
    intro i hi
    have : i < (tr ++ [(ρe, σe)]).length := by omega
    rw [List.getElem?_eq_getElem this]
    simp only [st, List.getElem?_eq_getElem this, Option.getD_some]
  have hrun : Run E ih aops floats st := by
    refine ⟨fun i o ho => ?_, fun x lo hi o hm ho hg => ?_⟩
    · obtain ⟨s, s', g1, g2, g3⟩ := hstep i o ho
      rw [hst i s g1, hst (i + 1) s' g2]; exact g3
    · have hx : x < aops.length := (List.getElem?_eq_some_iff.1 ho).1
      have hok := List.all_eq_true.1 hfl _ hm
      simp only [floatOk, nth_eq] at hok
      rw [ho, hst' x (by omega)] at hok
      simp only [hg] at hok
      split at hok
      · rename_i v s hev
        refine ⟨v, ⟨s, hev⟩, fun i h1 h2 h3 => ?_⟩
        refine sameRead_spec _ hok (st i) ?_
        rw [List.mem_iff_getElem?]
        refine ⟨i - lo, ?_⟩
        rw [List.getElem?_drop, List.getElem?_take, if_pos (by omega), show lo + (i - lo) = i by omega]
        exact hst' i h3
      · simp at hok
  have e0 : st 0 = (ρ, σ) := hst 0 _ h0
  have en : st aops.length = (ρe, σe) := hst _ _ (by rw [List.getElem?_append_right (by omega), hlen]; simp)
  refine wpIn_region_any hm ?_
  obtain ⟨hw1, hk1⟩ := hw.drew
  refine any_sound hs hd hrun hcall hround (M0 := M) (w0 := w) (ds := a.defers) (fun c off v hv => World.block_lt_of_cell? _ _ (hw.imm c off v hv)) hin ?_ ops.size (Array.replicate ops.size false) M a _ (by simp) (by rw [Array.toList_replicate]; exact cf_rep _) ?_ hk1 rfl
  · intro M2 a2 w2 hregs hn hw2 hk2 hdf
    rw [en] at hregs hw2
    rw [e0] at hn
    have hne := n_const hrun aops.length (Nat.le_refl _)
    rw [en, e0] at hne
    simp only [opsNil] at hnil
    split at hnil
    · rename_i ρ2 hkp
      simp only [Option.some.injEq, Prod.mk.injEq] at hnil; obtain ⟨rfl, rfl, rfl⟩ := hnil
      have hre : RRel H M2 ρe a2.tmps := ⟨by rw [hne]; exact hn, hregs⟩
      exact ⟨rfl, M2, hre.keep hkp, hw2, hk2, by rw [hdf]; exact Mks.refl _ _ _ _⟩
    · simp at hnil
  · have hnone : ∀ i, ¬ DL (Array.replicate ops.size false) i := by
      intro i h
      unfold DL at h
      rw [Array.getElem?_replicate] at h
      split at h <;> simp at h
    have hz : ∀ q, q ≤ aops.length → (∀ (i : Nat) b, aops[i]? = some b → True) → True := fun _ _ _ => trivial
    refine ⟨fun j o ho hj => absurd hj (hnone j), by rw [e0]; exact hr.1, fun t v q hq _ ht => ?_, fun p hp => ?_, fun b hb => ?_⟩
    · -- nobody writes it ahead of q
      have hval : ∀ d, d ≤ q → (st d).1.get t = ρ.get t := by
        intro d
        induction d with
        | zero => intro _; rw [e0]
        | succ d ihd =>
          intro hle
          have hlt : d < aops.length := by have := hq.1; omega
          obtain ⟨v2, _, hput2⟩ := operEval_out (ρ1 := (st (d + 1)).1) (σ1 := (st (d + 1)).2) (hrun.step d _ (List.getElem?_eq_getElem hlt))
          rw [Regs.get_put hput2]
          have hne : aops[d].dst ≠ some t := fun hx => hnone d ((hq.2 d _ (List.getElem?_eq_getElem hlt) hx).2 (by omega))
          simp only [hne, if_false]
          exact ihd (by omega)
      rw [hval q (Nat.le_refl _)] at ht
      exact hr.2 t v ht
    · have : (st p).2 = (st 0).2 := span hrun (Nat.zero_le _) hp.1 fun i b _ h2 hb => by
        cases hc : changer b with
        | false => rfl
        | true => exact absurd (hp.2.1 i b hb hc h2) (hnone i)
      rw [this, e0]; exact hw1
    · obtain ⟨_, _, hDL, _, _⟩ := hb; exact absurd hDL (hnone L)
theorem hcall_ok (hm : P.follows .mixedOrders = true) (hE : EnvOk P H E) {k f : Nat} {args : List PV} {v : PV} (h : hcall E k f args σ = some (v, σ')) : CallOk P H f args σ v σ' := hcall_sound hE (drawn_sound hm) h
end Am
/- The abstract machine's code out of the program's: a total function; what it cannot take is stuck. -/
namespace Am
open Go

def trGuard (ops : Array Oper) : Option (Nat × Bool) → Option (Option (Nat × Bool))
  | none => some none
  | some (j, v) => match (ops[j]?).bind (·.dst) with
    | some t => some (some (t, v))
    | none => none
def trOper (P : Program) (ops : Array Oper) (o : Oper) : Option AOper :=
  match trGuard ops o.guard with
  | some g => match trOp P o.op with
    | some ao => some { dst := o.dst, op := ao, guard := g }
    | none => some { dst := o.dst, op := .stuck, guard := g }
  | none => none
theorem trOper_rel {P : Program} {ops : Array Oper} {o : Oper} {ao : AOper} (h : trOper P ops o = some ao) : OperRel P ops o ao := by
  unfold trOper at h
  split at h
  · rename_i g hg
    have hgr : GuardRel ops o.guard g := by
      unfold trGuard at hg
      split at hg
      · simp at hg; subst hg; rename_i e; rw [e]; trivial
      · rename_i j v e
        split at hg
        · rename_i t ht; simp only [Option.some.injEq] at hg; subst hg; rw [e]; exact ⟨rfl, ht⟩
        · simp at hg
    split at h
    · rename_i ao' hop; simp only [Option.some.injEq] at h; subst h; exact ⟨rfl, .inr hop, hgr⟩
    · simp only [Option.some.injEq] at h; subst h; exact ⟨rfl, .inl rfl, hgr⟩
  · simp at h
theorem mapO_spec {α β : Type} (f : α → Option β) : ∀ (l : List α) (r : List β), mapO f l = some r → r.length = l.length ∧ ∀ (i : Nat) x y, l[i]? = some x → r[i]? = some y → f x = some y
  | [], r, h => by simp [mapO] at h; subst h; exact ⟨rfl, fun i x y hx => by simp at hx⟩
  | x :: l, r, h => by
    obtain ⟨y, ys, h1, h2, rfl⟩ := mapO_cons h
    obtain ⟨g1, g2⟩ := mapO_spec f l ys h2
    refine ⟨by simp [g1], fun i a b ha hb => ?_⟩
    cases i with
    | zero => simp at ha hb; subst ha hb; exact h1
    | succ i => exact g2 i a b (by simpa using ha) (by simpa using hb)
theorem trOpers_rel {P : Program} {ops : Array Oper} {aops : List AOper} (h : mapO (trOper P ops) ops.toList = some aops) : OpsRel P ops aops := by
  obtain ⟨h1, h2⟩ := mapO_spec _ _ _ h
  exact ⟨by simpa using h1, fun i o ao ho hao => trOper_rel (h2 i o ao (by simpa using ho) hao)⟩

/-! ### Orders -/
def maskOf (B : List Nat) : List Edge → Nat
  | [] => 0
  | e :: es => match Region.binds .any e with
    | true => (1 <<< e.on) ||| B.getD e.on 0 ||| maskOf B es
    | false => maskOf B es
def masksFrom (acc : List Nat) : List Oper → List Nat
  | [] => acc
  | o :: os => masksFrom (acc ++ [maskOf acc o.after.toList]) os
def allIdx {α : Type} (f : Nat → α → Bool) : Nat → List α → Bool
  | _, [] => true
  | k, x :: xs => match f k x with
    | true => allIdx f (k + 1) xs
    | false => false
theorem allIdx_spec {α : Type} {f : Nat → α → Bool} : ∀ (l : List α) (k : Nat), allIdx f k l = true → ∀ (i : Nat) x, l[i]? = some x → f (k + i) x = true
  | [], k, _, i, x, hx => by simp at hx
  | y :: l, k, h, i, x, hx => by
    simp only [allIdx] at h
    split at h
    · rename_i hy
      cases i with
      | zero => simp at hx; subst hx; simpa using hy
      | succ i => have := allIdx_spec l (k + 1) h i x (by simpa using hx); rwa [show k + (i + 1) = k + 1 + i by omega]
    · simp at h
def okMask (B : List Nat) (j : Nat) (o : Oper) : Bool := Nat.beq (B.getD j 0) (maskOf B o.after.toList) && o.after.toList.all fun e => !Region.binds .any e || Nat.blt e.on j
def elemO (d : Option Nat) (l : List Nat) : Bool := match d with
  | none => false
  | some d => Regs.elemN d l
def sameO : Option Nat → Option Nat → Bool
  | some a, some b => Nat.beq a b
  | _, _ => false
def okNames (B : List Nat) (i : Nat) (a : AOper) (ra : List Nat) (j : Nat) (b : AOper) (rb : List Nat) : Bool :=
  match sameO a.dst b.dst || elemO a.dst rb || elemO b.dst ra with
  | true => bef B i j
  | false => true
def floatAt (floats : List (Nat × Nat × Nat)) (x : Nat) : Option (Nat × Nat) := match floats with
  | [] => none
  | (y, lo, hi) :: l => match Nat.beq y x with
    | true => some (lo, hi)
    | false => floatAt l x
def doneBy (B : List Nat) (x : Nat) : Nat → Nat → List (AOper × List Nat) → Bool
  | _, 0, _ => false
  | _, _ + 1, [] => false
  | f, n + 1, b :: l => (changer b.1 && bef B x f) || doneBy B x (f + 1) n l
def okFloat (B : List Nat) (aops : List (AOper × List Nat)) (floats : List (Nat × Nat × Nat)) (x c : Nat) : Bool :=
  match Nat.blt c x with
  | true => bef B c x || (match floatAt floats x with | some (lo, hi) => Nat.ble lo c && Nat.ble x hi | none => false)
  | false => Nat.beq c x || bef B x c || (match floatAt floats x with | some (lo, hi) => Nat.ble lo x && Nat.blt c hi | none => false) || doneBy B x 0 c aops
def lateClause (B : List Nat) (aops : List (AOper × List Nat)) (L i : Nat) (dst : Option Nat) : Bool :=
  allIdx (fun k c => Nat.beq k L || !(sameO dst c.1.dst || elemO dst c.2) || bef B i k) 0 aops
def okPair (B : List Nat) (L : Nat) (floats : List (Nat × Nat × Nat)) (aops : List (AOper × List Nat)) (j : Nat) (b : AOper × List Nat) : Bool :=
  let cb := changer b.1
  let kb := Nat.beq (kind b.1.op) 1
  allIdx (fun i a => (!Nat.blt i j || (okNames B i a.1 a.2 j b.1 b.2 && (!(cb && changer a.1) || bef B i j || (Nat.beq j L && lateClause B aops L i b.1.dst)))) && (!(kb && changer a.1) || okFloat B aops floats j i)) 0 aops
def okLate (ops : Array Oper) (aops : List AOper) (L : Nat) : Bool := match ops[L]?, aops[L]? with
  | some o, some a => lateOp o.op && a.guard.isNone && changer a
  | _, _ => true
def okDrawn (ops : Array Oper) (aops : List AOper) (B : List Nat) (L : Nat) (floats : List (Nat × Nat × Nat)) : Bool :=
  let ra := aops.map fun a => (a, reads a)
  allIdx (okMask B) 0 ops.toList && okLate ops aops L && allIdx (okPair B L floats ra) 0 ra
theorem maskOf_spec {B : List Nat} {i : Nat} : ∀ (l : List Edge), (maskOf B l).testBit i = true → ∃ e ∈ l, Region.binds .any e = true ∧ (e.on = i ∨ bef B i e.on = true)
  | [], h => by simp [maskOf] at h
  | e :: l, h => by
    simp only [maskOf] at h
    split at h
    · rename_i hb
      simp only [Nat.testBit_or, Bool.or_eq_true] at h
      rcases h with (h | h) | h
      · rw [Nat.one_shiftLeft, Nat.testBit_two_pow] at h
        exact ⟨e, by simp, hb, .inl (by simpa using h)⟩
      · exact ⟨e, by simp, hb, .inr h⟩
      · obtain ⟨e', h1, h2⟩ := maskOf_spec l h; exact ⟨e', by simp [h1], h2⟩
    · obtain ⟨e', h1, h2⟩ := maskOf_spec l h; exact ⟨e', by simp [h1], h2⟩
theorem floatAt_mem : ∀ (l : List (Nat × Nat × Nat)) (x lo hi : Nat), floatAt l x = some (lo, hi) → (x, lo, hi) ∈ l
  | [], x, lo, hi, h => by simp [floatAt] at h
  | (y, a, b) :: l, x, lo, hi, h => by
    simp only [floatAt] at h
    split at h
    · rename_i e; have := Nat.eq_of_beq_eq_true e; subst this
      simp only [Option.some.injEq, Prod.mk.injEq] at h; obtain ⟨rfl, rfl⟩ := h; simp
    · exact List.mem_cons_of_mem _ (floatAt_mem l x lo hi h)
theorem doneBy_spec {B : List Nat} {x : Nat} : ∀ (l : List (AOper × List Nat)) (f n : Nat), doneBy B x f n l = true → ∃ i b, l[i]? = some b ∧ changer b.1 = true ∧ i < n ∧ bef B x (f + i) = true
  | [], f, n, h => by cases n <;> simp [doneBy] at h
  | b :: l, f, 0, h => by simp [doneBy] at h
  | b :: l, f, n + 1, h => by
    simp only [doneBy, Bool.or_eq_true, Bool.and_eq_true] at h
    rcases h with h | h
    · exact ⟨0, b, rfl, h.1, by omega, by simpa using h.2⟩
    · obtain ⟨i, b', h1, h2, h3, h4⟩ := doneBy_spec l (f + 1) n h
      exact ⟨i + 1, b', by simpa using h1, h2, by omega, by rw [show f + (i + 1) = f + 1 + i by omega]; exact h4⟩
theorem okDrawn_spec {ops : Array Oper} {aops : List AOper} {B : List Nat} {L : Nat} {floats : List (Nat × Nat × Nat)} (h : okDrawn ops aops B L floats = true) : DrawnOk ops aops B L floats := by
  simp only [okDrawn, Bool.and_eq_true] at h
  obtain ⟨⟨h1, h2⟩, h3⟩ := h
  have m1 : ∀ (j : Nat) o, ops[j]? = some o → okMask B j o = true := fun j o ho => by
    have := allIdx_spec _ 0 h1 j o (by simpa using ho); simpa using this
  have hra : ∀ (j : Nat) b, aops[j]? = some b → (aops.map fun a => (a, reads a))[j]? = some (b, reads b) := fun j b hb => by simp [hb]
  have m2 : ∀ (i j : Nat) a b, aops[i]? = some a → aops[j]? = some b →
      ((!Nat.blt i j || (okNames B i a (reads a) j b (reads b) && (!(changer b && changer a) || bef B i j || (Nat.beq j L && lateClause B (aops.map fun a => (a, reads a)) L i b.dst)))) && (!(Nat.beq (kind b.op) 1 && changer a) || okFloat B (aops.map fun a => (a, reads a)) floats j i)) = true := by
    intro i j a b ha hb
    have h4 := allIdx_spec _ 0 h3 j _ (hra j b hb)
    simp only [okPair, Nat.zero_add] at h4
    have h5 := allIdx_spec _ 0 h4 i _ (hra i a ha)
    simpa using h5
  refine ⟨fun j o ho i hb => ?_, fun j o ho e he hb => ?_, fun i j a b hij ha hb => ?_, fun i j a b hij ha hb hca hcb => ?_, fun o a ho ha => ?_, fun x c a b ha hb hk hc => ?_⟩
  · have := m1 j o ho
    simp only [okMask, Bool.and_eq_true] at this
    have e := Nat.eq_of_beq_eq_true this.1
    unfold bef at hb
    rw [e] at hb
    obtain ⟨ed, g1, g2⟩ := maskOf_spec _ hb
    exact ⟨ed, by simpa using g1, g2⟩
  · have := m1 j o ho
    simp only [okMask, Bool.and_eq_true, List.all_eq_true] at this
    have := this.2 e (by simpa using he)
    simpa [hb] using this
  · have := m2 i j a b ha hb
    have hlt : Nat.blt i j = true := by simpa using hij
    simp only [hlt, Bool.not_true, Bool.false_or, Bool.and_eq_true] at this
    have hn := this.1.1
    unfold okNames at hn
    split at hn
    · exact ⟨fun d _ _ => hn, fun d _ _ => hn⟩
    · rename_i hf
      simp only [Bool.or_eq_false_iff] at hf
      obtain ⟨⟨f1, f2⟩, f3⟩ := hf
      refine ⟨fun d hd hx => ?_, fun d hd hx => ?_⟩
      · rcases hx with hx | hx
        · rw [hd, hx] at f1; simp [sameO] at f1
        · rw [hd] at f2; simp only [elemO] at f2; rw [(elemN_iff _ _).2 hx] at f2; simp at f2
      · rw [hd] at f3; simp only [elemO] at f3; rw [(elemN_iff _ _).2 hx] at f3; simp at f3
  · have := m2 i j a b ha hb
    have hlt : Nat.blt i j = true := by simpa using hij
    simp only [hlt, hca, hcb, Bool.not_true, Bool.false_or, Bool.and_eq_true, Bool.and_self, Bool.or_eq_true] at this
    rcases this.1.2 with h6 | ⟨h6, h7⟩
    · exact .inl h6
    · refine .inr ⟨Nat.eq_of_beq_eq_true h6, fun k c d hkc hkL hbd hnm => ?_⟩
      have h8 := allIdx_spec _ 0 h7 k _ (hra k c hkc)
      simp only [Nat.zero_add, Bool.or_eq_true, Bool.not_eq_true', Bool.or_eq_false_iff] at h8
      rcases h8 with (h8 | h8) | h8
      · exact absurd (Nat.eq_of_beq_eq_true h8) hkL
      · exfalso
        obtain ⟨f1, f2⟩ := h8
        rw [hbd] at f1 f2
        rcases hnm with hx | hx
        · rw [hx] at f1; simp [sameO] at f1
        · simp only [elemO] at f2; rw [(elemN_iff _ _).2 hx] at f2; simp at f2
      · exact h8
  · unfold okLate at h2
    rw [ho, ha] at h2
    simp only [Bool.and_eq_true, Option.isNone_iff_eq_none] at h2
    exact ⟨h2.1.1, h2.1.2, h2.2⟩
  · have := m2 c x b a hb ha
    have hk' : Nat.beq (kind a.op) 1 = true := by rw [hk]; rfl
    simp only [hk', hc, Bool.and_self, Bool.not_true, Bool.false_or, Bool.and_eq_true] at this
    have hf := this.2
    unfold okFloat at hf
    refine ⟨fun hlt => ?_, fun hlt => ?_⟩
    · have e : Nat.blt c x = true := by simpa using hlt
      simp only [e, Bool.or_eq_true] at hf
      rcases hf with hf | hf
      · exact .inl hf
      · split at hf
        · rename_i lo hi hfl
          simp only [Bool.and_eq_true, Nat.ble_eq] at hf
          exact .inr ⟨lo, hi, floatAt_mem _ _ _ _ hfl, hf.1, hf.2⟩
        · simp at hf
    · have e : Nat.blt c x = false := by
        rw [Bool.eq_false_iff]; intro h'
        have : c < x := by simpa using h'
        omega
      simp only [e, Bool.or_eq_true] at hf
      rcases hf with ((hf | hf) | hf) | hf
      · have := Nat.eq_of_beq_eq_true hf; omega
      · exact .inl hf
      · split at hf
        · rename_i lo hi hfl
          simp only [Bool.and_eq_true, Nat.ble_eq, Nat.blt_eq] at hf
          exact .inr (.inr ⟨lo, hi, floatAt_mem _ _ _ _ hfl, hf.1, hf.2⟩)
        · simp at hf
      · obtain ⟨f, b', g1, g2, g3, g4⟩ := doneBy_spec _ _ _ hf
        rw [List.getElem?_map, Option.map_eq_some_iff] at g1
        obtain ⟨b2, g5, rfl⟩ := g1
        exact .inr (.inl ⟨f, b2, g5, g2, g3, by simpa using g4⟩)
/-! ### The floating reads -/
def loOf (B : List Nat) (x : Nat) : Nat → Nat → List AOper → Nat → Nat
  | _, 0, _, lo => lo
  | _, _ + 1, [], lo => lo
  | c, n + 1, b :: bs, lo => loOf B x (c + 1) n bs (match changer b && !bef B c x && Nat.blt c lo with | true => c | false => lo)
def hiOf (B : List Nat) (x : Nat) : Nat → List AOper → Nat
  | c, [] => c
  | c, b :: bs => match changer b && Nat.blt x c && bef B x c with
    | true => c
    | false => hiOf B x (c + 1) bs
def looseAt (B : List Nat) (x : Nat) : Nat → List AOper → Bool
  | _, [] => false
  | c, b :: bs => (changer b && !Nat.beq c x && !(match Nat.blt c x with | true => bef B c x | false => bef B x c)) || looseAt B x (c + 1) bs
def floatsFrom (B : List Nat) (all : List AOper) : Nat → List AOper → List (Nat × Nat × Nat)
  | _, [] => []
  | x, a :: l => match Nat.beq (kind a.op) 1 && looseAt B x 0 all with
    | true => (x, loOf B x 0 x all x, hiOf B x 0 all) :: floatsFrom B all (x + 1) l
    | false => floatsFrom B all (x + 1) l
/-- The first changer that has no order with one ahead of it; none: the count of all. -/
def looseC (B : List Nat) (j : Nat) : Nat → Nat → List AOper → Bool
  | _, 0, _ => false
  | _, _ + 1, [] => false
  | i, n + 1, a :: l => (changer a && !bef B i j) || looseC B j (i + 1) n l
def findLate (B : List Nat) (all : List AOper) : Nat → List AOper → Nat
  | j, [] => j
  | j, b :: l => match changer b && looseC B j 0 j all with
    | true => j
    | false => findLate B all (j + 1) l
/-! ### Code -/
def outsFrom (want : PT Unit) : List AOper → List Nat → List Nat
  | [], acc => acc
  | o :: l, acc => match o.dst with
    | none => outsFrom want l acc
    | some d => match want.get d with
      | none => outsFrom want l acc
      | some _ => match Regs.elemN d acc with
        | true => outsFrom want l acc
        | false => outsFrom want l (acc ++ [d])
def trRegion (P : Program) (want : PT Unit) (ops : Array Oper) (draw : Bool) : ACode :=
  match mapO (trOper P ops) ops.toList with
  | none => .stuck
  | some aops => match draw with
    | false => .region aops (outsFrom want aops [])
    | true =>
      let B := masksFrom [] ops.toList
      let fl := floatsFrom B aops 0 aops
      match okDrawn ops aops B (findLate B aops 0 aops) fl with
      | true => .drawn aops fl (outsFrom want aops [])
      | false => .stuck
def trCode (P : Program) (want : PT Unit) : Code → ACode
  | .skip => .skip
  | .region _ ops draw => trRegion P want ops draw
  | .seq a b => .seq (trCode P want a) (trCode P want b)
  | .cond c x y => match trS c with
    | some s => .cond s (trCode P want x) (trCode P want y)
    | none => .stuck
  | .block id c => .block id (trCode P want c)
  | .loop c => .loop (trCode P want c)
  | .rangeFunc f ps as body => match trS f with
    | some s => .rangeFunc s ps.toList (trCode P want as) (trCode P want body)
    | none => .stuck
  | .exit id => .exit id
  | .label l => .label l
  | .goto l => .goto l
  | .ret => .ret
  | .scope c => .scope (trCode P want c) (trCode P want c)
  | .refuse _ => .stuck
theorem trCode_rel {P : Program} {want : PT Unit} : ∀ c : Code, CRel P c (trCode P want c) := by
  intro c
  induction c with
  | skip => exact .skip
  | region id ops draw =>
    simp only [trCode, trRegion]
    split
    · exact .stuck _
    · rename_i aops h
      split
      · exact .region (trOpers_rel h)
      · split
        · rename_i hok; exact .drawn (trOpers_rel h) (okDrawn_spec hok)
        · exact .stuck _
  | seq a b ha hb => exact .seq ha hb
  | cond c x y hx hy =>
    simp only [trCode]
    split
    · rename_i hs; exact .cond hs hx hy
    · exact .stuck _
  | block id c h => exact .block h
  | loop c h => exact .loop h
  | rangeFunc f ps as body h1 h2 =>
    simp only [trCode]
    split
    · rename_i hs; exact .rangeFunc hs h1 h2
    · exact .stuck _
  | exit id => exact .exit
  | label l => exact .label
  | goto l => exact .goto
  | ret => exact .ret
  | scope c h => exact .scope h
  | refuse _ => exact .stuck _
def trRes (P : Program) : ResultVar → Option ARes
  | .tmp t => some (.tmp t)
  | .cell a t => (many? P t).map (.cell a)
theorem trRes_rel {P : Program} : ∀ (l : List ResultVar) (r : List ARes), mapO (trRes P) l = some r → ResRel P l r
  | [], r, h => by simp [mapO] at h; subst h; trivial
  | x :: l, r, h => by
    obtain ⟨y, ys, h1, h2, rfl⟩ := mapO_cons h
    have := trRes_rel l ys h2
    cases x with
    | tmp t => simp only [trRes, Option.some.injEq] at h1; subst h1; exact ⟨rfl, this⟩
    | cell a t =>
      simp only [trRes, Option.map_eq_some_iff] at h1
      obtain ⟨n, h3, rfl⟩ := h1
      exact ⟨rfl, h3, this⟩
def wantOp (seen : List Nat) (want : PT Unit) : List Operand → PT Unit
  | [] => want
  | .tmp t :: l => wantOp seen (match Regs.elemN t seen with | true => want | false => want.put t (some ())) l
  | _ :: l => wantOp seen want l
def wantGuard (ops : Array Oper) (seen : List Nat) (want : PT Unit) : Option (Nat × Bool) → PT Unit
  | none => want
  | some (j, _) => match (ops[j]?).bind (·.dst) with
    | none => want
    | some t => match Regs.elemN t seen with
      | true => want
      | false => want.put t (some ())
def wantOps (ops : Array Oper) (seen : List Nat) (want : PT Unit) : List Oper → PT Unit
  | [] => want
  | o :: l => wantOps ops (match o.dst with | some d => d :: seen | none => seen) (wantGuard ops seen (wantOp seen want o.op.operands.toList) o.guard) l
/-- The temporaries that a region reads out of an earlier one. -/
def wantCode : Code → PT Unit → PT Unit
  | .region _ ops _, w => wantOps ops [] w ops.toList
  | .seq a b, w => wantCode b (wantCode a w)
  | .cond c x y, w => wantCode y (wantCode x (wantOp [] w [c]))
  | .block _ c, w => wantCode c w
  | .loop c, w => wantCode c w
  | .scope c, w => wantCode c w
  | .rangeFunc f _ as body, w => wantCode body (wantCode as (wantOp [] w [f]))
  | _, w => w
def wantRes : List ResultVar → PT Unit → PT Unit
  | [], w => w
  | .tmp t :: l, w => wantRes l (w.put t (some ()))
  | .cell t _ :: l, w => wantRes l (w.put t (some ()))
def trFunc (P : Program) (fn : Func) : Option AFunc :=
  match fn.body with
  | none => none
  | some c => match mapO (trRes P) fn.results.toList with
    | none => none
    | some rs => some { ntmps := fn.ntmps, results := rs, body := trCode P (wantCode c (wantRes fn.results.toList .leaf)) c }
theorem trFunc_rel {P : Program} {f : Nat} {fn : Func} {af : AFunc} (hf : P.funcs[f]? = some fn) (hn : (fn.name == "runtime.NumGoroutine") = false) (h : trFunc P fn = some af) : FnRel P f af := by
  unfold trFunc at h
  split at h
  · simp at h
  · rename_i c hc
    split at h
    · simp at h
    · rename_i rs hrs
      simp only [Option.some.injEq] at h; subst h
      exact ⟨fn, c, hf, hc, hn, trCode_rel c, rfl, trRes_rel _ _ hrs⟩
end Am
/- Calls that are known: of pure functions at known arguments, and at known states. -/
namespace Am
open Go
variable {H : Hc} {P : Program} {E : Env}

def optBeq {α : Type} (f : α → α → Bool) : Option α → Option α → Bool
  | none, none => true
  | some a, some b => f a b
  | _, _ => false
def listBeq {α : Type} (f : α → α → Bool) : List α → List α → Bool
  | [], [] => true
  | a :: as, b :: bs => match f a b with
    | true => listBeq f as bs
    | false => false
  | _, _ => false
def PT.beq {α : Type} (f : α → α → Bool) : PT α → PT α → Bool
  | .leaf, .leaf => true
  | .node v l r, .node v' l' r' => match optBeq f v v' with
    | true => match PT.beq f l l' with
      | true => PT.beq f r r'
      | false => false
    | false => false
  | _, _ => false
def AEnt.beq (a b : AEnt) : Bool := match Nat.beq a.born b.born with
  | true => PV.beq a.key b.key && PV.beq a.val b.val
  | false => false
def AObj.beq : AObj → AObj → Bool
  | .cells cs op, .cells cs' op' => listBeq PV.beq cs cs' && (op == op')
  | .map es c, .map es' c' => Nat.beq c c' && listBeq AEnt.beq es es'
  | .mit m s l c, .mit m' s' l' c' => optBeq Nat.beq m m' && Nat.beq s s' && listBeq Nat.beq l l' && Nat.beq c c'
  | _, _ => false
def St.beq (σ τ : St) : Bool := match Nat.beq σ.next τ.next with
  | true => PT.beq AObj.beq σ.m τ.m
  | false => false
theorem optBeq_eq {α : Type} {f : α → α → Bool} (hf : ∀ a b, f a b = true → a = b) : ∀ a b, optBeq f a b = true → a = b
  | none, none, _ => rfl
  | some a, some b, h => by rw [hf a b h]
  | none, some _, h => by simp [optBeq] at h
  | some _, none, h => by simp [optBeq] at h
theorem listBeq_eq {α : Type} {f : α → α → Bool} (hf : ∀ a b, f a b = true → a = b) : ∀ a b, listBeq f a b = true → a = b
  | [], [], _ => rfl
  | a :: as, b :: bs, h => by
    simp only [listBeq] at h
    split at h
    · rename_i h1; rw [hf a b h1, listBeq_eq hf as bs h]
    · simp at h
  | [], _ :: _, h => by simp [listBeq] at h
  | _ :: _, [], h => by simp [listBeq] at h
theorem PT.beq_eq {α : Type} {f : α → α → Bool} (hf : ∀ a b, f a b = true → a = b) : ∀ a b : PT α, PT.beq f a b = true → a = b
  | .leaf, .leaf, _ => rfl
  | .node v l r, .node v' l' r', h => by
    simp only [PT.beq] at h
    split at h
    · rename_i h1
      split at h
      · rename_i h2; rw [optBeq_eq hf v v' h1, PT.beq_eq hf l l' h2, PT.beq_eq hf r r' h]
      · simp at h
    · simp at h
  | .leaf, .node _ _ _, h => by simp [PT.beq] at h
  | .node _ _ _, .leaf, h => by simp [PT.beq] at h
theorem natBeq_eq (a b : Nat) (h : Nat.beq a b = true) : a = b := Nat.eq_of_beq_eq_true h
theorem pvBeq_eq (a b : PV) (h : PV.beq a b = true) : a = b := PV.beq_eq h
theorem AEnt.beq_eq (a b : AEnt) (h : AEnt.beq a b = true) : a = b := by
  unfold AEnt.beq at h
  split at h
  · rename_i h1
    simp only [Bool.and_eq_true] at h
    cases a; cases b
    simp only [AEnt.mk.injEq]
    exact ⟨pvBeq_eq _ _ h.1, pvBeq_eq _ _ h.2, natBeq_eq _ _ h1⟩
  · simp at h
theorem AObj.beq_eq (a b : AObj) (h : AObj.beq a b = true) : a = b := by
  cases a <;> cases b <;> simp only [AObj.beq, Bool.and_eq_true, beq_iff_eq, Bool.false_eq_true] at h
  · rw [listBeq_eq pvBeq_eq _ _ h.1, h.2]
  · rw [natBeq_eq _ _ h.1, listBeq_eq AEnt.beq_eq _ _ h.2]
  · rw [optBeq_eq natBeq_eq _ _ h.1.1.1, natBeq_eq _ _ h.1.1.2, listBeq_eq natBeq_eq _ _ h.1.2, natBeq_eq _ _ h.2]
theorem St.beq_eq (σ τ : St) (h : St.beq σ τ = true) : σ = τ := by
  unfold St.beq at h
  split at h
  · rename_i h1
    cases σ; cases τ
    simp only [St.mk.injEq]
    exact ⟨PT.beq_eq AObj.beq_eq _ _ h, natBeq_eq _ _ h1⟩
  · simp at h
/-- A call that is known whatever the state. -/
structure Pk where
  f : Nat
  args : List PV
  v : PV
def pkHook (l : List Pk) (f : Nat) (args : List PV) (σ : St) : Option (PV × St) := match l with
  | [] => none
  | c :: l => match Nat.beq c.f f with
    | true => match listBeq PV.beq c.args args with
      | true => some (c.v, σ)
      | false => pkHook l f args σ
    | false => pkHook l f args σ
theorem pkHook_sound : ∀ (l : List Pk), (∀ c ∈ l, ∀ σ, CallOk P H c.f c.args σ c.v σ) → ∀ f args σ v σ', pkHook l f args σ = some (v, σ') → CallOk P H f args σ v σ'
  | [], _, f, args, σ, v, σ', h => by simp [pkHook] at h
  | c :: l, hl, f, args, σ, v, σ', h => by
    have ih := pkHook_sound l (fun c hc => hl c (by simp [hc])) f args σ v σ'
    simp only [pkHook] at h
    split at h
    · rename_i h1
      split at h
      · rename_i h2
        simp only [Option.some.injEq, Prod.mk.injEq] at h; obtain ⟨rfl, rfl⟩ := h
        rw [← natBeq_eq _ _ h1, ← listBeq_eq pvBeq_eq _ _ h2]
        exact hl c (by simp) σ
      · exact ih h
    · exact ih h
/-- One more hook behind those of an environment. -/
def Env.also (E : Env) (h : Nat → List PV → St → Option (PV × St)) : Env := { E with hook := fun f args σ => match E.hook f args σ with | some r => some r | none => h f args σ }
theorem EnvOk.also {h : Nat → List PV → St → Option (PV × St)} (hE : EnvOk P H E) (hh : ∀ f args σ v σ', h f args σ = some (v, σ') → CallOk P H f args σ v σ') : EnvOk P H (E.also h) := by
  refine ⟨hE.fn, fun f args σ v σ' he => ?_⟩
  simp only [Env.also] at he
  split at he
  · rename_i r hr; simp only [Option.some.injEq] at he; subst he; exact hE.hook _ _ _ _ _ hr
  · exact hh _ _ _ _ _ he
/-! ### A call on values without blocks: what it makes is nobody's behind it -/
mutual
def flat : PV → Bool
  | .bool _ | .int _ _ | .str _ | .nilp | .nils | .nilm | .nilf | .nili | .raw _ => true
  | .iptr cs _ => flats cs
  | .islice cs _ _ _ => flats cs
  | .iface _ v => flat v
  | .agg cs => flats cs
  | .tup cs => flats cs
  | .ptr _ _ | .slice _ _ _ _ _ | .map _ | .func _ _ _ | .yld _ => false
def flats : List PV → Bool
  | [] => true
  | v :: vs => match flat v with
    | true => flats vs
    | false => false
end
mutual
theorem flat_rel {M M' : Mu} : ∀ {v : PV} {cv : Value}, flat v = true → VRel H M v cv → VRel H M' v cv
  | .bool _, _, _, h => by simpa only [VRel] using h
  | .int _ _, _, _, h => by simpa only [VRel] using h
  | .str _, _, _, h => by simpa only [VRel] using h
  | .nilp, _, _, h => by simpa only [VRel] using h
  | .iptr cs o, _, hf, h => by
    simp only [VRel] at h ⊢
    obtain ⟨c, o', vs, h1, h2, h3⟩ := h
    exact ⟨c, o', vs, h1, h2, flats_rel (by simpa only [flat] using hf) h3⟩
  | .nils, _, _, h => by simpa only [VRel] using h
  | .islice cs n e c, _, hf, h => by
    simp only [VRel] at h ⊢
    obtain ⟨x, cp, vs, h1, h2, h3, h4, h5, h6, h7⟩ := h
    exact ⟨x, cp, vs, h1, h2, h3, h4, h5, h6, flats_rel (by simpa only [flat] using hf) h7⟩
  | .nilm, _, _, h => by simpa only [VRel] using h
  | .nilf, _, _, h => by simpa only [VRel] using h
  | .nili, _, _, h => by simpa only [VRel] using h
  | .raw _, _, _, h => by simpa only [VRel] using h
  | .iface t v, _, hf, h => by
    simp only [VRel] at h ⊢
    obtain ⟨x, h1, h2⟩ := h
    exact ⟨x, h1, flat_rel (by simpa only [flat] using hf) h2⟩
  | .agg cs, _, hf, h => by
    simp only [VRel] at h ⊢
    obtain ⟨x, h1, h2⟩ := h
    exact ⟨x, h1, flats_rel (by simpa only [flat] using hf) h2⟩
  | .tup cs, _, hf, h => by
    simp only [VRel] at h ⊢
    obtain ⟨x, h1, h2⟩ := h
    exact ⟨x, h1, flats_rel (by simpa only [flat] using hf) h2⟩
  | .ptr _ _, _, hf, _ => by simp [flat] at hf
  | .slice _ _ _ _ _, _, hf, _ => by simp [flat] at hf
  | .map _, _, hf, _ => by simp [flat] at hf
  | .func _ _ _, _, hf, _ => by simp [flat] at hf
  | .yld _, _, hf, _ => by simp [flat] at hf
theorem flats_rel {M M' : Mu} : ∀ {vs : List PV} {cvs : List Value}, flats vs = true → VRels H M vs cvs → VRels H M' vs cvs
  | [], _, _, h => by simpa only [VRels] using h
  | v :: vs, _, hf, h => by
    simp only [VRels] at h ⊢
    obtain ⟨y, ys, h0, h1, h2⟩ := h
    simp only [flats] at hf
    split at hf
    · rename_i hv; exact ⟨y, ys, h0, flat_rel hv h1, flats_rel hf h2⟩
    · simp at hf
end
def St.none_ : St := ⟨.leaf, 0⟩
theorem pk_call {f : Nat} {args : List PV} {v : PV} {σ1 : St} (h : CallOk P H f args St.none_ v σ1) (ha : flats args = true) (hv : flat v = true) : ∀ σ, CallOk P H f args σ v σ := by
  intro σ M w vs hvs hw
  have hw0 : WRel (CRel P) H ⟨fun _ => none, 0⟩ St.none_ w := by
    refine ⟨rfl, fun b o hb => ?_, fun b x hx => by simp at hx, fun b c n hb => by simp at hb, fun b b' c n n' hb => by simp at hb, hw.imm, fun b c n off hb => by simp at hb⟩
    simp [St.none_, St.get] at hb
  obtain ⟨h1, h2⟩ := h _ w vs (flats_rel ha hvs) hw0
  refine ⟨h1, fun cs => ?_⟩
  obtain ⟨e, w1, fr, hR, rest⟩ := h2 cs
  refine ⟨e, w1, fr, ?_, rest⟩
  cases e with
  | panicked _ => exact hR.elim
  | outgrown => exact hR.elim
  | returned cv =>
    obtain ⟨M1, hw1, hk, hrel⟩ := hR
    have same : ∀ c, c < w.heap.size → w1.heap[c]? = w.heap[c]? := fun c hc => hk.frame c hc fun b n hb => by simp at hb
    refine ⟨M, ⟨hw.next, fun b o hb => ?_, hw.lt, fun b c n hb => Nat.lt_of_lt_of_le (hw.bnd b c n hb) hk.size, hw.inj, hw1.imm, hw.apart⟩,
      ⟨Mu.Le.refl M, hk.size, fun c hc _ => same c hc, fun b _ n h => .inr ⟨b, n, h⟩, hk.out, hk.os, hk.loops⟩, flat_rel hv hrel⟩
    obtain ⟨c, n, h3, h4⟩ := hw.obj b o hb
    exact ⟨c, n, h3, by rw [same c (hw.bnd _ _ _ h3)]; exact h4⟩
/-! ### The environment of a program: every function is translated as it is asked for (the kernel does it once and keeps it) -/
def fnOf (P : Program) (k : Nat) : Option AFunc := match P.funcs[k]? with
  | some fn => match fn.name == "runtime.NumGoroutine" with
    | false => trFunc P fn
    | true => none
  | none => none
def envOf (P : Program) : Env := { fn := fnOf P, hook := fun _ _ _ => none }
theorem envOf_ok : EnvOk P H (envOf P) := by
  refine ⟨fun f af h => ?_, fun f args σ v σ' h => by simp [envOf] at h⟩
  simp only [envOf, fnOf] at h
  split at h
  · rename_i fn hf
    split at h
    · rename_i hn; exact trFunc_rel hf hn h
    · simp at h
  · simp at h
end Am
/- Calls that are known at a state of a few blocks are known at each larger one. -/
namespace Am
open Go
variable {H : Hc} {P : Program} {E : Env}

/-! ### States of a few blocks -/
def ofPairs : List (Nat × AObj) → PT AObj
  | [] => .leaf
  | (b, o) :: l => (ofPairs l).put b (some o)
def putPairs : List (Nat × AObj) → PT AObj → PT AObj
  | [], m => m
  | (b, o) :: l, m => putPairs l (m.put b (some o))
def mkSt (l : List (Nat × AObj)) (n : Nat) : St := ⟨ofPairs l, n⟩
def isAt (m : PT AObj) (b : Nat) : Bool := match m.get b with
  | some _ => true
  | none => false
theorem isAt_iff {m : PT AObj} {b : Nat} : isAt m b = true ↔ ∃ o, m.get b = some o := by
  unfold isAt; split <;> simp_all
def holdsAll (m : PT AObj) : List (Nat × AObj) → Bool
  | [] => true
  | (b, o) :: l => match m.get b with
    | some o' => match AObj.beq o o' with
      | true => holdsAll m l
      | false => false
    | none => false
theorem holdsAll_spec {m : PT AObj} : ∀ {l : List (Nat × AObj)}, holdsAll m l = true → ∀ b o, (b, o) ∈ l → m.get b = some o
  | [], _, b, o, h => by simp at h
  | (b', o') :: l, hh, b, o, h => by
    simp only [holdsAll] at hh
    split at hh
    · rename_i o2 hg
      split at hh
      · rename_i he
        rcases List.mem_cons.1 h with e | e
        · simp only [Prod.mk.injEq] at e; obtain ⟨rfl, rfl⟩ := e
          rw [hg, AObj.beq_eq _ _ he]
        · exact holdsAll_spec hh b o e
      · simp at hh
    · simp at hh
theorem ofPairs_get : ∀ {l : List (Nat × AObj)} {b : Nat} {o : AObj}, (ofPairs l).get b = some o → (b, o) ∈ l
  | [], b, o, h => by simp [ofPairs] at h
  | (b', o') :: l, b, o, h => by
    simp only [ofPairs, PT.get_put] at h
    split at h
    · rename_i e; simp at h; subst h e; simp
    · exact List.mem_cons_of_mem _ (ofPairs_get h)
theorem putPairs_get : ∀ {l : List (Nat × AObj)} {m : PT AObj} {b : Nat} {o : AObj}, (putPairs l m).get b = some o → (b, o) ∈ l ∨ ((∀ o', (b, o') ∉ l) ∧ m.get b = some o)
  | [], m, b, o, h => .inr ⟨by simp, h⟩
  | (b', o') :: l, m, b, o, h => by
    simp only [putPairs] at h
    rcases putPairs_get h with h1 | ⟨h1, h2⟩
    · exact .inl (List.mem_cons_of_mem _ h1)
    · rw [PT.get_put] at h2
      split at h2
      · rename_i e; simp at h2; subst h2 e; exact .inl (by simp)
      · rename_i e
        refine .inr ⟨fun o2 hm => ?_, h2⟩
        rcases List.mem_cons.1 hm with e2 | e2
        · simp only [Prod.mk.injEq] at e2; exact e e2.1
        · exact h1 o2 e2

/-! ### What is mentioned -/
mutual
def pvIn (S : Nat → Bool) : PV → Bool
  | .bool _ | .int _ _ | .str _ | .nilp | .nils | .nilm | .nilf | .nili | .raw _ => true
  | .ptr b _ => S b
  | .iptr cs _ => pvsIn S cs
  | .slice b _ _ _ _ => S b
  | .islice cs _ _ _ => pvsIn S cs
  | .map b => S b
  | .func _ fs cs => match pvsIn S fs with
    | true => pvsIn S cs
    | false => false
  | .yld b => S b
  | .iface _ v => pvIn S v
  | .agg cs => pvsIn S cs
  | .tup cs => pvsIn S cs
def pvsIn (S : Nat → Bool) : List PV → Bool
  | [] => true
  | v :: vs => match pvIn S v with
    | true => pvsIn S vs
    | false => false
end
def entsIn (S : Nat → Bool) : List AEnt → Bool
  | [] => true
  | e :: es => match pvIn S e.key with
    | true => match pvIn S e.val with
      | true => entsIn S es
      | false => false
    | false => false
def objIn (S : Nat → Bool) : AObj → Bool
  | .cells cs _ => pvsIn S cs
  | .map es _ => entsIn S es
  | .mit none _ _ _ => true
  | .mit (some b) _ _ _ => S b
  | .loop _ => false
def pairsIn (S : Nat → Bool) : List (Nat × AObj) → Bool
  | [] => true
  | (b, o) :: l => match S b with
    | true => match objIn S o with
      | true => pairsIn S l
      | false => false
    | false => false
theorem pairsIn_spec {S : Nat → Bool} : ∀ {l : List (Nat × AObj)}, pairsIn S l = true → ∀ b o, (b, o) ∈ l → S b = true ∧ objIn S o = true
  | [], _, b, o, h => by simp at h
  | (b', o') :: l, hh, b, o, h => by
    simp only [pairsIn] at hh
    split at hh
    · rename_i h1
      split at hh
      · rename_i h2
        rcases List.mem_cons.1 h with e | e
        · simp only [Prod.mk.injEq] at e; obtain ⟨rfl, rfl⟩ := e; exact ⟨h1, h2⟩
        · exact pairsIn_spec hh b o e
      · simp at hh
    · simp at hh
/-- Of the blocks of a set the second map says no more than the first. -/
structure Turn (S : Nat → Bool) (M1 M2 : Mu) : Prop where
  N : M1.N ≤ M2.N
  at_ : ∀ b, S b = true → b < M1.N → ∀ x, M2.at_ b = some x → M1.at_ b = some x
section
variable {S : Nat → Bool} {M1 M2 : Mu}
mutual
theorem VRel.turn (hT : Turn S M1 M2) : ∀ {x : PV} {v : Value}, pvIn S x = true → VRel H M1 x v → VRel H M2 x v
  | .bool _, _, _, h | .int _ _, _, _, h | .str _, _, _, h | .nilp, _, _, h | .nils, _, _, h | .nilm, _, _, h | .nilf, _, _, h | .nili, _, _, h | .raw _, _, _, h => by simpa only [VRel] using h
  | .ptr b off, v, hp, h => by
    simp only [VRel] at h ⊢
    simp only [pvIn] at hp
    obtain ⟨hb, a, rfl, h⟩ := h
    exact ⟨Nat.lt_of_lt_of_le hb hT.N, a, rfl, fun c n hc => h c n (hT.at_ b hp hb _ hc)⟩
  | .iptr cs off, v, hp, h => by
    simp only [VRel] at h ⊢
    simp only [pvIn] at hp
    obtain ⟨c, o, vs, rfl, h1, h2⟩ := h
    exact ⟨c, o, vs, rfl, h1, VRels.turn hT hp h2⟩
  | .slice b off len esz cap, v, hp, h => by
    simp only [VRel] at h ⊢
    simp only [pvIn] at hp
    obtain ⟨hb, a, cp, rfl, h1, h2, h3, h⟩ := h
    exact ⟨Nat.lt_of_lt_of_le hb hT.N, a, cp, rfl, h1, h2, h3, fun c n hc => h c n (hT.at_ b hp hb _ hc)⟩
  | .islice cs len esz cap, v, hp, h => by
    simp only [VRel] at h ⊢
    simp only [pvIn] at hp
    obtain ⟨a, cp, vs, rfl, h1, h2, h3, h4, h5, h6⟩ := h
    exact ⟨a, cp, vs, rfl, h1, h2, h3, h4, h5, VRels.turn hT hp h6⟩
  | .map b, v, hp, h => by
    simp only [VRel] at h ⊢
    simp only [pvIn] at hp
    obtain ⟨hb, r, rfl, h⟩ := h
    exact ⟨Nat.lt_of_lt_of_le hb hT.N, r, rfl, fun c n hc => h c n (hT.at_ b hp hb _ hc)⟩
  | .func f fs cs, v, hp, h => by
    simp only [VRel] at h ⊢
    simp only [pvIn] at hp
    obtain ⟨fs', cs', rfl, h1, h2⟩ := h
    split at hp
    · rename_i hf; exact ⟨fs', cs', rfl, VRels.turn hT hf h1, VRels.turn hT hp h2⟩
    · simp at hp
  | .yld b, v, hp, h => by
    simp only [VRel] at h ⊢
    simp only [pvIn] at hp
    obtain ⟨hb, r, rfl, h⟩ := h
    exact ⟨Nat.lt_of_lt_of_le hb hT.N, r, rfl, fun c n hc => h c n (hT.at_ b hp hb _ hc)⟩
  | .iface t x, v, hp, h => by
    simp only [VRel] at h ⊢
    simp only [pvIn] at hp
    obtain ⟨x', rfl, h⟩ := h
    exact ⟨x', rfl, VRel.turn hT hp h⟩
  | .agg cs, v, hp, h => by
    simp only [VRel] at h ⊢
    simp only [pvIn] at hp
    obtain ⟨vs, rfl, h⟩ := h
    exact ⟨vs, rfl, VRels.turn hT hp h⟩
  | .tup cs, v, hp, h => by
    simp only [VRel] at h ⊢
    simp only [pvIn] at hp
    obtain ⟨vs, rfl, h⟩ := h
    exact ⟨vs, rfl, VRels.turn hT hp h⟩
theorem VRels.turn (hT : Turn S M1 M2) : ∀ {xs : List PV} {vs : List Value}, pvsIn S xs = true → VRels H M1 xs vs → VRels H M2 xs vs
  | [], _, _, h => by simpa only [VRels] using h
  | x :: xs, vs, hp, h => by
    simp only [VRels] at h ⊢
    obtain ⟨y, ys, rfl, h1, h2⟩ := h
    simp only [pvsIn] at hp
    split at hp
    · rename_i hx; exact ⟨y, ys, rfl, VRel.turn hT hx h1, VRels.turn hT hp h2⟩
    · simp at hp
end
theorem ERels.turn (hT : Turn S M1 M2) : ∀ {es : List AEnt} {es' : List MapEntry}, entsIn S es = true → ERels H M1 es es' → ERels H M2 es es'
  | [], _, _, h => h
  | e :: es, es', hp, h => by
    obtain ⟨y, ys, rfl, h1, h2⟩ := h
    simp only [entsIn] at hp
    split at hp
    · rename_i hk
      split at hp
      · rename_i hv; exact ⟨y, ys, rfl, ⟨h1.1.turn hT hk, h1.2.1.turn hT hv, h1.2.2⟩, ERels.turn hT hp h2⟩
      · simp at hp
    · simp at hp
theorem ORel.turn {CR : Code → ACode → Prop} (hT : Turn S M1 M2) {n : Nat} {o : AObj} {o' : Option Obj} (hp : objIn S o = true) (h : ORel CR H M1 n o o') : ORel CR H M2 n o o' := by
  cases o with
  | cells cs op =>
    obtain ⟨c, e, fr, h1, h2, h3, h4, c1, c2, h5, h6⟩ := h
    exact ⟨c, e, fr, h1, h2, h3, h4, c1, c2, h5, h6.turn hT hp⟩
  | map es clock => obtain ⟨es', h1, h2⟩ := h; exact ⟨es', h1, h2.turn hT hp⟩
  | mit m since seen stepped =>
    obtain ⟨m', h1, h2⟩ := h
    refine ⟨m', h1, ?_⟩
    cases m with
    | none => cases m' <;> exact h2
    | some b =>
      cases m' with
      | none => exact h2
      | some r =>
        simp only [objIn] at hp
        exact ⟨Nat.lt_of_lt_of_le h2.1 hT.N, fun c n hc => h2.2 c n (hT.at_ b hp h2.1 _ hc)⟩
  | loop l => simp [objIn] at hp
end

/-! ### The known call -/
structure Ck where
  f : Nat
  args : List PV
  pre : List (Nat × AObj)
  n : Nat
  v : PV
  post : List (Nat × AObj)
  n' : Nat
def ckSet (m : PT AObj) (n : Nat) (b : Nat) : Bool := match Nat.ble n b with
  | true => true
  | false => isAt m b
/-- What stood and is not told anew stands as it was. -/
def keptOld (post m' : PT AObj) : List (Nat × AObj) → Bool
  | [] => true
  | (b, o) :: l => match isAt post b with
    | true => keptOld post m' l
    | false => match m'.get b with
      | some o' => match AObj.beq o o' with
        | true => keptOld post m' l
        | false => false
      | none => false
def ckTest (c : Ck) (m0 mp : PT AObj) : Option (PV × St) → Bool
  | some (v, σ') => match PV.beq c.v v with
    | true => match Nat.beq c.n' σ'.next with
      | true => match holdsAll σ'.m c.post with
        | true => match keptOld mp σ'.m c.pre with
          | true => match pvIn (ckSet m0 c.n) v with
            | true => match pairsIn (ckSet m0 c.n) c.post with
              | true => pairsIn (ckSet m0 c.n) c.pre
              | false => false
            | false => false
          | false => false
        | false => false
      | false => false
    | false => false
  | none => false
noncomputable def ckOk (E : Env) (k : Nat) (c : Ck) : Bool := ckTest c (ofPairs c.pre) (ofPairs c.post) (hcall E k c.f c.args ⟨ofPairs c.pre, c.n⟩)
theorem keptOld_spec {post m' : PT AObj} : ∀ {l : List (Nat × AObj)}, keptOld post m' l = true → ∀ b o, (b, o) ∈ l → isAt post b = true ∨ m'.get b = some o
  | [], _, b, o, h => by simp at h
  | (b', o') :: l, hh, b, o, h => by
    simp only [keptOld] at hh
    split at hh
    · rename_i h1
      rcases List.mem_cons.1 h with e | e
      · simp only [Prod.mk.injEq] at e; obtain ⟨rfl, rfl⟩ := e; exact .inl h1
      · exact keptOld_spec hh b o e
    · split at hh
      · rename_i o2 hg
        split at hh
        · rename_i he
          rcases List.mem_cons.1 h with e | e
          · simp only [Prod.mk.injEq] at e; obtain ⟨rfl, rfl⟩ := e; right; rw [hg, AObj.beq_eq _ _ he]
          · exact keptOld_spec hh b o e
        · simp at hh
      · simp at hh
theorem ofPairs_mem : ∀ {l : List (Nat × AObj)} {b : Nat} {o : AObj}, (b, o) ∈ l → isAt (ofPairs l) b = true
  | [], b, o, h => by simp at h
  | (b', o') :: l, b, o, h => by
    rw [isAt_iff]
    simp only [ofPairs, PT.get_put]
    by_cases e : b = b'
    · exact ⟨o', by simp [e]⟩
    · simp only [e, if_false]
      rcases List.mem_cons.1 h with h | h
      · simp only [Prod.mk.injEq] at h; exact absurd h.1 e
      · exact isAt_iff.1 (ofPairs_mem h)
theorem sub_call {c : Ck} {σ1 : St} (h : CallOk P H c.f c.args ⟨ofPairs c.pre, c.n⟩ c.v σ1) (hn' : σ1.next = c.n')
    (hpost : ∀ b o, (b, o) ∈ c.post → σ1.get b = some o) (hkept : ∀ b o, (b, o) ∈ c.pre → isAt (ofPairs c.post) b = true ∨ σ1.get b = some o)
    (hv : pvIn (ckSet (ofPairs c.pre) c.n) c.v = true) (hpi : pairsIn (ckSet (ofPairs c.pre) c.n) c.post = true) (hpr : pairsIn (ckSet (ofPairs c.pre) c.n) c.pre = true)
    {σ : St} (hn : σ.next = c.n) (hpre : ∀ b o, (b, o) ∈ c.pre → σ.get b = some o) : CallOk P H c.f c.args σ c.v ⟨putPairs c.post σ.m, c.n'⟩ := by
  classical
  intro M w vs hvs hw
  let K : Nat → Prop := fun b => isAt (ofPairs c.pre) b = true
  let M0 : Mu := { at_ := fun b => if K b then M.at_ b else none, N := M.N }
  have h0 : ∀ b x, M0.at_ b = some x → M.at_ b = some x ∧ K b := by
    intro b x hx; simp only [M0] at hx; split at hx
    · exact ⟨hx, by assumption⟩
    · simp at hx
  have h0' : ∀ b, K b → M0.at_ b = M.at_ b := fun b hb => by simp only [M0, if_pos hb]
  have hle0 : M.Le M0 := ⟨Nat.le_refl _, fun b _ x hx => (h0 b x hx).1⟩
  have hget : ∀ b o, (ofPairs c.pre).get b = some o → σ.get b = some o := fun b o hb => hpre b o (ofPairs_get hb)
  have hw0 : WRel (CRel P) H M0 ⟨ofPairs c.pre, c.n⟩ w := by
    refine ⟨hw.next.trans hn, fun b o hb => ?_, fun b x hx => hw.lt b x (h0 b x hx).1, fun b c n hb => hw.bnd b c n (h0 _ _ hb).1,
      fun b b' c n n' hb hb' => hw.inj _ _ _ _ _ (h0 _ _ hb).1 (h0 _ _ hb').1, hw.imm, fun b c n off hb => hw.apart _ _ _ _ (h0 _ _ hb).1⟩
    have hb' : (ofPairs c.pre).get b = some o := hb
    obtain ⟨cc, n, h1, h2⟩ := hw.obj b o (hget b o hb')
    exact ⟨cc, n, by rw [h0' b (isAt_iff.2 ⟨o, hb'⟩)]; exact h1, h2.mono hle0⟩
  obtain ⟨g1, g2⟩ := h M0 w vs (hvs.mono hle0) hw0
  refine ⟨g1, fun cs => ?_⟩
  obtain ⟨e, w1, fr, hR, rest⟩ := g2 cs
  refine ⟨e, w1, fr, ?_, rest⟩
  cases e with
  | panicked _ => exact hR.elim
  | outgrown => exact hR.elim
  | returned cv =>
    obtain ⟨M1, hw1, hk, hrel⟩ := hR
    have hN : M.N ≤ M1.N := hk.le.N
    let M2 : Mu := { at_ := fun b => if K b ∨ M.N ≤ b then M1.at_ b else M.at_ b, N := M1.N }
    have m2a : ∀ b, (K b ∨ M.N ≤ b) → M2.at_ b = M1.at_ b := fun b hb => by simp only [M2, if_pos hb]
    have m2b : ∀ b, ¬ (K b ∨ M.N ≤ b) → M2.at_ b = M.at_ b := fun b hb => by simp only [M2, if_neg hb]
    have hS : ∀ b, ckSet (ofPairs c.pre) c.n b = true → K b ∨ M.N ≤ b := by
      intro b hb
      unfold ckSet at hb
      split at hb
      · rename_i h1; right; rw [hw.next, hn]; exact Nat.le_of_ble_eq_true h1
      · exact .inl hb
    have hT : Turn (ckSet (ofPairs c.pre) c.n) M1 M2 := ⟨Nat.le_refl _, fun b hb _ x hx => by rw [m2a b (hS b hb)] at hx; exact hx⟩
    have back : ∀ b x, M1.at_ b = some x → b < M.N → M.at_ b = some x ∧ K b := fun b x hx hb => h0 b x (hk.le.at_ b hb x hx)
    have hle2 : M.Le M2 := ⟨hN, fun b hb x hx => by
      by_cases hc : K b ∨ M.N ≤ b
      · rw [m2a b hc] at hx; exact (back b x hx hb).1
      · rwa [m2b b hc] at hx⟩
    have same : ∀ b cc n, ¬ (K b ∨ M.N ≤ b) → M.at_ b = some (cc, n) → w1.heap[cc]? = w.heap[cc]? := by
      intro b cc n hc hb
      refine hk.frame cc (hw.bnd _ _ _ hb) fun b' n' hb' => ?_
      obtain ⟨h1, h2⟩ := h0 _ _ hb'
      have := hw.inj _ _ _ _ _ h1 hb
      subst this; exact hc (.inl h2)
    -- an old one and one of the call's never lie in one place
    have part : ∀ b b' cc n n', (K b ∨ M.N ≤ b) → ¬ (K b' ∨ M.N ≤ b') → M1.at_ b = some (cc, n) → M.at_ b' = some (cc, n') → False := by
      intro b b' cc n n' hb hb' h1 h2
      rcases hk.fresh b cc n h1 with h3 | ⟨b2, n2, h3⟩
      · have := hw.bnd _ _ _ h2; omega
      · obtain ⟨h4, h5⟩ := h0 _ _ h3
        have := hw.inj _ _ _ _ _ h4 h2
        subst this; exact hb' (.inl h5)
    refine ⟨M2, ⟨?_, ?_, ?_, ?_, ?_, hw1.imm, ?_⟩, ⟨hle2, hk.size, ?_, ?_, hk.out, hk.os, hk.loops⟩, hrel.turn hT hv⟩
    · exact hw1.next.trans hn'
    · intro b o hb
      have hb' : (putPairs c.post σ.m).get b = some o := hb
      rcases putPairs_get hb' with hp | ⟨hno, ho⟩
      · obtain ⟨s1, s2⟩ := pairsIn_spec hpi b o hp
        obtain ⟨cc, n, h1, h2⟩ := hw1.obj b o (hpost b o hp)
        exact ⟨cc, n, by rw [m2a b (hS b s1)]; exact h1, h2.turn hT s2⟩
      · have ho' : σ.get b = some o := by cases σ; exact ho
        by_cases hK : K b
        · obtain ⟨o2, ho2⟩ := isAt_iff.1 hK
          have hm := ofPairs_get ho2
          have : o2 = o := by have := hpre _ _ hm; rw [ho'] at this; simp at this; exact this.symm
          subst this
          obtain ⟨s1, s2⟩ := pairsIn_spec hpr b o2 hm
          rcases hkept b o2 hm with h1 | h1
          · obtain ⟨o3, ho3⟩ := isAt_iff.1 h1
            exact absurd (ofPairs_get ho3) (hno o3)
          · obtain ⟨cc, n, h2, h3⟩ := hw1.obj b o2 h1
            exact ⟨cc, n, by rw [m2a b (.inl hK)]; exact h2, h3.turn hT s2⟩
        · obtain ⟨cc, n, h1, h2⟩ := hw.obj b o ho'
          have hlt := hw.lt b _ h1
          have hc : ¬ (K b ∨ M.N ≤ b) := fun h => h.elim hK fun h => absurd hlt (Nat.not_lt.2 h)
          exact ⟨cc, n, by rw [m2b b hc]; exact h1, by rw [same b cc n hc h1]; exact h2.mono hle2⟩
    · intro b x hx
      by_cases hc : K b ∨ M.N ≤ b
      · rw [m2a b hc] at hx; exact hw1.lt b x hx
      · rw [m2b b hc] at hx; exact Nat.lt_of_lt_of_le (hw.lt b x hx) hN
    · intro b cc n hx
      by_cases hc : K b ∨ M.N ≤ b
      · rw [m2a b hc] at hx; exact hw1.bnd b cc n hx
      · rw [m2b b hc] at hx; exact Nat.lt_of_lt_of_le (hw.bnd b cc n hx) hk.size
    · intro b b' cc n n' hx hx'
      by_cases hc : K b ∨ M.N ≤ b
      · rw [m2a b hc] at hx
        by_cases hc' : K b' ∨ M.N ≤ b'
        · rw [m2a b' hc'] at hx'; exact hw1.inj _ _ _ _ _ hx hx'
        · rw [m2b b' hc'] at hx'; exact (part b b' cc n n' hc hc' hx hx').elim
      · rw [m2b b hc] at hx
        by_cases hc' : K b' ∨ M.N ≤ b'
        · rw [m2a b' hc'] at hx'; exact (part b' b cc n' n hc' hc hx' hx).elim
        · rw [m2b b' hc'] at hx'; exact hw.inj _ _ _ _ _ hx hx'
    · intro b cc n off hx
      by_cases hc : K b ∨ M.N ≤ b
      · rw [m2a b hc] at hx; exact hw1.apart _ _ _ _ hx
      · rw [m2b b hc] at hx; exact hw.apart _ _ _ _ hx
    · intro cc hcc hno
      exact hk.frame cc hcc fun b n hb => hno b n (h0 _ _ hb).1
    · intro b cc n hx
      by_cases hc : K b ∨ M.N ≤ b
      · rw [m2a b hc] at hx
        rcases hk.fresh b cc n hx with h1 | ⟨b', n', h1⟩
        · exact .inl h1
        · exact .inr ⟨b', n', (h0 _ _ h1).1⟩
      · rw [m2b b hc] at hx; exact .inr ⟨b, n, hx⟩
def ckHook (l : List Ck) (f : Nat) (args : List PV) (σ : St) : Option (PV × St) := match l with
  | [] => none
  | c :: l => match Nat.beq c.f f with
    | true => match Nat.beq c.n σ.next with
      | true => match listBeq PV.beq c.args args with
        | true => match holdsAll σ.m c.pre with
          | true => some (c.v, ⟨putPairs c.post σ.m, c.n'⟩)
          | false => ckHook l f args σ
        | false => ckHook l f args σ
      | false => ckHook l f args σ
    | false => ckHook l f args σ
/-- A known call holds at each state that has its blocks. -/
def CkGood (P : Program) (H : Hc) (c : Ck) : Prop := ∀ σ : St, σ.next = c.n → (∀ b o, (b, o) ∈ c.pre → σ.get b = some o) → CallOk P H c.f c.args σ c.v ⟨putPairs c.post σ.m, c.n'⟩
theorem ckOk_good (hm : P.follows .mixedOrders = true) (hE : EnvOk P H E) {k : Nat} {c : Ck} (h : ckOk E k c = true) : CkGood P H c := by
  intro σ hn hpre
  unfold ckOk ckTest at h
  split at h
  · rename_i v σ1 hc
    split at h
    · rename_i h1
      split at h
      · rename_i h2
        split at h
        · rename_i h3
          split at h
          · rename_i h4
            split at h
            · rename_i h5
              split at h
              · rename_i h6
                have hv := PV.beq_eq h1; subst hv
                refine sub_call (hcall_ok hm hE hc) (natBeq_eq _ _ h2).symm ?_ ?_ h5 h6 h hn hpre
                · intro b o hb; cases σ1; exact holdsAll_spec h3 b o hb
                · intro b o hb; cases σ1; exact keptOld_spec h4 b o hb
              · simp at h
            · simp at h
          · simp at h
        · simp at h
      · simp at h
    · simp at h
  · simp at h
theorem ckHook_sound : ∀ (l : List Ck), (∀ c ∈ l, CkGood P H c) → ∀ f args σ v σ', ckHook l f args σ = some (v, σ') → CallOk P H f args σ v σ'
  | [], _, f, args, σ, v, σ', h => by simp [ckHook] at h
  | c :: l, hl, f, args, σ, v, σ', h => by
    have ih := ckHook_sound l (fun c hc => hl c (by simp [hc])) f args σ v σ'
    simp only [ckHook] at h
    split at h
    · rename_i h1
      split at h
      · rename_i h2
        split at h
        · rename_i h3
          split at h
          · rename_i h4
            simp only [Option.some.injEq, Prod.mk.injEq] at h; obtain ⟨rfl, rfl⟩ := h
            rw [← natBeq_eq _ _ h1, ← listBeq_eq pvBeq_eq _ _ h3]
            refine hl c (by simp) σ (natBeq_eq _ _ h2).symm fun b o hb => ?_
            cases σ; exact holdsAll_spec h4 b o hb
          · exact ih h
        · exact ih h
      · exact ih h
    · exact ih h
end Am
/- A call that gives a value without blocks and leaves the store as it was can forget what it made. -/
namespace Am
open Go
variable {H : Hc} {P : Program} {E : Env}
/-- Blocks that two maps know, seen by a third. -/
structure Meet (M M1 M2 : Mu) : Prop where
  lt : ∀ b, b < M.N → b < M1.N → b < M2.N
  at_ : ∀ b, b < M.N → b < M1.N → ∀ x, M2.at_ b = some x → M1.at_ b = some x
section
variable {M M1 M2 : Mu}
mutual
theorem VRel.meet (hT : Meet M M1 M2) : ∀ {x : PV} {u v : Value}, VRel H M x u → VRel H M1 x v → VRel H M2 x v
  | .bool _, _, _, _, h | .int _ _, _, _, _, h | .str _, _, _, _, h | .nilp, _, _, _, h | .nils, _, _, _, h | .nilm, _, _, _, h | .nilf, _, _, _, h | .nili, _, _, _, h | .raw _, _, _, _, h => by simpa only [VRel] using h
  | .ptr b off, u, v, g, h => by
    simp only [VRel] at g h ⊢
    obtain ⟨hb, a, rfl, h⟩ := h
    exact ⟨hT.lt b g.1 hb, a, rfl, fun c n hc => h c n (hT.at_ b g.1 hb _ hc)⟩
  | .iptr cs off, u, v, g, h => by
    simp only [VRel] at g h ⊢
    obtain ⟨_, _, us, _, _, g2⟩ := g
    obtain ⟨c, o, vs, rfl, h1, h2⟩ := h
    exact ⟨c, o, vs, rfl, h1, VRels.meet hT g2 h2⟩
  | .slice b off len esz cap, u, v, g, h => by
    simp only [VRel] at g h ⊢
    obtain ⟨hb, a, cp, rfl, h1, h2, h3, h⟩ := h
    exact ⟨hT.lt b g.1 hb, a, cp, rfl, h1, h2, h3, fun c n hc => h c n (hT.at_ b g.1 hb _ hc)⟩
  | .islice cs len esz cap, u, v, g, h => by
    simp only [VRel] at g h ⊢
    obtain ⟨_, _, us, _, _, _, _, _, _, g7⟩ := g
    obtain ⟨a, cp, vs, rfl, h2, h3, h4, h5, h6, h7⟩ := h
    exact ⟨a, cp, vs, rfl, h2, h3, h4, h5, h6, VRels.meet hT g7 h7⟩
  | .map b, u, v, g, h => by
    simp only [VRel] at g h ⊢
    obtain ⟨hb, r, rfl, h⟩ := h
    exact ⟨hT.lt b g.1 hb, r, rfl, fun c n hc => h c n (hT.at_ b g.1 hb _ hc)⟩
  | .func f fs cs, u, v, g, h => by
    simp only [VRel] at g h ⊢
    obtain ⟨_, _, _, g1, g2⟩ := g
    obtain ⟨fs', cs', rfl, h1, h2⟩ := h
    exact ⟨fs', cs', rfl, VRels.meet hT g1 h1, VRels.meet hT g2 h2⟩
  | .yld b, u, v, g, h => by
    simp only [VRel] at g h ⊢
    obtain ⟨hb, r, rfl, h⟩ := h
    exact ⟨hT.lt b g.1 hb, r, rfl, fun c n hc => h c n (hT.at_ b g.1 hb _ hc)⟩
  | .iface t x, u, v, g, h => by
    simp only [VRel] at g h ⊢
    obtain ⟨_, _, g⟩ := g
    obtain ⟨x', rfl, h⟩ := h
    exact ⟨x', rfl, VRel.meet hT g h⟩
  | .agg cs, u, v, g, h => by
    simp only [VRel] at g h ⊢
    obtain ⟨_, _, g⟩ := g
    obtain ⟨vs, rfl, h⟩ := h
    exact ⟨vs, rfl, VRels.meet hT g h⟩
  | .tup cs, u, v, g, h => by
    simp only [VRel] at g h ⊢
    obtain ⟨_, _, g⟩ := g
    obtain ⟨vs, rfl, h⟩ := h
    exact ⟨vs, rfl, VRels.meet hT g h⟩
theorem VRels.meet (hT : Meet M M1 M2) : ∀ {xs : List PV} {us vs : List Value}, VRels H M xs us → VRels H M1 xs vs → VRels H M2 xs vs
  | [], _, _, _, h => by simpa only [VRels] using h
  | x :: xs, us, vs, g, h => by
    simp only [VRels] at g h ⊢
    obtain ⟨_, _, _, g1, g2⟩ := g
    obtain ⟨y, ys, rfl, h1, h2⟩ := h
    exact ⟨y, ys, rfl, VRel.meet hT g1 h1, VRels.meet hT g2 h2⟩
end
theorem ERels.meet (hT : Meet M M1 M2) : ∀ {es : List AEnt} {us vs : List MapEntry}, ERels H M es us → ERels H M1 es vs → ERels H M2 es vs
  | [], _, _, _, h => h
  | e :: es, us, vs, g, h => by
    obtain ⟨_, _, _, g1, g2⟩ := g
    obtain ⟨y, ys, rfl, h1, h2⟩ := h
    exact ⟨y, ys, rfl, ⟨g1.1.meet hT h1.1, g1.2.1.meet hT h1.2.1, h1.2.2⟩, ERels.meet hT g2 h2⟩
theorem RRel.meet (hT : Meet M M1 M2) {ρ : Regs} {t1 t2 : Array Value} (g : RRel H M ρ t1) (h : RRel H M1 ρ t2) : RRel H M2 ρ t2 :=
  ⟨h.1, fun t v ht => by
    obtain ⟨_, _, g2⟩ := g.2 t v ht
    obtain ⟨cv, h1, h2⟩ := h.2 t v ht
    exact ⟨cv, h1, g2.meet hT h2⟩⟩
theorem ORel.meet {CR : Code → ACode → Prop} (hT : Meet M M1 M2) {n n' : Nat} {o : AObj} {u v : Option Obj} (g : ORel CR H M n o u) (h : ORel CR H M1 n' o v) : ORel CR H M2 n' o v := by
  cases o with
  | cells cs op =>
    obtain ⟨_, _, _, _, _, _, _, _, _, _, g6⟩ := g
    obtain ⟨c, e, fr, h1, h2, h3, h4, c1, c2, h5, h6⟩ := h
    exact ⟨c, e, fr, h1, h2, h3, h4, c1, c2, h5, g6.meet hT h6⟩
  | map es clock =>
    obtain ⟨_, _, g2⟩ := g
    obtain ⟨es', h1, h2⟩ := h; exact ⟨es', h1, g2.meet hT h2⟩
  | mit m since seen stepped =>
    obtain ⟨m0, _, g2⟩ := g
    obtain ⟨m', h1, h2⟩ := h
    refine ⟨m', h1, ?_⟩
    cases m with
    | none => cases m' <;> exact h2
    | some b =>
      cases m' with
      | none => exact h2
      | some r =>
        cases m0 with
        | none => exact g2.elim
        | some _ => exact ⟨hT.lt b g2.1 h2.1, fun c n hc => h2.2 c n (hT.at_ b g2.1 h2.1 _ hc)⟩
  | loop l =>
    obtain ⟨_, _, g2⟩ := g
    obtain ⟨l', h1, h2⟩ := h
    exact ⟨l', h1, { h2 with regs := g2.regs.meet hT h2.regs }⟩
end
theorem forget_call {f : Nat} {args : List PV} {v : PV} {σ σ1 : St} (h : CallOk P H f args σ v σ1) (hold : ∀ b o, b < σ.next → σ.get b = some o → σ1.get b = some o) (hv : flat v = true) : CallOk P H f args σ v σ := by
  intro M w vs hvs hw
  obtain ⟨h1, h2⟩ := h M w vs hvs hw
  refine ⟨h1, fun cs => ?_⟩
  obtain ⟨e, w1, fr, hR, rest⟩ := h2 cs
  refine ⟨e, w1, fr, ?_, rest⟩
  cases e with
  | panicked _ => exact hR.elim
  | outgrown => exact hR.elim
  | returned cv =>
    obtain ⟨M1, hw1, hk, hrel⟩ := hR
    let M2 : Mu := { at_ := fun b => if b < M.N then M1.at_ b else none, N := M.N }
    have m2 : ∀ b x, M2.at_ b = some x → M1.at_ b = some x ∧ b < M.N := by
      intro b x hx; simp only [M2] at hx; split at hx
      · exact ⟨hx, by assumption⟩
      · simp at hx
    have hT : Meet M M1 M2 := ⟨fun b hb _ => hb, fun b _ _ x hx => (m2 b x hx).1⟩
    have hle : M.Le M2 := ⟨Nat.le_refl _, fun b hb x hx => hk.le.at_ b hb x (m2 b x hx).1⟩
    refine ⟨M2, ⟨hw.next, fun b o hb => ?_, fun b x hx => (m2 b x hx).2, fun b c n hx => hw1.bnd b c n (m2 _ _ hx).1, fun b b' c n n' hx hx' => hw1.inj _ _ _ _ _ (m2 _ _ hx).1 (m2 _ _ hx').1, hw1.imm, fun b c n off hx => hw1.apart _ _ _ _ (m2 _ _ hx).1⟩,
      ⟨hle, hk.size, hk.frame, fun b c n hx => hk.fresh b c n (m2 _ _ hx).1, hk.out, hk.os, hk.loops⟩, flat_rel hv hrel⟩
    obtain ⟨c0, n0, g1, g2⟩ := hw.obj b o hb
    have hlt := hw.lt b _ g1
    obtain ⟨c, n, g3, g4⟩ := hw1.obj b o (hold b o (by rw [← hw.next]; exact hlt) hb)
    exact ⟨c, n, by simp only [M2, if_pos hlt]; exact g3, g2.meet hT g4⟩
/-- A call at the state that 'CallA' tells. -/
theorem callOk_of {f : Nat} {args : List PV} {v : PV} {σ σ' : St} (hm : P.follows .mixedOrders = true) (hE : EnvOk P H E) (h : ∃ k, hcall E k f args σ = some (v, σ')) : CallOk P H f args σ v σ' :=
  let ⟨_, h⟩ := h; hcall_ok hm hE h
end Am
/- Runs of the abstract machine of whatever depth, put together by rules. -/
namespace Am
open Go
variable {E : Env} {ρ ρ' ρ1 : Regs} {σ σ' σ1 σ2 : St}

/-! ### A deeper evaluator gives what a less deep one gives -/
abbrev Ih := ACode → Regs → St → R
def IhLe (i j : Ih) : Prop := ∀ c ρ σ r, i c ρ σ = some r → j c ρ σ = some r
theorem callF_mono {i j : Ih} (h : IhLe i j) {f : Nat} {args : List PV} {σ : St} {r : PV × St} (hc : callF E i f args σ = some r) : callF E j f args σ = some r := by
  unfold callF at hc ⊢
  split at hc
  · exact hc
  · split at hc
    · rename_i fn hf
      split at hc
      · rename_i e ρ' σ' hb
        rw [h _ _ _ _ hb]; exact hc
      · simp at hc
    · simp at hc
theorem roundF_mono {i j : Ih} (h : IhLe i j) {b : Nat} {args : List PV} {σ : St} {r : PV × St} (hc : roundF i b args σ = some r) : roundF j b args σ = some r := by
  unfold roundF at hc ⊢
  split at hc
  · split at hc
    · split at hc
      · rename_i ha
        rw [h _ _ _ _ ha]
        simp only
        split at hc
        · split at hc
          · split at hc
            · rename_i hb; rw [h _ _ _ _ hb]; exact hc
            · simp at hc
          · simp at hc
        · simp at hc
      · simp at hc
    · simp at hc
  · simp at hc
theorem operEval_mono {i j : Ih} (h : IhLe i j) {o : AOper} {r : Regs × St} (hc : operEval E i ρ σ o = some r) : operEval E j ρ σ o = some r := by
  unfold operEval at hc ⊢
  split at hc
  · split at hc
    · exact hc
    · split at hc
      · rename_i hb; rw [callF_mono h hb]; exact hc
      · simp at hc
    · split at hc
      · rename_i hb; rw [roundF_mono h hb]; exact hc
      · simp at hc
    · simp at hc
  · exact hc
  · simp at hc
theorem opsEval_nil {i : Ih} {outs : List Nat} : opsEval E i outs [] ρ σ = opsNil outs ρ σ := rfl
theorem opsEval_cons {i : Ih} {outs : List Nat} {o : AOper} {os : List AOper} : opsEval E i outs (o :: os) ρ σ = opsCons E i o (opsEval E i outs os) ρ σ := rfl
theorem opsEval_mono {i j : Ih} (h : IhLe i j) {outs : List Nat} : ∀ {os : List AOper} {ρ : Regs} {σ : St} {r : AExit × Regs × St}, opsEval E i outs os ρ σ = some r → opsEval E j outs os ρ σ = some r
  | [], _, _, _, hc => hc
  | o :: os, ρ, σ, r, hc => by
    rw [opsEval_cons] at hc ⊢
    unfold opsCons at hc ⊢
    split at hc
    · rename_i hb; rw [operEval_mono h hb]; exact opsEval_mono h hc
    · simp at hc
theorem opsTrace_mono {i j : Ih} (h : IhLe i j) : ∀ {os : List AOper} {ρ : Regs} {σ : St} {r : List (Regs × St) × Regs × St}, opsTrace E i os ρ σ = some r → opsTrace E j os ρ σ = some r
  | [], _, _, _, hc => hc
  | o :: os, ρ, σ, r, hc => by
    unfold opsTrace at hc ⊢
    split at hc
    · rename_i hb
      rw [operEval_mono h hb]
      simp only
      split at hc
      · rename_i h2; rw [opsTrace_mono h h2]; exact hc
      · simp at hc
    · simp at hc
theorem evalCode_mono {i j : Ih} (h : IhLe i j) : ∀ (c : ACode) (ρ : Regs) (σ : St) (r : AExit × Regs × St), evalCode E i c ρ σ = some r → evalCode E j c ρ σ = some r := by
  intro c
  induction c with
  | skip => intro ρ σ r hc; exact hc
  | region ops outs => intro ρ σ r hc; exact opsEval_mono h hc
  | drawn ops fl outs =>
    intro ρ σ r hc
    change drawnEval E i ops fl outs ρ σ = some r at hc
    change drawnEval E j ops fl outs ρ σ = some r
    unfold drawnEval at hc ⊢
    split at hc
    · exact opsEval_mono h hc
    · split at hc
      · rename_i h2; rw [opsTrace_mono h h2]; exact hc
      · simp at hc
  | seq a b ha hb =>
    intro ρ σ r hc
    change cSeq (evalCode E i a) (evalCode E i b) ρ σ = some r at hc
    change cSeq (evalCode E j a) (evalCode E j b) ρ σ = some r
    unfold cSeq at hc ⊢
    split at hc
    · rename_i e ρ' σ' h1
      rw [ha _ _ _ h1]
      cases e with
      | normal => exact hb _ _ _ hc
      | exit id => exact hc
      | goto l => exact hc
      | ret => exact hc
    · simp at hc
  | cond c x y hx hy =>
    intro ρ σ r hc
    change cCond c (evalCode E i x) (evalCode E i y) ρ σ = some r at hc
    change cCond c (evalCode E j x) (evalCode E j y) ρ σ = some r
    unfold cCond at hc ⊢
    split at hc
    · rename_i b hb
      cases b with
      | true => exact hx _ _ _ hc
      | false => exact hy _ _ _ hc
    · simp at hc
  | block id c hx =>
    intro ρ σ r hc
    change cBlock id (evalCode E i c) ρ σ = some r at hc
    change cBlock id (evalCode E j c) ρ σ = some r
    unfold cBlock at hc ⊢
    split at hc
    · rename_i h1; rw [hx _ _ _ h1]; exact hc
    · simp at hc
  | loop c hx =>
    intro ρ σ r hc
    change cLoop (i (.loop c)) (evalCode E i c) ρ σ = some r at hc
    change cLoop (j (.loop c)) (evalCode E j c) ρ σ = some r
    unfold cLoop at hc ⊢
    split at hc
    · rename_i e ρ' σ' h1
      rw [hx _ _ _ h1]
      cases e with
      | normal => exact h _ _ _ _ hc
      | exit id => exact hc
      | goto l => exact hc
      | ret => exact hc
    · simp at hc
  | rangeFunc f ps as body h1 h2 =>
    intro ρ σ r hc
    change cRange E i f ps as body ρ σ = some r at hc
    change cRange E j f ps as body ρ σ = some r
    unfold cRange at hc ⊢
    split at hc
    · split at hc
      · rename_i h3; rw [callF_mono h h3]; exact hc
      · simp at hc
    · simp at hc
  | exit id => intro ρ σ r hc; exact hc
  | scope whole c h1 h2 =>
    intro ρ σ r hc
    change cScope i whole (evalCode E i c) ρ σ = some r at hc
    change cScope j whole (evalCode E j c) ρ σ = some r
    unfold cScope at hc ⊢
    split at hc
    · rename_i e ρ' σ' h3
      rw [h2 _ _ _ h3]
      cases e with
      | normal => exact hc
      | exit id => exact hc
      | goto l =>
        simp only at hc ⊢
        split at hc
        · exact h _ _ _ _ hc
        · simp at hc
      | ret => exact hc
    · simp at hc
  | label l => intro ρ σ r hc; exact hc
  | goto l => intro ρ σ r hc; exact hc
  | ret => intro ρ σ r hc; exact hc
  | stuck => intro ρ σ r hc; exact hc
theorem hev_succ (k : Nat) : hev E (k + 1) = evalCode E (hev E k) := rfl
theorem hev_le_succ : ∀ k, IhLe (hev E k) (hev E (k + 1))
  | 0 => fun c ρ σ r h => by change none = _ at h; simp at h
  | k + 1 => fun c ρ σ r h => by
    rw [hev_succ] at h ⊢
    exact evalCode_mono (hev_le_succ k) c ρ σ r h
theorem hev_mono {k k' : Nat} (hk : k ≤ k') : IhLe (hev E k) (hev E k') := by
  induction hk with
  | refl => exact fun _ _ _ _ h => h
  | step _ ih => exact fun c ρ σ r h => hev_le_succ _ _ _ _ _ (ih _ _ _ _ h)

/-! ### What a run ends in -/
/-- A call gives a value and a state. -/
def CallA (E : Env) (f : Nat) (args : List PV) (σ : St) (v : PV) (σ' : St) : Prop := ∃ k, hcall E k f args σ = some (v, σ')
def WP (E : Env) (c : ACode) (ρ : Regs) (σ : St) (Q : AExit → Regs → St → Prop) : Prop := ∃ k e ρ' σ', hev E k c ρ σ = some (e, ρ', σ') ∧ Q e ρ' σ'
def OpsW (E : Env) (os : List AOper) (outs : List Nat) (ρ : Regs) (σ : St) (Q : AExit → Regs → St → Prop) : Prop := ∃ k e ρ' σ', opsEval E (hev E k) outs os ρ σ = some (e, ρ', σ') ∧ Q e ρ' σ'
variable {Q : AExit → Regs → St → Prop}
/-- What follows if all is well so far; else the end. -/
def Then (k : Regs → St → Prop) (Q : AExit → Regs → St → Prop) : AExit → Regs → St → Prop
  | .normal, ρ, σ => k ρ σ
  | e, ρ, σ => Q e ρ σ
theorem WP.mono {c : ACode} {Q' : AExit → Regs → St → Prop} (h : WP E c ρ σ Q) (hq : ∀ e ρ σ, Q e ρ σ → Q' e ρ σ) : WP E c ρ σ Q' :=
  let ⟨k, e, ρ', σ', h1, h2⟩ := h; ⟨k, e, ρ', σ', h1, hq _ _ _ h2⟩
theorem WP.succ {c : ACode} {k : Nat} {r : AExit × Regs × St} (h : evalCode E (hev E k) c ρ σ = some r) (hq : Q r.1 r.2.1 r.2.2) : WP E c ρ σ Q := ⟨k + 1, r.1, r.2.1, r.2.2, h, hq⟩
theorem wp_skip (h : Q .normal ρ σ) : WP E .skip ρ σ Q := ⟨1, _, _, _, rfl, h⟩
theorem wp_ret (h : Q .ret ρ σ) : WP E .ret ρ σ Q := ⟨1, _, _, _, rfl, h⟩
theorem wp_exit {id : Nat} (h : Q (.exit id) ρ σ) : WP E (.exit id) ρ σ Q := ⟨1, _, _, _, rfl, h⟩
theorem wp_goto {l : Nat} (h : Q (.goto l) ρ σ) : WP E (.goto l) ρ σ Q := ⟨1, _, _, _, rfl, h⟩
theorem wp_label {l : Nat} (h : Q .normal ρ σ) : WP E (.label l) ρ σ Q := ⟨1, _, _, _, rfl, h⟩
theorem hev_up {k k' : Nat} (hk : k ≤ k') {c : ACode} {r : AExit × Regs × St} (h : hev E k c ρ σ = some r) : hev E k' c ρ σ = some r := hev_mono hk _ _ _ _ h
theorem wp_seq {a b : ACode} (h : WP E a ρ σ (Then (fun ρ' σ' => WP E b ρ' σ' Q) Q)) : WP E (.seq a b) ρ σ Q := by
  obtain ⟨k, e, ρ1, σ1, h1, h2⟩ := h
  cases e with
  | normal =>
    obtain ⟨k2, e2, ρ2, σ2, h3, h4⟩ := h2
    refine ⟨max k k2 + 1, e2, ρ2, σ2, ?_, h4⟩
    change cSeq (evalCode E (hev E (max k k2)) a) (evalCode E (hev E (max k k2)) b) ρ σ = _
    unfold cSeq
    have g1 : hev E (max k k2 + 1) a ρ σ = _ := hev_up (by omega) h1
    have g2 : hev E (max k k2 + 1) b ρ1 σ1 = _ := hev_up (by omega) h3
    rw [hev_succ] at g1 g2
    rw [g1]; exact g2
  | exit id => refine ⟨k + 1, _, _, _, ?_, h2⟩; change cSeq (evalCode E (hev E k) a) _ ρ σ = _; have g1 := hev_up (Nat.le_succ k) h1; rw [hev_succ] at g1; unfold cSeq; rw [g1]
  | goto l => refine ⟨k + 1, _, _, _, ?_, h2⟩; change cSeq (evalCode E (hev E k) a) _ ρ σ = _; have g1 := hev_up (Nat.le_succ k) h1; rw [hev_succ] at g1; unfold cSeq; rw [g1]
  | ret => refine ⟨k + 1, _, _, _, ?_, h2⟩; change cSeq (evalCode E (hev E k) a) _ ρ σ = _; have g1 := hev_up (Nat.le_succ k) h1; rw [hev_succ] at g1; unfold cSeq; rw [g1]
theorem wp_cond {c : Src} {x y : ACode} {b : Bool} (hc : ρ.src c = some (.bool b)) (ht : b = true → WP E x ρ σ Q) (hf : b = false → WP E y ρ σ Q) : WP E (.cond c x y) ρ σ Q := by
  cases b with
  | true =>
    obtain ⟨k, e, ρ1, σ1, h1, h2⟩ := ht rfl
    refine ⟨k + 1, e, ρ1, σ1, ?_, h2⟩
    change cCond c (evalCode E (hev E k) x) (evalCode E (hev E k) y) ρ σ = _
    have g1 := hev_up (Nat.le_succ k) h1; rw [hev_succ] at g1
    unfold cCond; rw [hc]; exact g1
  | false =>
    obtain ⟨k, e, ρ1, σ1, h1, h2⟩ := hf rfl
    refine ⟨k + 1, e, ρ1, σ1, ?_, h2⟩
    change cCond c (evalCode E (hev E k) x) (evalCode E (hev E k) y) ρ σ = _
    have g1 := hev_up (Nat.le_succ k) h1; rw [hev_succ] at g1
    unfold cCond; rw [hc]; exact g1
theorem wp_true {c : Src} {x y : ACode} (hc : ρ.src c = some (.bool true)) (ht : WP E x ρ σ Q) : WP E (.cond c x y) ρ σ Q := wp_cond hc (fun _ => ht) (fun h => by cases h)
theorem wp_false {c : Src} {x y : ACode} (hc : ρ.src c = some (.bool false)) (ht : WP E y ρ σ Q) : WP E (.cond c x y) ρ σ Q := wp_cond hc (fun h => by cases h) (fun _ => ht)
/-- The end of a block. -/
def Out (id : Nat) (Q : AExit → Regs → St → Prop) : AExit → Regs → St → Prop
  | .exit id', ρ, σ => match Nat.beq id' id with
    | true => Q .normal ρ σ
    | false => Q (.exit id') ρ σ
  | e, ρ, σ => Q e ρ σ
theorem wp_block {id : Nat} {c : ACode} (h : WP E c ρ σ (Out id Q)) : WP E (.block id c) ρ σ Q := by
  obtain ⟨k, e, ρ1, σ1, h1, h2⟩ := h
  have g1 := hev_up (Nat.le_succ k) h1; rw [hev_succ] at g1
  have key : ∀ r : AExit × Regs × St, (match (some (e, ρ1, σ1) : R) with
      | some (e, ρ', σ') => match e with
        | .normal => some (.normal, ρ', σ')
        | .exit id' => match Nat.beq id' id with
          | true => some (.normal, ρ', σ')
          | false => some (.exit id', ρ', σ')
        | .goto l => some (.goto l, ρ', σ')
        | .ret => some (.ret, ρ', σ')
      | none => none : R) = some r → hev E (k + 1) (.block id c) ρ σ = some r := by
    intro r hr
    change cBlock id (evalCode E (hev E k) c) ρ σ = _
    unfold cBlock; rw [g1]; exact hr
  cases e with
  | normal => exact ⟨k + 1, _, _, _, key _ rfl, h2⟩
  | exit id' =>
    simp only [Out] at h2
    cases hb : Nat.beq id' id with
    | true => rw [hb] at h2; exact ⟨k + 1, .normal, ρ1, σ1, key _ (by simp only [hb]), h2⟩
    | false => rw [hb] at h2; exact ⟨k + 1, .exit id', ρ1, σ1, key _ (by simp only [hb]), h2⟩
  | goto l => exact ⟨k + 1, _, _, _, key _ rfl, h2⟩
  | ret => exact ⟨k + 1, _, _, _, key _ rfl, h2⟩
/-- A loop: one round, and the loop again. -/
theorem wp_loop {c : ACode} (h : WP E c ρ σ (Then (fun ρ' σ' => WP E (.loop c) ρ' σ' Q) Q)) : WP E (.loop c) ρ σ Q := by
  obtain ⟨k, e, ρ1, σ1, h1, h2⟩ := h
  cases e with
  | normal =>
    obtain ⟨k2, e2, ρ2, σ2, h3, h4⟩ := h2
    refine ⟨max k k2 + 1, e2, ρ2, σ2, ?_, h4⟩
    change cLoop (hev E (max k k2) (.loop c)) (evalCode E (hev E (max k k2)) c) ρ σ = _
    unfold cLoop
    have g1 : hev E (max k k2 + 1) c ρ σ = _ := hev_up (by omega) h1
    have g2 : hev E (max k k2) (.loop c) ρ1 σ1 = _ := hev_up (by omega) h3
    rw [hev_succ] at g1
    rw [g1]; exact g2
  | exit id => refine ⟨k + 1, _, _, _, ?_, h2⟩; change cLoop _ (evalCode E (hev E k) c) ρ σ = _; have g1 := hev_up (Nat.le_succ k) h1; rw [hev_succ] at g1; unfold cLoop; rw [g1]
  | goto l => refine ⟨k + 1, _, _, _, ?_, h2⟩; change cLoop _ (evalCode E (hev E k) c) ρ σ = _; have g1 := hev_up (Nat.le_succ k) h1; rw [hev_succ] at g1; unfold cLoop; rw [g1]
  | ret => refine ⟨k + 1, _, _, _, ?_, h2⟩; change cLoop _ (evalCode E (hev E k) c) ρ σ = _; have g1 := hev_up (Nat.le_succ k) h1; rw [hev_succ] at g1; unfold cLoop; rw [g1]
/-- A loop with an invariant on a number that falls. -/
theorem wp_loop_inv {c : ACode} (I : Nat → Regs → St → Prop) (hr : ∀ n ρ σ, I n ρ σ → WP E c ρ σ (Then (fun ρ' σ' => ∃ m, m < n ∧ I m ρ' σ') Q)) (n : Nat) : ∀ (ρ : Regs) (σ : St), I n ρ σ → WP E (.loop c) ρ σ Q := by
  induction n using Nat.strongRecOn with
  | _ n ih =>
    intro ρ σ hi
    refine wp_loop ((hr n ρ σ hi).mono fun e ρ' σ' h => ?_)
    cases e with
    | normal => obtain ⟨m, h1, h2⟩ := h; exact ih m h1 _ _ h2
    | exit id => exact h
    | goto l => exact h
    | ret => exact h
theorem wp_region {os : List AOper} {outs : List Nat} (h : OpsW E os outs ρ σ Q) : WP E (.region os outs) ρ σ Q :=
  let ⟨k, e, ρ', σ', h1, h2⟩ := h; ⟨k + 1, e, ρ', σ', h1, h2⟩
theorem wp_drawn {os : List AOper} {outs : List Nat} (h : OpsW E os outs ρ σ Q) : WP E (.drawn os [] outs) ρ σ Q :=
  let ⟨k, e, ρ', σ', h1, h2⟩ := h; ⟨k + 1, e, ρ', σ', h1, h2⟩
theorem ops_nil {outs : List Nat} (hk : ρ.keep outs = some ρ') (h : Q .normal ρ' σ) : OpsW E [] outs ρ σ Q := ⟨0, _, _, _, by rw [opsEval_nil]; unfold opsNil; rw [hk], h⟩
theorem ops_step {o : AOper} {os : List AOper} {outs : List Nat} {k : Nat} (ho : operEval E (hev E k) ρ σ o = some (ρ1, σ1)) (h : OpsW E os outs ρ1 σ1 Q) : OpsW E (o :: os) outs ρ σ Q := by
  obtain ⟨k2, e, ρ2, σ2, h1, h2⟩ := h
  refine ⟨max k k2, e, ρ2, σ2, ?_, h2⟩
  rw [opsEval_cons]; unfold opsCons
  rw [operEval_mono (hev_mono (Nat.le_max_left k k2)) ho]
  exact opsEval_mono (hev_mono (Nat.le_max_right k k2)) h1
/-- One operation. -/
theorem ops_v {d : Option Nat} {op : AOp} {os : List AOper} {outs : List Nat} {v : PV} (ho : opEval op ρ σ = some (.v v σ1)) (hp : ρ.put d v = some ρ1) (h : OpsW E os outs ρ1 σ1 Q) :
    OpsW E (⟨d, op, none⟩ :: os) outs ρ σ Q :=
  ops_step (k := 0) (by simp only [operEval, wantedV, ho, hp]) h
theorem ops_vg {d : Option Nat} {op : AOp} {os : List AOper} {outs : List Nat} {v : PV} {g : Nat × Bool} (hg : wantedV ρ (some g) = some true) (ho : opEval op ρ σ = some (.v v σ1)) (hp : ρ.put d v = some ρ1) (h : OpsW E os outs ρ1 σ1 Q) :
    OpsW E (⟨d, op, some g⟩ :: os) outs ρ σ Q :=
  ops_step (k := 0) (by simp only [operEval, hg, ho, hp]) h
theorem ops_no {d : Option Nat} {op : AOp} {os : List AOper} {outs : List Nat} {g : Nat × Bool} (hg : wantedV ρ (some g) = some false) (hp : ρ.put d (.tup []) = some ρ1) (h : OpsW E os outs ρ1 σ Q) :
    OpsW E (⟨d, op, some g⟩ :: os) outs ρ σ Q :=
  ops_step (k := 0) (by simp only [operEval, hg, hp]) h
theorem ops_call {d : Option Nat} {op : AOp} {os : List AOper} {outs : List Nat} {v : PV} {f : Nat} {args : List PV} (ho : opEval op ρ σ = some (.call f args σ1)) (hc : CallA E f args σ1 v σ2) (hp : ρ.put d v = some ρ1) (h : OpsW E os outs ρ1 σ2 Q) :
    OpsW E (⟨d, op, none⟩ :: os) outs ρ σ Q := by
  obtain ⟨k, hc⟩ := hc
  refine ops_step (k := k) ?_ h
  unfold hcall at hc
  simp only [operEval, wantedV, ho, hc, hp]
theorem ops_callg {d : Option Nat} {op : AOp} {os : List AOper} {outs : List Nat} {v : PV} {f : Nat} {args : List PV} {g : Nat × Bool} (hg : wantedV ρ (some g) = some true) (ho : opEval op ρ σ = some (.call f args σ1)) (hc : CallA E f args σ1 v σ2) (hp : ρ.put d v = some ρ1) (h : OpsW E os outs ρ1 σ2 Q) :
    OpsW E (⟨d, op, some g⟩ :: os) outs ρ σ Q := by
  obtain ⟨k, hc⟩ := hc
  refine ops_step (k := k) ?_ h
  unfold hcall at hc
  simp only [operEval, hg, ho, hc, hp]
/-- A call by the hook. -/
theorem call_hook {f : Nat} {args : List PV} {v : PV} (h : E.hook f args σ = some (v, σ')) : CallA E f args σ v σ' := ⟨0, by unfold hcall callF; rw [h]⟩
/-- A call of a function of the program. -/
theorem call_fn {f : Nat} {args : List PV} {v : PV} {fn : AFunc} (hh : E.hook f args σ = none) (hf : E.fn f = some fn)
    (h : WP E fn.body (Regs.entry fn.ntmps args) σ fun e ρ' σ2 => (e = .normal ∨ e = .ret) ∧ σ2 = σ' ∧ ∃ vs, resultsOf ρ' σ2 fn.results = some vs ∧ oneOrTup vs = v) : CallA E f args σ v σ' := by
  obtain ⟨k, e, ρ1, σ1, h1, he, rfl, vs, h2, rfl⟩ := h
  refine ⟨k, ?_⟩
  unfold hcall callF
  rw [hh]; simp only [hf, h1]
  rcases he with rfl | rfl <;> simp only [h2]
/-- The same, where the state behind is told by a property. -/
theorem call_fn' {f : Nat} {args : List PV} {fn : AFunc} {R : PV → St → Prop} (hh : E.hook f args σ = none) (hf : E.fn f = some fn)
    (h : WP E fn.body (Regs.entry fn.ntmps args) σ fun e ρ' σ2 => (e = .normal ∨ e = .ret) ∧ ∃ vs, resultsOf ρ' σ2 fn.results = some vs ∧ R (oneOrTup vs) σ2) : ∃ v σ', CallA E f args σ v σ' ∧ R v σ' := by
  obtain ⟨k, e, ρ1, σ1, h1, he, vs, h2, h3⟩ := h
  exact ⟨_, σ1, call_fn hh hf ⟨k, e, ρ1, σ1, h1, he, rfl, vs, h2, rfl⟩, h3⟩
/-! ### Drawn regions with floating reads -/
def OpsT (E : Env) (os : List AOper) (ρ : Regs) (σ : St) (Q : List (Regs × St) → Regs → St → Prop) : Prop := ∃ k l ρ' σ', opsTrace E (hev E k) os ρ σ = some (l, ρ', σ') ∧ Q l ρ' σ'
variable {T : List (Regs × St) → Regs → St → Prop}
theorem wp_drawn_fl {os : List AOper} {fl : List (Nat × Nat × Nat)} {outs : List Nat} (hne : fl ≠ [])
    (h : OpsT E os ρ σ fun l ρ1 σ1 => fl.all (floatOk os l (ρ1, σ1)) = true ∧ ∃ ρ', ρ1.keep outs = some ρ' ∧ Q .normal ρ' σ1) : WP E (.drawn os fl outs) ρ σ Q := by
  obtain ⟨k, l, ρ1, σ1, h1, h2, ρ2, h3, h4⟩ := h
  refine ⟨k + 1, .normal, ρ2, σ1, ?_, h4⟩
  change drawnEval E (hev E k) os fl outs ρ σ = _
  unfold drawnEval
  cases fl with
  | nil => exact absurd rfl hne
  | cons a fl => simp only [h1, h2, opsNil, h3]
theorem opsT_nil (h : T [] ρ σ) : OpsT E [] ρ σ T := ⟨0, _, _, _, rfl, h⟩
theorem opsT_step {o : AOper} {os : List AOper} {k : Nat} (ho : operEval E (hev E k) ρ σ o = some (ρ1, σ1)) (h : OpsT E os ρ1 σ1 (fun l => T ((ρ, σ) :: l))) : OpsT E (o :: os) ρ σ T := by
  obtain ⟨k2, l, ρ2, σ2, h1, h2⟩ := h
  refine ⟨max k k2, (ρ, σ) :: l, ρ2, σ2, ?_, h2⟩
  unfold opsTrace
  rw [operEval_mono (hev_mono (Nat.le_max_left k k2)) ho]
  simp only
  rw [opsTrace_mono (hev_mono (Nat.le_max_right k k2)) h1]
theorem opsT_v {d : Option Nat} {op : AOp} {os : List AOper} {v : PV} (ho : opEval op ρ σ = some (.v v σ1)) (hp : ρ.put d v = some ρ1) (h : OpsT E os ρ1 σ1 (fun l => T ((ρ, σ) :: l))) :
    OpsT E (⟨d, op, none⟩ :: os) ρ σ T :=
  opsT_step (k := 0) (by simp only [operEval, wantedV, ho, hp]) h
theorem opsT_vg {d : Option Nat} {op : AOp} {os : List AOper} {v : PV} {g : Nat × Bool} (hg : wantedV ρ (some g) = some true) (ho : opEval op ρ σ = some (.v v σ1)) (hp : ρ.put d v = some ρ1) (h : OpsT E os ρ1 σ1 (fun l => T ((ρ, σ) :: l))) :
    OpsT E (⟨d, op, some g⟩ :: os) ρ σ T :=
  opsT_step (k := 0) (by simp only [operEval, hg, ho, hp]) h
theorem opsT_no {d : Option Nat} {op : AOp} {os : List AOper} {g : Nat × Bool} (hg : wantedV ρ (some g) = some false) (hp : ρ.put d (.tup []) = some ρ1) (h : OpsT E os ρ1 σ (fun l => T ((ρ, σ) :: l))) :
    OpsT E (⟨d, op, some g⟩ :: os) ρ σ T :=
  opsT_step (k := 0) (by simp only [operEval, hg, hp]) h
theorem opsT_call {d : Option Nat} {op : AOp} {os : List AOper} {v : PV} {f : Nat} {args : List PV} (ho : opEval op ρ σ = some (.call f args σ1)) (hc : CallA E f args σ1 v σ2) (hp : ρ.put d v = some ρ1) (h : OpsT E os ρ1 σ2 (fun l => T ((ρ, σ) :: l))) :
    OpsT E (⟨d, op, none⟩ :: os) ρ σ T := by
  obtain ⟨k, hc⟩ := hc
  refine opsT_step (k := k) ?_ h
  unfold hcall at hc
  simp only [operEval, wantedV, ho, hc, hp]
end Am
/- Rules for single operations: what each asks, so that 'rfl' and a bound or two pay it. -/
namespace Am
open Go
variable {E : Env} {ρ ρ' ρ1 : Regs} {σ σ' σ1 σ2 : St} {Q : AExit → Regs → St → Prop}

/-! ### Reading -/
theorem rd_iptr {cs r : List PV} {off n : Nat} (h : cellsAt cs off n = some r) : readPtr σ (.iptr cs off) n = some r := h
theorem rd_ptr {b off n : Nat} {cs r : List PV} {op : Bool} (hb : σ.get b = some (.cells cs op)) (h : cellsAt cs off n = some r) : readPtr σ (.ptr b off) n = some r := by
  simp only [readPtr, hb]; exact h
theorem get_new_self {o : AObj} : (σ.new o).get σ.next = some o := by simp
theorem get_new_old {o x : AObj} {b : Nat} (h : σ.get b = some x) (hb : b < σ.next) : (σ.new o).get b = some x := by
  simp; rw [if_neg (by omega)]; exact h
theorem get_set_self {o : AObj} {b : Nat} : (σ.set b o).get b = some o := by simp
theorem get_set_ne {o x : AObj} {b b' : Nat} (h : σ.get b = some x) (hb : b ≠ b') : (σ.set b' o).get b = some x := by
  simp; rw [if_neg hb]; exact h
theorem ev_boxA {x : Src} {cs : List PV} (hs : ρ.src x = some (.agg cs)) : opEval (.box x) ρ σ = some (.v (.ptr σ.next 0) (σ.new (.cells cs false))) := by
  simp only [opEval, evBox, hs, PV.cells]
theorem ev_load1 {a : Src} {p v : PV} (hs : ρ.src a = some p) (hr : readPtr σ p 1 = some [v]) : opEval (.load none a) ρ σ = some (.v v σ) := by
  simp only [opEval, evLoad, hs, hr]
theorem ev_loadN {a : Src} {p : PV} {n : Nat} {cs : List PV} (hs : ρ.src a = some p) (hr : readPtr σ p n = some cs) : opEval (.load (some n) a) ρ σ = some (.v (.agg cs) σ) := by
  simp only [opEval, evLoad, hs, hr]
theorem ev_store {n : Nat} {a x : Src} {b off : Nat} {v : PV} {cs cs' : List PV} {op : Bool} (hs : ρ.src a = some (.ptr b off)) (hv : ρ.src x = some v) (hn : (Nat.beq v.cells.length n && allOne v.cells) = true)
    (hb : σ.get b = some (.cells cs op)) (hw : writeAt cs off v.cells = some cs') : opEval (.store n a x) ρ σ = some (.v (.tup []) (σ.set b (.cells cs' op))) := by
  simp only [opEval, evStore, hs, hv, hn, writePtr, hb, hw]
theorem ev_iaddr_i {esz : Nat} {x i : Src} {cs : List PV} {len j : Nat} {cap : Option Nat} {k : IntKind} (hs : ρ.src x = some (.islice cs len esz cap)) (hi : ρ.src i = some (.int k (.ofNat j))) (hj : j < len) :
    opEval (.iaddr esz none x i) ρ σ = some (.v (.iptr cs (j * esz)) σ) := by
  have : (Nat.beq esz esz && Nat.blt j len) = true := by simp [hj]
  simp only [opEval, evIaddr, hs, hi, asNat, this]
theorem ev_iaddr_s {esz : Nat} {x i : Src} {b off len j : Nat} {cap : Option Nat} {k : IntKind} (hs : ρ.src x = some (.slice b off len esz cap)) (hi : ρ.src i = some (.int k (.ofNat j))) (hj : j < len) :
    opEval (.iaddr esz none x i) ρ σ = some (.v (.ptr b (off + j * esz)) σ) := by
  have : (Nat.beq esz esz && Nat.blt j len) = true := by simp [hj]
  simp only [opEval, evIaddr, hs, hi, asNat, this]

/-! ### Floating reads -/
theorem same_nil {o : AOper} {v : PV} : sameRead ρ o v [] = true := rfl
theorem same_cons {o : AOper} {v : PV} {r : Regs} {τ τ' : St} {l : List (Regs × St)} (h : opEval o.op ρ τ = some (.v v τ')) (hl : sameRead ρ o v l = true) : sameRead ρ o v ((r, τ) :: l) = true := by
  simp only [sameRead, h, PV.beq_refl, hl, Bool.and_self]
theorem floatOk_of {ops : List AOper} {tr : List (Regs × St)} {last : Regs × St} {x lo hi : Nat} {o : AOper} {v : PV} (h1 : nth ops x = some o) (h2 : nth (tr ++ [last]) x = some (ρ, σ)) (hg : wantedV ρ o.guard = some true)
    (hv : opEval o.op ρ σ = some (.v v σ')) (hs : sameRead ρ o v (((tr ++ [last]).take (hi + 1)).drop lo) = true) : floatOk ops tr last (x, lo, hi) = true := by
  simp only [floatOk, h1, h2, hg, hv, hs]
theorem floatOk_no {ops : List AOper} {tr : List (Regs × St)} {last : Regs × St} {x lo hi : Nat} {o : AOper} (h1 : nth ops x = some o) (h2 : nth (tr ++ [last]) x = some (ρ, σ)) (hg : wantedV ρ o.guard = some false) : floatOk ops tr last (x, lo, hi) = true := by
  simp only [floatOk, h1, h2, hg]
theorem all_cons {α : Type} {f : α → Bool} {x : α} {l : List α} (h : f x = true) (hl : l.all f = true) : (x :: l).all f = true := by simp [h, hl]

/-! ### Whole numbers -/
theorem wrap_nat {n : Nat} (h : n < 9223372036854775808) : wrapI .i64 (.ofNat n) = .ofNat n := by
  have : Nat.blt n 9223372036854775808 = true := by simpa using h
  simp only [wrapI, this]
theorem ev_add {x y : Src} {a b : Nat} (hx : ρ.src x = some (.int .i64 (.ofNat a))) (hy : ρ.src y = some (.int .i64 (.ofNat b))) (h : a + b < 9223372036854775808) :
    opEval (.bin .add x y) ρ σ = some (.v (.int .i64 (.ofNat (a + b))) σ) := by
  have : Int.add (.ofNat a) (.ofNat b) = .ofNat (a + b) := rfl
  simp only [opEval, evBin, hx, hy, bin, eqK, kindNo, binInt, this, wrap_nat h]
theorem ev_eqI {k : IntKind} {x y : Src} {a b : Int} (hx : ρ.src x = some (.int k a)) (hy : ρ.src y = some (.int k b)) : opEval (.bin .eql x y) ρ σ = some (.v (.bool (decide (a = b))) σ) := by
  simp [opEval, evBin, hx, hy, bin, eqK, binInt, eqI_eq]; rfl
theorem ev_eqI' {k : IntKind} {x y : Src} {a b : Int} {r : Bool} (hx : ρ.src x = some (.int k a)) (hy : ρ.src y = some (.int k b)) (h : (decide (a = b)) = r) : opEval (.bin .eql x y) ρ σ = some (.v (.bool r) σ) := by rw [← h]; exact ev_eqI hx hy
theorem ev_neI {k : IntKind} {x y : Src} {a b : Int} (hx : ρ.src x = some (.int k a)) (hy : ρ.src y = some (.int k b)) : opEval (.bin .neq x y) ρ σ = some (.v (.bool (!decide (a = b))) σ) := by
  simp [opEval, evBin, hx, hy, bin, eqK, binInt, eqI_eq]; rfl
theorem ev_neI' {k : IntKind} {x y : Src} {a b : Int} {r : Bool} (hx : ρ.src x = some (.int k a)) (hy : ρ.src y = some (.int k b)) (h : (!decide (a = b)) = r) : opEval (.bin .neq x y) ρ σ = some (.v (.bool r) σ) := by rw [← h]; exact ev_neI hx hy
theorem ev_ltI {k : IntKind} {x y : Src} {a b : Int} (hx : ρ.src x = some (.int k a)) (hy : ρ.src y = some (.int k b)) : opEval (.bin .lss x y) ρ σ = some (.v (.bool (decide (a < b))) σ) := by
  simp [opEval, evBin, hx, hy, bin, eqK, binInt, ltI_eq]
theorem ev_ltI' {k : IntKind} {x y : Src} {a b : Int} {r : Bool} (hx : ρ.src x = some (.int k a)) (hy : ρ.src y = some (.int k b)) (h : (decide (a < b)) = r) : opEval (.bin .lss x y) ρ σ = some (.v (.bool r) σ) := by rw [← h]; exact ev_ltI hx hy
theorem ev_gtI {k : IntKind} {x y : Src} {a b : Int} (hx : ρ.src x = some (.int k a)) (hy : ρ.src y = some (.int k b)) : opEval (.bin .gtr x y) ρ σ = some (.v (.bool (decide (b < a))) σ) := by
  simp [opEval, evBin, hx, hy, bin, eqK, binInt, ltI_eq]
theorem ev_gtI' {k : IntKind} {x y : Src} {a b : Int} {r : Bool} (hx : ρ.src x = some (.int k a)) (hy : ρ.src y = some (.int k b)) (h : (decide (b < a)) = r) : opEval (.bin .gtr x y) ρ σ = some (.v (.bool r) σ) := by rw [← h]; exact ev_gtI hx hy
theorem ev_leI {k : IntKind} {x y : Src} {a b : Int} (hx : ρ.src x = some (.int k a)) (hy : ρ.src y = some (.int k b)) : opEval (.bin .leq x y) ρ σ = some (.v (.bool (!decide (b < a))) σ) := by
  simp [opEval, evBin, hx, hy, bin, eqK, binInt, ltI_eq]
theorem ev_leI' {k : IntKind} {x y : Src} {a b : Int} {r : Bool} (hx : ρ.src x = some (.int k a)) (hy : ρ.src y = some (.int k b)) (h : (!decide (b < a)) = r) : opEval (.bin .leq x y) ρ σ = some (.v (.bool r) σ) := by rw [← h]; exact ev_leI hx hy
theorem ev_geI {k : IntKind} {x y : Src} {a b : Int} (hx : ρ.src x = some (.int k a)) (hy : ρ.src y = some (.int k b)) : opEval (.bin .geq x y) ρ σ = some (.v (.bool (!decide (a < b))) σ) := by
  simp [opEval, evBin, hx, hy, bin, eqK, binInt, ltI_eq]
theorem ev_geI' {k : IntKind} {x y : Src} {a b : Int} {r : Bool} (hx : ρ.src x = some (.int k a)) (hy : ρ.src y = some (.int k b)) (h : (!decide (a < b)) = r) : opEval (.bin .geq x y) ρ σ = some (.v (.bool r) σ) := by rw [← h]; exact ev_geI hx hy
end Am
/- Runs, told by what is known of the variables: a row of pairs. -/
namespace Am
open Go
variable {E : Env} {ρ ρ' : Regs} {σ σ1 σ2 : St}

/-! ### Knowing less of the temporaries gives the same, where it gives anything -/
def RLe (ρ ρ' : Regs) : Prop := ∀ t v, ρ.get t = some v → ρ'.get t = some v
theorem RLe.src (h : RLe ρ ρ') {x : Src} {v : PV} (hx : ρ.src x = some v) : ρ'.src x = some v := by
  cases x with
  | t n => exact h n v hx
  | c u => exact hx
theorem RLe.srcs (h : RLe ρ ρ') : ∀ {l : List Src} {vs : List PV}, ρ.srcs l = some vs → ρ'.srcs l = some vs
  | [], vs, hs => hs
  | x :: l, vs, hs => by
    simp only [Regs.srcs] at hs ⊢
    split at hs
    · rename_i v hv
      rw [h.src hv]
      simp only
      split at hs
      · rename_i ws hw; rw [RLe.srcs h hw]; exact hs
      · simp at hs
    · simp at hs
theorem RLe.parts (h : RLe ρ ρ') : ∀ {l : List (Nat × Nat × Src)} {r : List (Nat × Nat × PV)}, Am.parts ρ l = some r → Am.parts ρ' l = some r
  | [], r, hs => hs
  | (o, s, x) :: l, r, hs => by
    simp only [Am.parts] at hs ⊢
    split at hs
    · rename_i v hv
      rw [h.src hv]
      simp only
      split at hs
      · rename_i ws hw; rw [RLe.parts h hw]; exact hs
      · simp at hs
    · simp at hs
theorem RLe.optS (h : RLe ρ ρ') {x : Option Src} {r : Option Nat} (hs : Am.optS ρ x = some r) : Am.optS ρ' x = some r := by
  cases x with
  | none => exact hs
  | some x =>
    simp only [Am.optS] at hs ⊢
    split at hs
    · rename_i v hv; rw [h.src hv]; exact hs
    · simp at hs
theorem opEval_le (h : RLe ρ ρ') {op : AOp} {r : ORes} (ho : opEval op ρ σ = some r) : opEval op ρ' σ = some r := by
  have u1 : ∀ (x : Src) (f : PV → Option ORes), (match ρ.src x with | some v => f v | none => none) = some r → (match ρ'.src x with | some v => f v | none => none) = some r := by
    intro x f hf
    split at hf
    · rename_i v hv; rw [h.src hv]; exact hf
    · simp at hf
  cases op with
  | mov x => exact u1 x (fun v => some (.v v σ)) ho
  | pick c a b =>
    simp only [opEval, evPick] at ho ⊢
    split at ho
    · rename_i hc; rw [h.src hc]; exact u1 a (fun v => some (.v v σ)) ho
    · rename_i hc; rw [h.src hc]; exact u1 b (fun v => some (.v v σ)) ho
    · simp at ho
  | box x => exact u1 x _ ho
  | build zc ps =>
    simp only [opEval, evBuild] at ho ⊢
    split at ho
    · rename_i hp; rw [h.parts hp]; exact ho
    · simp at ho
  | mkrow zc n l ps =>
    simp only [opEval, evMkrow] at ho ⊢
    split at ho
    · rename_i hp; rw [h.parts hp]; exact ho
    · simp at ho
  | load n a => exact u1 a _ ho
  | store n a x =>
    simp only [opEval, evStore] at ho ⊢
    split at ho
    · rename_i ha; rw [h.src ha]; exact u1 x _ ho
    · simp at ho
  | nilchk x =>
    simp only [opEval, evNilchk] at ho ⊢
    cases hx : ρ.src x with
    | none => rw [hx] at ho; simp at ho
    | some v => rw [h.src hx]; rw [hx] at ho; exact ho
  | bin op x y =>
    simp only [opEval, evBin] at ho ⊢
    split at ho
    · rename_i ha; rw [h.src ha]; exact u1 y _ ho
    · simp at ho
  | eql n e x y =>
    simp only [opEval, evEql] at ho ⊢
    split at ho
    · rename_i ha; rw [h.src ha]; exact u1 y _ ho
    · simp at ho
  | un op x => exact u1 x _ ho
  | toInt k x =>
    simp only [opEval, evToInt] at ho ⊢
    cases hx : ρ.src x with
    | none => rw [hx] at ho; simp at ho
    | some v => rw [h.src hx]; rw [hx] at ho; exact ho
  | toStr x => exact u1 x _ ho
  | toBytes x =>
    simp only [opEval, evToBytes] at ho ⊢
    cases hx : ρ.src x with
    | none => rw [hx] at ho; simp at ho
    | some v => rw [h.src hx]; rw [hx] at ho; exact ho
  | same x =>
    simp only [opEval, evSame] at ho ⊢
    cases hx : ρ.src x with
    | none => rw [hx] at ho; simp at ho
    | some v => rw [h.src hx]; rw [hx] at ho; exact ho
  | mkiface t x => exact u1 x _ ho
  | mkfunc f xs ys =>
    simp only [opEval, evMkfunc] at ho ⊢
    split at ho
    · rename_i ha; rw [h.srcs ha]
      simp only
      split at ho
      · rename_i hb; rw [h.srcs hb]; exact ho
      · simp at ho
    · simp at ho
  | mkmap => exact ho
  | mkslice zc n b l c =>
    simp only [opEval, evMkslice] at ho ⊢
    split at ho
    · rename_i ha; rw [h.src ha]; exact u1 c _ ho
    · simp at ho
  | slic k x lo hi mx =>
    simp only [opEval, evSlic] at ho ⊢
    split at ho
    · rename_i ha; rw [h.src ha]
      simp only
      split at ho
      · rename_i hb; rw [h.optS hb]
        simp only
        split at ho
        · rename_i hc; rw [h.optS hc]
          simp only
          split at ho
          · rename_i hd; rw [h.optS hd]; exact ho
          · simp at ho
        · simp at ho
      · simp at ho
    · simp at ho
  | faddr o x =>
    simp only [opEval, evFaddr] at ho ⊢
    cases hx : ρ.src x with
    | none => rw [hx] at ho; simp at ho
    | some v => rw [h.src hx]; rw [hx] at ho; exact ho
  | fld o n x =>
    simp only [opEval, evFld] at ho ⊢
    cases hx : ρ.src x with
    | none => rw [hx] at ho; simp at ho
    | some v => rw [h.src hx]; rw [hx] at ho; exact ho
  | iaddr n a x i =>
    simp only [opEval, evIaddr] at ho ⊢
    split at ho
    · rename_i ha; rw [h.src ha]; exact u1 i _ ho
    · simp at ho
  | idxS x i =>
    simp only [opEval, evIdxS] at ho ⊢
    cases hx : ρ.src x with
    | none => rw [hx] at ho; simp at ho
    | some v =>
      rw [h.src hx]; rw [hx] at ho
      cases v <;> simp only [reduceCtorEq] at ho
      exact u1 i _ ho
  | idxA l n m x i =>
    simp only [opEval, evIdxA] at ho ⊢
    cases hx : ρ.src x with
    | none => rw [hx] at ho; simp at ho
    | some v =>
      rw [h.src hx]; rw [hx] at ho
      cases v <;> simp only [reduceCtorEq] at ho
      exact u1 i _ ho
  | lookup kk z ok x i =>
    simp only [opEval, evLookup] at ho ⊢
    split at ho
    · rename_i ha; rw [h.src ha]; exact u1 i _ ho
    · simp at ho
  | mapup kk m k v =>
    simp only [opEval, evMapup] at ho ⊢
    cases hx : ρ.src m with
    | none => rw [hx] at ho; simp at ho
    | some mv =>
      rw [h.src hx]; rw [hx] at ho
      cases mv <;> simp only [reduceCtorEq] at ho
      simp only
      split at ho
      · rename_i hk; rw [h.src hk]; exact u1 v _ ho
      · simp at ho
  | range s x =>
    simp only [opEval, evRange] at ho ⊢
    cases hx : ρ.src x with
    | none => rw [hx] at ho; cases s <;> simp at ho
    | some v => rw [h.src hx]; rw [hx] at ho; exact ho
  | next s x =>
    simp only [opEval, evNext] at ho ⊢
    cases hx : ρ.src x with
    | none => rw [hx] at ho; cases s <;> simp at ho
    | some v => rw [h.src hx]; rw [hx] at ho; exact ho
  | entry x =>
    simp only [opEval, evEntry] at ho ⊢
    cases hx : ρ.src x with
    | none => rw [hx] at ho; simp at ho
    | some v => rw [h.src hx]; rw [hx] at ho; exact ho
  | extract x i =>
    simp only [opEval, evExtract] at ho ⊢
    cases hx : ρ.src x with
    | none => rw [hx] at ho; simp at ho
    | some v => rw [h.src hx]; rw [hx] at ho; exact ho
  | call f l =>
    simp only [opEval, evCall] at ho ⊢
    cases hx : ρ.src f with
    | none => rw [hx] at ho; simp at ho
    | some v =>
      rw [h.src hx]; rw [hx] at ho
      cases v <;> simp only [reduceCtorEq] at ho
      all_goals
        simp only
        split at ho
        · rename_i hk; rw [h.srcs hk]; exact ho
        · simp at ho
  | lenS s x => exact u1 x _ ho
  | lenM x =>
    simp only [opEval, evLenM] at ho ⊢
    cases hx : ρ.src x with
    | none => rw [hx] at ho; simp at ho
    | some v => rw [h.src hx]; rw [hx] at ho; exact ho
  | capS x =>
    simp only [opEval, evCapS] at ho ⊢
    cases hx : ρ.src x with
    | none => rw [hx] at ho; simp at ho
    | some v => rw [h.src hx]; rw [hx] at ho; exact ho
  | append zc n b s x =>
    simp only [opEval, evAppend] at ho ⊢
    split at ho
    · rename_i ha; rw [h.src ha]; exact u1 x _ ho
    · simp at ho
  | appendN zc n b s x =>
    simp only [opEval, evAppendN] at ho ⊢
    split at ho
    · rename_i ha; rw [h.src ha]; exact u1 x _ ho
    · simp at ho
  | copy n d s =>
    simp only [opEval, evCopy] at ho ⊢
    split at ho
    · rename_i ha; rw [h.src ha]; exact u1 s _ ho
    · simp at ho
  | clearS zc n s =>
    simp only [opEval, evClearS] at ho ⊢
    cases hx : ρ.src s with
    | none => rw [hx] at ho; simp at ho
    | some v => rw [h.src hx]; rw [hx] at ho; exact ho
  | clearM m =>
    simp only [opEval, evClearM] at ho ⊢
    cases hx : ρ.src m with
    | none => rw [hx] at ho; simp at ho
    | some v => rw [h.src hx]; rw [hx] at ho; exact ho
  | delete kk m k =>
    simp only [opEval, evDelete] at ho ⊢
    cases hx : ρ.src m with
    | none => rw [hx] at ho; simp at ho
    | some mv =>
      rw [h.src hx]; rw [hx] at ho
      cases mv <;> simp only [reduceCtorEq] at ho
      exact u1 k _ ho
  | mmin l =>
    simp only [opEval, evMmin] at ho ⊢
    cases hx : ρ.srcs l with
    | none => rw [hx] at ho; simp at ho
    | some v => rw [h.srcs hx]; rw [hx] at ho; exact ho
  | mmax l =>
    simp only [opEval, evMmax] at ho ⊢
    cases hx : ρ.srcs l with
    | none => rw [hx] at ho; simp at ho
    | some v => rw [h.srcs hx]; rw [hx] at ho; exact ho
  | prim g l =>
    simp only [opEval, evPrim] at ho ⊢
    cases hx : ρ.srcs l with
    | none => rw [hx] at ho; simp at ho
    | some v => rw [h.srcs hx]; rw [hx] at ho; exact ho
  | stuck => exact ho
end Am
/- Runs, told by what is known of the variables: the rules. -/
namespace Am
open Go
variable {E : Env} {σ σ1 σ2 : St} {n : Nat} {vs : List Nat}
abbrev Vars := List (Nat × PV)
/-- What is known, as temporaries. -/
abbrev rg (n : Nat) (e : Vars) : Regs := ⟨n, .leaf, e⟩
def hasV (t : Nat) (vs : List Nat) : Bool := Regs.elemN t vs
/-- The variables' map holds what is known; nothing but variables stands in it. -/
structure Knows (n : Nat) (vs : List Nat) (e : Vars) (m : PT PV) : Prop where
  has : ∀ t v, Regs.look t e .leaf = some v → m.get t = some v
  only : ∀ t, hasV t vs = false → m.get t = none
/-- In a region: what it has written (l), and what was known (e). -/
def OpsE (E : Env) (n : Nat) (vs : List Nat) (os : List AOper) (outs : List Nat) (l e : Vars) (σ : St) (Q : AExit → Vars → St → Prop) : Prop :=
  ∀ m, Knows n vs e m → OpsW E os outs ⟨n, m, l⟩ σ fun x ρ' σ' => ∃ e' m', ρ' = ⟨n, m', []⟩ ∧ Knows n vs e' m' ∧ Q x e' σ'
def WPE (E : Env) (n : Nat) (vs : List Nat) (c : ACode) (e : Vars) (σ : St) (Q : AExit → Vars → St → Prop) : Prop :=
  ∀ m, Knows n vs e m → WP E c ⟨n, m, []⟩ σ fun x ρ' σ' => ∃ e' m', ρ' = ⟨n, m', []⟩ ∧ Knows n vs e' m' ∧ Q x e' σ'
variable {Q Q' : AExit → Vars → St → Prop} {e e' l : Vars}
theorem look_app (t : Nat) : ∀ (l e : Vars) (m : PT PV), Regs.look t (l ++ e) m = match Regs.look t l .leaf with | some v => some v | none => Regs.look t e m
  | [], e, m => by simp [Regs.look]
  | (j, v) :: l, e, m => by
    simp only [List.cons_append, Regs.look]
    split
    · rfl
    · exact look_app t l e m
theorem rle_of {m : PT PV} (h : Knows n vs e m) (l : Vars) : RLe (rg n (l ++ e)) ⟨n, m, l⟩ := by
  intro t v hv
  simp only [Regs.get] at hv ⊢
  rw [look_app] at hv
  rw [look_split t l m]
  split at hv
  · rename_i u hu; rw [hu]; exact hv
  · rename_i hu; rw [hu]; exact h.has t v hv
/-- What follows if all is well so far; else the end. -/
def ThenE (k : Vars → St → Prop) (Q : AExit → Vars → St → Prop) : AExit → Vars → St → Prop
  | .normal, e, σ => k e σ
  | x, e, σ => Q x e σ
def OutE (id : Nat) (Q : AExit → Vars → St → Prop) : AExit → Vars → St → Prop
  | .exit id', e, σ => match Nat.beq id' id with
    | true => Q .normal e σ
    | false => Q (.exit id') e σ
  | x, e, σ => Q x e σ
theorem WPE.mono {c : ACode} (h : WPE E n vs c e σ Q) (hq : ∀ x e σ, Q x e σ → Q' x e σ) : WPE E n vs c e σ Q' :=
  fun m hm => (h m hm).mono fun _ _ _ ⟨e', m', h1, h2, h3⟩ => ⟨e', m', h1, h2, hq _ _ _ h3⟩
/-- Less is known. -/
theorem WPE.less {c : ACode} (he : ∀ t v, Regs.look t e' .leaf = some v → Regs.look t e .leaf = some v) (h : WPE E n vs c e' σ Q) : WPE E n vs c e σ Q :=
  fun m hm => h m ⟨fun t v hv => hm.has t v (he t v hv), hm.only⟩
def forget (e : Vars) : Vars → Prop
  | [] => True
  | (t, v) :: l => Regs.look t e .leaf = some v ∧ forget e l
theorem forget_look : ∀ {l : Vars}, forget e l → ∀ t v, Regs.look t l .leaf = some v → Regs.look t e .leaf = some v
  | [], _, t, v, h => by simp [Regs.look] at h
  | (j, u) :: l, hf, t, v, h => by
    simp only [Regs.look] at h
    split at h
    · rename_i hj; rw [Nat.eq_of_beq_eq_true hj] at hf; rw [hf.1]; exact h
    · exact forget_look hf.2 t v h
theorem we_less {c : ACode} (e' : Vars) (he : forget e e') (h : WPE E n vs c e' σ Q) : WPE E n vs c e σ Q := h.less (forget_look he)
theorem we_seq {a b : ACode} (h : WPE E n vs a e σ (ThenE (fun e' σ' => WPE E n vs b e' σ' Q) Q)) : WPE E n vs (.seq a b) e σ Q := by
  intro m hm
  refine wp_seq ((h m hm).mono fun x ρ' σ' hx => ?_)
  obtain ⟨e', m', rfl, h2, h3⟩ := hx
  cases x with
  | normal => exact h3 m' h2
  | exit id => exact ⟨e', m', rfl, h2, h3⟩
  | goto l => exact ⟨e', m', rfl, h2, h3⟩
  | ret => exact ⟨e', m', rfl, h2, h3⟩
theorem we_skip (h : Q .normal e σ) : WPE E n vs .skip e σ Q := fun m hm => wp_skip ⟨e, m, rfl, hm, h⟩
theorem we_ret (h : Q .ret e σ) : WPE E n vs .ret e σ Q := fun m hm => wp_ret ⟨e, m, rfl, hm, h⟩
theorem we_exit {id : Nat} (h : Q (.exit id) e σ) : WPE E n vs (.exit id) e σ Q := fun m hm => wp_exit ⟨e, m, rfl, hm, h⟩
theorem we_src {m : PT PV} (h : Knows n vs e m) {x : Src} {v : PV} (hx : (rg n e).src x = some v) : (⟨n, m, []⟩ : Regs).src x = some v :=
  (rle_of (l := []) h).src hx
theorem we_cond {c : Src} {x y : ACode} {b : Bool} (hc : (rg n e).src c = some (.bool b)) (ht : b = true → WPE E n vs x e σ Q) (hf : b = false → WPE E n vs y e σ Q) : WPE E n vs (.cond c x y) e σ Q :=
  fun m hm => wp_cond (we_src hm hc) (fun h => ht h m hm) (fun h => hf h m hm)
theorem we_true {c : Src} {x y : ACode} (hc : (rg n e).src c = some (.bool true)) (ht : WPE E n vs x e σ Q) : WPE E n vs (.cond c x y) e σ Q := we_cond hc (fun _ => ht) (fun h => by cases h)
theorem we_false {c : Src} {x y : ACode} (hc : (rg n e).src c = some (.bool false)) (ht : WPE E n vs y e σ Q) : WPE E n vs (.cond c x y) e σ Q := we_cond hc (fun h => by cases h) (fun _ => ht)
theorem we_block {id : Nat} {c : ACode} (h : WPE E n vs c e σ (OutE id Q)) : WPE E n vs (.block id c) e σ Q := by
  intro m hm
  refine wp_block ((h m hm).mono fun x ρ' σ' hx => ?_)
  obtain ⟨e', m', rfl, h2, h3⟩ := hx
  cases x with
  | normal => exact ⟨e', m', rfl, h2, h3⟩
  | exit id' =>
    cases hb : Nat.beq id' id with
    | true => simp only [OutE, hb] at h3; simp only [Out, hb]; exact ⟨e', m', rfl, h2, h3⟩
    | false => simp only [OutE, hb] at h3; simp only [Out, hb]; exact ⟨e', m', rfl, h2, h3⟩
  | goto l => exact ⟨e', m', rfl, h2, h3⟩
  | ret => exact ⟨e', m', rfl, h2, h3⟩
theorem we_loop {c : ACode} (h : WPE E n vs c e σ (ThenE (fun e' σ' => WPE E n vs (.loop c) e' σ' Q) Q)) : WPE E n vs (.loop c) e σ Q := by
  intro m hm
  refine wp_loop ((h m hm).mono fun x ρ' σ' hx => ?_)
  obtain ⟨e', m', rfl, h2, h3⟩ := hx
  cases x with
  | normal => exact h3 m' h2
  | exit id => exact ⟨e', m', rfl, h2, h3⟩
  | goto l => exact ⟨e', m', rfl, h2, h3⟩
  | ret => exact ⟨e', m', rfl, h2, h3⟩
/-- A loop with an invariant, and a number that falls. -/
theorem we_inv {c : ACode} (I : Nat → Vars → St → Prop) (k : Nat) (h0 : I k e σ) (hr : ∀ k e σ, I k e σ → WPE E n vs c e σ (ThenE (fun e' σ' => ∃ j, j < k ∧ I j e' σ') Q)) : WPE E n vs (.loop c) e σ Q := by
  induction k using Nat.strongRecOn generalizing e σ with
  | _ k ih =>
    refine we_loop ((hr k e σ h0).mono fun x e' σ' hx => ?_)
    cases x with
    | normal => obtain ⟨j, h1, h2⟩ := hx; exact ih j h1 h2
    | exit id => exact hx
    | goto l => exact hx
    | ret => exact hx
/-! ### Regions -/
theorem we_region {os : List AOper} {outs : List Nat} (h : OpsE E n vs os outs [] e σ Q) : WPE E n vs (.region os outs) e σ Q := fun m hm => wp_region (h m hm)
theorem we_drawn {os : List AOper} {outs : List Nat} (h : OpsE E n vs os outs [] e σ Q) : WPE E n vs (.drawn os [] outs) e σ Q := fun m hm => wp_drawn (h m hm)
/-- What a region wrote and is not a variable is gone. -/
def tidy (vs outs : List Nat) : Vars → Bool
  | [] => true
  | (t, _) :: l => match Regs.elemN t outs with
    | true => tidy vs outs l
    | false => match hasV t vs with
      | true => false
      | false => tidy vs outs l
def keepE (outs : List Nat) : Vars → Vars
  | [] => []
  | (t, v) :: l => match Regs.elemN t outs with
    | true => (t, v) :: keepE outs l
    | false => keepE outs l
def allIn (vs : List Nat) : List Nat → Bool
  | [] => true
  | t :: l => match hasV t vs with
    | true => allIn vs l
    | false => false
theorem allIn_spec : ∀ {l : List Nat}, allIn vs l = true → ∀ t ∈ l, hasV t vs = true
  | [], _, t, h => by simp at h
  | a :: l, hl, t, h => by
    simp only [allIn] at hl
    split at hl
    · rename_i ha
      rcases List.mem_cons.1 h with rfl | h
      · exact ha
      · exact allIn_spec hl t h
    · simp at hl
theorem tidy_spec {outs : List Nat} : ∀ {l : Vars}, tidy vs outs l = true → ∀ t v, (t, v) ∈ l → Regs.elemN t outs = true ∨ hasV t vs = false
  | [], _, t, v, h => by simp at h
  | (j, u) :: l, hl, t, v, h => by
    simp only [tidy] at hl
    split at hl
    · rename_i hj
      rcases List.mem_cons.1 h with h | h
      · simp only [Prod.mk.injEq] at h; obtain ⟨rfl, rfl⟩ := h; exact .inl hj
      · exact tidy_spec hl t v h
    · split at hl
      · simp at hl
      · rename_i hj
        rcases List.mem_cons.1 h with h | h
        · simp only [Prod.mk.injEq] at h; obtain ⟨rfl, rfl⟩ := h; exact .inr hj
        · exact tidy_spec hl t v h
theorem keepE_look {outs : List Nat} (t : Nat) : ∀ l : Vars, Regs.look t (keepE outs l) .leaf = if Regs.elemN t outs = true then Regs.look t l .leaf else none
  | [] => by simp [keepE, Regs.look]
  | (j, v) :: l => by
    simp only [keepE, Regs.look]
    have ih := keepE_look (outs := outs) t l
    split
    · rename_i hj
      simp only [Regs.look]
      split
      · rename_i hjt; rw [Nat.eq_of_beq_eq_true hjt] at hj; rw [if_pos hj]
      · exact ih
    · rename_i hj
      rw [ih]
      split
      · rename_i ht
        split
        · rename_i hjt; rw [Nat.eq_of_beq_eq_true hjt] at hj; rw [hj] at ht; simp at ht
        · rfl
      · rfl
theorem freshIn_of {outs : List Nat} : ∀ (l : Vars) (m : PT PV), (∀ t v, (t, v) ∈ l → Regs.elemN t outs = true ∨ m.get t = none) → Regs.freshIn outs l m = true
  | [], m, _ => rfl
  | (t, v) :: l, m, h => by
    simp only [Regs.freshIn]
    have ih := freshIn_of (outs := outs) l m fun t v hv => h t v (List.mem_cons_of_mem _ hv)
    split
    · exact ih
    · rename_i hg
      rcases h t v (by simp) with h1 | h1
      · rw [h1]; exact ih
      · rw [h1] at hg; simp at hg
theorem oe_nil {outs : List Nat} (ht : tidy vs outs l = true) (ho : allIn vs outs = true) (h : Q .normal (keepE outs l ++ e) σ) : OpsE E n vs [] outs l e σ Q := by
  intro m hm
  have hg : ∀ t, (Regs.keepAll l outs m).get t = if t ∈ outs then (match Regs.look t l .leaf with | some v => some v | none => m.get t) else m.get t := keepAll_get l outs m
  have hfr : Regs.freshIn outs l (Regs.keepAll l outs m) = true := by
    refine freshIn_of l _ fun t v hv => ?_
    rcases tidy_spec ht t v hv with h1 | h1
    · exact .inl h1
    · by_cases hmem : t ∈ outs
      · exact .inl ((elemN_iff t outs).2 hmem)
      · right; rw [hg t, if_neg hmem]; exact hm.only t h1
  refine ops_nil (ρ' := ⟨n, Regs.keepAll l outs m, []⟩) ?_ ⟨_, _, rfl, ⟨fun t v hv => ?_, fun t htv => ?_⟩, h⟩
  · simp only [Regs.keep, Regs.keepOk, hfr]
  · rw [look_app, keepE_look] at hv
    rw [hg t]
    by_cases hmem : t ∈ outs
    · rw [if_pos hmem]
      rw [if_pos ((elemN_iff t outs).2 hmem)] at hv
      split at hv
      · exact hv
      · exact hm.has t v hv
    · rw [if_neg hmem]
      have : Regs.elemN t outs = false := by cases hq : Regs.elemN t outs with | false => rfl | true => exact absurd ((elemN_iff t outs).1 hq) hmem
      rw [this] at hv; simp only [Bool.false_eq_true, if_false] at hv
      exact hm.has t v hv
  · rw [hg t]
    have hno : ¬ t ∈ outs := fun hmem => by rw [allIn_spec ho t hmem] at htv; simp at htv
    rw [if_neg hno]; exact hm.only t htv
theorem put_m {m : PT PV} {d : Nat} {v : PV} (hd : Nat.blt d n = true) : (⟨n, m, l⟩ : Regs).put (some d) v = some ⟨n, m, (d, v) :: l⟩ := by simp only [Regs.put, hd]
section
variable {op : AOp} {os : List AOper} {outs : List Nat} {v : PV} {d : Nat} {f : Nat} {args : List PV} {g : Nat} {b : Bool}
/-- One operation. -/
theorem oe_v (ho : opEval op (rg n (l ++ e)) σ = some (.v v σ1)) (hd : Nat.blt d n = true) (h : OpsE E n vs os outs ((d, v) :: l) e σ1 Q) : OpsE E n vs (⟨some d, op, none⟩ :: os) outs l e σ Q :=
  fun m hm => ops_v (opEval_le (rle_of hm l) ho) (put_m hd) (h m hm)
theorem oe_n (ho : opEval op (rg n (l ++ e)) σ = some (.v v σ1)) (h : OpsE E n vs os outs l e σ1 Q) : OpsE E n vs (⟨none, op, none⟩ :: os) outs l e σ Q :=
  fun m hm => ops_v (opEval_le (rle_of hm l) ho) rfl (h m hm)
theorem oe_call (ho : opEval op (rg n (l ++ e)) σ = some (.call f args σ1)) (hc : CallA E f args σ1 v σ2) (hd : Nat.blt d n = true) (h : OpsE E n vs os outs ((d, v) :: l) e σ2 Q) : OpsE E n vs (⟨some d, op, none⟩ :: os) outs l e σ Q :=
  fun m hm => ops_call (opEval_le (rle_of hm l) ho) hc (put_m hd) (h m hm)
theorem oe_call_n (ho : opEval op (rg n (l ++ e)) σ = some (.call f args σ1)) (hc : CallA E f args σ1 v σ2) (h : OpsE E n vs os outs l e σ2 Q) : OpsE E n vs (⟨none, op, none⟩ :: os) outs l e σ Q :=
  fun m hm => ops_call (opEval_le (rle_of hm l) ho) hc rfl (h m hm)
theorem guard_m {m : PT PV} (hm : Knows n vs e m) {b w : Bool} (hg : (rg n (l ++ e)).src (.t g) = some (.bool b)) (hw : (b == w) = true) : wantedV ⟨n, m, l⟩ (some (g, w)) = some true := by
  have := (rle_of hm l).src hg
  simp only [Regs.src] at this
  simp only [wantedV, this, hw]
theorem guard_no {m : PT PV} (hm : Knows n vs e m) {b w : Bool} (hg : (rg n (l ++ e)).src (.t g) = some (.bool b)) (hw : (b == w) = false) : wantedV ⟨n, m, l⟩ (some (g, w)) = some false := by
  have := (rle_of hm l).src hg
  simp only [Regs.src] at this
  simp only [wantedV, this, hw]
theorem oe_vg (hg : (rg n (l ++ e)).src (.t g) = some (.bool b)) (ho : opEval op (rg n (l ++ e)) σ = some (.v v σ1)) (hd : Nat.blt d n = true) (h : OpsE E n vs os outs ((d, v) :: l) e σ1 Q) : OpsE E n vs (⟨some d, op, some (g, b)⟩ :: os) outs l e σ Q :=
  fun m hm => ops_vg (guard_m hm hg (by simp)) (opEval_le (rle_of hm l) ho) (put_m hd) (h m hm)
theorem oe_callg (hg : (rg n (l ++ e)).src (.t g) = some (.bool b)) (ho : opEval op (rg n (l ++ e)) σ = some (.call f args σ1)) (hc : CallA E f args σ1 v σ2) (hd : Nat.blt d n = true) (h : OpsE E n vs os outs ((d, v) :: l) e σ2 Q) : OpsE E n vs (⟨some d, op, some (g, b)⟩ :: os) outs l e σ Q :=
  fun m hm => ops_callg (guard_m hm hg (by simp)) (opEval_le (rle_of hm l) ho) hc (put_m hd) (h m hm)
/-- A guarded operation that is not wanted. -/
theorem oe_no {w : Bool} (hg : (rg n (l ++ e)).src (.t g) = some (.bool b)) (hw : (b == w) = false) (hd : Nat.blt d n = true) (h : OpsE E n vs os outs ((d, .tup []) :: l) e σ Q) : OpsE E n vs (⟨some d, op, some (g, w)⟩ :: os) outs l e σ Q :=
  fun m hm => ops_no (guard_no hm hg hw) (put_m hd) (h m hm)
end
/-! ### Calls -/
theorem knows_entry {args : List PV} (e : Vars) (he : ∀ t v, Regs.look t e .leaf = some v → args[t]? = some v) (hv : ∀ t, t < args.length → hasV t vs = true) : Knows n vs e (PT.ofList args) := by
  have hget : ∀ (l : List PV) (k : Nat) (m : PT PV) (t : Nat), (PT.ofListFrom k l m).get t = if k ≤ t ∧ t < k + l.length then l[t - k]? else m.get t := by
    intro l
    induction l with
    | nil => intro k m t; simp [PT.ofListFrom]; intro h1 h2; omega
    | cons x l ih =>
      intro k m t
      simp only [PT.ofListFrom, ih, PT.get_put, List.length_cons]
      by_cases h1 : t = k
      · subst h1; simp; intro h1 h2; omega
      · by_cases h2 : k + 1 ≤ t ∧ t < k + 1 + l.length
        · rw [if_pos h2, if_pos (by omega), show t - k = (t - (k + 1)) + 1 by omega]; simp
        · rw [if_neg h2, if_neg h1, if_neg (by omega)]
  have hg : ∀ t, (PT.ofList args).get t = args[t]? := by
    intro t; unfold PT.ofList; rw [hget]
    by_cases h : t < args.length
    · simp [h]
    · simp [h]
  refine ⟨fun t v h => by rw [hg]; exact he t v h, fun t h => ?_⟩
  rw [hg, List.getElem?_eq_none]
  cases Nat.lt_or_ge t args.length with
  | inl hl => rw [hv t hl] at h; simp at h
  | inr hl => exact hl
def argsE (k : Nat) : List PV → Vars
  | [] => []
  | a :: l => (k, a) :: argsE (k + 1) l
theorem argsE_look : ∀ (l : List PV) (k t : Nat) (v : PV), Regs.look t (argsE k l) .leaf = some v → k ≤ t ∧ l[t - k]? = some v
  | [], k, t, v, h => by simp [argsE, Regs.look] at h
  | a :: l, k, t, v, h => by
    simp only [argsE, Regs.look] at h
    split at h
    · rename_i hk; have := Nat.eq_of_beq_eq_true hk; subst this; simpa using h
    · obtain ⟨h1, h2⟩ := argsE_look l (k + 1) t v h
      exact ⟨by omega, by rw [show t - k = (t - (k + 1)) + 1 by omega]; simpa using h2⟩
def uptoN (vs : List Nat) : Nat → Bool
  | 0 => true
  | k + 1 => match hasV k vs with
    | true => uptoN vs k
    | false => false
theorem uptoN_spec : ∀ {k : Nat}, uptoN vs k = true → ∀ t, t < k → hasV t vs = true
  | 0, _, t, h => by omega
  | k + 1, hk, t, h => by
    simp only [uptoN] at hk
    split at hk
    · rename_i h1
      by_cases ht : t = k
      · subst ht; exact h1
      · exact uptoN_spec hk t (by omega)
    · simp at hk
theorem results_le {ρ ρ' : Regs} (h : RLe ρ ρ') : ∀ {rs : List ARes} {vs : List PV}, resultsOf ρ σ rs = some vs → resultsOf ρ' σ rs = some vs
  | [], vs, hs => hs
  | r :: rs, vs, hs => by
    simp only [resultsOf] at hs ⊢
    split at hs
    · rename_i v hv
      have : resultOf ρ' σ r = some v := by
        cases r with
        | tmp t => exact h t v hv
        | cell t k =>
          simp only [resultOf] at hv ⊢
          split at hv
          · rename_i p hp; rw [h t p hp]; exact hv
          · simp at hv
      rw [this]
      simp only
      split at hs
      · rename_i ws hw; rw [results_le h hw]; exact hs
      · simp at hs
    · simp at hs
/-- What a call's body must end in. -/
def RetE (n : Nat) (rs : List ARes) (R : PV → St → Prop) : AExit → Vars → St → Prop := fun x e σ => (x = .ret ∨ x = .normal) ∧ ∃ ws, resultsOf (rg n e) σ rs = some ws ∧ R (oneOrTup ws) σ
/-- A call of a function of the program. -/
theorem ce_fn {f : Nat} {args : List PV} {fn : AFunc} {R : PV → St → Prop} (hh : E.hook f args σ = none) (hf : E.fn f = some fn) (hn : max fn.ntmps args.length = n) (hv : uptoN vs args.length = true)
    (h : WPE E n vs fn.body (argsE 0 args) σ (RetE n fn.results R)) : ∃ v σ', CallA E f args σ v σ' ∧ R v σ' := by
  refine call_fn' hh hf ?_
  have hk : Knows n vs (argsE 0 args) (PT.ofList args) := knows_entry _ (fun t v ht => by simpa using (argsE_look args 0 t v ht).2) (uptoN_spec hv)
  have := h _ hk
  unfold Regs.entry
  rw [hn]
  refine this.mono fun x ρ' σ' hx => ?_
  obtain ⟨e', m', rfl, h2, h3, ws, h4, h5⟩ := hx
  exact ⟨h3.symm, ws, results_le (by simpa using rle_of (l := []) h2) h4, h5⟩
end Am
