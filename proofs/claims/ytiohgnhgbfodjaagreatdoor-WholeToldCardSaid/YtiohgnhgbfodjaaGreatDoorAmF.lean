/- From a run of the abstract machine to what a row asks of a call. -/
import Derived.ProofKit
import Derived.OpenShut
import Derived.Below
import Derived.Carry
import Derived.WideShapes
import Derived.Test.YtiohgnhgbfodjaaGreatDoorAmD
import Derived.Test.YtiohgnhgbfodjaaGreatDoorAmC
set_option linter.unusedVariables false
set_option linter.unusedSimpArgs false
set_option linter.deprecated false
/- From a run of the abstract machine to what a law's row asks of a call. -/
namespace Am
open Go Go.RowKit Go.WideShapes Go.ChangeShapes
section
variable {T : Type} {enc : TypeId × Value → T} {P : Program} {W : World} {M : Mu}
/-- Of what lay there nothing has turned. -/
structure Stood (W W' : World) : Prop where
  os : W'.os = W.os
  output : W'.output = W.output
  block : ∀ k, k < W.heap.size → W'.heap[k]? = W.heap[k]?
theorem Stood.frame {W W' : World} (h : Stood W W') (may : MemPlace → Prop) : W.keptBut W' may := by
  refine ⟨h.os, h.output, fun i hi => ?_⟩
  rw [h.block i hi]
  split <;> simp_all
theorem Stood.same {W W' : World} (h : Stood W W') {p : MemPlace} (hp : p.block < W.heap.size) : W.sameAt W' p := by
  cases p with
  | cell b o => exact World.cell?_of_block (w := W) (h.block b hp)
  | map b => exact h.block b hp
theorem Stood.frozen {W W' : World} (h : Stood W W') {p : Addr} (hp : p.block < W.heap.size) : W'.frozen? p = W.frozen? p := World.frozen?_of_block (w := W) (h.block p.block hp)
theorem trod_len {k fuel : Nat} {t : TypeId} {cs : List Value} {d : DataW T} {pl : List MemPlace} (hk : okTy P k t = true) (h : DataW.trod enc P W 0 (fun _ => true) true fuel t cs = some (d, pl)) : cs.length = P.cellsOf t := by
  cases k with
  | zero => simp [okTy] at hk
  | succ k =>
    cases fuel with
    | zero => simp [DataW.trod] at h
    | succ fuel =>
      unfold okTy at hk
      unfold DataW.trod at h
      cases hu : P.underlying t with
      | none => rw [hu] at hk; simp at hk
      | some u =>
        rw [hu] at hk h
        have one : ∀ {cs : List Value}, (∀ v, cs ≠ [v]) → P.cellsOf t = 1 → cs.length = P.cellsOf t → False := fun h1 h2 h3 => by
          obtain ⟨v, hv⟩ := List.length_eq_one_iff.1 (h3.trans h2); exact h1 v hv
        cases u <;> simp only [Bool.false_eq_true] at hk
        case bool => simp only [beq_iff_eq] at hk; rw [hk]; rcases cs with _ | ⟨v, _ | ⟨v2, r⟩⟩ <;> simp at h ⊢
        case int => simp only [beq_iff_eq] at hk; rw [hk]; rcases cs with _ | ⟨v, _ | ⟨v2, r⟩⟩ <;> simp at h ⊢
        case string => simp only [beq_iff_eq] at hk; rw [hk]; rcases cs with _ | ⟨v, _ | ⟨v2, r⟩⟩ <;> simp at h ⊢
        case slice e =>
          simp only [Bool.and_eq_true, beq_iff_eq] at hk; rw [hk.1.1]; rcases cs with _ | ⟨v, _ | ⟨v2, r⟩⟩ <;> simp at h ⊢
        case struct fs =>
          simp only at h
          split at h
          · assumption
          · simp at h
/-- A value that came in, as the abstract machine has it. -/
def argPV (P : Program) (t : TypeId) (pvs : List PV) : PV := match P.underlying t with
  | some (.struct _) => .agg pvs
  | _ => pvs.headD .nilp
theorem val_rel {k : Nat} {base : Nat} {t : TypeId} {v : Value} {d : DataW T} {pl : List MemPlace} (hk : okTy P k t = true) (hval : Value.okWide P W .any base t v) (h : DataW.Trod enc P W 0 (fun _ => true) true t v d pl) (hw : ∀ x ∈ d.weights P t, x ≤ reachBytes) :
    ∃ pvs, VRel (hOf W) M (argPV P t pvs) v ∧ TyA P k t pvs := by
  obtain ⟨fuel, hf⟩ := h
  obtain ⟨pvs, p1, p2, p3⟩ := trod_ty (M := M) k fuel t _ d pl hk hf hw (trod_len hk hf)
  refine ⟨pvs, ?_, p2⟩
  unfold argPV
  have hk0 := hk
  cases k with
  | zero => simp [okTy] at hk
  | succ k =>
    unfold okTy at hk
    have sc : ∀ {v : Value}, v.cells = #[v] → VRels (hOf W) M pvs v.cells.toList → VRel (hOf W) M (pvs.headD .nilp) v := by
      intro v hv h
      rw [hv] at h
      cases pvs with
      | nil => simp [VRels] at h
      | cons p ps => simp only [VRels] at h; obtain ⟨y, ys, he, h1, _⟩ := h; simp at he; rw [he.1]; exact h1
    cases hu : P.underlying t with
    | none => rw [hu] at hk; simp at hk
    | some u =>
      rw [hu] at hk
      cases u <;> simp only [Bool.false_eq_true] at hk <;> simp only
      case bool => obtain ⟨b, rfl⟩ := okWide_bool hu hval; exact sc rfl p1
      case int => obtain ⟨n, rfl⟩ := okWide_int hu hval; exact sc rfl p1
      case string => obtain ⟨s, rfl⟩ := okWide_string hu hval; exact sc rfl p1
      case slice e => obtain ⟨a, l, c, rfl⟩ := okWide_slice hu hval; exact sc rfl p1
      case struct fs =>
        simp only [Value.okWide, hu] at hval
        obtain ⟨cs, rfl, _⟩ := hval
        simp only [VRel]
        exact ⟨cs.toList, by simp, by simpa [Value.cells] using p1⟩
inductive Args (P : Program) (k : Nat) : List TypeId → List PV → Prop
  | nil : Args P k [] []
  | cons {t ts pvs ps} (h : TyA P k t pvs) (r : Args P k ts ps) : Args P k (t :: ts) (argPV P t pvs :: ps)
theorem args_rel {k base : Nat} : ∀ {ts : List TypeId} {vs : List Value} {ds : List (DataW T)} {p : List MemPlace}, (∀ t ∈ ts, okTy P k t = true) → (∀ (j : Nat) t v, ts[j]? = some t → vs[j]? = some v → Value.okWide P W .any base t v) →
    DataW.TrodAll enc P W 0 (fun _ => true) true ts vs ds p → (∀ x ∈ DataW.weightsEach P ts ds, x ≤ reachBytes) → ∃ ps, Args P k ts ps ∧ VRels (hOf W) M ps vs
  | [], vs, ds, p, _, _, h, _ => by
    cases vs <;> cases ds <;> simp [DataW.TrodAll] at h
    exact ⟨[], .nil, by simp [VRels]⟩
  | t :: ts, vs, ds, p, hok, hval, h, hw => by
    obtain ⟨v, vs', d, ds', p1, q1, rfl, rfl, rfl, h1, h2⟩ := trodAll_cons h
    simp only [DataW.weightsEach, List.mem_append] at hw
    obtain ⟨pvs, a1, a2⟩ := val_rel (M := M) (hok t (by simp)) (hval 0 t v rfl rfl) h1 (fun x hx => hw x (.inl hx))
    obtain ⟨ps, b1, b2⟩ := args_rel (k := k) (base := base) (ts := ts) (vs := vs') (ds := ds') (fun t ht => hok t (by simp [ht])) (fun j t v hj hv => hval (j + 1) t v (by simpa using hj) (by simpa using hv)) h2 (fun x hx => hw x (.inr hx))
    exact ⟨_, .cons a2 b1, VRels.cons_iff.2 ⟨a1, b2⟩⟩
theorem weightsEach_app : ∀ {ts : List TypeId} {ds : List (DataW T)}, DataW.weightsEach P (ts ++ []) (ds ++ []) = DataW.weightsEach P ts ds := by simp
/-- The result of a walk in which nothing that lay before has turned. -/
theorem post_of_below {f : Func} {s : ChangeSpec} {apart fresh handsOn again : Bool} {W W' : World} {args : Array Value} {v : Value} {ds gs : List (DataW T)} {before pa pv : List MemPlace}
    (hW : DataW.Whole enc P f.params.toList s.vars apart W args.toList ds gs before)
    (hres : ∀ (b : Nat) (sp : Nat → Bool) (hd : Bool), DataW.TrodAll enc P W' b sp hd f.resultTypes.toList (v.resultList f.resultTypes.size) (s.fn T (ds ++ gs)).results [])
    (hargs : ∀ sp : Nat → Bool, (∀ p ∈ before, sp p.block = true) → DataW.TrodAll enc P W' 0 sp true f.params.toList args.toList (s.fn T (ds ++ gs)).args pa)
    (hvars : ∀ sp : Nat → Bool, (∀ p ∈ before, sp p.block = true) → DataW.TrodVars enc P W' sp s.vars (s.fn T (ds ++ gs)).vars pv)
    (hps : before = pa ++ pv) (hb : Stood W W')
    (hok : ∀ (j : Nat) (t : TypeId) (r : Value), f.resultTypes[j]? = some t → (v.resultList f.resultTypes.size)[j]? = some r → Value.okWide P W' .any 0 t r) :
    s.post enc P f apart fresh handsOn again W args v W' := by
  have hlt : ∀ p ∈ before, p.block < W.heap.size := fun p hp => hW.lt p hp
  have hold : ∀ p ∈ before, (fun b => decide (b < W.heap.size)) p.block = true := fun p hp => by simpa using hlt p hp
  refine ⟨ds, gs, before, [], pa, pv, hW, hres _ _ _, hargs _ hold, hvars _ hold, World.keptBut_mono (fun p hp => ⟨hp, ?_⟩) (hb.frame (· ∈ before)), fun _ => ?_⟩
  · rw [hps, List.mem_append] at hp
    exact Or.inr hp
  · obtain ⟨_, _, _, _, _, hz, hn⟩ := hW
    refine ⟨hok, _, _, ([] ++ pa) ++ pv, ⟨[] ++ pa, pv, trodAll_append (hargs _ (fun _ _ => rfl)) (hres _ _ _), hvars _ (fun _ _ => rfl), rfl, ?_, ?_⟩, ?_⟩
    · intro b off hp
      have hin : MemPlace.cell b off ∈ before := by rw [hps]; simpa using hp
      rw [hb.frozen (hlt _ hin)]
      exact hz b off hin
    · intro ha
      have := hn ha
      rw [hps] at this
      simpa using this
    · intro p hp _
      rw [hps]
      simpa using hp
theorem trodAll_stays {W W' : World} (hl : laidOutB P = true) (hb : Stood W W') : ∀ {ts : List TypeId} {vs : List Value} {ds : List (DataW T)} {p : List MemPlace}, (∀ t ∈ ts, P.readableRec t = true ∧ t < P.types.size) →
    DataW.TrodAll enc P W 0 (fun _ => true) true ts vs ds p → (∀ x ∈ p, x.block < W.heap.size) → ∀ sp : Nat → Bool, (∀ x ∈ p, sp x.block = true) → DataW.TrodAll enc P W' 0 sp true ts vs ds p
  | [], vs, ds, p, _, h, _, sp, _ => by cases vs <;> cases ds <;> simp [DataW.TrodAll] at h ⊢; exact h
  | t :: ts, vs, ds, p, ht, h, hlt, sp, hsp => by
    obtain ⟨v, vs', d, ds', p1, q1, rfl, rfl, rfl, h1, h2⟩ := trodAll_cons h
    simp only [DataW.TrodAll]
    refine ⟨p1, q1, ?_, trodAll_stays hl hb (fun t h => ht t (by simp [h])) h2 (fun x hx => hlt x (by simp [hx])) sp (fun x hx => hsp x (by simp [hx])), rfl⟩
    exact WideElems.Trod_stays hl (ht t (by simp)).1 (ht t (by simp)).2 h1 (fun x hx => hb.same (hlt x (by simp [hx]))) (fun x hx => hsp x (by simp [hx]))
end
/-- The contract of a law that the abstract machine runs to 'true'. -/
theorem law_contract {T : Type} {enc : TypeId × Value → T} {P : Program} {f k : Nat} {fn : Func} {s : ChangeSpec} {W : World} {base : Nat} {args : Array Value} {ds gs : List (DataW T)} {before : List MemPlace} {tb : TypeId} {fresh handsOn again : Bool}
    (hl : laidOutB P = true) (htb : P.underlying tb = some .bool) (hres : fn.resultTypes = #[tb]) (hvars : s.vars = []) (hspec : ∀ ds : List (DataW T), ds.length = fn.params.size → s.fn T ds = { results := [.lit (.bool true)], args := ds })
    (hty : ∀ t ∈ fn.params.toList, okTy P k t = true ∧ P.readableRec t = true ∧ t < P.types.size)
    (hval : ∀ (j : Nat) t v, fn.params[j]? = some t → args[j]? = some v → Value.okWide P W .any base t v)
    (hW : DataW.Whole enc P fn.params.toList s.vars false W args.toList ds gs before)
    (hwt : ∀ x ∈ DataW.weightsEach P fn.params.toList ds, x ≤ reachBytes)
    (hrun : ∀ ps, Args P k fn.params.toList ps → ∃ σ', CallOk P (hOf W) f ps St.none_ (.bool true) σ') :
    Calls P f args W fun e W' => ∃ v, e = .returned v ∧ s.post enc P fn false fresh handsOn again W args v W' := by
  have hW' := hW
  obtain ⟨p, q, hA, hV, rfl, hfz, hnd⟩ := hW
  rw [hvars] at hV
  obtain ⟨rfl, rfl⟩ : gs = [] ∧ q = [] := by cases gs <;> simp [DataW.TrodVars] at hV ⊢; exact hV
  obtain ⟨ps, a1, a2⟩ := args_rel (M := ⟨fun _ => none, 0⟩) (k := k) (base := base) (fun t ht => (hty t ht).1) (fun j t v hj hv => hval j t v (by simpa using hj) (by simpa using hv)) hA hwt
  obtain ⟨σ', hc⟩ := hrun ps a1
  have hcall := (hc _ W args.toList a2 (wrel_start W)).2
  have hlt : ∀ x ∈ p ++ [], x.block < W.heap.size := fun x hx => hW'.lt x hx
  have hdl : ds.length = fn.params.size := by
    have : ∀ {ts : List TypeId} {vs : List Value} {ds : List (DataW T)} {p : List MemPlace}, DataW.TrodAll enc P W 0 (fun _ => true) true ts vs ds p → ds.length = ts.length := by
      intro ts
      induction ts with
      | nil => intro vs ds p h; cases vs <;> cases ds <;> simp [DataW.TrodAll] at h ⊢
      | cons t ts ih =>
        intro vs ds p h
        obtain ⟨v, vs', d, ds', p1, q1, rfl, rfl, rfl, h1, h2⟩ := trodAll_cons h
        simp [ih h2]
    simpa using this hA
  rw [show args.toList.toArray = args by simp] at hcall
  refine hcall.mono fun e W' hB => ?_
  cases e with
  | panicked _ => exact hB.elim
  | outgrown => exact hB.elim
  | returned cv =>
    obtain ⟨M', hw', hk, hrel⟩ := hB
    simp only [VRel] at hrel; subst hrel
    refine ⟨_, rfl, ?_⟩
    have hspec' := hspec ds hdl
    have hbl : Stood W W' := ⟨hk.os, hk.out, fun c hc => hk.frame c hc fun b n hb => by simp at hb⟩
    refine post_of_below (pa := p) (pv := []) hW' (fun b sp hd => ?_) (fun sp hsp => ?_) (fun sp hsp => ?_) rfl hbl ?_
    · rw [List.append_nil, hspec', hres]
      exact trodAll_cons_mk (shut_bool htb true) trodAll_mk0
    · rw [List.append_nil, hspec']
      exact trodAll_stays hl hbl (fun t ht => (hty t ht).2) hA (fun x hx => hlt x (by simp [hx])) sp (fun x hx => hsp x (by simp [hx]))
    · rw [List.append_nil, hspec', hvars]; simp [DataW.TrodVars]
    · exact ok_one hres rfl (okWide_bool_mk htb true)
end Am
