/- WholeTold is true of every input that its row speaks of, and leaves its arguments as they were. Conditions: those of the given row (errors.errorType as the program lays it). -/
import Derived.Test.YtiohgnhgbfodjaaGreatDoorTy
import Derived.Test.YtiohgnhgbfodjaaGreatDoorHE
import Derived.Test.YtiohgnhgbfodjaaGreatDoorFactsTold
import Derived.Test.YtiohgnhgbfodjaaGreatDoorCards
import Derived.Test.YtiohgnhgbfodjaaGreatDoorTie
import Derived.Shelf.Vars
import Derived.Deep.DeepHandedRow
import Derived.LaidHandle
import Derived.LaidLaws
import Derived.SevenTiedAt
set_option linter.unusedVariables false
set_option linter.unusedSimpArgs false
set_option linter.deprecated false
namespace Am
open Go Go.Proofs AmIr
variable {H : Hc}
set_option maxRecDepth 100000
noncomputable def envL : Env := envB.also (pkHook [⟨6, [], .bool true⟩])
theorem envL_ok (hH : ∃ m, H 1 0 = some (.int .i64 m)) : EnvOk Tryz.prog H envL :=
  EnvOk.also (envB_ok hH) (pkHook_sound _ (by
    simp only [List.forall_mem_cons, List.not_mem_nil, false_implies, implies_true, and_true]
    exact fun σ => head_ok hH σ))
theorem headL (σ : St) : CallA envL 6 [] σ (.bool true) σ := call_hook rfl
theorem f50 : fnOf Tryz.prog 50 = some af50 := by kernel_rfl
theorem h50 : Has envL 50 af50 := ⟨rfl, f50⟩
theorem f27 : fnOf Tryz.prog 27 = some af27 := by kernel_rfl
theorem h27 : Has envL 27 af27 := ⟨rfl, f27⟩
theorem f16 : fnOf Tryz.prog 16 = some af16 := by kernel_rfl
theorem h16 : Has envL 16 af16 := ⟨rfl, f16⟩
theorem f43 : fnOf Tryz.prog 43 = some af43 := by kernel_rfl
theorem h43 : Has envL 43 af43 := ⟨rfl, f43⟩
theorem f20 : fnOf Tryz.prog 20 = some af20 := by kernel_rfl
theorem h20 : Has envL 20 af20 := ⟨rfl, f20⟩
theorem f9 : fnOf Tryz.prog 9 = some af9 := by kernel_rfl
theorem h9 : Has envL 9 af9 := ⟨rfl, f9⟩
theorem f5 : fnOf Tryz.prog 5 = some af5 := by kernel_rfl
theorem h5 : Has envL 5 af5 := ⟨rfl, f5⟩
theorem maxLen_cell {W : World} (hs : W.ShapedOpen Tryz.prog) : ∃ m, hOf W 1 0 = some (.int .i64 m) :=
  cell_of_shapedOpen_int (t := 3) hs (of_decide_eq_true (by kernel_rfl)) (zero := #[.int .i64 0]) (by kernel_rfl) rfl (by kernel_rfl) (by kernel_rfl) Tryz.underlying3
theorem told_run {W : World} (hs : W.ShapedOpen Tryz.prog) (ps : List PV) (h : Args Tryz.prog 8 [9, 5, 28] ps) : ∃ σ', CallOk Tryz.prog (hOf W) 5 ps St.none_ (.bool true) σ' := by
  cases h with
  | cons a1 r =>
    cases r with
    | cons a2 r =>
      cases r with
      | cons a3 r =>
        cases r
        obtain ⟨s, rfl, hs1⟩ := str_ty Tryz.underlying9 a1
        obtain ⟨n, rfl, hn⟩ := int_ty Tryz.underlying5 a2
        obtain ⟨ms, rfl, hok⟩ := mts_ty (k := 0) a3
        simp only [argPV, Tryz.underlying9, Tryz.underlying5, Tryz.underlying28, List.headD_cons]
        obtain ⟨a, rfl⟩ : ∃ a : Nat, n = .ofNat a := by
          simp only [Lit.wf, IntKind.min, IntKind.signed, Bool.and_eq_true, decide_eq_true_eq] at hn
          refine ⟨n.toNat, ?_⟩
          have h0 : 0 ≤ n := by simpa using hn.1
          exact (Int.toNat_of_nonneg h0).symm
        obtain ⟨σ', hc⟩ := wholeTold_ok (E := envL) (σ := St.none_) h50 h27 h16 h43 h20 h9 h5 headL s hs1 a ms hok
        exact ⟨σ', callOk_of mixedT (envL_ok (maxLen_cell hs)) hc⟩
end Am
namespace Go.Proofs.YtiohgnhgbfodjaaGreatDoor
open Go.ChangeShapes Go.WideShapes Go.ChangeAt Go.RowKit
set_option maxRecDepth 100000
theorem own : ownKnob Tryz.prog.godebug = Option.none := by kernel_rfl
theorem laidOut : laidOutB Tryz.prog = true := by kernel_rfl
theorem toldContract (H : Type) (enc : TypeId × Value → H) (W : World) (base : Nat) (args : Array Value) (ds gs : List (DataW H)) (before : List MemPlace)
    (hval : ∀ (j : Nat) t v, Tryz.f5.params[j]? = some t → args[j]? = some v → Value.okWide Tryz.prog W .any base t v)
    (hW : DataW.Whole enc Tryz.prog Tryz.f5.params.toList Rows.wholeToldSpec.vars false W args.toList ds gs before)
    (hwt : (DataW.weightsEach Tryz.prog (Tryz.f5.params.toList ++ (OpenSpec.ofChange Rows.wholeToldSpec).bare.plain.varTypes Tryz.prog) (ds ++ gs)).all (· ≤ reachBytes) = true) (hs : W.ShapedOpen Tryz.prog) :
    Calls Tryz.prog 5 args W fun e W' => ∃ v, e = .returned v ∧ Rows.wholeToldSpec.post enc Tryz.prog Tryz.f5 false true false false W args v W' := by
  have hgs : gs = [] := by
    obtain ⟨p, q, _, hV, _⟩ := hW
    cases gs with
    | nil => rfl
    | cons g gs => exact hV.elim
  subst hgs
  refine Am.law_contract (k := 8) (tb := 4) laidOut Tryz.underlying4 (by kernel_rfl) rfl ?_ ?_ hval hW ?_ ?_
  · intro ds hd
    rcases ds with _ | ⟨d1, _ | ⟨d2, _ | ⟨d3, _ | ⟨d4, r⟩⟩⟩⟩ <;> simp [Tryz.params5] at hd
    rfl
  · rw [Tryz.params5]
    simp only [List.forall_mem_cons, List.not_mem_nil, false_implies, implies_true, and_true]
    exact ⟨⟨by kernel_rfl, by kernel_rfl, by decide +kernel⟩, ⟨by kernel_rfl, by kernel_rfl, by decide +kernel⟩, ⟨by kernel_rfl, by kernel_rfl, by decide +kernel⟩⟩
  · intro x hx
    have h := List.all_eq_true.1 hwt x (by
      rw [List.append_nil]
      have e : (OpenSpec.ofChange Rows.wholeToldSpec).bare.plain.varTypes Tryz.prog = [] := rfl
      rw [e, List.append_nil]; exact hx)
    simpa using h
  · rw [Tryz.params5]
    exact fun ps h => Am.told_run hs ps h
/-- A world for the witness: the settled one, the listed variable laid. -/
noncomputable def laidWorld (os : Os) : World :=
  { World.holding Tryz.prog os ⟨#[], #[], []⟩ with heap := (World.holding Tryz.prog os ⟨#[], #[], []⟩).heap.modify 0 fun
      | .cells _ t frozen => .cells #[.iface 303 (.agg #[.pointer (some ⟨2, 169, Option.none⟩)])] t frozen
      | o => o }
theorem laid_met (os : Os) (args : Array Value) : laidMetH Tryz.prog Rows.wholeToldRow.laid ((laidWorld os).forCall (fun _ _ => 0) ⟨#[], args, []⟩).memory :=
  laidMetH_of_parts (laidMet_nil _ _) (by kernel_rfl)
theorem toldReads (os : Os) {H : Type} (enc : TypeId × Value → H) : ∃ places, DataW.whole enc Tryz.prog ((laidWorld os).forCall (fun _ _ => 0) ⟨#[], #[.string ⟨#[]⟩, .int .u8 0, .slice Option.none 0 0], []⟩).memory Tryz.f5.params.toList Rows.wholeToldSpec.vars false #[Value.string ⟨#[]⟩, .int .u8 0, .slice Option.none 0 0].toList 8 = some ([.lit (.string []), .lit (.int .u8 0), .nil], [], places) :=
  ⟨[], by kernel_rfl⟩
theorem toldLifted (os : Os) (started : os.Started) (H : Type) (enc : TypeId × Value → H) (F : Stop.Interp) :
    ReturnsInHanded {} Tryz.checked os 5 .any ((OpenSpec.ofChange Rows.wholeToldSpec).preRow enc Tryz.prog Tryz.f5 Rows.wholeToldRow.domain false Rows.wholeToldRow.laid) (((OpenSpec.ofChange Rows.wholeToldSpec).at F).post enc Tryz.prog Tryz.f5 false true false false) := by
  obtain ⟨places, hx⟩ := toldReads os enc
  refine returnsInHanded_of_row (C := Tryz.checked) (s := OpenSpec.ofChange Rows.wholeToldSpec) own started (by kernel_rfl) Tryz.func5
    (witness_row_at (enc := enc) (C := Tryz.checked) false (laidWorld os) #[.string ⟨#[]⟩, .int .u8 0, .slice Option.none 0 0] rfl (by kernel_rfl) (by kernel_rfl) (by kernel_rfl)
      (OpenSpec.preRow_of_cond 8 hx (by kernel_rfl) (fun k hk => by cases hk) (by kernel_rfl) (laid_met os _))) ?_
  intro W base args ds gs before hval hW _ _ hwt _ hs _
  exact toldContract H enc W base args ds gs before hval hW hwt hs
theorem wholeTold_said : Rows.WholeToldSaid :=
  OpenClaim.holds_of_cond 5 Tryz.f5 rfl rfl rfl rfl rfl rfl rfl ⟨rfl, rfl, rfl, rfl, rfl⟩ rfl rfl rfl rfl rfl (by kernel_rfl) Tryz.func5 tf
    (of_decide_eq_true (by kernel_rfl)) (by unfold Func.isWrapper; first | (rw [if_pos (by decide +kernel)]; kernel_rfl) | (rw [if_neg (by decide +kernel)]; exact ⟨rfl, rfl⟩))
    (fun os started H enc _ F => by rw [OpenClaim.pre_eq_preRow]; exact toldLifted os started H enc F)
theorem toldPlain (f : FuncId) (fn : Func) (hf : Tryz.pinned.checked.prog.funcNamed "augury/augurylaw18.WholeTold" = some f) (hfn : Tryz.pinned.checked.prog.funcs[f]? = some fn) :
    true = Tryz.pinned.checked.prog.looks [] ∧ ∀ (j : Nat) t, fn.params[j]? = some t → Tryz.pinned.checked.prog.wantsStandIn t = false := by
  obtain rfl : f = 5 := Option.some.inj ((show Tryz.prog.funcNamed "augury/augurylaw18.WholeTold" = some 5 by kernel_rfl).symm.trans hf) |>.symm
  obtain rfl : fn = Tryz.f5 := (Option.some.inj (Tryz.func5.symm.trans hfn)).symm
  refine ⟨by kernel_rfl, fun j t ht => ?_⟩
  rw [Tryz.params5] at ht
  have h3 : t = 9 ∨ t = 5 ∨ t = 28 := by
    have := Array.mem_of_getElem? ht
    simpa using this
  rcases h3 with rfl | rfl | rfl
  · exact (show Tryz.prog.wantsStandIn 9 = false by kernel_rfl)
  · exact (show Tryz.prog.wantsStandIn 5 = false by kernel_rfl)
  · exact (show Tryz.prog.wantsStandIn 28 = false by kernel_rfl)
/-- The card. -/
theorem wholeTold_card : Rows.WholeToldCardSaid :=
  Claim7.holds_tied_plain_at .later [] _ _ _ _ wholeTold_said (fun _ h => by cases h) (by kernel_rfl) (fun _ h => by cases h) wholeTold_row_tie rfl ⟨rfl, rfl⟩ (by kernel_rfl) rfl toldPlain (by kernel_rfl)
end Go.Proofs.YtiohgnhgbfodjaaGreatDoor
