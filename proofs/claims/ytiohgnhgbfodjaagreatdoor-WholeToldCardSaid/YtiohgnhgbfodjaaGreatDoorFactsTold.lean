/- The closed facts of the row of WholeTold. -/
import Derived.Test.YtiohgnhgbfodjaaGreatDoorRows
import Derived.JoinedOf
import Derived.KernelRfl
set_option linter.unusedVariables false
set_option linter.unusedSimpArgs false
set_option linter.deprecated false
namespace Go.Proofs.YtiohgnhgbfodjaaGreatDoor
set_option maxRecDepth 100000
theorem and_intro {a b : Bool} (h1 : a = true) (h2 : b = true) : (a && b) = true := by rw [h1, h2]; rfl
theorem tf0 : (let P := Tryz.prog; let f := 5; let fn := Tryz.f5; let s := Rows.wholeToldSpec; let c := Rows.wholeToldRow; c.wf (OpenSpec.ofChange s)) = true := by kernel_rfl
theorem tf1 : (let P := Tryz.prog; let f := 5; let fn := Tryz.f5; let s := Rows.wholeToldSpec; let c := Rows.wholeToldRow; laidOutB P) = true := by kernel_rfl
theorem tf2 : (let P := Tryz.prog; let f := 5; let fn := Tryz.f5; let s := Rows.wholeToldSpec; let c := Rows.wholeToldRow; mapsRowed P) = true := by kernel_rfl
theorem tf3 : (let P := Tryz.prog; let f := 5; let fn := Tryz.f5; let s := Rows.wholeToldSpec; let c := Rows.wholeToldRow; fn.params.all (P.readableRec ·)) = true := by kernel_rfl
theorem tf4 : (let P := Tryz.prog; let f := 5; let fn := Tryz.f5; let s := Rows.wholeToldSpec; let c := Rows.wholeToldRow; namedTie P c.named s.vars) = true := by kernel_rfl
theorem tf5 : (let P := Tryz.prog; let f := 5; let fn := Tryz.f5; let s := Rows.wholeToldSpec; let c := Rows.wholeToldRow; (c.stops == [])) = true := by kernel_rfl
theorem tf6 : (let P := Tryz.prog; let f := 5; let fn := Tryz.f5; let s := Rows.wholeToldSpec; let c := Rows.wholeToldRow; (P.stops == [])) = true := by kernel_rfl
theorem tf7 : (let P := Tryz.prog; let f := 5; let fn := Tryz.f5; let s := Rows.wholeToldSpec; let c := Rows.wholeToldRow; (c.knobs == [])) = true := by kernel_rfl
theorem tf8 : (let P := Tryz.prog; let f := 5; let fn := Tryz.f5; let s := Rows.wholeToldSpec; let c := Rows.wholeToldRow; (P.stopKnobs == [])) = true := by kernel_rfl
theorem tf9 : (let P := Tryz.prog; let f := 5; let fn := Tryz.f5; let s := Rows.wholeToldSpec; let c := Rows.wholeToldRow; (c.inPlace == P.inPlace f)) = true := by kernel_rfl
theorem tf10 : (let P := Tryz.prog; let f := 5; let fn := Tryz.f5; let s := Rows.wholeToldSpec; let c := Rows.wholeToldRow; (c.unfollowed == P.unfollowed f)) = true := by kernel_rfl
theorem tf11 : (let P := Tryz.prog; let f := 5; let fn := Tryz.f5; let s := Rows.wholeToldSpec; let c := Rows.wholeToldRow; (c.recurses == P.recurses f)) = true := by kernel_rfl
theorem tf12 : (let P := Tryz.prog; let f := 5; let fn := Tryz.f5; let s := Rows.wholeToldSpec; let c := Rows.wholeToldRow; (c.named == P.varsNamed f)) = true := by kernel_rfl
theorem tf13 : (let P := Tryz.prog; let f := 5; let fn := Tryz.f5; let s := Rows.wholeToldSpec; let c := Rows.wholeToldRow; (c.maps == (fn.params.toList ++ s.plain.varTypes P).any (P.mapsRec ·))) = true := by kernel_rfl
theorem tf14 : (let P := Tryz.prog; let f := 5; let fn := Tryz.f5; let s := Rows.wholeToldSpec; let c := Rows.wholeToldRow; (c.ifaces == (fn.params.toList ++ s.plain.varTypes P).any (P.ifacesRec ·))) = true := by kernel_rfl
theorem tf15 : (let P := Tryz.prog; let f := 5; let fn := Tryz.f5; let s := Rows.wholeToldSpec; let c := Rows.wholeToldRow; (c.mapsOut == P.mapsAmong fn.resultTypes.toList)) = true := by kernel_rfl
theorem tf16 : (let P := Tryz.prog; let f := 5; let fn := Tryz.f5; let s := Rows.wholeToldSpec; let c := Rows.wholeToldRow; (c.loops == (fn.params.toList ++ s.plain.varTypes P).any (P.loopsFrom ·))) = true := by kernel_rfl
theorem tf17 : (let P := Tryz.prog; let f := 5; let fn := Tryz.f5; let s := Rows.wholeToldSpec; let c := Rows.wholeToldRow; (c.wideKeys == (fn.params.toList ++ s.plain.varTypes P ++ fn.resultTypes.toList).any (P.wideKeysFrom ·))) = true := by kernel_rfl
theorem tf18 : (let P := Tryz.prog; let f := 5; let fn := Tryz.f5; let s := Rows.wholeToldSpec; let c := Rows.wholeToldRow; s.vars.all (P.varReadable ·)) = true := by kernel_rfl
theorem tf19 : (let P := Tryz.prog; let f := 5; let fn := Tryz.f5; let s := Rows.wholeToldSpec; let c := Rows.wholeToldRow; fn.resultTypes.all (fun t => P.readableRec t && decide (t < P.types.size))) = true := by kernel_rfl
theorem tf20 : (let P := Tryz.prog; let f := 5; let fn := Tryz.f5; let s := Rows.wholeToldSpec; let c := Rows.wholeToldRow; (c.ifacesOut == fn.resultTypes.toList.any (P.ifacesRec ·))) = true := by kernel_rfl
theorem tf21 : (let P := Tryz.prog; let f := 5; let fn := Tryz.f5; let s := Rows.wholeToldSpec; let c := Rows.wholeToldRow; (c.loopsOut == fn.resultTypes.toList.any (P.loopsFrom ·))) = true := by kernel_rfl
theorem tf22 : (let P := Tryz.prog; let f := 5; let fn := Tryz.f5; let s := Rows.wholeToldSpec; let c := Rows.wholeToldRow; (c.plainKeys == P.plainKeys)) = true := by kernel_rfl
theorem tf23 : (let P := Tryz.prog; let f := 5; let fn := Tryz.f5; let s := Rows.wholeToldSpec; let c := Rows.wholeToldRow; c.shortTexts.isNone) = true := by kernel_rfl
theorem tf24 : (let P := Tryz.prog; let f := 5; let fn := Tryz.f5; let s := Rows.wholeToldSpec; let c := Rows.wholeToldRow; P.stopsHeard) = true := by kernel_rfl
theorem tf25 : (let P := Tryz.prog; let f := 5; let fn := Tryz.f5; let s := Rows.wholeToldSpec; let c := Rows.wholeToldRow; P.mayEnter) = true := by kernel_rfl
theorem tf26 : (let P := Tryz.prog; let f := 5; let fn := Tryz.f5; let s := Rows.wholeToldSpec; let c := Rows.wholeToldRow; (c.lifted == P.liftsFinal)) = true := by kernel_rfl
theorem tf27 : (let P := Tryz.prog; let f := 5; let fn := Tryz.f5; let s := Rows.wholeToldSpec; let c := Rows.wholeToldRow; (P.make == some c.make)) = true := by kernel_rfl
theorem tf28 : (let P := Tryz.prog; let f := 5; let fn := Tryz.f5; let s := Rows.wholeToldSpec; let c := Rows.wholeToldRow; (c.kinds == (if c.domain.isEmpty then [] else fn.params.toList.map fun t => match P.underlying t with | some (.int k) => some k | _ => Option.none))) = true := by kernel_rfl
theorem tf29 : (let P := Tryz.prog; let f := 5; let fn := Tryz.f5; let s := Rows.wholeToldSpec; let c := Rows.wholeToldRow; (c.pinned == c.pinnedBy)) = true := by kernel_rfl
theorem tf30 : (let P := Tryz.prog; let f := 5; let fn := Tryz.f5; let s := Rows.wholeToldSpec; let c := Rows.wholeToldRow; (c.veiled == (fn.params.toList ++ s.plain.varTypes P ++ fn.resultTypes.toList).any (P.veiledRec ·))) = true := by kernel_rfl
theorem tf31 : (let P := Tryz.prog; let f := 5; let fn := Tryz.f5; let s := Rows.wholeToldSpec; let c := Rows.wholeToldRow; c.veiledFits P fn.params.toList (fn.params.toList ++ s.plain.varTypes P ++ fn.resultTypes.toList)) = true := by kernel_rfl
theorem tf : joinedFacts Tryz.prog 5 Tryz.f5 Rows.wholeToldSpec Rows.wholeToldRow = true := (and_intro (and_intro (and_intro (and_intro (and_intro (and_intro (and_intro (and_intro (and_intro (and_intro (and_intro (and_intro (and_intro (and_intro (and_intro (and_intro (and_intro (and_intro (and_intro (and_intro (and_intro (and_intro (and_intro (and_intro (and_intro (and_intro (and_intro (and_intro (and_intro (and_intro (and_intro tf0 tf1) tf2) tf3) tf4) tf5) tf6) tf7) tf8) tf9) tf10) tf11) tf12) tf13) tf14) tf15) tf16) tf17) tf18) tf19) tf20) tf21) tf22) tf23) tf24) tf25) tf26) tf27) tf28) tf29) tf30) tf31)
end Go.Proofs.YtiohgnhgbfodjaaGreatDoor
