/-
  DERIVED. GIVEN WITH THE SEED: THE CARDS: each row of YtiohgnhgbfodjaaGreatDoorRows.lean that lists a variable, with what it lists TIED to the program's text (the seventh form; the later family's looks); each row that meets fmt, with fmt's text TOLD by the authors' own Lean function (tested against real Go, not proved from fmt's source: count such statements apart). THE CARD IS WHAT COUNTS. Prove the row's statement (the work); the ties are given (YtiohgnhgbfodjaaGreatDoorTie.lean); close each card by the builder's one call (the guide's Derived/Test/ToyasCard.lean, 'card_holds'). Laid BY PROGRAM, IN A SANDBOX (cutbox-door.mjs). By AI agents, Wed Nov 11 2026. No macro, syntax, notation, axiom, sorry.
-/
import Derived.Test.YtiohgnhgbfodjaaGreatDoorRows
import GoSem.ClaimSeven
namespace Go.Proofs.YtiohgnhgbfodjaaGreatDoor
namespace Rows

/-- THE TIED CARD OF 'augurylaw18.WholeDeltas'. -/
def wholeDeltasCard : Claim7 := { stood := { row := wholeDeltasRow, standIns := [], harness := (true, "69c74324349cc263e687a326a08333b88c5529ce80ae6339d0c3ed4f5dc84fbd"), looks := true }, kinds := [], alts := [], laidByText := true, laidKinds := [.handle], laidTests := true, laidLooks := .later }
def WholeDeltasCardSaid : Prop := Claim7.holds Tryz.pinned (.plain (OpenSpec.ofChange wholeDeltasSpec)) wholeDeltasCard

/-- THE TIED CARD OF 'augurylaw18.WholeLeads'. -/
def wholeLeadsCard : Claim7 := { stood := { row := wholeLeadsRow, standIns := [], harness := (true, "69c74324349cc263e687a326a08333b88c5529ce80ae6339d0c3ed4f5dc84fbd"), looks := true }, kinds := [], alts := [], laidByText := true, laidKinds := [.handle], laidTests := true, laidLooks := .later }
def WholeLeadsCardSaid : Prop := Claim7.holds Tryz.pinned (.plain (OpenSpec.ofChange wholeLeadsSpec)) wholeLeadsCard

/-- THE TIED CARD OF 'augurylaw18.WholeTold'. -/
def wholeToldCard : Claim7 := { stood := { row := wholeToldRow, standIns := [], harness := (true, "69c74324349cc263e687a326a08333b88c5529ce80ae6339d0c3ed4f5dc84fbd"), looks := true }, kinds := [], alts := [], laidByText := true, laidKinds := [.handle], laidTests := true, laidLooks := .later }
def WholeToldCardSaid : Prop := Claim7.holds Tryz.pinned (.plain (OpenSpec.ofChange wholeToldSpec)) wholeToldCard

/-- THE SECOND FORM's CARD OF 'augurylaw18.WholeDeltas'. -/
def wholeDeltasUptoCard : Claim7 := { stood := { row := wholeDeltasUptoRow, standIns := [], harness := (true, "69c74324349cc263e687a326a08333b88c5529ce80ae6339d0c3ed4f5dc84fbd"), looks := true }, kinds := [], alts := [], laidByText := true, laidKinds := [.handle], laidTests := true, laidLooks := .later }
def WholeDeltasUptoCardSaid : Prop := Claim7.holds Tryz.pinned (.plain (OpenSpec.upto wholeDeltasSpec)) wholeDeltasUptoCard

/-- THE SECOND FORM's CARD OF 'augurylaw18.WholeLeads'. -/
def wholeLeadsUptoCard : Claim7 := { stood := { row := wholeLeadsUptoRow, standIns := [], harness := (true, "69c74324349cc263e687a326a08333b88c5529ce80ae6339d0c3ed4f5dc84fbd"), looks := true }, kinds := [], alts := [], laidByText := true, laidKinds := [.handle], laidTests := true, laidLooks := .later }
def WholeLeadsUptoCardSaid : Prop := Claim7.holds Tryz.pinned (.plain (OpenSpec.upto wholeLeadsSpec)) wholeLeadsUptoCard

/-- THE SECOND FORM's CARD OF 'augurylaw18.WholeTold'. -/
def wholeToldUptoCard : Claim7 := { stood := { row := wholeToldUptoRow, standIns := [], harness := (true, "69c74324349cc263e687a326a08333b88c5529ce80ae6339d0c3ed4f5dc84fbd"), looks := true }, kinds := [], alts := [], laidByText := true, laidKinds := [.handle], laidTests := true, laidLooks := .later }
def WholeToldUptoCardSaid : Prop := Claim7.holds Tryz.pinned (.plain (OpenSpec.upto wholeToldSpec)) wholeToldUptoCard
end Rows
end Go.Proofs.YtiohgnhgbfodjaaGreatDoor
