/-
  NARROWER THAN 'FOR EVERY INPUT', by the rows' own cells (each row's printed sentence says how): WholeDeltas: laid · WholeLeads: laid · WholeTold: laid.
  DERIVED. THE GIVEN ROWS OF THIS SEAT. 3 by the template 'for every input the law returns true; each argument reads behind the call as it read before'; 0 by the template 'total and deterministic' (their statements: YtiohgnhgbfodjaaGreatDoorTotals.lean).
  GIVEN WITH THE SEED: the statements are not yours to turn. If you find one false, say at which input.
  Laid BY PROGRAM, IN A SANDBOX (cutbox-rows.mjs): the forced cells as the released guide's own fill.sh prints them over the translation 3ae1435b222d2cce… (all of the seat's roots in one cut). By AI agents, Wed Nov 11 2026. No macro, syntax, notation, axiom, sorry.
-/
import Derived.Test.YtiohgnhgbfodjaaGreatDoorChecked
import GoSem.Claim
import GoSem.ClaimJoined
import GoSem.ClaimMapViews
import Derived.JoinedTies
import Derived.KernelRfl
namespace Go.Proofs.YtiohgnhgbfodjaaGreatDoor
/- THE CELL 'sum', in the pinned program and in every row, IS THE sha256 OF THE DUMP (.gsa) THAT YtiohgnhgbfodjaaGreatDoorProg.lean LOADS. Nothing in Lean hashes anything: it is a label: what it is worth is what the hold of that sum in a sandbox is worth. -/
noncomputable def Tryz.pinned : Pinned := { name := "ytiohgnhgbfodjaagreatdoor", sum := "3ae1435b222d2ccef1e62b66e9aef2df3717b3f687454b55b51938057955ce30", checked := Tryz.checked }
namespace Rows
def none {H : Type} : Left H := { results := [], args := [] }

/- WHAT THE LISTED PACKAGE-LEVEL VARIABLES READ AS WHEN THE CALL BEGINS. Each datum BY PROGRAM (the guide's laid-datum.mjs) off the statement by which the dump's own 'gosem.cut.vars' lays the variable. In a bare row this is a premise. The card (YtiohgnhgbfodjaaGreatDoorCards.lean) ties it to the program's text. -/
def laid_errors_errorType {H : Type} : DataW H := .iface "internal/reflectlite.rtype" (.agg [.ptr (.lit (.string [101, 114, 114, 111, 114]))])

/-- 'augurylaw18.WholeDeltas': WHATEVER THE INPUT: true; the input reads as it did. -/
def wholeDeltasSpec : ChangeSpec := { name := "wholeDeltas", fn := fun _ => fun
  | [d1, d2, d3, d4] => { results := [.lit (.bool true)], args := [d1, d2, d3, d4] }
  | _ => none }
def wholeDeltasRow : OpenClaim := { program := "ytiohgnhgbfodjaagreatdoor", sum := "3ae1435b222d2ccef1e62b66e9aef2df3717b3f687454b55b51938057955ce30", func := "augury/augurylaw18.WholeDeltas", spec := "wholeDeltas", inPlace := ["internal/bytealg.IndexByteString", "internal/bytealg.IndexString", "internal/reflectlite.ValueOf", "(internal/reflectlite.Value).Type", "(internal/reflectlite.Value).IsNil", "internal/reflectlite.TypeOf", "(internal/reflectlite.Value).Elem", "(internal/reflectlite.Value).Set", "internal/bytealg.abigen_runtime_cmpstring"], unfollowed := true, recurses := true, named := ["internal/bytealg.MaxLen", "errors.errorType"], plainKeys := false, apart := false, laid := [("errors.errorType", laid_errors_errorType)] }
def WholeDeltasSaid : Prop := wholeDeltasRow.holds Tryz.pinned (OpenSpec.ofChange wholeDeltasSpec)

/-- ITS FALSE NEIGHBOUR: 'it returns false'. Refute it at one input. -/
def wholeDeltasWrong : ChangeSpec := { name := "wholeDeltas", fn := fun _ => fun
  | [d1, d2, d3, d4] => { results := [.lit (.bool false)], args := [d1, d2, d3, d4] }
  | _ => none }
def WholeDeltasWrongFalsely : Prop := wholeDeltasRow.holds Tryz.pinned (OpenSpec.ofChange wholeDeltasWrong)

/-- 'augurylaw18.WholeLeads': WHATEVER THE INPUT: true; the input reads as it did. -/
def wholeLeadsSpec : ChangeSpec := { name := "wholeLeads", fn := fun _ => fun
  | [d1, d2] => { results := [.lit (.bool true)], args := [d1, d2] }
  | _ => none }
def wholeLeadsRow : OpenClaim := { program := "ytiohgnhgbfodjaagreatdoor", sum := "3ae1435b222d2ccef1e62b66e9aef2df3717b3f687454b55b51938057955ce30", func := "augury/augurylaw18.WholeLeads", spec := "wholeLeads", inPlace := ["internal/bytealg.IndexByteString", "internal/bytealg.IndexString", "internal/reflectlite.ValueOf", "(internal/reflectlite.Value).Type", "(internal/reflectlite.Value).IsNil", "internal/reflectlite.TypeOf", "(internal/reflectlite.Value).Elem", "(internal/reflectlite.Value).Set", "internal/bytealg.abigen_runtime_cmpstring"], unfollowed := true, recurses := true, named := ["internal/bytealg.MaxLen", "errors.errorType"], plainKeys := false, apart := false, laid := [("errors.errorType", laid_errors_errorType)] }
def WholeLeadsSaid : Prop := wholeLeadsRow.holds Tryz.pinned (OpenSpec.ofChange wholeLeadsSpec)

/-- ITS FALSE NEIGHBOUR: 'it returns false'. Refute it at one input. -/
def wholeLeadsWrong : ChangeSpec := { name := "wholeLeads", fn := fun _ => fun
  | [d1, d2] => { results := [.lit (.bool false)], args := [d1, d2] }
  | _ => none }
def WholeLeadsWrongFalsely : Prop := wholeLeadsRow.holds Tryz.pinned (OpenSpec.ofChange wholeLeadsWrong)

/-- 'augurylaw18.WholeTold': WHATEVER THE INPUT: true; the input reads as it did. -/
def wholeToldSpec : ChangeSpec := { name := "wholeTold", fn := fun _ => fun
  | [d1, d2, d3] => { results := [.lit (.bool true)], args := [d1, d2, d3] }
  | _ => none }
def wholeToldRow : OpenClaim := { program := "ytiohgnhgbfodjaagreatdoor", sum := "3ae1435b222d2ccef1e62b66e9aef2df3717b3f687454b55b51938057955ce30", func := "augury/augurylaw18.WholeTold", spec := "wholeTold", inPlace := ["internal/bytealg.IndexByteString", "internal/bytealg.IndexString", "internal/reflectlite.ValueOf", "(internal/reflectlite.Value).Type", "(internal/reflectlite.Value).IsNil", "internal/reflectlite.TypeOf", "(internal/reflectlite.Value).Elem", "(internal/reflectlite.Value).Set", "internal/bytealg.abigen_runtime_cmpstring"], unfollowed := true, recurses := true, named := ["internal/bytealg.MaxLen", "errors.errorType"], plainKeys := false, apart := false, laid := [("errors.errorType", laid_errors_errorType)] }
def WholeToldSaid : Prop := wholeToldRow.holds Tryz.pinned (OpenSpec.ofChange wholeToldSpec)

/-- ITS FALSE NEIGHBOUR: 'it returns false'. Refute it at one input. -/
def wholeToldWrong : ChangeSpec := { name := "wholeTold", fn := fun _ => fun
  | [d1, d2, d3] => { results := [.lit (.bool false)], args := [d1, d2, d3] }
  | _ => none }
def WholeToldWrongFalsely : Prop := wholeToldRow.holds Tryz.pinned (OpenSpec.ofChange wholeToldWrong)

/- THE SECOND FORM. 'bulk': how many values and letters a reading holds, each counted each time it is reached (what is shared counts as often as it is met; a slice's spare places count too). A statement '..UptoSaid' is the law's where the arguments, and the package variables that the reading takes, are together of bulk at most 1048576: NARROWER than '..Said'. Prove '..Said' where nothing that the law and all that it calls make is longer than what came in: it says more and counts as full. Else prove '..UptoSaid'. A law counts once. -/
mutual
def uptoBulk {H : Type} : DataW H → Nat
  | .lit (.string bytes) => bytes.length + 1
  | .lit _ => 1
  | .nil => 1
  | .ptr d => uptoBulk d + 1
  | .slice elems spare => uptoBulkAll elems + uptoBulkAll spare + 1
  | .agg parts => uptoBulkAll parts + 1
  | .iface _ d => uptoBulk d + 1
  | .map entries => uptoBulkEntries entries + 1
  | .held _ => 1
def uptoBulkAll {H : Type} : List (DataW H) → Nat
  | [] => 0
  | d :: r => uptoBulk d + uptoBulkAll r
def uptoBulkEntries {H : Type} : List (Lit × DataW H) → Nat
  | [] => 0
  | x :: r => uptoBulkEntry x + uptoBulkEntries r
def uptoBulkEntry {H : Type} : Lit × DataW H → Nat
  | (.string bytes, d) => bytes.length + uptoBulk d + 1
  | (_, d) => uptoBulk d + 1
 end
def uptoSmall : (H : Type) → List (DataW H) → Bool := fun _ ds => decide (uptoBulkAll ds ≤ 1048576)
def OpenSpec.upto (s : _root_.Go.ChangeSpec) : _root_.Go.OpenSpec := { _root_.Go.OpenSpec.ofChange s with cond := some uptoSmall }

/-- 'augurylaw18.WholeDeltas', WHERE WHAT IT READS IS OF BULK AT MOST 1048576: true; the input reads as it did. -/
def wholeDeltasUptoRow : OpenClaim := { program := "ytiohgnhgbfodjaagreatdoor", sum := "3ae1435b222d2ccef1e62b66e9aef2df3717b3f687454b55b51938057955ce30", func := "augury/augurylaw18.WholeDeltas", spec := "wholeDeltas", inPlace := ["internal/bytealg.IndexByteString", "internal/bytealg.IndexString", "internal/reflectlite.ValueOf", "(internal/reflectlite.Value).Type", "(internal/reflectlite.Value).IsNil", "internal/reflectlite.TypeOf", "(internal/reflectlite.Value).Elem", "(internal/reflectlite.Value).Set", "internal/bytealg.abigen_runtime_cmpstring"], unfollowed := true, recurses := true, named := ["internal/bytealg.MaxLen", "errors.errorType"], plainKeys := false, apart := false, laid := [("errors.errorType", laid_errors_errorType)], narrowed := true }
def WholeDeltasUptoSaid : Prop := wholeDeltasUptoRow.holds Tryz.pinned (OpenSpec.upto wholeDeltasSpec)

/-- 'augurylaw18.WholeLeads', WHERE WHAT IT READS IS OF BULK AT MOST 1048576: true; the input reads as it did. -/
def wholeLeadsUptoRow : OpenClaim := { program := "ytiohgnhgbfodjaagreatdoor", sum := "3ae1435b222d2ccef1e62b66e9aef2df3717b3f687454b55b51938057955ce30", func := "augury/augurylaw18.WholeLeads", spec := "wholeLeads", inPlace := ["internal/bytealg.IndexByteString", "internal/bytealg.IndexString", "internal/reflectlite.ValueOf", "(internal/reflectlite.Value).Type", "(internal/reflectlite.Value).IsNil", "internal/reflectlite.TypeOf", "(internal/reflectlite.Value).Elem", "(internal/reflectlite.Value).Set", "internal/bytealg.abigen_runtime_cmpstring"], unfollowed := true, recurses := true, named := ["internal/bytealg.MaxLen", "errors.errorType"], plainKeys := false, apart := false, laid := [("errors.errorType", laid_errors_errorType)], narrowed := true }
def WholeLeadsUptoSaid : Prop := wholeLeadsUptoRow.holds Tryz.pinned (OpenSpec.upto wholeLeadsSpec)

/-- 'augurylaw18.WholeTold', WHERE WHAT IT READS IS OF BULK AT MOST 1048576: true; the input reads as it did. -/
def wholeToldUptoRow : OpenClaim := { program := "ytiohgnhgbfodjaagreatdoor", sum := "3ae1435b222d2ccef1e62b66e9aef2df3717b3f687454b55b51938057955ce30", func := "augury/augurylaw18.WholeTold", spec := "wholeTold", inPlace := ["internal/bytealg.IndexByteString", "internal/bytealg.IndexString", "internal/reflectlite.ValueOf", "(internal/reflectlite.Value).Type", "(internal/reflectlite.Value).IsNil", "internal/reflectlite.TypeOf", "(internal/reflectlite.Value).Elem", "(internal/reflectlite.Value).Set", "internal/bytealg.abigen_runtime_cmpstring"], unfollowed := true, recurses := true, named := ["internal/bytealg.MaxLen", "errors.errorType"], plainKeys := false, apart := false, laid := [("errors.errorType", laid_errors_errorType)], narrowed := true }
def WholeToldUptoSaid : Prop := wholeToldUptoRow.holds Tryz.pinned (OpenSpec.upto wholeToldSpec)

end Rows
end Go.Proofs.YtiohgnhgbfodjaaGreatDoor
