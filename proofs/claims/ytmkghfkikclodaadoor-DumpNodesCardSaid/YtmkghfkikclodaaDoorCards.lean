/-
  DERIVED. GIVEN WITH THE SEED: THE CARDS: each row of YtmkghfkikclodaaDoorRows.lean that lists a variable, with what it lists TIED to the program's text (the seventh form; the later family's looks); each row that meets fmt, with fmt's text TOLD by the authors' own Lean function (tested against real Go, not proved from fmt's source: count such statements apart). THE CARD IS WHAT COUNTS. Prove the row's statement (the work); the ties are given (YtmkghfkikclodaaDoorTie.lean); close each card by the builder's one call (the guide's Derived/Test/ToyasCard.lean, 'card_holds'). Laid BY PROGRAM, IN A SANDBOX (cutbox-door.mjs). By AI agents, Wed Nov 11 2026. No macro, syntax, notation, axiom, sorry.
-/
import Derived.Test.YtmkghfkikclodaaDoorRows
import GoSem.ClaimSeven
namespace Go.Proofs.YtmkghfkikclodaaDoor
namespace Rows

/-- THE TIED CARD OF 'inglenooklaw22.DumpValues'. -/
def dumpValuesCard : Claim7 := { stood := { row := dumpValuesRow, standIns := [], harness := (true, "2d97f9c95eec90483acca866402171580b0bab7014c616d1f93168829d425099"), looks := true }, kinds := [], alts := [], laidByText := true, laidKinds := [.sentinel, .sentinel, .sentinel, .sentinel, .sentinel, .sentinel, .sentinel, .sentinel, .sentinel, .sentinel, .sentinel, .sentinel, .sentinel, .sentinel, .sentinel, .sentinel, .sentinel], laidTests := true, laidLooks := .later }
def DumpValuesCardSaid : Prop := Claim7.holds Tryd.pinned (.plain (OpenSpec.ofChange dumpValuesSpec)) dumpValuesCard

/-- THE TIED CARD OF 'inglenooklaw22.DumpAny'. -/
def dumpAnyCard : Claim7 := { stood := { row := dumpAnyRow, standIns := [], harness := (true, "2d97f9c95eec90483acca866402171580b0bab7014c616d1f93168829d425099"), looks := true }, kinds := [], alts := [], laidByText := true, laidKinds := [.sentinel, .sentinel, .sentinel, .sentinel, .sentinel], laidTests := true, laidLooks := .later }
def DumpAnyCardSaid : Prop := Claim7.holds Tryd.pinned (.plain (OpenSpec.ofChange dumpAnySpec)) dumpAnyCard

/-- THE TIED CARD OF 'inglenooklaw22.DumpNodes'. -/
def dumpNodesCard : Claim7 := { stood := { row := dumpNodesRow, standIns := [], harness := (true, "2d97f9c95eec90483acca866402171580b0bab7014c616d1f93168829d425099"), looks := true }, kinds := [], alts := [], laidByText := true, laidKinds := [.sentinel, .sentinel, .sentinel, .sentinel, .sentinel, .sentinel], laidTests := true, laidLooks := .later }
def DumpNodesCardSaid : Prop := Claim7.holds Tryd.pinned (.plain (OpenSpec.ofChange dumpNodesSpec)) dumpNodesCard

/-- THE SECOND FORM's CARD OF 'inglenooklaw22.DumpValues'. -/
def dumpValuesUptoCard : Claim7 := { stood := { row := dumpValuesUptoRow, standIns := [], harness := (true, "2d97f9c95eec90483acca866402171580b0bab7014c616d1f93168829d425099"), looks := true }, kinds := [], alts := [], laidByText := true, laidKinds := [.sentinel, .sentinel, .sentinel, .sentinel, .sentinel, .sentinel, .sentinel, .sentinel, .sentinel, .sentinel, .sentinel, .sentinel, .sentinel, .sentinel, .sentinel, .sentinel, .sentinel], laidTests := true, laidLooks := .later }
def DumpValuesUptoCardSaid : Prop := Claim7.holds Tryd.pinned (.plain (OpenSpec.upto dumpValuesSpec)) dumpValuesUptoCard

/-- THE SECOND FORM's CARD OF 'inglenooklaw22.DumpAny'. -/
def dumpAnyUptoCard : Claim7 := { stood := { row := dumpAnyUptoRow, standIns := [], harness := (true, "2d97f9c95eec90483acca866402171580b0bab7014c616d1f93168829d425099"), looks := true }, kinds := [], alts := [], laidByText := true, laidKinds := [.sentinel, .sentinel, .sentinel, .sentinel, .sentinel], laidTests := true, laidLooks := .later }
def DumpAnyUptoCardSaid : Prop := Claim7.holds Tryd.pinned (.plain (OpenSpec.upto dumpAnySpec)) dumpAnyUptoCard

/-- THE SECOND FORM's CARD OF 'inglenooklaw22.DumpNodes'. -/
def dumpNodesUptoCard : Claim7 := { stood := { row := dumpNodesUptoRow, standIns := [], harness := (true, "2d97f9c95eec90483acca866402171580b0bab7014c616d1f93168829d425099"), looks := true }, kinds := [], alts := [], laidByText := true, laidKinds := [.sentinel, .sentinel, .sentinel, .sentinel, .sentinel, .sentinel], laidTests := true, laidLooks := .later }
def DumpNodesUptoCardSaid : Prop := Claim7.holds Tryd.pinned (.plain (OpenSpec.upto dumpNodesSpec)) dumpNodesUptoCard
end Rows
end Go.Proofs.YtmkghfkikclodaaDoor
