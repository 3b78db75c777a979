/-
  DERIVED. GIVEN WITH THE SEED: THE CARDS: each row of YtodlgnaoghladaaDoorRows.lean that lists a variable, with what it lists TIED to the program's text (the seventh form; the later family's looks); each row that meets fmt, with fmt's text TOLD by the authors' own Lean function (tested against real Go, not proved from fmt's source: count such statements apart). THE CARD IS WHAT COUNTS. Prove the row's statement (the work); the ties are given (YtodlgnaoghladaaDoorTie.lean); close each card by the builder's one call (the guide's Derived/Test/ToyasCard.lean, 'card_holds'). Laid BY PROGRAM, IN A SANDBOX (cutbox-door.mjs). By AI agents, Wed Nov 11 2026. No macro, syntax, notation, axiom, sorry.
-/
import Derived.Test.YtodlgnaoghladaaDoorRows
import GoSem.ClaimSeven
namespace Go.Proofs.YtodlgnaoghladaaDoor
namespace Rows

/-- THE TIED CARD OF 'inglenooklaw3.StrParts'. -/
def strPartsCard : Claim7 := { stood := { row := strPartsRow, standIns := [], harness := (true, "afacdefb482c317ab2309830721a35cc2a96bb9300325e81c085b1704ba5c599"), looks := false }, kinds := [], alts := [], laidByText := true, laidKinds := [.data, .pinned], laidTests := true, laidLooks := .later }
def StrPartsCardSaid : Prop := Claim7.holds Tryd.pinned (.plain (OpenSpec.ofChange strPartsSpec)) strPartsCard

/-- THE TIED CARD OF 'inglenooklaw3.StrSays'. -/
def strSaysCard : Claim7 := { stood := { row := strSaysRow, standIns := [], harness := (true, "afacdefb482c317ab2309830721a35cc2a96bb9300325e81c085b1704ba5c599"), looks := false }, kinds := [], alts := [], laidByText := true, laidKinds := [.data, .pinned], laidTests := true, laidLooks := .later }
def StrSaysCardSaid : Prop := Claim7.holds Tryd.pinned (.plain (OpenSpec.ofChange strSaysSpec)) strSaysCard

/-- THE SECOND FORM's CARD OF 'inglenooklaw3.StrParts'. -/
def strPartsUptoCard : Claim7 := { stood := { row := strPartsUptoRow, standIns := [], harness := (true, "afacdefb482c317ab2309830721a35cc2a96bb9300325e81c085b1704ba5c599"), looks := false }, kinds := [], alts := [], laidByText := true, laidKinds := [.data, .pinned], laidTests := true, laidLooks := .later }
def StrPartsUptoCardSaid : Prop := Claim7.holds Tryd.pinned (.plain (OpenSpec.upto strPartsSpec)) strPartsUptoCard

/-- THE SECOND FORM's CARD OF 'inglenooklaw3.StrSays'. -/
def strSaysUptoCard : Claim7 := { stood := { row := strSaysUptoRow, standIns := [], harness := (true, "afacdefb482c317ab2309830721a35cc2a96bb9300325e81c085b1704ba5c599"), looks := false }, kinds := [], alts := [], laidByText := true, laidKinds := [.data, .pinned], laidTests := true, laidLooks := .later }
def StrSaysUptoCardSaid : Prop := Claim7.holds Tryd.pinned (.plain (OpenSpec.upto strSaysSpec)) strSaysUptoCard
end Rows
end Go.Proofs.YtodlgnaoghladaaDoor
