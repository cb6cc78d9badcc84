/-
  DERIVED. GIVEN WITH THE SEED: THE CARDS: each row of YteoembjghmgbhaaGreatDoorRows.lean that lists a variable, with what it lists TIED to the program's text (the seventh form; the later family's looks); each row that meets fmt, with fmt's text TOLD by the authors' own Lean function (tested against real Go, not proved from fmt's source: count such statements apart). THE CARD IS WHAT COUNTS. Prove the row's statement (the work); the ties are given (YteoembjghmgbhaaGreatDoorTie.lean); close each card by the builder's one call (the guide's Derived/Test/ToyasCard.lean, 'card_holds'). Laid BY PROGRAM, IN A SANDBOX (cutbox-door.mjs). By AI agents, Wed Nov 11 2026. No macro, syntax, notation, axiom, sorry.
-/
import Derived.Test.YteoembjghmgbhaaGreatDoorRows
import GoSem.ClaimSeven
namespace Go.Proofs.YteoembjghmgbhaaGreatDoor
namespace Rows

/-- THE TIED CARD OF 'udometerlaw01.DateTexts'. -/
def dateTextsCard : Claim7 := { stood := { row := dateTextsRow, standIns := [], harness := (true, "9c7b8a0926b45a2f354de83e221ce2e6a0e00398e49475a65bc5e96d5d094309"), looks := true }, kinds := [], alts := [], laidByText := true, laidKinds := [.data, .data, .data, .data, .sentinel, .sentinel, .pinned], laidTests := true, laidLooks := .later }
def DateTextsCardSaid : Prop := Claim7.holds Tryz.pinned (.plain (OpenSpec.ofChange dateTextsSpec)) dateTextsCard

/-- THE TIED CARD OF 'udometerlaw01.DateBack'. -/
def dateBackCard : Claim7 := { stood := { row := dateBackRow, standIns := [], harness := (true, "9c7b8a0926b45a2f354de83e221ce2e6a0e00398e49475a65bc5e96d5d094309"), looks := true }, kinds := [], alts := [], laidByText := true, laidKinds := [.data, .data, .data, .data, .sentinel, .sentinel, .pinned], laidTests := true, laidLooks := .later }
def DateBackCardSaid : Prop := Claim7.holds Tryz.pinned (.plain (OpenSpec.ofChange dateBackSpec)) dateBackCard

/-- THE SECOND FORM's CARD OF 'udometerlaw01.DateTexts'. -/
def dateTextsUptoCard : Claim7 := { stood := { row := dateTextsUptoRow, standIns := [], harness := (true, "9c7b8a0926b45a2f354de83e221ce2e6a0e00398e49475a65bc5e96d5d094309"), looks := true }, kinds := [], alts := [], laidByText := true, laidKinds := [.data, .data, .data, .data, .sentinel, .sentinel, .pinned], laidTests := true, laidLooks := .later }
def DateTextsUptoCardSaid : Prop := Claim7.holds Tryz.pinned (.plain (OpenSpec.upto dateTextsSpec)) dateTextsUptoCard

/-- THE SECOND FORM's CARD OF 'udometerlaw01.DateBack'. -/
def dateBackUptoCard : Claim7 := { stood := { row := dateBackUptoRow, standIns := [], harness := (true, "9c7b8a0926b45a2f354de83e221ce2e6a0e00398e49475a65bc5e96d5d094309"), looks := true }, kinds := [], alts := [], laidByText := true, laidKinds := [.data, .data, .data, .data, .sentinel, .sentinel, .pinned], laidTests := true, laidLooks := .later }
def DateBackUptoCardSaid : Prop := Claim7.holds Tryz.pinned (.plain (OpenSpec.upto dateBackSpec)) dateBackUptoCard
end Rows
end Go.Proofs.YteoembjghmgbhaaGreatDoor
