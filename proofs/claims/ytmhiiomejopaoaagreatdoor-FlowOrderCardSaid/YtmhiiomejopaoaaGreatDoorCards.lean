/-
  DERIVED. GIVEN WITH THE SEED: THE CARDS: each row of YtmhiiomejopaoaaGreatDoorRows.lean that lists a variable, with what it lists TIED to the program's text (the seventh form; the later family's looks); each row that meets fmt, with fmt's text TOLD by the authors' own Lean function (tested against real Go, not proved from fmt's source: count such statements apart). THE CARD IS WHAT COUNTS. Prove the row's statement (the work); the ties are given (YtmhiiomejopaoaaGreatDoorTie.lean); close each card by the builder's one call (the guide's Derived/Test/ToyasCard.lean, 'card_holds'). Laid BY PROGRAM, IN A SANDBOX (cutbox-door.mjs). By AI agents, Wed Nov 11 2026. No macro, syntax, notation, axiom, sorry.
-/
import Derived.Test.YtmhiiomejopaoaaGreatDoorRows
import GoSem.ClaimSeven
namespace Go.Proofs.YtmhiiomejopaoaaGreatDoor
namespace Rows

/-- THE TIED CARD OF 'udometerlaw03.FlowTexts'. -/
def flowTextsCard : Claim7 := { stood := { row := flowTextsRow, standIns := [], harness := (true, "253fe9e0690b436f791472b22c863301e65c8dd1bc36c8b460610775a029540f"), looks := true }, kinds := [], alts := [], laidByText := true, laidKinds := [.data, .data, .data, .data, .sentinel, .sentinel, .pinned], laidTests := true, laidLooks := .later }
def FlowTextsCardSaid : Prop := Claim7.holds Tryz.pinned (.plain (OpenSpec.ofChange flowTextsSpec)) flowTextsCard

/-- THE TIED CARD OF 'udometerlaw03.FlowOrder'. -/
def flowOrderCard : Claim7 := { stood := { row := flowOrderRow, standIns := [], harness := (true, "253fe9e0690b436f791472b22c863301e65c8dd1bc36c8b460610775a029540f"), looks := true }, kinds := [], alts := [], laidByText := true, laidKinds := [.data, .data, .data, .data, .sentinel, .sentinel, .pinned], laidTests := true, laidLooks := .later }
def FlowOrderCardSaid : Prop := Claim7.holds Tryz.pinned (.plain (OpenSpec.ofChange flowOrderSpec)) flowOrderCard

/-- THE SECOND FORM's CARD OF 'udometerlaw03.FlowTexts'. -/
def flowTextsUptoCard : Claim7 := { stood := { row := flowTextsUptoRow, standIns := [], harness := (true, "253fe9e0690b436f791472b22c863301e65c8dd1bc36c8b460610775a029540f"), looks := true }, kinds := [], alts := [], laidByText := true, laidKinds := [.data, .data, .data, .data, .sentinel, .sentinel, .pinned], laidTests := true, laidLooks := .later }
def FlowTextsUptoCardSaid : Prop := Claim7.holds Tryz.pinned (.plain (OpenSpec.upto flowTextsSpec)) flowTextsUptoCard

/-- THE SECOND FORM's CARD OF 'udometerlaw03.FlowOrder'. -/
def flowOrderUptoCard : Claim7 := { stood := { row := flowOrderUptoRow, standIns := [], harness := (true, "253fe9e0690b436f791472b22c863301e65c8dd1bc36c8b460610775a029540f"), looks := true }, kinds := [], alts := [], laidByText := true, laidKinds := [.data, .data, .data, .data, .sentinel, .sentinel, .pinned], laidTests := true, laidLooks := .later }
def FlowOrderUptoCardSaid : Prop := Claim7.holds Tryz.pinned (.plain (OpenSpec.upto flowOrderSpec)) flowOrderUptoCard
end Rows
end Go.Proofs.YtmhiiomejopaoaaGreatDoor
