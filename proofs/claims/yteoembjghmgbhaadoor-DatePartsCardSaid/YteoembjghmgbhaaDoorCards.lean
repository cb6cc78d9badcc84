/-
  DERIVED. GIVEN WITH THE SEED: THE CARDS: each row of YteoembjghmgbhaaDoorRows.lean that lists a variable, with what it lists TIED to the program's text (the seventh form; the later family's looks); each row that meets fmt, with fmt's text TOLD by the authors' own Lean function (tested against real Go, not proved from fmt's source: count such statements apart). THE CARD IS WHAT COUNTS. Prove the row's statement (the work); the ties are given (YteoembjghmgbhaaDoorTie.lean); close each card by the builder's one call (the guide's Derived/Test/ToyasCard.lean, 'card_holds'). Laid BY PROGRAM, IN A SANDBOX (cutbox-door.mjs). By AI agents, Wed Nov 11 2026. No macro, syntax, notation, axiom, sorry.
-/
import Derived.Test.YteoembjghmgbhaaDoorRows
import GoSem.ClaimSeven
namespace Go.Proofs.YteoembjghmgbhaaDoor
namespace Rows

/-- THE TIED CARD OF 'udometerlaw01.DateNumbers'. -/
def dateNumbersCard : Claim7 := { stood := { row := dateNumbersRow, standIns := [], harness := (true, "56a8957af968e583061952ec77a820ecf5f8f0043c8ebc96846f04745888ddba"), looks := false }, kinds := [], alts := [], laidByText := true, laidKinds := [.data, .data, .data], laidTests := true, laidLooks := .later }
def DateNumbersCardSaid : Prop := Claim7.holds Tryd.pinned (.plain (OpenSpec.ofChange dateNumbersSpec)) dateNumbersCard

/-- THE TIED CARD OF 'udometerlaw01.DateWeeks'. -/
def dateWeeksCard : Claim7 := { stood := { row := dateWeeksRow, standIns := [], harness := (true, "56a8957af968e583061952ec77a820ecf5f8f0043c8ebc96846f04745888ddba"), looks := false }, kinds := [], alts := [], laidByText := true, laidKinds := [.data, .data, .data], laidTests := true, laidLooks := .later }
def DateWeeksCardSaid : Prop := Claim7.holds Tryd.pinned (.plain (OpenSpec.ofChange dateWeeksSpec)) dateWeeksCard

/-- THE TIED CARD OF 'udometerlaw01.DateLater'. -/
def dateLaterCard : Claim7 := { stood := { row := dateLaterRow, standIns := [], harness := (true, "56a8957af968e583061952ec77a820ecf5f8f0043c8ebc96846f04745888ddba"), looks := false }, kinds := [], alts := [], laidByText := true, laidKinds := [.data, .data, .data], laidTests := true, laidLooks := .later }
def DateLaterCardSaid : Prop := Claim7.holds Tryd.pinned (.plain (OpenSpec.ofChange dateLaterSpec)) dateLaterCard

/-- THE TIED CARD OF 'udometerlaw01.DateOneByOne'. -/
def dateOneByOneCard : Claim7 := { stood := { row := dateOneByOneRow, standIns := [], harness := (true, "56a8957af968e583061952ec77a820ecf5f8f0043c8ebc96846f04745888ddba"), looks := false }, kinds := [], alts := [], laidByText := true, laidKinds := [.data, .data, .data], laidTests := true, laidLooks := .later }
def DateOneByOneCardSaid : Prop := Claim7.holds Tryd.pinned (.plain (OpenSpec.ofChange dateOneByOneSpec)) dateOneByOneCard

/-- THE TIED CARD OF 'udometerlaw01.DateCards'. -/
def dateCardsCard : Claim7 := { stood := { row := dateCardsRow, standIns := [], harness := (true, "56a8957af968e583061952ec77a820ecf5f8f0043c8ebc96846f04745888ddba"), looks := false }, kinds := [], alts := [], laidByText := true, laidKinds := [.data, .data, .data], laidTests := true, laidLooks := .later }
def DateCardsCardSaid : Prop := Claim7.holds Tryd.pinned (.plain (OpenSpec.ofChange dateCardsSpec)) dateCardsCard

/-- THE TIED CARD OF 'udometerlaw01.DateLumps'. -/
def dateLumpsCard : Claim7 := { stood := { row := dateLumpsRow, standIns := [], harness := (true, "56a8957af968e583061952ec77a820ecf5f8f0043c8ebc96846f04745888ddba"), looks := false }, kinds := [], alts := [], laidByText := true, laidKinds := [.data, .data, .data], laidTests := true, laidLooks := .later }
def DateLumpsCardSaid : Prop := Claim7.holds Tryd.pinned (.plain (OpenSpec.ofChange dateLumpsSpec)) dateLumpsCard

/-- THE TIED CARD OF 'udometerlaw01.DateSums'. -/
def dateSumsCard : Claim7 := { stood := { row := dateSumsRow, standIns := [], harness := (true, "56a8957af968e583061952ec77a820ecf5f8f0043c8ebc96846f04745888ddba"), looks := false }, kinds := [], alts := [], laidByText := true, laidKinds := [.data, .data, .data], laidTests := true, laidLooks := .later }
def DateSumsCardSaid : Prop := Claim7.holds Tryd.pinned (.plain (OpenSpec.ofChange dateSumsSpec)) dateSumsCard

/-- THE TIED CARD OF 'udometerlaw01.DateCuts'. -/
def dateCutsCard : Claim7 := { stood := { row := dateCutsRow, standIns := [], harness := (true, "56a8957af968e583061952ec77a820ecf5f8f0043c8ebc96846f04745888ddba"), looks := false }, kinds := [], alts := [], laidByText := true, laidKinds := [.data, .data, .data], laidTests := true, laidLooks := .later }
def DateCutsCardSaid : Prop := Claim7.holds Tryd.pinned (.plain (OpenSpec.ofChange dateCutsSpec)) dateCutsCard

/-- THE TIED CARD OF 'udometerlaw01.DateMonths'. -/
def dateMonthsCard : Claim7 := { stood := { row := dateMonthsRow, standIns := [], harness := (true, "56a8957af968e583061952ec77a820ecf5f8f0043c8ebc96846f04745888ddba"), looks := false }, kinds := [], alts := [], laidByText := true, laidKinds := [.data, .data, .data], laidTests := true, laidLooks := .later }
def DateMonthsCardSaid : Prop := Claim7.holds Tryd.pinned (.plain (OpenSpec.ofChange dateMonthsSpec)) dateMonthsCard

/-- THE TIED CARD OF 'udometerlaw01.DateUnion'. -/
def dateUnionCard : Claim7 := { stood := { row := dateUnionRow, standIns := [], harness := (true, "56a8957af968e583061952ec77a820ecf5f8f0043c8ebc96846f04745888ddba"), looks := false }, kinds := [], alts := [], laidByText := true, laidKinds := [.data, .data, .data], laidTests := true, laidLooks := .later }
def DateUnionCardSaid : Prop := Claim7.holds Tryd.pinned (.plain (OpenSpec.ofChange dateUnionSpec)) dateUnionCard

/-- THE TIED CARD OF 'udometerlaw01.DateMinus'. -/
def dateMinusCard : Claim7 := { stood := { row := dateMinusRow, standIns := [], harness := (true, "56a8957af968e583061952ec77a820ecf5f8f0043c8ebc96846f04745888ddba"), looks := false }, kinds := [], alts := [], laidByText := true, laidKinds := [.data, .data, .data], laidTests := true, laidLooks := .later }
def DateMinusCardSaid : Prop := Claim7.holds Tryd.pinned (.plain (OpenSpec.ofChange dateMinusSpec)) dateMinusCard

/-- THE TIED CARD OF 'udometerlaw01.DateParts'. -/
def datePartsCard : Claim7 := { stood := { row := datePartsRow, standIns := [], harness := (true, "56a8957af968e583061952ec77a820ecf5f8f0043c8ebc96846f04745888ddba"), looks := false }, kinds := [], alts := [], laidByText := true, laidKinds := [.data, .data, .data], laidTests := true, laidLooks := .later }
def DatePartsCardSaid : Prop := Claim7.holds Tryd.pinned (.plain (OpenSpec.ofChange datePartsSpec)) datePartsCard

/-- THE SECOND FORM's CARD OF 'udometerlaw01.DateNumbers'. -/
def dateNumbersUptoCard : Claim7 := { stood := { row := dateNumbersUptoRow, standIns := [], harness := (true, "56a8957af968e583061952ec77a820ecf5f8f0043c8ebc96846f04745888ddba"), looks := false }, kinds := [], alts := [], laidByText := true, laidKinds := [.data, .data, .data], laidTests := true, laidLooks := .later }
def DateNumbersUptoCardSaid : Prop := Claim7.holds Tryd.pinned (.plain (OpenSpec.upto dateNumbersSpec)) dateNumbersUptoCard

/-- THE SECOND FORM's CARD OF 'udometerlaw01.DateWeeks'. -/
def dateWeeksUptoCard : Claim7 := { stood := { row := dateWeeksUptoRow, standIns := [], harness := (true, "56a8957af968e583061952ec77a820ecf5f8f0043c8ebc96846f04745888ddba"), looks := false }, kinds := [], alts := [], laidByText := true, laidKinds := [.data, .data, .data], laidTests := true, laidLooks := .later }
def DateWeeksUptoCardSaid : Prop := Claim7.holds Tryd.pinned (.plain (OpenSpec.upto dateWeeksSpec)) dateWeeksUptoCard

/-- THE SECOND FORM's CARD OF 'udometerlaw01.DateLater'. -/
def dateLaterUptoCard : Claim7 := { stood := { row := dateLaterUptoRow, standIns := [], harness := (true, "56a8957af968e583061952ec77a820ecf5f8f0043c8ebc96846f04745888ddba"), looks := false }, kinds := [], alts := [], laidByText := true, laidKinds := [.data, .data, .data], laidTests := true, laidLooks := .later }
def DateLaterUptoCardSaid : Prop := Claim7.holds Tryd.pinned (.plain (OpenSpec.upto dateLaterSpec)) dateLaterUptoCard

/-- THE SECOND FORM's CARD OF 'udometerlaw01.DateOneByOne'. -/
def dateOneByOneUptoCard : Claim7 := { stood := { row := dateOneByOneUptoRow, standIns := [], harness := (true, "56a8957af968e583061952ec77a820ecf5f8f0043c8ebc96846f04745888ddba"), looks := false }, kinds := [], alts := [], laidByText := true, laidKinds := [.data, .data, .data], laidTests := true, laidLooks := .later }
def DateOneByOneUptoCardSaid : Prop := Claim7.holds Tryd.pinned (.plain (OpenSpec.upto dateOneByOneSpec)) dateOneByOneUptoCard

/-- THE SECOND FORM's CARD OF 'udometerlaw01.DateCards'. -/
def dateCardsUptoCard : Claim7 := { stood := { row := dateCardsUptoRow, standIns := [], harness := (true, "56a8957af968e583061952ec77a820ecf5f8f0043c8ebc96846f04745888ddba"), looks := false }, kinds := [], alts := [], laidByText := true, laidKinds := [.data, .data, .data], laidTests := true, laidLooks := .later }
def DateCardsUptoCardSaid : Prop := Claim7.holds Tryd.pinned (.plain (OpenSpec.upto dateCardsSpec)) dateCardsUptoCard

/-- THE SECOND FORM's CARD OF 'udometerlaw01.DateLumps'. -/
def dateLumpsUptoCard : Claim7 := { stood := { row := dateLumpsUptoRow, standIns := [], harness := (true, "56a8957af968e583061952ec77a820ecf5f8f0043c8ebc96846f04745888ddba"), looks := false }, kinds := [], alts := [], laidByText := true, laidKinds := [.data, .data, .data], laidTests := true, laidLooks := .later }
def DateLumpsUptoCardSaid : Prop := Claim7.holds Tryd.pinned (.plain (OpenSpec.upto dateLumpsSpec)) dateLumpsUptoCard

/-- THE SECOND FORM's CARD OF 'udometerlaw01.DateSums'. -/
def dateSumsUptoCard : Claim7 := { stood := { row := dateSumsUptoRow, standIns := [], harness := (true, "56a8957af968e583061952ec77a820ecf5f8f0043c8ebc96846f04745888ddba"), looks := false }, kinds := [], alts := [], laidByText := true, laidKinds := [.data, .data, .data], laidTests := true, laidLooks := .later }
def DateSumsUptoCardSaid : Prop := Claim7.holds Tryd.pinned (.plain (OpenSpec.upto dateSumsSpec)) dateSumsUptoCard

/-- THE SECOND FORM's CARD OF 'udometerlaw01.DateCuts'. -/
def dateCutsUptoCard : Claim7 := { stood := { row := dateCutsUptoRow, standIns := [], harness := (true, "56a8957af968e583061952ec77a820ecf5f8f0043c8ebc96846f04745888ddba"), looks := false }, kinds := [], alts := [], laidByText := true, laidKinds := [.data, .data, .data], laidTests := true, laidLooks := .later }
def DateCutsUptoCardSaid : Prop := Claim7.holds Tryd.pinned (.plain (OpenSpec.upto dateCutsSpec)) dateCutsUptoCard

/-- THE SECOND FORM's CARD OF 'udometerlaw01.DateMonths'. -/
def dateMonthsUptoCard : Claim7 := { stood := { row := dateMonthsUptoRow, standIns := [], harness := (true, "56a8957af968e583061952ec77a820ecf5f8f0043c8ebc96846f04745888ddba"), looks := false }, kinds := [], alts := [], laidByText := true, laidKinds := [.data, .data, .data], laidTests := true, laidLooks := .later }
def DateMonthsUptoCardSaid : Prop := Claim7.holds Tryd.pinned (.plain (OpenSpec.upto dateMonthsSpec)) dateMonthsUptoCard

/-- THE SECOND FORM's CARD OF 'udometerlaw01.DateUnion'. -/
def dateUnionUptoCard : Claim7 := { stood := { row := dateUnionUptoRow, standIns := [], harness := (true, "56a8957af968e583061952ec77a820ecf5f8f0043c8ebc96846f04745888ddba"), looks := false }, kinds := [], alts := [], laidByText := true, laidKinds := [.data, .data, .data], laidTests := true, laidLooks := .later }
def DateUnionUptoCardSaid : Prop := Claim7.holds Tryd.pinned (.plain (OpenSpec.upto dateUnionSpec)) dateUnionUptoCard

/-- THE SECOND FORM's CARD OF 'udometerlaw01.DateMinus'. -/
def dateMinusUptoCard : Claim7 := { stood := { row := dateMinusUptoRow, standIns := [], harness := (true, "56a8957af968e583061952ec77a820ecf5f8f0043c8ebc96846f04745888ddba"), looks := false }, kinds := [], alts := [], laidByText := true, laidKinds := [.data, .data, .data], laidTests := true, laidLooks := .later }
def DateMinusUptoCardSaid : Prop := Claim7.holds Tryd.pinned (.plain (OpenSpec.upto dateMinusSpec)) dateMinusUptoCard

/-- THE SECOND FORM's CARD OF 'udometerlaw01.DateParts'. -/
def datePartsUptoCard : Claim7 := { stood := { row := datePartsUptoRow, standIns := [], harness := (true, "56a8957af968e583061952ec77a820ecf5f8f0043c8ebc96846f04745888ddba"), looks := false }, kinds := [], alts := [], laidByText := true, laidKinds := [.data, .data, .data], laidTests := true, laidLooks := .later }
def DatePartsUptoCardSaid : Prop := Claim7.holds Tryd.pinned (.plain (OpenSpec.upto datePartsSpec)) datePartsUptoCard
end Rows
end Go.Proofs.YteoembjghmgbhaaDoor
