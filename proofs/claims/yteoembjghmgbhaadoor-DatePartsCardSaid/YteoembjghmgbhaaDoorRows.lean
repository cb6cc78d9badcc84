/-
  NARROWER THAN 'FOR EVERY INPUT', by the rows' own cells (each row's printed sentence says how): DateNumbers: laid · DateWeeks: laid · DateLater: laid · DateOneByOne: laid · DateCards: laid · DateLumps: laid · DateSums: laid · DateCuts: laid · DateMonths: laid · DateUnion: laid · DateMinus: laid · DateParts: laid.
  DERIVED. THE GIVEN ROWS OF THIS SEAT. 12 by the template 'for every input the law returns true; each argument reads behind the call as it read before'; 0 by the template 'total and deterministic' (their statements: YteoembjghmgbhaaDoorTotals.lean).
  GIVEN WITH THE SEED: the statements are not yours to turn. If you find one false, say at which input.
  Laid BY PROGRAM, IN A SANDBOX (cutbox-rows.mjs): the forced cells as the released guide's own fill.sh prints them over the translation 80120b9513beb60a… (all of the seat's roots in one cut). By AI agents, Wed Nov 11 2026. No macro, syntax, notation, axiom, sorry.
-/
import Derived.Test.YteoembjghmgbhaaDoorChecked
import GoSem.Claim
import GoSem.ClaimJoined
import GoSem.ClaimMapViews
import Derived.JoinedTies
import Derived.KernelRfl
namespace Go.Proofs.YteoembjghmgbhaaDoor
/- THE CELL 'sum', in the pinned program and in every row, IS THE sha256 OF THE DUMP (.gsa) THAT YteoembjghmgbhaaDoorProg.lean LOADS. Nothing in Lean hashes anything: it is a label: what it is worth is what the hold of that sum in a sandbox is worth. -/
noncomputable def Tryd.pinned : Pinned := { name := "yteoembjghmgbhaadoor", sum := "80120b9513beb60a9dd86ad1e382262eb79be83ce18f265ec23a94204e04abb7", checked := Tryd.checked }
namespace Rows
def none {H : Type} : Left H := { results := [], args := [] }

/- WHAT THE LISTED PACKAGE-LEVEL VARIABLES READ AS WHEN THE CALL BEGINS. Each datum BY PROGRAM (the guide's laid-datum.mjs) off the statement by which the dump's own 'gosem.cut.vars' lays the variable. In a bare row this is a premise. The card (YteoembjghmgbhaaDoorCards.lean) ties it to the program's text. -/
def laid_math_bits_deBruijn32tab {H : Type} : DataW H := .agg [.lit (.int .u8 0), .lit (.int .u8 1), .lit (.int .u8 28), .lit (.int .u8 2), .lit (.int .u8 29), .lit (.int .u8 14), .lit (.int .u8 24), .lit (.int .u8 3), .lit (.int .u8 30), .lit (.int .u8 22), .lit (.int .u8 20), .lit (.int .u8 15), .lit (.int .u8 25), .lit (.int .u8 17), .lit (.int .u8 4), .lit (.int .u8 8), .lit (.int .u8 31), .lit (.int .u8 27), .lit (.int .u8 13), .lit (.int .u8 23), .lit (.int .u8 21), .lit (.int .u8 19), .lit (.int .u8 16), .lit (.int .u8 7), .lit (.int .u8 26), .lit (.int .u8 12), .lit (.int .u8 18), .lit (.int .u8 6), .lit (.int .u8 11), .lit (.int .u8 5), .lit (.int .u8 10), .lit (.int .u8 9)]
def laid_math_bits_deBruijn64tab {H : Type} : DataW H := .agg [.lit (.int .u8 0), .lit (.int .u8 1), .lit (.int .u8 56), .lit (.int .u8 2), .lit (.int .u8 57), .lit (.int .u8 49), .lit (.int .u8 28), .lit (.int .u8 3), .lit (.int .u8 61), .lit (.int .u8 58), .lit (.int .u8 42), .lit (.int .u8 50), .lit (.int .u8 38), .lit (.int .u8 29), .lit (.int .u8 17), .lit (.int .u8 4), .lit (.int .u8 62), .lit (.int .u8 47), .lit (.int .u8 59), .lit (.int .u8 36), .lit (.int .u8 45), .lit (.int .u8 43), .lit (.int .u8 51), .lit (.int .u8 22), .lit (.int .u8 53), .lit (.int .u8 39), .lit (.int .u8 33), .lit (.int .u8 30), .lit (.int .u8 24), .lit (.int .u8 18), .lit (.int .u8 12), .lit (.int .u8 5), .lit (.int .u8 63), .lit (.int .u8 55), .lit (.int .u8 48), .lit (.int .u8 27), .lit (.int .u8 60), .lit (.int .u8 41), .lit (.int .u8 37), .lit (.int .u8 16), .lit (.int .u8 46), .lit (.int .u8 35), .lit (.int .u8 44), .lit (.int .u8 21), .lit (.int .u8 52), .lit (.int .u8 32), .lit (.int .u8 23), .lit (.int .u8 11), .lit (.int .u8 54), .lit (.int .u8 26), .lit (.int .u8 40), .lit (.int .u8 15), .lit (.int .u8 34), .lit (.int .u8 20), .lit (.int .u8 31), .lit (.int .u8 10), .lit (.int .u8 25), .lit (.int .u8 14), .lit (.int .u8 19), .lit (.int .u8 9), .lit (.int .u8 13), .lit (.int .u8 8), .lit (.int .u8 7), .lit (.int .u8 6)]
def laid_internal_strconv_uint64pow10 {H : Type} : DataW H := .agg [.lit (.int .u64 1), .lit (.int .u64 10), .lit (.int .u64 100), .lit (.int .u64 1000), .lit (.int .u64 10000), .lit (.int .u64 100000), .lit (.int .u64 1000000), .lit (.int .u64 10000000), .lit (.int .u64 100000000), .lit (.int .u64 1000000000), .lit (.int .u64 10000000000), .lit (.int .u64 100000000000), .lit (.int .u64 1000000000000), .lit (.int .u64 10000000000000), .lit (.int .u64 100000000000000), .lit (.int .u64 1000000000000000), .lit (.int .u64 10000000000000000), .lit (.int .u64 100000000000000000), .lit (.int .u64 1000000000000000000), .lit (.int .u64 10000000000000000000)]

/-- 'udometerlaw01.DateNumbers': WHATEVER THE INPUT: true; the input reads as it did. -/
def dateNumbersSpec : ChangeSpec := { name := "dateNumbers", fn := fun _ => fun
  | [d1, d2, d3] => { results := [.lit (.bool true)], args := [d1, d2, d3] }
  | _ => none }
def dateNumbersRow : OpenClaim := { program := "yteoembjghmgbhaadoor", sum := "80120b9513beb60a9dd86ad1e382262eb79be83ce18f265ec23a94204e04abb7", func := "udometer/udometerlaw01.DateNumbers", spec := "dateNumbers", unfollowed := true, recurses := true, named := ["internal/strconv.uint64pow10", "math/bits.deBruijn32tab", "math/bits.deBruijn64tab"], apart := false, laid := [("math/bits.deBruijn32tab", laid_math_bits_deBruijn32tab), ("math/bits.deBruijn64tab", laid_math_bits_deBruijn64tab), ("internal/strconv.uint64pow10", laid_internal_strconv_uint64pow10)] }
def DateNumbersSaid : Prop := dateNumbersRow.holds Tryd.pinned (OpenSpec.ofChange dateNumbersSpec)

/-- ITS FALSE NEIGHBOUR: 'it returns false'. Refute it at one input. -/
def dateNumbersWrong : ChangeSpec := { name := "dateNumbers", fn := fun _ => fun
  | [d1, d2, d3] => { results := [.lit (.bool false)], args := [d1, d2, d3] }
  | _ => none }
def DateNumbersWrongFalsely : Prop := dateNumbersRow.holds Tryd.pinned (OpenSpec.ofChange dateNumbersWrong)

/-- 'udometerlaw01.DateWeeks': WHATEVER THE INPUT: true; the input reads as it did. -/
def dateWeeksSpec : ChangeSpec := { name := "dateWeeks", fn := fun _ => fun
  | [d] => { results := [.lit (.bool true)], args := [d] }
  | _ => none }
def dateWeeksRow : OpenClaim := { program := "yteoembjghmgbhaadoor", sum := "80120b9513beb60a9dd86ad1e382262eb79be83ce18f265ec23a94204e04abb7", func := "udometer/udometerlaw01.DateWeeks", spec := "dateWeeks", unfollowed := true, recurses := true, named := ["internal/strconv.uint64pow10", "math/bits.deBruijn32tab", "math/bits.deBruijn64tab"], apart := false, laid := [("math/bits.deBruijn32tab", laid_math_bits_deBruijn32tab), ("math/bits.deBruijn64tab", laid_math_bits_deBruijn64tab), ("internal/strconv.uint64pow10", laid_internal_strconv_uint64pow10)] }
def DateWeeksSaid : Prop := dateWeeksRow.holds Tryd.pinned (OpenSpec.ofChange dateWeeksSpec)

/-- ITS FALSE NEIGHBOUR: 'it returns false'. Refute it at one input. -/
def dateWeeksWrong : ChangeSpec := { name := "dateWeeks", fn := fun _ => fun
  | [d] => { results := [.lit (.bool false)], args := [d] }
  | _ => none }
def DateWeeksWrongFalsely : Prop := dateWeeksRow.holds Tryd.pinned (OpenSpec.ofChange dateWeeksWrong)

/-- 'udometerlaw01.DateLater': WHATEVER THE INPUT: true; the input reads as it did. -/
def dateLaterSpec : ChangeSpec := { name := "dateLater", fn := fun _ => fun
  | [d1, d2] => { results := [.lit (.bool true)], args := [d1, d2] }
  | _ => none }
def dateLaterRow : OpenClaim := { program := "yteoembjghmgbhaadoor", sum := "80120b9513beb60a9dd86ad1e382262eb79be83ce18f265ec23a94204e04abb7", func := "udometer/udometerlaw01.DateLater", spec := "dateLater", unfollowed := true, recurses := true, named := ["internal/strconv.uint64pow10", "math/bits.deBruijn32tab", "math/bits.deBruijn64tab"], apart := false, laid := [("math/bits.deBruijn32tab", laid_math_bits_deBruijn32tab), ("math/bits.deBruijn64tab", laid_math_bits_deBruijn64tab), ("internal/strconv.uint64pow10", laid_internal_strconv_uint64pow10)] }
def DateLaterSaid : Prop := dateLaterRow.holds Tryd.pinned (OpenSpec.ofChange dateLaterSpec)

/-- ITS FALSE NEIGHBOUR: 'it returns false'. Refute it at one input. -/
def dateLaterWrong : ChangeSpec := { name := "dateLater", fn := fun _ => fun
  | [d1, d2] => { results := [.lit (.bool false)], args := [d1, d2] }
  | _ => none }
def DateLaterWrongFalsely : Prop := dateLaterRow.holds Tryd.pinned (OpenSpec.ofChange dateLaterWrong)

/-- 'udometerlaw01.DateOneByOne': WHATEVER THE INPUT: true; the input reads as it did. -/
def dateOneByOneSpec : ChangeSpec := { name := "dateOneByOne", fn := fun _ => fun
  | [d1, d2] => { results := [.lit (.bool true)], args := [d1, d2] }
  | _ => none }
def dateOneByOneRow : OpenClaim := { program := "yteoembjghmgbhaadoor", sum := "80120b9513beb60a9dd86ad1e382262eb79be83ce18f265ec23a94204e04abb7", func := "udometer/udometerlaw01.DateOneByOne", spec := "dateOneByOne", unfollowed := true, recurses := true, named := ["internal/strconv.uint64pow10", "math/bits.deBruijn32tab", "math/bits.deBruijn64tab"], apart := false, laid := [("math/bits.deBruijn32tab", laid_math_bits_deBruijn32tab), ("math/bits.deBruijn64tab", laid_math_bits_deBruijn64tab), ("internal/strconv.uint64pow10", laid_internal_strconv_uint64pow10)] }
def DateOneByOneSaid : Prop := dateOneByOneRow.holds Tryd.pinned (OpenSpec.ofChange dateOneByOneSpec)

/-- ITS FALSE NEIGHBOUR: 'it returns false'. Refute it at one input. -/
def dateOneByOneWrong : ChangeSpec := { name := "dateOneByOne", fn := fun _ => fun
  | [d1, d2] => { results := [.lit (.bool false)], args := [d1, d2] }
  | _ => none }
def DateOneByOneWrongFalsely : Prop := dateOneByOneRow.holds Tryd.pinned (OpenSpec.ofChange dateOneByOneWrong)

/-- 'udometerlaw01.DateCards': WHATEVER THE INPUT: true; the input reads as it did. -/
def dateCardsSpec : ChangeSpec := { name := "dateCards", fn := fun _ => fun
  | [d1, d2, d3, d4] => { results := [.lit (.bool true)], args := [d1, d2, d3, d4] }
  | _ => none }
def dateCardsRow : OpenClaim := { program := "yteoembjghmgbhaadoor", sum := "80120b9513beb60a9dd86ad1e382262eb79be83ce18f265ec23a94204e04abb7", func := "udometer/udometerlaw01.DateCards", spec := "dateCards", unfollowed := true, recurses := true, named := ["internal/strconv.uint64pow10", "math/bits.deBruijn32tab", "math/bits.deBruijn64tab"], apart := false, laid := [("math/bits.deBruijn32tab", laid_math_bits_deBruijn32tab), ("math/bits.deBruijn64tab", laid_math_bits_deBruijn64tab), ("internal/strconv.uint64pow10", laid_internal_strconv_uint64pow10)] }
def DateCardsSaid : Prop := dateCardsRow.holds Tryd.pinned (OpenSpec.ofChange dateCardsSpec)

/-- ITS FALSE NEIGHBOUR: 'it returns false'. Refute it at one input. -/
def dateCardsWrong : ChangeSpec := { name := "dateCards", fn := fun _ => fun
  | [d1, d2, d3, d4] => { results := [.lit (.bool false)], args := [d1, d2, d3, d4] }
  | _ => none }
def DateCardsWrongFalsely : Prop := dateCardsRow.holds Tryd.pinned (OpenSpec.ofChange dateCardsWrong)

/-- 'udometerlaw01.DateLumps': WHATEVER THE INPUT: true; the input reads as it did. -/
def dateLumpsSpec : ChangeSpec := { name := "dateLumps", fn := fun _ => fun
  | [d1, d2, d3, d4] => { results := [.lit (.bool true)], args := [d1, d2, d3, d4] }
  | _ => none }
def dateLumpsRow : OpenClaim := { program := "yteoembjghmgbhaadoor", sum := "80120b9513beb60a9dd86ad1e382262eb79be83ce18f265ec23a94204e04abb7", func := "udometer/udometerlaw01.DateLumps", spec := "dateLumps", unfollowed := true, recurses := true, named := ["internal/strconv.uint64pow10", "math/bits.deBruijn32tab", "math/bits.deBruijn64tab"], apart := false, laid := [("math/bits.deBruijn32tab", laid_math_bits_deBruijn32tab), ("math/bits.deBruijn64tab", laid_math_bits_deBruijn64tab), ("internal/strconv.uint64pow10", laid_internal_strconv_uint64pow10)] }
def DateLumpsSaid : Prop := dateLumpsRow.holds Tryd.pinned (OpenSpec.ofChange dateLumpsSpec)

/-- ITS FALSE NEIGHBOUR: 'it returns false'. Refute it at one input. -/
def dateLumpsWrong : ChangeSpec := { name := "dateLumps", fn := fun _ => fun
  | [d1, d2, d3, d4] => { results := [.lit (.bool false)], args := [d1, d2, d3, d4] }
  | _ => none }
def DateLumpsWrongFalsely : Prop := dateLumpsRow.holds Tryd.pinned (OpenSpec.ofChange dateLumpsWrong)

/-- 'udometerlaw01.DateSums': WHATEVER THE INPUT: true; the input reads as it did. -/
def dateSumsSpec : ChangeSpec := { name := "dateSums", fn := fun _ => fun
  | [d1, d2, d3, d4] => { results := [.lit (.bool true)], args := [d1, d2, d3, d4] }
  | _ => none }
def dateSumsRow : OpenClaim := { program := "yteoembjghmgbhaadoor", sum := "80120b9513beb60a9dd86ad1e382262eb79be83ce18f265ec23a94204e04abb7", func := "udometer/udometerlaw01.DateSums", spec := "dateSums", unfollowed := true, recurses := true, named := ["internal/strconv.uint64pow10", "math/bits.deBruijn32tab", "math/bits.deBruijn64tab"], apart := false, laid := [("math/bits.deBruijn32tab", laid_math_bits_deBruijn32tab), ("math/bits.deBruijn64tab", laid_math_bits_deBruijn64tab), ("internal/strconv.uint64pow10", laid_internal_strconv_uint64pow10)] }
def DateSumsSaid : Prop := dateSumsRow.holds Tryd.pinned (OpenSpec.ofChange dateSumsSpec)

/-- ITS FALSE NEIGHBOUR: 'it returns false'. Refute it at one input. -/
def dateSumsWrong : ChangeSpec := { name := "dateSums", fn := fun _ => fun
  | [d1, d2, d3, d4] => { results := [.lit (.bool false)], args := [d1, d2, d3, d4] }
  | _ => none }
def DateSumsWrongFalsely : Prop := dateSumsRow.holds Tryd.pinned (OpenSpec.ofChange dateSumsWrong)

/-- 'udometerlaw01.DateCuts': WHATEVER THE INPUT: true; the input reads as it did. -/
def dateCutsSpec : ChangeSpec := { name := "dateCuts", fn := fun _ => fun
  | [d] => { results := [.lit (.bool true)], args := [d] }
  | _ => none }
def dateCutsRow : OpenClaim := { program := "yteoembjghmgbhaadoor", sum := "80120b9513beb60a9dd86ad1e382262eb79be83ce18f265ec23a94204e04abb7", func := "udometer/udometerlaw01.DateCuts", spec := "dateCuts", unfollowed := true, recurses := true, named := ["internal/strconv.uint64pow10", "math/bits.deBruijn32tab", "math/bits.deBruijn64tab"], apart := false, laid := [("math/bits.deBruijn32tab", laid_math_bits_deBruijn32tab), ("math/bits.deBruijn64tab", laid_math_bits_deBruijn64tab), ("internal/strconv.uint64pow10", laid_internal_strconv_uint64pow10)] }
def DateCutsSaid : Prop := dateCutsRow.holds Tryd.pinned (OpenSpec.ofChange dateCutsSpec)

/-- ITS FALSE NEIGHBOUR: 'it returns false'. Refute it at one input. -/
def dateCutsWrong : ChangeSpec := { name := "dateCuts", fn := fun _ => fun
  | [d] => { results := [.lit (.bool false)], args := [d] }
  | _ => none }
def DateCutsWrongFalsely : Prop := dateCutsRow.holds Tryd.pinned (OpenSpec.ofChange dateCutsWrong)

/-- 'udometerlaw01.DateMonths': WHATEVER THE INPUT: true; the input reads as it did. -/
def dateMonthsSpec : ChangeSpec := { name := "dateMonths", fn := fun _ => fun
  | [d1, d2, d3, d4] => { results := [.lit (.bool true)], args := [d1, d2, d3, d4] }
  | _ => none }
def dateMonthsRow : OpenClaim := { program := "yteoembjghmgbhaadoor", sum := "80120b9513beb60a9dd86ad1e382262eb79be83ce18f265ec23a94204e04abb7", func := "udometer/udometerlaw01.DateMonths", spec := "dateMonths", unfollowed := true, recurses := true, named := ["internal/strconv.uint64pow10", "math/bits.deBruijn32tab", "math/bits.deBruijn64tab"], apart := false, laid := [("math/bits.deBruijn32tab", laid_math_bits_deBruijn32tab), ("math/bits.deBruijn64tab", laid_math_bits_deBruijn64tab), ("internal/strconv.uint64pow10", laid_internal_strconv_uint64pow10)] }
def DateMonthsSaid : Prop := dateMonthsRow.holds Tryd.pinned (OpenSpec.ofChange dateMonthsSpec)

/-- ITS FALSE NEIGHBOUR: 'it returns false'. Refute it at one input. -/
def dateMonthsWrong : ChangeSpec := { name := "dateMonths", fn := fun _ => fun
  | [d1, d2, d3, d4] => { results := [.lit (.bool false)], args := [d1, d2, d3, d4] }
  | _ => none }
def DateMonthsWrongFalsely : Prop := dateMonthsRow.holds Tryd.pinned (OpenSpec.ofChange dateMonthsWrong)

/-- 'udometerlaw01.DateUnion': WHATEVER THE INPUT: true; the input reads as it did. -/
def dateUnionSpec : ChangeSpec := { name := "dateUnion", fn := fun _ => fun
  | [d1, d2] => { results := [.lit (.bool true)], args := [d1, d2] }
  | _ => none }
def dateUnionRow : OpenClaim := { program := "yteoembjghmgbhaadoor", sum := "80120b9513beb60a9dd86ad1e382262eb79be83ce18f265ec23a94204e04abb7", func := "udometer/udometerlaw01.DateUnion", spec := "dateUnion", unfollowed := true, recurses := true, named := ["internal/strconv.uint64pow10", "math/bits.deBruijn32tab", "math/bits.deBruijn64tab"], apart := false, laid := [("math/bits.deBruijn32tab", laid_math_bits_deBruijn32tab), ("math/bits.deBruijn64tab", laid_math_bits_deBruijn64tab), ("internal/strconv.uint64pow10", laid_internal_strconv_uint64pow10)] }
def DateUnionSaid : Prop := dateUnionRow.holds Tryd.pinned (OpenSpec.ofChange dateUnionSpec)

/-- ITS FALSE NEIGHBOUR: 'it returns false'. Refute it at one input. -/
def dateUnionWrong : ChangeSpec := { name := "dateUnion", fn := fun _ => fun
  | [d1, d2] => { results := [.lit (.bool false)], args := [d1, d2] }
  | _ => none }
def DateUnionWrongFalsely : Prop := dateUnionRow.holds Tryd.pinned (OpenSpec.ofChange dateUnionWrong)

/-- 'udometerlaw01.DateMinus': WHATEVER THE INPUT: true; the input reads as it did. -/
def dateMinusSpec : ChangeSpec := { name := "dateMinus", fn := fun _ => fun
  | [d1, d2] => { results := [.lit (.bool true)], args := [d1, d2] }
  | _ => none }
def dateMinusRow : OpenClaim := { program := "yteoembjghmgbhaadoor", sum := "80120b9513beb60a9dd86ad1e382262eb79be83ce18f265ec23a94204e04abb7", func := "udometer/udometerlaw01.DateMinus", spec := "dateMinus", unfollowed := true, recurses := true, named := ["internal/strconv.uint64pow10", "math/bits.deBruijn32tab", "math/bits.deBruijn64tab"], apart := false, laid := [("math/bits.deBruijn32tab", laid_math_bits_deBruijn32tab), ("math/bits.deBruijn64tab", laid_math_bits_deBruijn64tab), ("internal/strconv.uint64pow10", laid_internal_strconv_uint64pow10)] }
def DateMinusSaid : Prop := dateMinusRow.holds Tryd.pinned (OpenSpec.ofChange dateMinusSpec)

/-- ITS FALSE NEIGHBOUR: 'it returns false'. Refute it at one input. -/
def dateMinusWrong : ChangeSpec := { name := "dateMinus", fn := fun _ => fun
  | [d1, d2] => { results := [.lit (.bool false)], args := [d1, d2] }
  | _ => none }
def DateMinusWrongFalsely : Prop := dateMinusRow.holds Tryd.pinned (OpenSpec.ofChange dateMinusWrong)

/-- 'udometerlaw01.DateParts': WHATEVER THE INPUT: true; the input reads as it did. -/
def datePartsSpec : ChangeSpec := { name := "dateParts", fn := fun _ => fun
  | [d1, d2, d3, d4] => { results := [.lit (.bool true)], args := [d1, d2, d3, d4] }
  | _ => none }
def datePartsRow : OpenClaim := { program := "yteoembjghmgbhaadoor", sum := "80120b9513beb60a9dd86ad1e382262eb79be83ce18f265ec23a94204e04abb7", func := "udometer/udometerlaw01.DateParts", spec := "dateParts", unfollowed := true, recurses := true, named := ["internal/strconv.uint64pow10", "math/bits.deBruijn32tab", "math/bits.deBruijn64tab"], apart := false, laid := [("math/bits.deBruijn32tab", laid_math_bits_deBruijn32tab), ("math/bits.deBruijn64tab", laid_math_bits_deBruijn64tab), ("internal/strconv.uint64pow10", laid_internal_strconv_uint64pow10)] }
def DatePartsSaid : Prop := datePartsRow.holds Tryd.pinned (OpenSpec.ofChange datePartsSpec)

/-- ITS FALSE NEIGHBOUR: 'it returns false'. Refute it at one input. -/
def datePartsWrong : ChangeSpec := { name := "dateParts", fn := fun _ => fun
  | [d1, d2, d3, d4] => { results := [.lit (.bool false)], args := [d1, d2, d3, d4] }
  | _ => none }
def DatePartsWrongFalsely : Prop := datePartsRow.holds Tryd.pinned (OpenSpec.ofChange datePartsWrong)

/- THE SECOND FORM. 'bulk': how many values and letters a reading holds, each counted each time it is reached (what is shared counts as often as it is met; a slice's spare places count too). A statement '..UptoSaid' is the law's where the arguments, and the package variables that the reading takes, are together of bulk at most 1048576: NARROWER than '..Said'. Prove '..Said' where nothing that the law and all that it calls make is longer than what came in: it says more and counts as full. Else prove '..UptoSaid'. A law counts once. -/
mutual
def uptoBulk {H : Type} : DataW H → Nat
  | .lit (.string bytes) => bytes.length + 1
  | .lit _ => 1
  | .nil => 1
  | .ptr d => uptoBulk d + 1
  | .slice elems spare => uptoBulkAll elems + uptoBulkAll spare + 1
  | .agg parts => uptoBulkAll parts + 1
  | .iface _ d => uptoBulk d + 1
  | .map entries => uptoBulkEntries entries + 1
  | .held _ => 1
def uptoBulkAll {H : Type} : List (DataW H) → Nat
  | [] => 0
  | d :: r => uptoBulk d + uptoBulkAll r
def uptoBulkEntries {H : Type} : List (Lit × DataW H) → Nat
  | [] => 0
  | x :: r => uptoBulkEntry x + uptoBulkEntries r
def uptoBulkEntry {H : Type} : Lit × DataW H → Nat
  | (.string bytes, d) => bytes.length + uptoBulk d + 1
  | (_, d) => uptoBulk d + 1
 end
def uptoSmall : (H : Type) → List (DataW H) → Bool := fun _ ds => decide (uptoBulkAll ds ≤ 1048576)
def OpenSpec.upto (s : _root_.Go.ChangeSpec) : _root_.Go.OpenSpec := { _root_.Go.OpenSpec.ofChange s with cond := some uptoSmall }

/-- 'udometerlaw01.DateNumbers', WHERE WHAT IT READS IS OF BULK AT MOST 1048576: true; the input reads as it did. -/
def dateNumbersUptoRow : OpenClaim := { program := "yteoembjghmgbhaadoor", sum := "80120b9513beb60a9dd86ad1e382262eb79be83ce18f265ec23a94204e04abb7", func := "udometer/udometerlaw01.DateNumbers", spec := "dateNumbers", unfollowed := true, recurses := true, named := ["internal/strconv.uint64pow10", "math/bits.deBruijn32tab", "math/bits.deBruijn64tab"], apart := false, laid := [("math/bits.deBruijn32tab", laid_math_bits_deBruijn32tab), ("math/bits.deBruijn64tab", laid_math_bits_deBruijn64tab), ("internal/strconv.uint64pow10", laid_internal_strconv_uint64pow10)], narrowed := true }
def DateNumbersUptoSaid : Prop := dateNumbersUptoRow.holds Tryd.pinned (OpenSpec.upto dateNumbersSpec)

/-- 'udometerlaw01.DateWeeks', WHERE WHAT IT READS IS OF BULK AT MOST 1048576: true; the input reads as it did. -/
def dateWeeksUptoRow : OpenClaim := { program := "yteoembjghmgbhaadoor", sum := "80120b9513beb60a9dd86ad1e382262eb79be83ce18f265ec23a94204e04abb7", func := "udometer/udometerlaw01.DateWeeks", spec := "dateWeeks", unfollowed := true, recurses := true, named := ["internal/strconv.uint64pow10", "math/bits.deBruijn32tab", "math/bits.deBruijn64tab"], apart := false, laid := [("math/bits.deBruijn32tab", laid_math_bits_deBruijn32tab), ("math/bits.deBruijn64tab", laid_math_bits_deBruijn64tab), ("internal/strconv.uint64pow10", laid_internal_strconv_uint64pow10)], narrowed := true }
def DateWeeksUptoSaid : Prop := dateWeeksUptoRow.holds Tryd.pinned (OpenSpec.upto dateWeeksSpec)

/-- 'udometerlaw01.DateLater', WHERE WHAT IT READS IS OF BULK AT MOST 1048576: true; the input reads as it did. -/
def dateLaterUptoRow : OpenClaim := { program := "yteoembjghmgbhaadoor", sum := "80120b9513beb60a9dd86ad1e382262eb79be83ce18f265ec23a94204e04abb7", func := "udometer/udometerlaw01.DateLater", spec := "dateLater", unfollowed := true, recurses := true, named := ["internal/strconv.uint64pow10", "math/bits.deBruijn32tab", "math/bits.deBruijn64tab"], apart := false, laid := [("math/bits.deBruijn32tab", laid_math_bits_deBruijn32tab), ("math/bits.deBruijn64tab", laid_math_bits_deBruijn64tab), ("internal/strconv.uint64pow10", laid_internal_strconv_uint64pow10)], narrowed := true }
def DateLaterUptoSaid : Prop := dateLaterUptoRow.holds Tryd.pinned (OpenSpec.upto dateLaterSpec)

/-- 'udometerlaw01.DateOneByOne', WHERE WHAT IT READS IS OF BULK AT MOST 1048576: true; the input reads as it did. -/
def dateOneByOneUptoRow : OpenClaim := { program := "yteoembjghmgbhaadoor", sum := "80120b9513beb60a9dd86ad1e382262eb79be83ce18f265ec23a94204e04abb7", func := "udometer/udometerlaw01.DateOneByOne", spec := "dateOneByOne", unfollowed := true, recurses := true, named := ["internal/strconv.uint64pow10", "math/bits.deBruijn32tab", "math/bits.deBruijn64tab"], apart := false, laid := [("math/bits.deBruijn32tab", laid_math_bits_deBruijn32tab), ("math/bits.deBruijn64tab", laid_math_bits_deBruijn64tab), ("internal/strconv.uint64pow10", laid_internal_strconv_uint64pow10)], narrowed := true }
def DateOneByOneUptoSaid : Prop := dateOneByOneUptoRow.holds Tryd.pinned (OpenSpec.upto dateOneByOneSpec)

/-- 'udometerlaw01.DateCards', WHERE WHAT IT READS IS OF BULK AT MOST 1048576: true; the input reads as it did. -/
def dateCardsUptoRow : OpenClaim := { program := "yteoembjghmgbhaadoor", sum := "80120b9513beb60a9dd86ad1e382262eb79be83ce18f265ec23a94204e04abb7", func := "udometer/udometerlaw01.DateCards", spec := "dateCards", unfollowed := true, recurses := true, named := ["internal/strconv.uint64pow10", "math/bits.deBruijn32tab", "math/bits.deBruijn64tab"], apart := false, laid := [("math/bits.deBruijn32tab", laid_math_bits_deBruijn32tab), ("math/bits.deBruijn64tab", laid_math_bits_deBruijn64tab), ("internal/strconv.uint64pow10", laid_internal_strconv_uint64pow10)], narrowed := true }
def DateCardsUptoSaid : Prop := dateCardsUptoRow.holds Tryd.pinned (OpenSpec.upto dateCardsSpec)

/-- 'udometerlaw01.DateLumps', WHERE WHAT IT READS IS OF BULK AT MOST 1048576: true; the input reads as it did. -/
def dateLumpsUptoRow : OpenClaim := { program := "yteoembjghmgbhaadoor", sum := "80120b9513beb60a9dd86ad1e382262eb79be83ce18f265ec23a94204e04abb7", func := "udometer/udometerlaw01.DateLumps", spec := "dateLumps", unfollowed := true, recurses := true, named := ["internal/strconv.uint64pow10", "math/bits.deBruijn32tab", "math/bits.deBruijn64tab"], apart := false, laid := [("math/bits.deBruijn32tab", laid_math_bits_deBruijn32tab), ("math/bits.deBruijn64tab", laid_math_bits_deBruijn64tab), ("internal/strconv.uint64pow10", laid_internal_strconv_uint64pow10)], narrowed := true }
def DateLumpsUptoSaid : Prop := dateLumpsUptoRow.holds Tryd.pinned (OpenSpec.upto dateLumpsSpec)

/-- 'udometerlaw01.DateSums', WHERE WHAT IT READS IS OF BULK AT MOST 1048576: true; the input reads as it did. -/
def dateSumsUptoRow : OpenClaim := { program := "yteoembjghmgbhaadoor", sum := "80120b9513beb60a9dd86ad1e382262eb79be83ce18f265ec23a94204e04abb7", func := "udometer/udometerlaw01.DateSums", spec := "dateSums", unfollowed := true, recurses := true, named := ["internal/strconv.uint64pow10", "math/bits.deBruijn32tab", "math/bits.deBruijn64tab"], apart := false, laid := [("math/bits.deBruijn32tab", laid_math_bits_deBruijn32tab), ("math/bits.deBruijn64tab", laid_math_bits_deBruijn64tab), ("internal/strconv.uint64pow10", laid_internal_strconv_uint64pow10)], narrowed := true }
def DateSumsUptoSaid : Prop := dateSumsUptoRow.holds Tryd.pinned (OpenSpec.upto dateSumsSpec)

/-- 'udometerlaw01.DateCuts', WHERE WHAT IT READS IS OF BULK AT MOST 1048576: true; the input reads as it did. -/
def dateCutsUptoRow : OpenClaim := { program := "yteoembjghmgbhaadoor", sum := "80120b9513beb60a9dd86ad1e382262eb79be83ce18f265ec23a94204e04abb7", func := "udometer/udometerlaw01.DateCuts", spec := "dateCuts", unfollowed := true, recurses := true, named := ["internal/strconv.uint64pow10", "math/bits.deBruijn32tab", "math/bits.deBruijn64tab"], apart := false, laid := [("math/bits.deBruijn32tab", laid_math_bits_deBruijn32tab), ("math/bits.deBruijn64tab", laid_math_bits_deBruijn64tab), ("internal/strconv.uint64pow10", laid_internal_strconv_uint64pow10)], narrowed := true }
def DateCutsUptoSaid : Prop := dateCutsUptoRow.holds Tryd.pinned (OpenSpec.upto dateCutsSpec)

/-- 'udometerlaw01.DateMonths', WHERE WHAT IT READS IS OF BULK AT MOST 1048576: true; the input reads as it did. -/
def dateMonthsUptoRow : OpenClaim := { program := "yteoembjghmgbhaadoor", sum := "80120b9513beb60a9dd86ad1e382262eb79be83ce18f265ec23a94204e04abb7", func := "udometer/udometerlaw01.DateMonths", spec := "dateMonths", unfollowed := true, recurses := true, named := ["internal/strconv.uint64pow10", "math/bits.deBruijn32tab", "math/bits.deBruijn64tab"], apart := false, laid := [("math/bits.deBruijn32tab", laid_math_bits_deBruijn32tab), ("math/bits.deBruijn64tab", laid_math_bits_deBruijn64tab), ("internal/strconv.uint64pow10", laid_internal_strconv_uint64pow10)], narrowed := true }
def DateMonthsUptoSaid : Prop := dateMonthsUptoRow.holds Tryd.pinned (OpenSpec.upto dateMonthsSpec)

/-- 'udometerlaw01.DateUnion', WHERE WHAT IT READS IS OF BULK AT MOST 1048576: true; the input reads as it did. -/
def dateUnionUptoRow : OpenClaim := { program := "yteoembjghmgbhaadoor", sum := "80120b9513beb60a9dd86ad1e382262eb79be83ce18f265ec23a94204e04abb7", func := "udometer/udometerlaw01.DateUnion", spec := "dateUnion", unfollowed := true, recurses := true, named := ["internal/strconv.uint64pow10", "math/bits.deBruijn32tab", "math/bits.deBruijn64tab"], apart := false, laid := [("math/bits.deBruijn32tab", laid_math_bits_deBruijn32tab), ("math/bits.deBruijn64tab", laid_math_bits_deBruijn64tab), ("internal/strconv.uint64pow10", laid_internal_strconv_uint64pow10)], narrowed := true }
def DateUnionUptoSaid : Prop := dateUnionUptoRow.holds Tryd.pinned (OpenSpec.upto dateUnionSpec)

/-- 'udometerlaw01.DateMinus', WHERE WHAT IT READS IS OF BULK AT MOST 1048576: true; the input reads as it did. -/
def dateMinusUptoRow : OpenClaim := { program := "yteoembjghmgbhaadoor", sum := "80120b9513beb60a9dd86ad1e382262eb79be83ce18f265ec23a94204e04abb7", func := "udometer/udometerlaw01.DateMinus", spec := "dateMinus", unfollowed := true, recurses := true, named := ["internal/strconv.uint64pow10", "math/bits.deBruijn32tab", "math/bits.deBruijn64tab"], apart := false, laid := [("math/bits.deBruijn32tab", laid_math_bits_deBruijn32tab), ("math/bits.deBruijn64tab", laid_math_bits_deBruijn64tab), ("internal/strconv.uint64pow10", laid_internal_strconv_uint64pow10)], narrowed := true }
def DateMinusUptoSaid : Prop := dateMinusUptoRow.holds Tryd.pinned (OpenSpec.upto dateMinusSpec)

/-- 'udometerlaw01.DateParts', WHERE WHAT IT READS IS OF BULK AT MOST 1048576: true; the input reads as it did. -/
def datePartsUptoRow : OpenClaim := { program := "yteoembjghmgbhaadoor", sum := "80120b9513beb60a9dd86ad1e382262eb79be83ce18f265ec23a94204e04abb7", func := "udometer/udometerlaw01.DateParts", spec := "dateParts", unfollowed := true, recurses := true, named := ["internal/strconv.uint64pow10", "math/bits.deBruijn32tab", "math/bits.deBruijn64tab"], apart := false, laid := [("math/bits.deBruijn32tab", laid_math_bits_deBruijn32tab), ("math/bits.deBruijn64tab", laid_math_bits_deBruijn64tab), ("internal/strconv.uint64pow10", laid_internal_strconv_uint64pow10)], narrowed := true }
def DatePartsUptoSaid : Prop := datePartsUptoRow.holds Tryd.pinned (OpenSpec.upto datePartsSpec)

end Rows
end Go.Proofs.YteoembjghmgbhaaDoor
