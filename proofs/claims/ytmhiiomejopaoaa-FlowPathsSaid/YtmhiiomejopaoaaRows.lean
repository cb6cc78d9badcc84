/-
  No cell of these rows narrows 'for every input' (looked for: loops, veiled, ifaces, maps, wideKeys, modest, calm, conditions, laid).
  DERIVED. THE GIVEN ROWS OF THIS SEAT. 13 by the template 'for every input the law returns true; each argument reads behind the call as it read before'; 0 by the template 'total and deterministic' (their statements: YtmhiiomejopaoaaTotals.lean).
  GIVEN WITH THE SEED: the statements are not yours to turn. If you find one false, say at which input.
  Laid BY PROGRAM, IN A SANDBOX (cutbox-rows.mjs): the forced cells as the released guide's own fill.sh prints them over the translation 85faf3f90a9ab826… (all of the seat's roots in one cut). By AI agents, Wed Nov 11 2026. No macro, syntax, notation, axiom, sorry.
-/
import Derived.Test.YtmhiiomejopaoaaChecked
import GoSem.Claim
import GoSem.ClaimJoined
import GoSem.ClaimMapViews
import Derived.JoinedTies
import Derived.KernelRfl
namespace Go.Proofs.Ytmhiiomejopaoaa
/- THE CELL 'sum', in the pinned program and in every row, IS THE sha256 OF THE DUMP (.gsa) THAT YtmhiiomejopaoaaProg.lean LOADS. Nothing in Lean hashes anything: it is a label: what it is worth is what the hold of that sum in a sandbox is worth. -/
noncomputable def Try.pinned : Pinned := { name := "ytmhiiomejopaoaa", sum := "85faf3f90a9ab826133b1fc7617b559b54b4b4b2550b20151a742f4d4f94cc93", checked := Try.checked }
namespace Rows
def none {H : Type} : Left H := { results := [], args := [] }

/-- 'udometerlaw03.FlowMatters': WHATEVER THE INPUT: true; the input reads as it did. -/
def flowMattersSpec : ChangeSpec := { name := "flowMatters", fn := fun _ => fun
  | [d1, d2] => { results := [.lit (.bool true)], args := [d1, d2] }
  | _ => none }
def flowMattersRow : OpenClaim := { program := "ytmhiiomejopaoaa", sum := "85faf3f90a9ab826133b1fc7617b559b54b4b4b2550b20151a742f4d4f94cc93", func := "udometer/udometerlaw03.FlowMatters", spec := "flowMatters", unfollowed := true, recurses := true, apart := false }
def FlowMattersSaid : Prop := flowMattersRow.holds Try.pinned (OpenSpec.ofChange flowMattersSpec)

/-- ITS FALSE NEIGHBOUR: 'it returns false'. Refute it at one input. -/
def flowMattersWrong : ChangeSpec := { name := "flowMatters", fn := fun _ => fun
  | [d1, d2] => { results := [.lit (.bool false)], args := [d1, d2] }
  | _ => none }
def FlowMattersWrongFalsely : Prop := flowMattersRow.holds Try.pinned (OpenSpec.ofChange flowMattersWrong)

/-- 'udometerlaw03.FlowWeights': WHATEVER THE INPUT: true; the input reads as it did. -/
def flowWeightsSpec : ChangeSpec := { name := "flowWeights", fn := fun _ => fun
  | [d1, d2, d3, d4, d5] => { results := [.lit (.bool true)], args := [d1, d2, d3, d4, d5] }
  | _ => none }
def flowWeightsRow : OpenClaim := { program := "ytmhiiomejopaoaa", sum := "85faf3f90a9ab826133b1fc7617b559b54b4b4b2550b20151a742f4d4f94cc93", func := "udometer/udometerlaw03.FlowWeights", spec := "flowWeights", unfollowed := true, recurses := true, apart := false }
def FlowWeightsSaid : Prop := flowWeightsRow.holds Try.pinned (OpenSpec.ofChange flowWeightsSpec)

/-- ITS FALSE NEIGHBOUR: 'it returns false'. Refute it at one input. -/
def flowWeightsWrong : ChangeSpec := { name := "flowWeights", fn := fun _ => fun
  | [d1, d2, d3, d4, d5] => { results := [.lit (.bool false)], args := [d1, d2, d3, d4, d5] }
  | _ => none }
def FlowWeightsWrongFalsely : Prop := flowWeightsRow.holds Try.pinned (OpenSpec.ofChange flowWeightsWrong)

/-- 'udometerlaw03.FlowBounds': WHATEVER THE INPUT: true; the input reads as it did. -/
def flowBoundsSpec : ChangeSpec := { name := "flowBounds", fn := fun _ => fun
  | [d1, d2, d3] => { results := [.lit (.bool true)], args := [d1, d2, d3] }
  | _ => none }
def flowBoundsRow : OpenClaim := { program := "ytmhiiomejopaoaa", sum := "85faf3f90a9ab826133b1fc7617b559b54b4b4b2550b20151a742f4d4f94cc93", func := "udometer/udometerlaw03.FlowBounds", spec := "flowBounds", unfollowed := true, recurses := true, apart := false }
def FlowBoundsSaid : Prop := flowBoundsRow.holds Try.pinned (OpenSpec.ofChange flowBoundsSpec)

/-- ITS FALSE NEIGHBOUR: 'it returns false'. Refute it at one input. -/
def flowBoundsWrong : ChangeSpec := { name := "flowBounds", fn := fun _ => fun
  | [d1, d2, d3] => { results := [.lit (.bool false)], args := [d1, d2, d3] }
  | _ => none }
def FlowBoundsWrongFalsely : Prop := flowBoundsRow.holds Try.pinned (OpenSpec.ofChange flowBoundsWrong)

/-- 'udometerlaw03.FlowLattice': WHATEVER THE INPUT: true; the input reads as it did. -/
def flowLatticeSpec : ChangeSpec := { name := "flowLattice", fn := fun _ => fun
  | [d1, d2, d3, d4] => { results := [.lit (.bool true)], args := [d1, d2, d3, d4] }
  | _ => none }
def flowLatticeRow : OpenClaim := { program := "ytmhiiomejopaoaa", sum := "85faf3f90a9ab826133b1fc7617b559b54b4b4b2550b20151a742f4d4f94cc93", func := "udometer/udometerlaw03.FlowLattice", spec := "flowLattice", unfollowed := true, recurses := true, apart := false }
def FlowLatticeSaid : Prop := flowLatticeRow.holds Try.pinned (OpenSpec.ofChange flowLatticeSpec)

/-- ITS FALSE NEIGHBOUR: 'it returns false'. Refute it at one input. -/
def flowLatticeWrong : ChangeSpec := { name := "flowLattice", fn := fun _ => fun
  | [d1, d2, d3, d4] => { results := [.lit (.bool false)], args := [d1, d2, d3, d4] }
  | _ => none }
def FlowLatticeWrongFalsely : Prop := flowLatticeRow.holds Try.pinned (OpenSpec.ofChange flowLatticeWrong)

/-- 'udometerlaw03.FlowSums': WHATEVER THE INPUT: true; the input reads as it did. -/
def flowSumsSpec : ChangeSpec := { name := "flowSums", fn := fun _ => fun
  | [d1, d2, d3] => { results := [.lit (.bool true)], args := [d1, d2, d3] }
  | _ => none }
def flowSumsRow : OpenClaim := { program := "ytmhiiomejopaoaa", sum := "85faf3f90a9ab826133b1fc7617b559b54b4b4b2550b20151a742f4d4f94cc93", func := "udometer/udometerlaw03.FlowSums", spec := "flowSums", unfollowed := true, recurses := true, apart := false }
def FlowSumsSaid : Prop := flowSumsRow.holds Try.pinned (OpenSpec.ofChange flowSumsSpec)

/-- ITS FALSE NEIGHBOUR: 'it returns false'. Refute it at one input. -/
def flowSumsWrong : ChangeSpec := { name := "flowSums", fn := fun _ => fun
  | [d1, d2, d3] => { results := [.lit (.bool false)], args := [d1, d2, d3] }
  | _ => none }
def FlowSumsWrongFalsely : Prop := flowSumsRow.holds Try.pinned (OpenSpec.ofChange flowSumsWrong)

/-- 'udometerlaw03.FlowReaches': WHATEVER THE INPUT: true; the input reads as it did. -/
def flowReachesSpec : ChangeSpec := { name := "flowReaches", fn := fun _ => fun
  | [d1, d2, d3, d4] => { results := [.lit (.bool true)], args := [d1, d2, d3, d4] }
  | _ => none }
def flowReachesRow : OpenClaim := { program := "ytmhiiomejopaoaa", sum := "85faf3f90a9ab826133b1fc7617b559b54b4b4b2550b20151a742f4d4f94cc93", func := "udometer/udometerlaw03.FlowReaches", spec := "flowReaches", unfollowed := true, recurses := true, apart := false }
def FlowReachesSaid : Prop := flowReachesRow.holds Try.pinned (OpenSpec.ofChange flowReachesSpec)

/-- ITS FALSE NEIGHBOUR: 'it returns false'. Refute it at one input. -/
def flowReachesWrong : ChangeSpec := { name := "flowReaches", fn := fun _ => fun
  | [d1, d2, d3, d4] => { results := [.lit (.bool false)], args := [d1, d2, d3, d4] }
  | _ => none }
def FlowReachesWrongFalsely : Prop := flowReachesRow.holds Try.pinned (OpenSpec.ofChange flowReachesWrong)

/-- 'udometerlaw03.FlowNets': WHATEVER THE INPUT: true; the input reads as it did. -/
def flowNetsSpec : ChangeSpec := { name := "flowNets", fn := fun _ => fun
  | [d1, d2, d3, d4] => { results := [.lit (.bool true)], args := [d1, d2, d3, d4] }
  | _ => none }
def flowNetsRow : OpenClaim := { program := "ytmhiiomejopaoaa", sum := "85faf3f90a9ab826133b1fc7617b559b54b4b4b2550b20151a742f4d4f94cc93", func := "udometer/udometerlaw03.FlowNets", spec := "flowNets", unfollowed := true, recurses := true, apart := false }
def FlowNetsSaid : Prop := flowNetsRow.holds Try.pinned (OpenSpec.ofChange flowNetsSpec)

/-- ITS FALSE NEIGHBOUR: 'it returns false'. Refute it at one input. -/
def flowNetsWrong : ChangeSpec := { name := "flowNets", fn := fun _ => fun
  | [d1, d2, d3, d4] => { results := [.lit (.bool false)], args := [d1, d2, d3, d4] }
  | _ => none }
def FlowNetsWrongFalsely : Prop := flowNetsRow.holds Try.pinned (OpenSpec.ofChange flowNetsWrong)

/-- 'udometerlaw03.FlowSlack': WHATEVER THE INPUT: true; the input reads as it did. -/
def flowSlackSpec : ChangeSpec := { name := "flowSlack", fn := fun _ => fun
  | [d1, d2, d3] => { results := [.lit (.bool true)], args := [d1, d2, d3] }
  | _ => none }
def flowSlackRow : OpenClaim := { program := "ytmhiiomejopaoaa", sum := "85faf3f90a9ab826133b1fc7617b559b54b4b4b2550b20151a742f4d4f94cc93", func := "udometer/udometerlaw03.FlowSlack", spec := "flowSlack", unfollowed := true, recurses := true, apart := false }
def FlowSlackSaid : Prop := flowSlackRow.holds Try.pinned (OpenSpec.ofChange flowSlackSpec)

/-- ITS FALSE NEIGHBOUR: 'it returns false'. Refute it at one input. -/
def flowSlackWrong : ChangeSpec := { name := "flowSlack", fn := fun _ => fun
  | [d1, d2, d3] => { results := [.lit (.bool false)], args := [d1, d2, d3] }
  | _ => none }
def FlowSlackWrongFalsely : Prop := flowSlackRow.holds Try.pinned (OpenSpec.ofChange flowSlackWrong)

/-- 'udometerlaw03.FlowDuality': WHATEVER THE INPUT: true; the input reads as it did. -/
def flowDualitySpec : ChangeSpec := { name := "flowDuality", fn := fun _ => fun
  | [d1, d2, d3, d4] => { results := [.lit (.bool true)], args := [d1, d2, d3, d4] }
  | _ => none }
def flowDualityRow : OpenClaim := { program := "ytmhiiomejopaoaa", sum := "85faf3f90a9ab826133b1fc7617b559b54b4b4b2550b20151a742f4d4f94cc93", func := "udometer/udometerlaw03.FlowDuality", spec := "flowDuality", unfollowed := true, recurses := true, apart := false }
def FlowDualitySaid : Prop := flowDualityRow.holds Try.pinned (OpenSpec.ofChange flowDualitySpec)

/-- ITS FALSE NEIGHBOUR: 'it returns false'. Refute it at one input. -/
def flowDualityWrong : ChangeSpec := { name := "flowDuality", fn := fun _ => fun
  | [d1, d2, d3, d4] => { results := [.lit (.bool false)], args := [d1, d2, d3, d4] }
  | _ => none }
def FlowDualityWrongFalsely : Prop := flowDualityRow.holds Try.pinned (OpenSpec.ofChange flowDualityWrong)

/-- 'udometerlaw03.FlowOrClash': WHATEVER THE INPUT: true; the input reads as it did. -/
def flowOrClashSpec : ChangeSpec := { name := "flowOrClash", fn := fun _ => fun
  | [d1, d2, d3] => { results := [.lit (.bool true)], args := [d1, d2, d3] }
  | _ => none }
def flowOrClashRow : OpenClaim := { program := "ytmhiiomejopaoaa", sum := "85faf3f90a9ab826133b1fc7617b559b54b4b4b2550b20151a742f4d4f94cc93", func := "udometer/udometerlaw03.FlowOrClash", spec := "flowOrClash", unfollowed := true, recurses := true, apart := false }
def FlowOrClashSaid : Prop := flowOrClashRow.holds Try.pinned (OpenSpec.ofChange flowOrClashSpec)

/-- ITS FALSE NEIGHBOUR: 'it returns false'. Refute it at one input. -/
def flowOrClashWrong : ChangeSpec := { name := "flowOrClash", fn := fun _ => fun
  | [d1, d2, d3] => { results := [.lit (.bool false)], args := [d1, d2, d3] }
  | _ => none }
def FlowOrClashWrongFalsely : Prop := flowOrClashRow.holds Try.pinned (OpenSpec.ofChange flowOrClashWrong)

/-- 'udometerlaw03.FlowSingle': WHATEVER THE INPUT: true; the input reads as it did. -/
def flowSingleSpec : ChangeSpec := { name := "flowSingle", fn := fun _ => fun
  | [d1, d2, d3] => { results := [.lit (.bool true)], args := [d1, d2, d3] }
  | _ => none }
def flowSingleRow : OpenClaim := { program := "ytmhiiomejopaoaa", sum := "85faf3f90a9ab826133b1fc7617b559b54b4b4b2550b20151a742f4d4f94cc93", func := "udometer/udometerlaw03.FlowSingle", spec := "flowSingle", unfollowed := true, recurses := true, apart := false }
def FlowSingleSaid : Prop := flowSingleRow.holds Try.pinned (OpenSpec.ofChange flowSingleSpec)

/-- ITS FALSE NEIGHBOUR: 'it returns false'. Refute it at one input. -/
def flowSingleWrong : ChangeSpec := { name := "flowSingle", fn := fun _ => fun
  | [d1, d2, d3] => { results := [.lit (.bool false)], args := [d1, d2, d3] }
  | _ => none }
def FlowSingleWrongFalsely : Prop := flowSingleRow.holds Try.pinned (OpenSpec.ofChange flowSingleWrong)

/-- 'udometerlaw03.FlowPaths': WHATEVER THE INPUT: true; the input reads as it did. -/
def flowPathsSpec : ChangeSpec := { name := "flowPaths", fn := fun _ => fun
  | [d1, d2, d3, d4] => { results := [.lit (.bool true)], args := [d1, d2, d3, d4] }
  | _ => none }
def flowPathsRow : OpenClaim := { program := "ytmhiiomejopaoaa", sum := "85faf3f90a9ab826133b1fc7617b559b54b4b4b2550b20151a742f4d4f94cc93", func := "udometer/udometerlaw03.FlowPaths", spec := "flowPaths", unfollowed := true, recurses := true, apart := false }
def FlowPathsSaid : Prop := flowPathsRow.holds Try.pinned (OpenSpec.ofChange flowPathsSpec)

/-- ITS FALSE NEIGHBOUR: 'it returns false'. Refute it at one input. -/
def flowPathsWrong : ChangeSpec := { name := "flowPaths", fn := fun _ => fun
  | [d1, d2, d3, d4] => { results := [.lit (.bool false)], args := [d1, d2, d3, d4] }
  | _ => none }
def FlowPathsWrongFalsely : Prop := flowPathsRow.holds Try.pinned (OpenSpec.ofChange flowPathsWrong)

/-- 'udometerlaw03.FlowCut': WHATEVER THE INPUT: true; the input reads as it did. -/
def flowCutSpec : ChangeSpec := { name := "flowCut", fn := fun _ => fun
  | [d1, d2, d3] => { results := [.lit (.bool true)], args := [d1, d2, d3] }
  | _ => none }
def flowCutRow : OpenClaim := { program := "ytmhiiomejopaoaa", sum := "85faf3f90a9ab826133b1fc7617b559b54b4b4b2550b20151a742f4d4f94cc93", func := "udometer/udometerlaw03.FlowCut", spec := "flowCut", unfollowed := true, recurses := true, apart := false }
def FlowCutSaid : Prop := flowCutRow.holds Try.pinned (OpenSpec.ofChange flowCutSpec)

/-- ITS FALSE NEIGHBOUR: 'it returns false'. Refute it at one input. -/
def flowCutWrong : ChangeSpec := { name := "flowCut", fn := fun _ => fun
  | [d1, d2, d3] => { results := [.lit (.bool false)], args := [d1, d2, d3] }
  | _ => none }
def FlowCutWrongFalsely : Prop := flowCutRow.holds Try.pinned (OpenSpec.ofChange flowCutWrong)

/- THE SECOND FORM. 'bulk': how many values and letters a reading holds, each counted each time it is reached (what is shared counts as often as it is met; a slice's spare places count too). A statement '..UptoSaid' is the law's where the arguments, and the package variables that the reading takes, are together of bulk at most 1048576: NARROWER than '..Said'. Prove '..Said' where nothing that the law and all that it calls make is longer than what came in: it says more and counts as full. Else prove '..UptoSaid'. A law counts once. -/
mutual
def uptoBulk {H : Type} : DataW H → Nat
  | .lit (.string bytes) => bytes.length + 1
  | .lit _ => 1
  | .nil => 1
  | .ptr d => uptoBulk d + 1
  | .slice elems spare => uptoBulkAll elems + uptoBulkAll spare + 1
  | .agg parts => uptoBulkAll parts + 1
  | .iface _ d => uptoBulk d + 1
  | .map entries => uptoBulkEntries entries + 1
  | .held _ => 1
def uptoBulkAll {H : Type} : List (DataW H) → Nat
  | [] => 0
  | d :: r => uptoBulk d + uptoBulkAll r
def uptoBulkEntries {H : Type} : List (Lit × DataW H) → Nat
  | [] => 0
  | x :: r => uptoBulkEntry x + uptoBulkEntries r
def uptoBulkEntry {H : Type} : Lit × DataW H → Nat
  | (.string bytes, d) => bytes.length + uptoBulk d + 1
  | (_, d) => uptoBulk d + 1
 end
def uptoSmall : (H : Type) → List (DataW H) → Bool := fun _ ds => decide (uptoBulkAll ds ≤ 1048576)
def OpenSpec.upto (s : _root_.Go.ChangeSpec) : _root_.Go.OpenSpec := { _root_.Go.OpenSpec.ofChange s with cond := some uptoSmall }

/-- 'udometerlaw03.FlowMatters', WHERE WHAT IT READS IS OF BULK AT MOST 1048576: true; the input reads as it did. -/
def flowMattersUptoRow : OpenClaim := { program := "ytmhiiomejopaoaa", sum := "85faf3f90a9ab826133b1fc7617b559b54b4b4b2550b20151a742f4d4f94cc93", func := "udometer/udometerlaw03.FlowMatters", spec := "flowMatters", unfollowed := true, recurses := true, apart := false, narrowed := true }
def FlowMattersUptoSaid : Prop := flowMattersUptoRow.holds Try.pinned (OpenSpec.upto flowMattersSpec)

/-- 'udometerlaw03.FlowWeights', WHERE WHAT IT READS IS OF BULK AT MOST 1048576: true; the input reads as it did. -/
def flowWeightsUptoRow : OpenClaim := { program := "ytmhiiomejopaoaa", sum := "85faf3f90a9ab826133b1fc7617b559b54b4b4b2550b20151a742f4d4f94cc93", func := "udometer/udometerlaw03.FlowWeights", spec := "flowWeights", unfollowed := true, recurses := true, apart := false, narrowed := true }
def FlowWeightsUptoSaid : Prop := flowWeightsUptoRow.holds Try.pinned (OpenSpec.upto flowWeightsSpec)

/-- 'udometerlaw03.FlowBounds', WHERE WHAT IT READS IS OF BULK AT MOST 1048576: true; the input reads as it did. -/
def flowBoundsUptoRow : OpenClaim := { program := "ytmhiiomejopaoaa", sum := "85faf3f90a9ab826133b1fc7617b559b54b4b4b2550b20151a742f4d4f94cc93", func := "udometer/udometerlaw03.FlowBounds", spec := "flowBounds", unfollowed := true, recurses := true, apart := false, narrowed := true }
def FlowBoundsUptoSaid : Prop := flowBoundsUptoRow.holds Try.pinned (OpenSpec.upto flowBoundsSpec)

/-- 'udometerlaw03.FlowLattice', WHERE WHAT IT READS IS OF BULK AT MOST 1048576: true; the input reads as it did. -/
def flowLatticeUptoRow : OpenClaim := { program := "ytmhiiomejopaoaa", sum := "85faf3f90a9ab826133b1fc7617b559b54b4b4b2550b20151a742f4d4f94cc93", func := "udometer/udometerlaw03.FlowLattice", spec := "flowLattice", unfollowed := true, recurses := true, apart := false, narrowed := true }
def FlowLatticeUptoSaid : Prop := flowLatticeUptoRow.holds Try.pinned (OpenSpec.upto flowLatticeSpec)

/-- 'udometerlaw03.FlowSums', WHERE WHAT IT READS IS OF BULK AT MOST 1048576: true; the input reads as it did. -/
def flowSumsUptoRow : OpenClaim := { program := "ytmhiiomejopaoaa", sum := "85faf3f90a9ab826133b1fc7617b559b54b4b4b2550b20151a742f4d4f94cc93", func := "udometer/udometerlaw03.FlowSums", spec := "flowSums", unfollowed := true, recurses := true, apart := false, narrowed := true }
def FlowSumsUptoSaid : Prop := flowSumsUptoRow.holds Try.pinned (OpenSpec.upto flowSumsSpec)

/-- 'udometerlaw03.FlowReaches', WHERE WHAT IT READS IS OF BULK AT MOST 1048576: true; the input reads as it did. -/
def flowReachesUptoRow : OpenClaim := { program := "ytmhiiomejopaoaa", sum := "85faf3f90a9ab826133b1fc7617b559b54b4b4b2550b20151a742f4d4f94cc93", func := "udometer/udometerlaw03.FlowReaches", spec := "flowReaches", unfollowed := true, recurses := true, apart := false, narrowed := true }
def FlowReachesUptoSaid : Prop := flowReachesUptoRow.holds Try.pinned (OpenSpec.upto flowReachesSpec)

/-- 'udometerlaw03.FlowNets', WHERE WHAT IT READS IS OF BULK AT MOST 1048576: true; the input reads as it did. -/
def flowNetsUptoRow : OpenClaim := { program := "ytmhiiomejopaoaa", sum := "85faf3f90a9ab826133b1fc7617b559b54b4b4b2550b20151a742f4d4f94cc93", func := "udometer/udometerlaw03.FlowNets", spec := "flowNets", unfollowed := true, recurses := true, apart := false, narrowed := true }
def FlowNetsUptoSaid : Prop := flowNetsUptoRow.holds Try.pinned (OpenSpec.upto flowNetsSpec)

/-- 'udometerlaw03.FlowSlack', WHERE WHAT IT READS IS OF BULK AT MOST 1048576: true; the input reads as it did. -/
def flowSlackUptoRow : OpenClaim := { program := "ytmhiiomejopaoaa", sum := "85faf3f90a9ab826133b1fc7617b559b54b4b4b2550b20151a742f4d4f94cc93", func := "udometer/udometerlaw03.FlowSlack", spec := "flowSlack", unfollowed := true, recurses := true, apart := false, narrowed := true }
def FlowSlackUptoSaid : Prop := flowSlackUptoRow.holds Try.pinned (OpenSpec.upto flowSlackSpec)

/-- 'udometerlaw03.FlowDuality', WHERE WHAT IT READS IS OF BULK AT MOST 1048576: true; the input reads as it did. -/
def flowDualityUptoRow : OpenClaim := { program := "ytmhiiomejopaoaa", sum := "85faf3f90a9ab826133b1fc7617b559b54b4b4b2550b20151a742f4d4f94cc93", func := "udometer/udometerlaw03.FlowDuality", spec := "flowDuality", unfollowed := true, recurses := true, apart := false, narrowed := true }
def FlowDualityUptoSaid : Prop := flowDualityUptoRow.holds Try.pinned (OpenSpec.upto flowDualitySpec)

/-- 'udometerlaw03.FlowOrClash', WHERE WHAT IT READS IS OF BULK AT MOST 1048576: true; the input reads as it did. -/
def flowOrClashUptoRow : OpenClaim := { program := "ytmhiiomejopaoaa", sum := "85faf3f90a9ab826133b1fc7617b559b54b4b4b2550b20151a742f4d4f94cc93", func := "udometer/udometerlaw03.FlowOrClash", spec := "flowOrClash", unfollowed := true, recurses := true, apart := false, narrowed := true }
def FlowOrClashUptoSaid : Prop := flowOrClashUptoRow.holds Try.pinned (OpenSpec.upto flowOrClashSpec)

/-- 'udometerlaw03.FlowSingle', WHERE WHAT IT READS IS OF BULK AT MOST 1048576: true; the input reads as it did. -/
def flowSingleUptoRow : OpenClaim := { program := "ytmhiiomejopaoaa", sum := "85faf3f90a9ab826133b1fc7617b559b54b4b4b2550b20151a742f4d4f94cc93", func := "udometer/udometerlaw03.FlowSingle", spec := "flowSingle", unfollowed := true, recurses := true, apart := false, narrowed := true }
def FlowSingleUptoSaid : Prop := flowSingleUptoRow.holds Try.pinned (OpenSpec.upto flowSingleSpec)

/-- 'udometerlaw03.FlowPaths', WHERE WHAT IT READS IS OF BULK AT MOST 1048576: true; the input reads as it did. -/
def flowPathsUptoRow : OpenClaim := { program := "ytmhiiomejopaoaa", sum := "85faf3f90a9ab826133b1fc7617b559b54b4b4b2550b20151a742f4d4f94cc93", func := "udometer/udometerlaw03.FlowPaths", spec := "flowPaths", unfollowed := true, recurses := true, apart := false, narrowed := true }
def FlowPathsUptoSaid : Prop := flowPathsUptoRow.holds Try.pinned (OpenSpec.upto flowPathsSpec)

/-- 'udometerlaw03.FlowCut', WHERE WHAT IT READS IS OF BULK AT MOST 1048576: true; the input reads as it did. -/
def flowCutUptoRow : OpenClaim := { program := "ytmhiiomejopaoaa", sum := "85faf3f90a9ab826133b1fc7617b559b54b4b4b2550b20151a742f4d4f94cc93", func := "udometer/udometerlaw03.FlowCut", spec := "flowCut", unfollowed := true, recurses := true, apart := false, narrowed := true }
def FlowCutUptoSaid : Prop := flowCutUptoRow.holds Try.pinned (OpenSpec.upto flowCutSpec)

end Rows
end Go.Proofs.Ytmhiiomejopaoaa
