/- What a law's proof needs of its frame: the listed variables, the arguments. -/
import Derived.Test.YteoembjghmgbhaaDoorRows
import Derived.Test.YteoembjghmgbhaaDoorCards
import Derived.Test.YteoembjghmgbhaaDoorTie
import Derived.Test.YteoembjghmgbhaaDoorC9
import Derived.ProofKit
import Derived.OpenShut
import Derived.ShutString
import Derived.ChangeOld
import Derived.Below
import Derived.LaidMore
import Derived.Stop.Joined
import Derived.Stop.LaidErr
import Derived.Deep.Slices
import Derived.Deep.Strs
import Derived.Lib.SmallJoins
import Derived.SevenTiedAt
namespace Go.Proofs.YteoembjghmgbhaaDoor
set_option linter.all false
open Go.ChangeShapes Go.WideShapes Go.ChangeAt Go.RowKit Go.Joins

theorem own : ownKnob Tryd.prog.godebug = none := by kernel_rfl
theorem laidOut : laidOutB Tryd.prog = true := by kernel_rfl
theorem door_met (os : Os) (args : Array Value) : laidMetH Tryd.prog Rows.dateWeeksRow.laid ((World.doorLaid Tryd.prog 24 os).forCall (fun _ _ => 0) ⟨#[], args, []⟩).memory :=
  laidMetH_of_parts3 (fuel := 8) (laidMet_of_run' 8 (by kernel_rfl) (by kernel_rfl)) (by kernel_rfl) (by kernel_rfl)
theorem gPow : Tryd.prog.globalNamed "internal/strconv.uint64pow10" = some 0 := by kernel_rfl
theorem tab_of_laid {W : World} (h : laidMetH Tryd.prog Rows.dateWeeksRow.laid W) : Tab W := by
  rw [MakeChecks.laidMetH_plain _ _ _ (by kernel_rfl)] at h
  have h2 : laidMet Tryd.prog [("internal/strconv.uint64pow10", Lib.tabData .u64 Lib.pow10Tab)] W := h.tail.tail
  exact Lib.tabBelow_of_tabIs (Lib.tabIs_of_head gPow (t := 125) (by kernel_rfl) Tryd.underlying125 Tryd.underlying112 (by kernel_rfl) (by kernel_rfl) h2)
end Go.Proofs.YteoembjghmgbhaaDoor
