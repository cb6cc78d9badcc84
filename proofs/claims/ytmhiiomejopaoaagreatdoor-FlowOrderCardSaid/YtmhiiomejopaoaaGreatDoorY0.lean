/- What a law's proof needs of its frame: the listed variables, the arguments, the world's shape. -/
import Derived.Test.YtmhiiomejopaoaaGreatDoorRows
import Derived.Test.YtmhiiomejopaoaaGreatDoorCards
import Derived.Test.YtmhiiomejopaoaaGreatDoorTie
import Derived.Test.YtmhiiomejopaoaaGreatDoorP1
import Derived.Test.YtmhiiomejopaoaaGreatDoorWA
import Derived.ProofKit
import Derived.OpenShut
import Derived.ShutString
import Derived.ChangeOld
import Derived.ChangeMaps5
import Derived.Below
import Derived.LaidMore
import Derived.Stop.Joined
import Derived.Stop.LaidErr
import Derived.Deep.Slices
import Derived.Deep.Strs
import Derived.Lib.SmallJoins
import Derived.SevenTiedAt
import Derived.Lay
import Derived.Handed
import Derived.Shelf.Vars
namespace Go.Proofs.YtmhiiomejopaoaaGreatDoor
set_option linter.all false
open Go.ChangeShapes Go.WideShapes Go.ChangeAt Go.RowKit Go.Joins

set_option maxRecDepth 100000 in
theorem lay_met (os : Os) (args : Array Value) : laidMetH Tryz.prog Rows.flowTextsRow.laid ((World.laidAll Tryz.prog os Rows.flowTextsRow.laid).forCall (fun _ _ => 0) ⟨#[], args, []⟩).memory := by
  rw [MakeChecks.laidMetH_plain _ _ _ (by kernel_rfl)]
  exact laidMet_laidAll _ (by kernel_rfl) (by kernel_rfl)
set_option maxRecDepth 100000 in
theorem lay_shape (os : Os) (args : Array Value) : ((World.laidAll Tryz.prog os Rows.flowTextsRow.laid).forCall (fun _ _ => 0) ⟨#[], args, []⟩).Shaped Tryz.prog :=
  World.shaped_of_ZipB (by kernel_rfl) (by kernel_rfl)
theorem gPow : Tryz.prog.globalNamed "internal/strconv.uint64pow10" = some 3 := by kernel_rfl
theorem tab_of_laid {W : World} (h : laidMetH Tryz.prog Rows.flowTextsRow.laid W) : Tab W := by
  rw [MakeChecks.laidMetH_plain _ _ _ (by kernel_rfl)] at h
  have h2 : laidMet Tryz.prog (("internal/strconv.uint64pow10", Lib.tabData .u64 Lib.pow10Tab) :: Rows.flowTextsRow.laid.drop 3) W := h.tail.tail
  exact Lib.tabBelow_of_tabIs (Lib.tabIs_of_head gPow (t := 153) (by kernel_rfl) Tryz.underlying153 Tryz.underlying116 (by kernel_rfl) (by kernel_rfl) h2)
theorem gSyn : Tryz.prog.globalNamed "strconv.ErrSyntax" = some 0 := by kernel_rfl
theorem gRan : Tryz.prog.globalNamed "strconv.ErrRange" = some 1 := by kernel_rfl
theorem starErr : "*" ++ "errors.errorString" = "*errors.errorString" := by decide
theorem rowErr (u : TypeId) (h : Tryz.prog.typeName? 3 u = some "*errors.errorString") : u = 141 :=
  typeName_ptr_named (nm := "errors.errorString") (by rw [starErr]; kernel_rfl) (by kernel_rfl) (by decide) u (by rw [starErr]; exact h)
theorem vars_of {W : World} (h : laidMetH Tryz.prog Rows.flowTextsRow.laid W) (hS : W.ShapedOpen Tryz.prog) : Vars W := by
  rw [MakeChecks.laidMetH_plain _ _ _ (by kernel_rfl)] at h
  refine ⟨?_, ?_, cell_of_shapedOpen_int (t := 3) (zero := #[.int .i64 0]) hS (of_decide_eq_true (by kernel_rfl)) (by kernel_rfl) rfl (by kernel_rfl) (by kernel_rfl) Tryz.underlying3⟩
  · obtain ⟨a, s, hv, -⟩ := laid_sentinel h.tail.tail.tail.tail.tail gSyn (ti := 62) (by kernel_rfl) Tryz.underlying62 rowErr Tryz.underlying141 Tryz.underlying143 rfl rfl Tryz.underlying9 (by kernel_rfl) (by kernel_rfl)
    exact ⟨_, by simpa using World.var?_cell gSyn hv 0, .inr ⟨_, _, rfl⟩⟩
  · obtain ⟨a, s, hv, -⟩ := laid_sentinel h.tail.tail.tail.tail gRan (ti := 62) (by kernel_rfl) Tryz.underlying62 rowErr Tryz.underlying141 Tryz.underlying143 rfl rfl Tryz.underlying9 (by kernel_rfl) (by kernel_rfl)
    exact ⟨_, by simpa using World.var?_cell gRan hv 0, .inr ⟨_, _, rfl⟩⟩
end Go.Proofs.YtmhiiomejopaoaaGreatDoor
