/- What a law's proof needs of its frame: the listed variables, the arguments, the world's shape. -/
import Derived.Test.YteoembjghmgbhaaGreatDoorRows
import Derived.Test.YteoembjghmgbhaaGreatDoorCards
import Derived.Test.YteoembjghmgbhaaGreatDoorTie
import Derived.Test.YteoembjghmgbhaaGreatDoorZ12
import Derived.ProofKit
import Derived.OpenShut
import Derived.ShutString
import Derived.ChangeOld
import Derived.ChangeMaps5
import Derived.Below
import Derived.LaidMore
import Derived.Stop.Joined
import Derived.Stop.LaidErr
import Derived.Deep.Slices
import Derived.Deep.Strs
import Derived.Lib.SmallJoins
import Derived.SevenTiedAt
import Derived.Lay
import Derived.Handed
import Derived.Shelf.Vars
namespace Go.Proofs.YteoembjghmgbhaaGreatDoor
set_option linter.all false
open Go.ChangeShapes Go.WideShapes Go.ChangeAt Go.RowKit Go.Joins

theorem own : ownKnob Tryz.prog.godebug = none := by kernel_rfl
theorem laidOut : laidOutB Tryz.prog = true := by kernel_rfl
set_option maxRecDepth 100000 in
theorem lay_met (os : Os) (args : Array Value) : laidMetH Tryz.prog Rows.dateTextsRow.laid ((World.laidAll Tryz.prog os Rows.dateTextsRow.laid).forCall (fun _ _ => 0) ⟨#[], args, []⟩).memory := by
  rw [MakeChecks.laidMetH_plain _ _ _ (by kernel_rfl)]
  exact laidMet_laidAll _ (by kernel_rfl) (by kernel_rfl)
set_option maxRecDepth 100000 in
theorem lay_shape (os : Os) (args : Array Value) : ((World.laidAll Tryz.prog os Rows.dateTextsRow.laid).forCall (fun _ _ => 0) ⟨#[], args, []⟩).Shaped Tryz.prog :=
  World.shaped_of_ZipB (by kernel_rfl) (by kernel_rfl)
theorem gPow : Tryz.prog.globalNamed "internal/strconv.uint64pow10" = some 3 := by kernel_rfl
theorem tab_of_laid {W : World} (h : laidMetH Tryz.prog Rows.dateTextsRow.laid W) : Tab W := by
  rw [MakeChecks.laidMetH_plain _ _ _ (by kernel_rfl)] at h
  have h2 : laidMet Tryz.prog (("internal/strconv.uint64pow10", Lib.tabData .u64 Lib.pow10Tab) :: Rows.dateTextsRow.laid.drop 3) W := h.tail.tail
  exact Lib.tabBelow_of_tabIs (Lib.tabIs_of_head gPow (t := 120) (by kernel_rfl) Tryz.underlying120 Tryz.underlying94 (by kernel_rfl) (by kernel_rfl) h2)
theorem gSyn : Tryz.prog.globalNamed "strconv.ErrSyntax" = some 1 := by kernel_rfl
theorem gRan : Tryz.prog.globalNamed "strconv.ErrRange" = some 2 := by kernel_rfl
theorem starErr : "*" ++ "errors.errorString" = "*errors.errorString" := by decide
theorem rowErr (u : TypeId) (h : Tryz.prog.typeName? 3 u = some "*errors.errorString") : u = 125 :=
  typeName_ptr_named (nm := "errors.errorString") (by rw [starErr]; kernel_rfl) (by kernel_rfl) (by decide) u (by rw [starErr]; exact h)
theorem vars_of {W : World} (h : laidMetH Tryz.prog Rows.dateTextsRow.laid W) (hS : W.ShapedOpen Tryz.prog) : Vars W := by
  rw [MakeChecks.laidMetH_plain _ _ _ (by kernel_rfl)] at h
  refine ⟨cell_of_shapedOpen_int (t := 3) (zero := #[.int .i64 0]) hS (of_decide_eq_true (by kernel_rfl)) (by kernel_rfl) rfl (by kernel_rfl) (by kernel_rfl) Tryz.underlying3, ?_, ?_⟩
  · obtain ⟨a, s, hv, -⟩ := laid_sentinel h.tail.tail.tail.tail.tail gSyn (ti := 53) (by kernel_rfl) Tryz.underlying53 rowErr Tryz.underlying125 Tryz.underlying127 rfl rfl Tryz.underlying9 (by kernel_rfl) (by kernel_rfl)
    exact ⟨_, by simpa using World.var?_cell gSyn hv 0, .inr ⟨_, _, rfl⟩⟩
  · obtain ⟨a, s, hv, -⟩ := laid_sentinel h.tail.tail.tail.tail gRan (ti := 53) (by kernel_rfl) Tryz.underlying53 rowErr Tryz.underlying125 Tryz.underlying127 rfl rfl Tryz.underlying9 (by kernel_rfl) (by kernel_rfl)
    exact ⟨_, by simpa using World.var?_cell gRan hv 0, .inr ⟨_, _, rfl⟩⟩
end Go.Proofs.YteoembjghmgbhaaGreatDoor
