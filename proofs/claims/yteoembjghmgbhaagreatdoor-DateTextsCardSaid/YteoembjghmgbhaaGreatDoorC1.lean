/- The date walks: the sort of spans. -/
import Derived.Test.YteoembjghmgbhaaGreatDoorL1
namespace Go.Proofs.YteoembjghmgbhaaGreatDoor
set_option linter.all false
open Go.RowKit Go.Sort

/-- The spans that have days. -/
abbrev VSp := { s : Sp // spanB s = true }
instance : Inhabited VSp := ⟨⟨⟨0, 0⟩, by decide⟩⟩
def encV (x : VSp) : List Value := spc x.1
def cfV (x y : VSp) : Int := x.1.lo - y.1.lo
theorem vsp (x : VSp) : 0 ≤ x.1.lo ∧ x.1.lo ≤ x.1.hi ∧ x.1.hi ≤ 60000 := by simpa [spanB] using x.2
theorem ltV (x y : VSp) : ltOf cfV x y = decide (x.1.lo < y.1.lo) := by
  unfold ltOf cfV
  by_cases h : x.1.lo < y.1.lo
  · rw [decide_eq_true h, decide_eq_true (show x.1.lo - y.1.lo < 0 by omega)]
  · rw [decide_eq_false h, decide_eq_false (show ¬ x.1.lo - y.1.lo < 0 by omega)]
theorem swoV : SWO (ltOf cfV) where
  irrefl x := by rw [ltV]; simp
  trans x y z h1 h2 := by rw [ltV] at *; simp at *; omega
  ntrans x y z h1 h2 := by rw [ltV] at *; simp at *; omega
set_option maxHeartbeats 1000000 in
theorem cmp_any (x y : VSp) (W : World) : Calls Tryz.prog 55 #[.agg #[.int .i64 x.1.lo, .int .i64 x.1.hi], .agg #[.int .i64 y.1.lo, .int .i64 y.1.hi]] W fun e w' => e = .returned (.int .i64 (cfV x y)) ∧ ∃ q os', w' = grow (W.drewN q) os' := by
  have hx := vsp x
  have hy := vsp y
  have HE := Lib.hid (show cfV x y = x.1.lo - y.1.lo from rfl)
  obtain ⟨x1, x2⟩ := x
  obtain ⟨y1, y2⟩ := y
  obtain ⟨a, b⟩ := x1
  obtain ⟨c, d⟩ := y1
  simp only at hx hy HE ⊢
  go_enter Tryz.func55, Tryz.ntmps55
  go_wp2
  go_ret
  exact ⟨by rw [HE.out]; rfl, 0, _, by rw [alloc_eq_grow, alloc_eq_grow, grow_grow]; rfl⟩
theorem cmpV (blk off size : Nat) (w : World) : CmpLays Tryz.prog 55 #[] encV 2 cfV blk off size w :=
  fun _ _ _ _ x y => cmp_any x y _
set_option maxHeartbeats 1000000 in
theorem sort_any (blk off cap : Nat) (d : Array VSp) (w : World) (hH : HoldsK encV 2 w blk off d) (hblk : blk < w.heap.size) (hsz : d.size < 1000000) :
    Calls Tryz.prog 54 #[.slice (some ⟨blk, off, none⟩) d.size cap, .func (.func 55) #[] #[]] w fun e w' => e = .returned (.tuple #[]) ∧ ∃ d' n os, PermIn 0 d.size d d' ∧ SortedIn (ltOf cfV) 0 d.size d' ∧ w' = sortWorldK encV 2 w blk off n d' os := by
  have eg : ∀ args w, (callFunc 55 args).run Tryz.prog w = .ok (.enter 55 args) w := enters_of Tryz.func55 (by kernel_rfl) rfl
  exact AnyQ.slices_SortFunc sortSp 2 Tryz.isAgg39 Tryz.sizeOf39 encV (fun _ => rfl) (fun x v hv => by simp [encV, spc] at hv; rcases hv with rfl | rfl <;> rfl) cfV swoV 55 #[] blk off cap d w eg (cmpV blk off d.size w) hH hblk (by omega)
end Go.Proofs.YteoembjghmgbhaaGreatDoor
