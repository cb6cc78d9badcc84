/- The date walks: Of, Weekday, Week, Month. -/
import Derived.Test.YteoembjghmgbhaaGreatDoorB1
namespace Go.Proofs.YteoembjghmgbhaaGreatDoor
set_option linter.all false
open Go.RowKit

def OfR (day : Int) : Dt × Int := if dayB day then (ofI day, 0) else (⟨0, 0, 0⟩, 1)
set_option maxRecDepth 100000 in
set_option maxHeartbeats 1000000 in
theorem Of_any (day : Int) (w : World) : Calls Tryz.prog 12 #[.int .i64 day] w fun e w' => e = .returned (.tuple #[dtv (OfR day).1, .int .i64 (OfR day).2]) ∧ Below w.heap.size w w' := by
  cases hd : dayB day
  · have HE := Lib.hid (show OfR day = (⟨0, 0, 0⟩, 1) by unfold OfR; rw [hd]; rfl)
    have HH := Lib.hid (heap_alloc_new w (.cells #[.int .i64 0, .int .i64 0, .int .i64 0] 23))
    go_enter Tryz.func12, Tryz.ntmps12
    go_wp2_with (go_at_call 30; refine (isDay_any _ _).mono ?_; rw [hd]; rintro e w1 ⟨rfl, rfl⟩)
    obtain ⟨y0, y1, y2, _⟩ := cells3 (set3 (x := .int .i64 0) (y := .int .i64 0) (z := .int .i64 0) HH.out)
    refine bodyPost_ret (v := .tuple #[.agg #[.int .i64 0, .int .i64 0, .int .i64 0], .int .i64 1]) ?_ rfl ?_
    · simp [results, Tryz.results12, go_sem, y0, y1, y2]
    · exact ⟨by rw [HE.out]; rfl, bel⟩
  · have hdd : 0 ≤ day ∧ day ≤ 60000 := by simpa [dayB] using hd
    have HE := Lib.hid (show OfR day = (ofI day, 0) by unfold OfR; rw [hd]; rfl)
    have HO := Lib.hid (fun W => of_any day W hdd.1 hdd.2)
    generalize ofI day = o at *
    obtain ⟨a, b, c⟩ := o
    clear hdd
    go_enter Tryz.func12, Tryz.ntmps12
    go_wp2_with (first | (go_at_call 30; refine (isDay_any _ _).mono ?_; rw [hd]; rintro e w1 ⟨rfl, rfl⟩) | (go_at_call 31; refine (HO.out _).mono ?_; unfold dtv; rintro e w2 ⟨rfl, hb⟩; have HB2 := Lib.hid (below_trans (bel : Below w.heap.size w (w.alloc _)) hb); have HH2 := Lib.hid ((hb.block w.heap.size (by simp)).trans (heap_alloc_new w _)); obtain ⟨c0, c1, c2, f0, f1, f2, lc⟩ := cells3 HH2.out; clear hb))
    obtain ⟨y0, y1, y2, _⟩ := cells3 (set3 (x := .int .i64 a) (y := .int .i64 b) (z := .int .i64 c) HH2.out)
    refine bodyPost_ret (v := .tuple #[.agg #[.int .i64 a, .int .i64 b, .int .i64 c], .int .i64 0]) ?_ rfl ?_
    · simp [results, Tryz.results12, go_sem, y0, y1, y2]
    · exact ⟨by rw [HE.out]; rfl, ((HB2.out.setCell (Nat.le_refl _) _).setCell (Nat.le_refl _) _).setCell (Nat.le_refl _) _⟩
def weekdayI (day : Int) : Int := (day + 1) % 7 + 1
def WeekdayR (day : Int) : Int × Int := if dayB day then (weekdayI day, 0) else (0, 1)
set_option maxRecDepth 100000 in
theorem Weekday_any (day : Int) (w : World) : Calls Tryz.prog 32 #[.int .i64 day] w fun e w' => e = .returned (.tuple #[.int .i64 (WeekdayR day).1, .int .i64 (WeekdayR day).2]) ∧ w = w' := by
  cases hd : dayB day
  · have HE := Lib.hid (show WeekdayR day = (0, 1) by unfold WeekdayR; rw [hd]; rfl)
    go_enter Tryz.func32, Tryz.ntmps32
    go_wp2_with (go_at_call 30; refine (isDay_any _ _).mono ?_; rw [hd]; rintro e w1 ⟨rfl, rfl⟩)
    go_ret2
    exact ⟨by rw [HE.out]; rfl, rfl⟩
  · have hdd : 0 ≤ day ∧ day ≤ 60000 := by simpa [dayB] using hd
    have HE := Lib.hid (show WeekdayR day = ((day + 1) % 7 + 1, 0) by unfold WeekdayR; rw [hd]; rfl)
    have d1 : (day + 1).tmod 7 = (day + 1) % 7 := Int.tmod_eq_emod_of_nonneg (by omega)
    obtain ⟨h1, h2⟩ := hdd
    go_enter Tryz.func32, Tryz.ntmps32
    go_wp2_with (go_at_call 30; refine (isDay_any _ _).mono ?_; rw [hd]; rintro e w1 ⟨rfl, rfl⟩)
    go_ret2
    exact ⟨by rw [HE.out]; rfl, rfl⟩
def MonthR (day : Int) : Int × Int := if dayB day then ((monI day : Int), 0) else (0, 1)
end Go.Proofs.YteoembjghmgbhaaGreatDoor
