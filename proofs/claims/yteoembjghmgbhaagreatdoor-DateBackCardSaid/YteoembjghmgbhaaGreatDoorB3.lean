/- The date walks: clipped, Week, Days, Year. -/
import Derived.Test.YteoembjghmgbhaaGreatDoorB2
namespace Go.Proofs.YteoembjghmgbhaaGreatDoor
set_option linter.all false
open Go.RowKit

theorem cells2 {w : World} {p : Nat} {a b : Value} {t : TypeId} (h : w.heap[p]? = some (.cells #[a, b] t (0, 0))) : w.cell? ⟨p, 0, none⟩ = some a ∧ w.cell? ⟨p, 1, none⟩ = some b ∧ w.frozen? ⟨p, 0, none⟩ = false ∧ w.frozen? ⟨p, 1, none⟩ = false ∧ p < w.heap.size :=
  ⟨by rw [cell_of_heap h]; rfl, by rw [cell_of_heap h]; rfl, frozen_of_heap h 0, frozen_of_heap h 1, (Array.getElem?_eq_some_iff.1 h).1⟩
theorem set2 {w : World} {p : Nat} {a b x y : Value} {t : TypeId} (h : w.heap[p]? = some (.cells #[a, b] t (0, 0))) : ((w.setCell ⟨p, 0, none⟩ x).setCell ⟨p, 1, none⟩ y).heap[p]? = some (.cells #[x, y] t (0, 0)) := by
  simp [World.setCell, Array.getElem?_modify, h]
def clipI (lo hi : Int) : Sp := ⟨if 0 < lo then lo else 0, if hi < 60000 then hi else 60000⟩
set_option maxRecDepth 100000 in
theorem clip_any (lo hi : Int) (w : World) : Calls Tryz.prog 33 #[.int .i64 lo, .int .i64 hi] w fun e w' => e = .returned (spv (clipI lo hi)) ∧ Below w.heap.size w w' := by
  obtain ⟨a, ha⟩ : ∃ a, (if 0 < lo then lo else 0) = a := ⟨_, rfl⟩
  obtain ⟨b, hb⟩ : ∃ b, (if hi < 60000 then hi else 60000) = b := ⟨_, rfl⟩
  have HE := Lib.hid (show clipI lo hi = ⟨a, b⟩ by unfold clipI; rw [ha, hb])
  have HH := Lib.hid (heap_alloc_new w (.cells #[.int .i64 0, .int .i64 0] 39))
  go_enter Tryz.func33, Tryz.ntmps33
  go_wp2
  obtain ⟨y0, y1, _⟩ := cells2 (set2 (x := .int .i64 a) (y := .int .i64 b) HH.out)
  refine bodyPost_ret (v := .agg #[.int .i64 a, .int .i64 b]) ?_ rfl ?_
  · simp [results, Tryz.results33, go_sem, y0, y1]
  · exact ⟨by rw [HE.out]; rfl, bel⟩
def WeekR (day : Int) : Sp × Int := if dayB day then (clipI (day - weekdayI day + 1) (day - weekdayI day + 7), 0) else (⟨0, 0⟩, 1)
set_option maxRecDepth 100000 in
set_option maxHeartbeats 1000000 in
theorem Week_any (day : Int) (w : World) : Calls Tryz.prog 13 #[.int .i64 day] w fun e w' => e = .returned (.tuple #[spv (WeekR day).1, .int .i64 (WeekR day).2]) ∧ Below w.heap.size w w' := by
  cases hd : dayB day
  · have HE := Lib.hid (show WeekR day = (⟨0, 0⟩, 1) by unfold WeekR; rw [hd]; rfl)
    have HW := Lib.hid (show WeekdayR day = (0, 1) by unfold WeekdayR; rw [hd]; rfl)
    have HH := Lib.hid (heap_alloc_new w (.cells #[.int .i64 0, .int .i64 0] 39))
    go_enter Tryz.func13, Tryz.ntmps13
    go_wp2_with (go_at_call 32; refine (Weekday_any _ _).mono ?_; rw [HW.out]; rintro e w1 ⟨rfl, rfl⟩)
    obtain ⟨y0, y1, _⟩ := cells2 (set2 (x := .int .i64 0) (y := .int .i64 0) HH.out)
    refine bodyPost_ret (v := .tuple #[.agg #[.int .i64 0, .int .i64 0], .int .i64 1]) ?_ rfl ?_
    · simp [results, Tryz.results13, go_sem, y0, y1]
    · exact ⟨by rw [HE.out]; rfl, bel⟩
  · have hdd : 0 ≤ day ∧ day ≤ 60000 := by simpa [dayB] using hd
    have hwd : 1 ≤ weekdayI day ∧ weekdayI day ≤ 7 := by unfold weekdayI; omega
    have HE := Lib.hid (show WeekR day = (clipI (day - weekdayI day + 1) (day - weekdayI day + 7), 0) by unfold WeekR; rw [hd]; rfl)
    have HW := Lib.hid (show WeekdayR day = (weekdayI day, 0) by unfold WeekdayR; rw [hd]; rfl)
    generalize weekdayI day = k at *
    have HC := Lib.hid (fun W => clip_any (day - k + 1) (day - k + 7) W)
    generalize clipI (day - k + 1) (day - k + 7) = o at *
    obtain ⟨a, b⟩ := o
    obtain ⟨h1, h2⟩ := hdd
    go_enter Tryz.func13, Tryz.ntmps13
    go_wp2_with (first | (go_at_call 32; refine (Weekday_any _ _).mono ?_; rw [HW.out]; rintro e w1 ⟨rfl, rfl⟩) | (go_at_call 33; refine (HC.out _).mono ?_; unfold spv; rintro e w2 ⟨rfl, hb⟩; have HB2 := Lib.hid (below_trans (bel : Below w.heap.size w (w.alloc _)) hb); have HH2 := Lib.hid ((hb.block w.heap.size (by simp)).trans (heap_alloc_new w _)); obtain ⟨c0, c1, f0, f1, lc⟩ := cells2 HH2.out; clear hb))
    obtain ⟨y0, y1, _⟩ := cells2 (set2 (x := .int .i64 a) (y := .int .i64 b) HH2.out)
    refine bodyPost_ret (v := .tuple #[.agg #[.int .i64 a, .int .i64 b], .int .i64 0]) ?_ rfl ?_
    · simp [results, Tryz.results13, go_sem, y0, y1]
    · exact ⟨by rw [HE.out]; rfl, (HB2.out.setCell (Nat.le_refl _) _).setCell (Nat.le_refl _) _⟩
end Go.Proofs.YteoembjghmgbhaaGreatDoor
