/- The law DateWeeks: the walk. -/
import Derived.Test.YteoembjghmgbhaaDoorR3
import Derived.Test.YteoembjghmgbhaaDoorC9
namespace Go.Proofs.YteoembjghmgbhaaDoor
set_option linter.all false
open Go.RowKit

set_option maxRecDepth 100000 in
set_option maxHeartbeats 1000000 in
theorem weeks_bad (day : Int) (w : World) (hT : Tab w) (hd : dayB day = false) : Calls Tryd.prog 4 #[.int .i64 day] w fun e w' => e = .returned (.bool true) ∧ Below w.heap.size w w' := by
  have HT := Lib.hid hT
  have HW := Lib.hid (fun W => Weekday_any day W)
  rw [show WeekdayR day = (0, 1) by unfold WeekdayR; rw [hd]; rfl] at HW
  have HK := Lib.hid (fun W => Week_any day W)
  rw [show WeekR day = (⟨0, 0⟩, 1) by unfold WeekR; rw [hd]; rfl] at HK
  have HD := Lib.hid (fun W => rDay_any day W)
  rw [hd] at HD
  unfold spv at HK
  have q2 := seq37 0 0
  clear hd hT
  go_enter Tryd.func4, Tryd.ntmps4
  go_wp2_with (first | (go_at_call 24; refine (HW.out _).mono ?_; rintro e w1 ⟨rfl, rfl⟩) | (go_at_call 25; refine (HK.out _).mono ?_; rintro e w2 ⟨rfl, hb⟩; have HB2 := Lib.hid hb; clear hb) | (go_at_call 21; refine (HD.out _).mono ?_; rintro e w3 ⟨rfl, rfl⟩) | (go_at_call 22; refine (sanity_any _ (HT.out.below (HB2.out.alloc HB2.out.size _))).mono ?_; rintro e w4 ⟨rfl, hb⟩; have HB4 := Lib.hid (below_trans (HB2.out.alloc HB2.out.size _) hb); obtain ⟨c0, c1, _, _, _⟩ := cells2 (lnew hb); clear hb))
  go_ret
  exact ⟨rfl, HB4.out⟩
set_option maxRecDepth 100000 in
set_option maxHeartbeats 1000000 in
theorem weeks_good (day : Int) (w : World) (hT : Tab w) (hd : dayB day = true) : Calls Tryd.prog 4 #[.int .i64 day] w fun e w' => e = .returned (.bool true) ∧ Below w.heap.size w w' := by
  have HT := Lib.hid hT
  have hdd : 0 ≤ day ∧ day ≤ 60000 := by simpa [dayB] using hd
  have HW := Lib.hid (fun W => Weekday_any day W)
  rw [show WeekdayR day = (weekdayI day, 0) by unfold WeekdayR; rw [hd]; rfl] at HW
  have HK := Lib.hid (fun W => Week_any day W)
  rw [show WeekR day = (clipI (day - weekdayI day + 1) (day - weekdayI day + 7), 0) by unfold WeekR; rw [hd]; rfl] at HK
  have HD := Lib.hid (fun W => rDay_any day W)
  rw [hd] at HD
  have HRW := Lib.hid (fun W => rWeekday_any day W hdd.1 hdd.2)
  have HRK := Lib.hid (fun W => rWeek_any day W hdd.1 hdd.2)
  clear hd hT hdd
  generalize clipI (day - weekdayI day + 1) (day - weekdayI day + 7) = o at *
  generalize weekdayI day = k at *
  obtain ⟨a, b⟩ := o
  unfold spv at HK HRK
  simp only at HK HRK
  have q2 := seq37 a b
  go_enter Tryd.func4, Tryd.ntmps4
  go_upto_region 5 with (first | (go_at_call 24; refine (HW.out _).mono ?_; rintro e w1 ⟨rfl, rfl⟩) | (go_at_call 25; refine (HK.out _).mono ?_; rintro e w2 ⟨rfl, hb⟩; have HB2 := Lib.hid hb; clear hb) | (go_at_call 21; refine (HD.out _).mono ?_; rintro e w3 ⟨rfl, rfl⟩))
  obtain ⟨c0, c1, f0, f1, lc⟩ := cells2 (heap_alloc_new w2 (.cells #[.int .i64 a, .int .i64 b] 37))
  have HB3 := Lib.hid ((HB2.out.alloc HB2.out.size (.cells #[.int .i64 a, .int .i64 b] 37)).drew)
  go_region_held3 (fun w' => w'.cell? ⟨w2.heap.size, 0, none⟩ = some (.int .i64 a) ∧ w'.cell? ⟨w2.heap.size, 1, none⟩ = some (.int .i64 b)) (first | exact ⟨c0, c1⟩ | exact ⟨d0, d1⟩ | exact ⟨k0, k1⟩) (first | (go_at_call 22; refine (sanity_any _ (HT.out.below HB3.out)).mono ?_; rintro e w4 ⟨rfl, hb⟩; have d0 := (hb.cell lc).trans c0; have d1 := (hb.cell lc).trans c1; have ld := Nat.lt_of_lt_of_le lc hb.size; have HB4 := Lib.hid (below_trans HB3.out hb); clear hb) | (go_at_call 26; refine (HRW.out _).mono ?_; rintro e w5 ⟨rfl, rfl⟩) | (go_at_call 27; refine (HRK.out _).mono ?_; rintro e w6 ⟨rfl, hb⟩; have k0 := (hb.cell ld).trans d0; have k1 := (hb.cell ld).trans d1; have HB6 := Lib.hid (below_trans HB4.out hb); clear hb))
  all_goals
    go_wp2
    go_ret
    exact ⟨rfl, HB6.out⟩
theorem weeks_walk (day : Int) (w : World) (hT : Tab w) (_ : -9223372036854775808 ≤ day ∧ day ≤ 9223372036854775807) : Calls Tryd.prog 4 #[.int .i64 day] w fun e w' => e = .returned (.bool true) ∧ Below w.heap.size w w' := by
  cases hd : dayB day
  · exact weeks_bad day w hT hd
  · exact weeks_good day w hT hd
end Go.Proofs.YteoembjghmgbhaaDoor
