/- The reference's walks: Of, Number, Weekday, Week. -/
import Derived.Test.YteoembjghmgbhaaDoorR0
namespace Go.Proofs.YteoembjghmgbhaaDoor
set_option linter.all false
open Go.RowKit

def numI (d : Dt) : Int := if exB d && dayB (dayI d) then dayI d else -1
set_option maxRecDepth 100000 in
set_option maxHeartbeats 1000000 in
theorem rOf_any (day : Int) (w : World) (h1 : 0 ≤ day) (h2 : day ≤ 60000) : Calls Tryd.prog 23 #[.int .i64 day] w fun e w' => e = .returned (dtv (ofI day)) ∧ Below w.heap.size w w' := by
  have HM := Lib.hid (fun W => rMonth_any day W h1 h2)
  have hml := mon_le day
  have hbd := begin_bd2 (monI day) (by omega)
  have HO := Lib.hid (show ofI day = ⟨1850 + ((monI day / 12 : Nat) : Int), ((monI day % 12 : Nat) : Int) + 1, day - beginN (monI day) + 1⟩ from rfl)
  have HC := Lib.hid (fun W => rFirst_any (monI day) W (by omega))
  obtain ⟨m, hm⟩ : ∃ m, monI day = m := ⟨_, rfl⟩
  rw [hm] at HM hml hbd HO HC
  clear hm
  have d1 : ((m : Int)).tdiv 12 = ((m / 12 : Nat) : Int) := by rw [Int.tdiv_eq_ediv_of_nonneg (by omega)]; omega
  have d2 : ((m : Int)).tmod 12 = ((m % 12 : Nat) : Int) := by rw [Int.tmod_eq_emod_of_nonneg (by omega)]; omega
  obtain ⟨q, hq⟩ : ∃ q, m / 12 = q := ⟨_, rfl⟩
  obtain ⟨r, hr⟩ : ∃ r, m % 12 = r := ⟨_, rfl⟩
  rw [hq] at d1 HO
  rw [hr] at d2 HO
  have hq2 : q ≤ 10000 := by omega
  have hr2 : r ≤ 11 := by omega
  clear hq hr
  generalize beginN m = b at *
  have HH := Lib.hid (heap_alloc_new w (.cells #[.int .i64 0, .int .i64 0, .int .i64 0] 23))
  go_enter Tryd.func23, Tryd.ntmps23
  go_wp2_with (first | (go_at_call 39; refine (HM.out _).mono ?_; rintro e w1 ⟨rfl, rfl⟩) | (go_at_call 63; refine (HC.out _).mono ?_; rintro e w2 ⟨rfl, rfl⟩))
  obtain ⟨y0, y1, y2, _⟩ := cells3 (set3 (x := .int .i64 (1850 + (q : Int))) (y := .int .i64 ((r : Int) + 1)) (z := .int .i64 (day - b + 1)) HH.out)
  refine bodyPost_ret (v := .agg #[.int .i64 (1850 + (q : Int)), .int .i64 ((r : Int) + 1), .int .i64 (day - b + 1)]) ?_ rfl ?_
  · simp [results, Tryd.results23, go_sem, y0, y1, y2]
  · exact ⟨by rw [HO.out]; rfl, bel⟩
theorem rWeekday_any (day : Int) (w : World) (h1 : 0 ≤ day) (h2 : day ≤ 60000) : Calls Tryd.prog 26 #[.int .i64 day] w fun e w' => e = .returned (.int .i64 (weekdayI day)) ∧ w = w' := by
  have HE := Lib.hid (show weekdayI day = (day + 1) % 7 + 1 from rfl)
  have d1 : (day + 1).tmod 7 = (day + 1) % 7 := Int.tmod_eq_emod_of_nonneg (by omega)
  go_enter Tryd.func26, Tryd.ntmps26
  go_wp2
  go_ret
  exact ⟨by rw [HE.out]; rfl, rfl⟩
set_option maxRecDepth 100000 in
set_option maxHeartbeats 1000000 in
theorem rWeek_any (day : Int) (w : World) (h1 : 0 ≤ day) (h2 : day ≤ 60000) : Calls Tryd.prog 27 #[.int .i64 day] w fun e w' => e = .returned (spv (clipI (day - weekdayI day + 1) (day - weekdayI day + 7))) ∧ Below w.heap.size w w' := by
  have hwd : 1 ≤ weekdayI day ∧ weekdayI day ≤ 7 := by unfold weekdayI; omega
  have HW := Lib.hid (fun W => rWeekday_any day W h1 h2)
  generalize weekdayI day = k at *
  obtain ⟨a, ha⟩ : ∃ a, (if 0 < day - k + 1 then day - k + 1 else 0) = a := ⟨_, rfl⟩
  obtain ⟨b, hb⟩ : ∃ b, (if day - k + 7 < 60000 then day - k + 7 else 60000) = b := ⟨_, rfl⟩
  have HE := Lib.hid (show clipI (day - k + 1) (day - k + 7) = ⟨a, b⟩ by unfold clipI; rw [ha, hb])
  have hb2 : (if day - k + 1 + 6 < 60000 then day - k + 1 + 6 else 60000) = b := by rw [← hb, show day - k + 1 + 6 = day - k + 7 by omega]
  have HH := Lib.hid (heap_alloc_new w (.cells #[.int .i64 0, .int .i64 0] 37))
  go_enter Tryd.func27, Tryd.ntmps27
  go_upto_region 2 with (first | (go_at_call 26; refine (HW.out _).mono ?_; rintro e w1 ⟨rfl, rfl⟩))
  go_wp2
  obtain ⟨y0, y1, _⟩ := cells2 (set2 (x := .int .i64 a) (y := .int .i64 b) HH.out)
  refine bodyPost_ret (v := .agg #[.int .i64 a, .int .i64 b]) ?_ rfl ?_
  · simp [results, Tryd.results27, go_sem, y0, y1]
  · exact ⟨by rw [HE.out]; rfl, bel⟩
end Go.Proofs.YteoembjghmgbhaaDoor
