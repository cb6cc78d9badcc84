/- The date walks: Valid, Number, Covers, Dated. -/
import Derived.Test.YteoembjghmgbhaaGreatDoorB6
namespace Go.Proofs.YteoembjghmgbhaaGreatDoor
set_option linter.all false
open Go.RowKit

set_option maxRecDepth 100000 in
set_option maxHeartbeats 2000000 in
theorem Valid_any (d : Dt) (w : World) : Calls Tryz.prog 19 #[dtv d] w fun e w' => e = .returned (.bool (dayR d).2) ∧ Below w.heap.size w w' := by
  have HX := Lib.hid (fun W => day_any d W)
  generalize dayR d = r at *
  obtain ⟨n, b⟩ := r
  unfold dtv at *
  go_enter Tryz.func19, Tryz.ntmps19
  go_wp2_with (go_at_call 29; refine (HX.out _).mono ?_; rintro e w1 ⟨rfl, hb⟩; have HB1 := Lib.hid (below_trans (bel : Below w.heap.size w (w.alloc _)) hb); clear hb)
  go_ret
  exact ⟨rfl, HB1.out⟩
def NumberR (d : Dt) : Int × Int := if (dayR d).2 then ((dayR d).1, 0) else (0, 1)
set_option maxRecDepth 100000 in
set_option maxHeartbeats 2000000 in
theorem Number_any (d : Dt) (w : World) : Calls Tryz.prog 11 #[dtv d] w fun e w' => e = .returned (.tuple #[.int .i64 (NumberR d).1, .int .i64 (NumberR d).2]) ∧ Below w.heap.size w w' := by
  have HX := Lib.hid (fun W => day_any d W)
  unfold NumberR
  generalize dayR d = r at *
  obtain ⟨n, b⟩ := r
  unfold dtv at *
  cases b
  all_goals
    go_enter Tryz.func11, Tryz.ntmps11
    go_wp2_with (go_at_call 29; refine (HX.out _).mono ?_; rintro e w1 ⟨rfl, hb⟩; have HB1 := Lib.hid (below_trans (bel : Below w.heap.size w (w.alloc _)) hb); clear hb)
    go_ret2
    exact ⟨rfl, HB1.out⟩
def coversS (day days rule : Int) : Sp := if rule = 2 then ⟨day - days, day - 1⟩ else ⟨day - days + 1, day⟩
def coversG (day days rule : Int) : Bool := dayB day && (decide (1 ≤ days) && (decide (days ≤ 62) && ruleB rule))
def CoversR (day days rule : Int) : Sp × Int := if coversG day days rule then (if spanB (coversS day days rule) then (coversS day days rule, 0) else (⟨0, 0⟩, 3)) else (⟨0, 0⟩, 1)
theorem isSpan_b (s : Sp) (w : World) : Calls Tryz.prog 38 #[spv s] w fun e w' => e = .returned (.bool (spanB s)) ∧ Below w.heap.size w w' := (isSpan_any s w).mono fun _ _ h => ⟨h.1, by rw [h.2]; exact bel⟩
set_option maxRecDepth 100000 in
set_option maxHeartbeats 2000000 in
theorem Covers_bad (day days rule : Int) (w : World) (hg : coversG day days rule = false) : Calls Tryz.prog 16 #[.int .i64 day, .int .i64 days, .int .i64 rule] w fun e w' => e = .returned (.tuple #[spv ⟨0, 0⟩, .int .i64 1]) ∧ Below w.heap.size w w' := by
  have HH := Lib.hid (heap_alloc_new w (.cells #[.int .i64 0, .int .i64 0] 39))
  obtain ⟨y0, y1, _⟩ := cells2 (set2 (x := .int .i64 0) (y := .int .i64 0) HH.out)
  unfold coversG at hg
  have HG := Lib.hid hg
  clear hg
  have MK := Lib.hid True.intro
  cases h1 : dayB day
  · go_enter Tryz.func16, Tryz.ntmps16
    go_wp2_with (go_at_call 30; refine (isDay_any _ _).mono ?_; rw [h1]; rintro e w1 ⟨rfl, rfl⟩)
    refine bodyPost_ret (v := .tuple #[.agg #[.int .i64 0, .int .i64 0], .int .i64 1]) ?_ rfl ⟨rfl, bel⟩
    simp [results, Tryz.results16, go_sem, y0, y1]
  · by_cases h2 : days < 1
    · go_enter Tryz.func16, Tryz.ntmps16
      go_wp2_with (go_at_call 30; refine (isDay_any _ _).mono ?_; rw [h1]; rintro e w1 ⟨rfl, rfl⟩)
      refine bodyPost_ret (v := .tuple #[.agg #[.int .i64 0, .int .i64 0], .int .i64 1]) ?_ rfl ⟨rfl, bel⟩
      simp [results, Tryz.results16, go_sem, y0, y1]
    · by_cases h3 : 62 < days
      · go_enter Tryz.func16, Tryz.ntmps16
        go_wp2_with (go_at_call 30; refine (isDay_any _ _).mono ?_; rw [h1]; rintro e w1 ⟨rfl, rfl⟩)
        refine bodyPost_ret (v := .tuple #[.agg #[.int .i64 0, .int .i64 0], .int .i64 1]) ?_ rfl ⟨rfl, bel⟩
        simp [results, Tryz.results16, go_sem, y0, y1]
      · have h4 : ruleB rule = false := by
          have h := HG.out
          rw [h1, show decide (1 ≤ days) = true from decide_eq_true (by omega), show decide (days ≤ 62) = true from decide_eq_true (by omega)] at h
          exact h
        go_enter Tryz.func16, Tryz.ntmps16
        go_wp2_with (first | (go_at_call 30; refine (isDay_any _ _).mono ?_; rw [h1]; rintro e w1 ⟨rfl, rfl⟩) | (go_at_call 37; refine (isRule_any _ _).mono ?_; rw [h4]; rintro e w1 ⟨rfl, rfl⟩))
        refine bodyPost_ret (v := .tuple #[.agg #[.int .i64 0, .int .i64 0], .int .i64 1]) ?_ rfl ⟨rfl, bel⟩
        simp [results, Tryz.results16, go_sem, y0, y1]
theorem blockA {w w2 : World} {o1 o2 : Obj} (hb : Below ((w.alloc o1).alloc o2).heap.size ((w.alloc o1).alloc o2) w2) : w2.heap[w.heap.size]? = some o1 :=
  (hb.block w.heap.size (by simp; omega)).trans (((bel : Below (w.heap.size + 1) (w.alloc o1) ((w.alloc o1).alloc o2)).block w.heap.size (by omega)).trans (heap_alloc_new w o1))
theorem blockB {w w2 : World} {o1 o2 : Obj} (hb : Below ((w.alloc o1).alloc o2).heap.size ((w.alloc o1).alloc o2) w2) : w2.heap[w.heap.size + 1]? = some o2 :=
  (hb.block (w.heap.size + 1) (by simp)).trans (by have h := heap_alloc_new (w.alloc o1) o2; simpa using h)
set_option maxRecDepth 100000 in
set_option maxHeartbeats 2000000 in
theorem Covers_good (day days rule : Int) (w : World) (hg : coversG day days rule = true) : Calls Tryz.prog 16 #[.int .i64 day, .int .i64 days, .int .i64 rule] w fun e w' => e = .returned (.tuple #[spv (CoversR day days rule).1, .int .i64 (CoversR day days rule).2]) ∧ Below w.heap.size w w' := by
  have hgg : (0 ≤ day ∧ day ≤ 60000) ∧ 1 ≤ days ∧ days ≤ 62 ∧ ruleB rule = true := by simpa [coversG, dayB] using hg
  have h1 : dayB day = true := by unfold dayB; simp [hgg.1.1, hgg.1.2]
  have HE := Lib.hid (show CoversR day days rule = (if spanB (coversS day days rule) then (coversS day days rule, 0) else (⟨0, 0⟩, 3)) by unfold CoversR; rw [hg]; rfl)
  obtain ⟨⟨a1, a2⟩, a3, a4, h4⟩ := hgg
  clear hg
  have hr : (rule = 2 ∧ coversS day days rule = ⟨day - days, day - 1⟩) ∨ (rule = 1 ∧ coversS day days rule = ⟨day - days + 1, day⟩) := by
    have : rule = 1 ∨ rule = 2 := by simpa [ruleB] using h4
    rcases this with rfl | rfl
    · exact .inr ⟨rfl, rfl⟩
    · exact .inl ⟨rfl, rfl⟩
  have t1 : decide (days < 1) = false := decide_eq_false (by omega)
  have t2 : decide (62 < days) = false := decide_eq_false (by omega)
  rcases hr with ⟨rfl, hs⟩ | ⟨rfl, hs⟩
  · rw [hs] at HE
    clear hs
    have HSP := Lib.hid (fun W => isSpan_b ⟨day - days, day - 1⟩ W)
    unfold spv at HSP
    simp only at HSP
    cases hsp : spanB ⟨day - days, day - 1⟩
    all_goals rw [hsp] at HE HSP
    all_goals clear hsp
    · go_enter Tryz.func16, Tryz.ntmps16
      go_wp2_with (first | (go_at_call 30; refine (isDay_any _ _).mono ?_; rw [h1]; rintro e w1 ⟨rfl, rfl⟩) | (go_at_call 37; refine (isRule_any _ _).mono ?_; rw [h4]; rintro e w1 ⟨rfl, rfl⟩) | (go_at_call 38; refine (HSP.out _).mono ?_; rintro e w2 ⟨rfl, hb⟩; have HB2 := Lib.hid (below_trans (bel : Below w.heap.size w ((w.alloc (.cells #[.int .i64 0, .int .i64 0] 39)).alloc (.cells #[.int .i64 (day - days), .int .i64 (day - 1)] 39))) hb); have HA2 := Lib.hid (blockA hb); have HC2 := Lib.hid (blockB hb); obtain ⟨c0, c1, f0, f1, lc⟩ := cells2 HA2.out; obtain ⟨d0, d1, g0, g1, ld⟩ := cells2 HC2.out; clear hb))
      obtain ⟨y0, y1, _⟩ := cells2 (set2 (x := .int .i64 (0)) (y := .int .i64 (0)) HA2.out)
      refine bodyPost_ret (v := .tuple #[.agg #[.int .i64 (0), .int .i64 (0)], .int .i64 3]) ?_ rfl ?_
      · simp [results, Tryz.results16, go_sem, y0, y1]
      · exact ⟨by rw [HE.out]; rfl, (HB2.out.setCell (Nat.le_refl _) _).setCell (Nat.le_refl _) _⟩
    · go_enter Tryz.func16, Tryz.ntmps16
      go_wp2_with (first | (go_at_call 30; refine (isDay_any _ _).mono ?_; rw [h1]; rintro e w1 ⟨rfl, rfl⟩) | (go_at_call 37; refine (isRule_any _ _).mono ?_; rw [h4]; rintro e w1 ⟨rfl, rfl⟩) | (go_at_call 38; refine (HSP.out _).mono ?_; rintro e w2 ⟨rfl, hb⟩; have HB2 := Lib.hid (below_trans (bel : Below w.heap.size w ((w.alloc (.cells #[.int .i64 0, .int .i64 0] 39)).alloc (.cells #[.int .i64 (day - days), .int .i64 (day - 1)] 39))) hb); have HA2 := Lib.hid (blockA hb); have HC2 := Lib.hid (blockB hb); obtain ⟨c0, c1, f0, f1, lc⟩ := cells2 HA2.out; obtain ⟨d0, d1, g0, g1, ld⟩ := cells2 HC2.out; clear hb))
      obtain ⟨y0, y1, _⟩ := cells2 (set2 (x := .int .i64 (day - days)) (y := .int .i64 (day - 1)) HA2.out)
      refine bodyPost_ret (v := .tuple #[.agg #[.int .i64 (day - days), .int .i64 (day - 1)], .int .i64 0]) ?_ rfl ?_
      · simp [results, Tryz.results16, go_sem, y0, y1]
      · exact ⟨by rw [HE.out]; rfl, (HB2.out.setCell (Nat.le_refl _) _).setCell (Nat.le_refl _) _⟩
  · rw [hs] at HE
    clear hs
    have HSP := Lib.hid (fun W => isSpan_b ⟨day - days + 1, day⟩ W)
    unfold spv at HSP
    simp only at HSP
    cases hsp : spanB ⟨day - days + 1, day⟩
    all_goals rw [hsp] at HE HSP
    all_goals clear hsp
    · go_enter Tryz.func16, Tryz.ntmps16
      go_wp2_with (first | (go_at_call 30; refine (isDay_any _ _).mono ?_; rw [h1]; rintro e w1 ⟨rfl, rfl⟩) | (go_at_call 37; refine (isRule_any _ _).mono ?_; rw [h4]; rintro e w1 ⟨rfl, rfl⟩) | (go_at_call 38; refine (HSP.out _).mono ?_; rintro e w2 ⟨rfl, hb⟩; have HB2 := Lib.hid (below_trans (bel : Below w.heap.size w ((w.alloc (.cells #[.int .i64 0, .int .i64 0] 39)).alloc (.cells #[.int .i64 (day - days + 1), .int .i64 (day)] 39))) hb); have HA2 := Lib.hid (blockA hb); have HC2 := Lib.hid (blockB hb); obtain ⟨c0, c1, f0, f1, lc⟩ := cells2 HA2.out; obtain ⟨d0, d1, g0, g1, ld⟩ := cells2 HC2.out; clear hb))
      obtain ⟨y0, y1, _⟩ := cells2 (set2 (x := .int .i64 (0)) (y := .int .i64 (0)) HA2.out)
      refine bodyPost_ret (v := .tuple #[.agg #[.int .i64 (0), .int .i64 (0)], .int .i64 3]) ?_ rfl ?_
      · simp [results, Tryz.results16, go_sem, y0, y1]
      · exact ⟨by rw [HE.out]; rfl, (HB2.out.setCell (Nat.le_refl _) _).setCell (Nat.le_refl _) _⟩
    · go_enter Tryz.func16, Tryz.ntmps16
      go_wp2_with (first | (go_at_call 30; refine (isDay_any _ _).mono ?_; rw [h1]; rintro e w1 ⟨rfl, rfl⟩) | (go_at_call 37; refine (isRule_any _ _).mono ?_; rw [h4]; rintro e w1 ⟨rfl, rfl⟩) | (go_at_call 38; refine (HSP.out _).mono ?_; rintro e w2 ⟨rfl, hb⟩; have HB2 := Lib.hid (below_trans (bel : Below w.heap.size w ((w.alloc (.cells #[.int .i64 0, .int .i64 0] 39)).alloc (.cells #[.int .i64 (day - days + 1), .int .i64 (day)] 39))) hb); have HA2 := Lib.hid (blockA hb); have HC2 := Lib.hid (blockB hb); obtain ⟨c0, c1, f0, f1, lc⟩ := cells2 HA2.out; obtain ⟨d0, d1, g0, g1, ld⟩ := cells2 HC2.out; clear hb))
      obtain ⟨y0, y1, _⟩ := cells2 (set2 (x := .int .i64 (day - days + 1)) (y := .int .i64 (day)) HA2.out)
      refine bodyPost_ret (v := .tuple #[.agg #[.int .i64 (day - days + 1), .int .i64 (day)], .int .i64 0]) ?_ rfl ?_
      · simp [results, Tryz.results16, go_sem, y0, y1]
      · exact ⟨by rw [HE.out]; rfl, (HB2.out.setCell (Nat.le_refl _) _).setCell (Nat.le_refl _) _⟩
theorem Covers_any (day days rule : Int) (w : World) : Calls Tryz.prog 16 #[.int .i64 day, .int .i64 days, .int .i64 rule] w fun e w' => e = .returned (.tuple #[spv (CoversR day days rule).1, .int .i64 (CoversR day days rule).2]) ∧ Below w.heap.size w w' := by
  cases hg : coversG day days rule
  · rw [show CoversR day days rule = (⟨0, 0⟩, 1) by unfold CoversR; rw [hg]; rfl]
    exact Covers_bad day days rule w hg
  · exact Covers_good day days rule w hg
end Go.Proofs.YteoembjghmgbhaaGreatDoor
