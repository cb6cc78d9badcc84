/- The reference's walks: Valid, Covers, Dated. -/
import Derived.Test.YteoembjghmgbhaaDoorR2
namespace Go.Proofs.YteoembjghmgbhaaDoor
set_option linter.all false
open Go.RowKit

theorem rValid_any (s : Sp) (w : World) : Calls Tryd.prog 35 #[spv s] w fun e w' => e = .returned (.bool (spanB s)) ∧ Below w.heap.size w w' := by
  obtain ⟨a, b⟩ := s
  unfold spanB spv
  go_enter Tryd.func35, Tryd.ntmps35
  go_wp2
  all_goals (go_ret; exact ⟨by simp [*]; try omega, bel⟩)
/-- The reference's Covers, for a day and a rule. -/
def rcoversR (day days rule : Int) : Sp × Int :=
  if inB days 1 62 then (if (coversS day days rule).lo < 0 then (⟨0, 0⟩, 3) else (coversS day days rule, 0)) else (⟨0, 0⟩, 1)
theorem covers_same (day days rule : Int) (hd : dayB day = true) (hr : ruleB rule = true) : CoversR day days rule = rcoversR day days rule := by
  have hdd : 0 ≤ day ∧ day ≤ 60000 := by simpa [dayB] using hd
  have e1 : coversG day days rule = inB days 1 62 := by
    unfold coversG inB
    rw [hd, hr]
    simp
  unfold CoversR rcoversR
  rw [e1]
  split
  · rename_i h
    have hb : 1 ≤ days ∧ days ≤ 62 := by simpa [inB] using h
    have e2 : spanB (coversS day days rule) = !decide ((coversS day days rule).lo < 0) := by
      unfold spanB coversS
      split
      · simp only
        by_cases h0 : day - days < 0
        · rw [decide_eq_true h0, decide_eq_false (show ¬ 0 ≤ day - days by omega)]; rfl
        · rw [decide_eq_false h0, decide_eq_true (show 0 ≤ day - days by omega), decide_eq_true (show day - days ≤ day - 1 by omega), decide_eq_true (show day - 1 ≤ 60000 by omega)]; rfl
      · simp only
        by_cases h0 : day - days + 1 < 0
        · rw [decide_eq_true h0, decide_eq_false (show ¬ 0 ≤ day - days + 1 by omega)]; rfl
        · rw [decide_eq_false h0, decide_eq_true (show 0 ≤ day - days + 1 by omega), decide_eq_true (show day - days + 1 ≤ day by omega), decide_eq_true (show day ≤ 60000 by omega)]; rfl
    rw [e2]
    by_cases h0 : (coversS day days rule).lo < 0
    · rw [decide_eq_true h0, if_pos h0]; rfl
    · rw [decide_eq_false h0, if_neg h0]; rfl
  · rfl
/-- The reference's Dated, for a span and a rule. -/
def rdatedR (s : Sp) (rule : Int) : T3 :=
  if 62 < s.hi - s.lo + 1 then ⟨0, 0, 2⟩ else if 60000 < datedD s rule then ⟨0, 0, 3⟩ else ⟨datedD s rule, s.hi - s.lo + 1, 0⟩
theorem dated_same (s : Sp) (rule : Int) (hs : spanB s = true) (hr : ruleB rule = true) : DatedR s rule = rdatedR s rule := by
  have hb : 0 ≤ s.lo ∧ s.lo ≤ s.hi ∧ s.hi ≤ 60000 := by simpa [spanB] using hs
  unfold DatedR rdatedR
  rw [hs, hr, if_pos (by decide)]
  split
  · rfl
  · have h0 : 0 ≤ datedD s rule := by unfold datedD; split <;> omega
    by_cases h : 60000 < datedD s rule
    · rw [if_neg (by simp [dayB]; omega), if_pos h]
    · rw [if_pos (by simp [dayB]; omega), if_neg h]
set_option maxRecDepth 100000 in
set_option maxHeartbeats 1000000 in
theorem rDated_any (s : Sp) (rule : Int) (w : World) (hs : spanB s = true) : Calls Tryd.prog 36 #[spv s, .int .i64 rule] w fun e w' => e = .returned (t3v (rdatedR s rule)) ∧ Below w.heap.size w w' := by
  have hb : 0 ≤ s.lo ∧ s.lo ≤ s.hi ∧ s.hi ≤ 60000 := by simpa [spanB] using hs
  have HE := Lib.hid (show rdatedR s rule = if 62 < s.hi - s.lo + 1 then ⟨0, 0, 2⟩ else if 60000 < datedD s rule then ⟨0, 0, 3⟩ else ⟨datedD s rule, s.hi - s.lo + 1, 0⟩ from rfl)
  have hdd : datedD s rule = if rule = 2 then s.hi + 1 else s.hi := rfl
  rw [hdd] at HE
  obtain ⟨lo, hi⟩ := s
  simp only at hb HE
  clear hs hdd
  obtain ⟨b1, b2, b3⟩ := hb
  unfold spv
  simp only
  by_cases h62 : 62 < hi - lo + 1
  · rw [if_pos h62] at HE
    have t62 : decide (62 < hi - lo + 1) = true := decide_eq_true h62
    go_enter Tryd.func36, Tryd.ntmps36
    go_wp2
    refine bodyPost_ret (v := .tuple #[.int .i64 0, .int .i64 0, .int .i64 2]) (by simp [results, Tryd.results36, go_sem]; done) rfl ?_
    exact ⟨by rw [HE.out]; rfl, bel⟩
  · rw [if_neg h62] at HE
    have t62 : decide (62 < hi - lo + 1) = false := decide_eq_false h62
    by_cases hr : rule = 2
    · rw [if_pos hr] at HE
      subst hr
      by_cases h60 : 60000 < hi + 1
      · rw [if_pos h60] at HE
        have t60 : decide (60000 < hi + 1) = true := decide_eq_true h60
        go_enter Tryd.func36, Tryd.ntmps36
        go_wp2
        refine bodyPost_ret (v := .tuple #[.int .i64 0, .int .i64 0, .int .i64 3]) (by simp [results, Tryd.results36, go_sem]; done) rfl ?_
        exact ⟨by rw [HE.out]; rfl, bel⟩
      · rw [if_neg h60] at HE
        have t60 : decide (60000 < hi + 1) = false := decide_eq_false h60
        go_enter Tryd.func36, Tryd.ntmps36
        go_wp2
        refine bodyPost_ret (v := .tuple #[.int .i64 (hi + 1), .int .i64 (hi - lo + 1), .int .i64 0]) (by simp [results, Tryd.results36, go_sem]; done) rfl ?_
        exact ⟨by rw [HE.out]; rfl, bel⟩
    · rw [if_neg hr, if_neg (show ¬ 60000 < hi by omega)] at HE
      have tr : (rule == 2) = false := by simpa using hr
      have t60 : decide (60000 < hi) = false := decide_eq_false (by omega)
      go_enter Tryd.func36, Tryd.ntmps36
      go_wp2
      refine bodyPost_ret (v := .tuple #[.int .i64 hi, .int .i64 (hi - lo + 1), .int .i64 0]) (by simp [results, Tryd.results36, go_sem]; done) rfl ?_
      exact ⟨by rw [HE.out]; rfl, bel⟩
set_option maxRecDepth 100000 in
set_option maxHeartbeats 1000000 in
theorem rCovers_any (day days rule : Int) (w : World) (hdd : 0 ≤ day ∧ day ≤ 60000) : Calls Tryd.prog 34 #[.int .i64 day, .int .i64 days, .int .i64 rule] w fun e w' => e = .returned (.tuple #[spv (rcoversR day days rule).1, .int .i64 (rcoversR day days rule).2]) ∧ Below w.heap.size w w' := by
  have HH := Lib.hid (heap_alloc_new w (.cells #[.int .i64 0, .int .i64 0] 37))
  cases hi : inB days 1 62
  · have HE := Lib.hid (show rcoversR day days rule = (⟨0, 0⟩, 1) by unfold rcoversR; rw [hi]; rfl)
    have HI := Lib.hid (fun W => rIn_is hi W)
    clear hi
    obtain ⟨y0, y1, _⟩ := cells2 (set2 (x := .int .i64 0) (y := .int .i64 0) HH.out)
    go_enter Tryd.func34, Tryd.ntmps34
    go_wp2_with (go_at_call 43; refine (HI.out _).mono ?_; rintro e w1 ⟨rfl, rfl⟩)
    refine bodyPost_ret (v := .tuple #[.agg #[.int .i64 0, .int .i64 0], .int .i64 1]) ?_ rfl ⟨by rw [HE.out]; rfl, bel⟩
    simp [results, Tryd.results34, go_sem, y0, y1]
  · have hb : 1 ≤ days ∧ days ≤ 62 := by simpa [inB] using hi
    have HE := Lib.hid (show rcoversR day days rule = if (coversS day days rule).lo < 0 then (⟨0, 0⟩, 3) else (coversS day days rule, 0) by unfold rcoversR; rw [hi]; rfl)
    have HI := Lib.hid (fun W => rIn_is hi W)
    clear hi
    obtain ⟨d1, d2⟩ := hdd
    obtain ⟨b1, b2⟩ := hb
    by_cases hr : rule = 2
    · subst hr
      rw [show coversS day days 2 = ⟨day - days, day - 1⟩ from rfl] at HE
      simp only at HE
      by_cases h0 : day - days < 0
      · rw [if_pos h0] at HE
        have t0 : decide (day - days < 0) = true := decide_eq_true h0
        go_enter Tryd.func34, Tryd.ntmps34
        go_upto_region 6 with (go_at_call 43; refine (HI.out _).mono ?_; rintro e w1 ⟨rfl, rfl⟩)
        obtain ⟨W, hWe⟩ : ∃ W, W = ((w.alloc (.cells #[.int .i64 0, .int .i64 0] 37)).alloc (.cells #[.int .i64 (day - days), .int .i64 (day - 1)] 37)) := ⟨_, rfl⟩
        have HWB := Lib.hid (show Below w.heap.size w W by rw [hWe]; exact bel)
        have hA := blockA (w := w) (o1 := .cells #[.int .i64 0, .int .i64 0] 37) (o2 := .cells #[.int .i64 (day - days), .int .i64 (day - 1)] 37) (Below.refl _ _)
        have hB := blockB (w := w) (o1 := .cells #[.int .i64 0, .int .i64 0] 37) (o2 := .cells #[.int .i64 (day - days), .int .i64 (day - 1)] 37) (Below.refl _ _)
        rw [← hWe] at hA hB ⊢
        clear hWe
        obtain ⟨c0, c1, f0, f1, lc⟩ := cells2 hA
        obtain ⟨k0, k1, g0, g1, lk⟩ := cells2 hB
        obtain ⟨y0, y1, _⟩ := cells2 (set2 (x := .int .i64 0) (y := .int .i64 0) hA)
        go_wp2
        refine bodyPost_ret (v := .tuple #[.agg #[.int .i64 0, .int .i64 0], .int .i64 3]) ?_ rfl ⟨by rw [HE.out]; rfl, (HWB.out.setCell (Nat.le_refl _) _).setCell (Nat.le_refl _) _⟩
        simp [results, Tryd.results34, go_sem, y0, y1]
      · rw [if_neg h0] at HE
        have t0 : decide (day - days < 0) = false := decide_eq_false h0
        go_enter Tryd.func34, Tryd.ntmps34
        go_upto_region 6 with (go_at_call 43; refine (HI.out _).mono ?_; rintro e w1 ⟨rfl, rfl⟩)
        obtain ⟨W, hWe⟩ : ∃ W, W = ((w.alloc (.cells #[.int .i64 0, .int .i64 0] 37)).alloc (.cells #[.int .i64 (day - days), .int .i64 (day - 1)] 37)) := ⟨_, rfl⟩
        have HWB := Lib.hid (show Below w.heap.size w W by rw [hWe]; exact bel)
        have hA := blockA (w := w) (o1 := .cells #[.int .i64 0, .int .i64 0] 37) (o2 := .cells #[.int .i64 (day - days), .int .i64 (day - 1)] 37) (Below.refl _ _)
        have hB := blockB (w := w) (o1 := .cells #[.int .i64 0, .int .i64 0] 37) (o2 := .cells #[.int .i64 (day - days), .int .i64 (day - 1)] 37) (Below.refl _ _)
        rw [← hWe] at hA hB ⊢
        clear hWe
        obtain ⟨c0, c1, f0, f1, lc⟩ := cells2 hA
        obtain ⟨k0, k1, g0, g1, lk⟩ := cells2 hB
        obtain ⟨y0, y1, _⟩ := cells2 (set2 (x := .int .i64 (day - days)) (y := .int .i64 (day - 1)) hA)
        go_wp2
        refine bodyPost_ret (v := .tuple #[.agg #[.int .i64 (day - days), .int .i64 (day - 1)], .int .i64 0]) ?_ rfl ⟨by rw [HE.out]; rfl, (HWB.out.setCell (Nat.le_refl _) _).setCell (Nat.le_refl _) _⟩
        simp [results, Tryd.results34, go_sem, y0, y1]
    · rw [show coversS day days rule = ⟨day - days + 1, day⟩ by unfold coversS; rw [if_neg hr]] at HE
      have tr : (rule == 2) = false := by simpa using hr
      simp only at HE
      by_cases h0 : day - days + 1 < 0
      · rw [if_pos h0] at HE
        have t0 : decide (day - days + 1 < 0) = true := decide_eq_true h0
        go_enter Tryd.func34, Tryd.ntmps34
        go_upto_region 6 with (go_at_call 43; refine (HI.out _).mono ?_; rintro e w1 ⟨rfl, rfl⟩)
        obtain ⟨W, hWe⟩ : ∃ W, W = ((w.alloc (.cells #[.int .i64 0, .int .i64 0] 37)).alloc (.cells #[.int .i64 (day - days + 1), .int .i64 day] 37)) := ⟨_, rfl⟩
        have HWB := Lib.hid (show Below w.heap.size w W by rw [hWe]; exact bel)
        have hA := blockA (w := w) (o1 := .cells #[.int .i64 0, .int .i64 0] 37) (o2 := .cells #[.int .i64 (day - days + 1), .int .i64 day] 37) (Below.refl _ _)
        have hB := blockB (w := w) (o1 := .cells #[.int .i64 0, .int .i64 0] 37) (o2 := .cells #[.int .i64 (day - days + 1), .int .i64 day] 37) (Below.refl _ _)
        rw [← hWe] at hA hB ⊢
        clear hWe
        obtain ⟨c0, c1, f0, f1, lc⟩ := cells2 hA
        obtain ⟨k0, k1, g0, g1, lk⟩ := cells2 hB
        obtain ⟨y0, y1, _⟩ := cells2 (set2 (x := .int .i64 0) (y := .int .i64 0) hA)
        go_wp2
        refine bodyPost_ret (v := .tuple #[.agg #[.int .i64 0, .int .i64 0], .int .i64 3]) ?_ rfl ⟨by rw [HE.out]; rfl, (HWB.out.setCell (Nat.le_refl _) _).setCell (Nat.le_refl _) _⟩
        simp [results, Tryd.results34, go_sem, y0, y1]
      · rw [if_neg h0] at HE
        have t0 : decide (day - days + 1 < 0) = false := decide_eq_false h0
        go_enter Tryd.func34, Tryd.ntmps34
        go_upto_region 6 with (go_at_call 43; refine (HI.out _).mono ?_; rintro e w1 ⟨rfl, rfl⟩)
        obtain ⟨W, hWe⟩ : ∃ W, W = ((w.alloc (.cells #[.int .i64 0, .int .i64 0] 37)).alloc (.cells #[.int .i64 (day - days + 1), .int .i64 day] 37)) := ⟨_, rfl⟩
        have HWB := Lib.hid (show Below w.heap.size w W by rw [hWe]; exact bel)
        have hA := blockA (w := w) (o1 := .cells #[.int .i64 0, .int .i64 0] 37) (o2 := .cells #[.int .i64 (day - days + 1), .int .i64 day] 37) (Below.refl _ _)
        have hB := blockB (w := w) (o1 := .cells #[.int .i64 0, .int .i64 0] 37) (o2 := .cells #[.int .i64 (day - days + 1), .int .i64 day] 37) (Below.refl _ _)
        rw [← hWe] at hA hB ⊢
        clear hWe
        obtain ⟨c0, c1, f0, f1, lc⟩ := cells2 hA
        obtain ⟨k0, k1, g0, g1, lk⟩ := cells2 hB
        obtain ⟨y0, y1, _⟩ := cells2 (set2 (x := .int .i64 (day - days + 1)) (y := .int .i64 day) hA)
        go_wp2
        refine bodyPost_ret (v := .tuple #[.agg #[.int .i64 (day - days + 1), .int .i64 day], .int .i64 0]) ?_ rfl ⟨by rw [HE.out]; rfl, (HWB.out.setCell (Nat.le_refl _) _).setCell (Nat.le_refl _) _⟩
        simp [results, Tryd.results34, go_sem, y0, y1]
end Go.Proofs.YteoembjghmgbhaaDoor
