/- The date walks: Dated. -/
import Derived.Test.YteoembjghmgbhaaDoorB7
namespace Go.Proofs.YteoembjghmgbhaaDoor
set_option linter.all false
open Go.RowKit

structure T3 where
  a : Int
  b : Int
  e : Int
def t3v (t : T3) : Value := .tuple #[.int .i64 t.a, .int .i64 t.b, .int .i64 t.e]
def datedD (s : Sp) (rule : Int) : Int := if rule = 2 then s.hi + 1 else s.hi
def DatedR (s : Sp) (rule : Int) : T3 :=
  if spanB s && ruleB rule then
    (if 62 < s.hi - s.lo + 1 then ⟨0, 0, 2⟩ else if dayB (datedD s rule) then ⟨datedD s rule, s.hi - s.lo + 1, 0⟩ else ⟨0, 0, 3⟩)
  else ⟨0, 0, 1⟩
set_option maxRecDepth 100000 in
set_option maxHeartbeats 2000000 in
theorem Dated_bad (s : Sp) (rule : Int) (w : World) (hg : (spanB s && ruleB rule) = false) : Calls Tryd.prog 33 #[spv s, .int .i64 rule] w fun e w' => e = .returned (t3v (DatedR s rule)) ∧ Below w.heap.size w w' := by
  have HE := Lib.hid (show DatedR s rule = ⟨0, 0, 1⟩ by unfold DatedR; rw [hg]; rfl)
  have HG := Lib.hid hg
  clear hg
  have HSP := Lib.hid (fun W => isSpan_b s W)
  cases h1 : spanB s
  · rw [h1] at HSP
    unfold spv at *
    go_enter Tryd.func33, Tryd.ntmps33
    go_wp2_with (go_at_call 71; refine (HSP.out _).mono ?_; rintro e w2 ⟨rfl, hb⟩; have HB2 := Lib.hid (below_trans (bel : Below w.heap.size w (w.alloc _)) hb); clear hb)
    refine bodyPost_ret (v := .tuple #[.int .i64 0, .int .i64 0, .int .i64 1]) ?_ rfl ?_
    · simp [results, Tryd.results33, go_sem]
    · exact ⟨by rw [HE.out]; rfl, HB2.out⟩
  · have h4 : ruleB rule = false := by
      have h := HG.out
      rw [h1] at h
      exact h
    rw [h1] at HSP
    unfold spv at *
    go_enter Tryd.func33, Tryd.ntmps33
    go_wp2_with (first | (go_at_call 71; refine (HSP.out _).mono ?_; rintro e w2 ⟨rfl, hb⟩; have HB2 := Lib.hid (below_trans (bel : Below w.heap.size w (w.alloc _)) hb); clear hb) | (go_at_call 70; refine (isRule_any _ _).mono ?_; rw [h4]; rintro e w1 ⟨rfl, rfl⟩))
    refine bodyPost_ret (v := .tuple #[.int .i64 0, .int .i64 0, .int .i64 1]) ?_ rfl ?_
    · simp [results, Tryd.results33, go_sem]
    · exact ⟨by rw [HE.out]; rfl, HB2.out⟩
set_option maxRecDepth 100000 in
set_option maxHeartbeats 2000000 in
theorem Dated_good (s : Sp) (rule : Int) (w : World) (h1 : spanB s = true) (h4 : ruleB rule = true) : Calls Tryd.prog 33 #[spv s, .int .i64 rule] w fun e w' => e = .returned (t3v (DatedR s rule)) ∧ Below w.heap.size w w' := by
  have HE := Lib.hid (show DatedR s rule = (if 62 < s.hi - s.lo + 1 then ⟨0, 0, 2⟩ else if dayB (datedD s rule) then ⟨datedD s rule, s.hi - s.lo + 1, 0⟩ else ⟨0, 0, 3⟩) by unfold DatedR; rw [h1, h4]; rfl)
  have HSP := Lib.hid (fun W => isSpan_b s W)
  rw [h1] at HSP
  have hbd : 0 ≤ s.lo ∧ s.lo ≤ s.hi ∧ s.hi ≤ 60000 := by simpa [spanB] using h1
  clear h1
  obtain ⟨lo, hi⟩ := s
  simp only at *
  have hr : ∃ dd, datedD ⟨lo, hi⟩ rule = dd ∧ ((rule = 2 ∧ dd = hi + 1) ∨ (rule = 1 ∧ hi = dd)) := by
    have : rule = 1 ∨ rule = 2 := by simpa [ruleB] using h4
    rcases this with rfl | rfl
    · exact ⟨_, rfl, .inr ⟨rfl, rfl⟩⟩
    · exact ⟨_, rfl, .inl ⟨rfl, rfl⟩⟩
  obtain ⟨dd, hdd, hr⟩ := hr
  rw [hdd] at HE
  clear hdd
  unfold spv at *
  simp only at *
  obtain ⟨b1, b2, b3⟩ := hbd
  rcases hr with ⟨rfl, rfl⟩ | ⟨rfl, rfl⟩
  · by_cases h62 : 62 < hi - lo + 1
    · rw [if_pos h62] at HE
      have t62 : decide (62 < hi - lo + 1) = true := decide_eq_true h62
      go_enter Tryd.func33, Tryd.ntmps33
      go_upto_region 3 with (first | (go_at_call 71; refine (HSP.out _).mono ?_; rintro e w2 ⟨rfl, hb⟩; have HB2 := Lib.hid (below_trans (bel : Below w.heap.size w (w.alloc _)) hb); have HH2 := Lib.hid ((hb.block w.heap.size (by simp)).trans (heap_alloc_new w _)); obtain ⟨c0, c1, f0, f1, lc⟩ := cells2 HH2.out; clear hb) | (go_at_call 70; refine (isRule_any _ _).mono ?_; rw [h4]; rintro e w1 ⟨rfl, rfl⟩))
      go_quiet (fail)
      go_wp2
      refine bodyPost_ret (v := .tuple #[.int .i64 0, .int .i64 0, .int .i64 2]) ?_ rfl ?_
      · simp [results, Tryd.results33, go_sem]
      · exact ⟨by rw [HE.out]; rfl, below_dN HB2.out _⟩
    · rw [if_neg h62] at HE
      have t62 : decide (62 < hi - lo + 1) = false := decide_eq_false h62
      obtain ⟨z, hz⟩ : ∃ z, dayB (hi + 1) = z := ⟨_, rfl⟩
      cases z
      all_goals
        rw [hz] at HE
        go_enter Tryd.func33, Tryd.ntmps33
        go_upto_region 3 with (first | (go_at_call 71; refine (HSP.out _).mono ?_; rintro e w2 ⟨rfl, hb⟩; have HB2 := Lib.hid (below_trans (bel : Below w.heap.size w (w.alloc _)) hb); have HH2 := Lib.hid ((hb.block w.heap.size (by simp)).trans (heap_alloc_new w _)); obtain ⟨c0, c1, f0, f1, lc⟩ := cells2 HH2.out; clear hb) | (go_at_call 70; refine (isRule_any _ _).mono ?_; rw [h4]; rintro e w1 ⟨rfl, rfl⟩))
        go_quiet (fail)
        go_wp2_with (go_at_call 60; refine (isDay_any _ _).mono ?_; rw [hz]; rintro e w1 ⟨rfl, rfl⟩)
        first | (refine bodyPost_ret (v := .tuple #[.int .i64 0, .int .i64 0, .int .i64 3]) (by simp [results, Tryd.results33, go_sem]; done) rfl ?_; exact ⟨by rw [HE.out]; rfl, below_dN HB2.out _⟩) | (refine bodyPost_ret (v := .tuple #[.int .i64 hi, .int .i64 (hi - lo + 1), .int .i64 0]) (by simp [results, Tryd.results33, go_sem]; done) rfl ?_; exact ⟨by rw [HE.out]; rfl, below_dN HB2.out _⟩) | (refine bodyPost_ret (v := .tuple #[.int .i64 (hi + 1), .int .i64 (hi - lo + 1), .int .i64 0]) (by simp [results, Tryd.results33, go_sem]; done) rfl ?_; exact ⟨by rw [HE.out]; rfl, below_dN HB2.out _⟩)
  · by_cases h62 : 62 < hi - lo + 1
    · rw [if_pos h62] at HE
      have t62 : decide (62 < hi - lo + 1) = true := decide_eq_true h62
      go_enter Tryd.func33, Tryd.ntmps33
      go_upto_region 3 with (first | (go_at_call 71; refine (HSP.out _).mono ?_; rintro e w2 ⟨rfl, hb⟩; have HB2 := Lib.hid (below_trans (bel : Below w.heap.size w (w.alloc _)) hb); have HH2 := Lib.hid ((hb.block w.heap.size (by simp)).trans (heap_alloc_new w _)); obtain ⟨c0, c1, f0, f1, lc⟩ := cells2 HH2.out; clear hb) | (go_at_call 70; refine (isRule_any _ _).mono ?_; rw [h4]; rintro e w1 ⟨rfl, rfl⟩))
      go_quiet (fail)
      go_wp2
      refine bodyPost_ret (v := .tuple #[.int .i64 0, .int .i64 0, .int .i64 2]) ?_ rfl ?_
      · simp [results, Tryd.results33, go_sem]
      · exact ⟨by rw [HE.out]; rfl, below_dN HB2.out _⟩
    · rw [if_neg h62] at HE
      have t62 : decide (62 < hi - lo + 1) = false := decide_eq_false h62
      obtain ⟨z, hz⟩ : ∃ z, dayB hi = z := ⟨_, rfl⟩
      cases z
      all_goals
        rw [hz] at HE
        go_enter Tryd.func33, Tryd.ntmps33
        go_upto_region 3 with (first | (go_at_call 71; refine (HSP.out _).mono ?_; rintro e w2 ⟨rfl, hb⟩; have HB2 := Lib.hid (below_trans (bel : Below w.heap.size w (w.alloc _)) hb); have HH2 := Lib.hid ((hb.block w.heap.size (by simp)).trans (heap_alloc_new w _)); obtain ⟨c0, c1, f0, f1, lc⟩ := cells2 HH2.out; clear hb) | (go_at_call 70; refine (isRule_any _ _).mono ?_; rw [h4]; rintro e w1 ⟨rfl, rfl⟩))
        go_quiet (fail)
        go_wp2_with (go_at_call 60; refine (isDay_any _ _).mono ?_; rw [hz]; rintro e w1 ⟨rfl, rfl⟩)
        first | (refine bodyPost_ret (v := .tuple #[.int .i64 0, .int .i64 0, .int .i64 3]) (by simp [results, Tryd.results33, go_sem]; done) rfl ?_; exact ⟨by rw [HE.out]; rfl, below_dN HB2.out _⟩) | (refine bodyPost_ret (v := .tuple #[.int .i64 hi, .int .i64 (hi - lo + 1), .int .i64 0]) (by simp [results, Tryd.results33, go_sem]; done) rfl ?_; exact ⟨by rw [HE.out]; rfl, below_dN HB2.out _⟩) | (refine bodyPost_ret (v := .tuple #[.int .i64 (hi + 1), .int .i64 (hi - lo + 1), .int .i64 0]) (by simp [results, Tryd.results33, go_sem]; done) rfl ?_; exact ⟨by rw [HE.out]; rfl, below_dN HB2.out _⟩)
theorem Dated_any (s : Sp) (rule : Int) (w : World) : Calls Tryd.prog 33 #[spv s, .int .i64 rule] w fun e w' => e = .returned (t3v (DatedR s rule)) ∧ Below w.heap.size w w' := by
  cases h1 : spanB s
  · exact Dated_bad s rule w (by rw [h1]; rfl)
  · cases h4 : ruleB rule
    · exact Dated_bad s rule w (by rw [h1, h4]; rfl)
    · exact Dated_good s rule w h1 h4
end Go.Proofs.YteoembjghmgbhaaDoor
