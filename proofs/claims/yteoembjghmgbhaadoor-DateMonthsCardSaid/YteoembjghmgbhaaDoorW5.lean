/- The law DateLumps: the walk. -/
import Derived.Test.YteoembjghmgbhaaDoorW4
namespace Go.Proofs.YteoembjghmgbhaaDoor
set_option linter.all false
open Go.RowKit

theorem cov_cases (day days rule : Int) : (coversG day days rule = true ∧ spanB (coversS day days rule) = true ∧ CoversR day days rule = (coversS day days rule, 0)) ∨ (∃ e, e ≠ 0 ∧ CoversR day days rule = (⟨0, 0⟩, e) ∧ ¬ (coversG day days rule = true ∧ spanB (coversS day days rule) = true)) := by
  unfold CoversR
  cases h1 : coversG day days rule
  · exact .inr ⟨1, by decide, rfl, by simp⟩
  · cases h2 : spanB (coversS day days rule)
    · exact .inr ⟨3, by decide, rfl, by simp⟩
    · exact .inl ⟨rfl, rfl, rfl⟩
theorem cov_facts (day days rule : Int) : (coversG day days rule = true ∧ spanB (coversS day days rule) = true) ↔ ((0 ≤ day ∧ day ≤ 60000) ∧ 1 ≤ days ∧ days ≤ 62 ∧ ((rule = 1 ∧ 0 ≤ day - days + 1) ∨ (rule = 2 ∧ 0 ≤ day - days))) := by
  unfold coversG spanB coversS dayB ruleB
  constructor
  · rintro ⟨h1, h2⟩
    simp only [Bool.and_eq_true, decide_eq_true_eq, Bool.or_eq_true, beq_iff_eq] at h1
    obtain ⟨⟨a1, a2⟩, a3, a4, hr⟩ := h1
    rcases hr with rfl | rfl
    · rw [if_neg (by decide)] at h2
      simp only [Bool.and_eq_true, decide_eq_true_eq] at h2
      exact ⟨⟨a1, a2⟩, a3, a4, .inl ⟨rfl, h2.1⟩⟩
    · rw [if_pos rfl] at h2
      simp only [Bool.and_eq_true, decide_eq_true_eq] at h2
      exact ⟨⟨a1, a2⟩, a3, a4, .inr ⟨rfl, h2.1⟩⟩
  · rintro ⟨⟨a1, a2⟩, a3, a4, hr⟩
    rcases hr with ⟨rfl, h⟩ | ⟨rfl, h⟩
    · rw [if_neg (by decide)]
      simp [a1, a2, a3, a4, h]; omega
    · rw [if_pos rfl]
      simp [a1, a2, a3, a4, h]; omega
set_option maxRecDepth 100000 in
set_option maxHeartbeats 1000000 in
theorem lumps_bad (day m n rule e0 : Int) (w : World) (hT : Tab w) (he : e0 ≠ 0) (hc : CoversR day m rule = (⟨0, 0⟩, e0)) :
    Calls Tryd.prog 8 #[.int .i64 day, .int .i64 m, .int .i64 n, .int .i64 rule] w fun e w' => e = .returned (.bool true) ∧ Below w.heap.size w w' := by
  have HT := Lib.hid hT
  have HC := Lib.hid (fun W => Covers_any day m rule W)
  rw [hc] at HC
  unfold spv at HC
  simp only at HC
  have t0 : (e0 != 0) = true := by simpa using he
  clear hT hc he
  go_enter Tryd.func8, Tryd.ntmps8
  go_wp2_with (first | (go_at_call 32; refine (HC.out _).mono ?_; rintro e w1 ⟨rfl, hb⟩; have HB1 := Lib.hid hb; clear hb) | (go_at_call 22; refine (sanity_any _ (HT.out.below (HB1.out.alloc HB1.out.size _))).mono ?_; rintro e w6 ⟨rfl, hb⟩; have HB6 := Lib.hid (below_trans (HB1.out.alloc HB1.out.size _) hb); clear hb))
  go_ret
  exact ⟨by simp, HB6.out⟩
set_option maxRecDepth 100000 in
set_option maxHeartbeats 1000000 in
theorem lumps_out (day m n rule a1 a2 : Int) (w : World) (hT : Tab w)
    (hc1 : CoversR day m rule = (⟨a1, a2⟩, 0)) (hg : DatedR ⟨a1, a2⟩ rule = ⟨day, m, 0⟩) (ha : 0 ≤ a1 ∧ a1 ≤ a2 ∧ a2 ≤ 60000) (ham : a2 - a1 + 1 = m) (hd : 0 ≤ day ∧ day ≤ 60000) (hn : n < 1 ∨ 62 < n) :
    Calls Tryd.prog 8 #[.int .i64 day, .int .i64 m, .int .i64 n, .int .i64 rule] w fun e w' => e = .returned (.bool true) ∧ Below w.heap.size w w' := by
  have HT := Lib.hid hT
  have HC1 := Lib.hid (fun W => Covers_any day m rule W)
  rw [hc1] at HC1
  have HG := Lib.hid (fun W => Dated_any ⟨a1, a2⟩ rule W)
  rw [hg] at HG
  unfold t3v at HG
  obtain ⟨d1, d2⟩ := hd
  obtain ⟨b1, b2, b3⟩ := ha
  have wm := wrap_in (x := a2 - a1 + 1) (by omega)
  unfold spv at *
  simp only at *
  clear hT hc1 hg
  subst ham
  rcases hn with hn | hn
  · have t1 : decide (n < 1) = true := decide_eq_true hn
    go_enter Tryd.func8, Tryd.ntmps8
    go_wp2_with (first | (go_at_call 32; refine (HC1.out _).mono ?_; rintro e w1 ⟨rfl, hb⟩; have HB1 := Lib.hid hb; clear hb HC1) | (go_at_call 33; refine (HG.out _).mono ?_; rintro e w2 ⟨rfl, hb⟩; have HB2 := Lib.hid (below_trans (HB1.out.alloc HB1.out.size _) hb); have X2 := Lib.hid (lnew hb); obtain ⟨x0, x1, _, _, lx⟩ := cells2 X2.out; clear hb) | (go_at_call 22; refine (sanity_any _ (HT.out.below HB2.out)).mono ?_; rintro e w6 ⟨rfl, hb⟩; have HB6 := Lib.hid (below_trans HB2.out hb); clear hb))
    go_ret
    exact ⟨by simp, HB6.out⟩
  · have t1 : decide (n < 1) = false := decide_eq_false (by omega)
    have t2 : decide (62 < n) = true := decide_eq_true hn
    go_enter Tryd.func8, Tryd.ntmps8
    go_wp2_with (first | (go_at_call 32; refine (HC1.out _).mono ?_; rintro e w1 ⟨rfl, hb⟩; have HB1 := Lib.hid hb; clear hb HC1) | (go_at_call 33; refine (HG.out _).mono ?_; rintro e w2 ⟨rfl, hb⟩; have HB2 := Lib.hid (below_trans (HB1.out.alloc HB1.out.size _) hb); have X2 := Lib.hid (lnew hb); obtain ⟨x0, x1, _, _, lx⟩ := cells2 X2.out; clear hb) | (go_at_call 22; refine (sanity_any _ (HT.out.below HB2.out)).mono ?_; rintro e w6 ⟨rfl, hb⟩; have HB6 := Lib.hid (below_trans HB2.out hb); clear hb))
    go_ret
    exact ⟨by simp, HB6.out⟩
set_option maxRecDepth 100000 in
set_option maxHeartbeats 1000000 in
theorem lumps_in (day m n rule a1 a2 bb1 bb2 uu1 uu2 g h : Int) (w : World) (hT : Tab w)
    (hc1 : CoversR day m rule = (⟨a1, a2⟩, 0)) (hg : DatedR ⟨a1, a2⟩ rule = ⟨day, m, 0⟩) (ha : 0 ≤ a1 ∧ a1 ≤ a2 ∧ a2 ≤ 60000) (ham : a2 - a1 + 1 = m) (hd : 0 ≤ day ∧ day ≤ 60000) (hm : 1 ≤ m ∧ m ≤ 62) (hn : 1 ≤ n ∧ n ≤ 62) (hc2 : CoversR (day + n) n rule = (⟨bb1, bb2⟩, g)) (hc3 : CoversR (day + n) (m + n) rule = (⟨uu1, uu2⟩, h)) (hg0 : g = 0 → bb1 = a2 + 1) (hh0 : h = 0 → g = 0 ∧ uu1 = a1 ∧ uu2 = bb2) (hc4 : rule = 2 → CoversR (day - 1) m 1 = (⟨a1, a2⟩, 0)) :
    Calls Tryd.prog 8 #[.int .i64 day, .int .i64 m, .int .i64 n, .int .i64 rule] w fun e w' => e = .returned (.bool true) ∧ Below w.heap.size w w' := by
  have HT := Lib.hid hT
  have HC1 := Lib.hid (fun W => Covers_any day m rule W)
  rw [hc1] at HC1
  have HG := Lib.hid (fun W => Dated_any ⟨a1, a2⟩ rule W)
  rw [hg] at HG
  unfold t3v at HG
  obtain ⟨d1, d2⟩ := hd
  obtain ⟨b1, b2, b3⟩ := ha
  have wm := wrap_in (x := a2 - a1 + 1) (by omega)
  have HC2 := Lib.hid (fun W => Covers_any (day + n) n rule W)
  rw [hc2] at HC2
  have HC3 := Lib.hid (fun W => Covers_any (day + n) (m + n) rule W)
  rw [hc3] at HC3
  have t1 : decide (n < 1) = false := decide_eq_false (by omega)
  have t2 : decide (62 < n) = false := decide_eq_false (by omega)
  obtain ⟨hm1, hm2⟩ := hm
  obtain ⟨hn1, hn2⟩ := hn
  have z37 := sneq37 a1 a2
  have z38 := sneq37 a1 bb2
  have HC4 := Lib.hid (fun (hr : rule = 2) W => Covers_any (day - 1) m 1 W)
  have HQ4 := Lib.hid hc4
  clear hT hc1 hg hc2 hc3 hc4
  unfold spv at *
  simp only at *
  have HM := Lib.hid ham
  clear ham
  by_cases hg1 : g = 0
  · have e1 := hg0 hg1
    subst hg1 e1
    by_cases hh1 : h = 0
    · obtain ⟨_, e2, e3⟩ := hh0 hh1
      subst hh1 e2 e3
      by_cases hr : rule = 2
      · have HC4 := Lib.hid (HC4.out hr)
        rw [HQ4.out hr] at HC4
        have tr : (rule == 2) = true := by simpa using hr
        clear hr hg0 hh0 HQ4
        have HM2 := HM.out
        go_enter Tryd.func8, Tryd.ntmps8
        go_wp2_with (first | (go_at_call 32; refine (HC1.out _).mono ?_; rintro e w1 ⟨rfl, hb⟩; have HB1 := Lib.hid hb; clear hb HC1) | (go_at_call 33; refine (HG.out _).mono ?_; rintro e w2 ⟨rfl, hb⟩; have HB2 := Lib.hid (below_trans (HB1.out.alloc HB1.out.size _) hb); have X2 := Lib.hid (lnew hb); obtain ⟨x0, x1, _, _, lx⟩ := cells2 X2.out; clear hb) | (go_at_call 32; refine (HC2.out _).mono ?_; rintro e w3 ⟨rfl, hb⟩; have HB3 := Lib.hid (below_trans HB2.out hb); have X3 := Lib.hid (lift0 hb X2.out); clear hb HC2) | (go_at_call 32; refine (HC3.out _).mono ?_; rintro e w4 ⟨rfl, hb⟩; have HB4 := Lib.hid (below_trans (HB3.out.alloc HB3.out.size _) hb); have X4 := Lib.hid (lift1 hb X3.out); have Y4 := Lib.hid (lnew hb); obtain ⟨c0, c1, _, _, lc⟩ := cells2 X4.out; obtain ⟨y0, y1, _, _, ly⟩ := cells2 Y4.out; clear hb HC3) | (go_at_call 32; refine (HC4.out _).mono ?_; rintro e w5 ⟨rfl, hb⟩; have HB5 := Lib.hid (below_trans (HB4.out.alloc HB4.out.size _) hb); have X5 := Lib.hid (lift1 hb X4.out); obtain ⟨d0, d1, _, _, ld⟩ := cells2 X5.out; clear hb HC4) | (go_at_call 22; refine (sanity_any _ (HT.out.below (HB5.out.alloc HB5.out.size _))).mono ?_; rintro e w6 ⟨rfl, hb⟩; have HB6 := Lib.hid (below_trans (HB5.out.alloc HB5.out.size _) hb); clear hb))
        go_ret
        exact ⟨by simp, HB6.out⟩
      · have tr : (rule == 2) = false := by simpa using hr
        clear hr hg0 hh0 HQ4 HC4
        have HM2 := HM.out
        go_enter Tryd.func8, Tryd.ntmps8
        go_wp2_with (first | (go_at_call 32; refine (HC1.out _).mono ?_; rintro e w1 ⟨rfl, hb⟩; have HB1 := Lib.hid hb; clear hb HC1) | (go_at_call 33; refine (HG.out _).mono ?_; rintro e w2 ⟨rfl, hb⟩; have HB2 := Lib.hid (below_trans (HB1.out.alloc HB1.out.size _) hb); have X2 := Lib.hid (lnew hb); obtain ⟨x0, x1, _, _, lx⟩ := cells2 X2.out; clear hb) | (go_at_call 32; refine (HC2.out _).mono ?_; rintro e w3 ⟨rfl, hb⟩; have HB3 := Lib.hid (below_trans HB2.out hb); have X3 := Lib.hid (lift0 hb X2.out); clear hb HC2) | (go_at_call 32; refine (HC3.out _).mono ?_; rintro e w4 ⟨rfl, hb⟩; have HB4 := Lib.hid (below_trans (HB3.out.alloc HB3.out.size _) hb); have X4 := Lib.hid (lift1 hb X3.out); have Y4 := Lib.hid (lnew hb); obtain ⟨c0, c1, _, _, lc⟩ := cells2 X4.out; obtain ⟨y0, y1, _, _, ly⟩ := cells2 Y4.out; clear hb HC3) | (go_at_call 22; refine (sanity_any _ (HT.out.below (HB4.out.alloc HB4.out.size _))).mono ?_; rintro e w6 ⟨rfl, hb⟩; have HB6 := Lib.hid (below_trans (HB4.out.alloc HB4.out.size _) hb); clear hb))
        go_ret
        exact ⟨by simp, HB6.out⟩
    · have th : (h == 0) = false := by simpa using hh1
      by_cases hr : rule = 2
      · have HC4 := Lib.hid (HC4.out hr)
        rw [HQ4.out hr] at HC4
        have tr : (rule == 2) = true := by simpa using hr
        clear hr hg0 hh0 HQ4 hh1
        have HM2 := HM.out
        go_enter Tryd.func8, Tryd.ntmps8
        go_wp2_with (first | (go_at_call 32; refine (HC1.out _).mono ?_; rintro e w1 ⟨rfl, hb⟩; have HB1 := Lib.hid hb; clear hb HC1) | (go_at_call 33; refine (HG.out _).mono ?_; rintro e w2 ⟨rfl, hb⟩; have HB2 := Lib.hid (below_trans (HB1.out.alloc HB1.out.size _) hb); have X2 := Lib.hid (lnew hb); obtain ⟨x0, x1, _, _, lx⟩ := cells2 X2.out; clear hb) | (go_at_call 32; refine (HC2.out _).mono ?_; rintro e w3 ⟨rfl, hb⟩; have HB3 := Lib.hid (below_trans HB2.out hb); have X3 := Lib.hid (lift0 hb X2.out); clear hb HC2) | (go_at_call 32; refine (HC3.out _).mono ?_; rintro e w4 ⟨rfl, hb⟩; have HB4 := Lib.hid (below_trans (HB3.out.alloc HB3.out.size _) hb); have X4 := Lib.hid (lift1 hb X3.out); have Y4 := Lib.hid (lnew hb); obtain ⟨c0, c1, _, _, lc⟩ := cells2 X4.out; obtain ⟨y0, y1, _, _, ly⟩ := cells2 Y4.out; clear hb HC3) | (go_at_call 32; refine (HC4.out _).mono ?_; rintro e w5 ⟨rfl, hb⟩; have HB5 := Lib.hid (below_trans (HB4.out.alloc HB4.out.size _) hb); have X5 := Lib.hid (lift1 hb X4.out); obtain ⟨d0, d1, _, _, ld⟩ := cells2 X5.out; clear hb HC4) | (go_at_call 22; refine (sanity_any _ (HT.out.below (HB5.out.alloc HB5.out.size _))).mono ?_; rintro e w6 ⟨rfl, hb⟩; have HB6 := Lib.hid (below_trans (HB5.out.alloc HB5.out.size _) hb); clear hb))
        go_ret
        exact ⟨by simp, HB6.out⟩
      · have tr : (rule == 2) = false := by simpa using hr
        clear hr hg0 hh0 HQ4 HC4 hh1
        have HM2 := HM.out
        go_enter Tryd.func8, Tryd.ntmps8
        go_wp2_with (first | (go_at_call 32; refine (HC1.out _).mono ?_; rintro e w1 ⟨rfl, hb⟩; have HB1 := Lib.hid hb; clear hb HC1) | (go_at_call 33; refine (HG.out _).mono ?_; rintro e w2 ⟨rfl, hb⟩; have HB2 := Lib.hid (below_trans (HB1.out.alloc HB1.out.size _) hb); have X2 := Lib.hid (lnew hb); obtain ⟨x0, x1, _, _, lx⟩ := cells2 X2.out; clear hb) | (go_at_call 32; refine (HC2.out _).mono ?_; rintro e w3 ⟨rfl, hb⟩; have HB3 := Lib.hid (below_trans HB2.out hb); have X3 := Lib.hid (lift0 hb X2.out); clear hb HC2) | (go_at_call 32; refine (HC3.out _).mono ?_; rintro e w4 ⟨rfl, hb⟩; have HB4 := Lib.hid (below_trans (HB3.out.alloc HB3.out.size _) hb); have X4 := Lib.hid (lift1 hb X3.out); have Y4 := Lib.hid (lnew hb); obtain ⟨c0, c1, _, _, lc⟩ := cells2 X4.out; obtain ⟨y0, y1, _, _, ly⟩ := cells2 Y4.out; clear hb HC3) | (go_at_call 22; refine (sanity_any _ (HT.out.below (HB4.out.alloc HB4.out.size _))).mono ?_; rintro e w6 ⟨rfl, hb⟩; have HB6 := Lib.hid (below_trans (HB4.out.alloc HB4.out.size _) hb); clear hb))
        go_ret
        exact ⟨by simp, HB6.out⟩
  · have tg : (g == 0) = false := by simpa using hg1
    have th : (h == 0) = false := by
      have : h ≠ 0 := fun e => hg1 (hh0 e).1
      simpa using this
    by_cases hr : rule = 2
    · have HC4 := Lib.hid (HC4.out hr)
      rw [HQ4.out hr] at HC4
      have tr : (rule == 2) = true := by simpa using hr
      clear hr hg0 hh0 HQ4 hg1
      have HM2 := HM.out
      go_enter Tryd.func8, Tryd.ntmps8
      go_wp2_with (first | (go_at_call 32; refine (HC1.out _).mono ?_; rintro e w1 ⟨rfl, hb⟩; have HB1 := Lib.hid hb; clear hb HC1) | (go_at_call 33; refine (HG.out _).mono ?_; rintro e w2 ⟨rfl, hb⟩; have HB2 := Lib.hid (below_trans (HB1.out.alloc HB1.out.size _) hb); have X2 := Lib.hid (lnew hb); obtain ⟨x0, x1, _, _, lx⟩ := cells2 X2.out; clear hb) | (go_at_call 32; refine (HC2.out _).mono ?_; rintro e w3 ⟨rfl, hb⟩; have HB3 := Lib.hid (below_trans HB2.out hb); have X3 := Lib.hid (lift0 hb X2.out); clear hb HC2) | (go_at_call 32; refine (HC3.out _).mono ?_; rintro e w4 ⟨rfl, hb⟩; have HB4 := Lib.hid (below_trans (HB3.out.alloc HB3.out.size _) hb); have X4 := Lib.hid (lift1 hb X3.out); have Y4 := Lib.hid (lnew hb); obtain ⟨c0, c1, _, _, lc⟩ := cells2 X4.out; obtain ⟨y0, y1, _, _, ly⟩ := cells2 Y4.out; clear hb HC3) | (go_at_call 32; refine (HC4.out _).mono ?_; rintro e w5 ⟨rfl, hb⟩; have HB5 := Lib.hid (below_trans (HB4.out.alloc HB4.out.size _) hb); have X5 := Lib.hid (lift1 hb X4.out); obtain ⟨d0, d1, _, _, ld⟩ := cells2 X5.out; clear hb HC4) | (go_at_call 22; refine (sanity_any _ (HT.out.below (HB5.out.alloc HB5.out.size _))).mono ?_; rintro e w6 ⟨rfl, hb⟩; have HB6 := Lib.hid (below_trans (HB5.out.alloc HB5.out.size _) hb); clear hb))
      go_ret
      exact ⟨by simp, HB6.out⟩
    · have tr : (rule == 2) = false := by simpa using hr
      clear hr hg0 hh0 HQ4 HC4 hg1
      have HM2 := HM.out
      go_enter Tryd.func8, Tryd.ntmps8
      go_wp2_with (first | (go_at_call 32; refine (HC1.out _).mono ?_; rintro e w1 ⟨rfl, hb⟩; have HB1 := Lib.hid hb; clear hb HC1) | (go_at_call 33; refine (HG.out _).mono ?_; rintro e w2 ⟨rfl, hb⟩; have HB2 := Lib.hid (below_trans (HB1.out.alloc HB1.out.size _) hb); have X2 := Lib.hid (lnew hb); obtain ⟨x0, x1, _, _, lx⟩ := cells2 X2.out; clear hb) | (go_at_call 32; refine (HC2.out _).mono ?_; rintro e w3 ⟨rfl, hb⟩; have HB3 := Lib.hid (below_trans HB2.out hb); have X3 := Lib.hid (lift0 hb X2.out); clear hb HC2) | (go_at_call 32; refine (HC3.out _).mono ?_; rintro e w4 ⟨rfl, hb⟩; have HB4 := Lib.hid (below_trans (HB3.out.alloc HB3.out.size _) hb); have X4 := Lib.hid (lift1 hb X3.out); have Y4 := Lib.hid (lnew hb); obtain ⟨c0, c1, _, _, lc⟩ := cells2 X4.out; obtain ⟨y0, y1, _, _, ly⟩ := cells2 Y4.out; clear hb HC3) | (go_at_call 22; refine (sanity_any _ (HT.out.below (HB4.out.alloc HB4.out.size _))).mono ?_; rintro e w6 ⟨rfl, hb⟩; have HB6 := Lib.hid (below_trans (HB4.out.alloc HB4.out.size _) hb); clear hb))
      go_ret
      exact ⟨by simp, HB6.out⟩
theorem lumps_walk (day m n rule : Int) (w : World) (hT : Tab w) (_ : -9223372036854775808 ≤ day ∧ day ≤ 9223372036854775807) (_ : -9223372036854775808 ≤ m ∧ m ≤ 9223372036854775807) (_ : -9223372036854775808 ≤ n ∧ n ≤ 9223372036854775807) (_ : -9223372036854775808 ≤ rule ∧ rule ≤ 9223372036854775807) :
    Calls Tryd.prog 8 #[.int .i64 day, .int .i64 m, .int .i64 n, .int .i64 rule] w fun e w' => e = .returned (.bool true) ∧ Below w.heap.size w w' := by
  rcases cov_cases day m rule with ⟨h1, h2, h3⟩ | ⟨e, he, h3, _⟩
  · obtain ⟨⟨d1, d2⟩, m1, m2, hr⟩ := (cov_facts day m rule).1 ⟨h1, h2⟩
    obtain ⟨a1, a2, hs, hlo, hhi, hm⟩ : ∃ a1 a2, coversS day m rule = ⟨a1, a2⟩ ∧ 0 ≤ a1 ∧ a2 ≤ 60000 ∧ a2 - a1 + 1 = m := by
      unfold coversS
      rcases hr with ⟨rfl, h⟩ | ⟨rfl, h⟩
      · rw [if_neg (by decide)]; exact ⟨_, _, rfl, by omega, by omega, by omega⟩
      · rw [if_pos rfl]; exact ⟨_, _, rfl, by omega, by omega, by omega⟩
    rw [hs] at h2 h3
    have hrb : ruleB rule = true := by rcases hr with ⟨rfl, _⟩ | ⟨rfl, _⟩ <;> rfl
    have hdd : datedD ⟨a1, a2⟩ rule = day := by
      unfold datedD
      unfold coversS at hs
      rcases hr with ⟨rfl, h⟩ | ⟨rfl, h⟩
      · rw [if_neg (by decide)] at hs ⊢; injection hs with e1 e2; simp only; omega
      · rw [if_pos rfl] at hs ⊢; injection hs with e1 e2; simp only; omega
    have hdt : DatedR ⟨a1, a2⟩ rule = ⟨day, m, 0⟩ := by
      unfold DatedR
      rw [h2, hrb, hdd, if_pos (by decide)]
      simp only
      rw [hm, if_neg (by omega), if_pos (by simp [dayB, d1, d2])]
    by_cases hn : n < 1 ∨ 62 < n
    · exact lumps_out day m n rule a1 a2 w hT h3 hdt ⟨hlo, by omega, hhi⟩ hm ⟨d1, d2⟩ hn
    · have hnn : 1 ≤ n ∧ n ≤ 62 := by omega
      unfold coversS at hs
      -- the second card
      have hb : ∃ b1 b2 g, CoversR (day + n) n rule = (⟨b1, b2⟩, g) ∧ (g = 0 → b1 = a2 + 1 ∧ b2 = a2 + n) ∧ (g ≠ 0 → ¬ (day + n ≤ 60000)) := by
        rcases cov_cases (day + n) n rule with ⟨g1, g2, g3⟩ | ⟨e, he, g3, g4⟩
        · refine ⟨(coversS (day + n) n rule).lo, (coversS (day + n) n rule).hi, 0, g3, fun _ => ?_, fun h => absurd rfl h⟩
          unfold coversS
          rcases hr with ⟨rfl, h⟩ | ⟨rfl, h⟩
          · rw [if_neg (by decide)] at hs ⊢; injection hs with e1 e2; simp only; omega
          · rw [if_pos rfl] at hs ⊢; injection hs with e1 e2; simp only; omega
        · refine ⟨0, 0, e, g3, fun h => absurd h he, fun _ hle => g4 ((cov_facts (day + n) n rule).2 ⟨⟨by omega, hle⟩, hnn.1, hnn.2, ?_⟩)⟩
          rcases hr with ⟨rfl, h⟩ | ⟨rfl, h⟩
          · exact .inl ⟨rfl, by omega⟩
          · exact .inr ⟨rfl, by omega⟩
      obtain ⟨b1, b2, g, hb1, hb2, hb3⟩ := hb
      have hu : ∃ u1 u2 h, CoversR (day + n) (m + n) rule = (⟨u1, u2⟩, h) ∧ (h = 0 → day + n ≤ 60000 ∧ u1 = a1 ∧ u2 = a2 + n) := by
        rcases cov_cases (day + n) (m + n) rule with ⟨g1, g2, g3⟩ | ⟨e, he, g3, g4⟩
        · refine ⟨(coversS (day + n) (m + n) rule).lo, (coversS (day + n) (m + n) rule).hi, 0, g3, fun _ => ?_⟩
          have hf := (cov_facts (day + n) (m + n) rule).1 ⟨g1, g2⟩
          refine ⟨hf.1.2, ?_⟩
          unfold coversS
          rcases hr with ⟨rfl, h⟩ | ⟨rfl, h⟩
          · rw [if_neg (by decide)] at hs ⊢; injection hs with e1 e2; simp only; omega
          · rw [if_pos rfl] at hs ⊢; injection hs with e1 e2; simp only; omega
        · exact ⟨0, 0, e, g3, fun h => absurd h he⟩
      obtain ⟨u1, u2, h, hu1, hu2⟩ := hu
      refine lumps_in day m n rule a1 a2 b1 b2 u1 u2 g h w hT h3 hdt ⟨hlo, by omega, hhi⟩ hm ⟨d1, d2⟩ ⟨m1, m2⟩ hnn hb1 hu1 (fun h0 => (hb2 h0).1) (fun h0 => ?_) (fun hr2 => ?_)
      · have h4 := hu2 h0
        have hg0 : g = 0 := by
          by_cases hg : g = 0
          · exact hg
          · exact absurd h4.1 (hb3 hg)
        exact ⟨hg0, h4.2.1, by rw [h4.2.2, (hb2 hg0).2]⟩
      · subst hr2
        rw [if_pos rfl] at hs
        injection hs with e1 e2
        have hf := (cov_facts (day - 1) m 1).2 ⟨⟨by omega, by omega⟩, m1, m2, .inl ⟨rfl, by omega⟩⟩
        unfold CoversR
        rw [hf.1, if_pos rfl, hf.2, if_pos rfl]
        unfold coversS
        rw [if_neg (by decide)]
        have e3 : day - 1 - m + 1 = a1 := by omega
        rw [e3, e2]
  · exact lumps_bad day m n rule e w hT he h3
end Go.Proofs.YteoembjghmgbhaaDoor
