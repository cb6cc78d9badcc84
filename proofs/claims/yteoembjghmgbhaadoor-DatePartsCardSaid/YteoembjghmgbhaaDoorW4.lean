/- The law DateCards: the walk. -/
import Derived.Test.YteoembjghmgbhaaDoorR5
import Derived.Test.YteoembjghmgbhaaDoorC9
namespace Go.Proofs.YteoembjghmgbhaaDoor
set_option linter.all false
open Go.RowKit

theorem sneq37 (a b : Int) (W : World) : (Go.binOp .neq 37 (.agg #[.int .i64 a, .int .i64 b]) (.agg #[.int .i64 a, .int .i64 b])).run Tryd.prog W = .ok (.bool false) W := by
  rw [run_neq_struct, eq37]
  simp [Result.andThen]
set_option maxRecDepth 100000 in
set_option maxHeartbeats 1000000 in
theorem cards_known (day days rule : Int) (s : Sp) (w : World) (hT : Tab w) (hr : ruleB rule = true) (q1 : Bool) (h1 : (rule == 1) = q1) (h2 : q1 = false → (rule == 2) = true) :
    Calls Tryd.prog 7 #[.int .i64 day, .int .i64 days, .int .i64 rule, spv s] w fun e w' => e = .returned (.bool true) ∧ Below w.heap.size w w' := by
  have HT := Lib.hid hT
  have HD := Lib.hid (fun W => rDay_any day W)
  have HV := Lib.hid (fun W => rValid_any s W)
  have HC := Lib.hid (fun W => Covers_any day days rule W)
  have HG := Lib.hid (fun W => Dated_any s rule W)
  have H2 := Lib.hid h2
  have HR := Lib.hid hr
  have z37 := sneq37 0 0
  clear hT h2 hr
  cases hd : dayB day
  · rw [hd] at HD
    rw [show CoversR day days rule = (⟨0, 0⟩, 1) by unfold CoversR coversG; rw [hd]; rfl] at HC
    unfold spv at HC
    simp only at HC
    clear hd
    cases hs : spanB s
    · rw [hs] at HV
      rw [show DatedR s rule = ⟨0, 0, 1⟩ by unfold DatedR; rw [hs]; rfl] at HG
      unfold t3v at HG
      obtain ⟨sa, sb⟩ := s
      unfold spv at *
      simp only at *
      clear hs
      cases q1
      · have h2 := H2.out rfl
        go_enter Tryd.func7, Tryd.ntmps7
        go_wp2_with (first | (go_at_call 32; refine (HC.out _).mono ?_; rintro e w1 ⟨rfl, hb⟩; have HB1 := Lib.hid (below_trans (bel : Below w.heap.size w (w.alloc _)) hb); have S1 := Lib.hid (lnew hb); obtain ⟨a0, a1, _, _, la⟩ := cells2 S1.out; clear hb) | (go_at_call 33; refine (HG.out _).mono ?_; rintro e w2 ⟨rfl, hb⟩; have HB2 := Lib.hid (below_trans (HB1.out.alloc HB1.out.size _) hb); have S2 := Lib.hid (lift1 hb S1.out); have X2 := Lib.hid (lnew hb); obtain ⟨b0, b1, _, _, lb⟩ := cells2 S2.out; obtain ⟨x0, x1, _, _, lx⟩ := cells2 X2.out; clear hb) | (go_at_call 21; refine (HD.out _).mono ?_; rintro e w9 ⟨rfl, rfl⟩) | (go_at_call 35; refine (HV.out _).mono ?_; rintro e w4 ⟨rfl, hb⟩; have HB4 := Lib.hid (below_trans HB2.out hb); have S4 := Lib.hid (lift0 hb S2.out); obtain ⟨d0, d1, _, _, ld⟩ := cells2 S4.out; clear hb) | (go_at_call 22; refine (sanity_any _ (HT.out.below HB4.out)).mono ?_; rintro e w6 ⟨rfl, hb⟩; have HB6 := Lib.hid (below_trans HB4.out hb); clear hb))
        go_ret
        exact ⟨by simp, HB6.out⟩
      · clear H2
        go_enter Tryd.func7, Tryd.ntmps7
        go_wp2_with (first | (go_at_call 32; refine (HC.out _).mono ?_; rintro e w1 ⟨rfl, hb⟩; have HB1 := Lib.hid (below_trans (bel : Below w.heap.size w (w.alloc _)) hb); have S1 := Lib.hid (lnew hb); obtain ⟨a0, a1, _, _, la⟩ := cells2 S1.out; clear hb) | (go_at_call 33; refine (HG.out _).mono ?_; rintro e w2 ⟨rfl, hb⟩; have HB2 := Lib.hid (below_trans (HB1.out.alloc HB1.out.size _) hb); have S2 := Lib.hid (lift1 hb S1.out); have X2 := Lib.hid (lnew hb); obtain ⟨b0, b1, _, _, lb⟩ := cells2 S2.out; obtain ⟨x0, x1, _, _, lx⟩ := cells2 X2.out; clear hb) | (go_at_call 21; refine (HD.out _).mono ?_; rintro e w9 ⟨rfl, rfl⟩) | (go_at_call 35; refine (HV.out _).mono ?_; rintro e w4 ⟨rfl, hb⟩; have HB4 := Lib.hid (below_trans HB2.out hb); have S4 := Lib.hid (lift0 hb S2.out); obtain ⟨d0, d1, _, _, ld⟩ := cells2 S4.out; clear hb) | (go_at_call 22; refine (sanity_any _ (HT.out.below HB4.out)).mono ?_; rintro e w6 ⟨rfl, hb⟩; have HB6 := Lib.hid (below_trans HB4.out hb); clear hb))
        go_ret
        exact ⟨by simp, HB6.out⟩
    · rw [hs] at HV
      rw [dated_same s rule hs HR.out] at HG
      have HRD := Lib.hid (fun W => rDated_any s rule W hs)
      generalize rdatedR s rule = t at *
      obtain ⟨ta, tb, te⟩ := t
      unfold t3v at HRD
      simp only at HRD
      unfold t3v at HG
      obtain ⟨sa, sb⟩ := s
      unfold spv at *
      simp only at *
      clear hs
      cases q1
      · have h2 := H2.out rfl
        go_enter Tryd.func7, Tryd.ntmps7
        go_wp2_with (first | (go_at_call 32; refine (HC.out _).mono ?_; rintro e w1 ⟨rfl, hb⟩; have HB1 := Lib.hid (below_trans (bel : Below w.heap.size w (w.alloc _)) hb); have S1 := Lib.hid (lnew hb); obtain ⟨a0, a1, _, _, la⟩ := cells2 S1.out; clear hb) | (go_at_call 33; refine (HG.out _).mono ?_; rintro e w2 ⟨rfl, hb⟩; have HB2 := Lib.hid (below_trans (HB1.out.alloc HB1.out.size _) hb); have S2 := Lib.hid (lift1 hb S1.out); have X2 := Lib.hid (lnew hb); obtain ⟨b0, b1, _, _, lb⟩ := cells2 S2.out; obtain ⟨x0, x1, _, _, lx⟩ := cells2 X2.out; clear hb) | (go_at_call 21; refine (HD.out _).mono ?_; rintro e w9 ⟨rfl, rfl⟩) | (go_at_call 35; refine (HV.out _).mono ?_; rintro e w4 ⟨rfl, hb⟩; have HB4 := Lib.hid (below_trans HB2.out hb); have S4 := Lib.hid (lift0 hb S2.out); obtain ⟨d0, d1, _, _, ld⟩ := cells2 S4.out; clear hb) | (go_at_call 36; refine (HRD.out _).mono ?_; rintro e w5 ⟨rfl, hb⟩; have HB5 := Lib.hid (below_trans HB4.out hb); clear hb) | (go_at_call 22; refine (sanity_any _ (HT.out.below HB5.out)).mono ?_; rintro e w6 ⟨rfl, hb⟩; have HB6 := Lib.hid (below_trans HB5.out hb); clear hb))
        go_ret
        exact ⟨by simp, HB6.out⟩
      · clear H2
        go_enter Tryd.func7, Tryd.ntmps7
        go_wp2_with (first | (go_at_call 32; refine (HC.out _).mono ?_; rintro e w1 ⟨rfl, hb⟩; have HB1 := Lib.hid (below_trans (bel : Below w.heap.size w (w.alloc _)) hb); have S1 := Lib.hid (lnew hb); obtain ⟨a0, a1, _, _, la⟩ := cells2 S1.out; clear hb) | (go_at_call 33; refine (HG.out _).mono ?_; rintro e w2 ⟨rfl, hb⟩; have HB2 := Lib.hid (below_trans (HB1.out.alloc HB1.out.size _) hb); have S2 := Lib.hid (lift1 hb S1.out); have X2 := Lib.hid (lnew hb); obtain ⟨b0, b1, _, _, lb⟩ := cells2 S2.out; obtain ⟨x0, x1, _, _, lx⟩ := cells2 X2.out; clear hb) | (go_at_call 21; refine (HD.out _).mono ?_; rintro e w9 ⟨rfl, rfl⟩) | (go_at_call 35; refine (HV.out _).mono ?_; rintro e w4 ⟨rfl, hb⟩; have HB4 := Lib.hid (below_trans HB2.out hb); have S4 := Lib.hid (lift0 hb S2.out); obtain ⟨d0, d1, _, _, ld⟩ := cells2 S4.out; clear hb) | (go_at_call 36; refine (HRD.out _).mono ?_; rintro e w5 ⟨rfl, hb⟩; have HB5 := Lib.hid (below_trans HB4.out hb); clear hb) | (go_at_call 22; refine (sanity_any _ (HT.out.below HB5.out)).mono ?_; rintro e w6 ⟨rfl, hb⟩; have HB6 := Lib.hid (below_trans HB5.out hb); clear hb))
        go_ret
        exact ⟨by simp, HB6.out⟩
  · rw [hd] at HD
    have hdd : 0 ≤ day ∧ day ≤ 60000 := by simpa [dayB] using hd
    rw [covers_same day days rule hd HR.out] at HC
    have HRC := Lib.hid (fun W => rCovers_any day days rule W hdd)
    generalize rcoversR day days rule = q at *
    obtain ⟨⟨ca, cb⟩, ce⟩ := q
    unfold spv at HC HRC
    simp only at HC HRC
    have y37 := sneq37 ca cb
    clear hd hdd
    cases hs : spanB s
    · rw [hs] at HV
      rw [show DatedR s rule = ⟨0, 0, 1⟩ by unfold DatedR; rw [hs]; rfl] at HG
      unfold t3v at HG
      obtain ⟨sa, sb⟩ := s
      unfold spv at *
      simp only at *
      clear hs
      cases q1
      · have h2 := H2.out rfl
        go_enter Tryd.func7, Tryd.ntmps7
        go_wp2_with (first | (go_at_call 32; refine (HC.out _).mono ?_; rintro e w1 ⟨rfl, hb⟩; have HB1 := Lib.hid (below_trans (bel : Below w.heap.size w (w.alloc _)) hb); have S1 := Lib.hid (lnew hb); obtain ⟨a0, a1, _, _, la⟩ := cells2 S1.out; clear hb) | (go_at_call 33; refine (HG.out _).mono ?_; rintro e w2 ⟨rfl, hb⟩; have HB2 := Lib.hid (below_trans (HB1.out.alloc HB1.out.size _) hb); have S2 := Lib.hid (lift1 hb S1.out); have X2 := Lib.hid (lnew hb); obtain ⟨b0, b1, _, _, lb⟩ := cells2 S2.out; obtain ⟨x0, x1, _, _, lx⟩ := cells2 X2.out; clear hb) | (go_at_call 21; refine (HD.out _).mono ?_; rintro e w9 ⟨rfl, rfl⟩) | (go_at_call 34; refine (HRC.out _).mono ?_; rintro e w3 ⟨rfl, hb⟩; have HB3 := Lib.hid (below_trans HB2.out hb); have S3 := Lib.hid (lift0 hb S2.out); have X3 := Lib.hid (lift0 hb X2.out); obtain ⟨c0, c1, _, _, lc⟩ := cells2 S3.out; obtain ⟨y0, y1, _, _, ly⟩ := cells2 X3.out; clear hb) | (go_at_call 35; refine (HV.out _).mono ?_; rintro e w4 ⟨rfl, hb⟩; have HB4 := Lib.hid (below_trans (HB3.out.alloc HB3.out.size _) hb); have S4 := Lib.hid (lift1 hb S3.out); obtain ⟨d0, d1, _, _, ld⟩ := cells2 S4.out; clear hb) | (go_at_call 22; refine (sanity_any _ (HT.out.below HB4.out)).mono ?_; rintro e w6 ⟨rfl, hb⟩; have HB6 := Lib.hid (below_trans HB4.out hb); clear hb))
        go_ret
        exact ⟨by simp, HB6.out⟩
      · clear H2
        go_enter Tryd.func7, Tryd.ntmps7
        go_wp2_with (first | (go_at_call 32; refine (HC.out _).mono ?_; rintro e w1 ⟨rfl, hb⟩; have HB1 := Lib.hid (below_trans (bel : Below w.heap.size w (w.alloc _)) hb); have S1 := Lib.hid (lnew hb); obtain ⟨a0, a1, _, _, la⟩ := cells2 S1.out; clear hb) | (go_at_call 33; refine (HG.out _).mono ?_; rintro e w2 ⟨rfl, hb⟩; have HB2 := Lib.hid (below_trans (HB1.out.alloc HB1.out.size _) hb); have S2 := Lib.hid (lift1 hb S1.out); have X2 := Lib.hid (lnew hb); obtain ⟨b0, b1, _, _, lb⟩ := cells2 S2.out; obtain ⟨x0, x1, _, _, lx⟩ := cells2 X2.out; clear hb) | (go_at_call 21; refine (HD.out _).mono ?_; rintro e w9 ⟨rfl, rfl⟩) | (go_at_call 34; refine (HRC.out _).mono ?_; rintro e w3 ⟨rfl, hb⟩; have HB3 := Lib.hid (below_trans HB2.out hb); have S3 := Lib.hid (lift0 hb S2.out); have X3 := Lib.hid (lift0 hb X2.out); obtain ⟨c0, c1, _, _, lc⟩ := cells2 S3.out; obtain ⟨y0, y1, _, _, ly⟩ := cells2 X3.out; clear hb) | (go_at_call 35; refine (HV.out _).mono ?_; rintro e w4 ⟨rfl, hb⟩; have HB4 := Lib.hid (below_trans (HB3.out.alloc HB3.out.size _) hb); have S4 := Lib.hid (lift1 hb S3.out); obtain ⟨d0, d1, _, _, ld⟩ := cells2 S4.out; clear hb) | (go_at_call 22; refine (sanity_any _ (HT.out.below HB4.out)).mono ?_; rintro e w6 ⟨rfl, hb⟩; have HB6 := Lib.hid (below_trans HB4.out hb); clear hb))
        go_ret
        exact ⟨by simp, HB6.out⟩
    · rw [hs] at HV
      rw [dated_same s rule hs HR.out] at HG
      have HRD := Lib.hid (fun W => rDated_any s rule W hs)
      generalize rdatedR s rule = t at *
      obtain ⟨ta, tb, te⟩ := t
      unfold t3v at HRD
      simp only at HRD
      unfold t3v at HG
      obtain ⟨sa, sb⟩ := s
      unfold spv at *
      simp only at *
      clear hs
      cases q1
      · have h2 := H2.out rfl
        go_enter Tryd.func7, Tryd.ntmps7
        go_wp2_with (first | (go_at_call 32; refine (HC.out _).mono ?_; rintro e w1 ⟨rfl, hb⟩; have HB1 := Lib.hid (below_trans (bel : Below w.heap.size w (w.alloc _)) hb); have S1 := Lib.hid (lnew hb); obtain ⟨a0, a1, _, _, la⟩ := cells2 S1.out; clear hb) | (go_at_call 33; refine (HG.out _).mono ?_; rintro e w2 ⟨rfl, hb⟩; have HB2 := Lib.hid (below_trans (HB1.out.alloc HB1.out.size _) hb); have S2 := Lib.hid (lift1 hb S1.out); have X2 := Lib.hid (lnew hb); obtain ⟨b0, b1, _, _, lb⟩ := cells2 S2.out; obtain ⟨x0, x1, _, _, lx⟩ := cells2 X2.out; clear hb) | (go_at_call 21; refine (HD.out _).mono ?_; rintro e w9 ⟨rfl, rfl⟩) | (go_at_call 34; refine (HRC.out _).mono ?_; rintro e w3 ⟨rfl, hb⟩; have HB3 := Lib.hid (below_trans HB2.out hb); have S3 := Lib.hid (lift0 hb S2.out); have X3 := Lib.hid (lift0 hb X2.out); obtain ⟨c0, c1, _, _, lc⟩ := cells2 S3.out; obtain ⟨y0, y1, _, _, ly⟩ := cells2 X3.out; clear hb) | (go_at_call 35; refine (HV.out _).mono ?_; rintro e w4 ⟨rfl, hb⟩; have HB4 := Lib.hid (below_trans (HB3.out.alloc HB3.out.size _) hb); have S4 := Lib.hid (lift1 hb S3.out); obtain ⟨d0, d1, _, _, ld⟩ := cells2 S4.out; clear hb) | (go_at_call 36; refine (HRD.out _).mono ?_; rintro e w5 ⟨rfl, hb⟩; have HB5 := Lib.hid (below_trans HB4.out hb); clear hb) | (go_at_call 22; refine (sanity_any _ (HT.out.below HB5.out)).mono ?_; rintro e w6 ⟨rfl, hb⟩; have HB6 := Lib.hid (below_trans HB5.out hb); clear hb))
        go_ret
        exact ⟨by simp, HB6.out⟩
      · clear H2
        go_enter Tryd.func7, Tryd.ntmps7
        go_wp2_with (first | (go_at_call 32; refine (HC.out _).mono ?_; rintro e w1 ⟨rfl, hb⟩; have HB1 := Lib.hid (below_trans (bel : Below w.heap.size w (w.alloc _)) hb); have S1 := Lib.hid (lnew hb); obtain ⟨a0, a1, _, _, la⟩ := cells2 S1.out; clear hb) | (go_at_call 33; refine (HG.out _).mono ?_; rintro e w2 ⟨rfl, hb⟩; have HB2 := Lib.hid (below_trans (HB1.out.alloc HB1.out.size _) hb); have S2 := Lib.hid (lift1 hb S1.out); have X2 := Lib.hid (lnew hb); obtain ⟨b0, b1, _, _, lb⟩ := cells2 S2.out; obtain ⟨x0, x1, _, _, lx⟩ := cells2 X2.out; clear hb) | (go_at_call 21; refine (HD.out _).mono ?_; rintro e w9 ⟨rfl, rfl⟩) | (go_at_call 34; refine (HRC.out _).mono ?_; rintro e w3 ⟨rfl, hb⟩; have HB3 := Lib.hid (below_trans HB2.out hb); have S3 := Lib.hid (lift0 hb S2.out); have X3 := Lib.hid (lift0 hb X2.out); obtain ⟨c0, c1, _, _, lc⟩ := cells2 S3.out; obtain ⟨y0, y1, _, _, ly⟩ := cells2 X3.out; clear hb) | (go_at_call 35; refine (HV.out _).mono ?_; rintro e w4 ⟨rfl, hb⟩; have HB4 := Lib.hid (below_trans (HB3.out.alloc HB3.out.size _) hb); have S4 := Lib.hid (lift1 hb S3.out); obtain ⟨d0, d1, _, _, ld⟩ := cells2 S4.out; clear hb) | (go_at_call 36; refine (HRD.out _).mono ?_; rintro e w5 ⟨rfl, hb⟩; have HB5 := Lib.hid (below_trans HB4.out hb); clear hb) | (go_at_call 22; refine (sanity_any _ (HT.out.below HB5.out)).mono ?_; rintro e w6 ⟨rfl, hb⟩; have HB6 := Lib.hid (below_trans HB5.out hb); clear hb))
        go_ret
        exact ⟨by simp, HB6.out⟩
set_option maxRecDepth 100000 in
set_option maxHeartbeats 1000000 in
theorem cards_unknown (day days rule : Int) (s : Sp) (w : World) (hT : Tab w) (hr : ruleB rule = false) :
    Calls Tryd.prog 7 #[.int .i64 day, .int .i64 days, .int .i64 rule, spv s] w fun e w' => e = .returned (.bool true) ∧ Below w.heap.size w w' := by
  have HT := Lib.hid hT
  have h12 : (rule == 1) = false ∧ (rule == 2) = false := by simpa [ruleB] using hr
  obtain ⟨h1, h2⟩ := h12
  have HC := Lib.hid (fun W => Covers_any day days rule W)
  rw [show CoversR day days rule = (⟨0, 0⟩, 1) by unfold CoversR coversG; rw [hr]; simp] at HC
  have HG := Lib.hid (fun W => Dated_any s rule W)
  rw [show DatedR s rule = ⟨0, 0, 1⟩ by unfold DatedR; rw [hr]; simp] at HG
  have z37 := sneq37 0 0
  clear hT hr
  unfold t3v at HG
  obtain ⟨sa, sb⟩ := s
  unfold spv at *
  simp only at *
  go_enter Tryd.func7, Tryd.ntmps7
  go_wp2_with (first | (go_at_call 32; refine (HC.out _).mono ?_; rintro e w1 ⟨rfl, hb⟩; have HB1 := Lib.hid (below_trans (bel : Below w.heap.size w (w.alloc _)) hb); have S1 := Lib.hid (lnew hb); obtain ⟨a0, a1, _, _, la⟩ := cells2 S1.out; clear hb) | (go_at_call 33; refine (HG.out _).mono ?_; rintro e w2 ⟨rfl, hb⟩; have HB2 := Lib.hid (below_trans (HB1.out.alloc HB1.out.size _) hb); have S2 := Lib.hid (lift1 hb S1.out); have X2 := Lib.hid (lnew hb); obtain ⟨b0, b1, _, _, lb⟩ := cells2 S2.out; obtain ⟨x0, x1, _, _, lx⟩ := cells2 X2.out; clear hb) | (go_at_call 22; refine (sanity_any _ (HT.out.below HB2.out)).mono ?_; rintro e w6 ⟨rfl, hb⟩; have HB6 := Lib.hid (below_trans HB2.out hb); clear hb))
  go_ret
  exact ⟨by simp, HB6.out⟩
theorem cards_walk (day days rule : Int) (s : Sp) (w : World) (hT : Tab w) (_ : -9223372036854775808 ≤ day ∧ day ≤ 9223372036854775807) (_ : -9223372036854775808 ≤ days ∧ days ≤ 9223372036854775807) (_ : -9223372036854775808 ≤ rule ∧ rule ≤ 9223372036854775807) (_ : -9223372036854775808 ≤ s.lo ∧ s.lo ≤ 9223372036854775807) (_ : -9223372036854775808 ≤ s.hi ∧ s.hi ≤ 9223372036854775807) :
    Calls Tryd.prog 7 #[.int .i64 day, .int .i64 days, .int .i64 rule, spv s] w fun e w' => e = .returned (.bool true) ∧ Below w.heap.size w w' := by
  cases hr : ruleB rule
  · exact cards_unknown day days rule s w hT hr
  · refine cards_known day days rule s w hT hr (rule == 1) rfl (fun h => ?_)
    simpa [ruleB, h] using hr
end Go.Proofs.YteoembjghmgbhaaDoor
