/- The law DateCuts: the walk. -/
import Derived.Test.YteoembjghmgbhaaDoorV4
import Derived.Test.YteoembjghmgbhaaDoorC9
import Derived.Test.YteoembjghmgbhaaDoorR5
namespace Go.Proofs.YteoembjghmgbhaaDoor
set_option linter.all false
open Go.RowKit

set_option maxRecDepth 100000 in
set_option maxHeartbeats 1000000 in
theorem cuts_bad (s : Sp) (w : World) (hT : Tab w) (hs : spanB s = false) :
    Calls Tryd.prog 10 #[spv s] w fun e w' => e = .returned (.bool true) ∧ Below w.heap.size w w' := by
  have HT := Lib.hid hT
  have HC := Lib.hid (fun W => Cut_bad s W hs)
  have HV := Lib.hid (fun W => rValid_any s W)
  rw [hs] at HV
  clear hT hs
  obtain ⟨a, b⟩ := s
  unfold spv at *
  simp only at *
  go_enter Tryd.func10, Tryd.ntmps10
  go_wp2_with (first | (go_at_call 38; refine (HC.out _).mono ?_; rintro e w1 ⟨rfl, hb⟩; have HB1 := Lib.hid (below_trans (bel : Below w.heap.size w (w.alloc _)) hb); obtain ⟨c0, c1, _, _, lc⟩ := cells2 (lnew hb); clear hb HC) | (go_at_call 35; refine (HV.out _).mono ?_; rintro e w2 ⟨rfl, hb⟩; have HB2 := Lib.hid (below_trans HB1.out hb); clear hb HV) | (go_at_call 22; refine (sanity_any _ (HT.out.below HB2.out)).mono ?_; rintro e w9 ⟨rfl, hb⟩; have HB9 := Lib.hid (below_trans HB2.out hb); clear hb))
  go_ret
  exact ⟨by simp, HB9.out⟩
set_option maxRecDepth 100000 in
set_option maxHeartbeats 1000000 in
theorem cuts_long (s : Sp) (w : World) (hT : Tab w) (hs : spanB s = true) (hsh : 60 < (monI s.hi : Int) - (monI s.lo : Int) + 1) :
    Calls Tryd.prog 10 #[spv s] w fun e w' => e = .returned (.bool true) ∧ Below w.heap.size w w' := by
  have hsb : 0 ≤ s.lo ∧ s.lo ≤ s.hi ∧ s.hi ≤ 60000 := by simpa [spanB] using hs
  have HT := Lib.hid hT
  have HC := Lib.hid (fun W => Cut_long s W hs hsh)
  have HV := Lib.hid (fun W => rValid_any s W)
  rw [hs] at HV
  have HM1 := Lib.hid (fun W => rMonth_any s.lo W hsb.1 (by omega))
  have HM2 := Lib.hid (fun W => rMonth_any s.hi W (by omega) hsb.2.2)
  have hb1 := mon_le s.lo
  have hb2 := mon_le s.hi
  obtain ⟨m1, hm1⟩ : ∃ m1, monI s.lo = m1 := ⟨_, rfl⟩
  obtain ⟨m2, hm2⟩ : ∃ m2, monI s.hi = m2 := ⟨_, rfl⟩
  rw [hm1] at HM1 hb1 hsh
  rw [hm2] at HM2 hb2 hsh
  clear hT hs hm1 hm2 hsb
  obtain ⟨a, b⟩ := s
  unfold spv at *
  simp only at *
  have t60 : decide ((60 : Int) ≤ (m2 : Int) - (m1 : Int)) = true := decide_eq_true (by omega)
  have hw1 : IntKind.i64.wrap ((m2 : Int) - (m1 : Int)) = (m2 : Int) - (m1 : Int) := by rw [IntKind.wrap_i64]; omega
  have MK := Lib.hid True.intro
  go_enter Tryd.func10, Tryd.ntmps10
  go_upto_region 4 with (first | (go_at_call 38; refine (HC.out _).mono ?_; rintro e w1 ⟨rfl, hb⟩; have HB1 := Lib.hid (below_trans (bel : Below w.heap.size w (w.alloc _)) hb); have HX1 := Lib.hid (lnew hb); obtain ⟨c0, c1, _, _, lc⟩ := cells2 HX1.out; clear hb HC) | (go_at_call 35; refine (HV.out _).mono ?_; rintro e w2 ⟨rfl, hb⟩; have HB2 := Lib.hid (below_trans HB1.out hb); have HX2 := Lib.hid (lift0 hb HX1.out); clear hb HV))
  obtain ⟨d0, d1, _, _, ld⟩ := cells2 HX2.out
  clear c0 c1 lc
  go_quiet (first | (go_at_call_of 39 (Value.int IntKind.i64 b); refine quiet_eq (HM2.out _)) | (go_at_call_of 39 (Value.int IntKind.i64 a); refine quiet_eq (HM1.out _)))
  have HBD := Lib.hid (below_dN HB2.out nq)
  go_wp2_with (first | (go_at_call 22; refine (sanity_any _ (HT.out.below HBD.out)).mono ?_; rintro e w9 ⟨rfl, hb⟩; have HB9 := Lib.hid (below_trans HBD.out hb); clear hb))
  go_ret
  exact ⟨by simp, HB9.out⟩
set_option maxRecDepth 100000 in
set_option maxHeartbeats 1000000 in
theorem cuts_good (s : Sp) (w : World) (hT : Tab w) (hs : spanB s = true) (hsh : (monI s.hi : Int) - (monI s.lo : Int) + 1 ≤ 60) :
    Calls Tryd.prog 10 #[spv s] w fun e w' => e = .returned (.bool true) ∧ Below w.heap.size w w' := by
  have hsb : 0 ≤ s.lo ∧ s.lo ≤ s.hi ∧ s.hi ≤ 60000 := by simpa [spanB] using hs
  have HT := Lib.hid hT
  have HLL := Lib.hid (show (partsL s).length ≤ 1972 by unfold partsL; rw [partsK_len]; unfold partsN; have := mon_le s.hi; omega)
  have HC := Lib.hid (show ∀ W, Calls Tryd.prog 38 #[spv s] W fun e w' => ∃ A c, e = .returned (.tuple #[.slice A (partsL s).length c, .int .i64 0]) ∧ SpsAt w' A (partsL s) ∧ Below W.heap.size W w' from fun W => (Cut_good s W hs hsh).mono fun e w' ⟨v, h1, h2, h3⟩ => by obtain ⟨A, c, rfl, -⟩ := own_slice h2; exact ⟨A, c, h1, own_sps h2, h3⟩)
  have HR := Lib.hid (show ∀ W, Calls Tryd.prog 41 #[spv s] W fun e w' => ∃ A c, e = .returned (.slice A (partsL s).length c) ∧ SpsAt w' A (partsL s) ∧ Below W.heap.size W w' from fun W => (rCut_any s W hs).mono fun e w' ⟨v, h1, h2, h3⟩ => by obtain ⟨A, c, rfl, -⟩ := own_slice h2; exact ⟨A, c, h1, own_sps h2, h3⟩)
  have HV := Lib.hid (fun W => rValid_any s W)
  rw [hs] at HV
  have HM1 := Lib.hid (fun W => rMonth_any s.lo W hsb.1 (by omega))
  have HM2 := Lib.hid (fun W => rMonth_any s.hi W (by omega) hsb.2.2)
  have hb1 := mon_le s.lo
  have hb2 := mon_le s.hi
  obtain ⟨m1, hm1⟩ : ∃ m1, monI s.lo = m1 := ⟨_, rfl⟩
  obtain ⟨m2, hm2⟩ : ∃ m2, monI s.hi = m2 := ⟨_, rfl⟩
  obtain ⟨L, hL⟩ : ∃ L, partsL s = L := ⟨_, rfl⟩
  rw [hm1] at HM1 hb1 hsh
  rw [hm2] at HM2 hb2 hsh
  rw [hL] at HC HR HLL
  clear hT hs hm1 hm2 hsb hL
  obtain ⟨a, b⟩ := s
  unfold spv at *
  simp only at *
  have t60 : decide ((60 : Int) ≤ (m2 : Int) - (m1 : Int)) = false := decide_eq_false (by omega)
  have hw1 : IntKind.i64.wrap ((m2 : Int) - (m1 : Int)) = (m2 : Int) - (m1 : Int) := by rw [IntKind.wrap_i64]; omega
  have MK := Lib.hid True.intro
  go_enter Tryd.func10, Tryd.ntmps10
  go_upto_region 4 with (first | (go_at_call 38; refine (HC.out _).mono ?_; rintro e w1 ⟨A1, c1, rfl, hsp, hb⟩; have HB1 := Lib.hid (below_trans (bel : Below w.heap.size w (w.alloc _)) hb); have HX1 := Lib.hid (lnew hb); have HS1 := Lib.hid hsp; obtain ⟨q0, q1, _, _, lq⟩ := cells2 HX1.out; clear hb hsp HC) | (go_at_call 35; refine (HV.out _).mono ?_; rintro e w2 ⟨rfl, hb⟩; have HB2 := Lib.hid (below_trans HB1.out hb); have HX2 := Lib.hid (lift0 hb HX1.out); have HS2 := Lib.hid (HS1.out.below hb); clear hb HV))
  obtain ⟨d0, d1, _, _, ld⟩ := cells2 HX2.out
  clear q0 q1 lq
  go_quiet (first | (go_at_call_of 39 (Value.int IntKind.i64 b); refine quiet_eq (HM2.out _)) | (go_at_call_of 39 (Value.int IntKind.i64 a); refine quiet_eq (HM1.out _)))
  have HBD := Lib.hid (below_dN HB2.out nq)
  have HSD := Lib.hid (HS2.out.below (below_dN (Below.refl _ _) nq))
  have HXD := Lib.hid (show (w2.drewN nq).heap[w.heap.size]? = some (.cells #[.int .i64 a, .int .i64 b] 37 (0, 0)) from HX2.out)
  go_wp2_with (first | (go_at_call 22; refine (sanity_any _ (HT.out.below HBD.out)).mono ?_; rintro e w3 ⟨rfl, hb⟩; have HB3 := Lib.hid (below_trans HBD.out hb); have HS3 := Lib.hid (HSD.out.below hb); obtain ⟨r0, r1, _, _, lr⟩ := cells2 (lift0 hb HXD.out); clear hb) | (go_at_call 41; refine (HR.out _).mono ?_; rintro e w4 ⟨A4, c4, rfl, hsp, hb⟩; have HB4 := Lib.hid (below_trans HB3.out hb); have HS4 := Lib.hid (HS3.out.below hb); have HR4 := Lib.hid hsp; clear hb hsp) | (go_at_call 40; refine (rSame_any A1 c1 L A4 c4 L _ (by have := HLL.out; omega) HS4.out HR4.out).mono ?_; rintro e w9 ⟨rfl, hb⟩; have HB9 := Lib.hid (below_trans HB4.out hb); clear hb))
  all_goals
    go_ret
    exact ⟨by simp, HB9.out⟩
theorem cuts_walk (s : Sp) (w : World) (hT : Tab w) (_ : -9223372036854775808 ≤ s.lo ∧ s.lo ≤ 9223372036854775807) (_ : -9223372036854775808 ≤ s.hi ∧ s.hi ≤ 9223372036854775807) :
    Calls Tryd.prog 10 #[spv s] w fun e w' => e = .returned (.bool true) ∧ Below w.heap.size w w' := by
  cases hs : spanB s
  · exact cuts_bad s w hT hs
  · by_cases h : 60 < (monI s.hi : Int) - (monI s.lo : Int) + 1
    · exact cuts_long s w hT hs h
    · exact cuts_good s w hT hs (by omega)
end Go.Proofs.YteoembjghmgbhaaDoor
