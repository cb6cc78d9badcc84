/- The law DateTexts: the walk. -/
import Derived.Test.YteoembjghmgbhaaGreatDoorZ10
namespace Go.Proofs.YteoembjghmgbhaaGreatDoor
set_option linter.all false
open Go.RowKit

set_option maxRecDepth 100000 in
set_option maxHeartbeats 1000000 in
theorem texts_huge (d : Dt) (L : List UInt8) (w : World) (hT : Tab w) (hl : 40 < L.length) :
    Calls Tryz.prog 3 #[dtv d, .string ⟨L.toArray⟩] w fun e w' => e = .returned (.bool true) ∧ Below w.heap.size w w' := by
  have HT := Lib.hid hT
  have t : decide ((40 : Int) < (L.length : Int)) = true := decide_eq_true (by omega)
  clear hT hl
  obtain ⟨y, m, d⟩ := d
  unfold dtv
  simp only
  go_enter Tryz.func3, Tryz.ntmps3
  go_wp2_with (first | (go_at_call 5; refine (sanity_any _ (HT.out.below bel)).mono ?_; rintro e w9 ⟨rfl, hb⟩; have HB9 := Lib.hid (below_trans (bel : Below w.heap.size w (w.alloc _)) hb); clear hb))
  go_ret
  exact ⟨rfl, HB9.out⟩
set_option maxRecDepth 100000 in
set_option maxHeartbeats 1000000 in
theorem texts_ok (d : Dt) (L : List UInt8) (X : Dt) (f0 : Int) (b0 : Bool) (w : World) (hT : Tab w) (hl : L.length ≤ 40) (ho : okD d = true)
    (hP : ∀ W, Below w.heap.size w W → Calls Tryz.prog 7 #[.string ⟨L.toArray⟩] W fun e w' => e = .returned (.tuple #[dtv X, .int .i64 f0]) ∧ Below W.heap.size W w')
    (hR : ∀ W, Calls Tryz.prog 8 #[.string ⟨L.toArray⟩] W fun e w' => e = .returned (.tuple #[dtv X, .bool b0]) ∧ Below W.heap.size W w')
    (hfb : (b0 = true ∧ f0 = 0) ∨ (b0 = false ∧ f0 = 7)) :
    Calls Tryz.prog 3 #[dtv d, .string ⟨L.toArray⟩] w fun e w' => e = .returned (.bool true) ∧ Below w.heap.size w w' := by
  have HT := Lib.hid hT
  have HQ := Lib.hid hP
  have HR := Lib.hid hR
  have HP := Lib.hid (fun W (hT : Tab W) => Print_good d W hT ho)
  have HRP := Lib.hid (fun W => rPrint_good d W ho)
  have HN := Lib.hid (fun W => rNumber_any d W)
  have hn0 : 0 ≤ numI d := (okD_num d).elim (fun h => h.2.2) (fun h => by rw [ho] at h; cases h.1)
  have t : decide ((40 : Int) < (L.length : Int)) = false := decide_eq_false (by omega)
  have tn : decide (numI d < 0) = false := decide_eq_false (by omega)
  generalize numI d = nn at *
  generalize printL d = P at *
  clear hT hP hR hl ho
  obtain ⟨y, m, d⟩ := d
  obtain ⟨x1, x2, x3⟩ := X
  have z23 := sneq23 x1 x2 x3
  unfold dtv at *
  simp only at *
  rcases hfb with ⟨rfl, rfl⟩ | ⟨rfl, rfl⟩
  all_goals
    go_enter Tryz.func3, Tryz.ntmps3
    go_wp2_with (first | (go_at_call 6; refine (HP.out _ (HT.out.below bel)).mono ?_; rintro e w1 ⟨rfl, hb⟩; have HB1 := Lib.hid (below_trans (bel : Below w.heap.size w (w.alloc _)) hb); have HX1 := Lib.hid (lnew hb); clear hb) | (go_at_call 7; refine (HQ.out _ HB1.out).mono ?_; rintro e w2 ⟨rfl, hb⟩; have HB2 := Lib.hid (below_trans HB1.out hb); have HX2 := Lib.hid (lift0 hb HX1.out); clear hb) | (go_at_call 8; refine (HR.out _).mono ?_; rintro e w3 ⟨rfl, hb⟩; have HB3 := Lib.hid (below_trans (HB2.out.alloc HB2.out.size _) hb); have HX3 := Lib.hid (lift1 hb HX2.out); have HY3 := Lib.hid (lnew hb); obtain ⟨a0, a1, a2, _, _, _, la⟩ := cells3 HX3.out; obtain ⟨c0, c1, c2, _, _, _, lc⟩ := cells3 HY3.out; clear hb) | (go_at_call 9; refine (HN.out _).mono ?_; rintro e w4 ⟨rfl, hb⟩; have HB4 := Lib.hid (below_trans (HB3.out.alloc HB3.out.size _) hb); have HX4 := Lib.hid (lift1 hb HX3.out); clear hb) | (go_at_call 5; refine (sanity_any _ (HT.out.below HB4.out)).mono ?_; rintro e w5 ⟨rfl, hb⟩; have HB5 := Lib.hid (below_trans HB4.out hb); have HX5 := Lib.hid (lift0 hb HX4.out); obtain ⟨e0, e1, e2, _, _, _, le⟩ := cells3 HX5.out; clear hb) | (go_at_call 10; refine (HRP.out _).mono ?_; rintro e w6 ⟨rfl, hb⟩; have HB6 := Lib.hid (below_trans HB5.out hb); clear hb))
    go_ret
    exact ⟨by simp, HB6.out⟩
set_option maxRecDepth 100000 in
set_option maxHeartbeats 1000000 in
theorem texts_no (d : Dt) (L : List UInt8) (X : Dt) (f0 : Int) (b0 : Bool) (w : World) (hT : Tab w) (hl : L.length ≤ 40) (ho : okD d = false)
    (hP : ∀ W, Below w.heap.size w W → Calls Tryz.prog 7 #[.string ⟨L.toArray⟩] W fun e w' => e = .returned (.tuple #[dtv X, .int .i64 f0]) ∧ Below W.heap.size W w')
    (hR : ∀ W, Calls Tryz.prog 8 #[.string ⟨L.toArray⟩] W fun e w' => e = .returned (.tuple #[dtv X, .bool b0]) ∧ Below W.heap.size W w')
    (hfb : (b0 = true ∧ f0 = 0) ∨ (b0 = false ∧ f0 = 7)) :
    Calls Tryz.prog 3 #[dtv d, .string ⟨L.toArray⟩] w fun e w' => e = .returned (.bool true) ∧ Below w.heap.size w w' := by
  have HT := Lib.hid hT
  have HQ := Lib.hid hP
  have HR := Lib.hid hR
  have HP := Lib.hid (fun W => Print_bad d W ho)
  have HN := Lib.hid (fun W => rNumber_any d W)
  have hn0 : numI d = -1 := (okD_num d).elim (fun h => by rw [ho] at h; cases h.1) (fun h => h.2)
  rw [hn0] at HN
  have t : decide ((40 : Int) < (L.length : Int)) = false := decide_eq_false (by omega)
  clear hT hP hR hl ho hn0
  obtain ⟨y, m, d⟩ := d
  obtain ⟨x1, x2, x3⟩ := X
  have z23 := sneq23 x1 x2 x3
  unfold dtv at *
  simp only at *
  rcases hfb with ⟨rfl, rfl⟩ | ⟨rfl, rfl⟩
  all_goals
    go_enter Tryz.func3, Tryz.ntmps3
    go_wp2_with (first | (go_at_call 6; refine (HP.out _).mono ?_; rintro e w1 ⟨rfl, hb⟩; have HB1 := Lib.hid (below_trans (bel : Below w.heap.size w (w.alloc _)) hb); have HX1 := Lib.hid (lnew hb); clear hb) | (go_at_call 7; refine (HQ.out _ HB1.out).mono ?_; rintro e w2 ⟨rfl, hb⟩; have HB2 := Lib.hid (below_trans HB1.out hb); have HX2 := Lib.hid (lift0 hb HX1.out); clear hb) | (go_at_call 8; refine (HR.out _).mono ?_; rintro e w3 ⟨rfl, hb⟩; have HB3 := Lib.hid (below_trans (HB2.out.alloc HB2.out.size _) hb); have HX3 := Lib.hid (lift1 hb HX2.out); have HY3 := Lib.hid (lnew hb); obtain ⟨a0, a1, a2, _, _, _, la⟩ := cells3 HX3.out; obtain ⟨c0, c1, c2, _, _, _, lc⟩ := cells3 HY3.out; clear hb) | (go_at_call 9; refine (HN.out _).mono ?_; rintro e w4 ⟨rfl, hb⟩; have HB4 := Lib.hid (below_trans (HB3.out.alloc HB3.out.size _) hb); clear hb) | (go_at_call 5; refine (sanity_any _ (HT.out.below HB4.out)).mono ?_; rintro e w5 ⟨rfl, hb⟩; have HB5 := Lib.hid (below_trans HB4.out hb); clear hb))
    go_ret
    exact ⟨by first | rfl | simp, HB5.out⟩
theorem texts_walk (d : Dt) (L : List UInt8) (w : World) (hT : Tab w) (hV : Vars w) :
    Calls Tryz.prog 3 #[dtv d, .string ⟨L.toArray⟩] w fun e w' => e = .returned (.bool true) ∧ Below w.heap.size w w' := by
  by_cases hl : 40 < L.length
  · exact texts_huge d L w hT hl
  · obtain ⟨r, hr⟩ := reads_ex L
    have hP : ∀ W, Below w.heap.size w W → Calls Tryz.prog 7 #[.string ⟨L.toArray⟩] W fun e w' => e = .returned (.tuple #[dtv (r.getD zeroD), .int .i64 (errP r)]) ∧ Below W.heap.size W w' := fun W hW => Parse_any L r hr (by omega) W (hT.below hW) (hV.below hW)
    have hfb : (r.isSome = true ∧ errP r = 0) ∨ (r.isSome = false ∧ errP r = 7) := by cases r <;> simp [errP]
    cases ho : okD d
    · exact texts_no d L _ _ _ w hT (by omega) ho hP (rParse_any L r hr) hfb
    · exact texts_ok d L _ _ _ w hT (by omega) ho hP (rParse_any L r hr) hfb
end Go.Proofs.YteoembjghmgbhaaGreatDoor
