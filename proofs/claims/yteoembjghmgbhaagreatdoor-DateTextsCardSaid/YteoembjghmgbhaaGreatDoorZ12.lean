/- The law DateBack: the walk. -/
import Derived.Test.YteoembjghmgbhaaGreatDoorZ11
namespace Go.Proofs.YteoembjghmgbhaaGreatDoor
set_option linter.all false
open Go.RowKit

set_option maxRecDepth 100000 in
set_option maxHeartbeats 1000000 in
theorem back_huge (d : Dt) (L : List UInt8) (w : World) (hT : Tab w) (hl : 40 < L.length) :
    Calls Tryz.prog 4 #[dtv d, .string ⟨L.toArray⟩] w fun e w' => e = .returned (.bool true) ∧ Below w.heap.size w w' := by
  have HT := Lib.hid hT
  have t : decide ((40 : Int) < (L.length : Int)) = true := decide_eq_true (by omega)
  clear hT hl
  obtain ⟨y, m, d⟩ := d
  unfold dtv
  simp only
  go_enter Tryz.func4, Tryz.ntmps4
  go_wp2_with (first | (go_at_call 5; refine (sanity_any _ (HT.out.below bel)).mono ?_; rintro e w9 ⟨rfl, hb⟩; have HB9 := Lib.hid (below_trans (bel : Below w.heap.size w (w.alloc _)) hb); clear hb))
  go_ret
  exact ⟨rfl, HB9.out⟩
set_option maxRecDepth 100000 in
set_option maxHeartbeats 1000000 in
theorem back_oksome (d : Dt) (L : List UInt8) (r : Option Dt) (w : World) (hT : Tab w) (hV : Vars w) (hl : L.length ≤ 40) (ho : okD d = true) (x : Dt) (hr : Reads L (some x)) :
    Calls Tryz.prog 4 #[dtv d, .string ⟨L.toArray⟩] w fun e w' => e = .returned (.bool true) ∧ Below w.heap.size w w' := by
  have HT := Lib.hid hT
  have t : decide ((40 : Int) < (L.length : Int)) = false := decide_eq_false (by omega)
  have HP := Lib.hid (fun W (hT : Tab W) => Print_good d W hT ho)
  have HQ1 := Lib.hid (fun W (hW : Below w.heap.size w W) => Parse_any (printL d) (some d) ⟨ho, rfl⟩ (by obtain ⟨a, ha, -, h, -⟩ := print_parts ho; omega) W (hT.below hW) (hV.below hW))
  generalize printL d = P at *
  have HQ2 := Lib.hid (fun W (hW : Below w.heap.size w W) => Parse_any L (some x) hr (by omega) W (hT.below hW) (hV.below hW))
  have HP2 := Lib.hid (fun W (hT : Tab W) => Print_good x W hT hr.1)
  rw [hr.2] at HP2
  have z0 := seq23 0 0 0
  clear hT hV hl ho hr
  obtain ⟨y, m, d⟩ := d
  have z23 := sneq23 y m d
  obtain ⟨x1, x2, x3⟩ := x
  unfold dtv zeroD errP at *
  simp only [Option.getD_some, Option.getD_none, Option.isSome_some, Option.isSome_none, if_true, if_false, Bool.false_eq_true] at *
  have MK := Lib.hid True.intro
  go_enter Tryz.func4, Tryz.ntmps4
  go_wp2_with (first | (go_at_call 6; have hmk := MK.out; clear hmk MK; refine (HP.out _ (HT.out.below bel)).mono ?_; rintro e w1 ⟨rfl, hb⟩; have HB1 := Lib.hid (below_trans (bel : Below w.heap.size w (w.alloc _)) hb); have HX1 := Lib.hid (lnew hb); clear hb) | (go_at_call 7; refine (HQ1.out _ HB1.out).mono ?_; rintro e w2 ⟨rfl, hb⟩; have HB2 := Lib.hid (below_trans HB1.out hb); have HX2 := Lib.hid (lift0 hb HX1.out); obtain ⟨a0, a1, a2, _, _, _, la⟩ := cells3 HX2.out; clear hb HQ1) | (go_at_call 7; refine (HQ2.out _ (HB2.out.alloc HB2.out.size _)).mono ?_; rintro e w3 ⟨rfl, hb⟩; have HB3 := Lib.hid (below_trans (HB2.out.alloc HB2.out.size _) hb); clear hb HQ2) | (go_at_call 6; refine (HP2.out _ (HT.out.below (HB3.out.alloc HB3.out.size _))).mono ?_; rintro e w4 ⟨rfl, hb⟩; have HB4 := Lib.hid (below_trans (HB3.out.alloc HB3.out.size _) hb); clear hb) | (go_at_call 5; refine (sanity_any _ (HT.out.below HB4.out)).mono ?_; rintro e w5 ⟨rfl, hb⟩; have HB5 := Lib.hid (below_trans HB4.out hb); clear hb))
  go_ret
  exact ⟨by first | rfl | simp, HB5.out⟩
set_option maxRecDepth 100000 in
set_option maxHeartbeats 1000000 in
theorem back_oknone (d : Dt) (L : List UInt8) (r : Option Dt) (w : World) (hT : Tab w) (hV : Vars w) (hl : L.length ≤ 40) (ho : okD d = true) (hr : Reads L none) :
    Calls Tryz.prog 4 #[dtv d, .string ⟨L.toArray⟩] w fun e w' => e = .returned (.bool true) ∧ Below w.heap.size w w' := by
  have HT := Lib.hid hT
  have t : decide ((40 : Int) < (L.length : Int)) = false := decide_eq_false (by omega)
  have HP := Lib.hid (fun W (hT : Tab W) => Print_good d W hT ho)
  have HQ1 := Lib.hid (fun W (hW : Below w.heap.size w W) => Parse_any (printL d) (some d) ⟨ho, rfl⟩ (by obtain ⟨a, ha, -, h, -⟩ := print_parts ho; omega) W (hT.below hW) (hV.below hW))
  generalize printL d = P at *
  have HQ2 := Lib.hid (fun W (hW : Below w.heap.size w W) => Parse_any L none hr (by omega) W (hT.below hW) (hV.below hW))
  have z0 := seq23 0 0 0
  clear hT hV hl ho hr
  obtain ⟨y, m, d⟩ := d
  have z23 := sneq23 y m d
  unfold dtv zeroD errP at *
  simp only [Option.getD_some, Option.getD_none, Option.isSome_some, Option.isSome_none, if_true, if_false, Bool.false_eq_true] at *
  have MK := Lib.hid True.intro
  go_enter Tryz.func4, Tryz.ntmps4
  go_wp2_with (first | (go_at_call 6; have hmk := MK.out; clear hmk MK; refine (HP.out _ (HT.out.below bel)).mono ?_; rintro e w1 ⟨rfl, hb⟩; have HB1 := Lib.hid (below_trans (bel : Below w.heap.size w (w.alloc _)) hb); have HX1 := Lib.hid (lnew hb); clear hb) | (go_at_call 7; refine (HQ1.out _ HB1.out).mono ?_; rintro e w2 ⟨rfl, hb⟩; have HB2 := Lib.hid (below_trans HB1.out hb); have HX2 := Lib.hid (lift0 hb HX1.out); obtain ⟨a0, a1, a2, _, _, _, la⟩ := cells3 HX2.out; clear hb HQ1) | (go_at_call 7; refine (HQ2.out _ (HB2.out.alloc HB2.out.size _)).mono ?_; rintro e w3 ⟨rfl, hb⟩; have HB3 := Lib.hid (below_trans (HB2.out.alloc HB2.out.size _) hb); clear hb HQ2) | (go_at_call 5; refine (sanity_any _ (HT.out.below (HB3.out.alloc HB3.out.size _))).mono ?_; rintro e w5 ⟨rfl, hb⟩; have HB5 := Lib.hid (below_trans (HB3.out.alloc HB3.out.size _) hb); obtain ⟨c0, c1, c2, _, _, _, lc⟩ := cells3 (lnew hb); clear hb))
  go_ret
  exact ⟨by first | rfl | simp, HB5.out⟩
set_option maxRecDepth 100000 in
set_option maxHeartbeats 1000000 in
theorem back_nosome (d : Dt) (L : List UInt8) (r : Option Dt) (w : World) (hT : Tab w) (hV : Vars w) (hl : L.length ≤ 40) (ho : okD d = false) (x : Dt) (hr : Reads L (some x)) :
    Calls Tryz.prog 4 #[dtv d, .string ⟨L.toArray⟩] w fun e w' => e = .returned (.bool true) ∧ Below w.heap.size w w' := by
  have HT := Lib.hid hT
  have t : decide ((40 : Int) < (L.length : Int)) = false := decide_eq_false (by omega)
  have HP := Lib.hid (fun W => Print_bad d W ho)
  have HQ2 := Lib.hid (fun W (hW : Below w.heap.size w W) => Parse_any L (some x) hr (by omega) W (hT.below hW) (hV.below hW))
  have HP2 := Lib.hid (fun W (hT : Tab W) => Print_good x W hT hr.1)
  rw [hr.2] at HP2
  have z0 := seq23 0 0 0
  clear hT hV hl ho hr
  obtain ⟨y, m, d⟩ := d
  obtain ⟨x1, x2, x3⟩ := x
  unfold dtv zeroD errP at *
  simp only [Option.getD_some, Option.getD_none, Option.isSome_some, Option.isSome_none, if_true, if_false, Bool.false_eq_true] at *
  have MK := Lib.hid True.intro
  go_enter Tryz.func4, Tryz.ntmps4
  go_wp2_with (first | (go_at_call 6; have hmk := MK.out; clear hmk MK; refine (HP.out _).mono ?_; rintro e w1 ⟨rfl, hb⟩; have HB1 := Lib.hid (below_trans (bel : Below w.heap.size w (w.alloc _)) hb); clear hb) | (go_at_call 7; refine (HQ2.out _ HB1.out).mono ?_; rintro e w3 ⟨rfl, hb⟩; have HB3 := Lib.hid (below_trans HB1.out hb); clear hb HQ2) | (go_at_call 6; refine (HP2.out _ (HT.out.below (HB3.out.alloc HB3.out.size _))).mono ?_; rintro e w4 ⟨rfl, hb⟩; have HB4 := Lib.hid (below_trans (HB3.out.alloc HB3.out.size _) hb); clear hb) | (go_at_call 5; refine (sanity_any _ (HT.out.below HB4.out)).mono ?_; rintro e w5 ⟨rfl, hb⟩; have HB5 := Lib.hid (below_trans HB4.out hb); clear hb))
  go_ret
  exact ⟨by first | rfl | simp, HB5.out⟩
set_option maxRecDepth 100000 in
set_option maxHeartbeats 1000000 in
theorem back_nonone (d : Dt) (L : List UInt8) (r : Option Dt) (w : World) (hT : Tab w) (hV : Vars w) (hl : L.length ≤ 40) (ho : okD d = false) (hr : Reads L none) :
    Calls Tryz.prog 4 #[dtv d, .string ⟨L.toArray⟩] w fun e w' => e = .returned (.bool true) ∧ Below w.heap.size w w' := by
  have HT := Lib.hid hT
  have t : decide ((40 : Int) < (L.length : Int)) = false := decide_eq_false (by omega)
  have HP := Lib.hid (fun W => Print_bad d W ho)
  have HQ2 := Lib.hid (fun W (hW : Below w.heap.size w W) => Parse_any L none hr (by omega) W (hT.below hW) (hV.below hW))
  have z0 := seq23 0 0 0
  clear hT hV hl ho hr
  obtain ⟨y, m, d⟩ := d
  unfold dtv zeroD errP at *
  simp only [Option.getD_some, Option.getD_none, Option.isSome_some, Option.isSome_none, if_true, if_false, Bool.false_eq_true] at *
  have MK := Lib.hid True.intro
  go_enter Tryz.func4, Tryz.ntmps4
  go_wp2_with (first | (go_at_call 6; have hmk := MK.out; clear hmk MK; refine (HP.out _).mono ?_; rintro e w1 ⟨rfl, hb⟩; have HB1 := Lib.hid (below_trans (bel : Below w.heap.size w (w.alloc _)) hb); clear hb) | (go_at_call 7; refine (HQ2.out _ HB1.out).mono ?_; rintro e w3 ⟨rfl, hb⟩; have HB3 := Lib.hid (below_trans HB1.out hb); clear hb HQ2) | (go_at_call 5; refine (sanity_any _ (HT.out.below (HB3.out.alloc HB3.out.size _))).mono ?_; rintro e w5 ⟨rfl, hb⟩; have HB5 := Lib.hid (below_trans (HB3.out.alloc HB3.out.size _) hb); obtain ⟨c0, c1, c2, _, _, _, lc⟩ := cells3 (lnew hb); clear hb))
  go_ret
  exact ⟨by first | rfl | simp, HB5.out⟩
theorem back_walk (d : Dt) (L : List UInt8) (w : World) (hT : Tab w) (hV : Vars w) :
    Calls Tryz.prog 4 #[dtv d, .string ⟨L.toArray⟩] w fun e w' => e = .returned (.bool true) ∧ Below w.heap.size w w' := by
  by_cases hl : 40 < L.length
  · exact back_huge d L w hT hl
  · obtain ⟨r, hr⟩ := reads_ex L
    cases ho : okD d
    · cases r with
      | none => exact back_nonone d L none w hT hV (by omega) ho hr
      | some x => exact back_nosome d L none w hT hV (by omega) ho x hr
    · cases r with
      | none => exact back_oknone d L none w hT hV (by omega) ho hr
      | some x => exact back_oksome d L none w hT hV (by omega) ho x hr
end Go.Proofs.YteoembjghmgbhaaGreatDoor
