/- The law DateNumbers: the walk. -/
import Derived.Test.YteoembjghmgbhaaDoorR3
import Derived.Test.YteoembjghmgbhaaDoorC9
namespace Go.Proofs.YteoembjghmgbhaaDoor
set_option linter.all false
open Go.RowKit

theorem num_yes (d : Dt) (h : (dayR d).2 = true) : NumberR d = (numI d, 0) ∧ 0 ≤ numI d := by
  unfold dayR at h
  cases hx : exB d
  · rw [hx] at h; cases h
  · rw [hx] at h
    have h2 : dayB (dayI d) = true := h
    have h3 : numI d = dayI d := by unfold numI; rw [hx, h2]; rfl
    have h4 : 0 ≤ dayI d ∧ dayI d ≤ 60000 := by simpa [dayB] using h2
    refine ⟨?_, by rw [h3]; exact h4.1⟩
    unfold NumberR dayR
    rw [hx, h3]
    show (if dayB (dayI d) = true then (dayI d, (0 : Int)) else (0, 1)) = _
    rw [if_pos h2]
theorem num_no (d : Dt) (h : (dayR d).2 = false) : NumberR d = (0, 1) ∧ numI d = -1 := by
  refine ⟨by unfold NumberR; rw [h]; rfl, ?_⟩
  unfold dayR at h
  unfold numI
  cases hx : exB d
  · rfl
  · rw [hx] at h
    have h2 : dayB (dayI d) = false := h
    rw [h2]; rfl
/-- The first test, and what is left of the law behind it. -/
def OfD (day : Int) (f : Int) (x : Dt) : Prop := OfR day = (x, f)
set_option maxRecDepth 100000 in
set_option maxHeartbeats 1000000 in
theorem numbers_day (d : Dt) (year : Int) (n e0 want : Int) (v : Bool) (day : Int) (w : World) (hT : Tab w) (hn : NumberR d = (n, e0)) (hw : numI d = want) (hv : (dayR d).2 = v)
    (hc : (v = true ∧ 0 ≤ want ∧ n = want ∧ e0 = 0) ∨ (v = false ∧ want = -1 ∧ n = 0 ∧ e0 = 1)) :
    Calls Tryd.prog 3 #[dtv d, .int .i64 day, .int .i64 year] w fun e w' => e = .returned (.bool true) ∧ Below w.heap.size w w' := by
  have HT := Lib.hid hT
  have HN := Lib.hid (fun W => Number_any d W)
  have HW := Lib.hid (fun W => rNumber_any d W)
  have HV := Lib.hid (fun W => Valid_any d W)
  have HO := Lib.hid (fun W => Of_any day W)
  have HD := Lib.hid (fun W => rDay_any day W)
  rw [hn] at HN
  rw [hw] at HW
  rw [hv] at HV
  have HL := Lib.hid (fun W => leap_any year W)
  have HR := Lib.hid (fun W => rLeap_any year W)
  generalize leapB year = lb at *
  obtain ⟨dy, dm, dd⟩ := d
  unfold dtv at *
  simp only at HN HW HV HO ⊢
  clear hT hn hw hv
  cases hd : dayB day
  · rw [show OfR day = (⟨0, 0, 0⟩, 1) by unfold OfR; rw [hd]; rfl] at HO
    rw [hd] at HD
    have q2 := seq23 0 0 0
    clear hd
    rcases hc with ⟨rfl, h1, rfl, rfl⟩ | ⟨rfl, rfl, rfl, rfl⟩
    · have t1 : decide (0 ≤ n) = true := decide_eq_true h1
      have t2 : decide (n < 0) = false := decide_eq_false (by omega)
      go_enter Tryd.func3, Tryd.ntmps3
      go_wp2_with (first | (go_at_call 15; refine (HN.out _).mono ?_; rintro e w1 ⟨rfl, hb⟩; have HB1 := Lib.hid (below_trans (bel : Below w.heap.size w (w.alloc _)) hb); have X1 := Lib.hid (lnew hb); obtain ⟨a0, a1, a2, _, _, _, _⟩ := cells3 X1.out; clear hb) | (go_at_call 16; refine (HO.out _).mono ?_; rintro e w2 ⟨rfl, hb⟩; have HB2 := Lib.hid (below_trans HB1.out hb); have X2 := Lib.hid (lift0 hb X1.out); obtain ⟨b0, b1, b2, _, _, _, lb2⟩ := cells3 X2.out; clear hb) | (go_at_call 17; refine (HW.out _).mono ?_; rintro e w3 ⟨rfl, hb⟩; have HB3 := Lib.hid (below_trans (HB2.out.alloc HB2.out.size _) hb); have X3 := Lib.hid (lift1 hb X2.out); have Y3 := Lib.hid (lnew hb); obtain ⟨c0, c1, c2, _, _, _, _⟩ := cells3 X3.out; clear hb) | (go_at_call 18; refine (HL.out _).mono ?_; rintro e w9 ⟨rfl, rfl⟩) | (go_at_call 19; refine (HR.out _).mono ?_; rintro e w9 ⟨rfl, rfl⟩) | (go_at_call 20; refine (HV.out _).mono ?_; rintro e w4 ⟨rfl, hb⟩; have HB4 := Lib.hid (below_trans HB3.out hb); have Y4 := Lib.hid (lift0 hb Y3.out); clear hb) | (go_at_call 21; refine (HD.out _).mono ?_; rintro e w9 ⟨rfl, rfl⟩) | (go_at_call 22; refine (sanity_any _ (HT.out.below HB4.out)).mono ?_; rintro e w5 ⟨rfl, hb⟩; have HB5 := Lib.hid (below_trans HB4.out hb); have Y5 := Lib.hid (lift0 hb Y4.out); obtain ⟨d0, d1, d2, _, _, _, _⟩ := cells3 Y5.out; clear hb))
      go_ret
      exact ⟨rfl, HB5.out⟩
    · go_enter Tryd.func3, Tryd.ntmps3
      go_wp2_with (first | (go_at_call 15; refine (HN.out _).mono ?_; rintro e w1 ⟨rfl, hb⟩; have HB1 := Lib.hid (below_trans (bel : Below w.heap.size w (w.alloc _)) hb); have X1 := Lib.hid (lnew hb); obtain ⟨a0, a1, a2, _, _, _, _⟩ := cells3 X1.out; clear hb) | (go_at_call 16; refine (HO.out _).mono ?_; rintro e w2 ⟨rfl, hb⟩; have HB2 := Lib.hid (below_trans HB1.out hb); have X2 := Lib.hid (lift0 hb X1.out); obtain ⟨b0, b1, b2, _, _, _, lb2⟩ := cells3 X2.out; clear hb) | (go_at_call 17; refine (HW.out _).mono ?_; rintro e w3 ⟨rfl, hb⟩; have HB3 := Lib.hid (below_trans (HB2.out.alloc HB2.out.size _) hb); have X3 := Lib.hid (lift1 hb X2.out); have Y3 := Lib.hid (lnew hb); obtain ⟨c0, c1, c2, _, _, _, _⟩ := cells3 X3.out; clear hb) | (go_at_call 18; refine (HL.out _).mono ?_; rintro e w9 ⟨rfl, rfl⟩) | (go_at_call 19; refine (HR.out _).mono ?_; rintro e w9 ⟨rfl, rfl⟩) | (go_at_call 20; refine (HV.out _).mono ?_; rintro e w4 ⟨rfl, hb⟩; have HB4 := Lib.hid (below_trans HB3.out hb); have Y4 := Lib.hid (lift0 hb Y3.out); clear hb) | (go_at_call 21; refine (HD.out _).mono ?_; rintro e w9 ⟨rfl, rfl⟩) | (go_at_call 22; refine (sanity_any _ (HT.out.below HB4.out)).mono ?_; rintro e w5 ⟨rfl, hb⟩; have HB5 := Lib.hid (below_trans HB4.out hb); have Y5 := Lib.hid (lift0 hb Y4.out); obtain ⟨d0, d1, d2, _, _, _, _⟩ := cells3 Y5.out; clear hb))
      go_ret
      exact ⟨rfl, HB5.out⟩
  · have hdd : 0 ≤ day ∧ day ≤ 60000 := by simpa [dayB] using hd
    rw [show OfR day = (ofI day, 0) by unfold OfR; rw [hd]; rfl] at HO
    have HRO := Lib.hid (fun W => rOf_any day W hdd.1 hdd.2)
    rw [hd] at HD
    generalize ofI day = o at *
    obtain ⟨oy, om, od⟩ := o
    unfold dtv at HRO
    simp only at HO HRO
    have q2 := seq23 oy om od
    clear hd hdd
    rcases hc with ⟨rfl, h1, rfl, rfl⟩ | ⟨rfl, rfl, rfl, rfl⟩
    · have t1 : decide (0 ≤ n) = true := decide_eq_true h1
      have t2 : decide (n < 0) = false := decide_eq_false (by omega)
      go_enter Tryd.func3, Tryd.ntmps3
      go_upto_region 8 with (first | (go_at_call 15; refine (HN.out _).mono ?_; rintro e w1 ⟨rfl, hb⟩; have HB1 := Lib.hid (below_trans (bel : Below w.heap.size w (w.alloc _)) hb); have X1 := Lib.hid (lnew hb); obtain ⟨a0, a1, a2, _, _, _, _⟩ := cells3 X1.out; clear hb) | (go_at_call 16; refine (HO.out _).mono ?_; rintro e w2 ⟨rfl, hb⟩; have HB2 := Lib.hid (below_trans HB1.out hb); have X2 := Lib.hid (lift0 hb X1.out); obtain ⟨b0, b1, b2, _, _, _, lb2⟩ := cells3 X2.out; clear hb) | (go_at_call 17; refine (HW.out _).mono ?_; rintro e w3 ⟨rfl, hb⟩; have HB3 := Lib.hid (below_trans (HB2.out.alloc HB2.out.size _) hb); have X3 := Lib.hid (lift1 hb X2.out); have Y3 := Lib.hid (lnew hb); obtain ⟨c0, c1, c2, _, _, _, _⟩ := cells3 X3.out; clear hb) | (go_at_call 18; refine (HL.out _).mono ?_; rintro e w9 ⟨rfl, rfl⟩) | (go_at_call 19; refine (HR.out _).mono ?_; rintro e w9 ⟨rfl, rfl⟩) | (go_at_call 20; refine (HV.out _).mono ?_; rintro e w4 ⟨rfl, hb⟩; have HB4 := Lib.hid (below_trans HB3.out hb); have Y4 := Lib.hid (lift0 hb Y3.out); clear hb) | (go_at_call 21; refine (HD.out _).mono ?_; rintro e w9 ⟨rfl, rfl⟩))
      obtain ⟨d0, d1, d2, _, _, _, ld⟩ := cells3 Y4.out
      have HB4d := Lib.hid HB4.out.drew
      go_region_held3 (fun w' => w'.cell? ⟨w2.heap.size, 0, none⟩ = some (.int .i64 oy) ∧ w'.cell? ⟨w2.heap.size, 1, none⟩ = some (.int .i64 om) ∧ w'.cell? ⟨w2.heap.size, 2, none⟩ = some (.int .i64 od)) (first | exact ⟨d0, d1, d2⟩ | exact ⟨e0, e1, e2⟩ | exact ⟨f0, f1, f2⟩) (first | (go_at_call 22; refine (sanity_any _ (HT.out.below HB4d.out)).mono ?_; rintro e w5 ⟨rfl, hb⟩; have e0 := (hb.cell ld).trans d0; have e1 := (hb.cell ld).trans d1; have e2 := (hb.cell ld).trans d2; have le := Nat.lt_of_lt_of_le ld hb.size; have HB5 := Lib.hid (below_trans HB4d.out hb); clear hb) | (go_at_call 23; refine (HRO.out _).mono ?_; rintro e w6 ⟨rfl, hb⟩; have f0 := (hb.cell le).trans e0; have f1 := (hb.cell le).trans e1; have f2 := (hb.cell le).trans e2; have HB6 := Lib.hid (below_trans HB5.out hb); clear hb))
      all_goals
        go_wp2
        go_ret
        exact ⟨rfl, HB6.out⟩
    · go_enter Tryd.func3, Tryd.ntmps3
      go_upto_region 8 with (first | (go_at_call 15; refine (HN.out _).mono ?_; rintro e w1 ⟨rfl, hb⟩; have HB1 := Lib.hid (below_trans (bel : Below w.heap.size w (w.alloc _)) hb); have X1 := Lib.hid (lnew hb); obtain ⟨a0, a1, a2, _, _, _, _⟩ := cells3 X1.out; clear hb) | (go_at_call 16; refine (HO.out _).mono ?_; rintro e w2 ⟨rfl, hb⟩; have HB2 := Lib.hid (below_trans HB1.out hb); have X2 := Lib.hid (lift0 hb X1.out); obtain ⟨b0, b1, b2, _, _, _, lb2⟩ := cells3 X2.out; clear hb) | (go_at_call 17; refine (HW.out _).mono ?_; rintro e w3 ⟨rfl, hb⟩; have HB3 := Lib.hid (below_trans (HB2.out.alloc HB2.out.size _) hb); have X3 := Lib.hid (lift1 hb X2.out); have Y3 := Lib.hid (lnew hb); obtain ⟨c0, c1, c2, _, _, _, _⟩ := cells3 X3.out; clear hb) | (go_at_call 18; refine (HL.out _).mono ?_; rintro e w9 ⟨rfl, rfl⟩) | (go_at_call 19; refine (HR.out _).mono ?_; rintro e w9 ⟨rfl, rfl⟩) | (go_at_call 20; refine (HV.out _).mono ?_; rintro e w4 ⟨rfl, hb⟩; have HB4 := Lib.hid (below_trans HB3.out hb); have Y4 := Lib.hid (lift0 hb Y3.out); clear hb) | (go_at_call 21; refine (HD.out _).mono ?_; rintro e w9 ⟨rfl, rfl⟩))
      obtain ⟨d0, d1, d2, _, _, _, ld⟩ := cells3 Y4.out
      have HB4d := Lib.hid HB4.out.drew
      go_region_held3 (fun w' => w'.cell? ⟨w2.heap.size, 0, none⟩ = some (.int .i64 oy) ∧ w'.cell? ⟨w2.heap.size, 1, none⟩ = some (.int .i64 om) ∧ w'.cell? ⟨w2.heap.size, 2, none⟩ = some (.int .i64 od)) (first | exact ⟨d0, d1, d2⟩ | exact ⟨e0, e1, e2⟩ | exact ⟨f0, f1, f2⟩) (first | (go_at_call 22; refine (sanity_any _ (HT.out.below HB4d.out)).mono ?_; rintro e w5 ⟨rfl, hb⟩; have e0 := (hb.cell ld).trans d0; have e1 := (hb.cell ld).trans d1; have e2 := (hb.cell ld).trans d2; have le := Nat.lt_of_lt_of_le ld hb.size; have HB5 := Lib.hid (below_trans HB4d.out hb); clear hb) | (go_at_call 23; refine (HRO.out _).mono ?_; rintro e w6 ⟨rfl, hb⟩; have f0 := (hb.cell le).trans e0; have f1 := (hb.cell le).trans e1; have f2 := (hb.cell le).trans e2; have HB6 := Lib.hid (below_trans HB5.out hb); clear hb))
      all_goals
        go_wp2
        go_ret
        exact ⟨rfl, HB6.out⟩
theorem numbers_walk (d : Dt) (day year : Int) (w : World) (hT : Tab w) (_ : -9223372036854775808 ≤ d.y ∧ d.y ≤ 9223372036854775807) (_ : -9223372036854775808 ≤ d.m ∧ d.m ≤ 9223372036854775807) (_ : -9223372036854775808 ≤ d.d ∧ d.d ≤ 9223372036854775807) (_ : -9223372036854775808 ≤ day ∧ day ≤ 9223372036854775807) (_ : -9223372036854775808 ≤ year ∧ year ≤ 9223372036854775807) :
    Calls Tryd.prog 3 #[dtv d, .int .i64 day, .int .i64 year] w fun e w' => e = .returned (.bool true) ∧ Below w.heap.size w w' := by
  cases hv : (dayR d).2
  · obtain ⟨h1, h2⟩ := num_no d hv
    exact numbers_day d year 0 1 (-1) false day w hT h1 h2 hv (.inr ⟨rfl, rfl, rfl, rfl⟩)
  · obtain ⟨h1, h2⟩ := num_yes d hv
    exact numbers_day d year (numI d) 0 (numI d) true day w hT h1 rfl hv (.inl ⟨rfl, h2, rfl, rfl⟩)
end Go.Proofs.YteoembjghmgbhaaDoor
