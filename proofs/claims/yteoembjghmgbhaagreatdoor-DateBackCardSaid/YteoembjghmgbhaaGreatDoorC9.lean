/- The date walks: sanity. -/
import Derived.Test.YteoembjghmgbhaaGreatDoorC8
namespace Go.Proofs.YteoembjghmgbhaaGreatDoor
set_option linter.all false
open Go.RowKit

theorem ex_number : NumberR ⟨1900, 3, 1⟩ = (18321, 0) := by decide +kernel
theorem ex_of : OfR 60000 = (⟨2014, 4, 11⟩, 0) := by decide +kernel
theorem ex_week : WeekR 6 = (⟨6, 12⟩, 0) := by decide +kernel
theorem ex_days : DaysR 1 = (⟨31, 58⟩, 0) := by decide +kernel
theorem ex_later : LaterR 30 1 = (58, 0) := by decide +kernel
theorem ex_covers : CoversR 10 3 2 = (⟨7, 9⟩, 0) := by decide +kernel
theorem ex_spans : spansE sl4 = 0 := by decide +kernel
theorem ex_number_any (w : World) : Calls Tryz.prog 11 #[.agg #[.int .i64 1900, .int .i64 3, .int .i64 1]] w fun e w' => e = .returned (.tuple #[.int .i64 18321, .int .i64 0]) ∧ Below w.heap.size w w' := by
  have h := Number_any ⟨1900, 3, 1⟩ w
  rw [ex_number] at h
  exact h
theorem ex_of_any (w : World) : Calls Tryz.prog 12 #[.int .i64 60000] w fun e w' => e = .returned (.tuple #[.agg #[.int .i64 2014, .int .i64 4, .int .i64 11], .int .i64 0]) ∧ Below w.heap.size w w' := by
  have h := Of_any 60000 w
  rw [ex_of] at h
  exact h
theorem ex_week_any (w : World) : Calls Tryz.prog 13 #[.int .i64 6] w fun e w' => e = .returned (.tuple #[.agg #[.int .i64 6, .int .i64 12], .int .i64 0]) ∧ Below w.heap.size w w' := by
  have h := Week_any 6 w
  rw [ex_week] at h
  exact h
theorem ex_days_any (w : World) : Calls Tryz.prog 14 #[.int .i64 1] w fun e w' => e = .returned (.tuple #[.agg #[.int .i64 31, .int .i64 58], .int .i64 0]) ∧ Below w.heap.size w w' := by
  have h := Days_any 1 w
  rw [ex_days] at h
  exact h
theorem ex_later_any (w : World) : Calls Tryz.prog 15 #[.int .i64 30, .int .i64 1] w fun e w' => e = .returned (.tuple #[.int .i64 58, .int .i64 0]) ∧ Below w.heap.size w w' := by
  have h := Later_any 30 1 w (by omega)
  rw [ex_later] at h
  exact h
theorem ex_covers_any (w : World) : Calls Tryz.prog 16 #[.int .i64 10, .int .i64 3, .int .i64 2] w fun e w' => e = .returned (.tuple #[.agg #[.int .i64 7, .int .i64 9], .int .i64 0]) ∧ Below w.heap.size w w' := by
  have h := Covers_any 10 3 2 w
  rw [ex_covers] at h
  exact h
theorem ex_union_any (w : World) (g : Nat) (hg : g = w.heap.size) : Calls Tryz.prog 17 #[.slice (some ⟨g, 0, none⟩) 4 4] (w.alloc (.cells #[.int .i64 5, .int .i64 9, .int .i64 0, .int .i64 2, .int .i64 3, .int .i64 3, .int .i64 20, .int .i64 30] 39)) fun e w' => ∃ A c, e = .returned (.tuple #[.slice A 3 c, .int .i64 0]) ∧ SpsAt w' A su3 ∧ Below (w.alloc (.cells #[.int .i64 5, .int .i64 9, .int .i64 0, .int .i64 2, .int .i64 3, .int .i64 3, .int .i64 20, .int .i64 30] 39)).heap.size (w.alloc (.cells #[.int .i64 5, .int .i64 9, .int .i64 0, .int .i64 2, .int .i64 3, .int .i64 3, .int .i64 20, .int .i64 30] 39)) w' := by
  subst hg
  refine (Union_any (some ⟨w.heap.size, 0, none⟩) 4 sl4 (w.alloc (.cells #[.int .i64 5, .int .i64 9, .int .i64 0, .int .i64 2, .int .i64 3, .int .i64 3, .int .i64 20, .int .i64 30] 39)) (by decide) (fun h => by cases h) (sps_lit w sl4 _ rfl (by decide))).mono ?_
  rintro e w' ⟨l', L, v, rfl, ho, hb, _, hL⟩
  obtain ⟨hp, hs, rfl⟩ := hL ex_spans
  rw [sr4_uniq l' hp hs] at ho
  obtain ⟨A, c, rfl, -⟩ := own_slice ho
  exact ⟨A, c, by rw [ex_spans]; rfl, own_sps ho, hb⟩
theorem ex_same_any (A : Option Addr) (c : Nat) (w : World) (h : SpsAt w A su3) (g : Nat) (hg : g = w.heap.size) : Calls Tryz.prog 18 #[.slice A 3 c, .slice (some ⟨g, 0, none⟩) 3 3] (w.alloc (.cells #[.int .i64 0, .int .i64 3, .int .i64 5, .int .i64 9, .int .i64 20, .int .i64 30] 39)) fun e w' => e = .returned (.bool true) ∧ Below (w.alloc (.cells #[.int .i64 0, .int .i64 3, .int .i64 5, .int .i64 9, .int .i64 20, .int .i64 30] 39)).heap.size (w.alloc (.cells #[.int .i64 0, .int .i64 3, .int .i64 5, .int .i64 9, .int .i64 20, .int .i64 30] 39)) w' := by
  subst hg
  exact rSame_any A c su3 (some ⟨w.heap.size, 0, none⟩) 3 su3 (w.alloc (.cells #[.int .i64 0, .int .i64 3, .int .i64 5, .int .i64 9, .int .i64 20, .int .i64 30] 39)) (by decide) (h.alloc _) (sps_lit w su3 _ rfl (by decide))
theorem seq23 (a b c : Int) (W : World) : (Go.binOp .eql 23 (.agg #[.int .i64 a, .int .i64 b, .int .i64 c]) (.agg #[.int .i64 a, .int .i64 b, .int .i64 c])).run Tryz.prog W = .ok (.bool true) W := by
  rw [run_eql_struct, eq23]
  simp [Result.andThen]
theorem seq37 (a b : Int) (W : World) : (Go.binOp .eql 39 (.agg #[.int .i64 a, .int .i64 b]) (.agg #[.int .i64 a, .int .i64 b])).run Tryz.prog W = .ok (.bool true) W := by
  rw [run_eql_struct, eq37]
  simp [Result.andThen]
set_option maxRecDepth 100000 in
set_option maxHeartbeats 1000000 in
theorem sanity_any (w : World) (hT : Tab w) : Calls Tryz.prog 5 #[] w fun e w' => e = .returned (.bool true) ∧ Below w.heap.size w w' := by
  have HT := Lib.hid hT
  clear hT
  go_enter Tryz.func5, Tryz.ntmps5
  go_upto_region 2 with (go_at_call 11; refine (ex_number_any _).mono ?_; rintro e w1 ⟨rfl, hb⟩; have HB1 := Lib.hid hb; clear hb)
  go_upto_region 3 with (go_at_call 12; refine (ex_of_any _).mono ?_; rintro e w2 ⟨rfl, hb⟩; have HB2 := Lib.hid (below_trans HB1.out hb); clear hb)
  go_upto_region 4 with (go_at_call 13; refine (ex_week_any _).mono ?_; rintro e w3 ⟨rfl, hb⟩; have HB3 := Lib.hid (below_trans (HB2.out.alloc HB2.out.size _) hb); have X3 := Lib.hid (lnew hb); clear hb)
  go_upto_region 5 with (go_at_call 14; refine (ex_days_any _).mono ?_; rintro e w4 ⟨rfl, hb⟩; have HB4 := Lib.hid (below_trans (HB3.out.alloc HB3.out.size _) hb); have X4 := Lib.hid (lift1 hb X3.out); have Y4 := Lib.hid (lnew hb); clear hb)
  go_upto_region 6 with (go_at_call 15; refine (ex_later_any _).mono ?_; rintro e w5 ⟨rfl, hb⟩; have HB5 := Lib.hid (below_trans (HB4.out.alloc HB4.out.size _) hb); have X5 := Lib.hid (lift1 hb X4.out); have Y5 := Lib.hid (lift1 hb Y4.out); have Z5 := Lib.hid (lnew hb); clear hb)
  go_upto_region 7 with (go_at_call 16; refine (ex_covers_any _).mono ?_; rintro e w6 ⟨rfl, hb⟩; have HB6 := Lib.hid (below_trans HB5.out hb); have X6 := Lib.hid (lift0 hb X5.out); have Y6 := Lib.hid (lift0 hb Y5.out); have Z6 := Lib.hid (lift0 hb Z5.out); clear hb)
  go_upto_region 8 with (go_at_call 17; refine (ex_union_any _ _ (by simp)).mono ?_; rintro e w7 ⟨A, c, rfl, hsp, hb⟩; have HB7 := Lib.hid (below_trans ((HB6.out.alloc HB6.out.size _).alloc (Nat.le_trans HB6.out.size (by simp)) _) hb); have X7 := Lib.hid (lift2 hb X6.out); have Y7 := Lib.hid (lift2 hb Y6.out); have Z7 := Lib.hid (lift2 hb Z6.out); have U7 := Lib.hid (lift1 hb (heap_alloc_new w6 _)); have SP7 := Lib.hid hsp; clear hb hsp)
  go_upto_region 9 with (go_at_call 6; refine (print_1871 _ (HT.out.below HB7.out)).mono ?_; rintro e w8 ⟨rfl, hb⟩; have HB8 := Lib.hid (below_trans HB7.out hb); have X8 := Lib.hid (lift0 hb X7.out); have Y8 := Lib.hid (lift0 hb Y7.out); have Z8 := Lib.hid (lift0 hb Z7.out); have U8 := Lib.hid (lift0 hb U7.out); have SP8 := Lib.hid (SP7.out.below hb); clear hb)
  go_upto_region 11 with fail
  obtain ⟨x0, x1, x2, _, _, _, _⟩ := cells3 X8.out
  obtain ⟨y0, y1, _, _, _⟩ := cells2 Y8.out
  obtain ⟨z0, z1, _, _, _⟩ := cells2 Z8.out
  obtain ⟨u0, u1, _, _, _⟩ := cells2 U8.out
  have q1 := seq23 2014 4 11
  have q2 := seq37 6 12
  have q3 := seq37 31 58
  have q4 := seq37 7 9
  go_wp2_with (go_at_call 18; refine (ex_same_any _ _ _ SP8.out _ rfl).mono ?_; rintro e w9 ⟨rfl, hb⟩; have HB9 := Lib.hid (below_trans (HB8.out.alloc HB8.out.size _) hb); clear hb)
  go_ret
  exact ⟨rfl, HB9.out⟩
end Go.Proofs.YteoembjghmgbhaaGreatDoor
