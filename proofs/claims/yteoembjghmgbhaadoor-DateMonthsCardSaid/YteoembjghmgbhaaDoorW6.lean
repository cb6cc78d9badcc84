/- The law DateOneByOne: the walk. -/
import Derived.Test.YteoembjghmgbhaaDoorW5
namespace Go.Proofs.YteoembjghmgbhaaDoor
set_option linter.all false
open Go.RowKit

theorem sneq23 (a b c : Int) (W : World) : (Go.binOp .neq 23 (.agg #[.int .i64 a, .int .i64 b, .int .i64 c]) (.agg #[.int .i64 a, .int .i64 b, .int .i64 c])).run Tryd.prog W = .ok (.bool false) W := by
  rw [run_neq_struct, eq23]
  simp [Result.andThen]
/-- A contract at certain arguments. -/
def Ret (f : FuncId) (args : Array Value) (v : Value) : Prop := ∀ W, Calls Tryd.prog f args W fun e w' => e = .returned v ∧ Below W.heap.size W w'
set_option maxRecDepth 100000 in
set_option maxHeartbeats 1000000 in
theorem one_bad (day dy dm dd : Int) (w : World) (hT : Tab w) (n0 e0 : Int) (h1 : Ret 15 #[.agg #[.int .i64 dy, .int .i64 dm, .int .i64 dd]] (.tuple #[.int .i64 n0, .int .i64 e0])) (h0 : e0 = 0 → Ret 16 #[.int .i64 n0] (.tuple #[.agg #[.int .i64 dy, .int .i64 dm, .int .i64 dd], .int .i64 0]))
    (fa fy fm f gy gm gd g x : Int) (hx : wrap64 (day + 1) = x) (ho1 : Ret 16 #[.int .i64 day] (.tuple #[.agg #[.int .i64 fa, .int .i64 fy, .int .i64 fm], .int .i64 f])) (ho2 : Ret 16 #[.int .i64 x] (.tuple #[.agg #[.int .i64 gy, .int .i64 gm, .int .i64 gd], .int .i64 g]))
    (q1 q2 : Bool) (hq1 : (f != 0) = q1) (hq2 : q1 = false → (g != 0) = q2) (hq3 : q1 = false → q2 = false → (day == 60000) = true) :
    Calls Tryd.prog 6 #[.int .i64 day, .agg #[.int .i64 dy, .int .i64 dm, .int .i64 dd]] w fun e w' => e = .returned (.bool true) ∧ Below w.heap.size w w' := by
  have HT := Lib.hid hT
  have N1 := Lib.hid h1
  unfold Ret at *
  have O1 := Lib.hid ho1
  have O2 := Lib.hid ho2
  clear ho1 ho2
  have HQ2 := Lib.hid hq2
  have HQ3 := Lib.hid hq3
  clear hq2 hq3
  clear hT h1
  by_cases he : e0 = 0
  · have O0 := Lib.hid (h0 he)
    have z23 := sneq23 dy dm dd
    subst he
    clear h0
    cases q1
    · have hg := HQ2.out rfl
      cases q2
      · have h6 := HQ3.out rfl rfl
        clear HQ2 HQ3
        go_enter Tryd.func6, Tryd.ntmps6
        go_wp2_with (first | (go_at_call 15; refine (N1.out _).mono ?_; rintro e w1 ⟨rfl, hb⟩; have HB1 := Lib.hid (below_trans (bel : Below w.heap.size w (w.alloc _)) hb); have D1 := Lib.hid (lnew hb); clear hb N1) | (go_at_call 16; refine (O0.out _).mono ?_; rintro e w2 ⟨rfl, hb⟩; have HB2 := Lib.hid (below_trans HB1.out hb); have D2 := Lib.hid (lift0 hb D1.out); obtain ⟨p0, p1, p2, _, _, _, lp⟩ := cells3 D2.out; clear hb O0) | (go_at_call 16; refine (O1.out _).mono ?_; rintro e w3 ⟨rfl, hb⟩; have HB3 := Lib.hid (below_trans (HB2.out.alloc HB2.out.size _) hb); clear hb O1) | (go_at_call 16; refine (O2.out _).mono ?_; rintro e w4 ⟨rfl, hb⟩; have HB4 := Lib.hid (below_trans (HB3.out.alloc HB3.out.size _) hb); have A4 := Lib.hid (lnew hb); obtain ⟨a40, a41, a42, _, _, _, la4⟩ := cells3 A4.out; clear hb O2) | (go_at_call 22; refine (sanity_any _ (HT.out.below (HB4.out.alloc HB4.out.size _))).mono ?_; rintro e w10 ⟨rfl, hb⟩; have HB10 := Lib.hid (below_trans (HB4.out.alloc HB4.out.size _) hb); clear hb))
        go_ret
        exact ⟨by simp, HB10.out⟩
      · clear HQ2 HQ3
        go_enter Tryd.func6, Tryd.ntmps6
        go_wp2_with (first | (go_at_call 15; refine (N1.out _).mono ?_; rintro e w1 ⟨rfl, hb⟩; have HB1 := Lib.hid (below_trans (bel : Below w.heap.size w (w.alloc _)) hb); have D1 := Lib.hid (lnew hb); clear hb N1) | (go_at_call 16; refine (O0.out _).mono ?_; rintro e w2 ⟨rfl, hb⟩; have HB2 := Lib.hid (below_trans HB1.out hb); have D2 := Lib.hid (lift0 hb D1.out); obtain ⟨p0, p1, p2, _, _, _, lp⟩ := cells3 D2.out; clear hb O0) | (go_at_call 16; refine (O1.out _).mono ?_; rintro e w3 ⟨rfl, hb⟩; have HB3 := Lib.hid (below_trans (HB2.out.alloc HB2.out.size _) hb); clear hb O1) | (go_at_call 16; refine (O2.out _).mono ?_; rintro e w4 ⟨rfl, hb⟩; have HB4 := Lib.hid (below_trans (HB3.out.alloc HB3.out.size _) hb); have A4 := Lib.hid (lnew hb); obtain ⟨a40, a41, a42, _, _, _, la4⟩ := cells3 A4.out; clear hb O2) | (go_at_call 22; refine (sanity_any _ (HT.out.below (HB4.out.alloc HB4.out.size _))).mono ?_; rintro e w10 ⟨rfl, hb⟩; have HB10 := Lib.hid (below_trans (HB4.out.alloc HB4.out.size _) hb); clear hb))
        go_ret
        exact ⟨by simp, HB10.out⟩
    · clear HQ2 HQ3
      go_enter Tryd.func6, Tryd.ntmps6
      go_wp2_with (first | (go_at_call 15; refine (N1.out _).mono ?_; rintro e w1 ⟨rfl, hb⟩; have HB1 := Lib.hid (below_trans (bel : Below w.heap.size w (w.alloc _)) hb); have D1 := Lib.hid (lnew hb); clear hb N1) | (go_at_call 16; refine (O0.out _).mono ?_; rintro e w2 ⟨rfl, hb⟩; have HB2 := Lib.hid (below_trans HB1.out hb); have D2 := Lib.hid (lift0 hb D1.out); obtain ⟨p0, p1, p2, _, _, _, lp⟩ := cells3 D2.out; clear hb O0) | (go_at_call 16; refine (O1.out _).mono ?_; rintro e w3 ⟨rfl, hb⟩; have HB3 := Lib.hid (below_trans (HB2.out.alloc HB2.out.size _) hb); clear hb O1) | (go_at_call 16; refine (O2.out _).mono ?_; rintro e w4 ⟨rfl, hb⟩; have HB4 := Lib.hid (below_trans (HB3.out.alloc HB3.out.size _) hb); have A4 := Lib.hid (lnew hb); obtain ⟨a40, a41, a42, _, _, _, la4⟩ := cells3 A4.out; clear hb O2) | (go_at_call 22; refine (sanity_any _ (HT.out.below (HB4.out.alloc HB4.out.size _))).mono ?_; rintro e w10 ⟨rfl, hb⟩; have HB10 := Lib.hid (below_trans (HB4.out.alloc HB4.out.size _) hb); clear hb))
      go_ret
      exact ⟨by simp, HB10.out⟩
  · have te : (e0 == 0) = false := by simpa using he
    clear h0 he
    cases q1
    · have hg := HQ2.out rfl
      cases q2
      · have h6 := HQ3.out rfl rfl
        clear HQ2 HQ3
        go_enter Tryd.func6, Tryd.ntmps6
        go_wp2_with (first | (go_at_call 15; refine (N1.out _).mono ?_; rintro e w1 ⟨rfl, hb⟩; have HB1 := Lib.hid (below_trans (bel : Below w.heap.size w (w.alloc _)) hb); have D1 := Lib.hid (lnew hb); clear hb N1) | (go_at_call 16; refine (O1.out _).mono ?_; rintro e w3 ⟨rfl, hb⟩; have HB3 := Lib.hid (below_trans HB1.out hb); clear hb O1) | (go_at_call 16; refine (O2.out _).mono ?_; rintro e w4 ⟨rfl, hb⟩; have HB4 := Lib.hid (below_trans (HB3.out.alloc HB3.out.size _) hb); have A4 := Lib.hid (lnew hb); obtain ⟨a40, a41, a42, _, _, _, la4⟩ := cells3 A4.out; clear hb O2) | (go_at_call 22; refine (sanity_any _ (HT.out.below (HB4.out.alloc HB4.out.size _))).mono ?_; rintro e w10 ⟨rfl, hb⟩; have HB10 := Lib.hid (below_trans (HB4.out.alloc HB4.out.size _) hb); clear hb))
        go_ret
        exact ⟨by simp, HB10.out⟩
      · clear HQ2 HQ3
        go_enter Tryd.func6, Tryd.ntmps6
        go_wp2_with (first | (go_at_call 15; refine (N1.out _).mono ?_; rintro e w1 ⟨rfl, hb⟩; have HB1 := Lib.hid (below_trans (bel : Below w.heap.size w (w.alloc _)) hb); have D1 := Lib.hid (lnew hb); clear hb N1) | (go_at_call 16; refine (O1.out _).mono ?_; rintro e w3 ⟨rfl, hb⟩; have HB3 := Lib.hid (below_trans HB1.out hb); clear hb O1) | (go_at_call 16; refine (O2.out _).mono ?_; rintro e w4 ⟨rfl, hb⟩; have HB4 := Lib.hid (below_trans (HB3.out.alloc HB3.out.size _) hb); have A4 := Lib.hid (lnew hb); obtain ⟨a40, a41, a42, _, _, _, la4⟩ := cells3 A4.out; clear hb O2) | (go_at_call 22; refine (sanity_any _ (HT.out.below (HB4.out.alloc HB4.out.size _))).mono ?_; rintro e w10 ⟨rfl, hb⟩; have HB10 := Lib.hid (below_trans (HB4.out.alloc HB4.out.size _) hb); clear hb))
        go_ret
        exact ⟨by simp, HB10.out⟩
    · clear HQ2 HQ3
      go_enter Tryd.func6, Tryd.ntmps6
      go_wp2_with (first | (go_at_call 15; refine (N1.out _).mono ?_; rintro e w1 ⟨rfl, hb⟩; have HB1 := Lib.hid (below_trans (bel : Below w.heap.size w (w.alloc _)) hb); have D1 := Lib.hid (lnew hb); clear hb N1) | (go_at_call 16; refine (O1.out _).mono ?_; rintro e w3 ⟨rfl, hb⟩; have HB3 := Lib.hid (below_trans HB1.out hb); clear hb O1) | (go_at_call 16; refine (O2.out _).mono ?_; rintro e w4 ⟨rfl, hb⟩; have HB4 := Lib.hid (below_trans (HB3.out.alloc HB3.out.size _) hb); have A4 := Lib.hid (lnew hb); obtain ⟨a40, a41, a42, _, _, _, la4⟩ := cells3 A4.out; clear hb O2) | (go_at_call 22; refine (sanity_any _ (HT.out.below (HB4.out.alloc HB4.out.size _))).mono ?_; rintro e w10 ⟨rfl, hb⟩; have HB10 := Lib.hid (below_trans (HB4.out.alloc HB4.out.size _) hb); clear hb))
      go_ret
      exact ⟨by simp, HB10.out⟩
set_option maxRecDepth 100000 in
set_option maxHeartbeats 1000000 in
theorem one_same (day dy dm dd : Int) (w : World) (hT : Tab w) (n0 e0 : Int) (h1 : Ret 15 #[.agg #[.int .i64 dy, .int .i64 dm, .int .i64 dd]] (.tuple #[.int .i64 n0, .int .i64 e0])) (h0 : e0 = 0 → Ret 16 #[.int .i64 n0] (.tuple #[.agg #[.int .i64 dy, .int .i64 dm, .int .i64 dd], .int .i64 0]))
    (ay am ad by' bm bd v r s0 s1 t0 t1 x y : Int) (ho1 : Ret 16 #[.int .i64 day] (.tuple #[.agg #[.int .i64 ay, .int .i64 am, .int .i64 ad], .int .i64 0])) (ho2 : Ret 16 #[.int .i64 (day + 1)] (.tuple #[.agg #[.int .i64 by', .int .i64 bm, .int .i64 bd], .int .i64 0])) (hn2 : Ret 15 #[.agg #[.int .i64 ay, .int .i64 am, .int .i64 ad]] (.tuple #[.int .i64 day, .int .i64 0])) (hk1 : ∀ W, Calls Tryd.prog 24 #[.int .i64 day] W fun e w' => e = .returned (.tuple #[.int .i64 v, .int .i64 0]) ∧ W = w') (hk2 : ∀ W, Calls Tryd.prog 24 #[.int .i64 (day + 1)] W fun e w' => e = .returned (.tuple #[.int .i64 (r + 1), .int .i64 0]) ∧ W = w') (hm1 : Ret 30 #[.int .i64 day] (.tuple #[.int .i64 x, .int .i64 0])) (hm2 : Ret 30 #[.int .i64 (day + 1)] (.tuple #[.int .i64 y, .int .i64 0])) (hy1 : Ret 31 #[.int .i64 x] (.tuple #[.agg #[.int .i64 s0, .int .i64 s1], .int .i64 0])) (hy2 : Ret 31 #[.int .i64 y] (.tuple #[.agg #[.int .i64 t0, .int .i64 t1], .int .i64 0]))
    (hday : 0 ≤ day ∧ day < 60000) (hr : v.tmod 7 = r ∧ 0 ≤ r ∧ r ≤ 6) (hab : 1 ≤ ay ∧ ay ≤ 10000 ∧ 1 ≤ am ∧ am ≤ 12 ∧ 1 ≤ ad ∧ ad ≤ 31) (hx : 0 ≤ x ∧ x ≤ 2000) (hs : s0 ≤ day ∧ day ≤ s1) (hb : by' = ay ∧ bm = am ∧ bd = ad + 1) (hxy : y = x) (hst : t0 = s0 ∧ t1 = s1) :
    Calls Tryd.prog 6 #[.int .i64 day, .agg #[.int .i64 dy, .int .i64 dm, .int .i64 dd]] w fun e w' => e = .returned (.bool true) ∧ Below w.heap.size w w' := by
  have HT := Lib.hid hT
  have N1 := Lib.hid h1
  unfold Ret at *
  have O1 := Lib.hid ho1
  have O2 := Lib.hid ho2
  have N2 := Lib.hid hn2
  have K1 := Lib.hid hk1
  have K2 := Lib.hid hk2
  have M1 := Lib.hid hm1
  have M2 := Lib.hid hm2
  have Y1 := Lib.hid hy1
  have Y2 := Lib.hid hy2
  clear ho1 ho2 hn2 hk1 hk2 hm1 hm2 hy1 hy2
  obtain ⟨hd1, hd2⟩ := hday
  obtain ⟨hr1, hr2, hr3⟩ := hr
  obtain ⟨ha1, ha2, ha3, ha4, ha5, ha6⟩ := hab
  obtain ⟨hx1, hx2⟩ := hx
  obtain ⟨hs1, hs2⟩ := hs
  have t60 : (day == 60000) = false := by simp; omega
  have ts0 : decide (day < s0) = false := decide_eq_false (by omega)
  have ts1 : decide (s1 < day) = false := decide_eq_false (by omega)
  have z37 := sneq37 s0 s1
  obtain ⟨rfl, rfl, rfl⟩ := hb
  obtain ⟨rfl, rfl⟩ := hst
  subst hxy
  have tb : (ad + 1 == 1) = false := by simp; omega
  clear hT h1
  by_cases he : e0 = 0
  · have O0 := Lib.hid (h0 he)
    have z23 := sneq23 dy dm dd
    subst he
    clear h0
    go_enter Tryd.func6, Tryd.ntmps6
    go_wp2_with (first | (go_at_call 15; refine (N1.out _).mono ?_; rintro e w1 ⟨rfl, hb⟩; have HB1 := Lib.hid (below_trans (bel : Below w.heap.size w (w.alloc _)) hb); have D1 := Lib.hid (lnew hb); clear hb N1) | (go_at_call 16; refine (O0.out _).mono ?_; rintro e w2 ⟨rfl, hb⟩; have HB2 := Lib.hid (below_trans HB1.out hb); have D2 := Lib.hid (lift0 hb D1.out); obtain ⟨p0, p1, p2, _, _, _, lp⟩ := cells3 D2.out; clear hb O0) | (go_at_call 16; refine (O1.out _).mono ?_; rintro e w3 ⟨rfl, hb⟩; have HB3 := Lib.hid (below_trans (HB2.out.alloc HB2.out.size _) hb); clear hb O1) | (go_at_call 16; refine (O2.out _).mono ?_; rintro e w4 ⟨rfl, hb⟩; have HB4 := Lib.hid (below_trans (HB3.out.alloc HB3.out.size _) hb); have A4 := Lib.hid (lnew hb); obtain ⟨a40, a41, a42, _, _, _, la4⟩ := cells3 A4.out; clear hb O2) | (go_at_call 15; refine (N2.out _).mono ?_; rintro e w5 ⟨rfl, hb⟩; have HB5 := Lib.hid (below_trans (HB4.out.alloc HB4.out.size _) hb); have A5 := Lib.hid (lift1 hb A4.out); have B5 := Lib.hid (lnew hb); obtain ⟨a50, a51, a52, _, _, _, la5⟩ := cells3 A5.out; obtain ⟨b50, b51, b52, _, _, _, lb5⟩ := cells3 B5.out; clear hb N2) | (go_at_call 24; refine (K1.out _).mono ?_; rintro e w99 ⟨rfl, rfl⟩; clear K1) | (go_at_call 24; refine (K2.out _).mono ?_; rintro e w99 ⟨rfl, rfl⟩; clear K2) | (go_at_call 30; refine (M1.out _).mono ?_; rintro e w6 ⟨rfl, hb⟩; have HB6 := Lib.hid (below_trans HB5.out hb); clear hb M1) | (go_at_call 30; refine (M2.out _).mono ?_; rintro e w7 ⟨rfl, hb⟩; have HB7 := Lib.hid (below_trans HB6.out hb); clear hb M2) | (go_at_call 31; refine (Y1.out _).mono ?_; rintro e w8 ⟨rfl, hb⟩; have HB8 := Lib.hid (below_trans HB7.out hb); clear hb Y1) | (go_at_call 31; refine (Y2.out _).mono ?_; rintro e w9 ⟨rfl, hb⟩; have HB9 := Lib.hid (below_trans (HB8.out.alloc HB8.out.size _) hb); have S9 := Lib.hid (lnew hb); obtain ⟨s90, s91, _, _, ls9⟩ := cells2 S9.out; clear hb Y2) | (go_at_call 22; refine (sanity_any _ (HT.out.below (HB9.out.alloc HB9.out.size _))).mono ?_; rintro e w10 ⟨rfl, hb⟩; have HB10 := Lib.hid (below_trans (HB9.out.alloc HB9.out.size _) hb); clear hb))
    go_ret
    exact ⟨by simp, HB10.out⟩
  · have te : (e0 == 0) = false := by simpa using he
    clear h0 he
    go_enter Tryd.func6, Tryd.ntmps6
    go_wp2_with (first | (go_at_call 15; refine (N1.out _).mono ?_; rintro e w1 ⟨rfl, hb⟩; have HB1 := Lib.hid (below_trans (bel : Below w.heap.size w (w.alloc _)) hb); have D1 := Lib.hid (lnew hb); clear hb N1) | (go_at_call 16; refine (O1.out _).mono ?_; rintro e w3 ⟨rfl, hb⟩; have HB3 := Lib.hid (below_trans HB1.out hb); clear hb O1) | (go_at_call 16; refine (O2.out _).mono ?_; rintro e w4 ⟨rfl, hb⟩; have HB4 := Lib.hid (below_trans (HB3.out.alloc HB3.out.size _) hb); have A4 := Lib.hid (lnew hb); obtain ⟨a40, a41, a42, _, _, _, la4⟩ := cells3 A4.out; clear hb O2) | (go_at_call 15; refine (N2.out _).mono ?_; rintro e w5 ⟨rfl, hb⟩; have HB5 := Lib.hid (below_trans (HB4.out.alloc HB4.out.size _) hb); have A5 := Lib.hid (lift1 hb A4.out); have B5 := Lib.hid (lnew hb); obtain ⟨a50, a51, a52, _, _, _, la5⟩ := cells3 A5.out; obtain ⟨b50, b51, b52, _, _, _, lb5⟩ := cells3 B5.out; clear hb N2) | (go_at_call 24; refine (K1.out _).mono ?_; rintro e w99 ⟨rfl, rfl⟩; clear K1) | (go_at_call 24; refine (K2.out _).mono ?_; rintro e w99 ⟨rfl, rfl⟩; clear K2) | (go_at_call 30; refine (M1.out _).mono ?_; rintro e w6 ⟨rfl, hb⟩; have HB6 := Lib.hid (below_trans HB5.out hb); clear hb M1) | (go_at_call 30; refine (M2.out _).mono ?_; rintro e w7 ⟨rfl, hb⟩; have HB7 := Lib.hid (below_trans HB6.out hb); clear hb M2) | (go_at_call 31; refine (Y1.out _).mono ?_; rintro e w8 ⟨rfl, hb⟩; have HB8 := Lib.hid (below_trans HB7.out hb); clear hb Y1) | (go_at_call 31; refine (Y2.out _).mono ?_; rintro e w9 ⟨rfl, hb⟩; have HB9 := Lib.hid (below_trans (HB8.out.alloc HB8.out.size _) hb); have S9 := Lib.hid (lnew hb); obtain ⟨s90, s91, _, _, ls9⟩ := cells2 S9.out; clear hb Y2) | (go_at_call 22; refine (sanity_any _ (HT.out.below (HB9.out.alloc HB9.out.size _))).mono ?_; rintro e w10 ⟨rfl, hb⟩; have HB10 := Lib.hid (below_trans (HB9.out.alloc HB9.out.size _) hb); clear hb))
    go_ret
    exact ⟨by simp, HB10.out⟩
set_option maxRecDepth 100000 in
set_option maxHeartbeats 1000000 in
theorem one_next1 (day dy dm dd : Int) (w : World) (hT : Tab w) (n0 e0 : Int) (h1 : Ret 15 #[.agg #[.int .i64 dy, .int .i64 dm, .int .i64 dd]] (.tuple #[.int .i64 n0, .int .i64 e0])) (h0 : e0 = 0 → Ret 16 #[.int .i64 n0] (.tuple #[.agg #[.int .i64 dy, .int .i64 dm, .int .i64 dd], .int .i64 0]))
    (ay am ad by' bm bd v r s0 s1 t0 t1 x y : Int) (ho1 : Ret 16 #[.int .i64 day] (.tuple #[.agg #[.int .i64 ay, .int .i64 am, .int .i64 ad], .int .i64 0])) (ho2 : Ret 16 #[.int .i64 (day + 1)] (.tuple #[.agg #[.int .i64 by', .int .i64 bm, .int .i64 bd], .int .i64 0])) (hn2 : Ret 15 #[.agg #[.int .i64 ay, .int .i64 am, .int .i64 ad]] (.tuple #[.int .i64 day, .int .i64 0])) (hk1 : ∀ W, Calls Tryd.prog 24 #[.int .i64 day] W fun e w' => e = .returned (.tuple #[.int .i64 v, .int .i64 0]) ∧ W = w') (hk2 : ∀ W, Calls Tryd.prog 24 #[.int .i64 (day + 1)] W fun e w' => e = .returned (.tuple #[.int .i64 (r + 1), .int .i64 0]) ∧ W = w') (hm1 : Ret 30 #[.int .i64 day] (.tuple #[.int .i64 x, .int .i64 0])) (hm2 : Ret 30 #[.int .i64 (day + 1)] (.tuple #[.int .i64 y, .int .i64 0])) (hy1 : Ret 31 #[.int .i64 x] (.tuple #[.agg #[.int .i64 s0, .int .i64 s1], .int .i64 0])) (hy2 : Ret 31 #[.int .i64 y] (.tuple #[.agg #[.int .i64 t0, .int .i64 t1], .int .i64 0]))
    (hday : 0 ≤ day ∧ day < 60000) (hr : v.tmod 7 = r ∧ 0 ≤ r ∧ r ≤ 6) (hab : 1 ≤ ay ∧ ay ≤ 10000 ∧ 1 ≤ am ∧ am ≤ 12 ∧ 1 ≤ ad ∧ ad ≤ 31) (hx : 0 ≤ x ∧ x ≤ 2000) (hs : s0 ≤ day ∧ day ≤ s1) (hb : by' = ay ∧ bm = am + 1 ∧ bd = 1) (hxy : y = x + 1) (hst : s1 = day ∧ t0 = day + 1) :
    Calls Tryd.prog 6 #[.int .i64 day, .agg #[.int .i64 dy, .int .i64 dm, .int .i64 dd]] w fun e w' => e = .returned (.bool true) ∧ Below w.heap.size w w' := by
  have HT := Lib.hid hT
  have N1 := Lib.hid h1
  unfold Ret at *
  have O1 := Lib.hid ho1
  have O2 := Lib.hid ho2
  have N2 := Lib.hid hn2
  have K1 := Lib.hid hk1
  have K2 := Lib.hid hk2
  have M1 := Lib.hid hm1
  have M2 := Lib.hid hm2
  have Y1 := Lib.hid hy1
  have Y2 := Lib.hid hy2
  clear ho1 ho2 hn2 hk1 hk2 hm1 hm2 hy1 hy2
  obtain ⟨hd1, hd2⟩ := hday
  obtain ⟨hr1, hr2, hr3⟩ := hr
  obtain ⟨ha1, ha2, ha3, ha4, ha5, ha6⟩ := hab
  obtain ⟨hx1, hx2⟩ := hx
  obtain ⟨hs1, hs2⟩ := hs
  have t60 : (day == 60000) = false := by simp; omega
  have ts0 : decide (day < s0) = false := decide_eq_false (by omega)
  have ts1 : decide (s1 < day) = false := decide_eq_false (by omega)
  have z37 := sneq37 s0 s1
  obtain ⟨rfl, rfl, rfl⟩ := hb
  obtain ⟨rfl, rfl⟩ := hst
  subst hxy
  have tb : (am == am + 1) = false := by simp; omega
  clear hT h1
  by_cases he : e0 = 0
  · have O0 := Lib.hid (h0 he)
    have z23 := sneq23 dy dm dd
    subst he
    clear h0
    go_enter Tryd.func6, Tryd.ntmps6
    go_wp2_with (first | (go_at_call 15; refine (N1.out _).mono ?_; rintro e w1 ⟨rfl, hb⟩; have HB1 := Lib.hid (below_trans (bel : Below w.heap.size w (w.alloc _)) hb); have D1 := Lib.hid (lnew hb); clear hb N1) | (go_at_call 16; refine (O0.out _).mono ?_; rintro e w2 ⟨rfl, hb⟩; have HB2 := Lib.hid (below_trans HB1.out hb); have D2 := Lib.hid (lift0 hb D1.out); obtain ⟨p0, p1, p2, _, _, _, lp⟩ := cells3 D2.out; clear hb O0) | (go_at_call 16; refine (O1.out _).mono ?_; rintro e w3 ⟨rfl, hb⟩; have HB3 := Lib.hid (below_trans (HB2.out.alloc HB2.out.size _) hb); clear hb O1) | (go_at_call 16; refine (O2.out _).mono ?_; rintro e w4 ⟨rfl, hb⟩; have HB4 := Lib.hid (below_trans (HB3.out.alloc HB3.out.size _) hb); have A4 := Lib.hid (lnew hb); obtain ⟨a40, a41, a42, _, _, _, la4⟩ := cells3 A4.out; clear hb O2) | (go_at_call 15; refine (N2.out _).mono ?_; rintro e w5 ⟨rfl, hb⟩; have HB5 := Lib.hid (below_trans (HB4.out.alloc HB4.out.size _) hb); have A5 := Lib.hid (lift1 hb A4.out); have B5 := Lib.hid (lnew hb); obtain ⟨a50, a51, a52, _, _, _, la5⟩ := cells3 A5.out; obtain ⟨b50, b51, b52, _, _, _, lb5⟩ := cells3 B5.out; clear hb N2) | (go_at_call 24; refine (K1.out _).mono ?_; rintro e w99 ⟨rfl, rfl⟩; clear K1) | (go_at_call 24; refine (K2.out _).mono ?_; rintro e w99 ⟨rfl, rfl⟩; clear K2) | (go_at_call 30; refine (M1.out _).mono ?_; rintro e w6 ⟨rfl, hb⟩; have HB6 := Lib.hid (below_trans HB5.out hb); clear hb M1) | (go_at_call 30; refine (M2.out _).mono ?_; rintro e w7 ⟨rfl, hb⟩; have HB7 := Lib.hid (below_trans HB6.out hb); clear hb M2) | (go_at_call 31; refine (Y1.out _).mono ?_; rintro e w8 ⟨rfl, hb⟩; have HB8 := Lib.hid (below_trans HB7.out hb); clear hb Y1) | (go_at_call 31; refine (Y2.out _).mono ?_; rintro e w9 ⟨rfl, hb⟩; have HB9 := Lib.hid (below_trans (HB8.out.alloc HB8.out.size _) hb); have S9 := Lib.hid (lnew hb); obtain ⟨s90, s91, _, _, ls9⟩ := cells2 S9.out; clear hb Y2) | (go_at_call 22; refine (sanity_any _ (HT.out.below (HB9.out.alloc HB9.out.size _))).mono ?_; rintro e w10 ⟨rfl, hb⟩; have HB10 := Lib.hid (below_trans (HB9.out.alloc HB9.out.size _) hb); clear hb))
    go_ret
    exact ⟨by simp, HB10.out⟩
  · have te : (e0 == 0) = false := by simpa using he
    clear h0 he
    go_enter Tryd.func6, Tryd.ntmps6
    go_wp2_with (first | (go_at_call 15; refine (N1.out _).mono ?_; rintro e w1 ⟨rfl, hb⟩; have HB1 := Lib.hid (below_trans (bel : Below w.heap.size w (w.alloc _)) hb); have D1 := Lib.hid (lnew hb); clear hb N1) | (go_at_call 16; refine (O1.out _).mono ?_; rintro e w3 ⟨rfl, hb⟩; have HB3 := Lib.hid (below_trans HB1.out hb); clear hb O1) | (go_at_call 16; refine (O2.out _).mono ?_; rintro e w4 ⟨rfl, hb⟩; have HB4 := Lib.hid (below_trans (HB3.out.alloc HB3.out.size _) hb); have A4 := Lib.hid (lnew hb); obtain ⟨a40, a41, a42, _, _, _, la4⟩ := cells3 A4.out; clear hb O2) | (go_at_call 15; refine (N2.out _).mono ?_; rintro e w5 ⟨rfl, hb⟩; have HB5 := Lib.hid (below_trans (HB4.out.alloc HB4.out.size _) hb); have A5 := Lib.hid (lift1 hb A4.out); have B5 := Lib.hid (lnew hb); obtain ⟨a50, a51, a52, _, _, _, la5⟩ := cells3 A5.out; obtain ⟨b50, b51, b52, _, _, _, lb5⟩ := cells3 B5.out; clear hb N2) | (go_at_call 24; refine (K1.out _).mono ?_; rintro e w99 ⟨rfl, rfl⟩; clear K1) | (go_at_call 24; refine (K2.out _).mono ?_; rintro e w99 ⟨rfl, rfl⟩; clear K2) | (go_at_call 30; refine (M1.out _).mono ?_; rintro e w6 ⟨rfl, hb⟩; have HB6 := Lib.hid (below_trans HB5.out hb); clear hb M1) | (go_at_call 30; refine (M2.out _).mono ?_; rintro e w7 ⟨rfl, hb⟩; have HB7 := Lib.hid (below_trans HB6.out hb); clear hb M2) | (go_at_call 31; refine (Y1.out _).mono ?_; rintro e w8 ⟨rfl, hb⟩; have HB8 := Lib.hid (below_trans HB7.out hb); clear hb Y1) | (go_at_call 31; refine (Y2.out _).mono ?_; rintro e w9 ⟨rfl, hb⟩; have HB9 := Lib.hid (below_trans (HB8.out.alloc HB8.out.size _) hb); have S9 := Lib.hid (lnew hb); obtain ⟨s90, s91, _, _, ls9⟩ := cells2 S9.out; clear hb Y2) | (go_at_call 22; refine (sanity_any _ (HT.out.below (HB9.out.alloc HB9.out.size _))).mono ?_; rintro e w10 ⟨rfl, hb⟩; have HB10 := Lib.hid (below_trans (HB9.out.alloc HB9.out.size _) hb); clear hb))
    go_ret
    exact ⟨by simp, HB10.out⟩
set_option maxRecDepth 100000 in
set_option maxHeartbeats 1000000 in
theorem one_next2 (day dy dm dd : Int) (w : World) (hT : Tab w) (n0 e0 : Int) (h1 : Ret 15 #[.agg #[.int .i64 dy, .int .i64 dm, .int .i64 dd]] (.tuple #[.int .i64 n0, .int .i64 e0])) (h0 : e0 = 0 → Ret 16 #[.int .i64 n0] (.tuple #[.agg #[.int .i64 dy, .int .i64 dm, .int .i64 dd], .int .i64 0]))
    (ay am ad by' bm bd v r s0 s1 t0 t1 x y : Int) (ho1 : Ret 16 #[.int .i64 day] (.tuple #[.agg #[.int .i64 ay, .int .i64 am, .int .i64 ad], .int .i64 0])) (ho2 : Ret 16 #[.int .i64 (day + 1)] (.tuple #[.agg #[.int .i64 by', .int .i64 bm, .int .i64 bd], .int .i64 0])) (hn2 : Ret 15 #[.agg #[.int .i64 ay, .int .i64 am, .int .i64 ad]] (.tuple #[.int .i64 day, .int .i64 0])) (hk1 : ∀ W, Calls Tryd.prog 24 #[.int .i64 day] W fun e w' => e = .returned (.tuple #[.int .i64 v, .int .i64 0]) ∧ W = w') (hk2 : ∀ W, Calls Tryd.prog 24 #[.int .i64 (day + 1)] W fun e w' => e = .returned (.tuple #[.int .i64 (r + 1), .int .i64 0]) ∧ W = w') (hm1 : Ret 30 #[.int .i64 day] (.tuple #[.int .i64 x, .int .i64 0])) (hm2 : Ret 30 #[.int .i64 (day + 1)] (.tuple #[.int .i64 y, .int .i64 0])) (hy1 : Ret 31 #[.int .i64 x] (.tuple #[.agg #[.int .i64 s0, .int .i64 s1], .int .i64 0])) (hy2 : Ret 31 #[.int .i64 y] (.tuple #[.agg #[.int .i64 t0, .int .i64 t1], .int .i64 0]))
    (hday : 0 ≤ day ∧ day < 60000) (hr : v.tmod 7 = r ∧ 0 ≤ r ∧ r ≤ 6) (hab : 1 ≤ ay ∧ ay ≤ 10000 ∧ 1 ≤ am ∧ am ≤ 12 ∧ 1 ≤ ad ∧ ad ≤ 31) (hx : 0 ≤ x ∧ x ≤ 2000) (hs : s0 ≤ day ∧ day ≤ s1) (hb : by' = ay + 1 ∧ am = 12 ∧ bm = 1 ∧ bd = 1) (hxy : y = x + 1) (hst : s1 = day ∧ t0 = day + 1) :
    Calls Tryd.prog 6 #[.int .i64 day, .agg #[.int .i64 dy, .int .i64 dm, .int .i64 dd]] w fun e w' => e = .returned (.bool true) ∧ Below w.heap.size w w' := by
  have HT := Lib.hid hT
  have N1 := Lib.hid h1
  unfold Ret at *
  have O1 := Lib.hid ho1
  have O2 := Lib.hid ho2
  have N2 := Lib.hid hn2
  have K1 := Lib.hid hk1
  have K2 := Lib.hid hk2
  have M1 := Lib.hid hm1
  have M2 := Lib.hid hm2
  have Y1 := Lib.hid hy1
  have Y2 := Lib.hid hy2
  clear ho1 ho2 hn2 hk1 hk2 hm1 hm2 hy1 hy2
  obtain ⟨hd1, hd2⟩ := hday
  obtain ⟨hr1, hr2, hr3⟩ := hr
  obtain ⟨ha1, ha2, ha3, ha4, ha5, ha6⟩ := hab
  obtain ⟨hx1, hx2⟩ := hx
  obtain ⟨hs1, hs2⟩ := hs
  have t60 : (day == 60000) = false := by simp; omega
  have ts0 : decide (day < s0) = false := decide_eq_false (by omega)
  have ts1 : decide (s1 < day) = false := decide_eq_false (by omega)
  have z37 := sneq37 s0 s1
  obtain ⟨rfl, rfl, rfl, rfl⟩ := hb
  obtain ⟨rfl, rfl⟩ := hst
  subst hxy
  have tb : (ay == ay + 1) = false := by simp; omega
  clear hT h1
  by_cases he : e0 = 0
  · have O0 := Lib.hid (h0 he)
    have z23 := sneq23 dy dm dd
    subst he
    clear h0
    go_enter Tryd.func6, Tryd.ntmps6
    go_wp2_with (first | (go_at_call 15; refine (N1.out _).mono ?_; rintro e w1 ⟨rfl, hb⟩; have HB1 := Lib.hid (below_trans (bel : Below w.heap.size w (w.alloc _)) hb); have D1 := Lib.hid (lnew hb); clear hb N1) | (go_at_call 16; refine (O0.out _).mono ?_; rintro e w2 ⟨rfl, hb⟩; have HB2 := Lib.hid (below_trans HB1.out hb); have D2 := Lib.hid (lift0 hb D1.out); obtain ⟨p0, p1, p2, _, _, _, lp⟩ := cells3 D2.out; clear hb O0) | (go_at_call 16; refine (O1.out _).mono ?_; rintro e w3 ⟨rfl, hb⟩; have HB3 := Lib.hid (below_trans (HB2.out.alloc HB2.out.size _) hb); clear hb O1) | (go_at_call 16; refine (O2.out _).mono ?_; rintro e w4 ⟨rfl, hb⟩; have HB4 := Lib.hid (below_trans (HB3.out.alloc HB3.out.size _) hb); have A4 := Lib.hid (lnew hb); obtain ⟨a40, a41, a42, _, _, _, la4⟩ := cells3 A4.out; clear hb O2) | (go_at_call 15; refine (N2.out _).mono ?_; rintro e w5 ⟨rfl, hb⟩; have HB5 := Lib.hid (below_trans (HB4.out.alloc HB4.out.size _) hb); have A5 := Lib.hid (lift1 hb A4.out); have B5 := Lib.hid (lnew hb); obtain ⟨a50, a51, a52, _, _, _, la5⟩ := cells3 A5.out; obtain ⟨b50, b51, b52, _, _, _, lb5⟩ := cells3 B5.out; clear hb N2) | (go_at_call 24; refine (K1.out _).mono ?_; rintro e w99 ⟨rfl, rfl⟩; clear K1) | (go_at_call 24; refine (K2.out _).mono ?_; rintro e w99 ⟨rfl, rfl⟩; clear K2) | (go_at_call 30; refine (M1.out _).mono ?_; rintro e w6 ⟨rfl, hb⟩; have HB6 := Lib.hid (below_trans HB5.out hb); clear hb M1) | (go_at_call 30; refine (M2.out _).mono ?_; rintro e w7 ⟨rfl, hb⟩; have HB7 := Lib.hid (below_trans HB6.out hb); clear hb M2) | (go_at_call 31; refine (Y1.out _).mono ?_; rintro e w8 ⟨rfl, hb⟩; have HB8 := Lib.hid (below_trans HB7.out hb); clear hb Y1) | (go_at_call 31; refine (Y2.out _).mono ?_; rintro e w9 ⟨rfl, hb⟩; have HB9 := Lib.hid (below_trans (HB8.out.alloc HB8.out.size _) hb); have S9 := Lib.hid (lnew hb); obtain ⟨s90, s91, _, _, ls9⟩ := cells2 S9.out; clear hb Y2) | (go_at_call 22; refine (sanity_any _ (HT.out.below (HB9.out.alloc HB9.out.size _))).mono ?_; rintro e w10 ⟨rfl, hb⟩; have HB10 := Lib.hid (below_trans (HB9.out.alloc HB9.out.size _) hb); clear hb))
    go_ret
    exact ⟨by simp, HB10.out⟩
  · have te : (e0 == 0) = false := by simpa using he
    clear h0 he
    go_enter Tryd.func6, Tryd.ntmps6
    go_wp2_with (first | (go_at_call 15; refine (N1.out _).mono ?_; rintro e w1 ⟨rfl, hb⟩; have HB1 := Lib.hid (below_trans (bel : Below w.heap.size w (w.alloc _)) hb); have D1 := Lib.hid (lnew hb); clear hb N1) | (go_at_call 16; refine (O1.out _).mono ?_; rintro e w3 ⟨rfl, hb⟩; have HB3 := Lib.hid (below_trans HB1.out hb); clear hb O1) | (go_at_call 16; refine (O2.out _).mono ?_; rintro e w4 ⟨rfl, hb⟩; have HB4 := Lib.hid (below_trans (HB3.out.alloc HB3.out.size _) hb); have A4 := Lib.hid (lnew hb); obtain ⟨a40, a41, a42, _, _, _, la4⟩ := cells3 A4.out; clear hb O2) | (go_at_call 15; refine (N2.out _).mono ?_; rintro e w5 ⟨rfl, hb⟩; have HB5 := Lib.hid (below_trans (HB4.out.alloc HB4.out.size _) hb); have A5 := Lib.hid (lift1 hb A4.out); have B5 := Lib.hid (lnew hb); obtain ⟨a50, a51, a52, _, _, _, la5⟩ := cells3 A5.out; obtain ⟨b50, b51, b52, _, _, _, lb5⟩ := cells3 B5.out; clear hb N2) | (go_at_call 24; refine (K1.out _).mono ?_; rintro e w99 ⟨rfl, rfl⟩; clear K1) | (go_at_call 24; refine (K2.out _).mono ?_; rintro e w99 ⟨rfl, rfl⟩; clear K2) | (go_at_call 30; refine (M1.out _).mono ?_; rintro e w6 ⟨rfl, hb⟩; have HB6 := Lib.hid (below_trans HB5.out hb); clear hb M1) | (go_at_call 30; refine (M2.out _).mono ?_; rintro e w7 ⟨rfl, hb⟩; have HB7 := Lib.hid (below_trans HB6.out hb); clear hb M2) | (go_at_call 31; refine (Y1.out _).mono ?_; rintro e w8 ⟨rfl, hb⟩; have HB8 := Lib.hid (below_trans HB7.out hb); clear hb Y1) | (go_at_call 31; refine (Y2.out _).mono ?_; rintro e w9 ⟨rfl, hb⟩; have HB9 := Lib.hid (below_trans (HB8.out.alloc HB8.out.size _) hb); have S9 := Lib.hid (lnew hb); obtain ⟨s90, s91, _, _, ls9⟩ := cells2 S9.out; clear hb Y2) | (go_at_call 22; refine (sanity_any _ (HT.out.below (HB9.out.alloc HB9.out.size _))).mono ?_; rintro e w10 ⟨rfl, hb⟩; have HB10 := Lib.hid (below_trans (HB9.out.alloc HB9.out.size _) hb); clear hb))
    go_ret
    exact ⟨by simp, HB10.out⟩
end Go.Proofs.YteoembjghmgbhaaDoor
