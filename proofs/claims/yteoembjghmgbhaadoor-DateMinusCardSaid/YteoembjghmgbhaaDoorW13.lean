/- The law DateMinus: the walk. -/
import Derived.Test.YteoembjghmgbhaaDoorP2
import Derived.Test.YteoembjghmgbhaaDoorC9
import Derived.Test.YteoembjghmgbhaaDoorR5
namespace Go.Proofs.YteoembjghmgbhaaDoor
set_option linter.all false
open Go.RowKit

theorem rGaps_one (s b : Sp) (W : World) (hs : spanB s = true) (hb : spanB b = true) :
    Calls Tryd.prog 52 #[spv s, .slice (some ⟨W.heap.size, 0, none⟩) 1 1] (W.alloc (.cells #[.int .i64 b.lo, .int .i64 b.hi] 37)) fun e w' => ∃ A c, e = .returned (.slice A (rgapsL s [b]).length c) ∧ SpsAt w' A (rgapsL s [b]) ∧ Below (W.alloc (.cells #[.int .i64 b.lo, .int .i64 b.hi] 37)).heap.size (W.alloc (.cells #[.int .i64 b.lo, .int .i64 b.hi] 37)) w' := by
  have h1 : 0 ≤ s.lo ∧ s.lo ≤ s.hi ∧ s.hi ≤ 60000 := by simpa [spanB] using hs
  have h2 : 0 ≤ b.lo ∧ b.lo ≤ b.hi ∧ b.hi ≤ 60000 := by simpa [spanB] using hb
  refine (rGaps_any s (some ⟨W.heap.size, 0, none⟩) 1 [b] (W.alloc (.cells #[.int .i64 b.lo, .int .i64 b.hi] 37)) (by simp) (fun h => by cases h) (sps_lit W [b] _ rfl (by simp)) (fun x hx => by simp at hx; rcases hx with rfl | rfl <;> omega)).mono ?_
  rintro e w' ⟨v, rfl, ho, hb⟩
  obtain ⟨A, c, rfl, -⟩ := own_slice ho
  exact ⟨A, c, rfl, own_sps ho, hb⟩
theorem rGaps_at (s b : Sp) (hs : spanB s = true) (hb : spanB b = true) (W : World) (g : Nat) (hg : g = W.heap.size) :
    Calls Tryd.prog 52 #[spv s, .slice (some ⟨g, 0, none⟩) 1 1] (W.alloc (.cells #[.int .i64 b.lo, .int .i64 b.hi] 37)) fun e w' => ∃ A c, e = .returned (.slice A (rgapsL s [b]).length c) ∧ SpsAt w' A (rgapsL s [b]) ∧ Below (W.alloc (.cells #[.int .i64 b.lo, .int .i64 b.hi] 37)).heap.size (W.alloc (.cells #[.int .i64 b.lo, .int .i64 b.hi] 37)) w' := by
  subst hg
  exact rGaps_one s b W hs hb
/-- What Minus gives. -/
def MinusRet (a b : Sp) (l : List Sp) (e0 : Int) : Prop := ∀ W, Calls Tryd.prog 54 #[spv a, spv b] W fun e w' => ∃ A c, e = .returned (.tuple #[.slice A l.length c, .int .i64 e0]) ∧ SpsAt w' A l ∧ Below W.heap.size W w'
theorem minus_ret (a b : Sp) : MinusRet a b (minusL a b) (minusE a b) := by
  intro W
  refine (Minus_any a b W).mono ?_
  rintro e w' ⟨v, rfl, ho, hb⟩
  obtain ⟨A, c, rfl, -⟩ := own_slice ho
  exact ⟨A, c, rfl, own_sps ho, hb⟩
set_option maxRecDepth 100000 in
set_option maxHeartbeats 1000000 in
theorem minus_bad1 (a b : Sp) (w : World) (hT : Tab w) (ha : spanB a = false) :
    Calls Tryd.prog 13 #[spv a, spv b] w fun e w' => e = .returned (.bool true) ∧ Below w.heap.size w w' := by
  have HT := Lib.hid hT
  have M1 := Lib.hid (fun W => Meet_any a b W)
  have N1 := Lib.hid (minus_ret a b)
  have V1 := Lib.hid (fun W => rValid_any a W)
  have V2 := Lib.hid (fun W => rValid_any b W)
  unfold MinusRet at N1
  have hm : MeetR a b = (⟨0, 0⟩, 1) := by unfold MeetR; rw [ha]; rfl
  have hn : minusL a b = [] := by unfold minusL; rw [ha]; rfl
  have he : minusE a b = 1 := by unfold minusE; rw [ha]; rfl
  rw [hm] at M1
  rw [hn, he] at N1
  rw [ha] at V1
  clear hT hm hn he ha V2
  have z37 := seq37 0 0
  obtain ⟨a1, a2⟩ := a
  obtain ⟨b1, b2⟩ := b
  unfold spv at *
  simp only at *
  go_enter Tryd.func13, Tryd.ntmps13
  go_wp2_with (first | (go_at_call 53; refine (M1.out _).mono ?_; rintro e w1 ⟨rfl, hb⟩; have HB1 := Lib.hid (below2 hb); obtain ⟨p0, p1, _, _, lp⟩ := cells2 HB1.out.2.1; obtain ⟨q0, q1, _, _, lq⟩ := cells2 HB1.out.2.2; clear hb) | (go_at_call 54; refine (N1.out _).mono ?_; rintro e w2 ⟨A, c, rfl, hsp, hb⟩; have HB2 := Lib.hid (below_trans (HB1.out.1.alloc HB1.out.1.size _) hb); have P2 := Lib.hid (lift1 hb HB1.out.2.1); have Q2 := Lib.hid (lift1 hb HB1.out.2.2); have X2 := Lib.hid (lnew hb); have SP2 := Lib.hid hsp; obtain ⟨r0, r1, _, _, lr⟩ := cells2 P2.out; obtain ⟨s0, s1, _, _, ls⟩ := cells2 Q2.out; clear hb hsp) | (go_at_call 35; refine (V1.out _).mono ?_; rintro e w3 ⟨rfl, hb⟩; have HB3 := Lib.hid (below_trans HB2.out hb); have P3 := Lib.hid (lift0 hb P2.out); have Q3 := Lib.hid (lift0 hb Q2.out); have X3 := Lib.hid (lift0 hb X2.out); have SP3 := Lib.hid (SP2.out.below hb); obtain ⟨t0, t1, _, _, lt⟩ := cells2 Q3.out; clear hb V1) | (go_at_call 22; refine (sanity_any _ (HT.out.below HB3.out)).mono ?_; rintro e w9 ⟨rfl, hb⟩; have HB9 := Lib.hid (below_trans HB3.out hb); have X9 := Lib.hid (lift0 hb X3.out); obtain ⟨x0, x1, _, _, lx⟩ := cells2 X9.out; clear hb))
  go_ret
  exact ⟨by simp, HB9.out⟩
set_option maxRecDepth 100000 in
set_option maxHeartbeats 1000000 in
theorem minus_bad2 (a b : Sp) (w : World) (hT : Tab w) (ha : spanB a = true) (hb : spanB b = false) :
    Calls Tryd.prog 13 #[spv a, spv b] w fun e w' => e = .returned (.bool true) ∧ Below w.heap.size w w' := by
  have HT := Lib.hid hT
  have M1 := Lib.hid (fun W => Meet_any a b W)
  have N1 := Lib.hid (minus_ret a b)
  have V1 := Lib.hid (fun W => rValid_any a W)
  have V2 := Lib.hid (fun W => rValid_any b W)
  unfold MinusRet at N1
  have hm : MeetR a b = (⟨0, 0⟩, 1) := by unfold MeetR; rw [ha, hb]; rfl
  have hn : minusL a b = [] := by unfold minusL; rw [ha, hb]; rfl
  have he : minusE a b = 1 := by unfold minusE; rw [ha, hb]; rfl
  rw [hm] at M1
  rw [hn, he] at N1
  rw [ha] at V1
  rw [hb] at V2
  clear hT hm hn he ha hb
  have z37 := seq37 0 0
  obtain ⟨a1, a2⟩ := a
  obtain ⟨b1, b2⟩ := b
  unfold spv at *
  simp only at *
  go_enter Tryd.func13, Tryd.ntmps13
  go_wp2_with (first | (go_at_call 53; refine (M1.out _).mono ?_; rintro e w1 ⟨rfl, hb⟩; have HB1 := Lib.hid (below2 hb); obtain ⟨p0, p1, _, _, lp⟩ := cells2 HB1.out.2.1; obtain ⟨q0, q1, _, _, lq⟩ := cells2 HB1.out.2.2; clear hb) | (go_at_call 54; refine (N1.out _).mono ?_; rintro e w2 ⟨A, c, rfl, hsp, hb⟩; have HB2 := Lib.hid (below_trans (HB1.out.1.alloc HB1.out.1.size _) hb); have P2 := Lib.hid (lift1 hb HB1.out.2.1); have Q2 := Lib.hid (lift1 hb HB1.out.2.2); have X2 := Lib.hid (lnew hb); have SP2 := Lib.hid hsp; obtain ⟨r0, r1, _, _, lr⟩ := cells2 P2.out; obtain ⟨s0, s1, _, _, ls⟩ := cells2 Q2.out; clear hb hsp) | (go_at_call 35; refine (V1.out _).mono ?_; rintro e w3 ⟨rfl, hb⟩; have HB3 := Lib.hid (below_trans HB2.out hb); have P3 := Lib.hid (lift0 hb P2.out); have Q3 := Lib.hid (lift0 hb Q2.out); have X3 := Lib.hid (lift0 hb X2.out); have SP3 := Lib.hid (SP2.out.below hb); obtain ⟨t0, t1, _, _, lt⟩ := cells2 Q3.out; clear hb V1) | (go_at_call 35; refine (V2.out _).mono ?_; rintro e w4 ⟨rfl, hb⟩; have HB4 := Lib.hid (below_trans HB3.out hb); have P4 := Lib.hid (lift0 hb P3.out); have Q4 := Lib.hid (lift0 hb Q3.out); have X4 := Lib.hid (lift0 hb X3.out); have SP4 := Lib.hid (SP3.out.below hb); obtain ⟨u0, u1, _, _, lu⟩ := cells2 P4.out; obtain ⟨v0, v1, _, _, lv⟩ := cells2 Q4.out; clear hb V2) | (go_at_call 22; refine (sanity_any _ (HT.out.below HB4.out)).mono ?_; rintro e w9 ⟨rfl, hb⟩; have HB9 := Lib.hid (below_trans HB4.out hb); have X9 := Lib.hid (lift0 hb X4.out); obtain ⟨x0, x1, _, _, lx⟩ := cells2 X9.out; clear hb))
  go_ret
  exact ⟨by simp, HB9.out⟩
set_option maxRecDepth 100000 in
set_option maxHeartbeats 1000000 in
theorem minus_good (a b : Sp) (w : World) (hT : Tab w) (ha : spanB a = true) (hb : spanB b = true) :
    Calls Tryd.prog 13 #[spv a, spv b] w fun e w' => e = .returned (.bool true) ∧ Below w.heap.size w w' := by
  have HT := Lib.hid hT
  have M1 := Lib.hid (fun W => Meet_any a b W)
  have N1 := Lib.hid (minus_ret a b)
  have V1 := Lib.hid (fun W => rValid_any a W)
  have V2 := Lib.hid (fun W => rValid_any b W)
  have R1 := Lib.hid (fun W => rMeet_any a b W)
  have GP := Lib.hid (rGaps_at a b ha hb)
  unfold MinusRet at N1
  have ha2 : 0 ≤ a.lo ∧ a.lo ≤ a.hi ∧ a.hi ≤ 60000 := by simpa [spanB] using ha
  have hb2 : 0 ≤ b.lo ∧ b.lo ≤ b.hi ∧ b.hi ≤ 60000 := by simpa [spanB] using hb
  have hm : MeetR a b = if (meetS a b).hi < (meetS a b).lo then (⟨0, 0⟩, 5) else (meetS a b, 0) := by unfold MeetR; rw [ha, hb]; rfl
  have hgl : restL a [b] = rgapsL a [b] := rest_gaps a [b] [b] (fun x hx => by simp at hx; rcases hx with rfl | rfl <;> omega) ⟨by simp; omega, List.pairwise_singleton _ _⟩ (fun _ => Iff.rfl)
  have hn : minusL a b = rgapsL a [b] := by unfold minusL; rw [ha, hb, ← hgl]; rfl
  have hlen : (rgapsL a [b]).length ≤ 1000 := by
    rw [← hgl]
    unfold restL
    have := (restF_bd a [b] ⟨ha2.1, by omega⟩ (fun x hx => by simp at hx; subst hx; omega) 1 (by simp)).2
    rw [show [b].take 1 = [b] from rfl] at this
    rw [List.length_append]
    split <;> simp <;> omega
  have he : minusE a b = 0 := by unfold minusE; rw [ha, hb]; rfl
  rw [hm] at M1
  rw [hn, he] at N1
  rw [ha] at V1
  rw [hb] at V2
  have HLL := Lib.hid hlen
  clear hT hm hn he ha hb hgl hlen ha2 hb2
  generalize rgapsL a [b] = L at *
  generalize meetS a b = m at *
  obtain ⟨m1, m2⟩ := m
  obtain ⟨a1, a2⟩ := a
  obtain ⟨b1, b2⟩ := b
  unfold spv at *
  simp only at *
  by_cases hc : m2 < m1
  · rw [if_pos hc] at M1
    simp only at M1
    have td : decide (m1 ≤ m2) = false := decide_eq_false (by omega)
    rw [td] at R1
    have z37 := sneq37 0 0
    clear hc td
    go_enter Tryd.func13, Tryd.ntmps13
    go_wp2_with (first | (go_at_call 53; refine (M1.out _).mono ?_; rintro e w1 ⟨rfl, hb⟩; have HB1 := Lib.hid (below2 hb); obtain ⟨p0, p1, _, _, lp⟩ := cells2 HB1.out.2.1; obtain ⟨q0, q1, _, _, lq⟩ := cells2 HB1.out.2.2; clear hb) | (go_at_call 54; refine (N1.out _).mono ?_; rintro e w2 ⟨A, c, rfl, hsp, hb⟩; have HB2 := Lib.hid (below_trans (HB1.out.1.alloc HB1.out.1.size _) hb); have P2 := Lib.hid (lift1 hb HB1.out.2.1); have Q2 := Lib.hid (lift1 hb HB1.out.2.2); have X2 := Lib.hid (lnew hb); have SP2 := Lib.hid hsp; obtain ⟨r0, r1, _, _, lr⟩ := cells2 P2.out; obtain ⟨s0, s1, _, _, ls⟩ := cells2 Q2.out; clear hb hsp) | (go_at_call 35; refine (V1.out _).mono ?_; rintro e w3 ⟨rfl, hb⟩; have HB3 := Lib.hid (below_trans HB2.out hb); have P3 := Lib.hid (lift0 hb P2.out); have Q3 := Lib.hid (lift0 hb Q2.out); have X3 := Lib.hid (lift0 hb X2.out); have SP3 := Lib.hid (SP2.out.below hb); obtain ⟨t0, t1, _, _, lt⟩ := cells2 Q3.out; clear hb V1) | (go_at_call 35; refine (V2.out _).mono ?_; rintro e w4 ⟨rfl, hb⟩; have HB4 := Lib.hid (below_trans HB3.out hb); have P4 := Lib.hid (lift0 hb P3.out); have Q4 := Lib.hid (lift0 hb Q3.out); have X4 := Lib.hid (lift0 hb X3.out); have SP4 := Lib.hid (SP3.out.below hb); obtain ⟨u0, u1, _, _, lu⟩ := cells2 P4.out; obtain ⟨v0, v1, _, _, lv⟩ := cells2 Q4.out; clear hb V2) | (go_at_call 55; refine (R1.out _).mono ?_; rintro e w5 ⟨rfl, hb⟩; have HB5 := Lib.hid (below_trans HB4.out hb); have P5 := Lib.hid (lift0 hb P4.out); have Q5 := Lib.hid (lift0 hb Q4.out); have X5 := Lib.hid (lift0 hb X4.out); have SP5 := Lib.hid (SP4.out.below hb); obtain ⟨x50, x51, _, _, lx5⟩ := cells2 X5.out; clear hb) | (go_at_call 22; refine (sanity_any _ (HT.out.below (HB5.out.alloc HB5.out.size _))).mono ?_; rintro e w6 ⟨rfl, hb⟩; have HB6 := Lib.hid (below_trans (HB5.out.alloc HB5.out.size _) hb); have P6 := Lib.hid (lift1 hb P5.out); have Q6 := Lib.hid (lift1 hb Q5.out); have SP6 := Lib.hid ((SP5.out.alloc _).below hb); obtain ⟨p60, p61, _, _, lp6⟩ := cells2 P6.out; obtain ⟨q60, q61, _, _, lq6⟩ := cells2 Q6.out; clear hb) | (go_at_call 52; refine (GP.out _ _ rfl).mono ?_; rintro e w7 ⟨A7, c7, rfl, hsp, hb⟩; have HB7 := Lib.hid (below_trans (HB6.out.alloc HB6.out.size _) hb); have SP7 := Lib.hid ((SP6.out.alloc _).below hb); have SQ7 := Lib.hid hsp; clear hb hsp) | (go_at_call 40; refine (rSame_any A c L A7 c7 L _ (by have := HLL.out; omega) SP7.out SQ7.out).mono ?_; rintro e w8 ⟨rfl, hb⟩; have HB8 := Lib.hid (below_trans HB7.out hb); clear hb))
    go_ret
    exact ⟨by simp, HB8.out⟩
  · rw [if_neg hc] at M1
    simp only at M1
    have td : decide (m1 ≤ m2) = true := decide_eq_true (by omega)
    rw [td] at R1
    have z37 := sneq37 m1 m2
    clear hc td
    go_enter Tryd.func13, Tryd.ntmps13
    go_wp2_with (first | (go_at_call 53; refine (M1.out _).mono ?_; rintro e w1 ⟨rfl, hb⟩; have HB1 := Lib.hid (below2 hb); obtain ⟨p0, p1, _, _, lp⟩ := cells2 HB1.out.2.1; obtain ⟨q0, q1, _, _, lq⟩ := cells2 HB1.out.2.2; clear hb) | (go_at_call 54; refine (N1.out _).mono ?_; rintro e w2 ⟨A, c, rfl, hsp, hb⟩; have HB2 := Lib.hid (below_trans (HB1.out.1.alloc HB1.out.1.size _) hb); have P2 := Lib.hid (lift1 hb HB1.out.2.1); have Q2 := Lib.hid (lift1 hb HB1.out.2.2); have X2 := Lib.hid (lnew hb); have SP2 := Lib.hid hsp; obtain ⟨r0, r1, _, _, lr⟩ := cells2 P2.out; obtain ⟨s0, s1, _, _, ls⟩ := cells2 Q2.out; clear hb hsp) | (go_at_call 35; refine (V1.out _).mono ?_; rintro e w3 ⟨rfl, hb⟩; have HB3 := Lib.hid (below_trans HB2.out hb); have P3 := Lib.hid (lift0 hb P2.out); have Q3 := Lib.hid (lift0 hb Q2.out); have X3 := Lib.hid (lift0 hb X2.out); have SP3 := Lib.hid (SP2.out.below hb); obtain ⟨t0, t1, _, _, lt⟩ := cells2 Q3.out; clear hb V1) | (go_at_call 35; refine (V2.out _).mono ?_; rintro e w4 ⟨rfl, hb⟩; have HB4 := Lib.hid (below_trans HB3.out hb); have P4 := Lib.hid (lift0 hb P3.out); have Q4 := Lib.hid (lift0 hb Q3.out); have X4 := Lib.hid (lift0 hb X3.out); have SP4 := Lib.hid (SP3.out.below hb); obtain ⟨u0, u1, _, _, lu⟩ := cells2 P4.out; obtain ⟨v0, v1, _, _, lv⟩ := cells2 Q4.out; clear hb V2) | (go_at_call 55; refine (R1.out _).mono ?_; rintro e w5 ⟨rfl, hb⟩; have HB5 := Lib.hid (below_trans HB4.out hb); have P5 := Lib.hid (lift0 hb P4.out); have Q5 := Lib.hid (lift0 hb Q4.out); have X5 := Lib.hid (lift0 hb X4.out); have SP5 := Lib.hid (SP4.out.below hb); obtain ⟨x50, x51, _, _, lx5⟩ := cells2 X5.out; clear hb) | (go_at_call 22; refine (sanity_any _ (HT.out.below (HB5.out.alloc HB5.out.size _))).mono ?_; rintro e w6 ⟨rfl, hb⟩; have HB6 := Lib.hid (below_trans (HB5.out.alloc HB5.out.size _) hb); have P6 := Lib.hid (lift1 hb P5.out); have Q6 := Lib.hid (lift1 hb Q5.out); have SP6 := Lib.hid ((SP5.out.alloc _).below hb); obtain ⟨p60, p61, _, _, lp6⟩ := cells2 P6.out; obtain ⟨q60, q61, _, _, lq6⟩ := cells2 Q6.out; clear hb) | (go_at_call 52; refine (GP.out _ _ rfl).mono ?_; rintro e w7 ⟨A7, c7, rfl, hsp, hb⟩; have HB7 := Lib.hid (below_trans (HB6.out.alloc HB6.out.size _) hb); have SP7 := Lib.hid ((SP6.out.alloc _).below hb); have SQ7 := Lib.hid hsp; clear hb hsp) | (go_at_call 40; refine (rSame_any A c L A7 c7 L _ (by have := HLL.out; omega) SP7.out SQ7.out).mono ?_; rintro e w8 ⟨rfl, hb⟩; have HB8 := Lib.hid (below_trans HB7.out hb); clear hb))
    go_ret
    exact ⟨by simp, HB8.out⟩
theorem minus_walk (a b : Sp) (w : World) (hT : Tab w) (_ : -9223372036854775808 ≤ a.lo ∧ a.lo ≤ 9223372036854775807) (_ : -9223372036854775808 ≤ a.hi ∧ a.hi ≤ 9223372036854775807) (_ : -9223372036854775808 ≤ b.lo ∧ b.lo ≤ 9223372036854775807) (_ : -9223372036854775808 ≤ b.hi ∧ b.hi ≤ 9223372036854775807) :
    Calls Tryd.prog 13 #[spv a, spv b] w fun e w' => e = .returned (.bool true) ∧ Below w.heap.size w w' := by
  cases ha : spanB a
  · exact minus_bad1 a b w hT ha
  · cases hb : spanB b
    · exact minus_bad2 a b w hT ha hb
    · exact minus_good a b w hT ha hb
end Go.Proofs.YteoembjghmgbhaaDoor
