/- The date walks: Meet, Minus; the reference's Meet, Has. -/
import Derived.Test.YteoembjghmgbhaaDoorF0
namespace Go.Proofs.YteoembjghmgbhaaDoor
set_option linter.all false
open Go.RowKit

def meetS (a b : Sp) : Sp := ⟨max a.lo b.lo, min a.hi b.hi⟩
def MeetR (a b : Sp) : Sp × Int := if spanB a && spanB b then (if (meetS a b).hi < (meetS a b).lo then (⟨0, 0⟩, 5) else (meetS a b, 0)) else (⟨0, 0⟩, 1)
theorem below3 {w w2 : World} {o1 o2 o3 : Obj} (hb : Below (((w.alloc o1).alloc o2).alloc o3).heap.size (((w.alloc o1).alloc o2).alloc o3) w2) : Below w.heap.size w w2 ∧ w2.heap[w.heap.size]? = some o1 ∧ w2.heap[w.heap.size + 1]? = some o2 ∧ w2.heap[w.heap.size + 2]? = some o3 := by
  refine ⟨below_trans (bel : Below w.heap.size w (((w.alloc o1).alloc o2).alloc o3)) hb, ?_, ?_, ?_⟩
  · exact lift2 hb (heap_alloc_new w o1)
  · have := lift1 hb (heap_alloc_new (w.alloc o1) o2)
    simpa using this
  · have := lnew hb
    simpa using this
set_option maxRecDepth 100000 in
set_option maxHeartbeats 1000000 in
theorem Meet_any (a b : Sp) (w : World) : Calls Tryd.prog 53 #[spv a, spv b] w fun e w' => e = .returned (.tuple #[spv (MeetR a b).1, .int .i64 (MeetR a b).2]) ∧ Below w.heap.size w w' := by
  have HE := Lib.hid (show MeetR a b = if spanB a && spanB b then (if (meetS a b).hi < (meetS a b).lo then (⟨0, 0⟩, 5) else (meetS a b, 0)) else (⟨0, 0⟩, 1) from rfl)
  have HA := Lib.hid (fun W => isSpan_b a W)
  have HB := Lib.hid (fun W => isSpan_b b W)
  have HM := Lib.hid (show meetS a b = ⟨max a.lo b.lo, min a.hi b.hi⟩ from rfl)
  cases ha : spanB a
  · rw [ha] at HE HA
    obtain ⟨a1, a2⟩ := a
    obtain ⟨b1, b2⟩ := b
    unfold spv at *
    simp only at *
    clear ha HM HB
    go_enter Tryd.func53, Tryd.ntmps53
    go_wp2_with (first | (go_at_call 71; refine (HA.out _).mono ?_; rintro e w1 ⟨rfl, hb⟩; have H1 := Lib.hid (below3 hb); obtain ⟨p0, p1, _, _, _⟩ := cells2 H1.out.2.1; obtain ⟨q0, q1, _, _, _⟩ := cells2 H1.out.2.2.1; obtain ⟨r0, r1, _, _, lr⟩ := cells2 H1.out.2.2.2; clear hb HA))
    obtain ⟨y0, y1, _⟩ := cells2 (set2 (x := .int .i64 0) (y := .int .i64 0) H1.out.2.2.2)
    refine bodyPost_ret (v := .tuple #[.agg #[.int .i64 0, .int .i64 0], .int .i64 1]) ?_ rfl ⟨by rw [HE.out]; rfl, (H1.out.1.setCell (show w.heap.size ≤ w.heap.size + 2 by omega) _).setCell (show w.heap.size ≤ w.heap.size + 2 by omega) _⟩
    simp [results, Tryd.results53, go_sem, y0, y1]
  · rw [ha] at HE HA
    cases hb0 : spanB b
    · rw [hb0] at HE HB
      obtain ⟨a1, a2⟩ := a
      obtain ⟨b1, b2⟩ := b
      unfold spv at *
      simp only at *
      clear ha hb0 HM
      go_enter Tryd.func53, Tryd.ntmps53
      go_wp2_with (first | (go_at_call 71; refine (HA.out _).mono ?_; rintro e w1 ⟨rfl, hb⟩; have H1 := Lib.hid (below3 hb); obtain ⟨p0, p1, _, _, _⟩ := cells2 H1.out.2.1; obtain ⟨q0, q1, _, _, _⟩ := cells2 H1.out.2.2.1; obtain ⟨r0, r1, _, _, lr⟩ := cells2 H1.out.2.2.2; clear hb HA) | (go_at_call 71; refine (HB.out _).mono ?_; rintro e w2 ⟨rfl, hb⟩; have HB2 := Lib.hid (below_trans H1.out.1 hb); have P2 := Lib.hid (lift0 hb H1.out.2.1); have Q2 := Lib.hid (lift0 hb H1.out.2.2.1); have R2 := Lib.hid (lift0 hb H1.out.2.2.2); obtain ⟨p20, p21, _, _, lp⟩ := cells2 P2.out; obtain ⟨q20, q21, _, _, lq⟩ := cells2 Q2.out; obtain ⟨r20, r21, _, _, lr2⟩ := cells2 R2.out; clear hb HB))
      obtain ⟨y0, y1, _⟩ := cells2 (set2 (x := .int .i64 0) (y := .int .i64 0) R2.out)
      refine bodyPost_ret (v := .tuple #[.agg #[.int .i64 0, .int .i64 0], .int .i64 1]) ?_ rfl ⟨by rw [HE.out]; rfl, (HB2.out.setCell (show w.heap.size ≤ w.heap.size + 2 by omega) _).setCell (show w.heap.size ≤ w.heap.size + 2 by omega) _⟩
      simp [results, Tryd.results53, go_sem, y0, y1]
    · rw [hb0] at HE HB
      rw [HM.out] at HE
      obtain ⟨a1, a2⟩ := a
      obtain ⟨b1, b2⟩ := b
      unfold spv at *
      simp only at *
      clear ha hb0 HM
      obtain ⟨m1, hm1⟩ : ∃ m1, max a1 b1 = m1 := ⟨_, rfl⟩
      obtain ⟨m2, hm2⟩ : ∃ m2, min a2 b2 = m2 := ⟨_, rfl⟩
      rw [hm1, hm2] at HE
      by_cases hc : m2 < m1
      · rw [if_pos hc] at HE
        have tc : decide (m2 < m1) = true := decide_eq_true hc
        go_enter Tryd.func53, Tryd.ntmps53
        go_wp2_with (first | (go_at_call 71; refine (HA.out _).mono ?_; rintro e w1 ⟨rfl, hb⟩; have H1 := Lib.hid (below3 hb); obtain ⟨p0, p1, _, _, _⟩ := cells2 H1.out.2.1; obtain ⟨q0, q1, _, _, _⟩ := cells2 H1.out.2.2.1; obtain ⟨r0, r1, _, _, lr⟩ := cells2 H1.out.2.2.2; clear hb HA) | (go_at_call 71; refine (HB.out _).mono ?_; rintro e w2 ⟨rfl, hb⟩; have HB2 := Lib.hid (below_trans H1.out.1 hb); have P2 := Lib.hid (lift0 hb H1.out.2.1); have Q2 := Lib.hid (lift0 hb H1.out.2.2.1); have R2 := Lib.hid (lift0 hb H1.out.2.2.2); obtain ⟨p20, p21, _, _, lp⟩ := cells2 P2.out; obtain ⟨q20, q21, _, _, lq⟩ := cells2 Q2.out; obtain ⟨r20, r21, _, _, lr2⟩ := cells2 R2.out; clear hb HB))
        obtain ⟨y0, y1, _⟩ := cells2 (set2 (x := .int .i64 0) (y := .int .i64 0) R2.out)
        have z0 := cell_below (Below.alloc (Below.refl _ _) (Nat.le_refl _) (.cells #[.int .i64 m1, .int .i64 m2] 37)) y0
        have z1 := cell_below (Below.alloc (Below.refl _ _) (Nat.le_refl _) (.cells #[.int .i64 m1, .int .i64 m2] 37)) y1
        refine bodyPost_ret (v := .tuple #[.agg #[.int .i64 0, .int .i64 0], .int .i64 5]) ?_ rfl ⟨by rw [HE.out]; rfl, (((HB2.out.setCell (p := ⟨w.heap.size + 1 + 1, 0, none⟩) (show w.heap.size ≤ w.heap.size + 1 + 1 by omega) _).setCell (p := ⟨w.heap.size + 1 + 1, 1, none⟩) (show w.heap.size ≤ w.heap.size + 1 + 1 by omega) _).alloc (by have := HB2.out.size; simpa using this) _)⟩
        simp [results, Tryd.results53, go_sem, z0, z1]
      · rw [if_neg hc] at HE
        have tc : decide (m2 < m1) = false := decide_eq_false hc
        go_enter Tryd.func53, Tryd.ntmps53
        go_wp2_with (first | (go_at_call 71; refine (HA.out _).mono ?_; rintro e w1 ⟨rfl, hb⟩; have H1 := Lib.hid (below3 hb); obtain ⟨p0, p1, _, _, _⟩ := cells2 H1.out.2.1; obtain ⟨q0, q1, _, _, _⟩ := cells2 H1.out.2.2.1; obtain ⟨r0, r1, _, _, lr⟩ := cells2 H1.out.2.2.2; clear hb HA) | (go_at_call 71; refine (HB.out _).mono ?_; rintro e w2 ⟨rfl, hb⟩; have HB2 := Lib.hid (below_trans H1.out.1 hb); have P2 := Lib.hid (lift0 hb H1.out.2.1); have Q2 := Lib.hid (lift0 hb H1.out.2.2.1); have R2 := Lib.hid (lift0 hb H1.out.2.2.2); obtain ⟨p20, p21, _, _, lp⟩ := cells2 P2.out; obtain ⟨q20, q21, _, _, lq⟩ := cells2 Q2.out; obtain ⟨r20, r21, _, _, lr2⟩ := cells2 R2.out; clear hb HB))
        obtain ⟨y0, y1, _⟩ := cells2 (set2 (x := .int .i64 m1) (y := .int .i64 m2) R2.out)
        have z0 := cell_below (Below.alloc (Below.refl _ _) (Nat.le_refl _) (.cells #[.int .i64 m1, .int .i64 m2] 37)) y0
        have z1 := cell_below (Below.alloc (Below.refl _ _) (Nat.le_refl _) (.cells #[.int .i64 m1, .int .i64 m2] 37)) y1
        refine bodyPost_ret (v := .tuple #[.agg #[.int .i64 m1, .int .i64 m2], .int .i64 0]) ?_ rfl ⟨by rw [HE.out]; rfl, (((HB2.out.setCell (p := ⟨w.heap.size + 1 + 1, 0, none⟩) (show w.heap.size ≤ w.heap.size + 1 + 1 by omega) _).setCell (p := ⟨w.heap.size + 1 + 1, 1, none⟩) (show w.heap.size ≤ w.heap.size + 1 + 1 by omega) _).alloc (by have := HB2.out.size; simpa using this) _)⟩
        simp [results, Tryd.results53, go_sem, z0, z1]
def hasB (l : List Sp) (d : Int) : Bool := l.any fun x => decide (x.lo ≤ d) && decide (d ≤ x.hi)
set_option maxRecDepth 100000 in
set_option maxHeartbeats 1000000 in
theorem rHas_any (A : Option Addr) (c : Nat) (l : List Sp) (d : Int) (w : World) (hl : l.length ≤ 1000000) (h : SpsAt w A l) :
    Calls Tryd.prog 78 #[.slice A l.length c, .int .i64 d] w fun e w' => e = .returned (.bool (hasB l d)) ∧ w = w' := by
  have H := Lib.hid h
  clear h
  go_enter Tryd.func78, Tryd.ntmps78
  go_wp2
  go_loopw [5] (fun i wr => ∃ k : Nat, k ≤ l.length ∧ i = .int .i64 k ∧ Hid (∀ j : Nat, j < k → (decide ((gs l j).lo ≤ d) && decide (d ≤ (gs l j).hi)) = false) ∧ w = wr) (fun i _ => l.length - (intOf i).toNat)
  case atStart => exact ⟨0, by omega, rfl, Lib.hid (by simp), rfl⟩
  case round =>
    obtain ⟨k, hk, rfl, hbad, rfl⟩ := hrel
    by_cases hlt : k < l.length
    · obtain ⟨b, o, rfl, g1, g2⟩ := H.out.nat k hlt
      have HX := Lib.hid (show ∀ r, (decide ((gs l (k : Int)).lo ≤ d) && decide (d ≤ (gs l (k : Int)).hi)) = r → r = r from fun _ _ => rfl)
      have HG := Lib.hid (gs_mem hlt)
      obtain ⟨x, hx⟩ : ∃ x, gs l (k : Int) = x := ⟨_, rfl⟩
      rw [hx] at g1 g2
      have HXE := Lib.hid hx
      clear hx HX
      obtain ⟨xa, xb⟩ := x
      by_cases c1 : xa ≤ d
      · have t1 : decide (xa ≤ d) = true := decide_eq_true c1
        by_cases c2 : d ≤ xb
        · have t2 : decide (d ≤ xb) = true := decide_eq_true c2
          have HT := Lib.hid (show hasB l d = true from any_gs_true (i := k) hlt (by rw [HXE.out]; simp [c1, c2]))
          go_wp2
          go_ret
          exact ⟨by rw [HT.out]; rfl, rfl⟩
        · have t2 : decide (d ≤ xb) = false := decide_eq_false c2
          go_wp2
          go_roundw
          case rel =>
            refine ⟨k + 1, by omega, by go_num, Lib.hid fun j hj => ?_, trivial⟩
            rcases Nat.lt_succ_iff_lt_or_eq.1 hj with h | rfl
            · exact hbad.out j h
            · rw [HXE.out]; simp [c2]
          case measure => simp [intOf]; omega
      · have t1 : decide (xa ≤ d) = false := decide_eq_false c1
        go_wp2
        go_roundw
        case rel =>
          refine ⟨k + 1, by omega, by go_num, Lib.hid fun j hj => ?_, trivial⟩
          rcases Nat.lt_succ_iff_lt_or_eq.1 hj with h | rfl
          · exact hbad.out j h
          · rw [HXE.out]; simp [c1]
        case measure => simp [intOf]; omega
    · obtain rfl : k = l.length := by omega
      have HT := Lib.hid (show hasB l d = false from any_gs_false hbad.out)
      go_wp2
      go_ret
      exact ⟨by rw [HT.out]; rfl, rfl⟩
end Go.Proofs.YteoembjghmgbhaaDoor
