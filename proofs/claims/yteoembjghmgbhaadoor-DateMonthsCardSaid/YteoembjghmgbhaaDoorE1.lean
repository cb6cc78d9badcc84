/- The date walks: Year; the reference's Year, Days, SameInts. -/
import Derived.Test.YteoembjghmgbhaaDoorE0
import Derived.Test.YteoembjghmgbhaaDoorR2
namespace Go.Proofs.YteoembjghmgbhaaDoor
set_option linter.all false
open Go.RowKit

def YearR (y : Int) : Sp × Int := if inB y 1850 2014 then (clipI (firstI y) (firstI (y + 1) - 1), 0) else (⟨0, 0⟩, 1)
theorem first_begin (k : Nat) : beginN (12 * k) = firstI (1850 + (k : Int)) := by
  unfold beginN
  rw [show 12 * k / 12 = k by omega, show 12 * k % 12 = 0 by omega]
  rfl
theorem first_bd (y : Int) (h1 : 1850 ≤ y) (h2 : y ≤ 2015) : 0 ≤ firstI y ∧ firstI y ≤ 40001000 := by
  have e := first_begin (y - 1850).toNat
  rw [show 1850 + (((y - 1850).toNat : Nat) : Int) = y by omega] at e
  rw [← e]
  exact ⟨begin_nonneg _ (by omega), (begin_bd2 _ (by omega)).2⟩
set_option maxRecDepth 100000 in
set_option maxHeartbeats 1000000 in
theorem Year_any (y : Int) (w : World) : Calls Tryd.prog 42 #[.int .i64 y] w fun e w' => e = .returned (.tuple #[spv (YearR y).1, .int .i64 (YearR y).2]) ∧ Below w.heap.size w w' := by
  have HH := Lib.hid (heap_alloc_new w (.cells #[.int .i64 0, .int .i64 0] 37))
  by_cases h1 : y < 1850
  · have HE := Lib.hid (show YearR y = (⟨0, 0⟩, 1) by unfold YearR inB; rw [decide_eq_false (show ¬ 1850 ≤ y by omega)]; rfl)
    have t1 : decide (y < 1850) = true := decide_eq_true h1
    obtain ⟨y0, y1, _⟩ := cells2 (set2 (x := .int .i64 0) (y := .int .i64 0) HH.out)
    go_enter Tryd.func42, Tryd.ntmps42
    go_wp2
    refine bodyPost_ret (v := .tuple #[.agg #[.int .i64 0, .int .i64 0], .int .i64 1]) ?_ rfl ⟨by rw [HE.out]; rfl, bel⟩
    simp [results, Tryd.results42, go_sem, y0, y1]
  · have t1 : decide (y < 1850) = false := decide_eq_false h1
    by_cases h2 : 2014 < y
    · have HE := Lib.hid (show YearR y = (⟨0, 0⟩, 1) by unfold YearR inB; rw [decide_eq_false (show ¬ y ≤ 2014 by omega), Bool.and_false]; rfl)
      have t2 : decide (2014 < y) = true := decide_eq_true h2
      obtain ⟨y0, y1, _⟩ := cells2 (set2 (x := .int .i64 0) (y := .int .i64 0) HH.out)
      go_enter Tryd.func42, Tryd.ntmps42
      go_wp2
      refine bodyPost_ret (v := .tuple #[.agg #[.int .i64 0, .int .i64 0], .int .i64 1]) ?_ rfl ⟨by rw [HE.out]; rfl, bel⟩
      simp [results, Tryd.results42, go_sem, y0, y1]
    · have t2 : decide (2014 < y) = false := decide_eq_false h2
      have HE := Lib.hid (show YearR y = (clipI (firstI y) (firstI (y + 1) - 1), 0) by unfold YearR inB; rw [decide_eq_true (show 1850 ≤ y by omega), decide_eq_true (show y ≤ 2014 by omega)]; rfl)
      have HF1 := Lib.hid (fun W => first_any y W (by omega) (by omega))
      have HF2 := Lib.hid (fun W => first_any (y + 1) W (by omega) (by omega))
      have b1 := first_bd y (by omega) (by omega)
      have b2 := first_bd (y + 1) (by omega) (by omega)
      generalize firstI y = f1 at *
      generalize firstI (y + 1) = f2 at *
      have HC := Lib.hid (fun W => clip_any f1 (f2 - 1) W)
      generalize clipI f1 (f2 - 1) = o at *
      obtain ⟨a, b⟩ := o
      go_enter Tryd.func42, Tryd.ntmps42
      go_wp2_with (first | (go_at_call 73; refine (HF1.out _).mono ?_; rintro e w1 ⟨rfl, rfl⟩; clear HF1) | (go_at_call 73; refine (HF2.out _).mono ?_; rintro e w1 ⟨rfl, rfl⟩; clear HF2) | (go_at_call 65; refine (HC.out _).mono ?_; unfold spv; rintro e w2 ⟨rfl, hb⟩; have HB2 := Lib.hid (below_trans (bel : Below w.heap.size w (w.alloc _)) hb); have HH2 := Lib.hid (lnew hb); obtain ⟨c0, c1, f0, f1, lc⟩ := cells2 HH2.out; clear hb))
      obtain ⟨y0, y1, _⟩ := cells2 (set2 (x := .int .i64 a) (y := .int .i64 b) HH2.out)
      refine bodyPost_ret (v := .tuple #[.agg #[.int .i64 a, .int .i64 b], .int .i64 0]) ?_ rfl ?_
      · simp [results, Tryd.results42, go_sem, y0, y1]
      · exact ⟨by rw [HE.out]; rfl, (HB2.out.setCell (Nat.le_refl _) _).setCell (Nat.le_refl _) _⟩
set_option maxRecDepth 100000 in
set_option maxHeartbeats 1000000 in
theorem rYear_any (y : Int) (w : World) (h1 : 1850 ≤ y) (h2 : y ≤ 2014) : Calls Tryd.prog 44 #[.int .i64 y] w fun e w' => e = .returned (spv (clipI (firstI y) (firstI (y + 1) - 1))) ∧ Below w.heap.size w w' := by
  have HH := Lib.hid (heap_alloc_new w (.cells #[.int .i64 0, .int .i64 0] 37))
  have hb1 := first_bd y (by omega) (by omega)
  have hb2 := first_bd (y + 1) (by omega) (by omega)
  obtain ⟨k, hk⟩ : ∃ k : Nat, y = 1850 + (k : Int) := ⟨(y - 1850).toNat, by omega⟩
  have HF1 := Lib.hid (fun W => rFirst_any (12 * k) W (by omega))
  have HF2 := Lib.hid (fun W => rFirst_any (12 * (k + 1)) W (by omega))
  rw [first_begin k] at HF1
  rw [first_begin (k + 1)] at HF2
  have e1 : ((12 * k : Nat) : Int) = 12 * (y - 1850) := by omega
  have e2 : ((12 * (k + 1) : Nat) : Int) = 12 * (y - 1849) := by omega
  have e3 : 1850 + ((k + 1 : Nat) : Int) = y + 1 := by omega
  rw [e1, ← hk] at HF1
  rw [e2, e3] at HF2
  clear e1 e2 e3 hk
  generalize firstI y = f1 at *
  generalize firstI (y + 1) = f2 at *
  obtain ⟨b, hb⟩ : ∃ b, min 60000 (f2 - 1) = b := ⟨_, rfl⟩
  have HE := Lib.hid (show clipI f1 (f2 - 1) = ⟨f1, b⟩ by unfold clipI; congr 1 <;> split <;> omega)
  go_enter Tryd.func44, Tryd.ntmps44
  go_wp2_with (first | (go_at_call 63; refine (HF1.out _).mono ?_; rintro e w1 ⟨rfl, rfl⟩; clear HF1) | (go_at_call 63; refine (HF2.out _).mono ?_; rintro e w1 ⟨rfl, rfl⟩; clear HF2))
  obtain ⟨y0, y1, _⟩ := cells2 (set2 (x := .int .i64 f1) (y := .int .i64 b) HH.out)
  refine bodyPost_ret (v := .agg #[.int .i64 f1, .int .i64 b]) ?_ rfl ?_
  · simp [results, Tryd.results44, go_sem, y0, y1]
  · exact ⟨by rw [HE.out]; rfl, bel⟩
set_option maxRecDepth 100000 in
set_option maxHeartbeats 1000000 in
theorem rDays_any (m : Nat) (w : World) (hm : m ≤ 1971) : Calls Tryd.prog 45 #[.int .i64 m] w fun e w' => e = .returned (spv (clipI (beginN m) (beginN (m + 1) - 1))) ∧ Below w.heap.size w w' := by
  have HH := Lib.hid (heap_alloc_new w (.cells #[.int .i64 0, .int .i64 0] 37))
  have HF1 := Lib.hid (fun W => rFirst_any m W (by omega))
  have HF2 := Lib.hid (fun W => rFirst_any (m + 1) W (by omega))
  have b1 := begin_nonneg m (by omega)
  have b2 := begin_bd2 (m + 1) (by omega)
  have e1 : ((m + 1 : Nat) : Int) = (m : Int) + 1 := by omega
  rw [e1] at HF2
  clear e1
  generalize beginN m = f1 at *
  generalize beginN (m + 1) = f2 at *
  obtain ⟨b, hb⟩ : ∃ b, min 60000 (f2 - 1) = b := ⟨_, rfl⟩
  have HE := Lib.hid (show clipI f1 (f2 - 1) = ⟨f1, b⟩ by unfold clipI; congr 1 <;> split <;> omega)
  go_enter Tryd.func45, Tryd.ntmps45
  go_wp2_with (first | (go_at_call 63; refine (HF1.out _).mono ?_; rintro e w1 ⟨rfl, rfl⟩; clear HF1) | (go_at_call 63; refine (HF2.out _).mono ?_; rintro e w1 ⟨rfl, rfl⟩; clear HF2))
  obtain ⟨y0, y1, _⟩ := cells2 (set2 (x := .int .i64 f1) (y := .int .i64 b) HH.out)
  refine bodyPost_ret (v := .agg #[.int .i64 f1, .int .i64 b]) ?_ rfl ?_
  · simp [results, Tryd.results45, go_sem, y0, y1]
  · exact ⟨by rw [HE.out]; rfl, bel⟩
set_option maxRecDepth 100000 in
set_option maxHeartbeats 1000000 in
theorem rSameInts_self (A : Option Addr) (c : Nat) (x : List Int) (B : Option Addr) (d : Nat) (w : World) (hx : x.length ≤ 1000000) (h : IntsAt w A x) (h' : IntsAt w B x) :
    Calls Tryd.prog 46 #[.slice A x.length c, .slice B x.length d] w fun e w' => e = .returned (.bool true) ∧ Below w.heap.size w w' := by
  have HX := Lib.hid h
  have HY := Lib.hid h'
  clear h h'
  go_enter Tryd.func46, Tryd.ntmps46
  go_wp2
  go_loopw [5] (fun i wr => ∃ k : Nat, k ≤ x.length ∧ i = .int .i64 k ∧ Hid (Below w.heap.size w wr)) (fun i _ => x.length - (intOf i).toNat)
  case atStart => exact ⟨0, by omega, rfl, Lib.hid bel⟩
  case round =>
    obtain ⟨k, hk, rfl, HB⟩ := hrel
    by_cases hlt : k < x.length
    · obtain ⟨b1, o1, rfl, g1⟩ := (HX.out.below HB.out).nat k hlt
      obtain ⟨b2, o2, rfl, g4⟩ := (HY.out.below HB.out).nat k hlt
      have l1 := World.block_lt_of_cell? _ _ g1
      have l2 := World.block_lt_of_cell? _ _ g4
      generalize gi x k = q at g1 g4
      go_wp2
      go_quiet (fail)
      go_wp2
      go_roundw
      case rel => exact ⟨k + 1, by omega, by go_num, Lib.hid (below_dN HB.out _)⟩
      case measure => simp [intOf]; omega
    · obtain rfl : k = x.length := by omega
      go_wp2
      go_ret
      exact ⟨rfl, HB.out⟩
end Go.Proofs.YteoembjghmgbhaaDoor
