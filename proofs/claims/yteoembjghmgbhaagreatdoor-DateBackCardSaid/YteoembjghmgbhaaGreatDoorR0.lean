/- The reference's walks: In, Day, Leap, Length, First, Month, Of, Number, Weekday, Week. -/
import Derived.Test.YteoembjghmgbhaaGreatDoorB8
import Derived.Test.YteoembjghmgbhaaGreatDoorP0
namespace Go.Proofs.YteoembjghmgbhaaGreatDoor
set_option linter.all false
open Go.RowKit

def inB (a lo hi : Int) : Bool := decide (lo ≤ a) && decide (a ≤ hi)
theorem rIn_any (a lo hi : Int) (w : World) : Calls Tryz.prog 25 #[.int .i64 a, .int .i64 lo, .int .i64 hi] w fun e w' => e = .returned (.bool (inB a lo hi)) ∧ w = w' := by
  unfold inB
  go_enter Tryz.func25, Tryz.ntmps25
  go_wp2
  all_goals (go_ret; exact ⟨by simp [*]; try omega, rfl⟩)
theorem rLeap_any (a : Int) (w : World) : Calls Tryz.prog 47 #[.int .i64 a] w fun e w' => e = .returned (.bool (leapB a)) ∧ w = w' := by
  unfold leapB
  go_enter Tryz.func47, Tryz.ntmps47
  go_wp2
  all_goals (go_ret; exact ⟨by simp [*], rfl⟩)
theorem len_other (y m : Int) (h : m ≠ 2) : lenI y m = lens.getD (m - 1).toNat 0 := by unfold lenI; rw [if_neg (fun h2 => h h2.1)]
set_option maxHeartbeats 1000000 in
theorem rLength_any (y m : Int) (w : World) (h1 : 1 ≤ m) (h2 : m ≤ 12) : Calls Tryz.prog 26 #[.int .i64 y, .int .i64 m] w fun e w' => e = .returned (.int .i64 (lenI y m)) ∧ w = w' := by
  rcases (show m = 1 ∨ m = 2 ∨ m = 3 ∨ m = 4 ∨ m = 5 ∨ m = 6 ∨ m = 7 ∨ m = 8 ∨ m = 9 ∨ m = 10 ∨ m = 11 ∨ m = 12 by omega) with rfl | rfl | rfl | rfl | rfl | rfl | rfl | rfl | rfl | rfl | rfl | rfl
  case inr.inl =>
    cases hl : leapB y
    · have HE := Lib.hid (show lenI y 2 = 28 by unfold lenI; rw [if_neg (by simp [hl])]; rfl)
      go_enter Tryz.func26, Tryz.ntmps26
      go_wp2_with (go_at_call 47; refine (rLeap_any _ _).mono ?_; rw [hl]; rintro e w1 ⟨rfl, rfl⟩)
      go_ret
      exact ⟨by rw [HE.out]; rfl, rfl⟩
    · have HE := Lib.hid (show lenI y 2 = 29 by unfold lenI; rw [if_pos ⟨rfl, hl⟩])
      go_enter Tryz.func26, Tryz.ntmps26
      go_wp2_with (go_at_call 47; refine (rLeap_any _ _).mono ?_; rw [hl]; rintro e w1 ⟨rfl, rfl⟩)
      go_ret
      exact ⟨by rw [HE.out]; rfl, rfl⟩
  all_goals
    go_enter Tryz.func26, Tryz.ntmps26
    go_wp2
    go_ret
    exact ⟨by rw [len_other y _ (by decide)]; rfl, rfl⟩
set_option maxRecDepth 100000 in
set_option maxHeartbeats 1000000 in
theorem rFirst_any (k : Nat) (w : World) (hk : k ≤ 1990) : Calls Tryz.prog 27 #[.int .i64 k] w fun e w' => e = .returned (.int .i64 (beginN k)) ∧ w = w' := by
  go_enter Tryz.func27, Tryz.ntmps27
  go_upto_region 3 with fail
  go_loopw [3, 4] (fun n i wr => ∃ j : Nat, j ≤ k ∧ i = .int .i64 j ∧ n = .int .i64 (beginN j) ∧ w = wr) (fun _ i _ => k - (intOf i).toNat)
  case atStart => exact ⟨0, by omega, rfl, by rw [begin_zero], rfl⟩
  case round =>
    obtain ⟨j, hj, rfl, rfl, rfl⟩ := hrel
    by_cases hlt : j < k
    · have d1 : ((j : Int)).tdiv 12 = ((j / 12 : Nat) : Int) := by rw [Int.tdiv_eq_ediv_of_nonneg (by omega)]; omega
      have d2 : ((j : Int)).tmod 12 = ((j % 12 : Nat) : Int) := by rw [Int.tmod_eq_emod_of_nonneg (by omega)]; omega
      have HS := Lib.hid (begin_step j (by omega))
      have HL := Lib.hid (fun W => rLength_any (1850 + ((j / 12 : Nat) : Int)) (((j % 12 : Nat) : Int) + 1) W (by omega) (by omega))
      have hlb := len_bd (1850 + ((j / 12 : Nat) : Int)) (((j % 12 : Nat) : Int) + 1)
      have hb := begin_bd2 j (by omega)
      obtain ⟨q, hq⟩ : ∃ q, j / 12 = q := ⟨_, rfl⟩
      obtain ⟨r, hr⟩ : ∃ r, j % 12 = r := ⟨_, rfl⟩
      rw [hq] at d1 HS HL hlb
      rw [hr] at d2 HS HL hlb
      have hq2 : q ≤ 10000 := by omega
      have hr2 : r ≤ 11 := by omega
      clear hq hr
      generalize lenI (1850 + (q : Int)) ((r : Int) + 1) = l at *
      generalize beginN j = b at *
      go_wp2_with (go_at_call 26; refine (HL.out _).mono ?_; rintro e w2 ⟨rfl, rfl⟩)
      go_roundw
      case rel => exact ⟨j + 1, by omega, by go_num, by rw [HS.out], trivial⟩
      case measure => simp [intOf]; omega
    · obtain rfl : j = k := by omega
      go_wp2
      go_ret
      exact ⟨rfl, rfl⟩
end Go.Proofs.YteoembjghmgbhaaGreatDoor
