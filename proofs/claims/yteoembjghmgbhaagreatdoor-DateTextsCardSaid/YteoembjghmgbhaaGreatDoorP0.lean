/- Plain laws of the calendar: what the months' beginnings are; the month of a day. -/
import Derived.Test.YteoembjghmgbhaaGreatDoorB4
namespace Go.Proofs.YteoembjghmgbhaaGreatDoor
set_option linter.all false
open Go.RowKit

theorem begin_step : ∀ k, k < 1990 → beginN (k + 1) = beginN k + lenI (1850 + ((k / 12 : Nat) : Int)) (((k % 12 : Nat) : Int) + 1) := by decide +kernel
theorem len_low (y m : Int) (h1 : 1 ≤ m) (h2 : m ≤ 12) : 28 ≤ lenI y m := by
  unfold lenI
  split
  · omega
  · rcases (show m = 1 ∨ m = 2 ∨ m = 3 ∨ m = 4 ∨ m = 5 ∨ m = 6 ∨ m = 7 ∨ m = 8 ∨ m = 9 ∨ m = 10 ∨ m = 11 ∨ m = 12 by omega) with rfl | rfl | rfl | rfl | rfl | rfl | rfl | rfl | rfl | rfl | rfl | rfl <;> decide
theorem begin_grow (i : Nat) : ∀ j, i + j ≤ 1990 → beginN i + 28 * (j : Int) ≤ beginN (i + j)
  | 0, _ => by simp
  | j + 1, h => by
    have h1 := begin_grow i j (by omega)
    have h2 := begin_step (i + j) (by omega)
    have h3 := len_low (1850 + (((i + j) / 12 : Nat) : Int)) ((((i + j) % 12 : Nat) : Int) + 1) (by omega) (by omega)
    rw [show i + (j + 1) = i + j + 1 from rfl, h2]
    generalize lenI (1850 + (((i + j) / 12 : Nat) : Int)) ((((i + j) % 12 : Nat) : Int) + 1) = l at *
    push_cast
    omega
theorem begin_le {i j : Nat} (h : i ≤ j) (hj : j ≤ 1990) : beginN i ≤ beginN j := by
  have h1 := begin_grow i (j - i) (by omega)
  rw [show i + (j - i) = j by omega] at h1
  omega
theorem begin_lt {i j : Nat} (h : i < j) (hj : j ≤ 1990) : beginN i + 28 ≤ beginN j := by
  have h1 := begin_grow i (j - i) (by omega)
  rw [show i + (j - i) = j by omega] at h1
  omega
theorem begin_nonneg (i : Nat) (h : i ≤ 1990) : 0 ≤ beginN i := by
  have h1 := begin_le (Nat.zero_le i) h
  rw [begin_zero] at h1
  exact h1
theorem begin_last : beginN 1972 = 60020 := by decide +kernel
theorem begin_1971 : beginN 1971 = 59990 := by decide +kernel
theorem monN_low (day : Int) (h0 : 0 ≤ day) : ∀ k, beginN (monN day k) ≤ day
  | 0 => by unfold monN; rw [begin_zero]; exact h0
  | k + 1 => by
    unfold monN
    split
    · exact monN_low day h0 k
    · omega
theorem monN_high (day : Int) : ∀ k, day < beginN (k + 1) → day < beginN (monN day k + 1)
  | 0, h => h
  | k + 1, h => by
    unfold monN
    split
    · rename_i h2; exact monN_high day k h2
    · exact h
theorem mon_low (day : Int) (h0 : 0 ≤ day) : beginN (monI day) ≤ day := monN_low day h0 _
theorem mon_high (day : Int) (h0 : 0 ≤ day) (h1 : day ≤ 60000) : day < beginN (monI day + 1) := by
  refine monN_high day _ ?_
  unfold monS
  split
  · rename_i h
    have h2 := begin_grow 0 ((day / 28).toNat + 1) (by omega)
    rw [begin_zero, show 0 + ((day / 28).toNat + 1) = (day / 28).toNat + 1 by omega] at h2
    omega
  · show day < beginN 1972
    rw [begin_last]; omega
theorem mon_uniq (day : Int) (h0 : 0 ≤ day) (h1 : day ≤ 60000) (m : Nat) (hm : m ≤ 1980) (h2 : beginN m ≤ day) (h3 : day < beginN (m + 1)) : monI day = m := by
  have h4 := mon_low day h0
  have h5 := mon_high day h0 h1
  have h6 := mon_le day
  rcases Nat.lt_trichotomy (monI day) m with h | h | h
  · have := begin_le (show monI day + 1 ≤ m by omega) (by omega); omega
  · exact h
  · have := begin_le (show m + 1 ≤ monI day by omega) (by omega); omega
theorem mon_ge (day : Int) (h0 : 0 ≤ day) (h1 : day ≤ 60000) (m : Nat) (hm : m ≤ 1980) (h2 : beginN m ≤ day) : m ≤ monI day := by
  have h5 := mon_high day h0 h1
  by_cases h : m ≤ monI day
  · exact h
  · have := begin_le (show monI day + 1 ≤ m by omega) (by omega); omega
end Go.Proofs.YteoembjghmgbhaaGreatDoor
