/- The law DateSums: the plain law, and the whole. -/
import Derived.Test.YteoembjghmgbhaaDoorW8
import Derived.Test.YteoembjghmgbhaaDoorR4
namespace Go.Proofs.YteoembjghmgbhaaDoor
set_option linter.all false
open Go.RowKit

theorem dom_le (day : Int) (h0 : 0 ≤ day) (h1 : day ≤ 60000) : 1 ≤ (ofI day).d ∧ (ofI day).d ≤ lenI (1850 + ((monI day / 12 : Nat) : Int)) (((monI day % 12 : Nat) : Int) + 1) := by
  have hml := mon_le day
  have hlo := mon_low day h0
  have hhi := mon_high day h0 h1
  have hst := begin_step (monI day) (by omega)
  unfold ofI
  simp only
  omega
theorem later_28 (day : Int) (hd : 1 ≤ (ofI day).d ∧ (ofI day).d ≤ 28) (j : Nat) : laterN day j = beginN j + (ofI day).d - 1 := by
  have hl := len_low (1850 + ((j / 12 : Nat) : Int)) (((j % 12 : Nat) : Int) + 1) (by omega) (by omega)
  unfold laterN mn
  rw [if_neg (by omega)]
theorem later_zero (day : Int) (h0 : 0 ≤ day) (h1 : day ≤ 60000) : LaterR day 0 = (day, 0) := by
  have hd : dayB day = true := by simp [dayB, h0, h1]
  have hdl := dom_le day h0 h1
  have hml := mon_le day
  rw [later_same day 0 hd]
  unfold laterR
  rw [if_neg (by omega), Int.add_zero, Int.toNat_natCast]
  have e : laterN day (monI day) = day := by
    unfold laterN mn
    rw [if_neg (by omega)]
    unfold ofI
    simp only
    omega
  rw [e, if_neg (by omega)]
theorem later_ok (day m : Int) (h0 : 0 ≤ day) (h1 : day ≤ 60000) (hd : (ofI day).d ≤ 28) (hg : (LaterR day m).2 = 0) :
    ∃ j : Nat, (monI day : Int) + m = j ∧ j ≤ 1971 ∧ (LaterR day m).1 = beginN j + (ofI day).d - 1 ∧ 0 ≤ (LaterR day m).1 ∧ (LaterR day m).1 ≤ 60000 ∧ monI (LaterR day m).1 = j ∧ (ofI (LaterR day m).1).d = (ofI day).d := by
  have hdb : dayB day = true := by simp [dayB, h0, h1]
  have hdl := dom_le day h0 h1
  rw [later_same day m hdb] at hg ⊢
  unfold laterR at hg ⊢
  by_cases hc : m < -(monI day : Int) ∨ 1971 - (monI day : Int) < m
  · rw [if_pos hc] at hg; cases hg
  · rw [if_neg hc] at hg ⊢
    obtain ⟨j, hj⟩ : ∃ j : Nat, (monI day : Int) + m = j := ⟨((monI day : Int) + m).toNat, by omega⟩
    rw [hj, Int.toNat_natCast] at hg ⊢
    rw [later_28 day ⟨hdl.1, hd⟩ j] at hg ⊢
    by_cases h6 : 60000 < beginN j + (ofI day).d - 1
    · rw [if_pos h6] at hg; cases hg
    · rw [if_neg h6]
      have hb := begin_nonneg j (by omega)
      have hst := begin_step j (by omega)
      have hl := len_low (1850 + ((j / 12 : Nat) : Int)) (((j % 12 : Nat) : Int) + 1) (by omega) (by omega)
      have hm := mon_uniq (beginN j + (ofI day).d - 1) (by omega) (by omega) j (by omega) (by omega) (by omega)
      refine ⟨j, rfl, by omega, rfl, by simp only; omega, by simp only; omega, hm, ?_⟩
      show (ofI (beginN j + (ofI day).d - 1)).d = (ofI day).d
      generalize hq : (ofI day).d = q at *
      unfold ofI
      rw [hm]
      simp only
      omega
theorem later_sum (day m n : Int) (h0 : 0 ≤ day) (h1 : day ≤ 60000) (hd : (ofI day).d ≤ 28) (hg : (LaterR day m).2 = 0) : LaterR (LaterR day m).1 n = LaterR day (m + n) := by
  obtain ⟨j, hj, hj2, hv, hv1, hv2, hm, hdd⟩ := later_ok day m h0 h1 hd hg
  have hdl := dom_le day h0 h1
  have hdb : dayB day = true := by simp [dayB, h0, h1]
  generalize (LaterR day m).1 = one at *
  have hob : dayB one = true := by simp [dayB, hv1, hv2]
  rw [later_same one n hob, later_same day (m + n) hdb]
  unfold laterR
  rw [hm]
  by_cases hc : n < -(j : Int) ∨ 1971 - (j : Int) < n
  · rw [if_pos hc, if_pos (by omega)]
  · have hc2 : ¬ (m + n < -(monI day : Int) ∨ 1971 - (monI day : Int) < m + n) := by omega
    rw [if_neg hc, if_neg hc2]
    have e : (j : Int) + n = (monI day : Int) + (m + n) := by omega
    rw [e]
    rw [later_28 one (by rw [hdd]; exact ⟨hdl.1, hd⟩), later_28 day ⟨hdl.1, hd⟩, hdd]
theorem sums_walk (day m n : Int) (s : Sp) (w : World) (hT : Tab w) (_ : -9223372036854775808 ≤ day ∧ day ≤ 9223372036854775807) (hmb : -9223372036854775808 ≤ m ∧ m ≤ 9223372036854775807) (hnb : -9223372036854775808 ≤ n ∧ n ≤ 9223372036854775807) (_ : -9223372036854775808 ≤ s.lo ∧ s.lo ≤ 9223372036854775807) (_ : -9223372036854775808 ≤ s.hi ∧ s.hi ≤ 9223372036854775807) :
    Calls Tryd.prog 9 #[.int .i64 day, .int .i64 m, .int .i64 n, spv s] w fun e w' => e = .returned (.bool true) ∧ Below w.heap.size w w' := by
  have h1 : Ret 16 #[.int .i64 day] (.tuple #[.agg #[.int .i64 (OfR day).1.y, .int .i64 (OfR day).1.m, .int .i64 (OfR day).1.d], .int .i64 (OfR day).2]) := fun W => Of_any day W
  by_cases hc : (OfR day).2 ≠ 0 ∨ 28 < (OfR day).1.d ∨ m < -5000 ∨ 5000 < m ∨ n < -5000 ∨ 5000 < n
  · exact sums_bad day m n _ _ _ _ s w hT h1 hc
  · have hd : dayB day = true := by
      cases hd : dayB day
      · exfalso
        apply hc
        left
        unfold OfR
        rw [hd]
        simp
      · rfl
    have hO : OfR day = (ofI day, 0) := by unfold OfR; rw [hd]; rfl
    rw [hO] at h1 hc
    have hdd : 0 ≤ day ∧ day ≤ 60000 := by simpa [dayB] using hd
    simp only [not_or, Int.not_lt] at hc
    obtain ⟨_, hd28, a1, a2, a3, a4⟩ := hc
    have hL : ∀ x y : Int, (-9223372036854775808 ≤ y ∧ y ≤ 9223372036854775807) → Ret 28 #[.int .i64 x, .int .i64 y] (.tuple #[.int .i64 (LaterR x y).1, .int .i64 (LaterR x y).2]) := fun x y hy W => Later_any x y W hy
    have hz := hL day 0 (by omega)
    rw [later_zero day hdd.1 hdd.2] at hz
    have h6 : Ret 30 #[.int .i64 day] (.tuple #[.int .i64 (monI day : Int), .int .i64 0]) := by
      intro W
      have h2 := Month_any day W
      rw [show MonthR day = ((monI day : Int), 0) by unfold MonthR; rw [hd]; rfl] at h2
      exact h2
    refine sums_good day m n _ _ _ s w hT (LaterR day m).1 (LaterR day m).2 (LaterR day (m + n)).1 (LaterR day (m + n)).2 0 0 (OfR (LaterR day m).1).1.y (OfR (LaterR day m).1).1.m (monI day) _ _ h1 hd28 ⟨a1, a2⟩ ⟨a3, a4⟩ hz (hL day m hmb) (hL day (m + n) (by omega)) (fun hg => ?_) (fun hg => ?_) h6 (alike_ret (monI day) s) ?_ ?_ ?_
    · have h2 := hL (LaterR day m).1 n hnb
      rw [later_sum day m n hdd.1 hdd.2 hd28 hg] at h2
      exact h2
    · obtain ⟨j, hj, hj2, hv, hv1, hv2, hm, hdq⟩ := later_ok day m hdd.1 hdd.2 hd28 hg
      intro W
      have h2 := Of_any (LaterR day m).1 W
      have h3 : OfR (LaterR day m).1 = (ofI (LaterR day m).1, 0) := by unfold OfR; rw [show dayB (LaterR day m).1 = true by simp [dayB, hv1, hv2]]; rfl
      rw [h3] at h2 ⊢
      rw [← hdq]
      exact h2
    · unfold alikeL
      split
      · rename_i hg
        have hf : (0 ≤ (monI day : Int) ∧ (monI day : Int) ≤ 1971) ∧ 1850 ≤ s.lo ∧ s.lo ≤ s.hi ∧ s.hi ≤ 2014 := by simpa [alikeG, monthB] using hg
        have := alikeN_len ((monI day : Int) % 12) (s.lo - 1850) (s.hi - s.lo + 1).toNat
        omega
      · simp
    · unfold alikeL
      split
      · rename_i hg
        have hf : (0 ≤ (monI day : Int) ∧ (monI day : Int) ≤ 1971) ∧ 1850 ≤ s.lo ∧ s.lo ≤ s.hi ∧ s.hi ≤ 2014 := by simpa [alikeG, monthB] using hg
        intro k hk
        have hn := alikeN_len ((monI day : Int) % 12) (s.lo - 1850) (s.hi - s.lo + 1).toNat
        obtain ⟨g1, _⟩ := alike_gi ((monI day : Int) % 12) (s.lo - 1850) (s.hi - s.lo + 1).toNat
        have e1 := g1 (k + 1) hk
        have e2 := g1 k (by omega)
        rw [e1, e2]
        push_cast
        omega
      · intro k hk
        simp at hk
    · unfold alikeL
      cases hg : alikeG (monI day) s
      · left; decide
      · right
        have hf : (0 ≤ (monI day : Int) ∧ (monI day : Int) ≤ 1971) ∧ 1850 ≤ s.lo ∧ s.lo ≤ s.hi ∧ s.hi ≤ 2014 := by simpa [alikeG, monthB] using hg
        rw [if_pos rfl]
        by_cases hl : (alikeN ((monI day : Int) % 12) (s.lo - 1850) (s.hi - s.lo + 1).toNat).length = 0
        · exact .inl hl
        · right
          obtain ⟨g1, _⟩ := alike_gi ((monI day : Int) % 12) (s.lo - 1850) (s.hi - s.lo + 1).toNat
          have e1 := g1 0 (by omega)
          rw [e1]
          refine ⟨by push_cast; omega, by omega, ?_⟩
          rw [Int.tmod_eq_emod_of_nonneg (by push_cast; omega), Int.tmod_eq_emod_of_nonneg (by omega)]
          push_cast
          omega
end Go.Proofs.YteoembjghmgbhaaDoor
