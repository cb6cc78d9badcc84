/- The law DateOneByOne: the plain law, and the whole. -/
import Derived.Test.YteoembjghmgbhaaDoorW6
import Derived.Test.YteoembjghmgbhaaDoorW3
namespace Go.Proofs.YteoembjghmgbhaaDoor
set_option linter.all false
open Go.RowKit

theorem of_ex (day : Int) (h0 : 0 ≤ day) (h1 : day ≤ 60000) : exB (ofI day) = true ∧ dayI (ofI day) = day := by
  have hml := mon_le day
  have hlo := mon_low day h0
  have hhi := mon_high day h0 h1
  have hst := begin_step (monI day) (by omega)
  unfold exB ex4 dayI ofI
  simp only
  generalize monI day = k at *
  have e1 : 12 * (1850 + ((k / 12 : Nat) : Int) - 1850) + (((k % 12 : Nat) : Int) + 1) - 1 = (k : Int) := by omega
  rw [e1, Int.toNat_natCast]
  generalize lenI (1850 + ((k / 12 : Nat) : Int)) (((k % 12 : Nat) : Int) + 1) = l at *
  refine ⟨?_, by omega⟩
  simp only [Bool.and_eq_true, decide_eq_true_eq]
  omega
theorem num_of (day : Int) (h0 : 0 ≤ day) (h1 : day ≤ 60000) : NumberR (ofI day) = (day, 0) := by
  obtain ⟨h2, h3⟩ := of_ex day h0 h1
  unfold NumberR dayR
  rw [h2, h3]
  have h4 : dayB day = true := by simp [dayB, h0, h1]
  simp only [if_true]
  rw [h4, if_pos rfl]
theorem of_num (d : Dt) (h : (NumberR d).2 = 0) : 0 ≤ (NumberR d).1 ∧ (NumberR d).1 ≤ 60000 ∧ ofI (NumberR d).1 = d := by
  obtain ⟨y, m, d⟩ := d
  cases hv : (dayR ⟨y, m, d⟩).2
  · have := (num_no ⟨y, m, d⟩ hv).1
    rw [this] at h
    cases h
  · have hx : exB ⟨y, m, d⟩ = true := by
      cases hx : exB ⟨y, m, d⟩
      · unfold dayR at hv; rw [hx] at hv; cases hv
      · rfl
    have h2 : dayB (dayI ⟨y, m, d⟩) = true := by unfold dayR at hv; rw [hx] at hv; exact hv
    have h3 : (NumberR ⟨y, m, d⟩).1 = dayI ⟨y, m, d⟩ := by
      unfold NumberR
      rw [hv]
      show (dayR ⟨y, m, d⟩).1 = _
      unfold dayR
      rw [hx]
      rfl
    rw [h3]
    have hb : 0 ≤ dayI ⟨y, m, d⟩ ∧ dayI ⟨y, m, d⟩ ≤ 60000 := by simpa [dayB] using h2
    refine ⟨hb.1, hb.2, ?_⟩
    have hf : (1850 ≤ y ∧ y ≤ 2014 ∧ 1 ≤ m ∧ m ≤ 12 ∧ 1 ≤ d) ∧ d ≤ lenI y m := by simpa [exB, ex4] using hx
    obtain ⟨k, hk⟩ : ∃ k : Nat, 12 * (y - 1850) + m - 1 = k := ⟨(12 * (y - 1850) + m - 1).toNat, by omega⟩
    have hdi : dayI ⟨y, m, d⟩ = beginN k + d - 1 := by
      unfold dayI
      simp only
      rw [hk, Int.toNat_natCast]
    have hst := begin_step k (by omega)
    have ey : (1850 : Int) + ((k / 12 : Nat) : Int) = y := by omega
    have em : ((k % 12 : Nat) : Int) + 1 = m := by omega
    rw [ey, em] at hst
    have hm := mon_uniq (dayI ⟨y, m, d⟩) hb.1 hb.2 k (by omega) (by omega) (by omega)
    unfold ofI
    rw [hm, ey, em, hdi]
    congr 1
    omega
theorem one_walk (day : Int) (d : Dt) (w : World) (hT : Tab w) (hdb : -9223372036854775808 ≤ day ∧ day ≤ 9223372036854775807) (_ : -9223372036854775808 ≤ d.y ∧ d.y ≤ 9223372036854775807) (_ : -9223372036854775808 ≤ d.m ∧ d.m ≤ 9223372036854775807) (_ : -9223372036854775808 ≤ d.d ∧ d.d ≤ 9223372036854775807) :
    Calls Tryd.prog 6 #[.int .i64 day, dtv d] w fun e w' => e = .returned (.bool true) ∧ Below w.heap.size w w' := by
  have h1 : Ret 15 #[.agg #[.int .i64 d.y, .int .i64 d.m, .int .i64 d.d]] (.tuple #[.int .i64 (NumberR d).1, .int .i64 (NumberR d).2]) := fun W => Number_any d W
  have h0 : (NumberR d).2 = 0 → Ret 16 #[.int .i64 (NumberR d).1] (.tuple #[.agg #[.int .i64 d.y, .int .i64 d.m, .int .i64 d.d], .int .i64 0]) := by
    intro h W
    obtain ⟨a, b, c⟩ := of_num d h
    have h2 := Of_any (NumberR d).1 W
    have h3 : OfR (NumberR d).1 = (d, 0) := by
      unfold OfR
      rw [show dayB (NumberR d).1 = true by simp [dayB, a, b], if_pos rfl, c]
    rw [h3] at h2
    exact h2
  have hof : ∀ x, Ret 16 #[.int .i64 x] (.tuple #[.agg #[.int .i64 (OfR x).1.y, .int .i64 (OfR x).1.m, .int .i64 (OfR x).1.d], .int .i64 (OfR x).2]) := fun x W => Of_any x W
  cases hd : dayB day
  · refine one_bad day d.y d.m d.d w hT _ _ h1 h0 _ _ _ _ _ _ _ _ _ rfl (hof day) (hof _) true ((OfR (wrap64 (day + 1))).2 != 0) ?_ (fun h => by cases h) (fun h => by cases h)
    unfold OfR
    rw [hd]
    rfl
  · have hdd : 0 ≤ day ∧ day ≤ 60000 := by simpa [dayB] using hd
    have hw : wrap64 (day + 1) = day + 1 := wrap_in (by omega)
    by_cases h60 : day = 60000
    · refine one_bad day d.y d.m d.d w hT _ _ h1 h0 _ _ _ _ _ _ _ _ _ rfl (hof day) (hof _) ((OfR day).2 != 0) ((OfR (wrap64 (day + 1))).2 != 0) rfl (fun _ => rfl) (fun _ _ => by simpa using h60)
    · have hd2 : dayB (day + 1) = true := by simp [dayB]; omega
      have hO1 : OfR day = (ofI day, 0) := by unfold OfR; rw [hd]; rfl
      have hO2 : OfR (day + 1) = (ofI (day + 1), 0) := by unfold OfR; rw [hd2]; rfl
      have ho1 := hof day
      rw [hO1] at ho1
      have ho2 := hof (day + 1)
      rw [hO2] at ho2
      have hn2 : Ret 15 #[.agg #[.int .i64 (ofI day).y, .int .i64 (ofI day).m, .int .i64 (ofI day).d]] (.tuple #[.int .i64 day, .int .i64 0]) := by
        intro W
        have h2 := Number_any (ofI day) W
        rw [num_of day hdd.1 hdd.2] at h2
        exact h2
      have hk1 : ∀ W, Calls Tryd.prog 24 #[.int .i64 day] W fun e w' => e = .returned (.tuple #[.int .i64 (weekdayI day), .int .i64 0]) ∧ W = w' := by
        intro W
        have h2 := Weekday_any day W
        rw [show WeekdayR day = (weekdayI day, 0) by unfold WeekdayR; rw [hd]; rfl] at h2
        exact h2
      have hwd : (weekdayI day).tmod 7 = (day + 1 + 1) % 7 := by
        unfold weekdayI
        rw [Int.tmod_eq_emod_of_nonneg (by omega)]
        omega
      have hk2 : ∀ W, Calls Tryd.prog 24 #[.int .i64 (day + 1)] W fun e w' => e = .returned (.tuple #[.int .i64 ((day + 1 + 1) % 7 + 1), .int .i64 0]) ∧ W = w' := by
        intro W
        have h2 := Weekday_any (day + 1) W
        rw [show WeekdayR (day + 1) = (weekdayI (day + 1), 0) by unfold WeekdayR; rw [hd2]; rfl] at h2
        exact h2
      have hm : ∀ x, dayB x = true → Ret 30 #[.int .i64 x] (.tuple #[.int .i64 (monI x), .int .i64 0]) := by
        intro x hx W
        have h2 := Month_any x W
        rw [show MonthR x = ((monI x : Int), 0) by unfold MonthR; rw [hx]; rfl] at h2
        exact h2
      have hy : ∀ k : Nat, k ≤ 1971 → Ret 31 #[.int .i64 k] (.tuple #[.agg #[.int .i64 (clipI (beginN k) (beginN (k + 1) - 1)).lo, .int .i64 (clipI (beginN k) (beginN (k + 1) - 1)).hi], .int .i64 0]) := by
        intro k hk W
        have h2 := Days_any k W
        have h3 : monthB (k : Int) = true := by simp [monthB]; omega
        rw [show DaysR (k : Int) = (clipI (beginN k) (beginN (k + 1) - 1), 0) by unfold DaysR; rw [h3]; rfl] at h2
        exact h2
      have hml := mon_le day
      have hml2 := mon_le (day + 1)
      have hlo := mon_low day hdd.1
      have hhi := mon_high day hdd.1 hdd.2
      have hlo2 := mon_low (day + 1) (by omega)
      have hhi2 := mon_high (day + 1) (by omega) (by omega)
      have hst := begin_step (monI day) (by omega)
      have hlen := len_bd (1850 + ((monI day / 12 : Nat) : Int)) (((monI day % 12 : Nat) : Int) + 1)
      have hcl : (clipI (beginN (monI day)) (beginN (monI day + 1) - 1)).lo ≤ day ∧ day ≤ (clipI (beginN (monI day)) (beginN (monI day + 1) - 1)).hi := by
        unfold clipI
        simp only
        constructor
        · split <;> omega
        · split <;> omega
      have hab : 1 ≤ (ofI day).y ∧ (ofI day).y ≤ 10000 ∧ 1 ≤ (ofI day).m ∧ (ofI day).m ≤ 12 ∧ 1 ≤ (ofI day).d ∧ (ofI day).d ≤ 31 := by
        unfold ofI
        simp only
        omega
      by_cases hnx : day + 1 < beginN (monI day + 1)
      · have hk : monI (day + 1) = monI day := mon_uniq (day + 1) (by omega) (by omega) (monI day) (by omega) (by omega) hnx
        have ho : (ofI (day + 1)).y = (ofI day).y ∧ (ofI (day + 1)).m = (ofI day).m ∧ (ofI (day + 1)).d = (ofI day).d + 1 := by
          unfold ofI
          rw [hk]
          refine ⟨rfl, rfl, ?_⟩
          simp only
          omega
        have hm2 := hm (day + 1) hd2
        rw [hk] at hm2
        exact one_same day d.y d.m d.d w hT _ _ h1 h0 _ _ _ _ _ _ _ _ _ _ _ _ _ _ ho1 ho2 hn2 hk1 hk2 (hm day hd) hm2 (hy _ hml) (hy _ hml) ⟨hdd.1, by omega⟩ ⟨hwd, by omega, by omega⟩ hab ⟨by omega, by omega⟩ hcl ho rfl ⟨rfl, rfl⟩
      · have hbk : beginN (monI day + 1) = day + 1 := by omega
        have hlast : monI day ≠ 1971 := by
          intro e
          rw [e] at hbk
          have := begin_last
          rw [this] at hbk
          omega
        have hnn := begin_lt (show monI day + 1 < monI day + 2 by omega) (by omega)
        have hk : monI (day + 1) = monI day + 1 := mon_uniq (day + 1) (by omega) (by omega) (monI day + 1) (by omega) (by omega) (by rw [show monI day + 1 + 1 = monI day + 2 from rfl]; omega)
        have hm2 := hm (day + 1) hd2
        rw [hk] at hm2
        have ecast : (((monI day + 1 : Nat)) : Int) = (monI day : Int) + 1 := by omega
        have hy2 := hy (monI day + 1) (by omega)
        rw [ecast] at hm2 hy2
        have hs1 : (clipI (beginN (monI day)) (beginN (monI day + 1) - 1)).hi = day := by
          unfold clipI
          simp only
          split <;> omega
        have ht0 : (clipI (beginN (monI day + 1)) (beginN (monI day + 1 + 1) - 1)).lo = day + 1 := by
          unfold clipI
          simp only
          split <;> omega
        have hod : (ofI (day + 1)).d = 1 := by
          unfold ofI
          rw [hk]
          simp only
          omega
        by_cases h12 : monI day % 12 = 11
        · refine one_next2 day d.y d.m d.d w hT _ _ h1 h0 _ _ _ _ _ _ _ _ _ _ _ _ _ _ ho1 ho2 hn2 hk1 hk2 (hm day hd) hm2 (hy _ hml) hy2 ⟨hdd.1, by omega⟩ ⟨hwd, by omega, by omega⟩ hab ⟨by omega, by omega⟩ hcl ⟨?_, ?_, ?_, hod⟩ rfl ⟨hs1, ht0⟩
          · unfold ofI; rw [hk]; simp only; omega
          · unfold ofI; simp only; omega
          · unfold ofI; rw [hk]; simp only; omega
        · refine one_next1 day d.y d.m d.d w hT _ _ h1 h0 _ _ _ _ _ _ _ _ _ _ _ _ _ _ ho1 ho2 hn2 hk1 hk2 (hm day hd) hm2 (hy _ hml) hy2 ⟨hdd.1, by omega⟩ ⟨hwd, by omega, by omega⟩ hab ⟨by omega, by omega⟩ hcl ⟨?_, ?_, hod⟩ rfl ⟨hs1, ht0⟩
          · unfold ofI; rw [hk]; simp only; omega
          · unfold ofI; rw [hk]; simp only; omega
end Go.Proofs.YteoembjghmgbhaaDoor
