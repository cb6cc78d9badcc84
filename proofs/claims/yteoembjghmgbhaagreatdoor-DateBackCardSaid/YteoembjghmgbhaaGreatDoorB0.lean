/- Words of this seat's walks; the first functions of the calendar. -/
import Derived.Test.YteoembjghmgbhaaGreatDoorProg
import Derived.WalkKit
import Derived.WalkSpells
import Derived.WalkLawsBesides
import Derived.Lib.Hide
import Derived.Deep.QuietTactic
import Derived.Deep.LoopGhost
import Derived.BigQuiet
import Derived.Maps.AppendAt
import Derived.Laws.MakeOwn
import Derived.Laws.OwnMore
import Derived.Deep.RegionLaw
import Derived.Deep.DeepCutAuto
import Derived.Deep.CutBlock
import Derived.StillTailTactics
import Derived.Deep.AppendLies
import Derived.BigRegion
import Derived.Deep.RegionWith
namespace Go.Proofs.YteoembjghmgbhaaGreatDoor
set_option linter.all false
open Go.RowKit

theorem bel {B : Nat} {w W : World} (h : Below B w W := by
    repeat' (first | assumption | exact Below.refl _ _ | (refine Below.drew ?_) | (refine Below.alloc ?_ (by first | omega | (simp; done) | (simp; omega)) _) | (refine Below.setCell ?_ (by first | omega | (simp; done) | (simp; omega)) _))) : Below B w W := h
theorem below_trans {w w1 w2 : World} (h : Below w.heap.size w w1) (k : Below w1.heap.size w1 w2) : Below w.heap.size w w2 := h.trans (k.mono h.size)
theorem ret_int {k : IntKind} {a b : Int} (h : a = b) : Ending.returned (.int k a) = .returned (.int k b) := by rw [h]
theorem ret_bool {a b : Bool} (h : a = b) : Ending.returned (.bool a) = .returned (.bool b) := by rw [h]
theorem wrap_in {x : Int} (h : -9223372036854775808 ≤ x ∧ x ≤ 9223372036854775807) : wrap64 x = x := by unfold wrap64; omega

def dayB (a : Int) : Bool := decide (0 ≤ a) && decide (a ≤ 60000)
theorem isDay_any (a : Int) (w : World) : Calls Tryz.prog 30 #[.int .i64 a] w fun e w' => e = .returned (.bool (dayB a)) ∧ w = w' := by
  unfold dayB
  go_enter Tryz.func30, Tryz.ntmps30
  go_wp2
  all_goals (go_ret; exact ⟨by simp [*]; try omega, rfl⟩)
def monthB (a : Int) : Bool := decide (0 ≤ a) && decide (a ≤ 1971)
theorem isMonth_any (a : Int) (w : World) : Calls Tryz.prog 34 #[.int .i64 a] w fun e w' => e = .returned (.bool (monthB a)) ∧ w = w' := by
  unfold monthB
  go_enter Tryz.func34, Tryz.ntmps34
  go_wp2
  all_goals (go_ret; exact ⟨by simp [*]; try omega, rfl⟩)
def ruleB (a : Int) : Bool := a == 1 || a == 2
theorem isRule_any (a : Int) (w : World) : Calls Tryz.prog 37 #[.int .i64 a] w fun e w' => e = .returned (.bool (ruleB a)) ∧ w = w' := by
  unfold ruleB
  go_enter Tryz.func37, Tryz.ntmps37
  go_wp2
  all_goals (go_ret; exact ⟨by simp [*], rfl⟩)
structure Sp where
  lo : Int
  hi : Int
deriving Inhabited, DecidableEq
def spv (s : Sp) : Value := .agg #[.int .i64 s.lo, .int .i64 s.hi]
def spanB (s : Sp) : Bool := decide (0 ≤ s.lo) && (decide (s.lo ≤ s.hi) && decide (s.hi ≤ 60000))
theorem isSpan_any (s : Sp) (w : World) : Calls Tryz.prog 38 #[spv s] w fun e w' => e = .returned (.bool (spanB s)) ∧ w' = w.alloc (.cells #[.int .i64 s.lo, .int .i64 s.hi] 39) := by
  obtain ⟨a, b⟩ := s
  unfold spanB spv
  go_enter Tryz.func38, Tryz.ntmps38
  go_wp2
  all_goals (go_ret; exact ⟨by simp [*]; try omega, rfl⟩)
def leapB (y : Int) : Bool := y.tmod 4 == 0 && (y.tmod 100 != 0 || y.tmod 400 == 0)
theorem leap_any (a : Int) (w : World) : Calls Tryz.prog 49 #[.int .i64 a] w fun e w' => e = .returned (.bool (leapB a)) ∧ w = w' := by
  unfold leapB
  go_enter Tryz.func49, Tryz.ntmps49
  go_wp2
  all_goals (go_ret; exact ⟨by simp [*], rfl⟩)
def lens : List Int := [31, 28, 31, 30, 31, 30, 31, 31, 30, 31, 30, 31]
theorem lengths_any (w : World) : Calls Tryz.prog 50 #[] w fun e w' => e = .returned (.agg #[.int .i64 31, .int .i64 28, .int .i64 31, .int .i64 30, .int .i64 31, .int .i64 30, .int .i64 31, .int .i64 31, .int .i64 30, .int .i64 31, .int .i64 30, .int .i64 31]) ∧ Below w.heap.size w w' := by
  go_enter Tryz.func50, Tryz.ntmps50
  go_wp2
  refine bodyPost_ret (v := .agg #[.int .i64 31, .int .i64 28, .int .i64 31, .int .i64 30, .int .i64 31, .int .i64 30, .int .i64 31, .int .i64 31, .int .i64 30, .int .i64 31, .int .i64 30, .int .i64 31]) ?_ rfl ?_
  · simp [results, Tryz.results50, go_sem]
  · exact ⟨rfl, bel⟩
def lenI (y m : Int) : Int := if m = 2 ∧ leapB y = true then 29 else lens.getD (m - 1).toNat 0
theorem index_any (m : Int) (h1 : 0 ≤ m) (h2 : m ≤ 11) (W : World) : (Instr.index 74 (.agg #[.int .i64 31, .int .i64 28, .int .i64 31, .int .i64 30, .int .i64 31, .int .i64 30, .int .i64 31, .int .i64 31, .int .i64 30, .int .i64 31, .int .i64 30, .int .i64 31]) (.int .i64 m)).run Tryz.prog W = .ok (.int .i64 (lens.getD m.toNat 0)) W := by
  rcases (show m = 0 ∨ m = 1 ∨ m = 2 ∨ m = 3 ∨ m = 4 ∨ m = 5 ∨ m = 6 ∨ m = 7 ∨ m = 8 ∨ m = 9 ∨ m = 10 ∨ m = 11 by omega) with rfl | rfl | rfl | rfl | rfl | rfl | rfl | rfl | rfl | rfl | rfl | rfl
  all_goals kernel_rfl
set_option maxRecDepth 100000 in
set_option maxHeartbeats 1000000 in
theorem length_any (y m : Int) (w : World) (h1 : 1 ≤ m) (h2 : m ≤ 12) : Calls Tryz.prog 36 #[.int .i64 y, .int .i64 m] w fun e w' => e = .returned (.int .i64 (lenI y m)) ∧ Below w.heap.size w w' := by
  by_cases e2 : m = 2
  · subst e2
    have hx : ∀ W, (Instr.index 74 (.agg #[.int .i64 31, .int .i64 28, .int .i64 31, .int .i64 30, .int .i64 31, .int .i64 30, .int .i64 31, .int .i64 31, .int .i64 30, .int .i64 31, .int .i64 30, .int .i64 31]) (.int .i64 1)).run Tryz.prog W = .ok (.int .i64 28) W := fun W => index_any 1 (by omega) (by omega) W
    cases hl : leapB y
    · have HE := Lib.hid (show lenI y 2 = 28 by unfold lenI; rw [if_neg (by simp [hl])]; rfl)
      go_enter Tryz.func36, Tryz.ntmps36
      go_wp2_with (first | (go_at_call 49; refine (leap_any _ _).mono ?_; rw [hl]; rintro e w1 ⟨rfl, rfl⟩) | (go_at_call 50; refine (lengths_any _).mono ?_; rintro e w1 ⟨rfl, hb⟩))
      go_ret
      exact ⟨by rw [HE.out]; rfl, hb⟩
    · have HE := Lib.hid (show lenI y 2 = 29 by unfold lenI; rw [if_pos ⟨rfl, hl⟩])
      go_enter Tryz.func36, Tryz.ntmps36
      go_wp2_with (first | (go_at_call 49; refine (leap_any _ _).mono ?_; rw [hl]; rintro e w1 ⟨rfl, rfl⟩) | (go_at_call 50; refine (lengths_any _).mono ?_; rintro e w1 ⟨rfl, hb⟩))
      go_ret
      exact ⟨by rw [HE.out]; rfl, Below.refl _ _⟩
  · have hx := index_any (m - 1) (by omega) (by omega)
    obtain ⟨q, hq⟩ : ∃ q, lens.getD (m - 1).toNat 0 = q := ⟨_, rfl⟩
    rw [hq] at hx
    have HE := Lib.hid (show lenI y m = q by unfold lenI; rw [if_neg (fun h => e2 h.1), hq])
    have e3 : (m == 2) = false := by simpa using e2
    clear hq e2
    go_enter Tryz.func36, Tryz.ntmps36
    go_wp2_with (first | (go_at_call 50; refine (lengths_any _).mono ?_; rintro e w1 ⟨rfl, hb⟩))
    go_ret
    exact ⟨by rw [HE.out]; rfl, hb⟩
def leapsI (y : Int) : Int := (y - 1) / 4 - (y - 1) / 100 + (y - 1) / 400
theorem leaps_any (y : Int) (w : World) (h1 : 1 ≤ y) (h2 : y ≤ 100000) : Calls Tryz.prog 69 #[.int .i64 y] w fun e w' => e = .returned (.int .i64 (leapsI y)) ∧ w = w' := by
  have d1 : (y - 1).tdiv 4 = (y - 1) / 4 := Int.tdiv_eq_ediv_of_nonneg (by omega)
  have d2 : (y - 1).tdiv 100 = (y - 1) / 100 := Int.tdiv_eq_ediv_of_nonneg (by omega)
  have d3 : (y - 1).tdiv 400 = (y - 1) / 400 := Int.tdiv_eq_ediv_of_nonneg (by omega)
  have e1 := wrap_in (x := (y - 1) / 4 - (y - 1) / 100) (by omega)
  have e2 := wrap_in (x := (y - 1) / 4 - (y - 1) / 100 + (y - 1) / 400) (by omega)
  have HE := Lib.hid (show (y - 1) / 4 - (y - 1) / 100 + (y - 1) / 400 = leapsI y from rfl)
  go_enter Tryz.func69, Tryz.ntmps69
  go_wp2
  go_ret
  exact ⟨by rw [← HE.out]; first | rfl | simp [e1, e2], rfl⟩
def firstI (y : Int) : Int := 365 * (y - 1850) + leapsI y - leapsI 1850
theorem first_any (y : Int) (w : World) (h1 : 1 ≤ y) (h2 : y ≤ 100000) : Calls Tryz.prog 46 #[.int .i64 y] w fun e w' => e = .returned (.int .i64 (firstI y)) ∧ w = w' := by
  have HE := Lib.hid (show 365 * (y - 1850) + leapsI y - leapsI 1850 = firstI y from rfl)
  have b1 : -100000 ≤ leapsI y ∧ leapsI y ≤ 100000 := by unfold leapsI; omega
  have b2 : -100000 ≤ leapsI 1850 ∧ leapsI 1850 ≤ 100000 := by unfold leapsI; omega
  generalize hq : leapsI y = q at *
  generalize hr : leapsI 1850 = r at *
  have HQ := Lib.hid hq
  have HR := Lib.hid hr
  clear hq hr
  go_enter Tryz.func46, Tryz.ntmps46
  go_upto_region 1 with fail
  have MK := Lib.hid True.intro
  go_wp2_with (first | (have hm := MK.out; clear hm; go_at_call 69; refine (leaps_any y _ h1 h2).mono ?_; rw [HQ.out]; rintro e w1 ⟨rfl, rfl⟩; clear MK) | (go_at_call 69; refine (leaps_any 1850 _ (by omega) (by omega)).mono ?_; rw [HR.out]; rintro e w1 ⟨rfl, rfl⟩))
  go_ret
  exact ⟨by rw [← HE.out]; rfl, rfl⟩
theorem len_bd (y m : Int) : 0 ≤ lenI y m ∧ lenI y m ≤ 31 := by
  unfold lenI
  split
  · omega
  · generalize (m - 1).toNat = k
    by_cases h : k < 12
    · rcases (show k = 0 ∨ k = 1 ∨ k = 2 ∨ k = 3 ∨ k = 4 ∨ k = 5 ∨ k = 6 ∨ k = 7 ∨ k = 8 ∨ k = 9 ∨ k = 10 ∨ k = 11 by omega) with rfl | rfl | rfl | rfl | rfl | rfl | rfl | rfl | rfl | rfl | rfl | rfl <;> decide
    · rw [List.getD_eq_getElem?_getD, List.getElem?_eq_none (by unfold lens; simp; omega)]
      simp
def beginI (y : Int) : Nat → Int
  | 0 => firstI y
  | j + 1 => beginI y j + lenI y ((j : Int) + 1)
theorem begin_bd (y : Int) (h1 : 1 ≤ y) (h2 : y ≤ 100000) : ∀ j, j ≤ 12 → -40000000 ≤ beginI y j ∧ beginI y j ≤ 40000000 + 31 * j
  | 0, _ => by unfold beginI firstI leapsI; omega
  | j + 1, hj => by
    have h3 := begin_bd y h1 h2 j (by omega)
    have h4 := len_bd y ((j : Int) + 1)
    unfold beginI
    omega
def beginN (m : Nat) : Int := beginI (1850 + ((m / 12 : Nat) : Int)) (m % 12)
set_option maxRecDepth 100000 in
set_option maxHeartbeats 1000000 in
theorem begin_any (m : Nat) (w : World) (hm : m ≤ 100000) : Calls Tryz.prog 24 #[.int .i64 m] w fun e w' => e = .returned (.int .i64 (beginN m)) ∧ Below w.heap.size w w' := by
  have d1 : ((m : Int)).tdiv 12 = ((m / 12 : Nat) : Int) := by rw [Int.tdiv_eq_ediv_of_nonneg (by omega)]; omega
  have d2 : ((m : Int)).tmod 12 = ((m % 12 : Nat) : Int) := by rw [Int.tmod_eq_emod_of_nonneg (by omega)]; omega
  obtain ⟨q, hq⟩ : ∃ q, m / 12 = q := ⟨_, rfl⟩
  obtain ⟨r, hr⟩ : ∃ r, m % 12 = r := ⟨_, rfl⟩
  rw [hq] at d1
  rw [hr] at d2
  have hq2 : q ≤ 10000 := by omega
  have hr2 : r ≤ 11 := by omega
  have HE := Lib.hid (show beginN m = beginI (1850 + (q : Int)) r by unfold beginN; rw [hq, hr])
  clear hq hr
  have HBD := Lib.hid (begin_bd (1850 + (q : Int)) (by omega) (by omega))
  go_enter Tryz.func24, Tryz.ntmps24
  go_upto_region 4 with (go_at_call 46; refine (first_any (1850 + (q : Int)) _ (by omega) (by omega)).mono ?_; rintro e w1 ⟨rfl, rfl⟩)
  go_loopw [4, 5] (fun n i wr => ∃ j : Nat, j ≤ r ∧ i = .int .i64 ((j : Int) + 1) ∧ n = .int .i64 (beginI (1850 + (q : Int)) j) ∧ Hid (Below w.heap.size w wr)) (fun _ i _ => r + 1 - (intOf i).toNat)
  case atStart => exact ⟨0, by omega, rfl, rfl, Lib.hid (Below.refl _ _)⟩
  case round =>
    obtain ⟨j, hj, rfl, rfl, HB⟩ := hrel
    have hb1 := HBD.out j (by omega)
    have hb2 := len_bd (1850 + (q : Int)) ((j : Int) + 1)
    by_cases hlt : j < r
    · have HS := Lib.hid (show beginI (1850 + (q : Int)) (j + 1) = beginI (1850 + (q : Int)) j + lenI (1850 + (q : Int)) ((j : Int) + 1) from rfl)
      generalize beginI (1850 + (q : Int)) j = b at *
      have HLN := Lib.hid (fun W => length_any (1850 + (q : Int)) ((j : Int) + 1) W (by omega) (by omega))
      generalize lenI (1850 + (q : Int)) ((j : Int) + 1) = ln at *
      go_wp2_with (go_at_call 36; refine (HLN.out _).mono ?_; rintro e w2 ⟨rfl, hb⟩; have HB2 := Lib.hid (HB.out.trans (hb.mono HB.out.size)); clear hb)
      go_roundw
      case rel => exact ⟨j + 1, by omega, by go_num, by rw [HS.out], HB2⟩
      case measure => simp [intOf]; omega
    · obtain rfl : j = r := by omega
      go_wp2
      go_ret
      exact ⟨by rw [HE.out]; rfl, HB.out⟩
end Go.Proofs.YteoembjghmgbhaaGreatDoor
