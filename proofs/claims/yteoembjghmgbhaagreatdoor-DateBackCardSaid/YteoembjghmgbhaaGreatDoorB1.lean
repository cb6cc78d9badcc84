/- The date walks: months, dates, weeks. -/
import Derived.Test.YteoembjghmgbhaaGreatDoorB0
namespace Go.Proofs.YteoembjghmgbhaaGreatDoor
set_option linter.all false
open Go.RowKit

/-- The number of the month of a day, sought downward. -/
def monN (day : Int) : Nat → Nat
  | 0 => 0
  | k + 1 => if day < beginN (k + 1) then monN day k else k + 1
def monS (day : Int) : Nat := (if day / 28 < 1971 then day / 28 else 1971).toNat
def monI (day : Int) : Nat := monN day (monS day)
theorem monN_le (day : Int) : ∀ k, monN day k ≤ k
  | 0 => Nat.le_refl _
  | k + 1 => by
    have := monN_le day k
    unfold monN
    split <;> omega
theorem begin_zero : beginN 0 = 0 := by decide +kernel
set_option maxRecDepth 100000 in
set_option maxHeartbeats 1000000 in
theorem month_any (day : Int) (w : World) (h1 : 0 ≤ day) (h2 : day ≤ 60000) : Calls Tryz.prog 35 #[.int .i64 day] w fun e w' => e = .returned (.int .i64 (monI day)) ∧ Below w.heap.size w w' := by
  have d1 : day.tdiv 28 = day / 28 := Int.tdiv_eq_ediv_of_nonneg h1
  obtain ⟨q, hq⟩ : ∃ q, (if day / 28 < 1971 then day / 28 else 1971) = q := ⟨_, rfl⟩
  have hqb : 0 ≤ q ∧ q ≤ 1971 := by rw [← hq]; split <;> omega
  have hq2 : (if 1971 < day / 28 then 1971 else day / 28) = q := by rw [← hq]; split <;> split <;> omega
  have HS := Lib.hid (show monS day = q.toNat by unfold monS; rw [hq])
  clear hq
  go_enter Tryz.func35, Tryz.ntmps35
  go_upto_region 2 with fail
  go_loopw [3] (fun i wr => ∃ k : Nat, k ≤ 1971 ∧ i = .int .i64 k ∧ Hid (monN day k = monI day) ∧ Hid (Below w.heap.size w wr)) (fun i _ => (intOf i).toNat)
  case atStart => exact ⟨q.toNat, by omega, by congr 1; omega, Lib.hid (by unfold monI; rw [HS.out]), Lib.hid (Below.refl _ _)⟩
  case round =>
    obtain ⟨k, hk, rfl, HM, HB⟩ := hrel
    have HC := Lib.hid (fun W => begin_any k W (by omega))
    by_cases hlt : day < beginN k
    · cases k with
      | zero => rw [begin_zero] at hlt; omega
      | succ k =>
        have HM2 := Lib.hid (show monN day k = monI day by rw [← HM.out]; conv => rhs; unfold monN; rw [if_pos hlt])
        generalize beginN (k + 1) = b at *
        go_wp2_with (go_at_call 24; refine (HC.out _).mono ?_; rintro e w2 ⟨rfl, hb⟩; have HB2 := Lib.hid (HB.out.trans (hb.mono HB.out.size)); clear hb)
        go_roundw
        case rel => exact ⟨k, by omega, by go_num, HM2, HB2⟩
        case measure => simp [intOf]
    · have HE := Lib.hid (show monI day = k by
        rw [← HM.out]
        cases k with
        | zero => rfl
        | succ k => unfold monN; rw [if_neg hlt])
      generalize beginN k = b at *
      go_wp2_with (go_at_call 24; refine (HC.out _).mono ?_; rintro e w2 ⟨rfl, hb⟩; have HB2 := Lib.hid (HB.out.trans (hb.mono HB.out.size)); clear hb)
      go_ret
      exact ⟨by rw [HE.out]; rfl, HB2.out⟩
structure Dt where
  y : Int
  m : Int
  d : Int
deriving Inhabited, DecidableEq
def dtv (d : Dt) : Value := .agg #[.int .i64 d.y, .int .i64 d.m, .int .i64 d.d]
def ofI (day : Int) : Dt := ⟨1850 + ((monI day / 12 : Nat) : Int), ((monI day % 12 : Nat) : Int) + 1, day - beginN (monI day) + 1⟩
theorem mon_le (day : Int) : monI day ≤ 1971 := by
  have h := monN_le day (monS day)
  have h2 : monS day ≤ 1971 := by unfold monS; split <;> omega
  unfold monI; omega
theorem begin_bd2 (m : Nat) (hm : m ≤ 100000) : -40000000 ≤ beginN m ∧ beginN m ≤ 40001000 := by
  have h := begin_bd (1850 + ((m / 12 : Nat) : Int)) (by omega) (by omega) (m % 12) (by omega)
  unfold beginN
  omega
theorem cell_of_heap {w : World} {p : Nat} {cs : Array Value} {t : TypeId} (h : w.heap[p]? = some (.cells cs t (0, 0))) (j : Nat) : w.cell? ⟨p, j, none⟩ = cs[j]? := by simp [World.cell?, h]
theorem frozen_of_heap {w : World} {p : Nat} {cs : Array Value} {t : TypeId} (h : w.heap[p]? = some (.cells cs t (0, 0))) (j : Nat) : w.frozen? ⟨p, j, none⟩ = false := by simp [World.frozen?, h]
theorem cells3 {w : World} {p : Nat} {a b c : Value} {t : TypeId} (h : w.heap[p]? = some (.cells #[a, b, c] t (0, 0))) : w.cell? ⟨p, 0, none⟩ = some a ∧ w.cell? ⟨p, 1, none⟩ = some b ∧ w.cell? ⟨p, 2, none⟩ = some c ∧ w.frozen? ⟨p, 0, none⟩ = false ∧ w.frozen? ⟨p, 1, none⟩ = false ∧ w.frozen? ⟨p, 2, none⟩ = false ∧ p < w.heap.size :=
  ⟨by rw [cell_of_heap h]; rfl, by rw [cell_of_heap h]; rfl, by rw [cell_of_heap h]; rfl, frozen_of_heap h 0, frozen_of_heap h 1, frozen_of_heap h 2, (Array.getElem?_eq_some_iff.1 h).1⟩
theorem set3 {w : World} {p : Nat} {a b c x y z : Value} {t : TypeId} (h : w.heap[p]? = some (.cells #[a, b, c] t (0, 0))) : (((w.setCell ⟨p, 0, none⟩ x).setCell ⟨p, 1, none⟩ y).setCell ⟨p, 2, none⟩ z).heap[p]? = some (.cells #[x, y, z] t (0, 0)) := by
  simp [World.setCell, Array.getElem?_modify, h]
set_option maxRecDepth 100000 in
set_option maxHeartbeats 1000000 in
theorem of_any (day : Int) (w : World) (h1 : 0 ≤ day) (h2 : day ≤ 60000) : Calls Tryz.prog 31 #[.int .i64 day] w fun e w' => e = .returned (dtv (ofI day)) ∧ Below w.heap.size w w' := by
  have HM := Lib.hid (fun W => month_any day W h1 h2)
  have hml := mon_le day
  have hbd := begin_bd2 (monI day) (by omega)
  have HO := Lib.hid (show ofI day = ⟨1850 + ((monI day / 12 : Nat) : Int), ((monI day % 12 : Nat) : Int) + 1, day - beginN (monI day) + 1⟩ from rfl)
  have HC := Lib.hid (fun W => begin_any (monI day) W (by omega))
  obtain ⟨m, hm⟩ : ∃ m, monI day = m := ⟨_, rfl⟩
  rw [hm] at HM hml hbd HO HC
  clear hm
  have d1 : ((m : Int)).tdiv 12 = ((m / 12 : Nat) : Int) := by rw [Int.tdiv_eq_ediv_of_nonneg (by omega)]; omega
  have d2 : ((m : Int)).tmod 12 = ((m % 12 : Nat) : Int) := by rw [Int.tmod_eq_emod_of_nonneg (by omega)]; omega
  obtain ⟨q, hq⟩ : ∃ q, m / 12 = q := ⟨_, rfl⟩
  obtain ⟨r, hr⟩ : ∃ r, m % 12 = r := ⟨_, rfl⟩
  rw [hq] at d1 HO
  rw [hr] at d2 HO
  have hq2 : q ≤ 10000 := by omega
  have hr2 : r ≤ 11 := by omega
  clear hq hr
  generalize beginN m = b at *
  go_enter Tryz.func31, Tryz.ntmps31
  go_wp2_with (first | (go_at_call 35; refine (HM.out _).mono ?_; rintro e w1 ⟨rfl, hb⟩; have HB1 := Lib.hid (below_trans (bel : Below w.heap.size w (w.alloc _)) hb); have HH1 := Lib.hid (show w1.heap[w.heap.size]? = some (.cells #[.int .i64 0, .int .i64 0, .int .i64 0] 23) from (hb.block _ (by simp)).trans (heap_alloc_new w _)); clear hb) | (go_at_call 24; refine (HC.out _).mono ?_; rintro e w2 ⟨rfl, hb⟩; have HB2 := Lib.hid (below_trans HB1.out hb); have HH2 := Lib.hid ((hb.block _ (Array.getElem?_eq_some_iff.1 HH1.out).1).trans HH1.out); obtain ⟨c0, c1, c2, f0, f1, f2, lc⟩ := cells3 HH2.out; clear hb))
  obtain ⟨y0, y1, y2, _⟩ := cells3 (set3 (x := .int .i64 (1850 + (q : Int))) (y := .int .i64 ((r : Int) + 1)) (z := .int .i64 (day - b + 1)) HH2.out)
  refine bodyPost_ret (v := .agg #[.int .i64 (1850 + (q : Int)), .int .i64 ((r : Int) + 1), .int .i64 (day - b + 1)]) ?_ rfl ?_
  · simp [results, Tryz.results31, go_sem, y0, y1, y2]
  · exact ⟨by rw [HO.out]; rfl, ((HB2.out.setCell (Nat.le_refl _) _).setCell (Nat.le_refl _) _).setCell (Nat.le_refl _) _⟩
end Go.Proofs.YteoembjghmgbhaaGreatDoor
