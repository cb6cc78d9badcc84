/- The date walks: Days, Later. -/
import Derived.Test.YteoembjghmgbhaaGreatDoorB3
namespace Go.Proofs.YteoembjghmgbhaaGreatDoor
set_option linter.all false
open Go.RowKit

def DaysR (m : Int) : Sp × Int := if monthB m then (clipI (beginN m.toNat) (beginN (m.toNat + 1) - 1), 0) else (⟨0, 0⟩, 1)
set_option maxRecDepth 100000 in
set_option maxHeartbeats 1000000 in
theorem Days_any (m : Int) (w : World) : Calls Tryz.prog 14 #[.int .i64 m] w fun e w' => e = .returned (.tuple #[spv (DaysR m).1, .int .i64 (DaysR m).2]) ∧ Below w.heap.size w w' := by
  cases hd : monthB m
  · have HE := Lib.hid (show DaysR m = (⟨0, 0⟩, 1) by unfold DaysR; rw [hd]; rfl)
    have HH := Lib.hid (heap_alloc_new w (.cells #[.int .i64 0, .int .i64 0] 39))
    go_enter Tryz.func14, Tryz.ntmps14
    go_wp2_with (go_at_call 34; refine (isMonth_any _ _).mono ?_; rw [hd]; rintro e w1 ⟨rfl, rfl⟩)
    obtain ⟨y0, y1, _⟩ := cells2 (set2 (x := .int .i64 0) (y := .int .i64 0) HH.out)
    refine bodyPost_ret (v := .tuple #[.agg #[.int .i64 0, .int .i64 0], .int .i64 1]) ?_ rfl ?_
    · simp [results, Tryz.results14, go_sem, y0, y1]
    · exact ⟨by rw [HE.out]; rfl, bel⟩
  · have hdd : 0 ≤ m ∧ m ≤ 1971 := by simpa [monthB] using hd
    obtain ⟨k, rfl⟩ : ∃ k : Nat, m = k := ⟨m.toNat, by omega⟩
    have HE := Lib.hid (show DaysR k = (clipI (beginN k) (beginN (k + 1) - 1), 0) by unfold DaysR; rw [hd]; rfl)
    have HC1 := Lib.hid (fun W => begin_any k W (by omega))
    have HC2 := Lib.hid (fun W => begin_any (k + 1) W (by omega))
    have hb1 := begin_bd2 k (by omega)
    have hb2 := begin_bd2 (k + 1) (by omega)
    generalize beginN k = b1 at *
    generalize beginN (k + 1) = b2 at *
    have HC3 := Lib.hid (fun W => clip_any b1 (b2 - 1) W)
    generalize clipI b1 (b2 - 1) = o at *
    obtain ⟨a, b⟩ := o
    have e1 : ((k + 1 : Nat) : Int) = (k : Int) + 1 := by omega
    rw [e1] at HC2
    clear e1
    obtain ⟨h1, h2⟩ := hdd
    go_enter Tryz.func14, Tryz.ntmps14
    have MK := Lib.hid True.intro
    go_wp2_with (first | (go_at_call 34; refine (isMonth_any _ _).mono ?_; rw [hd]; rintro e w1 ⟨rfl, rfl⟩) | (have hm := MK.out; clear hm; go_at_call 24; refine (HC1.out _).mono ?_; rintro e w1 ⟨rfl, hb⟩; have HB1 := Lib.hid (below_trans (bel : Below w.heap.size w (w.alloc _)) hb); have HH1 := Lib.hid ((hb.block w.heap.size (by simp)).trans (heap_alloc_new w _)); clear hb MK) | (go_at_call 24; refine (HC2.out _).mono ?_; rintro e w2 ⟨rfl, hb⟩; have HB2 := Lib.hid (below_trans HB1.out hb); have HH2 := Lib.hid ((hb.block _ (Array.getElem?_eq_some_iff.1 HH1.out).1).trans HH1.out); clear hb) | (go_at_call 33; refine (HC3.out _).mono ?_; unfold spv; rintro e w3 ⟨rfl, hb⟩; have HB3 := Lib.hid (below_trans HB2.out hb); have HH3 := Lib.hid ((hb.block _ (Array.getElem?_eq_some_iff.1 HH2.out).1).trans HH2.out); obtain ⟨c0, c1, f0, f1, lc⟩ := cells2 HH3.out; clear hb))
    obtain ⟨y0, y1, _⟩ := cells2 (set2 (x := .int .i64 a) (y := .int .i64 b) HH3.out)
    refine bodyPost_ret (v := .tuple #[.agg #[.int .i64 a, .int .i64 b], .int .i64 0]) ?_ rfl ?_
    · simp [results, Tryz.results14, go_sem, y0, y1]
    · exact ⟨by rw [HE.out]; rfl, (HB3.out.setCell (Nat.le_refl _) _).setCell (Nat.le_refl _) _⟩
def mn (x y : Int) : Int := if y < x then y else x
def laterN (day : Int) (k : Nat) : Int := beginN k + mn (ofI day).d (lenI (1850 + ((k / 12 : Nat) : Int)) (((k % 12 : Nat) : Int) + 1)) - 1
def LaterR (day months : Int) : Int × Int :=
  if !dayB day then (0, 1)
  else if months < -(monI day : Int) ∨ 1971 - (monI day : Int) < months then (0, 3)
  else if dayB (laterN day ((monI day : Int) + months).toNat) then (laterN day ((monI day : Int) + months).toNat, 0) else (0, 3)
theorem field_d (a b c : Value) (W : World) : (Instr.field 23 (.agg #[a, b, c]) 2).run Tryz.prog W = .ok c W := by kernel_rfl
theorem of_bd (day : Int) (h1 : 0 ≤ day) (h2 : day ≤ 60000) : -100000000 ≤ (ofI day).d ∧ (ofI day).d ≤ 100000000 := by
  have := begin_bd2 (monI day) (by have := mon_le day; omega)
  unfold ofI
  simp only
  omega
set_option maxRecDepth 100000 in
set_option maxHeartbeats 2000000 in
theorem Later_any (day months : Int) (w : World) (hm : -9223372036854775808 ≤ months ∧ months ≤ 9223372036854775807) : Calls Tryz.prog 15 #[.int .i64 day, .int .i64 months] w fun e w' => e = .returned (.tuple #[.int .i64 (LaterR day months).1, .int .i64 (LaterR day months).2]) ∧ Below w.heap.size w w' := by
  cases hd : dayB day
  · have HE := Lib.hid (show LaterR day months = (0, 1) by unfold LaterR; rw [hd]; rfl)
    go_enter Tryz.func15, Tryz.ntmps15
    go_wp2_with (go_at_call 30; refine (isDay_any _ _).mono ?_; rw [hd]; rintro e w1 ⟨rfl, rfl⟩)
    go_ret2
    exact ⟨by rw [HE.out]; rfl, Below.refl _ _⟩
  · have hdd : 0 ≤ day ∧ day ≤ 60000 := by simpa [dayB] using hd
    have HM := Lib.hid (fun W => month_any day W hdd.1 hdd.2)
    have hml := mon_le day
    by_cases hr : months < -(monI day : Int) ∨ 1971 - (monI day : Int) < months
    · have HE := Lib.hid (show LaterR day months = (0, 3) by unfold LaterR; rw [hd, if_neg (by simp), if_pos hr])
      generalize monI day = m at *
      clear hdd
      rcases hr with hr | hr
      all_goals
        go_enter Tryz.func15, Tryz.ntmps15
        go_wp2_with (first | (go_at_call 30; refine (isDay_any _ _).mono ?_; rw [hd]; rintro e w1 ⟨rfl, rfl⟩) | (go_at_call 35; refine (HM.out _).mono ?_; rintro e w2 ⟨rfl, hb⟩))
        all_goals (go_ret2; exact ⟨by rw [HE.out]; rfl, hb⟩)
    · obtain ⟨k, hk⟩ : ∃ k : Nat, (monI day : Int) + months = k := ⟨((monI day : Int) + months).toNat, by omega⟩
      have hkb : k ≤ 1971 := by omega
      have HE := Lib.hid (show LaterR day months = if dayB (laterN day k) then (laterN day k, 0) else (0, 3) by unfold LaterR; rw [hd, if_neg (by simp), if_neg hr, hk, Int.toNat_natCast])
      have HB := Lib.hid (fun W => begin_any k W (by omega))
      have HO := Lib.hid (fun W => of_any day W hdd.1 hdd.2)
      have hbb := begin_bd2 k (by omega)
      have hob := of_bd day hdd.1 hdd.2
      have hlb := len_bd (1850 + ((k / 12 : Nat) : Int)) (((k % 12 : Nat) : Int) + 1)
      have HL := Lib.hid (fun W => length_any (1850 + ((k / 12 : Nat) : Int)) (((k % 12 : Nat) : Int) + 1) W (by omega) (by omega))
      have hlt := show laterN day k = beginN k + mn (ofI day).d (lenI (1850 + ((k / 12 : Nat) : Int)) (((k % 12 : Nat) : Int) + 1)) - 1 from rfl
      generalize hmm : monI day = m at *
      have d1 : ((k : Int)).tdiv 12 = ((k / 12 : Nat) : Int) := by rw [Int.tdiv_eq_ediv_of_nonneg (by omega)]; omega
      have d2 : ((k : Int)).tmod 12 = ((k % 12 : Nat) : Int) := by rw [Int.tmod_eq_emod_of_nonneg (by omega)]; omega
      obtain ⟨q, hq⟩ : ∃ q, k / 12 = q := ⟨_, rfl⟩
      obtain ⟨r, hr2⟩ : ∃ r, k % 12 = r := ⟨_, rfl⟩
      rw [hq] at d1 HL hlb hlt
      rw [hr2] at d2 HL hlb hlt
      have hqb : q ≤ 1000 := by omega
      have hrb : r ≤ 11 := by omega
      clear hq hr2
      generalize lenI (1850 + (q : Int)) ((r : Int) + 1) = ln at *
      generalize beginN k = bg at *
      generalize ofI day = o at *
      obtain ⟨oa, ob, oc⟩ := o
      obtain ⟨mv, hmv⟩ : ∃ mv, (if ln < oc then ln else oc) = mv := ⟨_, rfl⟩
      have hmvb : -100000000 ≤ mv ∧ mv ≤ 100000000 := by simp only at hob; rw [← hmv]; split <;> omega
      have hlt2 : laterN day k = bg + mv - 1 := by rw [hlt, ← hmv]; rfl
      have HLT := Lib.hid hlt2
      rw [hlt2] at HE
      clear hlt hlt2 hmm
      have hfd := field_d (.int .i64 oa) (.int .i64 ob) (.int .i64 oc)
      obtain ⟨h1, h2⟩ := hdd
      have hr3 : ¬ months < -(m : Int) := fun h => hr (.inl h)
      have hr4 : ¬ 1971 - (m : Int) < months := fun h => hr (.inr h)
      clear hr
      cases hz : dayB (bg + mv - 1)
      all_goals
        rw [hz] at HE
        go_enter Tryz.func15, Tryz.ntmps15
        have MK := Lib.hid True.intro
        go_wp2_with (first | (have hm9 := MK.out; clear hm9; go_at_call 30; refine (isDay_any _ _).mono ?_; rw [hd]; rintro e w1 ⟨rfl, rfl⟩; clear MK) | (go_at_call 35; refine (HM.out _).mono ?_; rintro e w2 ⟨rfl, hb⟩; have HB2 := Lib.hid hb; clear hb) | (go_at_call 24; refine (HB.out _).mono ?_; rintro e w3 ⟨rfl, hb⟩; have HB3 := Lib.hid (below_trans HB2.out hb); clear hb) | (go_at_call 31; refine (HO.out _).mono ?_; unfold dtv; rintro e w4 ⟨rfl, hb⟩; have HB4 := Lib.hid (below_trans HB3.out hb); clear hb) | (go_at_call 36; refine (HL.out _).mono ?_; rintro e w5 ⟨rfl, hb⟩; have HB5 := Lib.hid (below_trans HB4.out hb); clear hb) | (go_at_call 30; refine (isDay_any _ _).mono ?_; rw [hz]; rintro e w6 ⟨rfl, rfl⟩))
        go_ret2
        exact ⟨by rw [HE.out]; rfl, HB5.out⟩
end Go.Proofs.YteoembjghmgbhaaGreatDoor
