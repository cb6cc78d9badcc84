/- The reference's walks: Later. -/
import Derived.Test.YteoembjghmgbhaaDoorR3
namespace Go.Proofs.YteoembjghmgbhaaDoor
set_option linter.all false
open Go.RowKit

/-- The reference's Later, for a day. -/
def laterR (day months : Int) : Int × Int :=
  if months < -(monI day : Int) ∨ 1971 - (monI day : Int) < months then (0, 3)
  else if 60000 < laterN day ((monI day : Int) + months).toNat then (0, 3) else (laterN day ((monI day : Int) + months).toNat, 0)
theorem later_same (day months : Int) (hd : dayB day = true) : LaterR day months = laterR day months := by
  have hdd : 0 ≤ day ∧ day ≤ 60000 := by simpa [dayB] using hd
  unfold LaterR laterR
  rw [hd, if_neg (by simp)]
  split
  · rfl
  · rename_i h
    obtain ⟨k, hk⟩ : ∃ k : Nat, (monI day : Int) + months = k := ⟨((monI day : Int) + months).toNat, by omega⟩
    rw [hk, Int.toNat_natCast]
    have h1 : 0 ≤ laterN day k := by
      have hb := begin_nonneg k (by omega)
      have hl := len_low (1850 + ((k / 12 : Nat) : Int)) (((k % 12 : Nat) : Int) + 1) (by omega) (by omega)
      have hlo := mon_low day hdd.1
      have ho : (ofI day).d = day - beginN (monI day) + 1 := rfl
      unfold laterN mn
      split <;> omega
    by_cases h6 : 60000 < laterN day k
    · rw [if_neg (by simp [dayB]; omega), if_pos h6]
    · rw [if_pos (by simp [dayB]; omega), if_neg h6]
set_option maxRecDepth 100000 in
set_option maxHeartbeats 2000000 in
theorem rLater_any (day months : Int) (w : World) (hm : -9223372036854775808 ≤ months ∧ months ≤ 9223372036854775807) (hdd : 0 ≤ day ∧ day ≤ 60000) : Calls Tryd.prog 29 #[.int .i64 day, .int .i64 months] w fun e w' => e = .returned (.tuple #[.int .i64 (laterR day months).1, .int .i64 (laterR day months).2]) ∧ Below w.heap.size w w' := by
  have HM := Lib.hid (fun W => rMonth_any day W hdd.1 hdd.2)
  have HO := Lib.hid (fun W => rOf_any day W hdd.1 hdd.2)
  have hob := of_bd day hdd.1 hdd.2
  have hml := mon_le day
  by_cases hr : months < -(monI day : Int) ∨ 1971 - (monI day : Int) < months
  · have HE := Lib.hid (show laterR day months = (0, 3) by unfold laterR; rw [if_pos hr])
    generalize monI day = m at *
    generalize ofI day = o at *
    obtain ⟨oa, ob, oc⟩ := o
    unfold dtv at HO
    simp only at HO
    clear hdd hob
    rcases hr with hr | hr
    · have t1 : decide (months < -(m : Int)) = true := decide_eq_true hr
      go_enter Tryd.func29, Tryd.ntmps29
      go_wp2_with (first | (go_at_call 23; refine (HO.out _).mono ?_; rintro e w2 ⟨rfl, hb⟩; have HB2 := Lib.hid (hb.alloc hb.size (.cells #[.int .i64 oa, .int .i64 ob, .int .i64 oc] 23)); clear hb) | (go_at_call 39; refine (HM.out _).mono ?_; rintro e w2 ⟨rfl, rfl⟩))
      go_ret2
      exact ⟨by rw [HE.out]; rfl, HB2.out⟩
    · have t1 : decide (months < -(m : Int)) = false := decide_eq_false (by omega)
      have t2 : decide (1971 - (m : Int) < months) = true := decide_eq_true hr
      go_enter Tryd.func29, Tryd.ntmps29
      go_wp2_with (first | (go_at_call 23; refine (HO.out _).mono ?_; rintro e w2 ⟨rfl, hb⟩; have HB2 := Lib.hid (hb.alloc hb.size (.cells #[.int .i64 oa, .int .i64 ob, .int .i64 oc] 23)); clear hb) | (go_at_call 39; refine (HM.out _).mono ?_; rintro e w2 ⟨rfl, rfl⟩))
      go_ret2
      exact ⟨by rw [HE.out]; rfl, HB2.out⟩
  · obtain ⟨k, hk⟩ : ∃ k : Nat, (monI day : Int) + months = k := ⟨((monI day : Int) + months).toNat, by omega⟩
    have hkb : k ≤ 1971 := by omega
    have HE := Lib.hid (show laterR day months = if 60000 < laterN day k then (0, 3) else (laterN day k, 0) by unfold laterR; rw [if_neg hr, hk, Int.toNat_natCast])
    have HB := Lib.hid (fun W => rFirst_any k W (by omega))
    have hbb := begin_bd2 k (by omega)
    have hlb := len_bd (1850 + ((k / 12 : Nat) : Int)) (((k % 12 : Nat) : Int) + 1)
    have HL := Lib.hid (fun W => rLength_any (1850 + ((k / 12 : Nat) : Int)) (((k % 12 : Nat) : Int) + 1) W (by omega) (by omega))
    have hlt := show laterN day k = beginN k + mn (ofI day).d (lenI (1850 + ((k / 12 : Nat) : Int)) (((k % 12 : Nat) : Int) + 1)) - 1 from rfl
    generalize hmm : monI day = m at *
    have d1 : ((k : Int)).tdiv 12 = ((k / 12 : Nat) : Int) := by rw [Int.tdiv_eq_ediv_of_nonneg (by omega)]; omega
    have d2 : ((k : Int)).tmod 12 = ((k % 12 : Nat) : Int) := by rw [Int.tmod_eq_emod_of_nonneg (by omega)]; omega
    obtain ⟨q, hq⟩ : ∃ q, k / 12 = q := ⟨_, rfl⟩
    obtain ⟨r, hr2⟩ : ∃ r, k % 12 = r := ⟨_, rfl⟩
    rw [hq] at d1 HL hlb hlt
    rw [hr2] at d2 HL hlb hlt
    have hqb : q ≤ 1000 := by omega
    have hrb : r ≤ 11 := by omega
    clear hq hr2
    generalize lenI (1850 + (q : Int)) ((r : Int) + 1) = ln at *
    generalize beginN k = bg at *
    generalize ofI day = o at *
    obtain ⟨oa, ob, oc⟩ := o
    unfold dtv at HO
    simp only at HO hob hlt
    obtain ⟨mv, hmv⟩ : ∃ mv, (if ln < oc then ln else oc) = mv := ⟨_, rfl⟩
    have hmvb : -100000000 ≤ mv ∧ mv ≤ 100000000 := by rw [← hmv]; split <;> omega
    have hlt2 : laterN day k = bg + mv - 1 := by rw [hlt, ← hmv]; rfl
    rw [hlt2] at HE
    clear hlt hlt2 hmm
    have hr3 : decide (months < -(m : Int)) = false := decide_eq_false (fun h => hr (.inl h))
    have hr4 : decide (1971 - (m : Int) < months) = false := decide_eq_false (fun h => hr (.inr h))
    clear hr
    have wz : ∀ x : Int, -9223372036854775808 ≤ x ∧ x ≤ 9223372036854775807 → IntKind.i64.wrap x = x := fun x hx => by rw [IntKind.wrap_i64]; omega
    have e1 := wz (1850 + (q : Int)) (by omega)
    have e2 := wz ((r : Int) + 1) (by omega)
    have e3 := wz (bg + mv) (by omega)
    have e4 := wz (bg + mv - 1) (by omega)
    clear wz
    cases hz : decide (60000 < bg + mv - 1)
    all_goals
      have hz2 := hz
      simp only [decide_eq_true_eq, decide_eq_false_iff_not] at hz2
      first | rw [if_pos hz2] at HE | rw [if_neg hz2] at HE
      clear hz2
      go_enter Tryd.func29, Tryd.ntmps29
      go_upto_region 6 with (first | (go_at_call 23; refine (HO.out _).mono ?_; rintro e w2 ⟨rfl, hb⟩; have HB2 := Lib.hid hb; clear hb) | (go_at_call 39; refine (HM.out _).mono ?_; rintro e w2 ⟨rfl, rfl⟩))
      obtain ⟨W, hWe⟩ : ∃ W, W = (w2.alloc (Obj.cells #[.int .i64 oa, .int .i64 ob, .int .i64 oc] 23)) := ⟨_, rfl⟩
      have HWB := Lib.hid (show Below w.heap.size w W by rw [hWe]; exact HB2.out.alloc HB2.out.size _)
      obtain ⟨c0, c1, c2, f0, f1, f2, lc⟩ := cells3 (show W.heap[w2.heap.size]? = some (.cells #[.int .i64 oa, .int .i64 ob, .int .i64 oc] 23 (0, 0)) by rw [hWe]; exact heap_alloc_new w2 _)
      rw [← hWe]
      clear hWe
      go_quiet (first | (go_at_call 63; refine quiet_eq (HB.out _)) | (go_at_call 62; refine quiet_eq (HL.out _)))
      go_wp2
      go_ret2
      exact ⟨by rw [HE.out]; rfl, below_dN HWB.out _⟩
end Go.Proofs.YteoembjghmgbhaaDoor
