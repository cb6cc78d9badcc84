/- The reference's walks: Number of a date that exists; Later, Days, Year. -/
import Derived.Test.YteoembjghmgbhaaGreatDoorR2
namespace Go.Proofs.YteoembjghmgbhaaGreatDoor
set_option linter.all false
open Go.RowKit

set_option maxRecDepth 100000 in
set_option maxHeartbeats 1000000 in
theorem rNumber_good (y m d : Int) (w : World) (hyes : exB ⟨y, m, d⟩ = true) : Calls Tryz.prog 9 #[dtv ⟨y, m, d⟩] w fun e w' => e = .returned (.int .i64 (numI ⟨y, m, d⟩)) ∧ Below w.heap.size w w' := by
  have h0 : (1850 ≤ y ∧ y ≤ 2014 ∧ 1 ≤ m ∧ m ≤ 12 ∧ 1 ≤ d) ∧ d ≤ lenI y m := by simpa [exB, ex4] using hyes
  have HE := Lib.hid (show numI ⟨y, m, d⟩ = if dayB (dayI ⟨y, m, d⟩) then dayI ⟨y, m, d⟩ else -1 by unfold numI; rw [hyes]; rfl)
  have hlb := len_bd y m
  obtain ⟨⟨a1, a2, a3, a4, a5⟩, a6⟩ := h0
  have HI1 := Lib.hid (fun W => rIn_is (show inB y 1850 2014 = true by unfold inB; simp [a1, a2]) W)
  have HI2 := Lib.hid (fun W => rIn_is (show inB m 1 12 = true by unfold inB; simp [a3, a4]) W)
  have t3 : decide (d < 1) = false := decide_eq_false (by omega)
  have HL := Lib.hid (fun W => rLength_any y m W a3 a4)
  have hdi := show dayI ⟨y, m, d⟩ = beginN (12 * (y - 1850) + m - 1).toNat + d - 1 from rfl
  obtain ⟨k, hk⟩ : ∃ k : Nat, 12 * (y - 1850) + m - 1 = k := ⟨(12 * (y - 1850) + m - 1).toNat, by omega⟩
  rw [hk, Int.toNat_natCast] at hdi
  have hkb : k ≤ 1990 := by omega
  have HC := Lib.hid (fun W => rFirst_any k W (by omega))
  have hbb := begin_bd2 k (by omega)
  have hbn := begin_nonneg k hkb
  generalize lenI y m = l at *
  have t4 : decide (l < d) = false := decide_eq_false (by omega)
  have hdb : 1 ≤ d ∧ d ≤ 31 := by omega
  clear a6 hlb hyes
  generalize beginN k = b at *
  rw [← hk] at HC
  rw [hdi] at HE
  clear hdi hk
  unfold dtv
  simp only
  have wz : ∀ x : Int, -9223372036854775808 ≤ x ∧ x ≤ 9223372036854775807 → IntKind.i64.wrap x = x := fun x hx => by rw [IntKind.wrap_i64]; omega
  have e1 := wz (y - 1850) (by omega)
  have e2 := wz (12 * (y - 1850)) (by omega)
  have e3 := wz (12 * (y - 1850) + m) (by omega)
  have e4 := wz (12 * (y - 1850) + m - 1) (by omega)
  have e5 := wz (b + d) (by omega)
  have e6 := wz (b + d - 1) (by omega)
  clear wz
  have h60 : dayB (b + d - 1) = !decide (60000 < b + d - 1) := by
    unfold dayB
    rw [decide_eq_true (show 0 ≤ b + d - 1 by omega), Bool.true_and]
    by_cases h : 60000 < b + d - 1
    · rw [decide_eq_true h, decide_eq_false (by omega)]; rfl
    · rw [decide_eq_false h, decide_eq_true (by omega)]; rfl
  rw [h60] at HE
  clear h60
  cases t60 : decide (60000 < b + d - 1)
  all_goals
    rw [t60] at HE
    go_enter Tryz.func9, Tryz.ntmps9
    go_wp2
    go_quiet (first | (go_at_call_of 25 (Value.int IntKind.i64 1850); refine quiet_eq (HI1.out _)) | (go_at_call_of 25 (Value.int IntKind.i64 12); refine quiet_eq (HI2.out _)) | (go_at_call 26; refine quiet_eq (HL.out _)))
    go_upto_region 3 with fail
    obtain ⟨W, hWe⟩ : ∃ W, W = (w.alloc (Obj.cells #[.int .i64 y, .int .i64 m, .int .i64 d] 23)).drewN nq := ⟨_, rfl⟩
    have HWB := Lib.hid (show Below w.heap.size w W by rw [hWe]; exact below_dN bel _)
    obtain ⟨c0, c1, c2, f0, f1, f2, lc⟩ := cells3 (show W.heap[w.heap.size]? = some (.cells #[.int .i64 y, .int .i64 m, .int .i64 d] 23 (0, 0)) by rw [hWe]; exact heap_alloc_new w _)
    rw [← hWe]
    clear hWe
    go_quiet (first | (go_at_call 27; refine quiet_eq (HC.out _)))
    go_wp2
    go_ret
    exact ⟨by rw [HE.out]; rfl, below_dN HWB.out _⟩
theorem rNumber_any (d : Dt) (w : World) : Calls Tryz.prog 9 #[dtv d] w fun e w' => e = .returned (.int .i64 (numI d)) ∧ Below w.heap.size w w' := by
  obtain ⟨y, m, d⟩ := d
  cases h : exB ⟨y, m, d⟩
  · rw [show numI ⟨y, m, d⟩ = -1 by unfold numI; rw [h]; rfl]
    exact rNumber_bad y m d w h
  · exact rNumber_good y m d w h
end Go.Proofs.YteoembjghmgbhaaGreatDoor
