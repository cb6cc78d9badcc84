/- The reference's walks: Number. -/
import Derived.Test.YteoembjghmgbhaaGreatDoorR1
namespace Go.Proofs.YteoembjghmgbhaaGreatDoor
set_option linter.all false
open Go.RowKit

theorem quiet_eq {f : FuncId} {args : Array Value} {w : World} {n : Nat} {v : Value} (h : Calls Tryz.prog f args (w.drewN n) fun e w' => e = .returned v ∧ w.drewN n = w') : Calls Tryz.prog f args (w.drewN n) fun e w'' => e = .returned v ∧ ∃ m, w'' = w.drewN m :=
  h.mono fun _ _ ⟨he, hm⟩ => ⟨he, n, hm.symm⟩
theorem rIn_is {a lo hi : Int} {b : Bool} (h : inB a lo hi = b) (w : World) : Calls Tryz.prog 25 #[.int .i64 a, .int .i64 lo, .int .i64 hi] w fun e w' => e = .returned (.bool b) ∧ w = w' := by
  have := rIn_any a lo hi w
  rw [h] at this
  exact this
set_option maxRecDepth 100000 in
set_option maxHeartbeats 400000 in
theorem rNumber_bad (y m d : Int) (w : World) (hno : exB ⟨y, m, d⟩ = false) : Calls Tryz.prog 9 #[dtv ⟨y, m, d⟩] w fun e w' => e = .returned (.int .i64 (-1)) ∧ Below w.heap.size w w' := by
  have HN := Lib.hid hno
  clear hno
  unfold dtv
  simp only
  cases b1 : inB y 1850 2014
  · have HI1 := Lib.hid (fun W => rIn_is b1 W)
    clear b1
    go_enter Tryz.func9, Tryz.ntmps9
    go_wp2
    go_quiet (first | (go_at_call_of 25 (Value.int IntKind.i64 1850); refine quiet_eq (HI1.out _)))
    go_wp2
    go_ret
    exact ⟨rfl, below_dN bel _⟩
  · have HI1 := Lib.hid (fun W => rIn_is b1 W)
    have B1 := Lib.hid b1
    clear b1
    cases b2 : inB m 1 12
    · have HI2 := Lib.hid (fun W => rIn_is b2 W)
      clear b2
      go_enter Tryz.func9, Tryz.ntmps9
      go_wp2
      go_quiet (first | (go_at_call_of 25 (Value.int IntKind.i64 1850); refine quiet_eq (HI1.out _)) | (go_at_call_of 25 (Value.int IntKind.i64 12); refine quiet_eq (HI2.out _)))
      go_wp2
      go_ret
      exact ⟨rfl, below_dN bel _⟩
    · have HI2 := Lib.hid (fun W => rIn_is b2 W)
      have hm : 1 ≤ m ∧ m ≤ 12 := by simpa [inB] using b2
      have B2 := Lib.hid b2
      clear b2
      by_cases h3 : d < 1
      · have t3 : decide (d < 1) = true := decide_eq_true h3
        go_enter Tryz.func9, Tryz.ntmps9
        go_wp2
        go_quiet (first | (go_at_call_of 25 (Value.int IntKind.i64 1850); refine quiet_eq (HI1.out _)) | (go_at_call_of 25 (Value.int IntKind.i64 12); refine quiet_eq (HI2.out _)))
        go_wp2
        go_ret
        exact ⟨rfl, below_dN bel _⟩
      · have t3 : decide (d < 1) = false := decide_eq_false h3
        have HL := Lib.hid (fun W => rLength_any y m W hm.1 hm.2)
        have h4 : lenI y m < d := by
          have h5 : 1850 ≤ y ∧ y ≤ 2014 := by simpa [inB] using B1.out
          have h := HN.out
          unfold exB ex4 at h
          simp only at h
          rw [decide_eq_true h5.1, decide_eq_true h5.2, decide_eq_true hm.1, decide_eq_true hm.2, decide_eq_true (show 1 ≤ d by omega)] at h
          have := of_decide_eq_false (show decide (d ≤ lenI y m) = false from h)
          omega
        generalize lenI y m = l at *
        have t4 : decide (l < d) = true := decide_eq_true h4
        clear hm h3
        go_enter Tryz.func9, Tryz.ntmps9
        go_wp2
        go_quiet (first | (go_at_call_of 25 (Value.int IntKind.i64 1850); refine quiet_eq (HI1.out _)) | (go_at_call_of 25 (Value.int IntKind.i64 12); refine quiet_eq (HI2.out _)) | (go_at_call 26; refine quiet_eq (HL.out _)))
        go_wp2
        go_ret
        exact ⟨rfl, below_dN bel _⟩
end Go.Proofs.YteoembjghmgbhaaGreatDoor
