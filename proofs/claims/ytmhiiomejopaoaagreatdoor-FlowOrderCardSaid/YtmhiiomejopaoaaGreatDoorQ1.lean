/- The flow walks: small, light, In, Fits, Value. -/
import Derived.Test.YtmhiiomejopaoaaGreatDoorN2
namespace Go.Proofs.YtmhiiomejopaoaaGreatDoor
set_option linter.all false
set_option maxRecDepth 100000
open Go.RowKit

def inB (n lo hi : Int) : Bool := decide (lo ≤ n) && decide (n ≤ hi)
set_option maxHeartbeats 400000 in
theorem in_any (a b c : Int) (w : World) :
    Calls Tryz.prog 32 #[.int .i64 a, .int .i64 b, .int .i64 c] w fun e w' => e = .returned (.bool (withinB a b c)) ∧ w = w' := by
  unfold withinB
  go_enter Tryz.func32, Tryz.ntmps32
  go_wp2
  all_goals (go_ret; exact ⟨by simp [*]; try omega, rfl⟩)
def smallB (n : Int) (m : Nat) : Bool := (decide (n ≤ 12) && decide (m ≤ 36)) || (decide (260 < m) && decide (m ≤ 270))
def lightB (n : Int) (m : Nat) : Bool := decide (n ≤ 8) && decide (m ≤ 18)
set_option maxRecDepth 100000 in
set_option maxHeartbeats 1000000 in
theorem small_any (n : Int) (A : Option Addr) (c m : Nat) (w : World) :
    Calls Tryz.prog 5 #[.agg #[.int .i64 n, .slice A m c]] w fun e w' => e = .returned (.bool (smallB n m)) ∧ Below w.heap.size w w' := by
  unfold smallB
  go_enter Tryz.func5, Tryz.ntmps5
  go_wp2
  all_goals (go_ret; refine ⟨ret_bool ?_, bel⟩)
  all_goals (by_cases e1 : n ≤ 12 <;> by_cases e2 : m ≤ 36 <;> by_cases e3 : 260 < m <;> by_cases e4 : m ≤ 270 <;> first | omega | (simp [e1, e2, e3, e4]; done) | (simp [e1, e2, e3, e4]; omega))
def fitsR (n : Int) (l : List Lk) (x : List Int) : Bool × Int := if checkL n l ≠ 0 then (false, checkL n l) else if areB n x = false then (false, 1) else (fitsB x l, 0)
theorem are_len {n : Int} {x : List Int} (h : areB n x = true) : (x.length : Int) = n := by
  unfold areB at h
  simp only [Bool.and_eq_true, decide_eq_true_eq] at h
  exact h.1
def valueR (n : Int) (l : List Lk) (w x : List Int) : Int × Int := if askedI n l w ≠ 0 then (0, askedI n l w) else if areB n x = false then (0, 1) else (valueI w x, 0)
end Go.Proofs.YtmhiiomejopaoaaGreatDoor
