/- The date walks: the reference's Same. -/
import Derived.Test.YteoembjghmgbhaaGreatDoorC5
namespace Go.Proofs.YteoembjghmgbhaaGreatDoor
set_option linter.all false
open Go.RowKit

theorem neq37 (q q2 : Sp) (h : ¬ (q.lo = q2.lo ∧ q.hi = q2.hi)) (w : World) : (Go.binOp .neq 39 (.agg #[.int .i64 q.lo, .int .i64 q.hi]) (.agg #[.int .i64 q2.lo, .int .i64 q2.hi])).run Tryz.prog w = .ok (.bool true) w := by
  rw [run_neq_struct, eq37]
  have e : (q.lo == q2.lo && q.hi == q2.hi) = false := by
    rw [Bool.eq_false_iff]
    intro h2
    simp only [Bool.and_eq_true, beq_iff_eq] at h2
    exact h h2
  rw [e]
  rfl
theorem sps_eq {x y : List Sp} (h : ∀ j : Nat, j < x.length → gs x j = gs y j) (hl : x.length = y.length) : x = y := by
  apply List.ext_getElem?
  intro i
  by_cases hi : i < x.length
  · rw [gs_get hi, gs_get (by omega), h i hi]
  · rw [List.getElem?_eq_none (by omega), List.getElem?_eq_none (by omega)]
set_option maxRecDepth 100000 in
set_option maxHeartbeats 1000000 in
theorem rSame_any (A : Option Addr) (c : Nat) (x : List Sp) (B : Option Addr) (d : Nat) (y : List Sp) (w : World) (hx : x.length ≤ 1000000) (h : SpsAt w A x) (h' : SpsAt w B y) :
    Calls Tryz.prog 18 #[.slice A x.length c, .slice B y.length d] w fun e w' => e = .returned (.bool (decide (x = y))) ∧ Below w.heap.size w w' := by
  have HX := Lib.hid h
  have HY := Lib.hid h'
  clear h h'
  by_cases hl : x.length = y.length
  · have hl' : ((x.length : Int) != (y.length : Int)) = false := by simp; omega
    have HL := Lib.hid hl
    clear hl
    go_enter Tryz.func18, Tryz.ntmps18
    go_wp2
    go_loopw [5] (fun i wr => ∃ k : Nat, k ≤ x.length ∧ i = .int .i64 k ∧ Hid (∀ j : Nat, j < k → gs x j = gs y j) ∧ Hid (Below w.heap.size w wr)) (fun i _ => x.length - (intOf i).toNat)
    case atStart => exact ⟨0, by omega, rfl, Lib.hid (fun j hj => by omega), Lib.hid bel⟩
    case round =>
      obtain ⟨k, hk, rfl, HK, HB⟩ := hrel
      by_cases hlt : k < x.length
      · have hlt2 : (k : Int) < (y.length : Int) := by have := HL.out; omega
        obtain ⟨b1, o1, rfl, g1, g2⟩ := (HX.out.below HB.out).nat k hlt
        obtain ⟨b2, o2, rfl, g4, g5⟩ := (HY.out.below HB.out).nat k (by have := HL.out; omega)
        have l1 := World.block_lt_of_cell? _ _ g1
        have l2 := World.block_lt_of_cell? _ _ g4
        by_cases hq : gs x k = gs y k
        · have HQ := Lib.hid hq
          rw [← hq] at g4 g5
          clear hq
          generalize gs x k = q at g1 g2 g4 g5
          go_wp2
          go_quiet (fail)
          go_wp2
          go_roundw
          case rel =>
            refine ⟨k + 1, by omega, by go_num, Lib.hid fun j hj => ?_, Lib.hid (below_dN HB.out _)⟩
            rcases Nat.lt_succ_iff_lt_or_eq.1 hj with h | rfl
            · exact HK.out j h
            · exact HQ.out
          case measure => simp [intOf]; omega
        · have HQ := Lib.hid (show decide (x = y) = false from decide_eq_false (fun e => hq (by rw [e])))
          have hne : ¬ ((gs x k).lo = (gs y k).lo ∧ (gs x k).hi = (gs y k).hi) := fun ⟨e1, e2⟩ => hq (by cases h1 : gs x k; cases h2 : gs y k; rw [h1, h2] at e1 e2; simp_all)
          clear hq
          generalize gs x k = q at g1 g2 hne
          generalize gs y k = q2 at g4 g5 hne
          have hq37 := neq37 q q2 hne
          clear hne
          go_wp2
          go_quiet (fail)
          go_wp2
          go_ret
          exact ⟨by rw [HQ.out]; rfl, below_dN HB.out _⟩
      · obtain rfl : k = x.length := by omega
        have e := sps_eq HK.out HL.out
        have HE := Lib.hid (show decide (x = y) = true from decide_eq_true e)
        clear e
        go_wp2
        go_ret
        exact ⟨by rw [HE.out]; rfl, HB.out⟩
  · have hl' : ((x.length : Int) != (y.length : Int)) = true := by simp; omega
    have HR := Lib.hid (show decide (x = y) = false from decide_eq_false (fun e => hl (by rw [e])))
    clear hl
    go_enter Tryz.func18, Tryz.ntmps18
    go_wp2
    go_ret
    exact ⟨by rw [HR.out]; rfl, bel⟩
end Go.Proofs.YteoembjghmgbhaaGreatDoor
