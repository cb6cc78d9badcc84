/- The flow walks: the reference's Same. -/
import Derived.Test.YtmhiiomejopaoaaGreatDoorQ1
import Derived.Laws.StructEq
namespace Go.Proofs.YtmhiiomejopaoaaGreatDoor
set_option linter.all false
set_option maxRecDepth 100000
open Go.RowKit

set_option maxRecDepth 100000 in
theorem eq39 (a b m c d e : Int) (w : World) : (Op.equalIn 10000 51 (.agg #[.int .i64 a, .int .i64 b, .int .i64 m]) (.agg #[.int .i64 c, .int .i64 d, .int .i64 e])).run Tryz.prog w = .ok (a == c && (b == d && m == e)) w := by
  have u3 := Tryz.underlying3
  have a3 := Tryz.isAgg3
  have z3 := Tryz.sizeOf3
  have hS : Tryz.prog.underlying 51 = some (.struct (Tryz.prog.fieldsOf 51)) := by kernel_rfl
  have hp : Tryz.prog.stoodInHeld 51 = false := by kernel_rfl
  rw [show (10000 : Nat) = 9999 + 1 from rfl, run_equalIn_agg w 9999 51 _ _ hS hp]
  simp only [Program.fieldsOf, Tryz.underlying51]
  go_simp
  by_cases h1 : a = c <;> by_cases h2 : b = d <;> by_cases h3 : m = e <;> simp [h1, h2, h3]
theorem neq39 (q q2 : Lk) (h : ¬ (q.a = q2.a ∧ q.b = q2.b ∧ q.m = q2.m)) (w : World) : (Go.binOp .neq 51 (.agg #[.int .i64 q.a, .int .i64 q.b, .int .i64 q.m]) (.agg #[.int .i64 q2.a, .int .i64 q2.b, .int .i64 q2.m])).run Tryz.prog w = .ok (.bool true) w := by
  rw [run_neq_struct, eq39]
  have e : (q.a == q2.a && (q.b == q2.b && q.m == q2.m)) = false := by
    rw [Bool.eq_false_iff]
    intro h2
    simp only [Bool.and_eq_true, beq_iff_eq] at h2
    exact h h2
  rw [e]
  rfl
theorem lks_eq {x y : List Lk} (h : ∀ j : Nat, j < x.length → gl x j = gl y j) (hl : x.length = y.length) : x = y := by
  apply List.ext_getElem?
  intro i
  by_cases hi : i < x.length
  · rw [gl_get hi, gl_get (by omega), h i hi]
  · rw [List.getElem?_eq_none (by omega), List.getElem?_eq_none (by omega)]
def sameR (n : Int) (x : List Lk) (m : Int) (y : List Lk) : Bool := decide (n = m) && decide (x = y)
set_option maxRecDepth 100000 in
set_option maxHeartbeats 1000000 in
theorem rsame_any (n m : Int) (A : Option Addr) (c : Nat) (x : List Lk) (B : Option Addr) (d : Nat) (y : List Lk) (w : World) (hx : x.length ≤ 140737488351232) (h : LksAt w A x) (h' : LksAt w B y) :
    Calls Tryz.prog 10 #[.agg #[.int .i64 n, .slice A x.length c], .agg #[.int .i64 m, .slice B y.length d]] w fun e w' => e = .returned (.bool (sameR n x m y)) ∧ Below w.heap.size w w' := by
  have HX := Lib.hid h
  have HY := Lib.hid h'
  clear h h'
  cases hn : (n != m)
  case true =>
    have HR := Lib.hid (show sameR n x m y = false by unfold sameR; simp at hn; simp [hn])
    go_enter Tryz.func10, Tryz.ntmps10
    go_wp2
    go_ret
    exact ⟨by rw [HR.out]; rfl, bel⟩
  case false =>
    have HN := Lib.hid (show n = m by simpa using hn)
    by_cases hl : x.length = y.length
    · have hl' : ((x.length : Int) != (y.length : Int)) = false := by simp; omega
      have HL := Lib.hid hl
      clear hl
      go_enter Tryz.func10, Tryz.ntmps10
      go_wp2
      go_loopw [5] (fun i wr => ∃ k : Nat, k ≤ x.length ∧ i = .int .i64 k ∧ Hid (∀ j : Nat, j < k → gl x j = gl y j) ∧ Hid (Below w.heap.size w wr) ∧ wr.cell? ⟨w.heap.size, 1, none⟩ = some (.slice A x.length c) ∧ wr.cell? ⟨w.heap.size + 1, 1, none⟩ = some (.slice B y.length d)) (fun i _ => x.length - (intOf i).toNat)
      case atStart => exact ⟨0, by omega, rfl, Lib.hid (fun j hj => by omega), Lib.hid bel, by go_simp, by go_simp⟩
      case round =>
        obtain ⟨k, hk, rfl, HK, HB, c1, c2⟩ := hrel
        have z1 := World.block_lt_of_cell? wr _ c1
        have z2 := World.block_lt_of_cell? wr _ c2
        by_cases hlt : k < x.length
        · have hlt2 : (k : Int) < (y.length : Int) := by have := HL.out; omega
          obtain ⟨b1, o1, rfl, g1, g2, g3⟩ := (HX.out.below HB.out).nat k hlt
          obtain ⟨b2, o2, rfl, g4, g5, g6⟩ := (HY.out.below HB.out).nat k (by have := HL.out; omega)
          have l1 := World.block_lt_of_cell? _ _ g1
          have l2 := World.block_lt_of_cell? _ _ g4
          by_cases hq : gl x k = gl y k
          · have HQ := Lib.hid hq
            rw [← hq] at g4 g5 g6
            clear hq
            generalize gl x k = q at g1 g2 g3 g4 g5 g6
            go_wp2
            go_quiet (fail)
            go_wp2
            go_roundw
            case rel =>
              refine ⟨k + 1, by omega, by go_num, Lib.hid fun j hj => ?_, Lib.hid (below_drews HB.out _), c1, c2⟩
              rcases Nat.lt_succ_iff_lt_or_eq.1 hj with h | rfl
              · exact HK.out j h
              · exact HQ.out
            case measure => simp [intOf]; omega
          · have HQ := Lib.hid (show sameR n x m y = false by
              unfold sameR
              have : x ≠ y := fun e => hq (by rw [e])
              simp [this])
            have hne : ¬ ((gl x k).a = (gl y k).a ∧ (gl x k).b = (gl y k).b ∧ (gl x k).m = (gl y k).m) := fun ⟨e1, e2, e3⟩ => hq (by cases h1 : gl x k; cases h2 : gl y k; rw [h1, h2] at e1 e2 e3; simp_all)
            clear hq
            generalize gl x k = q at g1 g2 g3 hne
            generalize gl y k = q2 at g4 g5 g6 hne
            have hq39 := neq39 q q2 hne
            clear hne
            go_wp2
            go_quiet (fail)
            go_wp2
            go_ret
            exact ⟨by rw [HQ.out]; rfl, below_drews HB.out _⟩
        · obtain rfl : k = x.length := by omega
          have e := lks_eq HK.out HL.out
          have HE := Lib.hid (show sameR n x m y = true by unfold sameR; simp [HN.out, e])
          clear e
          go_wp2
          go_ret
          exact ⟨by rw [HE.out]; rfl, HB.out⟩
    · have hl' : ((x.length : Int) != (y.length : Int)) = true := by simp; omega
      have HR := Lib.hid (show sameR n x m y = false by unfold sameR; have : x ≠ y := fun e => hl (by rw [e]); simp [this])
      clear hl
      go_enter Tryz.func10, Tryz.ntmps10
      go_wp2
      go_ret
      exact ⟨by rw [HR.out]; rfl, bel⟩
end Go.Proofs.YtmhiiomejopaoaaGreatDoor
