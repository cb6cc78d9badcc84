/- The flow walks: the reference's Node, Check, Solution. -/
import Derived.Test.YtmhiiomejopaoaaQ1
namespace Go.Proofs.Ytmhiiomejopaoaa
set_option linter.all false
open Go.RowKit

def rnodeB (n v : Int) : Bool := decide (0 ≤ v) && decide (v < n)
theorem rnode_eq {n : Int} (v : Int) (h1 : 1 ≤ n) (h2 : n ≤ 50) : rnodeB n v = nodeB n v := by
  unfold rnodeB nodeB withinB
  rw [wrap_pred h1 h2]
  by_cases e : v < n
  · simp [e, show v ≤ n - 1 by omega]
  · simp [e, show ¬ v ≤ n - 1 by omega]
set_option maxHeartbeats 400000 in
theorem rnode_any (n : Int) (l : Value) (v : Int) (w : World) :
    Calls Try.prog 34 #[.agg #[.int .i64 n, l], .int .i64 v] w fun e w' => e = .returned (.bool (rnodeB n v)) ∧ w.alloc (.cells #[.int .i64 n, l] 24) = w' := by
  unfold rnodeB
  go_enter Try.func34, Try.ntmps34
  go_wp2
  all_goals (go_ret; exact ⟨by simp [*]; try omega, rfl⟩)
theorem rnode_at (n : Int) (l : Value) (v : Int) (w : World) (h1 : 1 ≤ n) (h2 : n ≤ 50) :
    Calls Try.prog 34 #[.agg #[.int .i64 n, l], .int .i64 v] w fun e w' => e = .returned (.bool (nodeB n v)) ∧ w.alloc (.cells #[.int .i64 n, l] 24) = w' := by
  rw [← rnode_eq v h1 h2]
  exact rnode_any n l v w
set_option maxRecDepth 100000 in
set_option maxHeartbeats 1000000 in
theorem rcheck_any (n : Int) (A : Option Addr) (c : Nat) (l : List Lk) (w : World) (hl : l.length ≤ 9223372036854775807) (h : LksAt w A l) :
    Calls Try.prog 33 #[.agg #[.int .i64 n, .slice A l.length c]] w fun e w' => e = .returned (.int .i64 (checkL n l)) ∧ Below w.heap.size w w' := by
  have H := Lib.hid h
  clear h
  go_enter Try.func33, Try.ntmps33
  cases hn : withinB n 1 50
  · go_wp2_with (go_at_call 82; refine (in_any _ _ _ _).mono ?_; rintro e w' ⟨rfl, rfl⟩)
    go_ret
    exact ⟨ret_int (by simp [checkL, hn]), bel⟩
  · have hnn : 1 ≤ n ∧ n ≤ 50 := by simpa [withinB] using hn
    by_cases hn3 : l.length ≤ 260
    · go_wp2_with (go_at_call 82; refine (in_any _ _ _ _).mono ?_; rintro e w' ⟨rfl, rfl⟩)
      have HNN := Lib.hid hnn
      clear hnn
      go_loopw [3, 4] (fun i _ wr => ∃ k : Nat, k ≤ l.length ∧ i = .int .i64 k ∧ Hid (∀ j : Nat, j < k → badLk n (gl l j) = false) ∧ Below w.heap.size w wr ∧ wr.cell? ⟨w.heap.size, 0, none⟩ = some (.int .i64 n) ∧ wr.cell? ⟨w.heap.size, 1, none⟩ = some (.slice A l.length c)) (fun i _ _ => l.length - (intOf i).toNat)
      case atStart => exact ⟨0, by omega, rfl, Lib.hid (by simp), bel, by simp, by simp⟩
      case round =>
        obtain ⟨k, hk, rfl, hbad, hB, hc0, hc1⟩ := hrel
        have hz := World.block_lt_of_cell? wr _ hc0
        dsimp only at hz
        by_cases hlt : k < l.length
        · obtain ⟨b, o, rfl, g1, g2, g3⟩ := (H.out.below hB).nat k hlt
          generalize hx : gl l k = x at g1 g2 g3
          have Hx := Lib.hid hx
          clear hx
          have Hone := Lib.hid (fun (hb : badLk n x = true) => any_gl_true (f := badLk n) (l := l) (i := (k : Int)) (by omega) (by omega) (by rw [Hx.out]; exact hb))
          have Hn := Lib.hid hn
          clear hn
          go_wp2_with (first | (go_at_call 82; refine (in_any _ _ _ _).mono ?_; rintro e w' ⟨rfl, rfl⟩) | (go_at_call 34; refine (rnode_at _ _ _ _ HNN.out.1 HNN.out.2).mono ?_; rintro e w1 ⟨rfl, rfl⟩))
          all_goals first
            | (go_ret; exact ⟨ret_int (by rw [checkL, Hn.out, Hone.out (by simp_all [badLk])]; simp [show ¬ 260 < l.length by omega]), bel⟩)
            | (refine ⟨⟨k + 1, by omega, by go_num, Lib.hid fun j hj => ?_, bel, cel, cel⟩, by simp [intOf]; omega⟩
               rcases Nat.lt_succ_iff_lt_or_eq.1 hj with h | rfl
               · exact hbad.out j h
               · rw [Hx.out]; simp_all [badLk])
        · go_wp2
          go_ret
          obtain rfl : k = l.length := by omega
          exact ⟨ret_int (by rw [checkL, any_gl_false hbad.out, hn]; simp [show ¬ 260 < l.length by omega]), hB⟩
    · go_wp2_with (go_at_call 82; refine (in_any _ _ _ _).mono ?_; rintro e w' ⟨rfl, rfl⟩)
      go_ret
      exact ⟨ret_int (by simp [checkL, hn, show 260 < l.length by omega]), bel⟩
end Go.Proofs.Ytmhiiomejopaoaa
