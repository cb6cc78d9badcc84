/- The flow walks: Grow, Concat, With, kept. -/
import Derived.Test.YtmhiiomejopaoaaF9
namespace Go.Proofs.Ytmhiiomejopaoaa
set_option linter.all false
open Go.RowKit

theorem run_grow_zero (w : World) (ty : TypeId) (n : Nat) (h0 : 0 < n) (hn : n ≤ 1000000) : ∃ cap cur, (Builtin.append_ #[22, 3] ty #[.slice none 0 0, .int .i64 (n : Int)]).run Try.prog w = .ok (.slice (some ⟨w.heap.size, 0, none⟩) n cap) (w.drew.alloc (.cells cur 39)) ∧ n ≤ cap ∧ cap ≤ maxLen ∧ cur.size = cap * 3 := by
  obtain ⟨i, hi, hzz⟩ := Option.map_eq_some_iff.1 info39
  simp only [Prod.mk.injEq] at hzz
  obtain ⟨hz, hs, hb⟩ := hzz
  have hn0 : n ≠ 0 := by omega
  have h63' : ¬ (9223372036854775807 < (n : Int)) := by omega
  have h48' : ¬ (281474976710656 < Builtin.nextslicecap n 0 * i.bytes) := by rw [nextslicecap_zero h0, hb]; omega
  have hw : IntKind.i64.wrap (n : Int) = n := IntWalk.i64_in _ (by omega)
  have hneg : ¬ ((n : Int) < 0) := by omega
  have hbig : ¬ (281474976710656 < (n : Int) * (i.bytes : Int)) := by rw [show (i.bytes : Int) = 24 by rw [hb]; rfl]; omega
  refine ⟨grownCap w n 0 39, Builtin.zeroCells #[.int .i64 0, .int .i64 0, .int .i64 0] n ++ Builtin.zeroCells #[.int .i64 0, .int .i64 0, .int .i64 0] (grownCap w n 0 39 - n), ?_, grownCap_ge w n 0 39, grownCap_le_maxLen w n 0 39 (by unfold maxLen; omega), ?_⟩
  · simp [Builtin.append_, run_underlying Try.underlying22, run_underlying Try.underlying3, sizeOf, typeInfo, zeroValue, hi, hz, hs, hn0, h63', h48', hw, hneg, hbig, asInt, asIntOf, Question.forced, run_firstCells_none, newRow, grownCap, Value.cells]
    intro h
    omega
  · have := grownCap_ge w n 0 39
    simp only [Array.size_append, size_zeroCells]
    simp
    omega
theorem app_zero {ops : Array Oper} {rest : List Oper} {o : Oper} {a : Act} {Q : Exit → Act → World → Prop} {W : World} (hgd : o.guard = none) (s x : Operand)
    (ho : o.op = .call { callee := .builtin .append, args := #[s, x], argTypes := #[22, 3] }) (n : Nat) (h0 : 0 < n) (hn : n ≤ 1000000) (hs : a.eval s = .slice none 0 0) (hx : a.eval x = .int .i64 (n : Int))
    (h : ∀ cap cur, n ≤ cap → cap ≤ maxLen → cur.size = cap * 3 → wpList Try.prog ops Q rest (a.put o.dst (.slice (some ⟨W.heap.size, 0, none⟩) n cap)) (W.drew.alloc (.cells cur 39))) : wpList Try.prog ops Q (o :: rest) a W := by
  obtain ⟨cap, cur, hrun, h1, h2, h3⟩ := run_grow_zero W o.type n h0 hn
  refine wpList_plain hgd fun K hK => ?_
  unfold Oper.wp execOp
  simp only [ho, resolve, invoke, builtin, Sem.run_bind, Sem.run_pure, Result.andThen_ok, List.map_toArray, List.map_cons, List.map_nil, hs, hx, hrun]
  exact hK _ _ (h cap cur h1 h2 h3)
set_option maxRecDepth 100000 in
set_option maxHeartbeats 400000 in
theorem grow_nil (n : Nat) (w : World) (hn : n ≤ 1000000) :
    Calls Try.prog 108 #[.slice none 0 0, .int .i64 (n : Int)] w fun e w' => ∃ v, e = .returned v ∧ w'.ownsRow w.heap.size 39 3 v 0 [] ∧ Below w.heap.size w w' := by
  by_cases h0 : n = 0
  · subst h0
    have h1 : (((0 : Nat) : Int)) = 0 := rfl
    rw [h1]
    clear h1
    go_enter Try.func108, Try.ntmps108
    go_wp2
    go_ret
    exact ⟨_, rfl, World.ownsRow_nil _ _ _ _, bel⟩
  · have hp : 0 < (n : Int) := by omega
    clear h0
    go_enter Try.func108, Try.ntmps108
    go_wp2_with (at_builtin; refine app_zero rfl _ _ rfl n (by omega) hn rfl rfl ?_; intro cap cur hc1 hc2 hc3; have H2 := Lib.hid hc2; have H3 := Lib.hid hc3; clear hc2 hc3)
    go_ret
    exact ⟨_, rfl, ⟨by simp, .inr ⟨w.heap.size, cap, cur, rfl, Nat.le_refl _, heap_alloc_new w.drew _, by omega, H2.out, H3.out, by simp⟩⟩, bel⟩
end Go.Proofs.Ytmhiiomejopaoaa
