/- The flow walks: Concat of two, With. -/
import Derived.Test.YtmhiiomejopaoaaGreatDoorF9
namespace Go.Proofs.YtmhiiomejopaoaaGreatDoor
set_option linter.all false
set_option maxRecDepth 100000
open Go.RowKit

theorem run_grow_zero (w : World) (ty : TypeId) (n : Nat) (h0 : 0 < n) (hn : n ≤ 1000000) : ∃ cap cur, (Builtin.append_ #[22, 3] ty #[.slice none 0 0, .int .i64 (n : Int)]).run Tryz.prog w = .ok (.slice (some ⟨w.heap.size, 0, none⟩) n cap) (w.drew.alloc (.cells cur 51)) ∧ n ≤ cap ∧ cap ≤ maxLen ∧ cur.size = cap * 3 := by
  obtain ⟨i, hi, hzz⟩ := Option.map_eq_some_iff.1 info39
  simp only [Prod.mk.injEq] at hzz
  obtain ⟨hz, hs, hb⟩ := hzz
  have hn0 : n ≠ 0 := by omega
  have h63' : ¬ (9223372036854775807 < (n : Int)) := by omega
  have h48' : ¬ (281474976710656 < Builtin.nextslicecap n 0 * i.bytes) := by rw [nextslicecap_zero h0, hb]; omega
  have hw : IntKind.i64.wrap (n : Int) = n := IntWalk.i64_in _ (by omega)
  have hneg : ¬ ((n : Int) < 0) := by omega
  have hbig : ¬ (281474976710656 < (n : Int) * (i.bytes : Int)) := by rw [show (i.bytes : Int) = 24 by rw [hb]; rfl]; omega
  refine ⟨grownCap w n 0 51, Builtin.zeroCells #[.int .i64 0, .int .i64 0, .int .i64 0] n ++ Builtin.zeroCells #[.int .i64 0, .int .i64 0, .int .i64 0] (grownCap w n 0 51 - n), ?_, grownCap_ge w n 0 51, grownCap_le_maxLen w n 0 51 (by unfold maxLen; omega), ?_⟩
  · simp [Builtin.append_, run_underlying Tryz.underlying22, run_underlying Tryz.underlying3, sizeOf, typeInfo, zeroValue, hi, hz, hs, hn0, h63', h48', hw, hneg, hbig, asInt, asIntOf, Question.forced, run_firstCells_none, newRow, grownCap, Value.cells]
    intro h
    omega
  · have := grownCap_ge w n 0 51
    simp only [Array.size_append, size_zeroCells]
    simp
    omega
theorem app_zero {ops : Array Oper} {rest : List Oper} {o : Oper} {a : Act} {Q : Exit → Act → World → Prop} {W : World} (hgd : o.guard = none) (s x : Operand)
    (ho : o.op = .call { callee := .builtin .append, args := #[s, x], argTypes := #[22, 3] }) (n : Nat) (h0 : 0 < n) (hn : n ≤ 1000000) (hs : a.eval s = .slice none 0 0) (hx : a.eval x = .int .i64 (n : Int))
    (h : ∀ cap cur, n ≤ cap → cap ≤ maxLen → cur.size = cap * 3 → wpList Tryz.prog ops Q rest (a.put o.dst (.slice (some ⟨W.heap.size, 0, none⟩) n cap)) (W.drew.alloc (.cells cur 51))) : wpList Tryz.prog ops Q (o :: rest) a W := by
  obtain ⟨cap, cur, hrun, h1, h2, h3⟩ := run_grow_zero W o.type n h0 hn
  refine wpList_plain hgd fun K hK => ?_
  unfold Oper.wp execOp
  simp only [ho, resolve, invoke, builtin, Sem.run_bind, Sem.run_pure, Result.andThen_ok, List.map_toArray, List.map_cons, List.map_nil, hs, hx, hrun]
  exact hK _ _ (h cap cur h1 h2 h3)
set_option maxRecDepth 100000 in
set_option maxHeartbeats 400000 in
theorem grow_nil (n : Nat) (w : World) (hn : n ≤ 1000000) :
    Calls Tryz.prog 74 #[.slice none 0 0, .int .i64 (n : Int)] w fun e w' => ∃ v, e = .returned v ∧ w'.ownsRow w.heap.size 51 3 v 0 [] ∧ Below w.heap.size w w' := by
  by_cases h0 : n = 0
  · subst h0
    have h1 : (((0 : Nat) : Int)) = 0 := rfl
    rw [h1]
    clear h1
    go_enter Tryz.func74, Tryz.ntmps74
    go_wp2
    go_ret
    exact ⟨_, rfl, World.ownsRow_nil _ _ _ _, bel⟩
  · have hp : 0 < (n : Int) := by omega
    clear h0
    go_enter Tryz.func74, Tryz.ntmps74
    go_wp2_with (at_builtin; refine app_zero rfl _ _ rfl n (by omega) hn rfl rfl ?_; intro cap cur hc1 hc2 hc3; have H2 := Lib.hid hc2; have H3 := Lib.hid hc3; clear hc2 hc3)
    go_ret
    exact ⟨_, rfl, ⟨by simp, .inr ⟨w.heap.size, cap, cur, rfl, Nat.le_refl _, heap_alloc_new w.drew _, by omega, H2.out, H3.out, by simp⟩⟩, bel⟩

set_option maxRecDepth 100000 in
set_option maxHeartbeats 1000000 in
theorem concat_two (g : Nat) (A : Option Addr) (c : Nat) (l : List Lk) (B : Option Addr) (d : Nat) (m : List Lk) (w : World) (hl : l.length + m.length ≤ 1000000) (hn1 : A = none → l.length = 0 ∧ c = 0) (hn2 : B = none → m.length = 0 ∧ d = 0)
    (h : LksAt w A l) (h' : LksAt w B m) (g0 : w.cell? ⟨g, 0, none⟩ = some (.slice A l.length c)) (g1 : w.cell? ⟨g, 1, none⟩ = some (.slice B m.length d)) :
    Calls Tryz.prog 50 #[.slice (some ⟨g, 0, none⟩) 2 2] w fun e w' => ∃ v, e = .returned v ∧ w'.ownsRow w.heap.size 51 3 v (l ++ m).length (lkcs (l ++ m)) ∧ Below w.heap.size w w' := by
  have H := Lib.hid h
  have H' := Lib.hid h'
  have HN1 := Lib.hid hn1
  have HN2 := Lib.hid hn2
  have hg := World.block_lt_of_cell? w _ g0
  dsimp only at hg
  have HL := Lib.hid hl
  have b1 : (l.length : Int) ≤ 1000000 := by omega
  have b2 : (m.length : Int) ≤ 1000000 := by omega
  clear h h' hn1 hn2 hl
  go_enter Tryz.func50, Tryz.ntmps50
  go_wp2
  go_loopw [3, 5, 11] (fun s _ i wr => wr = w ∧ ((i = .int .i64 0 ∧ s = .int .i64 0) ∨ (i = .int .i64 1 ∧ s = .int .i64 l.length) ∨ (i = .int .i64 2 ∧ s = .int .i64 ((l.length : Int) + m.length)))) (fun _ _ i _ => 2 - (intOf i).toNat)
  case atStart => exact ⟨rfl, .inl ⟨rfl, rfl⟩⟩
  case round =>
    obtain ⟨rfl, ⟨rfl, rfl⟩ | ⟨rfl, rfl⟩ | ⟨rfl, rfl⟩⟩ := hrel
    · go_wp2
      go_roundw
      case rel => exact ⟨trivial, .inr (.inl ⟨rfl, by go_num⟩)⟩
      case measure => simp [intOf]
    · go_wp2
      go_roundw
      case rel => exact ⟨trivial, .inr (.inr ⟨rfl, by go_num⟩)⟩
      case measure => simp [intOf]
    · obtain ⟨w0, rfl⟩ : ∃ w0 : World, w0 = wr := ⟨_, rfl⟩
      have hgr := grow_nil (l.length + m.length) w0 HL.out
      rw [Int.natCast_add] at hgr
      have HGR := Lib.hid hgr
      clear hgr
      go_wp2_with (go_at_call 74; refine HGR.out.mono ?_; rintro e w1 ⟨v, rfl, ho, hb⟩; have HO := Lib.hid (show OwnL w0.heap.size w0 w1 v [] from ⟨ho, hb, hb.size⟩); have HB := Lib.hid hb; clear ho hb)
      have q0 := cell_below HB.out g0
      have q1 := cell_below HB.out g1
      clear HGR
      go_loopw [6, 8, 27] (fun v _ i wx => (i = .int .i64 0 ∧ Hid (OwnL w0.heap.size w0 wx v [])) ∨ (i = .int .i64 1 ∧ Hid (OwnL w0.heap.size w0 wx v l)) ∨ (i = .int .i64 2 ∧ Hid (OwnL w0.heap.size w0 wx v (l ++ m)))) (fun _ _ i _ => 2 - (intOf i).toNat)
      case atStart => exact .inl ⟨rfl, HO⟩
      case round =>
        clear q0 q1
        obtain ⟨rfl, HZ⟩ | ⟨rfl, HZ⟩ | ⟨rfl, HZ⟩ := hrel
        · have q0 := cell_below HZ.out.below g0
          go_wp2_with (at_builtin; refine app_many rfl _ _ 22 51 (.agg #[.int .i64 0, .int .i64 0, .int .i64 0]) 3 24 rfl Tryz.underlying22 info39 rfl (by omega) u6 0 [] (lkcs l) l.length c A rfl rfl HN1.out (lkcs_length l) (lkcs_one l) (H.out.below HZ.out.below).cells w0.heap.size HZ.out.row HZ.out.hB (by omega) (by unfold maxLen; omega) ?_; intro v1 w2 ho hgw _; have HO2 := Lib.hid ho; have HG2 := Lib.hid hgw; clear ho hgw)
          go_roundw
          case rel => exact .inr (.inl ⟨rfl, Lib.hid ⟨by simpa using HO2.out, HZ.out.below.grown HG2.out HZ.out.hB (fun k e => (HZ.out.row.lt k e).1), Nat.le_trans HZ.out.hB HG2.out.size⟩⟩)
          case measure => simp [intOf]
        · have q1 := cell_below HZ.out.below g1
          go_wp2_with (at_builtin; refine app_many rfl _ _ 22 51 (.agg #[.int .i64 0, .int .i64 0, .int .i64 0]) 3 24 rfl Tryz.underlying22 info39 rfl (by omega) u6 l.length (lkcs l) (lkcs m) m.length d B rfl rfl HN2.out (lkcs_length m) (lkcs_one m) (H'.out.below HZ.out.below).cells w0.heap.size HZ.out.row HZ.out.hB (by have := HL.out; omega) (by have := HL.out; unfold maxLen; omega) ?_; intro v1 w2 ho hgw _; have HO2 := Lib.hid ho; have HG2 := Lib.hid hgw; clear ho hgw)
          go_roundw
          case rel => exact .inr (.inr ⟨rfl, Lib.hid ⟨by rw [List.length_append]; simpa [lkcs] using HO2.out, HZ.out.below.grown HG2.out HZ.out.hB (fun k e => (HZ.out.row.lt k e).1), Nat.le_trans HZ.out.hB HG2.out.size⟩⟩)
          case measure => simp [intOf]
        · go_wp2
          go_ret
          exact ⟨_, rfl, HZ.out.row, HZ.out.below⟩

def withI (n : Int) (l m : List Lk) : Int := if checkL n l ≠ 0 then checkL n l else checkL n (l ++ m)
end Go.Proofs.YtmhiiomejopaoaaGreatDoor
