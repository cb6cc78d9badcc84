/- The flow walks: Concat of two, With. -/
import Derived.Test.YtmhiiomejopaoaaG1
namespace Go.Proofs.Ytmhiiomejopaoaa
set_option linter.all false
open Go.RowKit

set_option maxRecDepth 100000 in
set_option maxHeartbeats 1000000 in
theorem concat_two (g : Nat) (A : Option Addr) (c : Nat) (l : List Lk) (B : Option Addr) (d : Nat) (m : List Lk) (w : World) (hl : l.length + m.length ≤ 1000000) (hn1 : A = none → l.length = 0 ∧ c = 0) (hn2 : B = none → m.length = 0 ∧ d = 0)
    (h : LksAt w A l) (h' : LksAt w B m) (g0 : w.cell? ⟨g, 0, none⟩ = some (.slice A l.length c)) (g1 : w.cell? ⟨g, 1, none⟩ = some (.slice B m.length d)) :
    Calls Try.prog 79 #[.slice (some ⟨g, 0, none⟩) 2 2] w fun e w' => ∃ v, e = .returned v ∧ w'.ownsRow w.heap.size 39 3 v (l ++ m).length (lkcs (l ++ m)) ∧ Below w.heap.size w w' := by
  have H := Lib.hid h
  have H' := Lib.hid h'
  have HN1 := Lib.hid hn1
  have HN2 := Lib.hid hn2
  have hg := World.block_lt_of_cell? w _ g0
  dsimp only at hg
  have HL := Lib.hid hl
  have b1 : (l.length : Int) ≤ 1000000 := by omega
  have b2 : (m.length : Int) ≤ 1000000 := by omega
  clear h h' hn1 hn2 hl
  go_enter Try.func79, Try.ntmps79
  go_wp2
  go_loopw [3, 5, 11] (fun s _ i wr => wr = w ∧ ((i = .int .i64 0 ∧ s = .int .i64 0) ∨ (i = .int .i64 1 ∧ s = .int .i64 l.length) ∨ (i = .int .i64 2 ∧ s = .int .i64 ((l.length : Int) + m.length)))) (fun _ _ i _ => 2 - (intOf i).toNat)
  case atStart => exact ⟨rfl, .inl ⟨rfl, rfl⟩⟩
  case round =>
    obtain ⟨rfl, ⟨rfl, rfl⟩ | ⟨rfl, rfl⟩ | ⟨rfl, rfl⟩⟩ := hrel
    · go_wp2
      go_roundw
      case rel => exact ⟨trivial, .inr (.inl ⟨rfl, by go_num⟩)⟩
      case measure => simp [intOf]
    · go_wp2
      go_roundw
      case rel => exact ⟨trivial, .inr (.inr ⟨rfl, by go_num⟩)⟩
      case measure => simp [intOf]
    · obtain ⟨w0, rfl⟩ : ∃ w0 : World, w0 = wr := ⟨_, rfl⟩
      have hgr := grow_nil (l.length + m.length) w0 HL.out
      rw [Int.natCast_add] at hgr
      have HGR := Lib.hid hgr
      clear hgr
      go_wp2_with (go_at_call 108; refine HGR.out.mono ?_; rintro e w1 ⟨v, rfl, ho, hb⟩; have HO := Lib.hid (show OwnL w0.heap.size w0 w1 v [] from ⟨ho, hb, hb.size⟩); have HB := Lib.hid hb; clear ho hb)
      have q0 := cell_below HB.out g0
      have q1 := cell_below HB.out g1
      clear HGR
      go_loopw [6, 8, 27] (fun v _ i wx => (i = .int .i64 0 ∧ Hid (OwnL w0.heap.size w0 wx v [])) ∨ (i = .int .i64 1 ∧ Hid (OwnL w0.heap.size w0 wx v l)) ∨ (i = .int .i64 2 ∧ Hid (OwnL w0.heap.size w0 wx v (l ++ m)))) (fun _ _ i _ => 2 - (intOf i).toNat)
      case atStart => exact .inl ⟨rfl, HO⟩
      case round =>
        clear q0 q1
        obtain ⟨rfl, HZ⟩ | ⟨rfl, HZ⟩ | ⟨rfl, HZ⟩ := hrel
        · have q0 := cell_below HZ.out.below g0
          go_wp2_with (at_builtin; refine app_many rfl _ _ 22 39 (.agg #[.int .i64 0, .int .i64 0, .int .i64 0]) 3 24 rfl Try.underlying22 info39 rfl (by omega) u6 0 [] (lkcs l) l.length c A rfl rfl HN1.out (lkcs_length l) (lkcs_one l) (H.out.below HZ.out.below).cells w0.heap.size HZ.out.row HZ.out.hB (by omega) (by unfold maxLen; omega) ?_; intro v1 w2 ho hgw _; have HO2 := Lib.hid ho; have HG2 := Lib.hid hgw; clear ho hgw)
          go_roundw
          case rel => exact .inr (.inl ⟨rfl, Lib.hid ⟨by simpa using HO2.out, HZ.out.below.grown HG2.out HZ.out.hB (fun k e => (HZ.out.row.lt k e).1), Nat.le_trans HZ.out.hB HG2.out.size⟩⟩)
          case measure => simp [intOf]
        · have q1 := cell_below HZ.out.below g1
          go_wp2_with (at_builtin; refine app_many rfl _ _ 22 39 (.agg #[.int .i64 0, .int .i64 0, .int .i64 0]) 3 24 rfl Try.underlying22 info39 rfl (by omega) u6 l.length (lkcs l) (lkcs m) m.length d B rfl rfl HN2.out (lkcs_length m) (lkcs_one m) (H'.out.below HZ.out.below).cells w0.heap.size HZ.out.row HZ.out.hB (by have := HL.out; omega) (by have := HL.out; unfold maxLen; omega) ?_; intro v1 w2 ho hgw _; have HO2 := Lib.hid ho; have HG2 := Lib.hid hgw; clear ho hgw)
          go_roundw
          case rel => exact .inr (.inr ⟨rfl, Lib.hid ⟨by rw [List.length_append]; simpa [lkcs] using HO2.out, HZ.out.below.grown HG2.out HZ.out.hB (fun k e => (HZ.out.row.lt k e).1), Nat.le_trans HZ.out.hB HG2.out.size⟩⟩)
          case measure => simp [intOf]
        · go_wp2
          go_ret
          exact ⟨_, rfl, HZ.out.row, HZ.out.below⟩

def withI (n : Int) (l m : List Lk) : Int := if checkL n l ≠ 0 then checkL n l else checkL n (l ++ m)
end Go.Proofs.Ytmhiiomejopaoaa
