/- The law FlowTexts: the walk. -/
import Derived.Test.YtmhiiomejopaoaaGreatDoorW9
import Derived.Test.YtmhiiomejopaoaaGreatDoorW5
import Derived.Test.YtmhiiomejopaoaaGreatDoorV1
namespace Go.Proofs.YtmhiiomejopaoaaGreatDoor
set_option linter.all false
set_option maxRecDepth 100000
open Go.RowKit

theorem texts_guard (n : Int) (A : Option Addr) (c : Nat) (l : List Lk) (s : List UInt8) (w : World) (hg : smallB n l.length = false ∨ 1000 < s.length) :
    Calls Tryz.prog 3 #[.agg #[.int .i64 n, .slice A l.length c], .string ⟨s.toArray⟩] w fun e w' => e = .returned (.bool true) ∧ Below w.heap.size w w' := by
  have HSM := Lib.hid (fun W => small_any n A c l.length W)
  cases hs : smallB n l.length
  · rw [hs] at HSM
    clear hg hs
    go_enter Tryz.func3, Tryz.ntmps3
    go_wp2_with (first | (go_at_call 5; refine (HSM.out _).mono ?_; rintro e w1 ⟨rfl, hb⟩; have HB1 := Lib.hid (below_trans (bel : Below w.heap.size w (w.alloc _)) hb); clear hb) | (go_at_call 6; refine (sanity_any _).mono ?_; rintro e w9 ⟨rfl, hb⟩; have HB9 := Lib.hid (below_trans HB1.out hb); clear hb))
    go_ret
    exact ⟨rfl, HB9.out⟩
  · have h1 : 1000 < s.length := hg.resolve_left (by rw [hs]; simp)
    have t : decide ((1000 : Int) < (s.length : Int)) = true := decide_eq_true (by omega)
    rw [hs] at HSM
    clear hg hs
    go_enter Tryz.func3, Tryz.ntmps3
    go_wp2_with (first | (go_at_call 5; refine (HSM.out _).mono ?_; rintro e w1 ⟨rfl, hb⟩; have HB1 := Lib.hid (below_trans (bel : Below w.heap.size w (w.alloc _)) hb); clear hb) | (go_at_call 6; refine (sanity_any _).mono ?_; rintro e w9 ⟨rfl, hb⟩; have HB9 := Lib.hid (below_trans HB1.out hb); clear hb))
    go_ret
    exact ⟨rfl, HB9.out⟩
/-- A box of a net, in a world. -/
theorem net_box {w : World} {p : Nat} {n : Int} {v : Value} (h : w.heap[p]? = some (.cells #[.int .i64 n, v] 24 (0, 0))) : w.cell? ⟨p, 0, none⟩ = some (.int .i64 n) ∧ w.cell? ⟨p, 1, none⟩ = some v ∧ p < w.heap.size := by
  refine ⟨?_, ?_, (Array.getElem?_eq_some_iff.1 h).1⟩
  · rw [cell_of_heap h 0]; rfl
  · rw [cell_of_heap h 1]; rfl
set_option maxHeartbeats 8000000 in
theorem texts_ok (n : Int) (A : Option Addr) (c : Nat) (l : List Lk) (s : List UInt8) (N : Int) (L : List Lk) (f0 : Int) (b0 : Bool) (P : List UInt8) (e0 : Int) (w : World) (h : LksAt w A l) (hs : smallB n l.length = true) (hl : s.length ≤ 1000) (hL : L.length ≤ 1000)
    (hP : ∀ W, Below w.heap.size w W → Calls Tryz.prog 7 #[.agg #[.int .i64 n, .slice A l.length c]] W fun e w' => e = .returned (.tuple #[.string ⟨P.toArray⟩, .int .i64 0]) ∧ Below W.heap.size W w')
    (hQ : ∀ W, Below w.heap.size w W → Calls Tryz.prog 8 #[.string ⟨s.toArray⟩] W fun e w' => ∃ A1 c1, e = .returned (.tuple #[.agg #[.int .i64 N, .slice A1 L.length c1], .int .i64 f0]) ∧ LksAt w' A1 L ∧ (A1 = none → L.length = 0 ∧ c1 = 0) ∧ Below W.heap.size W w')
    (hR : ∀ W, Calls Tryz.prog 9 #[.string ⟨s.toArray⟩] W fun e w' => ∃ A1 c1, e = .returned (.tuple #[.agg #[.int .i64 N, .slice A1 L.length c1], .bool b0]) ∧ LksAt w' A1 L ∧ (A1 = none → L.length = 0 ∧ c1 = 0) ∧ Below W.heap.size W w')
    (hC : ∀ W, Below w.heap.size w W → Calls Tryz.prog 11 #[.agg #[.int .i64 n, .slice A l.length c]] W fun e w' => e = .returned (.int .i64 0) ∧ Below W.heap.size W w')
    (hS : ∀ W, Below w.heap.size w W → Calls Tryz.prog 12 #[.agg #[.int .i64 n, .slice A l.length c]] W fun e w' => e = .returned (.string ⟨P.toArray⟩) ∧ Below W.heap.size W w')
    (hfb : (b0 = true ∧ f0 = 0) ∨ (b0 = false ∧ f0 = 7)) :
    Calls Tryz.prog 3 #[.agg #[.int .i64 n, .slice A l.length c], .string ⟨s.toArray⟩] w fun e w' => e = .returned (.bool true) ∧ Below w.heap.size w w' := by
  have HSM := Lib.hid (fun W => small_any n A c l.length W)
  rw [hs] at HSM
  have HP := Lib.hid hP
  have HQ := Lib.hid hQ
  have HR := Lib.hid hR
  have HC := Lib.hid hC
  have HS := Lib.hid hS
  have t : decide ((1000 : Int) < (s.length : Int)) = false := decide_eq_false (by omega)
  have HSAME := Lib.hid (show sameR N L N L = true by simp [sameR])
  have HLL := Lib.hid hL
  clear hP hQ hR hC hs hl h hL hS
  rcases hfb with ⟨rfl, rfl⟩ | ⟨rfl, rfl⟩
  all_goals
    go_enter Tryz.func3, Tryz.ntmps3
    go_wp2_with (first
      | (go_at_call 5; refine (HSM.out _).mono ?_; rintro e w1 ⟨rfl, hb⟩; have HB1 := Lib.hid (below_trans (bel : Below w.heap.size w (w.alloc _)) hb); have HX1 := Lib.hid (lift0 hb (heap_new w _)); obtain ⟨c0, c1, lc⟩ := net_box HX1.out; clear hb HSM)
      | (go_at_call 7; refine (HP.out _ HB1.out).mono ?_; rintro e w2 ⟨rfl, hb⟩; have HB2 := Lib.hid (below_trans HB1.out hb); have HX2 := Lib.hid (lift0 hb HX1.out); clear hb HP)
      | (go_at_call 8; refine (HQ.out _ HB2.out).mono ?_; rintro e w3 ⟨A1, c1', rfl, hlk, _, hb⟩; have HB3 := Lib.hid (below_trans HB2.out hb); have HX3 := Lib.hid (lift0 hb HX2.out); have HL3 := Lib.hid hlk; clear hb hlk HQ)
      | (go_at_call 9; refine (HR.out _).mono ?_; rintro e w4 ⟨A2, c2', rfl, hlk, _, hb⟩; have HB4 := Lib.hid (below_trans (HB3.out.alloc HB3.out.size _) hb); have HX4 := Lib.hid (lift0 hb (old_box _ HX3.out)); have HY4 := Lib.hid (lift0 hb (heap_new w3 _)); have HL4 := Lib.hid hlk; have HL34 := Lib.hid ((HL3.out.alloc _).below hb); obtain ⟨a0, a1, la⟩ := net_box HY4.out; clear hb hlk HR)
      | (go_at_call 10; refine (rsame_any N N A1 c1' L A2 c2' L _ (by have := HLL.out; omega) (HL34.out.alloc _) (HL4.out.alloc _)).mono ?_; rw [HSAME.out]; rintro e w5 ⟨rfl, hb⟩; have HB5 := Lib.hid (below_trans (HB4.out.alloc HB4.out.size _) hb); have HX5 := Lib.hid (lift0 hb (old_box _ HX4.out)); obtain ⟨k0, k1, lk⟩ := net_box HX5.out; clear hb)
      | (go_at_call 11; refine (HC.out _ HB5.out).mono ?_; rintro e w6 ⟨rfl, hb⟩; have HB6 := Lib.hid (below_trans HB5.out hb); have HX6 := Lib.hid (lift0 hb HX5.out); clear hb HC)
      | (go_at_call 6; refine (sanity_any _).mono ?_; rintro e w7 ⟨rfl, hb⟩; have HB7 := Lib.hid (below_trans HB6.out hb); have HX7 := Lib.hid (lift0 hb HX6.out); obtain ⟨m0, m1, lm⟩ := net_box HX7.out; clear hb)
      | (go_at_call 12; refine (HS.out _ HB7.out).mono ?_; rintro e w8 ⟨rfl, hb⟩; have HB8 := Lib.hid (below_trans HB7.out hb); clear hb HS))
    go_ret
    exact ⟨by first | rfl | simp, HB8.out⟩
set_option maxHeartbeats 8000000 in
theorem texts_bad (n : Int) (A : Option Addr) (c : Nat) (l : List Lk) (s : List UInt8) (N : Int) (L : List Lk) (f0 : Int) (b0 : Bool) (P : List UInt8) (e0 : Int) (w : World) (h : LksAt w A l) (hs : smallB n l.length = true) (hl : s.length ≤ 1000) (hL : L.length ≤ 1000)
    (hP : ∀ W, Below w.heap.size w W → Calls Tryz.prog 7 #[.agg #[.int .i64 n, .slice A l.length c]] W fun e w' => e = .returned (.tuple #[.string ⟨#[]⟩, .int .i64 e0]) ∧ Below W.heap.size W w')
    (hQ : ∀ W, Below w.heap.size w W → Calls Tryz.prog 8 #[.string ⟨s.toArray⟩] W fun e w' => ∃ A1 c1, e = .returned (.tuple #[.agg #[.int .i64 N, .slice A1 L.length c1], .int .i64 f0]) ∧ LksAt w' A1 L ∧ (A1 = none → L.length = 0 ∧ c1 = 0) ∧ Below W.heap.size W w')
    (hR : ∀ W, Calls Tryz.prog 9 #[.string ⟨s.toArray⟩] W fun e w' => ∃ A1 c1, e = .returned (.tuple #[.agg #[.int .i64 N, .slice A1 L.length c1], .bool b0]) ∧ LksAt w' A1 L ∧ (A1 = none → L.length = 0 ∧ c1 = 0) ∧ Below W.heap.size W w')
    (hC : ∀ W, Below w.heap.size w W → Calls Tryz.prog 11 #[.agg #[.int .i64 n, .slice A l.length c]] W fun e w' => e = .returned (.int .i64 e0) ∧ Below W.heap.size W w')
    (he : e0 ≠ 0)
    (hfb : (b0 = true ∧ f0 = 0) ∨ (b0 = false ∧ f0 = 7)) :
    Calls Tryz.prog 3 #[.agg #[.int .i64 n, .slice A l.length c], .string ⟨s.toArray⟩] w fun e w' => e = .returned (.bool true) ∧ Below w.heap.size w w' := by
  have HSM := Lib.hid (fun W => small_any n A c l.length W)
  rw [hs] at HSM
  have HP := Lib.hid hP
  have HQ := Lib.hid hQ
  have HR := Lib.hid hR
  have HC := Lib.hid hC
  have t : decide ((1000 : Int) < (s.length : Int)) = false := decide_eq_false (by omega)
  have HSAME := Lib.hid (show sameR N L N L = true by simp [sameR])
  have HLL := Lib.hid hL
  have t2 : (e0 != 0) = true := by rw [bne_iff_ne]; exact he
  clear hP hQ hR hC hs hl h hL he
  rcases hfb with ⟨rfl, rfl⟩ | ⟨rfl, rfl⟩
  all_goals
    go_enter Tryz.func3, Tryz.ntmps3
    go_wp2_with (first
      | (go_at_call 5; refine (HSM.out _).mono ?_; rintro e w1 ⟨rfl, hb⟩; have HB1 := Lib.hid (below_trans (bel : Below w.heap.size w (w.alloc _)) hb); have HX1 := Lib.hid (lift0 hb (heap_new w _)); obtain ⟨c0, c1, lc⟩ := net_box HX1.out; clear hb HSM)
      | (go_at_call 7; refine (HP.out _ HB1.out).mono ?_; rintro e w2 ⟨rfl, hb⟩; have HB2 := Lib.hid (below_trans HB1.out hb); have HX2 := Lib.hid (lift0 hb HX1.out); clear hb HP)
      | (go_at_call 8; refine (HQ.out _ HB2.out).mono ?_; rintro e w3 ⟨A1, c1', rfl, hlk, _, hb⟩; have HB3 := Lib.hid (below_trans HB2.out hb); have HX3 := Lib.hid (lift0 hb HX2.out); have HL3 := Lib.hid hlk; clear hb hlk HQ)
      | (go_at_call 9; refine (HR.out _).mono ?_; rintro e w4 ⟨A2, c2', rfl, hlk, _, hb⟩; have HB4 := Lib.hid (below_trans (HB3.out.alloc HB3.out.size _) hb); have HX4 := Lib.hid (lift0 hb (old_box _ HX3.out)); have HY4 := Lib.hid (lift0 hb (heap_new w3 _)); have HL4 := Lib.hid hlk; have HL34 := Lib.hid ((HL3.out.alloc _).below hb); obtain ⟨a0, a1, la⟩ := net_box HY4.out; clear hb hlk HR)
      | (go_at_call 10; refine (rsame_any N N A1 c1' L A2 c2' L _ (by have := HLL.out; omega) (HL34.out.alloc _) (HL4.out.alloc _)).mono ?_; rw [HSAME.out]; rintro e w5 ⟨rfl, hb⟩; have HB5 := Lib.hid (below_trans (HB4.out.alloc HB4.out.size _) hb); have HX5 := Lib.hid (lift0 hb (old_box _ HX4.out)); obtain ⟨k0, k1, lk⟩ := net_box HX5.out; clear hb)
      | (go_at_call 11; refine (HC.out _ HB5.out).mono ?_; rintro e w6 ⟨rfl, hb⟩; have HB6 := Lib.hid (below_trans HB5.out hb); have HX6 := Lib.hid (lift0 hb HX5.out); clear hb HC)
      | (go_at_call 6; refine (sanity_any _).mono ?_; rintro e w7 ⟨rfl, hb⟩; have HB7 := Lib.hid (below_trans HB6.out hb); have HX7 := Lib.hid (lift0 hb HX6.out); obtain ⟨m0, m1, lm⟩ := net_box HX7.out; clear hb))
    go_ret
    exact ⟨by first | rfl | simp, HB7.out⟩
theorem texts_walk (n : Int) (A : Option Addr) (c : Nat) (l : List Lk) (s : List UInt8) (w : World) (h : LksAt w A l) (_ : A = none → l.length = 0 ∧ c = 0) (hl : l.length ≤ 9223372036854775807) (hT : Tab w) (hV : Vars w) :
    Calls Tryz.prog 3 #[.agg #[.int .i64 n, .slice A l.length c], .string ⟨s.toArray⟩] w fun e w' => e = .returned (.bool true) ∧ Below w.heap.size w w' := by
  by_cases hg : smallB n l.length = false ∨ 1000 < s.length
  · exact texts_guard n A c l s w hg
  · have hs : smallB n l.length = true := by cases hh : smallB n l.length with
      | true => rfl
      | false => exact absurd (.inl hh) hg
    have hsl : s.length ≤ 1000 := by
      by_cases h : 1000 < s.length
      · exact absurd (.inr h) hg
      · omega
    obtain ⟨r, hr⟩ := reads_ex s
    have hQ := fun W (hb : Below w.heap.size w W) => Parse_any s r W (by omega) hr (hT.below hb) (hV.below hb)
    have hR := fun W => rParse_any s r W (by omega) hr
    have hC := fun W (hb : Below w.heap.size w W) => rcheck_any n A c l W hl (h.below hb)
    have hfb : (r.isSome = true ∧ errP r = 0) ∨ (r.isSome = false ∧ errP r = 7) := by cases r <;> simp [errP]
    have hL : (netL r).length ≤ 1000 := by
      cases r with
      | none => simp [netL]
      | some z =>
        have := (hr.1 z.1 z.2 rfl).1.l1
        show z.2.length ≤ 1000
        omega
    by_cases hck : checkL n l = 0
    · have hok := check_ok hck
      rw [hck] at hC
      exact texts_ok n A c l s _ _ _ _ (printL n l) 0 w h hs hsl hL (fun W hb => Print_good n A c l W (h.below hb) hok (hT.below hb)) hQ hR hC (fun W hb => rPrint_good n A c l W (h.below hb) hok) hfb
    · exact texts_bad n A c l s _ _ _ _ [] (checkL n l) w h hs hsl hL (fun W hb => Print_bad n A c l W hl (h.below hb) hck) hQ hR hC hck hfb
end Go.Proofs.YtmhiiomejopaoaaGreatDoor
