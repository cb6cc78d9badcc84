/- The law FlowOrder: the walk. -/
import Derived.Test.YtmhiiomejopaoaaGreatDoorWC
import Derived.Deep.RegionHeld3
import Derived.Deep.DeepCutAuto
import Derived.Deep.RegionWith
namespace Go.Proofs.YtmhiiomejopaoaaGreatDoor
set_option linter.all false
set_option maxRecDepth 100000
open Go.RowKit

theorem ord_guard (n : Int) (A : Option Addr) (c : Nat) (l : List Lk) (B : Option Addr) (d : Nat) (v : List Int) (s t u : Int) (z : List UInt8) (w : World) (hg : smallB n l.length = false ∨ 60 < v.length ∨ 1000 < z.length) :
    Calls Tryz.prog 4 #[.agg #[.int .i64 n, .slice A l.length c], .slice B v.length d, .int .i64 s, .int .i64 t, .int .u8 u, .string ⟨z.toArray⟩] w fun e w' => e = .returned (.bool true) ∧ Below w.heap.size w w' := by
  have HSM := Lib.hid (fun W => small_any n A c l.length W)
  cases hs : smallB n l.length
  · rw [hs] at HSM
    clear hg hs
    go_enter Tryz.func4, Tryz.ntmps4
    go_wp2_with (first | (go_at_call 5; refine (HSM.out _).mono ?_; rintro e w1 ⟨rfl, hb⟩; have HB1 := Lib.hid (below_trans (bel : Below w.heap.size w (w.alloc _)) hb); have HX1 := Lib.hid (lift0 hb (heap_new w _)); obtain ⟨c0, c1, lc⟩ := net_box HX1.out; clear hb HSM) | (go_at_call 6; refine (sanity_any _).mono ?_; rintro e w99 ⟨rfl, hb⟩; have HB99 := Lib.hid (below_trans HB1.out hb); clear hb))
    go_ret
    exact ⟨rfl, HB99.out⟩
  · rw [hs] at HSM
    by_cases h1 : 60 < v.length
    · have t1 : decide ((60 : Int) < (v.length : Int)) = true := decide_eq_true (by omega)
      clear hg hs
      go_enter Tryz.func4, Tryz.ntmps4
      go_wp2_with (first | (go_at_call 5; refine (HSM.out _).mono ?_; rintro e w1 ⟨rfl, hb⟩; have HB1 := Lib.hid (below_trans (bel : Below w.heap.size w (w.alloc _)) hb); have HX1 := Lib.hid (lift0 hb (heap_new w _)); obtain ⟨c0, c1, lc⟩ := net_box HX1.out; clear hb HSM) | (go_at_call 6; refine (sanity_any _).mono ?_; rintro e w99 ⟨rfl, hb⟩; have HB99 := Lib.hid (below_trans HB1.out hb); clear hb))
      go_ret
      exact ⟨rfl, HB99.out⟩
    · have h2 : 1000 < z.length := by
        rcases hg with h | h | h
        · rw [hs] at h; cases h
        · exact absurd h h1
        · exact h
      have t1 : decide ((60 : Int) < (v.length : Int)) = false := decide_eq_false (by omega)
      have t2 : decide ((1000 : Int) < (z.length : Int)) = true := decide_eq_true (by omega)
      clear hg hs
      go_enter Tryz.func4, Tryz.ntmps4
      go_wp2_with (first | (go_at_call 5; refine (HSM.out _).mono ?_; rintro e w1 ⟨rfl, hb⟩; have HB1 := Lib.hid (below_trans (bel : Below w.heap.size w (w.alloc _)) hb); have HX1 := Lib.hid (lift0 hb (heap_new w _)); obtain ⟨c0, c1, lc⟩ := net_box HX1.out; clear hb HSM) | (go_at_call 6; refine (sanity_any _).mono ?_; rintro e w99 ⟨rfl, hb⟩; have HB99 := Lib.hid (below_trans HB1.out hb); clear hb))
      go_ret
      exact ⟨rfl, HB99.out⟩
set_option maxHeartbeats 8000000 in
theorem ord_bad (n : Int) (A : Option Addr) (c : Nat) (l : List Lk) (B : Option Addr) (d : Nat) (v : List Int) (s t u : Int) (z : List UInt8) (w : World) (e0 : Int) (N : Int) (L : List Lk) (f0 : Int)
    (hQ : ∀ W, Below w.heap.size w W → Calls Tryz.prog 8 #[.string ⟨z.toArray⟩] W fun e w' => ∃ A1 c1, e = .returned (.tuple #[.agg #[.int .i64 N, .slice A1 L.length c1], .int .i64 f0]) ∧ LksAt w' A1 L ∧ (A1 = none → L.length = 0 ∧ c1 = 0) ∧ Below W.heap.size W w')
    (hfb : f0 = 7 ∨ (f0 = 0 ∧ ∀ A1 c1 W, LksAt W A1 L → Below w.heap.size w W → Calls Tryz.prog 7 #[.agg #[.int .i64 N, .slice A1 L.length c1]] W fun e w' => e = .returned (.tuple #[.string ⟨z.toArray⟩, .int .i64 0]) ∧ Below W.heap.size W w')) (hs : smallB n l.length = true) (hvl : v.length ≤ 60) (hzl : z.length ≤ 1000)
    (hP : ∀ W, Below w.heap.size w W → Calls Tryz.prog 7 #[.agg #[.int .i64 n, .slice A l.length c]] W fun e w' => e = .returned (.tuple #[.string ⟨#[]⟩, .int .i64 e0]) ∧ Below W.heap.size W w') (he : e0 ≠ 0) :
    Calls Tryz.prog 4 #[.agg #[.int .i64 n, .slice A l.length c], .slice B v.length d, .int .i64 s, .int .i64 t, .int .u8 u, .string ⟨z.toArray⟩] w fun e w' => e = .returned (.bool true) ∧ Below w.heap.size w w' := by
  have HSM := Lib.hid (fun W => small_any n A c l.length W)
  rw [hs] at HSM
  have HP := Lib.hid hP
  have HQ := Lib.hid hQ
  have t1 : decide ((60 : Int) < (v.length : Int)) = false := decide_eq_false (by omega)
  have t2 : decide ((1000 : Int) < (z.length : Int)) = false := decide_eq_false (by omega)
  have t3 : (e0 == 0) = false := by rw [beq_eq_false_iff_ne]; exact he
  have t4 : (e0 != 0) = true := by rw [bne_iff_ne]; exact he
  clear hP hQ hs hvl hzl he
  rcases hfb with rfl | ⟨rfl, hpx⟩
  · go_enter Tryz.func4, Tryz.ntmps4
    go_wp2_with (first | (go_at_call 5; refine (HSM.out _).mono ?_; rintro e w1 ⟨rfl, hb⟩; have HB1 := Lib.hid (below_trans (bel : Below w.heap.size w (w.alloc _)) hb); have HX1 := Lib.hid (lift0 hb (heap_new w _)); obtain ⟨c0, c1, lc⟩ := net_box HX1.out; clear hb HSM) | (go_at_call 7; refine (HP.out _ HB1.out).mono ?_; rintro e w2 ⟨rfl, hb⟩; have HB2 := Lib.hid (below_trans HB1.out hb); have HX2 := Lib.hid (lift0 hb HX1.out); obtain ⟨c02, c12, lc2⟩ := net_box HX2.out; clear hb HP) | (go_at_call 8; refine (HQ.out _ HB2.out).mono ?_; rintro e w3 ⟨A3, c3', rfl, hlk, _, hb⟩; have HB3 := Lib.hid (below_trans HB2.out hb); have HX3 := Lib.hid (lift0 hb HX2.out); obtain ⟨c03, c13, lc3⟩ := net_box HX3.out; have HL3 := Lib.hid hlk; have HBA3 := Lib.hid (HB3.out.alloc HB3.out.size (.cells #[.int .i64 N, .slice A3 L.length c3'] 24)); have HXA3 := Lib.hid (old_box (.cells #[.int .i64 N, .slice A3 L.length c3'] 24) HX3.out); clear hb hlk HQ) | (go_at_call 6; refine (sanity_any _).mono ?_; rintro e w99 ⟨rfl, hb⟩; have HB99 := Lib.hid (below_trans HBA3.out hb); clear hb))
    go_ret
    exact ⟨rfl, HB99.out⟩
  · go_enter Tryz.func4, Tryz.ntmps4
    go_wp2_with (first | (go_at_call 5; refine (HSM.out _).mono ?_; rintro e w1 ⟨rfl, hb⟩; have HB1 := Lib.hid (below_trans (bel : Below w.heap.size w (w.alloc _)) hb); have HX1 := Lib.hid (lift0 hb (heap_new w _)); obtain ⟨c0, c1, lc⟩ := net_box HX1.out; clear hb HSM) | (go_at_call 7; refine (HP.out _ HB1.out).mono ?_; rintro e w2 ⟨rfl, hb⟩; have HB2 := Lib.hid (below_trans HB1.out hb); have HX2 := Lib.hid (lift0 hb HX1.out); obtain ⟨c02, c12, lc2⟩ := net_box HX2.out; clear hb HP) | (go_at_call 8; refine (HQ.out _ HB2.out).mono ?_; rintro e w3 ⟨A3, c3', rfl, hlk, _, hb⟩; have HB3 := Lib.hid (below_trans HB2.out hb); have HX3 := Lib.hid (lift0 hb HX2.out); obtain ⟨c03, c13, lc3⟩ := net_box HX3.out; have HL3 := Lib.hid hlk; have HBA3 := Lib.hid (HB3.out.alloc HB3.out.size (.cells #[.int .i64 N, .slice A3 L.length c3'] 24)); have HXA3 := Lib.hid (old_box (.cells #[.int .i64 N, .slice A3 L.length c3'] 24) HX3.out); clear hb hlk HQ) | (go_at_call 7; refine (hpx A3 c3' _ (HL3.out.alloc _) HBA3.out).mono ?_; rintro e w4 ⟨rfl, hb⟩; have HB4 := Lib.hid (below_trans HBA3.out hb); have HX4 := Lib.hid (lift0 hb HXA3.out); obtain ⟨c04, c14, lc4⟩ := net_box HX4.out; clear hb) | (go_at_call 6; refine (sanity_any _).mono ?_; rintro e w99 ⟨rfl, hb⟩; have HB99 := Lib.hid (below_trans HB4.out hb); clear hb))
    go_ret
    exact ⟨rfl, HB99.out⟩
set_option maxHeartbeats 8000000 in
theorem ord_empty (n : Int) (A : Option Addr) (c : Nat) (l : List Lk) (B : Option Addr) (d : Nat) (v : List Int) (s t u : Int) (z : List UInt8) (w : World) (N : Int) (L : List Lk) (f0 : Int)
    (hQ : ∀ W, Below w.heap.size w W → Calls Tryz.prog 8 #[.string ⟨z.toArray⟩] W fun e w' => ∃ A1 c1, e = .returned (.tuple #[.agg #[.int .i64 N, .slice A1 L.length c1], .int .i64 f0]) ∧ LksAt w' A1 L ∧ (A1 = none → L.length = 0 ∧ c1 = 0) ∧ Below W.heap.size W w')
    (hfb : f0 = 7 ∨ (f0 = 0 ∧ ∀ A1 c1 W, LksAt W A1 L → Below w.heap.size w W → Calls Tryz.prog 7 #[.agg #[.int .i64 N, .slice A1 L.length c1]] W fun e w' => e = .returned (.tuple #[.string ⟨z.toArray⟩, .int .i64 0]) ∧ Below W.heap.size W w')) (hs : smallB n l.length = true) (hvl : v.length ≤ 60) (hzl : z.length ≤ 1000) (hok : NetOk n l) (h : LksAt w A l) (hT : Tab w) (hV : Vars w) (hl0 : l = []) :
    Calls Tryz.prog 4 #[.agg #[.int .i64 n, .slice A l.length c], .slice B v.length d, .int .i64 s, .int .i64 t, .int .u8 u, .string ⟨z.toArray⟩] w fun e w' => e = .returned (.bool true) ∧ Below w.heap.size w w' := by
  have HSM := Lib.hid (fun W => small_any n A c l.length W)
  rw [hs] at HSM
  have HP := Lib.hid (fun W (hb : Below w.heap.size w W) => Print_good n A c l W (h.below hb) hok (hT.below hb))
  have HQ0 := Lib.hid (fun W (hb : Below w.heap.size w W) => Parse_any (printL n l) (some (n, l)) W (print_len hok) (reads_print hok) (hT.below hb) (hV.below hb))
  unfold netN netL errP at HQ0
  simp only [Option.getD_some, Option.isSome_some, if_true] at HQ0
  have HQ := Lib.hid hQ
  have HSAME := Lib.hid (show sameR n l n l = true by simp [sameR])
  have HH := Lib.hid h
  have hl1 := hok.l1
  generalize printL n l = z0 at *
  have t1 : decide ((60 : Int) < (v.length : Int)) = false := decide_eq_false (by omega)
  have t2 : decide ((1000 : Int) < (z.length : Int)) = false := decide_eq_false (by omega)
  clear hQ h hs hvl hzl hok hT hV
  subst hl0
  simp only [List.length_nil] at *
  rcases hfb with rfl | ⟨rfl, hpx⟩
  · go_enter Tryz.func4, Tryz.ntmps4
    go_wp2_with (first | (go_at_call 5; refine (HSM.out _).mono ?_; rintro e w1 ⟨rfl, hb⟩; have HB1 := Lib.hid (below_trans (bel : Below w.heap.size w (w.alloc _)) hb); have HX1 := Lib.hid (lift0 hb (heap_new w _)); obtain ⟨c0, c1, lc⟩ := net_box HX1.out; clear hb HSM) | (go_at_call 7; refine (HP.out _ HB1.out).mono ?_; rintro e w2 ⟨rfl, hb⟩; have HB2 := Lib.hid (below_trans HB1.out hb); have HX2 := Lib.hid (lift0 hb HX1.out); obtain ⟨c02, c12, lc2⟩ := net_box HX2.out; clear hb HP) | (go_at_call 8; refine (HQ0.out _ HB2.out).mono ?_; rintro e w3 ⟨A3, c3', rfl, hlk, _, hb⟩; have HB3 := Lib.hid (below_trans HB2.out hb); have HX3 := Lib.hid (lift0 hb HX2.out); obtain ⟨c03, c13, lc3⟩ := net_box HX3.out; have HL3 := Lib.hid hlk; have HBA3 := Lib.hid (HB3.out.alloc HB3.out.size (.cells #[.int .i64 n, .slice A3 0 c3'] 24)); have HXA3 := Lib.hid (old_box (.cells #[.int .i64 n, .slice A3 0 c3'] 24) HX3.out); obtain ⟨c0a3, c1a3, lca3⟩ := net_box HXA3.out; clear hb hlk HQ0) | (go_at_call 10; refine (rsame_any n n A3 c3' [] _ c [] _ (by simp) (HL3.out.alloc _) (HH.out.below HBA3.out)).mono ?_; rw [HSAME.out]; rintro e w4 ⟨rfl, hb⟩; have HB4 := Lib.hid (below_trans HBA3.out hb); have HX4 := Lib.hid (lift0 hb HXA3.out); obtain ⟨c04, c14, lc4⟩ := net_box HX4.out; clear hb HSAME) | (go_at_call 8; refine (HQ.out _ HB4.out).mono ?_; rintro e w5 ⟨A5, c5', rfl, hlk, _, hb⟩; have HB5 := Lib.hid (below_trans HB4.out hb); have HX5 := Lib.hid (lift0 hb HX4.out); obtain ⟨c05, c15, lc5⟩ := net_box HX5.out; have HL5 := Lib.hid hlk; have HBA5 := Lib.hid (HB5.out.alloc HB5.out.size (.cells #[.int .i64 N, .slice A5 L.length c5'] 24)); have HXA5 := Lib.hid (old_box (.cells #[.int .i64 N, .slice A5 L.length c5'] 24) HX5.out); clear hb hlk HQ) | (go_at_call 6; refine (sanity_any _).mono ?_; rintro e w99 ⟨rfl, hb⟩; have HB99 := Lib.hid (below_trans HBA5.out hb); clear hb))
    go_ret
    exact ⟨rfl, HB99.out⟩
  · go_enter Tryz.func4, Tryz.ntmps4
    go_wp2_with (first | (go_at_call 5; refine (HSM.out _).mono ?_; rintro e w1 ⟨rfl, hb⟩; have HB1 := Lib.hid (below_trans (bel : Below w.heap.size w (w.alloc _)) hb); have HX1 := Lib.hid (lift0 hb (heap_new w _)); obtain ⟨c0, c1, lc⟩ := net_box HX1.out; clear hb HSM) | (go_at_call 7; refine (HP.out _ HB1.out).mono ?_; rintro e w2 ⟨rfl, hb⟩; have HB2 := Lib.hid (below_trans HB1.out hb); have HX2 := Lib.hid (lift0 hb HX1.out); obtain ⟨c02, c12, lc2⟩ := net_box HX2.out; clear hb HP) | (go_at_call 8; refine (HQ0.out _ HB2.out).mono ?_; rintro e w3 ⟨A3, c3', rfl, hlk, _, hb⟩; have HB3 := Lib.hid (below_trans HB2.out hb); have HX3 := Lib.hid (lift0 hb HX2.out); obtain ⟨c03, c13, lc3⟩ := net_box HX3.out; have HL3 := Lib.hid hlk; have HBA3 := Lib.hid (HB3.out.alloc HB3.out.size (.cells #[.int .i64 n, .slice A3 0 c3'] 24)); have HXA3 := Lib.hid (old_box (.cells #[.int .i64 n, .slice A3 0 c3'] 24) HX3.out); obtain ⟨c0a3, c1a3, lca3⟩ := net_box HXA3.out; clear hb hlk HQ0) | (go_at_call 10; refine (rsame_any n n A3 c3' [] _ c [] _ (by simp) (HL3.out.alloc _) (HH.out.below HBA3.out)).mono ?_; rw [HSAME.out]; rintro e w4 ⟨rfl, hb⟩; have HB4 := Lib.hid (below_trans HBA3.out hb); have HX4 := Lib.hid (lift0 hb HXA3.out); obtain ⟨c04, c14, lc4⟩ := net_box HX4.out; clear hb HSAME) | (go_at_call 8; refine (HQ.out _ HB4.out).mono ?_; rintro e w5 ⟨A5, c5', rfl, hlk, _, hb⟩; have HB5 := Lib.hid (below_trans HB4.out hb); have HX5 := Lib.hid (lift0 hb HX4.out); obtain ⟨c05, c15, lc5⟩ := net_box HX5.out; have HL5 := Lib.hid hlk; have HBA5 := Lib.hid (HB5.out.alloc HB5.out.size (.cells #[.int .i64 N, .slice A5 L.length c5'] 24)); have HXA5 := Lib.hid (old_box (.cells #[.int .i64 N, .slice A5 L.length c5'] 24) HX5.out); clear hb hlk HQ) | (go_at_call 7; refine (hpx A5 c5' _ (HL5.out.alloc _) HBA5.out).mono ?_; rintro e w6 ⟨rfl, hb⟩; have HB6 := Lib.hid (below_trans HBA5.out hb); have HX6 := Lib.hid (lift0 hb HXA5.out); obtain ⟨c06, c16, lc6⟩ := net_box HX6.out; clear hb) | (go_at_call 6; refine (sanity_any _).mono ?_; rintro e w99 ⟨rfl, hb⟩; have HB99 := Lib.hid (below_trans HB6.out hb); clear hb))
    go_ret
    exact ⟨rfl, HB99.out⟩
set_option maxHeartbeats 16000000 in
theorem ord_main (n : Int) (A : Option Addr) (c : Nat) (l : List Lk) (B : Option Addr) (d : Nat) (v : List Int) (s t u : Int) (z : List UInt8) (w : World) (N : Int) (L : List Lk) (f0 : Int)
    (hQ : ∀ W, Below w.heap.size w W → Calls Tryz.prog 8 #[.string ⟨z.toArray⟩] W fun e w' => ∃ A1 c1, e = .returned (.tuple #[.agg #[.int .i64 N, .slice A1 L.length c1], .int .i64 f0]) ∧ LksAt w' A1 L ∧ (A1 = none → L.length = 0 ∧ c1 = 0) ∧ Below W.heap.size W w')
    (hfb : f0 = 7 ∨ (f0 = 0 ∧ ∀ A1 c1 W, LksAt W A1 L → Below w.heap.size w W → Calls Tryz.prog 7 #[.agg #[.int .i64 N, .slice A1 L.length c1]] W fun e w' => e = .returned (.tuple #[.string ⟨z.toArray⟩, .int .i64 0]) ∧ Below W.heap.size W w')) (hs : smallB n l.length = true) (hvl : v.length ≤ 60) (hzl : z.length ≤ 1000) (hok : NetOk n l) (h : LksAt w A l) (hT : Tab w) (hV : Vars w) (hne : 0 < l.length) (hl36 : l.length ≤ 36) (hn12 : n ≤ 12) (hcap : l.length ≤ c) (hv : IntsAt w B v) (hu : 0 ≤ u ∧ u ≤ 255) :
    Calls Tryz.prog 4 #[.agg #[.int .i64 n, .slice A l.length c], .slice B v.length d, .int .i64 s, .int .i64 t, .int .u8 u, .string ⟨z.toArray⟩] w fun e w' => e = .returned (.bool true) ∧ Below w.heap.size w w' := by
  have HSM := Lib.hid (fun W => small_any n A c l.length W)
  rw [hs] at HSM
  have HP := Lib.hid (fun W (hb : Below w.heap.size w W) => Print_good n A c l W (h.below hb) hok (hT.below hb))
  have HQ0 := Lib.hid (fun W (hb : Below w.heap.size w W) => Parse_any (printL n l) (some (n, l)) W (print_len hok) (reads_print hok) (hT.below hb) (hV.below hb))
  unfold netN netL errP at HQ0
  simp only [Option.getD_some, Option.isSome_some, if_true] at HQ0
  have HQ := Lib.hid hQ
  have HSAME := Lib.hid (show sameR n l n l = true by simp [sameR])
  have HH := Lib.hid h
  have hl1 := hok.l1
  generalize printL n l = z0 at *
  have t1 : decide ((60 : Int) < (v.length : Int)) = false := decide_eq_false (by omega)
  have t2 : decide ((1000 : Int) < (z.length : Int)) = false := decide_eq_false (by omega)
  obtain ⟨i, hi, hki⟩ : ∃ i : Nat, i < l.length ∧ Int.tmod u (l.length : Int) = (i : Int) := by
    refine ⟨(Int.tmod u (l.length : Int)).toNat, ?_, ?_⟩
    · have := Int.tmod_lt_of_pos u (show (0 : Int) < l.length by omega)
      have := Int.tmod_nonneg (l.length : Int) hu.1
      omega
    · have := Int.tmod_nonneg (l.length : Int) hu.1
      omega
  have HIL := Lib.hid hi
  have hsame := rot_same l i
  obtain ⟨N0, rfl⟩ : ∃ N0 : Nat, n = N0 := ⟨n.toNat, by have := hok.n1; omega⟩
  obtain ⟨rm, hm1, hm2⟩ := most_same hsame hok (by omega) (by omega) v
  obtain ⟨rl, hl1', hl2'⟩ := least_same hsame hok (by omega) (by omega) v
  have HC1 := Lib.hid (fun A' c' W (h : LksAt W A' l) => Consistent_any N0 A' c' l W (by omega) h)
  have HC2 := Lib.hid (fun A' c' W (h : LksAt W A' (l.drop i ++ l.take i)) => Consistent_any N0 A' c' (l.drop i ++ l.take i) W (by rw [hsame.len]; omega) h)
  rw [cons_same hsame hok] at HC2
  have HM1 := Lib.hid (fun A' c' W (h : LksAt W A' l) h' => Most_any 2000000 rm N0 A' c' l B d v W (by omega) (by omega) h h' hm1)
  have HM2 := Lib.hid (fun A' c' W (h : LksAt W A' (l.drop i ++ l.take i)) h' => Most_any 2000000 rm N0 A' c' (l.drop i ++ l.take i) B d v W (by rw [hsame.len]; omega) (by omega) h h' hm2)
  have HE1 := Lib.hid (fun A' c' W (h : LksAt W A' l) h' => Least_any 2000000 rl N0 A' c' l B d v W (by omega) (by omega) h h' hl1')
  have HE2 := Lib.hid (fun A' c' W (h : LksAt W A' (l.drop i ++ l.take i)) h' => Least_any 2000000 rl N0 A' c' (l.drop i ++ l.take i) B d v W (by rw [hsame.len]; omega) (by omega) h h' hl2')
  have HD1 := Lib.hid (fun A' c' W (h : LksAt W A' l) => Bound_any N0 A' c' l s t W (by omega) h)
  have HD2 := Lib.hid (fun A' c' W (h : LksAt W A' (l.drop i ++ l.take i)) => Bound_any N0 A' c' (l.drop i ++ l.take i) s t W (by rw [hsame.len]; omega) h)
  rw [bound_same hsame hok] at HD2
  obtain ⟨⟨rc1, rc2⟩, hrc⟩ : ∃ r, consR (N0 : Int) l = r := ⟨_, rfl⟩
  rw [hrc] at HC1 HC2
  obtain ⟨⟨rb1, rb2⟩, hrb⟩ : ∃ r, boundR (N0 : Int) l s t = r := ⟨_, rfl⟩
  rw [hrb] at HD1 HD2
  obtain ⟨rm1, rm2⟩ := rm
  obtain ⟨rl1, rl2⟩ := rl
  simp only at HC1 HC2 HM1 HM2 HE1 HE2 HD1 HD2
  have HIV := Lib.hid hv
  have HCAP := Lib.hid hcap
  obtain ⟨b0, o0, rfl, -, -⟩ := h 0 (by omega) (by omega)
  have t0 : ((l.length : Int) == 0) = false := by rw [beq_eq_false_iff_ne]; omega
  have t0' : (l == []) = false := by rw [beq_eq_false_iff_ne]; rintro rfl; simp at hne
  have hne' : ¬ l = [] := by rintro rfl; simp at hne
  have hk0 : IntKind.i64.wrap u = u := by rw [IntKind.wrap_i64]; omega
  generalize (N0 : Int) = n at *
  clear hQ h hs hvl hzl hok hT hV hm1 hm2 hl1' hl2' hrc hrb hsame hv hcap hu hn12 hne hi
  go_enter Tryz.func4, Tryz.ntmps4
  go_upto_if 79 with (first | (go_at_call 5; refine (HSM.out _).mono ?_; rintro e w1 ⟨rfl, hb⟩; have HB1 := Lib.hid (below_trans (bel : Below w.heap.size w (w.alloc _)) hb); have HX1 := Lib.hid (lift0 hb (heap_new w _)); obtain ⟨c0, c1, lc⟩ := net_box HX1.out; clear hb HSM) | (go_at_call 7; refine (HP.out _ HB1.out).mono ?_; rintro e w2 ⟨rfl, hb⟩; have HB2 := Lib.hid (below_trans HB1.out hb); have HX2 := Lib.hid (lift0 hb HX1.out); obtain ⟨c02, c12, lc2⟩ := net_box HX2.out; clear hb HP) | (go_at_call 8; refine (HQ0.out _ HB2.out).mono ?_; rintro e w3 ⟨A3, c3', rfl, hlk, _, hb⟩; have HB3 := Lib.hid (below_trans HB2.out hb); have HX3 := Lib.hid (lift0 hb HX2.out); obtain ⟨c03, c13, lc3⟩ := net_box HX3.out; have HL3 := Lib.hid hlk; have HBA3 := Lib.hid (HB3.out.alloc HB3.out.size (.cells #[.int .i64 n, .slice A3 l.length c3'] 24)); have HXA3 := Lib.hid (old_box (.cells #[.int .i64 n, .slice A3 l.length c3'] 24) HX3.out); obtain ⟨c0a3, c1a3, lca3⟩ := net_box HXA3.out; clear hb hlk HQ0) | (go_at_call 10; refine (rsame_any n n A3 c3' l _ c l _ (by omega) (HL3.out.alloc _) (HH.out.below HBA3.out)).mono ?_; rw [HSAME.out]; rintro e w4 ⟨rfl, hb⟩; have HB4 := Lib.hid (below_trans HBA3.out hb); have HX4 := Lib.hid (lift0 hb HXA3.out); obtain ⟨c04, c14, lc4⟩ := net_box HX4.out; clear hb HSAME) | (go_at_call 8; refine (HQ.out _ HB4.out).mono ?_; rintro e w5 ⟨A5, c5', rfl, hlk, _, hb⟩; have HB5 := Lib.hid (below_trans HB4.out hb); have HX5 := Lib.hid (lift0 hb HX4.out); obtain ⟨c05, c15, lc5⟩ := net_box HX5.out; have HL5 := Lib.hid hlk; have HBA5 := Lib.hid (HB5.out.alloc HB5.out.size (.cells #[.int .i64 N, .slice A5 L.length c5'] 24)); have HXA5 := Lib.hid (old_box (.cells #[.int .i64 N, .slice A5 L.length c5'] 24) HX5.out); clear hb hlk HQ))
  go_cut [19, 20] from 79 to 91 (fun _ _ wx => Hid (Below w5.heap.size w5 wx))
  case first =>
    rcases hfb with rfl | ⟨rfl, hpx⟩
    · go_wp2
      go_meet
      exact Lib.hid bel
    · go_wp2_with (go_at_call 7; refine (hpx A5 c5' _ (HL5.out.alloc _) HBA5.out).mono ?_; rintro e w6 ⟨rfl, hb⟩; have HB6 := Lib.hid (below_trans HBA5.out hb); have HX6 := Lib.hid (lift0 hb HXA5.out); obtain ⟨c06, c16, lc6⟩ := net_box HX6.out; have HBW6 := Lib.hid (((Below.refl w5.heap.size w5).alloc (Nat.le_refl _) (.cells #[.int .i64 N, .slice A5 L.length c5'] 24)).trans (hb.mono (by simp))); clear hb)
      go_meet
      exact Lib.hid HBW6.out
  case rest =>
    have HBc := Lib.hid (below_trans HB5.out hcut.out)
    have HXc := Lib.hid (lift0 hcut.out HX5.out)
    obtain ⟨k0, k1, lk⟩ := net_box HXc.out
    have HAc := Lib.hid (HH.out.below HBc.out)
    have HIc := Lib.hid (HIV.out.below HBc.out)
    go_upto_region 16 with fail
    go_cut [22] from 107 to 120 (fun x wx => ∃ p A7 c7, x = .pointer (some ⟨p, 0, none⟩) ∧ Hid (OrdW w wx w.heap.size p n (some ⟨b0, o0, none⟩) c l A7 c7 (l.drop i ++ l.take i) B v))
    case first =>
      obtain ⟨X0, hX0⟩ : ∃ X, wc.drew = X := ⟨_, rfl⟩
      have HB0 := Lib.hid (show Below wc.heap.size wc X0 by rw [← hX0]; exact (Below.refl _ wc).drew)
      have e00 : X0.cell? ⟨w.heap.size, 0, none⟩ = some (.int .i64 n) := by rw [← hX0]; exact k0
      have e10 : X0.cell? ⟨w.heap.size, 1, none⟩ = some (.slice (some ⟨b0, o0, none⟩) l.length c) := by rw [← hX0]; exact k1
      have es1 := lks_from b0 o0 l.length c i HIL.out HCAP.out
      have es2 := lks_to b0 o0 l.length c i HIL.out HCAP.out
      refine wp_region_held_drew (S := fun w' => w'.cell? ⟨w.heap.size, 0, none⟩ = some (.int .i64 n) ∧ w'.cell? ⟨w.heap.size, 1, none⟩ = some (.slice (some ⟨b0, o0, none⟩) l.length c)) (by kernel_rfl) ⟨k0, k1⟩ (fun hHeld => ?_)
      rw [hX0] at hHeld ⊢
      clear hX0
      refine wpAnyH_take (i := 0) (v := ?_) rfl (by kernel_rfl) (by kernel_rfl) (by kernel_rfl) (fun _ _ _ h => h) (Or.inl ⟨by rfl, ?hyy⟩) (by assumption) ?_
      case hyy => (intro w hSw; (try dsimp only at hSw); go_simp; all_goals (with_reducible rfl))
      try simp only [List.getElem_toArray, List.getElem_cons_zero, List.getElem_cons_succ, Act.put, List.setIfInBounds_toArray, List.set_cons_zero, List.set_cons_succ]
      refine wpAnyH_take (i := 1) (v := ?_) rfl (by kernel_rfl) (by kernel_rfl) (by kernel_rfl) (fun _ _ _ h => h) (Or.inl ⟨by rfl, ?hyy⟩) (by assumption) ?_
      case hyy => (intro w hSw; (try dsimp only at hSw); go_simp; all_goals (with_reducible rfl))
      try simp only [List.getElem_toArray, List.getElem_cons_zero, List.getElem_cons_succ, Act.put, List.setIfInBounds_toArray, List.set_cons_zero, List.set_cons_succ]
      refine wpAnyH_take (i := 3) (v := ?_) rfl (by kernel_rfl) (by kernel_rfl) (by kernel_rfl) (fun _ _ _ h => h) (Or.inl ⟨by rfl, ?hyy⟩) (by assumption) ?_
      case hyy => (intro w hSw; (try dsimp only at hSw); go_simp; all_goals (with_reducible rfl))
      try simp only [List.getElem_toArray, List.getElem_cons_zero, List.getElem_cons_succ, Act.put, List.setIfInBounds_toArray, List.set_cons_zero, List.set_cons_succ]
      refine wpAnyH_take (i := 4) (v := ?_) rfl (by kernel_rfl) (by kernel_rfl) (by kernel_rfl) (fun _ _ _ h => h) (Or.inl ⟨by rfl, ?hyy⟩) (by assumption) ?_
      case hyy => (intro w hSw; (try dsimp only at hSw); go_simp; all_goals (with_reducible rfl))
      try simp only [List.getElem_toArray, List.getElem_cons_zero, List.getElem_cons_succ, Act.put, List.setIfInBounds_toArray, List.set_cons_zero, List.set_cons_succ]
      refine wpAnyH_take (i := 5) (v := ?_) rfl (by kernel_rfl) (by kernel_rfl) (by kernel_rfl) (fun _ _ _ h => h) (Or.inl ⟨by rfl, ?hyy⟩) (by assumption) ?_
      case hyy => (intro w hSw; (try dsimp only at hSw); go_simp; all_goals (with_reducible rfl))
      try simp only [List.getElem_toArray, List.getElem_cons_zero, List.getElem_cons_succ, Act.put, List.setIfInBounds_toArray, List.set_cons_zero, List.set_cons_succ]
      refine wpAnyH_take (i := 6) (v := ?_) rfl (by kernel_rfl) (by kernel_rfl) (by kernel_rfl) (fun _ _ _ h => h) (Or.inl ⟨by rfl, ?hyy⟩) (by assumption) ?_
      case hyy => (intro w hSw; (try dsimp only at hSw); go_simp; all_goals (with_reducible rfl))
      try simp only [List.getElem_toArray, List.getElem_cons_zero, List.getElem_cons_succ, Act.put, List.setIfInBounds_toArray, List.set_cons_zero, List.set_cons_succ]
      refine wpAnyH_take (i := 8) (v := ?_) rfl (by kernel_rfl) (by kernel_rfl) (by kernel_rfl) (fun _ _ _ h => h) (Or.inl ⟨by rfl, ?hyy⟩) (by assumption) ?_
      case hyy => (intro w hSw; (try dsimp only at hSw); go_simp; all_goals (with_reducible rfl))
      try simp only [List.getElem_toArray, List.getElem_cons_zero, List.getElem_cons_succ, Act.put, List.setIfInBounds_toArray, List.set_cons_zero, List.set_cons_succ]
      refine wpAnyH_take (i := 9) (v := ?_) rfl (by kernel_rfl) (by kernel_rfl) (by kernel_rfl) (fun _ _ _ h => h) (Or.inl ⟨by rfl, ?hyy⟩) (by assumption) ?_
      case hyy => (intro w hSw; (try dsimp only at hSw); go_simp; all_goals (with_reducible rfl))
      try simp only [List.getElem_toArray, List.getElem_cons_zero, List.getElem_cons_succ, Act.put, List.setIfInBounds_toArray, List.set_cons_zero, List.set_cons_succ]
      refine wpAnyH_take (i := 10) (v := ?_) rfl (by kernel_rfl) (by kernel_rfl) (by kernel_rfl) (fun _ _ _ h => h) (Or.inl ⟨by rfl, ?hyy⟩) (by assumption) ?_
      case hyy => (intro w hSw; (try dsimp only at hSw); go_simp; all_goals (with_reducible rfl))
      try simp only [List.getElem_toArray, List.getElem_cons_zero, List.getElem_cons_succ, Act.put, List.setIfInBounds_toArray, List.set_cons_zero, List.set_cons_succ]
      refine wpAnyH_take (i := 11) (v := ?_) rfl (by kernel_rfl) (by kernel_rfl) (by kernel_rfl) (fun _ _ _ h => h) (Or.inl ⟨by rfl, ?hyy⟩) (by assumption) ?_
      case hyy => (intro w hSw; (try dsimp only at hSw); go_simp; all_goals (with_reducible rfl))
      try simp only [List.getElem_toArray, List.getElem_cons_zero, List.getElem_cons_succ, Act.put, List.setIfInBounds_toArray, List.set_cons_zero, List.set_cons_succ]
      refine wpAnyH_ready (rs := [2, 14]) (by kernel_rfl) (by simp) ?_
      refine AllReadyH.cons rfl (fun K hK => ?h1_2) (AllReadyH.cons rfl (fun K hK => ?h1_14) AllReadyH.nil)
      case h1_2 =>
        go_simp
        refine hK.out _ _ ⟨cell_alloc _ e00, cell_alloc _ e10⟩ (fun hHN1_2 => ?_)
        clear hK K
        try simp only [List.getElem_toArray, List.getElem_cons_zero, List.getElem_cons_succ, Act.put, List.setIfInBounds_toArray, List.set_cons_zero, List.set_cons_succ]
        obtain ⟨X1, hY⟩ : ∃ Y, X0.alloc (.cells #[] 51) = Y := ⟨_, rfl⟩
        rw [hY] at hHN1_2 ⊢
        have HB1 := Lib.hid (show Below wc.heap.size wc X1 by rw [← hY]; exact HB0.out.alloc HB0.out.size _)
        have e01 : X1.cell? ⟨w.heap.size, 0, none⟩ = some (.int .i64 n) := by rw [← hY]; exact cell_alloc _ e00
        have e11 : X1.cell? ⟨w.heap.size, 1, none⟩ = some (.slice (some ⟨b0, o0, none⟩) l.length c) := by rw [← hY]; exact cell_alloc _ e10
        obtain ⟨G, hG⟩ : ∃ G, X0.heap.size = G := ⟨_, rfl⟩
        have HO1 := Lib.hid (show X1.ownsRow wc.heap.size 51 3 (.slice (some ⟨G, 0, none⟩) 0 0) 0 [] by rw [← hY, ← hG]; exact lown_at (heap_alloc_new X0 _) HB0.out.size)
        rw [hG]
        clear hY hG
        refine wpAnyH_ready (rs := [7, 14]) (by kernel_rfl) (by simp) ?_
        refine AllReadyH.cons rfl (fun K hK => ?h2_7) (AllReadyH.cons rfl (fun K hK => ?h2_14) AllReadyH.nil)
        case h2_7 =>
          refine step_app_lks rfl (.tmp 109) (.tmp 113) rfl wc.heap.size (.slice (some ⟨G, 0, none⟩) 0 0) (0) ([]) (by simp [Act.eval, Act.put]) HO1.out (some ⟨b0, o0 + i * 3, none⟩) (c - i) (l.drop i) (by have hi' := HIL.out; simp [Act.eval, Act.put]; try omega) ((HAc.below HB1.out).drop i) (fun e => by cases e) (by simp; omega) HB1.out.size ?_
          intro v2 X2 ho hg hv
          have hne : ∀ b, (Value.slice (some ⟨G, 0, none⟩) 0 0).ownBlock = some b → wc.heap.size ≤ b := lown_ge HO1.out
          have e02 := cell_grown' hg (fun e => by have := hne _ e; have := lk; omega) e01
          have e12 := cell_grown' hg (fun e => by have := hne _ e; have := lk; omega) e11
          have HB2 := Lib.hid (below_own HB1.out hg HB1.out.size hne)
          have HO2 := Lib.hid ho
          clear ho hg hv hne
          refine hK.out _ _ ⟨e02, e12⟩ (fun hHN2_7 => ?_)
          clear hK K
          try simp only [List.getElem_toArray, List.getElem_cons_zero, List.getElem_cons_succ, Act.put, List.setIfInBounds_toArray, List.set_cons_zero, List.set_cons_succ]
          refine wpAnyH_ready (rs := [12, 14]) (by kernel_rfl) (by simp) ?_
          refine AllReadyH.cons rfl (fun K hK => ?h3_12) (AllReadyH.cons rfl (fun K hK => ?h3_14) AllReadyH.nil)
          case h3_12 =>
            refine step_app_lks rfl (.tmp 114) (.tmp 118) rfl wc.heap.size v2 (0 + (l.drop i).length) ([] ++ lkcs (l.drop i)) (by simp [Act.eval, Act.put]) HO2.out (some ⟨b0, o0, none⟩) c (l.take i) (by have hi' := HIL.out; simp [Act.eval, Act.put]; try omega) ((HAc.below HB2.out).take i) (fun e => by cases e) (by simp; omega) HB2.out.size ?_
            intro v3 X3 ho hg hv
            have hne : ∀ b, v2.ownBlock = some b → wc.heap.size ≤ b := lown_ge HO2.out
            have e03 := cell_grown' hg (fun e => by have := hne _ e; have := lk; omega) e02
            have e13 := cell_grown' hg (fun e => by have := hne _ e; have := lk; omega) e12
            have HB3 := Lib.hid (below_own HB2.out hg HB2.out.size hne)
            have HO3 := Lib.hid ho
            obtain ⟨A6, c6, rfl, -, -, -⟩ := own_slice ho
            have hle : 0 + (l.drop i).length + (l.take i).length = l.length := by have := HIL.out; simp; omega
            rw [hle] at HO3 ⊢
            clear hle
            clear ho hg hv hne
            refine hK.out _ _ ⟨e03, e13⟩ (fun hHN3_12 => ?_)
            clear hK K
            try simp only [List.getElem_toArray, List.getElem_cons_zero, List.getElem_cons_succ, Act.put, List.setIfInBounds_toArray, List.set_cons_zero, List.set_cons_succ]
            refine wpAnyH_take (i := 13) (v := ?_) rfl (by kernel_rfl) (by kernel_rfl) (by kernel_rfl) (fun _ _ _ h => h) (Or.inl ⟨by rfl, ?hyy⟩) (by assumption) ?_
            case hyy => (intro w hSw; (try dsimp only at hSw); go_simp; all_goals (with_reducible rfl))
            try simp only [List.getElem_toArray, List.getElem_cons_zero, List.getElem_cons_succ, Act.put, List.setIfInBounds_toArray, List.set_cons_zero, List.set_cons_succ]
            refine wpAnyH_ready (rs := [14]) (by kernel_rfl) (by simp) ?_
            refine AllReadyH.cons rfl (fun K hK => ?_) AllReadyH.nil
            go_simp
            refine hK.out _ _ ⟨cell_alloc _ e03, cell_alloc _ e13⟩ (fun hHN4_14 => ?_)
            clear hK K
            try simp only [List.getElem_toArray, List.getElem_cons_zero, List.getElem_cons_succ, Act.put, List.setIfInBounds_toArray, List.set_cons_zero, List.set_cons_succ]
            obtain ⟨X4, hY⟩ : ∃ Y, X3.alloc (.cells #[.int .i64 0, .slice none 0 0] 24) = Y := ⟨_, rfl⟩
            rw [hY] at hHN4_14 ⊢
            have HB4 := Lib.hid (show Below wc.heap.size wc X4 by rw [← hY]; exact HB3.out.alloc HB3.out.size _)
            have e04 : X4.cell? ⟨w.heap.size, 0, none⟩ = some (.int .i64 n) := by rw [← hY]; exact cell_alloc _ e03
            have e14 : X4.cell? ⟨w.heap.size, 1, none⟩ = some (.slice (some ⟨b0, o0, none⟩) l.length c) := by rw [← hY]; exact cell_alloc _ e13
            obtain ⟨p, hp⟩ : ∃ p, X3.heap.size = p := ⟨_, rfl⟩
            have HBX4 := Lib.hid (show X4.heap[p]? = some (.cells #[.int .i64 0, .slice none 0 0] 24 (0, 0)) by rw [← hY, ← hp]; exact heap_alloc_new _ _)
            have hpw : wc.heap.size ≤ p := by rw [← hp]; exact HB3.out.size
            have HO4 := Lib.hid (show X4.ownsRow wc.heap.size 51 3 (.slice A6 l.length c6) (l.length) (([] ++ lkcs (l.drop i)) ++ lkcs (l.take i)) by rw [← hY]; exact HO3.out.alloc _)
            have HNP4 := Lib.hid (show ∀ b, (Value.slice A6 l.length c6).ownBlock = some b → b ≠ p from fun b e => by have := (HO3.out.lt b e).2; omega)
            rw [hp]
            clear hY hp
            refine wpAnyH_ready (rs := [15]) (by kernel_rfl) (by simp) ?_
            refine AllReadyH.cons rfl (fun K hK => ?_) AllReadyH.nil
            have q0 := cell_of_heap HBX4.out 0
            have q1 := cell_of_heap HBX4.out 1
            have q2 := frozen_of_heap HBX4.out 0
            have q3 := frozen_of_heap HBX4.out 1
            simp at q0 q1
            have hpb : p ≠ w.heap.size := by have := lk; omega
            go_simp
            refine hK.out _ _ ⟨(World.cell?_setCell_far _ _ _ _ hpb).trans ((World.cell?_setCell_far _ _ _ _ hpb).trans e04), (World.cell?_setCell_far _ _ _ _ hpb).trans ((World.cell?_setCell_far _ _ _ _ hpb).trans e14)⟩ (fun hHN5_15 => ?_)
            clear hK K
            try simp only [List.getElem_toArray, List.getElem_cons_zero, List.getElem_cons_succ, Act.put, List.setIfInBounds_toArray, List.set_cons_zero, List.set_cons_succ]
            refine wpAnyH_done (by kernel_rfl) ?_ _
            go_wp2_with fail
            go_meet
            have hBZ : Below wc.heap.size wc ((X4.setCell ⟨p, 0, none⟩ (.int .i64 n)).setCell ⟨p, 1, none⟩ (.slice A6 l.length c6)) := (HB4.out.setCell (p := ⟨p, 0, none⟩) hpw _).setCell (p := ⟨p, 1, none⟩) hpw _
            have hro := rot_own2 HIL.out (ownsRow_setNe (ownsRow_setNe HO4.out ⟨p, 0, none⟩ (.int .i64 n) HNP4.out) ⟨p, 1, none⟩ (.slice A6 l.length c6) HNP4.out)
            have hb22 := set_pair (x := .int .i64 n) (y := .slice A6 l.length c6) HBX4.out
            refine ⟨p, A6, c6, rfl, Lib.hid ⟨lift0 hBZ HXc.out, ?_, HAc.below hBZ, hro, HIc.below hBZ, below_trans HBc.out hBZ⟩⟩
            rw [show (l.drop i ++ l.take i).length = l.length by have := HIL.out; simp; omega]
            exact hb22
          case h3_14 =>
            go_simp
            refine hK.out _ _ ⟨cell_alloc _ e02, cell_alloc _ e12⟩ (fun hHN3_14 => ?_)
            clear hK K
            try simp only [List.getElem_toArray, List.getElem_cons_zero, List.getElem_cons_succ, Act.put, List.setIfInBounds_toArray, List.set_cons_zero, List.set_cons_succ]
            obtain ⟨X3, hY⟩ : ∃ Y, X2.alloc (.cells #[.int .i64 0, .slice none 0 0] 24) = Y := ⟨_, rfl⟩
            rw [hY] at hHN3_14 ⊢
            have HB3 := Lib.hid (show Below wc.heap.size wc X3 by rw [← hY]; exact HB2.out.alloc HB2.out.size _)
            have e03 : X3.cell? ⟨w.heap.size, 0, none⟩ = some (.int .i64 n) := by rw [← hY]; exact cell_alloc _ e02
            have e13 : X3.cell? ⟨w.heap.size, 1, none⟩ = some (.slice (some ⟨b0, o0, none⟩) l.length c) := by rw [← hY]; exact cell_alloc _ e12
            obtain ⟨p, hp⟩ : ∃ p, X2.heap.size = p := ⟨_, rfl⟩
            have HBX3 := Lib.hid (show X3.heap[p]? = some (.cells #[.int .i64 0, .slice none 0 0] 24 (0, 0)) by rw [← hY, ← hp]; exact heap_alloc_new _ _)
            have hpw : wc.heap.size ≤ p := by rw [← hp]; exact HB2.out.size
            have HO3 := Lib.hid (show X3.ownsRow wc.heap.size 51 3 v2 (0 + (l.drop i).length) ([] ++ lkcs (l.drop i)) by rw [← hY]; exact HO2.out.alloc _)
            have HNP3 := Lib.hid (show ∀ b, v2.ownBlock = some b → b ≠ p from fun b e => by have := (HO2.out.lt b e).2; omega)
            rw [hp]
            clear hY hp
            refine wpAnyH_ready (rs := [12]) (by kernel_rfl) (by simp) ?_
            refine AllReadyH.cons rfl (fun K hK => ?_) AllReadyH.nil
            refine step_app_lks rfl (.tmp 114) (.tmp 118) rfl wc.heap.size v2 (0 + (l.drop i).length) ([] ++ lkcs (l.drop i)) (by simp [Act.eval, Act.put]) HO3.out (some ⟨b0, o0, none⟩) c (l.take i) (by have hi' := HIL.out; simp [Act.eval, Act.put]; try omega) ((HAc.below HB3.out).take i) (fun e => by cases e) (by simp; omega) HB3.out.size ?_
            intro v4 X4 ho hg hv
            have hne : ∀ b, v2.ownBlock = some b → wc.heap.size ≤ b := lown_ge HO3.out
            have e04 := cell_grown' hg (fun e => by have := hne _ e; have := lk; omega) e03
            have e14 := cell_grown' hg (fun e => by have := hne _ e; have := lk; omega) e13
            have HB4 := Lib.hid (below_own HB3.out hg HB3.out.size hne)
            have HO4 := Lib.hid ho
            have HBX4 := Lib.hid ((hg.block p (Array.getElem?_eq_some_iff.1 HBX3.out).1 (fun e => HNP3.out p e.symm rfl)).trans HBX3.out)
            have HNP4 := Lib.hid (show ∀ b, v4.ownBlock = some b → b ≠ p from fun b e => by
              rcases hv with h | h
              · rw [h] at e; exact HNP3.out b e
              · rw [h] at e; injection e with e; have := (Array.getElem?_eq_some_iff.1 HBX3.out).1; omega)
            obtain ⟨A6, c6, rfl, -, -, -⟩ := own_slice ho
            have hle : 0 + (l.drop i).length + (l.take i).length = l.length := by have := HIL.out; simp; omega
            rw [hle] at HO4 HNP4 ⊢
            clear hle
            clear ho hg hv hne
            refine hK.out _ _ ⟨e04, e14⟩ (fun hHN4_12 => ?_)
            clear hK K
            try simp only [List.getElem_toArray, List.getElem_cons_zero, List.getElem_cons_succ, Act.put, List.setIfInBounds_toArray, List.set_cons_zero, List.set_cons_succ]
            refine wpAnyH_take (i := 13) (v := ?_) rfl (by kernel_rfl) (by kernel_rfl) (by kernel_rfl) (fun _ _ _ h => h) (Or.inl ⟨by rfl, ?hyy⟩) (by assumption) ?_
            case hyy => (intro w hSw; (try dsimp only at hSw); go_simp; all_goals (with_reducible rfl))
            try simp only [List.getElem_toArray, List.getElem_cons_zero, List.getElem_cons_succ, Act.put, List.setIfInBounds_toArray, List.set_cons_zero, List.set_cons_succ]
            refine wpAnyH_ready (rs := [15]) (by kernel_rfl) (by simp) ?_
            refine AllReadyH.cons rfl (fun K hK => ?_) AllReadyH.nil
            have q0 := cell_of_heap HBX4.out 0
            have q1 := cell_of_heap HBX4.out 1
            have q2 := frozen_of_heap HBX4.out 0
            have q3 := frozen_of_heap HBX4.out 1
            simp at q0 q1
            have hpb : p ≠ w.heap.size := by have := lk; omega
            go_simp
            refine hK.out _ _ ⟨(World.cell?_setCell_far _ _ _ _ hpb).trans ((World.cell?_setCell_far _ _ _ _ hpb).trans e04), (World.cell?_setCell_far _ _ _ _ hpb).trans ((World.cell?_setCell_far _ _ _ _ hpb).trans e14)⟩ (fun hHN5_15 => ?_)
            clear hK K
            try simp only [List.getElem_toArray, List.getElem_cons_zero, List.getElem_cons_succ, Act.put, List.setIfInBounds_toArray, List.set_cons_zero, List.set_cons_succ]
            refine wpAnyH_done (by kernel_rfl) ?_ _
            go_wp2_with fail
            go_meet
            have hBZ : Below wc.heap.size wc ((X4.setCell ⟨p, 0, none⟩ (.int .i64 n)).setCell ⟨p, 1, none⟩ (.slice A6 l.length c6)) := (HB4.out.setCell (p := ⟨p, 0, none⟩) hpw _).setCell (p := ⟨p, 1, none⟩) hpw _
            have hro := rot_own2 HIL.out (ownsRow_setNe (ownsRow_setNe HO4.out ⟨p, 0, none⟩ (.int .i64 n) HNP4.out) ⟨p, 1, none⟩ (.slice A6 l.length c6) HNP4.out)
            have hb22 := set_pair (x := .int .i64 n) (y := .slice A6 l.length c6) HBX4.out
            refine ⟨p, A6, c6, rfl, Lib.hid ⟨lift0 hBZ HXc.out, ?_, HAc.below hBZ, hro, HIc.below hBZ, below_trans HBc.out hBZ⟩⟩
            rw [show (l.drop i ++ l.take i).length = l.length by have := HIL.out; simp; omega]
            exact hb22
        case h2_14 =>
          go_simp
          refine hK.out _ _ ⟨cell_alloc _ e01, cell_alloc _ e11⟩ (fun hHN2_14 => ?_)
          clear hK K
          try simp only [List.getElem_toArray, List.getElem_cons_zero, List.getElem_cons_succ, Act.put, List.setIfInBounds_toArray, List.set_cons_zero, List.set_cons_succ]
          obtain ⟨X2, hY⟩ : ∃ Y, X1.alloc (.cells #[.int .i64 0, .slice none 0 0] 24) = Y := ⟨_, rfl⟩
          rw [hY] at hHN2_14 ⊢
          have HB2 := Lib.hid (show Below wc.heap.size wc X2 by rw [← hY]; exact HB1.out.alloc HB1.out.size _)
          have e02 : X2.cell? ⟨w.heap.size, 0, none⟩ = some (.int .i64 n) := by rw [← hY]; exact cell_alloc _ e01
          have e12 : X2.cell? ⟨w.heap.size, 1, none⟩ = some (.slice (some ⟨b0, o0, none⟩) l.length c) := by rw [← hY]; exact cell_alloc _ e11
          obtain ⟨p, hp⟩ : ∃ p, X1.heap.size = p := ⟨_, rfl⟩
          have HBX2 := Lib.hid (show X2.heap[p]? = some (.cells #[.int .i64 0, .slice none 0 0] 24 (0, 0)) by rw [← hY, ← hp]; exact heap_alloc_new _ _)
          have hpw : wc.heap.size ≤ p := by rw [← hp]; exact HB1.out.size
          have HO2 := Lib.hid (show X2.ownsRow wc.heap.size 51 3 (.slice (some ⟨G, 0, none⟩) 0 0) (0) ([]) by rw [← hY]; exact HO1.out.alloc _)
          have HNP2 := Lib.hid (show ∀ b, (Value.slice (some ⟨G, 0, none⟩) 0 0).ownBlock = some b → b ≠ p from fun b e => by have := (HO1.out.lt b e).2; omega)
          rw [hp]
          clear hY hp
          refine wpAnyH_ready (rs := [7]) (by kernel_rfl) (by simp) ?_
          refine AllReadyH.cons rfl (fun K hK => ?_) AllReadyH.nil
          refine step_app_lks rfl (.tmp 109) (.tmp 113) rfl wc.heap.size (.slice (some ⟨G, 0, none⟩) 0 0) (0) ([]) (by simp [Act.eval, Act.put]) HO2.out (some ⟨b0, o0 + i * 3, none⟩) (c - i) (l.drop i) (by have hi' := HIL.out; simp [Act.eval, Act.put]; try omega) ((HAc.below HB2.out).drop i) (fun e => by cases e) (by simp; omega) HB2.out.size ?_
          intro v3 X3 ho hg hv
          have hne : ∀ b, (Value.slice (some ⟨G, 0, none⟩) 0 0).ownBlock = some b → wc.heap.size ≤ b := lown_ge HO2.out
          have e03 := cell_grown' hg (fun e => by have := hne _ e; have := lk; omega) e02
          have e13 := cell_grown' hg (fun e => by have := hne _ e; have := lk; omega) e12
          have HB3 := Lib.hid (below_own HB2.out hg HB2.out.size hne)
          have HO3 := Lib.hid ho
          have HBX3 := Lib.hid ((hg.block p (Array.getElem?_eq_some_iff.1 HBX2.out).1 (fun e => HNP2.out p e.symm rfl)).trans HBX2.out)
          have HNP3 := Lib.hid (show ∀ b, v3.ownBlock = some b → b ≠ p from fun b e => by
            rcases hv with h | h
            · rw [h] at e; exact HNP2.out b e
            · rw [h] at e; injection e with e; have := (Array.getElem?_eq_some_iff.1 HBX2.out).1; omega)
          clear ho hg hv hne
          refine hK.out _ _ ⟨e03, e13⟩ (fun hHN3_7 => ?_)
          clear hK K
          try simp only [List.getElem_toArray, List.getElem_cons_zero, List.getElem_cons_succ, Act.put, List.setIfInBounds_toArray, List.set_cons_zero, List.set_cons_succ]
          refine wpAnyH_ready (rs := [12]) (by kernel_rfl) (by simp) ?_
          refine AllReadyH.cons rfl (fun K hK => ?_) AllReadyH.nil
          refine step_app_lks rfl (.tmp 114) (.tmp 118) rfl wc.heap.size v3 (0 + (l.drop i).length) ([] ++ lkcs (l.drop i)) (by simp [Act.eval, Act.put]) HO3.out (some ⟨b0, o0, none⟩) c (l.take i) (by have hi' := HIL.out; simp [Act.eval, Act.put]; try omega) ((HAc.below HB3.out).take i) (fun e => by cases e) (by simp; omega) HB3.out.size ?_
          intro v4 X4 ho hg hv
          have hne : ∀ b, v3.ownBlock = some b → wc.heap.size ≤ b := lown_ge HO3.out
          have e04 := cell_grown' hg (fun e => by have := hne _ e; have := lk; omega) e03
          have e14 := cell_grown' hg (fun e => by have := hne _ e; have := lk; omega) e13
          have HB4 := Lib.hid (below_own HB3.out hg HB3.out.size hne)
          have HO4 := Lib.hid ho
          have HBX4 := Lib.hid ((hg.block p (Array.getElem?_eq_some_iff.1 HBX3.out).1 (fun e => HNP3.out p e.symm rfl)).trans HBX3.out)
          have HNP4 := Lib.hid (show ∀ b, v4.ownBlock = some b → b ≠ p from fun b e => by
            rcases hv with h | h
            · rw [h] at e; exact HNP3.out b e
            · rw [h] at e; injection e with e; have := (Array.getElem?_eq_some_iff.1 HBX3.out).1; omega)
          obtain ⟨A6, c6, rfl, -, -, -⟩ := own_slice ho
          have hle : 0 + (l.drop i).length + (l.take i).length = l.length := by have := HIL.out; simp; omega
          rw [hle] at HO4 HNP4 ⊢
          clear hle
          clear ho hg hv hne
          refine hK.out _ _ ⟨e04, e14⟩ (fun hHN4_12 => ?_)
          clear hK K
          try simp only [List.getElem_toArray, List.getElem_cons_zero, List.getElem_cons_succ, Act.put, List.setIfInBounds_toArray, List.set_cons_zero, List.set_cons_succ]
          refine wpAnyH_take (i := 13) (v := ?_) rfl (by kernel_rfl) (by kernel_rfl) (by kernel_rfl) (fun _ _ _ h => h) (Or.inl ⟨by rfl, ?hyy⟩) (by assumption) ?_
          case hyy => (intro w hSw; (try dsimp only at hSw); go_simp; all_goals (with_reducible rfl))
          try simp only [List.getElem_toArray, List.getElem_cons_zero, List.getElem_cons_succ, Act.put, List.setIfInBounds_toArray, List.set_cons_zero, List.set_cons_succ]
          refine wpAnyH_ready (rs := [15]) (by kernel_rfl) (by simp) ?_
          refine AllReadyH.cons rfl (fun K hK => ?_) AllReadyH.nil
          have q0 := cell_of_heap HBX4.out 0
          have q1 := cell_of_heap HBX4.out 1
          have q2 := frozen_of_heap HBX4.out 0
          have q3 := frozen_of_heap HBX4.out 1
          simp at q0 q1
          have hpb : p ≠ w.heap.size := by have := lk; omega
          go_simp
          refine hK.out _ _ ⟨(World.cell?_setCell_far _ _ _ _ hpb).trans ((World.cell?_setCell_far _ _ _ _ hpb).trans e04), (World.cell?_setCell_far _ _ _ _ hpb).trans ((World.cell?_setCell_far _ _ _ _ hpb).trans e14)⟩ (fun hHN5_15 => ?_)
          clear hK K
          try simp only [List.getElem_toArray, List.getElem_cons_zero, List.getElem_cons_succ, Act.put, List.setIfInBounds_toArray, List.set_cons_zero, List.set_cons_succ]
          refine wpAnyH_done (by kernel_rfl) ?_ _
          go_wp2_with fail
          go_meet
          have hBZ : Below wc.heap.size wc ((X4.setCell ⟨p, 0, none⟩ (.int .i64 n)).setCell ⟨p, 1, none⟩ (.slice A6 l.length c6)) := (HB4.out.setCell (p := ⟨p, 0, none⟩) hpw _).setCell (p := ⟨p, 1, none⟩) hpw _
          have hro := rot_own2 HIL.out (ownsRow_setNe (ownsRow_setNe HO4.out ⟨p, 0, none⟩ (.int .i64 n) HNP4.out) ⟨p, 1, none⟩ (.slice A6 l.length c6) HNP4.out)
          have hb22 := set_pair (x := .int .i64 n) (y := .slice A6 l.length c6) HBX4.out
          refine ⟨p, A6, c6, rfl, Lib.hid ⟨lift0 hBZ HXc.out, ?_, HAc.below hBZ, hro, HIc.below hBZ, below_trans HBc.out hBZ⟩⟩
          rw [show (l.drop i ++ l.take i).length = l.length by have := HIL.out; simp; omega]
          exact hb22
      case h1_14 =>
        go_simp
        refine hK.out _ _ ⟨cell_alloc _ e00, cell_alloc _ e10⟩ (fun hHN1_14 => ?_)
        clear hK K
        try simp only [List.getElem_toArray, List.getElem_cons_zero, List.getElem_cons_succ, Act.put, List.setIfInBounds_toArray, List.set_cons_zero, List.set_cons_succ]
        obtain ⟨X1, hY⟩ : ∃ Y, X0.alloc (.cells #[.int .i64 0, .slice none 0 0] 24) = Y := ⟨_, rfl⟩
        rw [hY] at hHN1_14 ⊢
        have HB1 := Lib.hid (show Below wc.heap.size wc X1 by rw [← hY]; exact HB0.out.alloc HB0.out.size _)
        have e01 : X1.cell? ⟨w.heap.size, 0, none⟩ = some (.int .i64 n) := by rw [← hY]; exact cell_alloc _ e00
        have e11 : X1.cell? ⟨w.heap.size, 1, none⟩ = some (.slice (some ⟨b0, o0, none⟩) l.length c) := by rw [← hY]; exact cell_alloc _ e10
        obtain ⟨p, hp⟩ : ∃ p, X0.heap.size = p := ⟨_, rfl⟩
        have HBX1 := Lib.hid (show X1.heap[p]? = some (.cells #[.int .i64 0, .slice none 0 0] 24 (0, 0)) by rw [← hY, ← hp]; exact heap_alloc_new _ _)
        have hpw : wc.heap.size ≤ p := by rw [← hp]; exact HB0.out.size
        rw [hp]
        clear hY hp
        refine wpAnyH_ready (rs := [2]) (by kernel_rfl) (by simp) ?_
        refine AllReadyH.cons rfl (fun K hK => ?_) AllReadyH.nil
        go_simp
        refine hK.out _ _ ⟨cell_alloc _ e01, cell_alloc _ e11⟩ (fun hHN2_2 => ?_)
        clear hK K
        try simp only [List.getElem_toArray, List.getElem_cons_zero, List.getElem_cons_succ, Act.put, List.setIfInBounds_toArray, List.set_cons_zero, List.set_cons_succ]
        obtain ⟨X2, hY⟩ : ∃ Y, X1.alloc (.cells #[] 51) = Y := ⟨_, rfl⟩
        rw [hY] at hHN2_2 ⊢
        have HB2 := Lib.hid (show Below wc.heap.size wc X2 by rw [← hY]; exact HB1.out.alloc HB1.out.size _)
        have e02 : X2.cell? ⟨w.heap.size, 0, none⟩ = some (.int .i64 n) := by rw [← hY]; exact cell_alloc _ e01
        have e12 : X2.cell? ⟨w.heap.size, 1, none⟩ = some (.slice (some ⟨b0, o0, none⟩) l.length c) := by rw [← hY]; exact cell_alloc _ e11
        obtain ⟨G, hG⟩ : ∃ G, X1.heap.size = G := ⟨_, rfl⟩
        have HO2 := Lib.hid (show X2.ownsRow wc.heap.size 51 3 (.slice (some ⟨G, 0, none⟩) 0 0) 0 [] by rw [← hY, ← hG]; exact lown_at (heap_alloc_new X1 _) HB1.out.size)
        have HBX2 := Lib.hid (show X2.heap[p]? = some (.cells #[.int .i64 0, .slice none 0 0] 24 (0, 0)) by rw [← hY]; exact old_box _ HBX1.out)
        have HNP2 := Lib.hid (show ∀ b, (Value.slice (some ⟨G, 0, none⟩) 0 0).ownBlock = some b → b ≠ p from fun b e => by have h : some G = some b := e; injection h with h; have := (Array.getElem?_eq_some_iff.1 HBX1.out).1; omega)
        rw [hG]
        clear hY hG
        refine wpAnyH_ready (rs := [7]) (by kernel_rfl) (by simp) ?_
        refine AllReadyH.cons rfl (fun K hK => ?_) AllReadyH.nil
        refine step_app_lks rfl (.tmp 109) (.tmp 113) rfl wc.heap.size (.slice (some ⟨G, 0, none⟩) 0 0) (0) ([]) (by simp [Act.eval, Act.put]) HO2.out (some ⟨b0, o0 + i * 3, none⟩) (c - i) (l.drop i) (by have hi' := HIL.out; simp [Act.eval, Act.put]; try omega) ((HAc.below HB2.out).drop i) (fun e => by cases e) (by simp; omega) HB2.out.size ?_
        intro v3 X3 ho hg hv
        have hne : ∀ b, (Value.slice (some ⟨G, 0, none⟩) 0 0).ownBlock = some b → wc.heap.size ≤ b := lown_ge HO2.out
        have e03 := cell_grown' hg (fun e => by have := hne _ e; have := lk; omega) e02
        have e13 := cell_grown' hg (fun e => by have := hne _ e; have := lk; omega) e12
        have HB3 := Lib.hid (below_own HB2.out hg HB2.out.size hne)
        have HO3 := Lib.hid ho
        have HBX3 := Lib.hid ((hg.block p (Array.getElem?_eq_some_iff.1 HBX2.out).1 (fun e => HNP2.out p e.symm rfl)).trans HBX2.out)
        have HNP3 := Lib.hid (show ∀ b, v3.ownBlock = some b → b ≠ p from fun b e => by
          rcases hv with h | h
          · rw [h] at e; exact HNP2.out b e
          · rw [h] at e; injection e with e; have := (Array.getElem?_eq_some_iff.1 HBX2.out).1; omega)
        clear ho hg hv hne
        refine hK.out _ _ ⟨e03, e13⟩ (fun hHN3_7 => ?_)
        clear hK K
        try simp only [List.getElem_toArray, List.getElem_cons_zero, List.getElem_cons_succ, Act.put, List.setIfInBounds_toArray, List.set_cons_zero, List.set_cons_succ]
        refine wpAnyH_ready (rs := [12]) (by kernel_rfl) (by simp) ?_
        refine AllReadyH.cons rfl (fun K hK => ?_) AllReadyH.nil
        refine step_app_lks rfl (.tmp 114) (.tmp 118) rfl wc.heap.size v3 (0 + (l.drop i).length) ([] ++ lkcs (l.drop i)) (by simp [Act.eval, Act.put]) HO3.out (some ⟨b0, o0, none⟩) c (l.take i) (by have hi' := HIL.out; simp [Act.eval, Act.put]; try omega) ((HAc.below HB3.out).take i) (fun e => by cases e) (by simp; omega) HB3.out.size ?_
        intro v4 X4 ho hg hv
        have hne : ∀ b, v3.ownBlock = some b → wc.heap.size ≤ b := lown_ge HO3.out
        have e04 := cell_grown' hg (fun e => by have := hne _ e; have := lk; omega) e03
        have e14 := cell_grown' hg (fun e => by have := hne _ e; have := lk; omega) e13
        have HB4 := Lib.hid (below_own HB3.out hg HB3.out.size hne)
        have HO4 := Lib.hid ho
        have HBX4 := Lib.hid ((hg.block p (Array.getElem?_eq_some_iff.1 HBX3.out).1 (fun e => HNP3.out p e.symm rfl)).trans HBX3.out)
        have HNP4 := Lib.hid (show ∀ b, v4.ownBlock = some b → b ≠ p from fun b e => by
          rcases hv with h | h
          · rw [h] at e; exact HNP3.out b e
          · rw [h] at e; injection e with e; have := (Array.getElem?_eq_some_iff.1 HBX3.out).1; omega)
        obtain ⟨A6, c6, rfl, -, -, -⟩ := own_slice ho
        have hle : 0 + (l.drop i).length + (l.take i).length = l.length := by have := HIL.out; simp; omega
        rw [hle] at HO4 HNP4 ⊢
        clear hle
        clear ho hg hv hne
        refine hK.out _ _ ⟨e04, e14⟩ (fun hHN4_12 => ?_)
        clear hK K
        try simp only [List.getElem_toArray, List.getElem_cons_zero, List.getElem_cons_succ, Act.put, List.setIfInBounds_toArray, List.set_cons_zero, List.set_cons_succ]
        refine wpAnyH_take (i := 13) (v := ?_) rfl (by kernel_rfl) (by kernel_rfl) (by kernel_rfl) (fun _ _ _ h => h) (Or.inl ⟨by rfl, ?hyy⟩) (by assumption) ?_
        case hyy => (intro w hSw; (try dsimp only at hSw); go_simp; all_goals (with_reducible rfl))
        try simp only [List.getElem_toArray, List.getElem_cons_zero, List.getElem_cons_succ, Act.put, List.setIfInBounds_toArray, List.set_cons_zero, List.set_cons_succ]
        refine wpAnyH_ready (rs := [15]) (by kernel_rfl) (by simp) ?_
        refine AllReadyH.cons rfl (fun K hK => ?_) AllReadyH.nil
        have q0 := cell_of_heap HBX4.out 0
        have q1 := cell_of_heap HBX4.out 1
        have q2 := frozen_of_heap HBX4.out 0
        have q3 := frozen_of_heap HBX4.out 1
        simp at q0 q1
        have hpb : p ≠ w.heap.size := by have := lk; omega
        go_simp
        refine hK.out _ _ ⟨(World.cell?_setCell_far _ _ _ _ hpb).trans ((World.cell?_setCell_far _ _ _ _ hpb).trans e04), (World.cell?_setCell_far _ _ _ _ hpb).trans ((World.cell?_setCell_far _ _ _ _ hpb).trans e14)⟩ (fun hHN5_15 => ?_)
        clear hK K
        try simp only [List.getElem_toArray, List.getElem_cons_zero, List.getElem_cons_succ, Act.put, List.setIfInBounds_toArray, List.set_cons_zero, List.set_cons_succ]
        refine wpAnyH_done (by kernel_rfl) ?_ _
        go_wp2_with fail
        go_meet
        have hBZ : Below wc.heap.size wc ((X4.setCell ⟨p, 0, none⟩ (.int .i64 n)).setCell ⟨p, 1, none⟩ (.slice A6 l.length c6)) := (HB4.out.setCell (p := ⟨p, 0, none⟩) hpw _).setCell (p := ⟨p, 1, none⟩) hpw _
        have hro := rot_own2 HIL.out (ownsRow_setNe (ownsRow_setNe HO4.out ⟨p, 0, none⟩ (.int .i64 n) HNP4.out) ⟨p, 1, none⟩ (.slice A6 l.length c6) HNP4.out)
        have hb22 := set_pair (x := .int .i64 n) (y := .slice A6 l.length c6) HBX4.out
        refine ⟨p, A6, c6, rfl, Lib.hid ⟨lift0 hBZ HXc.out, ?_, HAc.below hBZ, hro, HIc.below hBZ, below_trans HBc.out hBZ⟩⟩
        rw [show (l.drop i ++ l.take i).length = l.length by have := HIL.out; simp; omega]
        exact hb22
    case rest =>
      obtain ⟨p, A7, c7, rfl, HZ0⟩ := hcut
      generalize l.drop i ++ l.take i = m at *
      go_upto_region 17 with fail
      obtain ⟨c00, c10, lc0⟩ := net_box HZ0.out.b6
      obtain ⟨d00, d10, ld0⟩ := net_box HZ0.out.b22
      clear HXc HAc HIc HBc k0 k1 lk
      go_wp2_with (first | (go_at_call 13; refine (HC1.out _ _ _ HZ0.out.la).mono ?_; rintro e y1 ⟨rfl, hb⟩; have HZ1 := Lib.hid (HZ0.out.step hb); obtain ⟨c01, c11, lc1⟩ := net_box HZ1.out.b6; obtain ⟨d01, d11, ld1⟩ := net_box HZ1.out.b22; clear hb HC1) | (go_at_call 13; refine (HC2.out _ _ _ HZ1.out.lm).mono ?_; rintro e y2 ⟨rfl, hb⟩; have HZ2 := Lib.hid (HZ1.out.step hb); obtain ⟨c02, c12, lc2⟩ := net_box HZ2.out.b6; obtain ⟨d02, d12, ld2⟩ := net_box HZ2.out.b22; clear hb HC2) | (go_at_call 14; refine (HM1.out _ _ _ HZ2.out.la HZ2.out.iv).mono ?_; rintro e y3 ⟨rfl, hb⟩; have HZ3 := Lib.hid (HZ2.out.step hb); obtain ⟨c03, c13, lc3⟩ := net_box HZ3.out.b6; obtain ⟨d03, d13, ld3⟩ := net_box HZ3.out.b22; clear hb HM1) | (go_at_call 14; refine (HM2.out _ _ _ HZ3.out.lm HZ3.out.iv).mono ?_; rintro e y4 ⟨rfl, hb⟩; have HZ4 := Lib.hid (HZ3.out.step hb); obtain ⟨c04, c14, lc4⟩ := net_box HZ4.out.b6; obtain ⟨d04, d14, ld4⟩ := net_box HZ4.out.b22; clear hb HM2) | (go_at_call 15; refine (HE1.out _ _ _ HZ4.out.la HZ4.out.iv).mono ?_; rintro e y5 ⟨rfl, hb⟩; have HZ5 := Lib.hid (HZ4.out.step hb); obtain ⟨c05, c15, lc5⟩ := net_box HZ5.out.b6; obtain ⟨d05, d15, ld5⟩ := net_box HZ5.out.b22; clear hb HE1) | (go_at_call 15; refine (HE2.out _ _ _ HZ5.out.lm HZ5.out.iv).mono ?_; rintro e y6 ⟨rfl, hb⟩; have HZ6 := Lib.hid (HZ5.out.step hb); obtain ⟨c06, c16, lc6⟩ := net_box HZ6.out.b6; obtain ⟨d06, d16, ld6⟩ := net_box HZ6.out.b22; clear hb HE2) | (go_at_call 16; refine (HD1.out _ _ _ HZ6.out.la).mono ?_; rintro e y7 ⟨rfl, hb⟩; have HZ7 := Lib.hid (HZ6.out.step hb); obtain ⟨c07, c17, lc7⟩ := net_box HZ7.out.b6; obtain ⟨d07, d17, ld7⟩ := net_box HZ7.out.b22; clear hb HD1) | (go_at_call 16; refine (HD2.out _ _ _ HZ7.out.lm).mono ?_; rintro e y8 ⟨rfl, hb⟩; have HZ8 := Lib.hid (HZ7.out.step hb); obtain ⟨c08, c18, lc8⟩ := net_box HZ8.out.b6; obtain ⟨d08, d18, ld8⟩ := net_box HZ8.out.b22; clear hb HD2) | (go_at_call 6; refine (sanity_any _).mono ?_; rintro e y9 ⟨rfl, hb⟩; have HB99 := Lib.hid (below_trans HZ8.out.bel hb); clear hb))
      go_ret
      exact ⟨by first | rfl | simp, HB99.out⟩
end Go.Proofs.YtmhiiomejopaoaaGreatDoor
