/- The law DateSums: the walk. -/
import Derived.Test.YteoembjghmgbhaaDoorW7
import Derived.Test.YteoembjghmgbhaaDoorE0
namespace Go.Proofs.YteoembjghmgbhaaDoor
set_option linter.all false
open Go.RowKit

theorem alike_gi (r a : Int) : ∀ j, (∀ i : Nat, i < (alikeN r a j).length → gi (alikeN r a j) i = 12 * (a + i) + r) ∧ ((alikeN r a j).length = j ∨ 1971 < 12 * (a + (alikeN r a j).length) + r)
  | 0 => ⟨fun i h => by simp [alikeN] at h, .inl (by simp [alikeN])⟩
  | j + 1 => by
    obtain ⟨h1, h2⟩ := alike_gi r a j
    have hl := alikeN_len r a j
    unfold alikeN
    split
    · rename_i hc
      have hlen : (alikeN r a j).length = j := by
        rcases h2 with h2 | h2
        · exact h2
        · omega
      refine ⟨fun i hi => ?_, .inl (by simp [hlen])⟩
      rw [List.length_append, List.length_singleton] at hi
      by_cases hij : i < (alikeN r a j).length
      · rw [← h1 i hij]
        simp [gi, List.getD_eq_getElem?_getD, List.getElem?_append_left hij]
      · have : i = j := by omega
        subst this
        simp [gi, List.getD_eq_getElem?_getD, List.getElem?_append_right (show (alikeN r a i).length ≤ i by omega), hlen]
    · rename_i hc
      rw [List.append_nil]
      refine ⟨h1, .inr ?_⟩
      rcases h2 with h2 | h2
      · rw [h2]; omega
      · exact h2
/-- What Alike gives. -/
def AlikeRet (month : Int) (y : Sp) (l : List Int) (e0 : Int) : Prop := ∀ W, Calls Tryd.prog 37 #[.int .i64 month, spv y] W fun e w' => ∃ A c, e = .returned (.tuple #[.slice A l.length c, .int .i64 e0]) ∧ IntsAt w' A l ∧ (A = none → l.length = 0 ∧ c = 0) ∧ Below W.heap.size W w'
theorem alike_ret (month : Int) (y : Sp) : AlikeRet month y (alikeL month y) (if alikeG month y then 0 else 1) := by
  intro W
  cases hg : alikeG month y
  · have hl : alikeL month y = [] := by unfold alikeL; rw [hg]; rfl
    rw [hl]
    refine (Alike_bad month y W hg).mono ?_
    rintro e w' ⟨rfl, hb⟩
    exact ⟨none, 0, rfl, fun i h0 hi => by simp at hi; omega, fun _ => ⟨rfl, rfl⟩, hb⟩
  · refine (Alike_good month y W hg).mono ?_
    rintro e w' ⟨v, rfl, ho, hb⟩
    obtain ⟨A, c, rfl, _, hn, _⟩ := own_slice ho
    exact ⟨A, c, rfl, own_ints ho, hn, hb⟩
set_option maxRecDepth 100000 in
set_option maxHeartbeats 1000000 in
theorem sums_bad (day m n dy dm dd e0 : Int) (s : Sp) (w : World) (hT : Tab w) (h1 : Ret 16 #[.int .i64 day] (.tuple #[.agg #[.int .i64 dy, .int .i64 dm, .int .i64 dd], .int .i64 e0])) (hc : e0 ≠ 0 ∨ 28 < dd ∨ m < -5000 ∨ 5000 < m ∨ n < -5000 ∨ 5000 < n) :
    Calls Tryd.prog 9 #[.int .i64 day, .int .i64 m, .int .i64 n, spv s] w fun e w' => e = .returned (.bool true) ∧ Below w.heap.size w w' := by
  have HT := Lib.hid hT
  have O1 := Lib.hid h1
  unfold Ret at *
  obtain ⟨sa, sb⟩ := s
  unfold spv
  simp only
  clear hT h1
  by_cases c1 : e0 = 0
  · have t1 : (e0 != 0) = false := by simpa using c1
    by_cases c2 : 28 < dd
    · have t2 : decide (28 < dd) = true := decide_eq_true c2
      go_enter Tryd.func9, Tryd.ntmps9
      go_wp2_with (first | (go_at_call 16; refine (O1.out _).mono ?_; rintro e w1 ⟨rfl, hb⟩; have HB1 := Lib.hid (below_trans (bel : Below w.heap.size w (w.alloc _)) hb); clear hb) | (go_at_call 22; refine (sanity_any _ (HT.out.below (HB1.out.alloc HB1.out.size _))).mono ?_; rintro e w9 ⟨rfl, hb⟩; have HB9 := Lib.hid (below_trans (HB1.out.alloc HB1.out.size _) hb); clear hb))
      go_ret
      exact ⟨by simp, HB9.out⟩
    · have t2 : decide (28 < dd) = false := decide_eq_false c2
      by_cases c3 : m < -5000
      · have t3 : decide (m < -5000) = true := decide_eq_true c3
        go_enter Tryd.func9, Tryd.ntmps9
        go_wp2_with (first | (go_at_call 16; refine (O1.out _).mono ?_; rintro e w1 ⟨rfl, hb⟩; have HB1 := Lib.hid (below_trans (bel : Below w.heap.size w (w.alloc _)) hb); clear hb) | (go_at_call 22; refine (sanity_any _ (HT.out.below (HB1.out.alloc HB1.out.size _))).mono ?_; rintro e w9 ⟨rfl, hb⟩; have HB9 := Lib.hid (below_trans (HB1.out.alloc HB1.out.size _) hb); clear hb))
        go_ret
        exact ⟨by simp, HB9.out⟩
      · have t3 : decide (m < -5000) = false := decide_eq_false c3
        by_cases c4 : 5000 < m
        · have t4 : decide (5000 < m) = true := decide_eq_true c4
          go_enter Tryd.func9, Tryd.ntmps9
          go_wp2_with (first | (go_at_call 16; refine (O1.out _).mono ?_; rintro e w1 ⟨rfl, hb⟩; have HB1 := Lib.hid (below_trans (bel : Below w.heap.size w (w.alloc _)) hb); clear hb) | (go_at_call 22; refine (sanity_any _ (HT.out.below (HB1.out.alloc HB1.out.size _))).mono ?_; rintro e w9 ⟨rfl, hb⟩; have HB9 := Lib.hid (below_trans (HB1.out.alloc HB1.out.size _) hb); clear hb))
          go_ret
          exact ⟨by simp, HB9.out⟩
        · have t4 : decide (5000 < m) = false := decide_eq_false c4
          by_cases c5 : n < -5000
          · have t5 : decide (n < -5000) = true := decide_eq_true c5
            go_enter Tryd.func9, Tryd.ntmps9
            go_wp2_with (first | (go_at_call 16; refine (O1.out _).mono ?_; rintro e w1 ⟨rfl, hb⟩; have HB1 := Lib.hid (below_trans (bel : Below w.heap.size w (w.alloc _)) hb); clear hb) | (go_at_call 22; refine (sanity_any _ (HT.out.below (HB1.out.alloc HB1.out.size _))).mono ?_; rintro e w9 ⟨rfl, hb⟩; have HB9 := Lib.hid (below_trans (HB1.out.alloc HB1.out.size _) hb); clear hb))
            go_ret
            exact ⟨by simp, HB9.out⟩
          · have t5 : decide (n < -5000) = false := decide_eq_false c5
            have t6 : decide (5000 < n) = true := decide_eq_true (by omega)
            go_enter Tryd.func9, Tryd.ntmps9
            go_wp2_with (first | (go_at_call 16; refine (O1.out _).mono ?_; rintro e w1 ⟨rfl, hb⟩; have HB1 := Lib.hid (below_trans (bel : Below w.heap.size w (w.alloc _)) hb); clear hb) | (go_at_call 22; refine (sanity_any _ (HT.out.below (HB1.out.alloc HB1.out.size _))).mono ?_; rintro e w9 ⟨rfl, hb⟩; have HB9 := Lib.hid (below_trans (HB1.out.alloc HB1.out.size _) hb); clear hb))
            go_ret
            exact ⟨by simp, HB9.out⟩
  · have t1 : (e0 != 0) = true := by simpa using c1
    clear hc
    go_enter Tryd.func9, Tryd.ntmps9
    go_wp2_with (first | (go_at_call 16; refine (O1.out _).mono ?_; rintro e w1 ⟨rfl, hb⟩; have HB1 := Lib.hid (below_trans (bel : Below w.heap.size w (w.alloc _)) hb); clear hb) | (go_at_call 22; refine (sanity_any _ (HT.out.below (HB1.out.alloc HB1.out.size _))).mono ?_; rintro e w9 ⟨rfl, hb⟩; have HB9 := Lib.hid (below_trans (HB1.out.alloc HB1.out.size _) hb); clear hb))
    go_ret
    exact ⟨by simp, HB9.out⟩
set_option maxRecDepth 100000 in
set_option maxHeartbeats 600000 in
theorem sums_good (day m n dy dm dd : Int) (s : Sp) (w : World) (hT : Tab w) (one g all h two i x0 x1 : Int) (mo e1 : Int) (l : List Int)
    (h1 : Ret 16 #[.int .i64 day] (.tuple #[.agg #[.int .i64 dy, .int .i64 dm, .int .i64 dd], .int .i64 0])) (hd28 : dd ≤ 28) (hmb : -5000 ≤ m ∧ m ≤ 5000) (hnb : -5000 ≤ n ∧ n ≤ 5000)
    (hz : Ret 28 #[.int .i64 day, .int .i64 0] (.tuple #[.int .i64 day, .int .i64 0])) (h2 : Ret 28 #[.int .i64 day, .int .i64 m] (.tuple #[.int .i64 one, .int .i64 g])) (h3 : Ret 28 #[.int .i64 day, .int .i64 (m + n)] (.tuple #[.int .i64 all, .int .i64 h]))
    (h4 : g = 0 → Ret 28 #[.int .i64 one, .int .i64 n] (.tuple #[.int .i64 all, .int .i64 h])) (h5 : g = 0 → Ret 16 #[.int .i64 one] (.tuple #[.agg #[.int .i64 x0, .int .i64 x1, .int .i64 dd], .int .i64 0]))
    (h6 : Ret 30 #[.int .i64 day] (.tuple #[.int .i64 mo, .int .i64 0])) (h7 : AlikeRet mo s l e1) (hl : l.length ≤ 1000) (hgi : ∀ k : Nat, k + 1 < l.length → gi l (k + 1 : Nat) = gi l k + 12 ∧ -100000 ≤ gi l k ∧ gi l k ≤ 100000) (hfin : e1 ≠ 0 ∨ l.length = 0 ∨ (0 ≤ gi l (0 : Nat) ∧ 0 ≤ mo ∧ (gi l (0 : Nat)).tmod 12 = mo.tmod 12)) :
    Calls Tryd.prog 9 #[.int .i64 day, .int .i64 m, .int .i64 n, spv s] w fun e w' => e = .returned (.bool true) ∧ Below w.heap.size w w' := by
  have HT := Lib.hid hT
  have O1 := Lib.hid h1
  have LZ := Lib.hid hz
  have L1 := Lib.hid h2
  have L2 := Lib.hid h3
  have M1 := Lib.hid h6
  have AL := Lib.hid h7
  have H4 := Lib.hid h4
  have H5 := Lib.hid h5
  have HGI := Lib.hid hgi
  have HFIN := Lib.hid hfin
  unfold Ret AlikeRet at *
  obtain ⟨sa, sb⟩ := s
  unfold spv at *
  simp only at *
  clear hT h1 hz h2 h3 h4 h5 h6 h7 hgi hfin
  obtain ⟨m1, m2⟩ := hmb
  obtain ⟨n1, n2⟩ := hnb
  have t2 : decide (28 < dd) = false := decide_eq_false (by omega)
  have t3 : decide (m < -5000) = false := decide_eq_false (by omega)
  have t4 : decide (5000 < m) = false := decide_eq_false (by omega)
  have t5 : decide (n < -5000) = false := decide_eq_false (by omega)
  have t6 : decide (5000 < n) = false := decide_eq_false (by omega)
  by_cases hg : g = 0
  · have H4g := Lib.hid (H4.out hg)
    have H5g := Lib.hid (H5.out hg)
    clear H4 H5
    subst hg
    go_enter Tryd.func9, Tryd.ntmps9
    go_upto_region 2 with (first | (go_at_call 16; refine (O1.out _).mono ?_; rintro e w1 ⟨rfl, hb⟩; have HB1 := Lib.hid (below_trans (bel : Below w.heap.size w (w.alloc _)) hb); have Y1 := Lib.hid (lnew hb); clear hb O1))
    obtain ⟨W, hWe⟩ : ∃ W, W = (w1.alloc (Obj.cells #[.int .i64 dy, .int .i64 dm, .int .i64 dd] 23)) := ⟨_, rfl⟩
    have HWB := Lib.hid (show Below w.heap.size w W by rw [hWe]; exact HB1.out.alloc HB1.out.size _)
    have YW := Lib.hid (show W.heap[w.heap.size]? = some (.cells #[.int .i64 sa, .int .i64 sb] 37 (0, 0)) by rw [hWe]; exact (heap_alloc_old w1 _ (Array.getElem?_eq_some_iff.1 Y1.out).1).trans Y1.out)
    have AW := Lib.hid (show W.heap[w1.heap.size]? = some (.cells #[.int .i64 dy, .int .i64 dm, .int .i64 dd] 23 (0, 0)) by rw [hWe]; exact heap_alloc_new w1 _)
    obtain ⟨p0, p1, p2, _, _, _, lp⟩ := cells3 AW.out
    rw [← hWe]
    clear hWe
    go_upto_region 19 with (first | (go_at_call 28; refine (LZ.out _).mono ?_; rintro e w2 ⟨rfl, hb⟩; have HB2 := Lib.hid (below_trans HWB.out hb); have Y2 := Lib.hid (lift0 hb YW.out); have A2 := Lib.hid (lift0 hb AW.out); clear hb LZ) | (go_at_call 28; refine (L1.out _).mono ?_; rintro e w3 ⟨rfl, hb⟩; have HB3 := Lib.hid (below_trans HB2.out hb); have Y3 := Lib.hid (lift0 hb Y2.out); have A3 := Lib.hid (lift0 hb A2.out); clear hb L1) | (go_at_call 28; refine (L2.out _).mono ?_; rintro e w4 ⟨rfl, hb⟩; have HB4 := Lib.hid (below_trans HB3.out hb); have Y4 := Lib.hid (lift0 hb Y3.out); have A4 := Lib.hid (lift0 hb A3.out); clear hb L2) | (go_at_call 28; refine (H4g.out _).mono ?_; rintro e w5 ⟨rfl, hb⟩; have HB5 := Lib.hid (below_trans HB4.out hb); have Y5 := Lib.hid (lift0 hb Y4.out); have A5 := Lib.hid (lift0 hb A4.out); clear hb H4g) | (go_at_call 16; refine (H5g.out _).mono ?_; rintro e w6 ⟨rfl, hb⟩; have HB6 := Lib.hid (below_trans HB5.out hb); have Y6 := Lib.hid (lift0 hb Y5.out); have A6 := Lib.hid (lift0 hb A5.out); obtain ⟨a0, a1, a2, _, _, _, la⟩ := cells3 A6.out; clear hb H5g) | (go_at_call 30; refine (M1.out _).mono ?_; rintro e w7 ⟨rfl, hb⟩; have HB7 := Lib.hid (below_trans (HB6.out.alloc HB6.out.size _) hb); have Y7 := Lib.hid (lift1 hb Y6.out); obtain ⟨y0, y1, _, _, ly⟩ := cells2 Y7.out; clear hb M1) | (go_at_call 37; refine (AL.out _).mono ?_; rintro e w8 ⟨A, c, rfl, hia, hnil, hb⟩; have HB8 := Lib.hid (below_trans HB7.out hb); have HI8 := Lib.hid hia; have HN8 := Lib.hid hnil; clear hb hia hnil AL))
    go_loopw [25] (fun i wr => ∃ k : Nat, k ≤ 1000 ∧ 1 ≤ k ∧ (k ≤ l.length ∨ k = 1) ∧ i = .int .i64 k ∧ Hid (Below w8.heap.size w8 wr)) (fun i _ => 1000 + 1 - (intOf i).toNat)
    case atStart => exact ⟨1, by omega, by omega, .inr rfl, rfl, Lib.hid (Below.refl _ _)⟩
    case round =>
      obtain ⟨k, hk1, hk2, hk3, rfl, HB⟩ := hrel
      by_cases hlt : k < l.length
      · obtain ⟨j, rfl⟩ : ∃ j, k = j + 1 := ⟨k - 1, by omega⟩
        obtain ⟨b, o, rfl, g1⟩ := (HI8.out.below HB.out).nat (j + 1) hlt
        obtain ⟨b2, o2, e2, g2⟩ := (HI8.out.below HB.out).nat j (by omega)
        injection e2 with e2
        injection e2 with e3 e4
        subst e3 e4
        obtain ⟨q1, q2, q3⟩ := HGI.out j hlt
        rw [q1] at g1
        generalize gi l (j : Int) = z at *
        have l1 := World.block_lt_of_cell? _ _ g1
        go_wp2
        go_quiet (fail)
        go_wp2
        go_roundw
        case rel => exact ⟨j + 1 + 1, by omega, by omega, .inl (by omega), by go_num, Lib.hid (below_dN HB.out _)⟩
        case measure => simp [intOf]; omega
      · have hlast := hlt
        go_upto_region 23 with fail
        have HBF := Lib.hid (HB8.out.trans (HB.out.mono HB8.out.size))
        have HIF := Lib.hid (HI8.out.below HB.out)
        by_cases he1 : e1 = 0
        · subst he1
          by_cases hl0 : l.length = 0
          · have hl0' : ((l.length : Int) == 0) = true := by simpa using hl0
            go_wp2_with (first | (go_at_call 22; refine (sanity_any _ (HT.out.below HBF.out)).mono ?_; rintro e w9 ⟨rfl, hb⟩; have HB9 := Lib.hid (below_trans HBF.out hb); clear hb))
            go_ret
            exact ⟨by simp, HB9.out⟩
          · obtain ⟨f1, f2, f3⟩ : 0 ≤ gi l (0 : Nat) ∧ 0 ≤ mo ∧ (gi l (0 : Nat)).tmod 12 = mo.tmod 12 := by rcases HFIN.out with h | h | h; exact absurd rfl h; exact absurd h hl0; exact h
            obtain ⟨b, o, rfl, g1⟩ := HIF.out.nat 0 (by omega)
            rw [Nat.add_zero] at g1
            have l1 := World.block_lt_of_cell? _ _ g1
            generalize gi l ((0 : Nat) : Int) = z at *
            have hpos : (0 : Int) < (l.length : Int) := by omega
            have hl0' : ((l.length : Int) == 0) = false := by rw [beq_eq_false_iff_ne]; omega
            go_wp2_with (first | (go_at_call 22; refine (sanity_any _ (HT.out.below HBF.out)).mono ?_; rintro e w9 ⟨rfl, hb⟩; have HB9 := Lib.hid (below_trans HBF.out hb); have g9 := (hb.cell l1).trans g1; clear hb))
            go_ret
            exact ⟨by simp, HB9.out⟩
        · have te : (e1 != 0) = true := by simpa using he1
          go_wp2_with (first | (go_at_call 22; refine (sanity_any _ (HT.out.below HBF.out)).mono ?_; rintro e w9 ⟨rfl, hb⟩; have HB9 := Lib.hid (below_trans HBF.out hb); clear hb))
          go_ret
          exact ⟨by simp, HB9.out⟩
  · have tg : (g == 0) = false := by simpa using hg
    clear hg H4 H5
    go_enter Tryd.func9, Tryd.ntmps9
    go_upto_region 2 with (first | (go_at_call 16; refine (O1.out _).mono ?_; rintro e w1 ⟨rfl, hb⟩; have HB1 := Lib.hid (below_trans (bel : Below w.heap.size w (w.alloc _)) hb); have Y1 := Lib.hid (lnew hb); clear hb O1))
    obtain ⟨W, hWe⟩ : ∃ W, W = (w1.alloc (Obj.cells #[.int .i64 dy, .int .i64 dm, .int .i64 dd] 23)) := ⟨_, rfl⟩
    have HWB := Lib.hid (show Below w.heap.size w W by rw [hWe]; exact HB1.out.alloc HB1.out.size _)
    have YW := Lib.hid (show W.heap[w.heap.size]? = some (.cells #[.int .i64 sa, .int .i64 sb] 37 (0, 0)) by rw [hWe]; exact (heap_alloc_old w1 _ (Array.getElem?_eq_some_iff.1 Y1.out).1).trans Y1.out)
    have AW := Lib.hid (show W.heap[w1.heap.size]? = some (.cells #[.int .i64 dy, .int .i64 dm, .int .i64 dd] 23 (0, 0)) by rw [hWe]; exact heap_alloc_new w1 _)
    obtain ⟨p0, p1, p2, _, _, _, lp⟩ := cells3 AW.out
    rw [← hWe]
    clear hWe
    go_upto_region 19 with (first | (go_at_call 28; refine (LZ.out _).mono ?_; rintro e w2 ⟨rfl, hb⟩; have HB2 := Lib.hid (below_trans HWB.out hb); have Y2 := Lib.hid (lift0 hb YW.out); have A2 := Lib.hid (lift0 hb AW.out); clear hb LZ) | (go_at_call 28; refine (L1.out _).mono ?_; rintro e w3 ⟨rfl, hb⟩; have HB3 := Lib.hid (below_trans HB2.out hb); have Y3 := Lib.hid (lift0 hb Y2.out); have A3 := Lib.hid (lift0 hb A2.out); clear hb L1) | (go_at_call 28; refine (L2.out _).mono ?_; rintro e w4 ⟨rfl, hb⟩; have HB4 := Lib.hid (below_trans HB3.out hb); have Y4 := Lib.hid (lift0 hb Y3.out); have A4 := Lib.hid (lift0 hb A3.out); clear hb L2) | (go_at_call 30; refine (M1.out _).mono ?_; rintro e w7 ⟨rfl, hb⟩; have HB7 := Lib.hid (below_trans HB4.out hb); have Y7 := Lib.hid (lift0 hb Y4.out); obtain ⟨y0, y1, _, _, ly⟩ := cells2 Y7.out; clear hb M1) | (go_at_call 37; refine (AL.out _).mono ?_; rintro e w8 ⟨A, c, rfl, hia, hnil, hb⟩; have HB8 := Lib.hid (below_trans HB7.out hb); have HI8 := Lib.hid hia; have HN8 := Lib.hid hnil; clear hb hia hnil AL))
    go_loopw [25] (fun i wr => ∃ k : Nat, k ≤ 1000 ∧ 1 ≤ k ∧ (k ≤ l.length ∨ k = 1) ∧ i = .int .i64 k ∧ Hid (Below w8.heap.size w8 wr)) (fun i _ => 1000 + 1 - (intOf i).toNat)
    case atStart => exact ⟨1, by omega, by omega, .inr rfl, rfl, Lib.hid (Below.refl _ _)⟩
    case round =>
      obtain ⟨k, hk1, hk2, hk3, rfl, HB⟩ := hrel
      by_cases hlt : k < l.length
      · obtain ⟨j, rfl⟩ : ∃ j, k = j + 1 := ⟨k - 1, by omega⟩
        obtain ⟨b, o, rfl, g1⟩ := (HI8.out.below HB.out).nat (j + 1) hlt
        obtain ⟨b2, o2, e2, g2⟩ := (HI8.out.below HB.out).nat j (by omega)
        injection e2 with e2
        injection e2 with e3 e4
        subst e3 e4
        obtain ⟨q1, q2, q3⟩ := HGI.out j hlt
        rw [q1] at g1
        generalize gi l (j : Int) = z at *
        have l1 := World.block_lt_of_cell? _ _ g1
        go_wp2
        go_quiet (fail)
        go_wp2
        go_roundw
        case rel => exact ⟨j + 1 + 1, by omega, by omega, .inl (by omega), by go_num, Lib.hid (below_dN HB.out _)⟩
        case measure => simp [intOf]; omega
      · have hlast := hlt
        go_upto_region 23 with fail
        have HBF := Lib.hid (HB8.out.trans (HB.out.mono HB8.out.size))
        have HIF := Lib.hid (HI8.out.below HB.out)
        by_cases he1 : e1 = 0
        · subst he1
          by_cases hl0 : l.length = 0
          · have hl0' : ((l.length : Int) == 0) = true := by simpa using hl0
            go_wp2_with (first | (go_at_call 22; refine (sanity_any _ (HT.out.below HBF.out)).mono ?_; rintro e w9 ⟨rfl, hb⟩; have HB9 := Lib.hid (below_trans HBF.out hb); clear hb))
            go_ret
            exact ⟨by simp, HB9.out⟩
          · obtain ⟨f1, f2, f3⟩ : 0 ≤ gi l (0 : Nat) ∧ 0 ≤ mo ∧ (gi l (0 : Nat)).tmod 12 = mo.tmod 12 := by rcases HFIN.out with h | h | h; exact absurd rfl h; exact absurd h hl0; exact h
            obtain ⟨b, o, rfl, g1⟩ := HIF.out.nat 0 (by omega)
            rw [Nat.add_zero] at g1
            have l1 := World.block_lt_of_cell? _ _ g1
            generalize gi l ((0 : Nat) : Int) = z at *
            have hpos : (0 : Int) < (l.length : Int) := by omega
            have hl0' : ((l.length : Int) == 0) = false := by rw [beq_eq_false_iff_ne]; omega
            go_wp2_with (first | (go_at_call 22; refine (sanity_any _ (HT.out.below HBF.out)).mono ?_; rintro e w9 ⟨rfl, hb⟩; have HB9 := Lib.hid (below_trans HBF.out hb); have g9 := (hb.cell l1).trans g1; clear hb))
            go_ret
            exact ⟨by simp, HB9.out⟩
        · have te : (e1 != 0) = true := by simpa using he1
          go_wp2_with (first | (go_at_call 22; refine (sanity_any _ (HT.out.below HBF.out)).mono ?_; rintro e w9 ⟨rfl, hb⟩; have HB9 := Lib.hid (below_trans HBF.out hb); clear hb))
          go_ret
          exact ⟨by simp, HB9.out⟩
end Go.Proofs.YteoembjghmgbhaaDoor
