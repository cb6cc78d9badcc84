/- The flow laws: nets, its walk. -/
import Derived.Test.YtmhiiomejopaoaaV1
import Derived.Test.YtmhiiomejopaoaaV3
import Derived.Test.YtmhiiomejopaoaaN2
import Derived.Test.YtmhiiomejopaoaaQ3
namespace Go.Proofs.Ytmhiiomejopaoaa
set_option linter.all false
open Go.RowKit

theorem sameR_self (n : Int) (l : List Lk) : sameR n l n l = true := by simp [sameR]
theorem lks_nil (w : World) (A : Option Addr) : LksAt w A [] := fun i h0 hi => by simp at hi; omega
theorem rsame_nil (A : Option Addr) (c : Nat) (w : World) : Calls Try.prog 54 #[.agg #[.int .i64 0, .slice A 0 c], .agg #[.int .i64 0, .slice none 0 0]] w fun e w' => e = .returned (.bool true) ∧ Below w.heap.size w w' := by
  have h := rsame_any 0 0 A c [] none 0 [] w (Nat.zero_le _) (lks_nil _ _) (lks_nil _ _)
  rw [sameR_self] at h
  exact h
theorem rsame_same (n : Int) (x : List Lk) (A : Option Addr) (c : Nat) (B : Option Addr) (d : Nat) (w : World) (hx : x.length ≤ 1000000) (h : LksAt w A x) (h' : LksAt w B x) : Calls Try.prog 54 #[.agg #[.int .i64 n, .slice A x.length c], .agg #[.int .i64 n, .slice B x.length d]] w fun e w' => e = .returned (.bool true) ∧ Below w.heap.size w w' := by
  have h := rsame_any n n A c x B d x w (by omega) h h'
  rw [sameR_self] at h
  exact h
set_option maxRecDepth 100000 in
set_option maxHeartbeats 40000000 in
theorem nets_walk (n : Int) (A : Option Addr) (c : Nat) (l : List Lk) (B : Option Addr) (d : Nat) (m : List Lk) (C : Option Addr) (f : Nat) (S : List Int) (D : Option Addr) (g : Nat) (x : List Int) (w : World)
    (h : LksAt w A l) (hn : A = none → l.length = 0 ∧ c = 0) (h0 : LksAt w B m) (hn0 : B = none → m.length = 0 ∧ d = 0) (h1 : IntsAt w C S) (h2 : IntsAt w D x) (hl : l.length ≤ 9223372036854775807) (hm : m.length ≤ 9223372036854775807) (hS : S.length ≤ 9223372036854775807) (hx : x.length ≤ 9223372036854775807) :
    Calls Try.prog 9 #[.agg #[.int .i64 n, .slice A l.length c], .slice B m.length d, .slice C S.length f, .slice D x.length g] w fun e w' => e = .returned (.bool true) ∧ Below w.heap.size w w' := by
  have HA := Lib.hid h
  have HM := Lib.hid h0
  have HS := Lib.hid h1
  have HX := Lib.hid h2
  have HN := Lib.hid hn
  have HN0 := Lib.hid hn0
  clear h h0 h1 h2 hn hn0
  cases hs : smallB n l.length
  · skip
    go_enter Try.func9, Try.ntmps9
    go_wp2_with (first | (go_at_call 27; refine (small_any n A c l.length _).mono ?_; rw [hs]; rintro e w1 ⟨rfl, hb⟩; have HB1 := Lib.hid (boxed hb).1; obtain ⟨c0, c1, lw⟩ := (boxed hb).2; clear hb) | (go_at_call 17; refine (sanity_any _).mono ?_; rintro e wz ⟨rfl, hb⟩; have HBz := Lib.hid (below_trans HB1.out hb); clear hb))
    go_ret
    exact ⟨rfl, HBz.out⟩
  · have hl2 := small_len hs
    by_cases hm12 : 12 < m.length
    · skip
      go_enter Try.func9, Try.ntmps9
      go_wp2_with (first | (go_at_call 27; refine (small_any n A c l.length _).mono ?_; rw [hs]; rintro e w1 ⟨rfl, hb⟩; have HB1 := Lib.hid (boxed hb).1; obtain ⟨c0, c1, lw⟩ := (boxed hb).2; clear hb) | (go_at_call 17; refine (sanity_any _).mono ?_; rintro e wz ⟨rfl, hb⟩; have HBz := Lib.hid (below_trans HB1.out hb); clear hb))
      go_ret
      exact ⟨rfl, HBz.out⟩
    · skip
      by_cases hS12 : 12 < S.length
      · skip
        go_enter Try.func9, Try.ntmps9
        go_wp2_with (first | (go_at_call 27; refine (small_any n A c l.length _).mono ?_; rw [hs]; rintro e w1 ⟨rfl, hb⟩; have HB1 := Lib.hid (boxed hb).1; obtain ⟨c0, c1, lw⟩ := (boxed hb).2; clear hb) | (go_at_call 17; refine (sanity_any _).mono ?_; rintro e wz ⟨rfl, hb⟩; have HBz := Lib.hid (below_trans HB1.out hb); clear hb))
        go_ret
        exact ⟨rfl, HBz.out⟩
      · skip
        by_cases hx60 : 60 < x.length
        · skip
          go_enter Try.func9, Try.ntmps9
          go_wp2_with (first | (go_at_call 27; refine (small_any n A c l.length _).mono ?_; rw [hs]; rintro e w1 ⟨rfl, hb⟩; have HB1 := Lib.hid (boxed hb).1; obtain ⟨c0, c1, lw⟩ := (boxed hb).2; clear hb) | (go_at_call 17; refine (sanity_any _).mono ?_; rintro e wz ⟨rfl, hb⟩; have HBz := Lib.hid (below_trans HB1.out hb); clear hb))
          go_ret
          exact ⟨rfl, HBz.out⟩
        · skip
          have HLE := Lib.hid (show l.length ≤ 270 ∧ m.length ≤ 12 ∧ S.length ≤ 12 ∧ x.length ≤ 60 by omega)
          have HRC := Lib.hid (fun W h1 => rcheck_any n A c l W hl h1)
          have HCK := Lib.hid (fun W h1 => check_any n A c l W hl h1)
          have HWI := Lib.hid (fun W h1 h2 => with_any n A c l B d m W (by omega) HN.out HN0.out h1 h2)
          have HWO := Lib.hid (fun W h1 h2 => without_any n A c l C f S W (by omega) (by omega) h1 h2)
          have HFI := Lib.hid (fun W h1 h2 => Fits_any n A c l D g x W hl (by omega) h1 h2)
          obtain ⟨e0, he0⟩ : ∃ e0, checkL n l = e0 := ⟨_, rfl⟩
          rw [he0] at HRC HCK
          by_cases hz : e0 = 0
          case neg =>
            have hz' : (e0 != 0) = true := by simpa using hz
            have e1 : withR n l m = ((0, []), e0) := by unfold withR; rw [he0, if_pos hz]
            have e2 : withoutR n l S = ((0, []), e0) := by unfold withoutR; rw [he0, if_pos hz]
            have e3 : fitsR n l x = (false, e0) := by unfold fitsR; rw [he0, if_pos hz]
            rw [e1] at HWI
            rw [e2] at HWO
            rw [e3] at HFI
            clear e1 e2 e3 hz he0 hl hm hS hx
            have MK := Lib.hid True.intro
            go_enter Try.func9, Try.ntmps9
            go_wp2_with (first | (go_at_call 27; refine (small_any n A c l.length _).mono ?_; rw [hs]; rintro e w1 ⟨rfl, hb⟩; have HB1 := Lib.hid (boxed hb).1; obtain ⟨c0, c1, lw⟩ := (boxed hb).2; clear hb) | (go_at_call 33; refine (HRC.out _ (HA.out.below HB1.out)).mono ?_; rintro e w2 ⟨rfl, hb⟩; have HB2 := Lib.hid (below_trans HB1.out hb); have c0 := cell_below hb c0; have c1 := cell_below hb c1; have lw := World.block_lt_of_cell? _ _ c0; clear hb HRC) | (go_at_call 31; refine (HWI.out _ (HA.out.below HB2.out) (HM.out.below HB2.out)).mono ?_; rintro e w3 ⟨v3, rfl, ⟨A3, c3, rfl, hv3, _⟩, hb⟩; have HB3 := Lib.hid (below_trans HB2.out hb); have c0 := cell_below hb c0; have c1 := cell_below hb c1; have lw := World.block_lt_of_cell? _ _ c0; have HV3 := Lib.hid hv3; clear hb HWI hv3) | (go_at_call 52; refine (HWO.out _ (HA.out.below (below_trans HB3.out bel)) (HS.out.below (below_trans HB3.out bel))).mono ?_; rintro e w4 ⟨v4, rfl, ⟨A4, c4, rfl, hv4, _⟩, hb⟩; have HB4 := Lib.hid (below_trans (below_trans HB3.out bel) hb); have c0 := cell_below hb (cell_alloc _ c0); have c1 := cell_below hb (cell_alloc _ c1); have d0 := cell_below (a := ⟨w3.heap.size, 0, none⟩) (v := .int .i64 0) hb (by go_simp); have d1 := cell_below (a := ⟨w3.heap.size, 1, none⟩) (v := .slice A3 0 c3) hb (by go_simp); have lw := World.block_lt_of_cell? _ _ c0; have ld := World.block_lt_of_cell? _ _ d0; have HV3 := Lib.hid ((HV3.out.alloc _).below hb); have HV4 := Lib.hid hv4; clear hb HWO hv4) | (go_at_call 37; refine (HFI.out _ (HA.out.below (below_trans HB4.out bel)) (HX.out.below (below_trans HB4.out bel))).mono ?_; rintro e w5 ⟨rfl, hb⟩; have HB5 := Lib.hid (below_trans (below_trans HB4.out bel) hb); have c0 := cell_below hb (cell_alloc _ c0); have c1 := cell_below hb (cell_alloc _ c1); have d0 := cell_below hb (cell_alloc _ d0); have d1 := cell_below hb (cell_alloc _ d1); have g0 := cell_below (a := ⟨w4.heap.size, 0, none⟩) (v := .int .i64 0) hb (by go_simp); have g1 := cell_below (a := ⟨w4.heap.size, 1, none⟩) (v := .slice A4 0 c4) hb (by go_simp); have lw := World.block_lt_of_cell? _ _ c0; have ld := World.block_lt_of_cell? _ _ d0; have lg := World.block_lt_of_cell? _ _ g0; have HV3 := Lib.hid ((HV3.out.alloc _).below hb); have HV4 := Lib.hid ((HV4.out.alloc _).below hb); clear hb HFI) | (go_at_call 53; refine (HCK.out _ (HA.out.below HB5.out)).mono ?_; rintro e w6 ⟨rfl, hb⟩; have HB6 := Lib.hid (below_trans HB5.out hb); have c0 := cell_below hb c0; have c1 := cell_below hb c1; have d0 := cell_below hb d0; have d1 := cell_below hb d1; have g0 := cell_below hb g0; have g1 := cell_below hb g1; have lw := World.block_lt_of_cell? _ _ c0; have ld := World.block_lt_of_cell? _ _ d0; have lg := World.block_lt_of_cell? _ _ g0; have HV3 := Lib.hid (HV3.out.below hb); have HV4 := Lib.hid (HV4.out.below hb); clear hb HCK) | (go_at_call 17; refine (sanity_any _).mono ?_; rintro e wz ⟨rfl, hb⟩; have HBz := Lib.hid (below_trans HB6.out hb); have d0 := cell_below hb d0; have d1 := cell_below hb d1; have g0 := cell_below hb g0; have g1 := cell_below hb g1; have ld := World.block_lt_of_cell? _ _ d0; have lg := World.block_lt_of_cell? _ _ g0; clear hb) | (go_at_call 54; have hmk := MK.out; clear hmk MK; refine (rsame_nil A3 c3 _).mono ?_; rintro e wy ⟨rfl, hb⟩; have HBy := Lib.hid (below_trans HBz.out hb); have g0 := cell_below hb g0; have g1 := cell_below hb g1; have lg := World.block_lt_of_cell? _ _ g0; clear hb d0 d1) | (go_at_call 54; refine (rsame_nil A4 c4 _).mono ?_; rintro e wx ⟨rfl, hb⟩; have HBx := Lib.hid (below_trans HBy.out hb); clear hb g0 g1))
            go_ret
            exact ⟨rfl, HBx.out⟩
          case pos =>
            subst hz
            obtain ⟨L2, hL2⟩ : ∃ L2, l ++ m = L2 := ⟨_, rfl⟩
            obtain ⟨K2, hK2⟩ : ∃ K2, keptL l (notIn S) = K2 := ⟨_, rfl⟩
            have HL2 := Lib.hid (show L2.length ≤ 282 by rw [← hL2, List.length_append]; omega)
            have HK2 := Lib.hid (show K2.length ≤ 270 by rw [← hK2]; have := keptL_len l (notIn S); omega)
            have e2 : withoutR n l S = ((n, K2), 0) := by unfold withoutR; rw [he0, hK2]; rfl
            have e3 : fitsR n l x = if areB n x = false then (false, 1) else (fitsB x l, 0) := by unfold fitsR; rw [he0]; rfl
            rw [e2] at HWO
            have HRW := Lib.hid (fun W h1 h2 => rwith_any n A c l B d m W (by omega) HN.out HN0.out h1 h2)
            have HRO := Lib.hid (fun W h1 h2 => rwithout_any n A c l C f S W (by omega) (by omega) h1 h2)
            have HRV := Lib.hid (fun W h1 => rvalues_any n (.slice A l.length c) D g x W (by omega) h1)
            have HRF := Lib.hid (fun W h1 h2 h3 => rfits_any n A c l D g x W (by omega) (by omega) h1 h2 h3)
            rw [hL2] at HRW
            rw [hK2] at HRO
            have hok := check_ok he0
            have HIN := Lib.hid (fun (h : (x.length : Int) = n) => (show ∀ k ∈ l, InR x.length k from fun k hk => by rw [h]; exact (hok.lk k hk).1))
            have HE3 := Lib.hid e3
            have e1 : withR n l m = if checkL n L2 ≠ 0 then ((0, []), checkL n L2) else ((n, L2), 0) := by unfold withR; rw [he0, hL2]; rfl
            rw [e1] at HWI
            have HC2 := Lib.hid (fun W A7 c7 h1 => rcheck_any n A7 c7 L2 W (by have := HL2.out; omega) h1)
            obtain ⟨i0, hi0⟩ : ∃ i0, checkL n L2 = i0 := ⟨_, rfl⟩
            rw [hi0] at HWI HC2
            obtain ⟨ff, hff⟩ : ∃ ff, fitsR n l x = ff := ⟨_, rfl⟩
            rw [hff] at HFI HE3
            obtain ⟨f1, f2⟩ := ff
            clear e1 e2 e3 hL2 hK2 hi0 hff hok he0 hl hm hS hx
            by_cases hi : i0 = 0
            case pos =>
              subst hi
              rw [if_neg (by simp)] at HWI
              go_enter Try.func9, Try.ntmps9
              go_upto_region 15 with (first | (go_at_call 27; refine (small_any n A c l.length _).mono ?_; rw [hs]; rintro e w1 ⟨rfl, hb⟩; have HB1 := Lib.hid (boxed hb).1; obtain ⟨c0, c1, lw⟩ := (boxed hb).2; clear hb) | (go_at_call 33; refine (HRC.out _ (HA.out.below HB1.out)).mono ?_; rintro e w2 ⟨rfl, hb⟩; have HB2 := Lib.hid (below_trans HB1.out hb); have c0 := cell_below hb c0; have c1 := cell_below hb c1; have lw := World.block_lt_of_cell? _ _ c0; clear hb HRC) | (go_at_call 31; refine (HWI.out _ (HA.out.below HB2.out) (HM.out.below HB2.out)).mono ?_; rintro e w3 ⟨v3, rfl, ⟨A3, c3, rfl, hv3, _⟩, hb⟩; have HB3 := Lib.hid (below_trans HB2.out hb); have c0 := cell_below hb c0; have c1 := cell_below hb c1; have lw := World.block_lt_of_cell? _ _ c0; have HV3 := Lib.hid hv3; clear hb HWI hv3) | (go_at_call 52; refine (HWO.out _ (HA.out.below (below_trans HB3.out bel)) (HS.out.below (below_trans HB3.out bel))).mono ?_; rintro e w4 ⟨v4, rfl, ⟨A4, c4, rfl, hv4, _⟩, hb⟩; have HB4 := Lib.hid (below_trans (below_trans HB3.out bel) hb); have c0 := cell_below hb (cell_alloc _ c0); have c1 := cell_below hb (cell_alloc _ c1); have d0 := cell_below (a := ⟨w3.heap.size, 0, none⟩) (v := .int .i64 n) hb (by go_simp); have d1 := cell_below (a := ⟨w3.heap.size, 1, none⟩) (v := .slice A3 L2.length c3) hb (by go_simp); have lw := World.block_lt_of_cell? _ _ c0; have ld := World.block_lt_of_cell? _ _ d0; have HV3 := Lib.hid ((HV3.out.alloc _).below hb); have HV4 := Lib.hid hv4; clear hb HWO hv4) | (go_at_call 37; refine (HFI.out _ (HA.out.below (below_trans HB4.out bel)) (HX.out.below (below_trans HB4.out bel))).mono ?_; rintro e w5 ⟨rfl, hb⟩; have HB5 := Lib.hid (below_trans (below_trans HB4.out bel) hb); have c0 := cell_below hb (cell_alloc _ c0); have c1 := cell_below hb (cell_alloc _ c1); have d0 := cell_below hb (cell_alloc _ d0); have d1 := cell_below hb (cell_alloc _ d1); have g0 := cell_below (a := ⟨w4.heap.size, 0, none⟩) (v := .int .i64 n) hb (by go_simp); have g1 := cell_below (a := ⟨w4.heap.size, 1, none⟩) (v := .slice A4 K2.length c4) hb (by go_simp); have lw := World.block_lt_of_cell? _ _ c0; have ld := World.block_lt_of_cell? _ _ d0; have lg := World.block_lt_of_cell? _ _ g0; have HV3 := Lib.hid ((HV3.out.alloc _).below hb); have HV4 := Lib.hid ((HV4.out.alloc _).below hb); clear hb HFI) | (go_at_call 53; refine (HCK.out _ (HA.out.below HB5.out)).mono ?_; rintro e w6 ⟨rfl, hb⟩; have HB6 := Lib.hid (below_trans HB5.out hb); have c0 := cell_below hb c0; have c1 := cell_below hb c1; have d0 := cell_below hb d0; have d1 := cell_below hb d1; have g0 := cell_below hb g0; have g1 := cell_below hb g1; have lw := World.block_lt_of_cell? _ _ c0; have ld := World.block_lt_of_cell? _ _ d0; have lg := World.block_lt_of_cell? _ _ g0; have HV3 := Lib.hid (HV3.out.below hb); have HV4 := Lib.hid (HV4.out.below hb); clear hb HCK) | (go_at_call 55; refine (HRW.out _ (HA.out.below HB6.out) (HM.out.below HB6.out)).mono ?_; rintro e w7 ⟨v7, rfl, ⟨A7, c7, rfl, hv7, _⟩, hb⟩; have HB7 := Lib.hid (below_trans HB6.out hb); have c0 := cell_below hb c0; have c1 := cell_below hb c1; have d0 := cell_below hb d0; have d1 := cell_below hb d1; have g0 := cell_below hb g0; have g1 := cell_below hb g1; have lw := World.block_lt_of_cell? _ _ c0; have ld := World.block_lt_of_cell? _ _ d0; have lg := World.block_lt_of_cell? _ _ g0; have HV3 := Lib.hid (HV3.out.below hb); have HV4 := Lib.hid (HV4.out.below hb); have HV7 := Lib.hid hv7; have HNX := Lib.hid (show w.heap.size ≠ w7.heap.size ∧ w3.heap.size ≠ w7.heap.size ∧ w4.heap.size ≠ w7.heap.size by have h1 : w.heap.size < w7.heap.size := lw; have h2 : w3.heap.size < w7.heap.size := ld; have h3 : w4.heap.size < w7.heap.size := lg; omega); clear hb HRW hv7) | (go_at_call 33; (refine (HC2.out _ _ _ (HV7.out.alloc _)).mono ?_; rintro e w8 ⟨rfl, hb⟩; have HB8 := Lib.hid (below_trans (below_trans HB7.out bel) hb); have c0 := cell_below hb (cell_alloc _ c0); have c1 := cell_below hb (cell_alloc _ c1); have d0 := cell_below hb (cell_alloc _ d0); have d1 := cell_below hb (cell_alloc _ d1); have g0 := cell_below hb (cell_alloc _ g0); have g1 := cell_below hb (cell_alloc _ g1); have t0 := cell_below (a := ⟨w7.heap.size, 0, none⟩) (v := .int .i64 n) hb (by go_simp); have t1 := cell_below (a := ⟨w7.heap.size, 1, none⟩) (v := .slice A7 L2.length c7) hb (by go_simp); have u0 : w8.frozen? ⟨w7.heap.size, 0, none⟩ = false := (hb.frozen (p := ⟨w7.heap.size, 0, none⟩) (by simp)).trans (by go_simp); have u1 : w8.frozen? ⟨w7.heap.size, 1, none⟩ = false := (hb.frozen (p := ⟨w7.heap.size, 1, none⟩) (by simp)).trans (by go_simp); have lw := World.block_lt_of_cell? _ _ c0; have ld := World.block_lt_of_cell? _ _ d0; have lg := World.block_lt_of_cell? _ _ g0; have lt := World.block_lt_of_cell? _ _ t0; have HNE := Lib.hid (show w.heap.size ≠ w7.heap.size ∧ w3.heap.size ≠ w7.heap.size ∧ w4.heap.size ≠ w7.heap.size from HNX.out); have HLEW := Lib.hid (show w.heap.size ≤ w7.heap.size from HB7.out.size); have HAP := Lib.hid (show Apart A4 K2.length (some w7.heap.size) from HV4.out.apart (Nat.le_refl _)); have HV3 := Lib.hid ((HV3.out.alloc _).below hb); have HV4 := Lib.hid ((HV4.out.alloc _).below hb); have HV7 := Lib.hid ((HV7.out.alloc _).below hb); clear hb HC2)))
              have MK := Lib.hid True.intro
              go_cut [121] from 101 (fun s wx => s = .bool false ∧ Hid (Below w8.heap.size w8 wx))
              case first =>
                go_region_held3 (fun w' => w'.cell? ⟨w.heap.size, 0, none⟩ = some (.int .i64 n) ∧ w'.cell? ⟨w.heap.size, 1, none⟩ = some (.slice A l.length c) ∧ w'.cell? ⟨w3.heap.size, 0, none⟩ = some (.int .i64 n) ∧ w'.cell? ⟨w3.heap.size, 1, none⟩ = some (.slice A3 L2.length c3) ∧ w'.cell? ⟨w4.heap.size, 0, none⟩ = some (.int .i64 n) ∧ w'.cell? ⟨w4.heap.size, 1, none⟩ = some (.slice A4 K2.length c4) ∧ w'.cell? ⟨w7.heap.size, 0, none⟩ = some (.int .i64 n) ∧ w'.cell? ⟨w7.heap.size, 1, none⟩ = some (.slice A7 L2.length c7)) (exact ⟨c0, c1, d0, d1, g0, g1, t0, t1⟩) (first | (go_at_call 54; have hmk := MK.out; clear hmk MK; refine (rsame_same n L2 A3 c3 A7 c7 _ (by have := HL2.out; omega) ?h1 ?h2).mono ?_; (case h1 => first | exact HV3.out | exact HV3.out.drew); (case h2 => first | exact HV7.out | exact HV7.out.drew); rintro e wa ⟨rfl, hb⟩; have hbq : Below w8.heap.size w8 wa := (by first | exact hb | exact below_undrew hb);  have HBa := Lib.hid hbq; have c0 := cell_below hbq c0; have c1 := cell_below hbq c1; have d0 := cell_below hbq d0; have d1 := cell_below hbq d1; have g0 := cell_below hbq g0; have g1 := cell_below hbq g1; have t0 := cell_below hbq t0; have t1 := cell_below hbq t1; have lw := World.block_lt_of_cell? _ _ c0; have ld := World.block_lt_of_cell? _ _ d0; have lg := World.block_lt_of_cell? _ _ g0; have lt := World.block_lt_of_cell? _ _ t0; have HV4 := Lib.hid (HV4.out.below hbq); clear hb hbq) | (go_at_call 56; refine (HRO.out _ ?h1 ?h2).mono ?_; (case h1 => first | exact HA.out.below (below_trans HB8.out HBa.out) | exact (HA.out.below (below_trans HB8.out HBa.out)).drew); (case h2 => exact HS.out.below (below_trans HB8.out HBa.out)); rintro e wb ⟨v9, rfl, ⟨A9, c9, rfl, hv9, _⟩, hb⟩; have hbq : Below wa.heap.size wa wb := (by first | exact hb | exact below_undrew hb);  have HBb := Lib.hid (below_trans HBa.out hbq); have c0 := cell_below hbq c0; have c1 := cell_below hbq c1; have d0 := cell_below hbq d0; have d1 := cell_below hbq d1; have g0 := cell_below hbq g0; have g1 := cell_below hbq g1; have t0 := cell_below hbq t0; have t1 := cell_below hbq t1; have lw := World.block_lt_of_cell? _ _ c0; have ld := World.block_lt_of_cell? _ _ d0; have lg := World.block_lt_of_cell? _ _ g0; have lt := World.block_lt_of_cell? _ _ t0; have HV4 := Lib.hid (HV4.out.below hbq); have HV9 := Lib.hid hv9; clear hb hbq hv9 HRO) | (go_at_call 54; refine (rsame_same n K2 A4 c4 A9 c9 _ (by have := HK2.out; omega) ?h1 ?h2).mono ?_; (case h1 => first | exact HV4.out | exact HV4.out.drew); (case h2 => first | exact HV9.out | exact HV9.out.drew); rintro e wd ⟨rfl, hb⟩; have hbq : Below wb.heap.size wb wd := (by first | exact hb | exact below_undrew hb);  have HBd := Lib.hid (below_trans HBb.out hbq); have c0 := cell_below hbq c0; have c1 := cell_below hbq c1; have d0 := cell_below hbq d0; have d1 := cell_below hbq d1; have g0 := cell_below hbq g0; have g1 := cell_below hbq g1; have t0 := cell_below hbq t0; have t1 := cell_below hbq t1; have lw := World.block_lt_of_cell? _ _ c0; have ld := World.block_lt_of_cell? _ _ d0; have lg := World.block_lt_of_cell? _ _ g0; have lt := World.block_lt_of_cell? _ _ t0; clear hb hbq))
                all_goals
                  go_wp2_with fail
                  go_meet
                  exact ⟨rfl, by first | exact HBd | exact Lib.hid (below_drews HBd.out 1)⟩
              case rest =>
                obtain ⟨rfl, HBw⟩ := hcut
                have HB9 := Lib.hid (below_trans HB8.out HBw.out)
                have c0 := cell_below HBw.out c0
                have c1 := cell_below HBw.out c1
                have lw := World.block_lt_of_cell? _ _ c0
                clear d0 d1 g0 g1 t0 t1 ld lg lt
                cases har : areB n x
                · have hff := HE3.out
                  rw [har] at hff
                  obtain ⟨rfl, rfl⟩ : f1 = false ∧ f2 = 1 := by simpa using hff
                  clear hff HE3
                  go_wp2_with (first | (go_at_call 41; refine (HRV.out _ (HX.out.below HB9.out)).mono ?_; rw [har]; rintro e w10 ⟨rfl, hb⟩; have HB10 := Lib.hid (below_trans HB9.out hb); have c0 := cell_below hb c0; have c1 := cell_below hb c1; have lw := World.block_lt_of_cell? _ _ c0; clear hb HRV) | (go_at_call 17; refine (sanity_any _).mono ?_; rintro e wz ⟨rfl, hb⟩; have HBz := Lib.hid (below_trans HB10.out hb); have c0 := cell_below hb c0; have c1 := cell_below hb c1; have lw := World.block_lt_of_cell? _ _ c0; clear hb))
                  go_ret
                  exact ⟨rfl, HBz.out⟩
                · have hff := HE3.out
                  rw [har] at hff
                  obtain ⟨rfl, rfl⟩ : f1 = fitsB x l ∧ f2 = 0 := by simpa using hff
                  have HINX := Lib.hid (HIN.out (are_len har))
                  clear hff HE3
                  generalize fitsB x l = fb at *
                  go_wp2_with (first | (go_at_call 41; refine (HRV.out _ (HX.out.below HB9.out)).mono ?_; rw [har]; rintro e w10 ⟨rfl, hb⟩; have HB10 := Lib.hid (below_trans HB9.out hb); have c0 := cell_below hb c0; have c1 := cell_below hb c1; have lw := World.block_lt_of_cell? _ _ c0; clear hb HRV) | (go_at_call 17; refine (sanity_any _).mono ?_; rintro e wz ⟨rfl, hb⟩; have HBz := Lib.hid (below_trans HB10.out hb); have c0 := cell_below hb c0; have c1 := cell_below hb c1; have lw := World.block_lt_of_cell? _ _ c0; clear hb) | (go_at_call 51; refine (HRF.out _ (HA.out.below HBz.out) (HX.out.below HBz.out) HINX.out).mono ?_; rintro e wy ⟨rfl, hb⟩; have HBy := Lib.hid (below_trans HBz.out hb); clear hb HRF))
                  go_ret
                  cases fb <;> exact ⟨rfl, HBy.out⟩
            case neg =>
              have hi' : (i0 != 0) = true := by simpa using hi
              rw [if_pos (by simpa using hi)] at HWI
              clear hi
              go_enter Try.func9, Try.ntmps9
              go_upto_region 15 with (first | (go_at_call 27; refine (small_any n A c l.length _).mono ?_; rw [hs]; rintro e w1 ⟨rfl, hb⟩; have HB1 := Lib.hid (boxed hb).1; obtain ⟨c0, c1, lw⟩ := (boxed hb).2; clear hb) | (go_at_call 33; refine (HRC.out _ (HA.out.below HB1.out)).mono ?_; rintro e w2 ⟨rfl, hb⟩; have HB2 := Lib.hid (below_trans HB1.out hb); have c0 := cell_below hb c0; have c1 := cell_below hb c1; have lw := World.block_lt_of_cell? _ _ c0; clear hb HRC) | (go_at_call 31; refine (HWI.out _ (HA.out.below HB2.out) (HM.out.below HB2.out)).mono ?_; rintro e w3 ⟨v3, rfl, ⟨A3, c3, rfl, hv3, _⟩, hb⟩; have HB3 := Lib.hid (below_trans HB2.out hb); have c0 := cell_below hb c0; have c1 := cell_below hb c1; have lw := World.block_lt_of_cell? _ _ c0; have HV3 := Lib.hid hv3; clear hb HWI hv3) | (go_at_call 52; refine (HWO.out _ (HA.out.below (below_trans HB3.out bel)) (HS.out.below (below_trans HB3.out bel))).mono ?_; rintro e w4 ⟨v4, rfl, ⟨A4, c4, rfl, hv4, _⟩, hb⟩; have HB4 := Lib.hid (below_trans (below_trans HB3.out bel) hb); have c0 := cell_below hb (cell_alloc _ c0); have c1 := cell_below hb (cell_alloc _ c1); have d0 := cell_below (a := ⟨w3.heap.size, 0, none⟩) (v := .int .i64 0) hb (by go_simp); have d1 := cell_below (a := ⟨w3.heap.size, 1, none⟩) (v := .slice A3 0 c3) hb (by go_simp); have lw := World.block_lt_of_cell? _ _ c0; have ld := World.block_lt_of_cell? _ _ d0; have HV3 := Lib.hid ((HV3.out.alloc _).below hb); have HV4 := Lib.hid hv4; clear hb HWO hv4) | (go_at_call 37; refine (HFI.out _ (HA.out.below (below_trans HB4.out bel)) (HX.out.below (below_trans HB4.out bel))).mono ?_; rintro e w5 ⟨rfl, hb⟩; have HB5 := Lib.hid (below_trans (below_trans HB4.out bel) hb); have c0 := cell_below hb (cell_alloc _ c0); have c1 := cell_below hb (cell_alloc _ c1); have d0 := cell_below hb (cell_alloc _ d0); have d1 := cell_below hb (cell_alloc _ d1); have g0 := cell_below (a := ⟨w4.heap.size, 0, none⟩) (v := .int .i64 n) hb (by go_simp); have g1 := cell_below (a := ⟨w4.heap.size, 1, none⟩) (v := .slice A4 K2.length c4) hb (by go_simp); have lw := World.block_lt_of_cell? _ _ c0; have ld := World.block_lt_of_cell? _ _ d0; have lg := World.block_lt_of_cell? _ _ g0; have HV3 := Lib.hid ((HV3.out.alloc _).below hb); have HV4 := Lib.hid ((HV4.out.alloc _).below hb); clear hb HFI) | (go_at_call 53; refine (HCK.out _ (HA.out.below HB5.out)).mono ?_; rintro e w6 ⟨rfl, hb⟩; have HB6 := Lib.hid (below_trans HB5.out hb); have c0 := cell_below hb c0; have c1 := cell_below hb c1; have d0 := cell_below hb d0; have d1 := cell_below hb d1; have g0 := cell_below hb g0; have g1 := cell_below hb g1; have lw := World.block_lt_of_cell? _ _ c0; have ld := World.block_lt_of_cell? _ _ d0; have lg := World.block_lt_of_cell? _ _ g0; have HV3 := Lib.hid (HV3.out.below hb); have HV4 := Lib.hid (HV4.out.below hb); clear hb HCK) | (go_at_call 55; refine (HRW.out _ (HA.out.below HB6.out) (HM.out.below HB6.out)).mono ?_; rintro e w7 ⟨v7, rfl, ⟨A7, c7, rfl, hv7, _⟩, hb⟩; have HB7 := Lib.hid (below_trans HB6.out hb); have c0 := cell_below hb c0; have c1 := cell_below hb c1; have d0 := cell_below hb d0; have d1 := cell_below hb d1; have g0 := cell_below hb g0; have g1 := cell_below hb g1; have lw := World.block_lt_of_cell? _ _ c0; have ld := World.block_lt_of_cell? _ _ d0; have lg := World.block_lt_of_cell? _ _ g0; have HV3 := Lib.hid (HV3.out.below hb); have HV4 := Lib.hid (HV4.out.below hb); have HV7 := Lib.hid hv7; have HNX := Lib.hid (show w.heap.size ≠ w7.heap.size ∧ w3.heap.size ≠ w7.heap.size ∧ w4.heap.size ≠ w7.heap.size by have h1 : w.heap.size < w7.heap.size := lw; have h2 : w3.heap.size < w7.heap.size := ld; have h3 : w4.heap.size < w7.heap.size := lg; omega); clear hb HRW hv7) | (go_at_call 33; (refine (HC2.out _ _ _ (HV7.out.alloc _)).mono ?_; rintro e w8 ⟨rfl, hb⟩; have HB8 := Lib.hid (below_trans (below_trans HB7.out bel) hb); have c0 := cell_below hb (cell_alloc _ c0); have c1 := cell_below hb (cell_alloc _ c1); have d0 := cell_below hb (cell_alloc _ d0); have d1 := cell_below hb (cell_alloc _ d1); have g0 := cell_below hb (cell_alloc _ g0); have g1 := cell_below hb (cell_alloc _ g1); have t0 := cell_below (a := ⟨w7.heap.size, 0, none⟩) (v := .int .i64 n) hb (by go_simp); have t1 := cell_below (a := ⟨w7.heap.size, 1, none⟩) (v := .slice A7 L2.length c7) hb (by go_simp); have u0 : w8.frozen? ⟨w7.heap.size, 0, none⟩ = false := (hb.frozen (p := ⟨w7.heap.size, 0, none⟩) (by simp)).trans (by go_simp); have u1 : w8.frozen? ⟨w7.heap.size, 1, none⟩ = false := (hb.frozen (p := ⟨w7.heap.size, 1, none⟩) (by simp)).trans (by go_simp); have lw := World.block_lt_of_cell? _ _ c0; have ld := World.block_lt_of_cell? _ _ d0; have lg := World.block_lt_of_cell? _ _ g0; have lt := World.block_lt_of_cell? _ _ t0; have HNE := Lib.hid (show w.heap.size ≠ w7.heap.size ∧ w3.heap.size ≠ w7.heap.size ∧ w4.heap.size ≠ w7.heap.size from HNX.out); have HLEW := Lib.hid (show w.heap.size ≤ w7.heap.size from HB7.out.size); have HAP := Lib.hid (show Apart A4 K2.length (some w7.heap.size) from HV4.out.apart (Nat.le_refl _)); have HV3 := Lib.hid ((HV3.out.alloc _).below hb); have HV4 := Lib.hid ((HV4.out.alloc _).below hb); have HV7 := Lib.hid ((HV7.out.alloc _).below hb); clear hb HC2)))
              have MK := Lib.hid True.intro
              obtain ⟨W9, hW9⟩ : ∃ W9, W9 = (w8.setCell ⟨w7.heap.size, 0, none⟩ (.int .i64 0)).setCell ⟨w7.heap.size, 1, none⟩ (.slice none 0 0) := ⟨_, rfl⟩
              have hs2 := set_two (v1 := .int .i64 0) (v2 := .slice none 0 0) t0 t1
              rw [← hW9] at hs2 ⊢
              obtain ⟨y0, y1, yg⟩ := hs2
              have HAPc := Lib.hid (show w.heap.size ≠ w7.heap.size ∧ w3.heap.size ≠ w7.heap.size ∧ w4.heap.size ≠ w7.heap.size from HNE.out)
              have c0 := yg.cell c0 (fun e => HAPc.out.1 (Option.some.inj e))
              have c1 := yg.cell c1 (fun e => HAPc.out.1 (Option.some.inj e))
              have d0 := yg.cell d0 (fun e => HAPc.out.2.1 (Option.some.inj e))
              have d1 := yg.cell d1 (fun e => HAPc.out.2.1 (Option.some.inj e))
              have g0 := yg.cell g0 (fun e => HAPc.out.2.2 (Option.some.inj e))
              have g1 := yg.cell g1 (fun e => HAPc.out.2.2 (Option.some.inj e))
              have HB9a := Lib.hid (below_of_grown HB8.out yg HB8.out.size HLEW.out)
              have HV4 := Lib.hid (HV4.out.grown yg HAP.out)
              clear t0 t1 u0 u1 hW9 yg
              have t0 := y0
              have t1 := y1
              clear y0 y1
              have lw := World.block_lt_of_cell? _ _ c0
              have ld := World.block_lt_of_cell? _ _ d0
              have lg := World.block_lt_of_cell? _ _ g0
              have lt := World.block_lt_of_cell? _ _ t0
              go_cut [121] from 101 (fun s wx => s = .bool false ∧ Hid (Below W9.heap.size W9 wx))
              case first =>
                go_region_held3 (fun w' => w'.cell? ⟨w.heap.size, 0, none⟩ = some (.int .i64 n) ∧ w'.cell? ⟨w.heap.size, 1, none⟩ = some (.slice A l.length c) ∧ w'.cell? ⟨w3.heap.size, 0, none⟩ = some (.int .i64 0) ∧ w'.cell? ⟨w3.heap.size, 1, none⟩ = some (.slice A3 0 c3) ∧ w'.cell? ⟨w4.heap.size, 0, none⟩ = some (.int .i64 n) ∧ w'.cell? ⟨w4.heap.size, 1, none⟩ = some (.slice A4 K2.length c4) ∧ w'.cell? ⟨w7.heap.size, 0, none⟩ = some (.int .i64 0) ∧ w'.cell? ⟨w7.heap.size, 1, none⟩ = some (.slice none 0 0)) (exact ⟨c0, c1, d0, d1, g0, g1, t0, t1⟩) (first | (go_at_call 54; have hmk := MK.out; clear hmk MK; refine (rsame_nil A3 c3 _).mono ?_; rintro e wa ⟨rfl, hb⟩; have hbq : Below W9.heap.size W9 wa := (by first | exact hb | exact below_undrew hb);  have HBa := Lib.hid hbq; have c0 := cell_below hbq c0; have c1 := cell_below hbq c1; have d0 := cell_below hbq d0; have d1 := cell_below hbq d1; have g0 := cell_below hbq g0; have g1 := cell_below hbq g1; have t0 := cell_below hbq t0; have t1 := cell_below hbq t1; have lw := World.block_lt_of_cell? _ _ c0; have ld := World.block_lt_of_cell? _ _ d0; have lg := World.block_lt_of_cell? _ _ g0; have lt := World.block_lt_of_cell? _ _ t0; have HV4 := Lib.hid (HV4.out.below hbq); clear hb hbq) | (go_at_call 56; refine (HRO.out _ ?h1 ?h2).mono ?_; (case h1 => first | exact HA.out.below (below_trans HB9a.out HBa.out) | exact (HA.out.below (below_trans HB9a.out HBa.out)).drew); (case h2 => exact HS.out.below (below_trans HB9a.out HBa.out)); rintro e wb ⟨v9, rfl, ⟨A9, c9, rfl, hv9, _⟩, hb⟩; have hbq : Below wa.heap.size wa wb := (by first | exact hb | exact below_undrew hb);  have HBb := Lib.hid (below_trans HBa.out hbq); have c0 := cell_below hbq c0; have c1 := cell_below hbq c1; have d0 := cell_below hbq d0; have d1 := cell_below hbq d1; have g0 := cell_below hbq g0; have g1 := cell_below hbq g1; have t0 := cell_below hbq t0; have t1 := cell_below hbq t1; have lw := World.block_lt_of_cell? _ _ c0; have ld := World.block_lt_of_cell? _ _ d0; have lg := World.block_lt_of_cell? _ _ g0; have lt := World.block_lt_of_cell? _ _ t0; have HV4 := Lib.hid (HV4.out.below hbq); have HV9 := Lib.hid hv9; clear hb hbq hv9 HRO) | (go_at_call 54; refine (rsame_same n K2 A4 c4 A9 c9 _ (by have := HK2.out; omega) ?h1 ?h2).mono ?_; (case h1 => first | exact HV4.out | exact HV4.out.drew); (case h2 => first | exact HV9.out | exact HV9.out.drew); rintro e wd ⟨rfl, hb⟩; have hbq : Below wb.heap.size wb wd := (by first | exact hb | exact below_undrew hb);  have HBd := Lib.hid (below_trans HBb.out hbq); have c0 := cell_below hbq c0; have c1 := cell_below hbq c1; have d0 := cell_below hbq d0; have d1 := cell_below hbq d1; have g0 := cell_below hbq g0; have g1 := cell_below hbq g1; have t0 := cell_below hbq t0; have t1 := cell_below hbq t1; have lw := World.block_lt_of_cell? _ _ c0; have ld := World.block_lt_of_cell? _ _ d0; have lg := World.block_lt_of_cell? _ _ g0; have lt := World.block_lt_of_cell? _ _ t0; clear hb hbq))
                all_goals
                  go_wp2_with fail
                  go_meet
                  exact ⟨rfl, by first | exact HBd | exact Lib.hid (below_drews HBd.out 1)⟩
              case rest =>
                obtain ⟨rfl, HBw⟩ := hcut
                have HB9 := Lib.hid (below_trans HB9a.out HBw.out)
                have c0 := cell_below HBw.out c0
                have c1 := cell_below HBw.out c1
                have lw := World.block_lt_of_cell? _ _ c0
                clear d0 d1 g0 g1 t0 t1 ld lg lt
                cases har : areB n x
                · have hff := HE3.out
                  rw [har] at hff
                  obtain ⟨rfl, rfl⟩ : f1 = false ∧ f2 = 1 := by simpa using hff
                  clear hff HE3
                  go_wp2_with (first | (go_at_call 41; refine (HRV.out _ (HX.out.below HB9.out)).mono ?_; rw [har]; rintro e w10 ⟨rfl, hb⟩; have HB10 := Lib.hid (below_trans HB9.out hb); have c0 := cell_below hb c0; have c1 := cell_below hb c1; have lw := World.block_lt_of_cell? _ _ c0; clear hb HRV) | (go_at_call 17; refine (sanity_any _).mono ?_; rintro e wz ⟨rfl, hb⟩; have HBz := Lib.hid (below_trans HB10.out hb); have c0 := cell_below hb c0; have c1 := cell_below hb c1; have lw := World.block_lt_of_cell? _ _ c0; clear hb))
                  go_ret
                  exact ⟨rfl, HBz.out⟩
                · have hff := HE3.out
                  rw [har] at hff
                  obtain ⟨rfl, rfl⟩ : f1 = fitsB x l ∧ f2 = 0 := by simpa using hff
                  have HINX := Lib.hid (HIN.out (are_len har))
                  clear hff HE3
                  generalize fitsB x l = fb at *
                  go_wp2_with (first | (go_at_call 41; refine (HRV.out _ (HX.out.below HB9.out)).mono ?_; rw [har]; rintro e w10 ⟨rfl, hb⟩; have HB10 := Lib.hid (below_trans HB9.out hb); have c0 := cell_below hb c0; have c1 := cell_below hb c1; have lw := World.block_lt_of_cell? _ _ c0; clear hb HRV) | (go_at_call 17; refine (sanity_any _).mono ?_; rintro e wz ⟨rfl, hb⟩; have HBz := Lib.hid (below_trans HB10.out hb); have c0 := cell_below hb c0; have c1 := cell_below hb c1; have lw := World.block_lt_of_cell? _ _ c0; clear hb) | (go_at_call 51; refine (HRF.out _ (HA.out.below HBz.out) (HX.out.below HBz.out) HINX.out).mono ?_; rintro e wy ⟨rfl, hb⟩; have HBy := Lib.hid (below_trans HBz.out hb); clear hb HRF))
                  go_ret
                  cases fb <;> exact ⟨rfl, HBy.out⟩
theorem nets_at (n : Int) (A : Option Addr) (c : Nat) (l : List Lk) (B : Option Addr) (d : Nat) (m : List Lk) (C : Option Addr) (f : Nat) (S : List Int) (D : Option Addr) (g : Nat) (x : List Int) (w : World)
    (h : LksAt w A l) (hn : A = none → l.length = 0 ∧ c = 0) (hl : l.length ≤ 9223372036854775807) (h0 : LksAt w B m) (hn0 : B = none → m.length = 0 ∧ d = 0) (hm : m.length ≤ 9223372036854775807) (h1 : IntsAt w C S) (_ : C = none → S.length = 0 ∧ f = 0) (hS : S.length ≤ 9223372036854775807) (_ : ∀ v ∈ S, -9223372036854775808 ≤ v ∧ v ≤ 9223372036854775807) (h2 : IntsAt w D x) (_ : D = none → x.length = 0 ∧ g = 0) (hx : x.length ≤ 9223372036854775807) (_ : ∀ v ∈ x, -9223372036854775808 ≤ v ∧ v ≤ 9223372036854775807) :
    Calls Try.prog 9 #[.agg #[.int .i64 n, .slice A l.length c], .slice B m.length d, .slice C S.length f, .slice D x.length g] w fun e w' => e = .returned (.bool true) ∧ Below w.heap.size w w' :=
  nets_walk n A c l B d m C f S D g x w h hn h0 hn0 h1 h2 hl hm hS hx
end Go.Proofs.Ytmhiiomejopaoaa
