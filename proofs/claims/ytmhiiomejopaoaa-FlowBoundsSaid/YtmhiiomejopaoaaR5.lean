/- The flow laws: bounds, its walk. -/
import Derived.Test.YtmhiiomejopaoaaS3
namespace Go.Proofs.Ytmhiiomejopaoaa
set_option linter.all false
open Go.RowKit

set_option maxRecDepth 100000 in
set_option maxHeartbeats 4000000 in
theorem bounds_walk (n : Int) (A : Option Addr) (c : Nat) (l : List Lk) (s t : Int) (w : World) (h : LksAt w A l) (hl : l.length ≤ 9223372036854775807) :
    Calls Try.prog 5 #[.agg #[.int .i64 n, .slice A l.length c], .int .i64 s, .int .i64 t] w fun e w' => e = .returned (.bool true) ∧ Below w.heap.size w w' := by
  have HA := Lib.hid h
  clear h
  cases hsm : smallB n l.length
  · go_enter Try.func5, Try.ntmps5
    go_wp2_with (first | (go_at_call 27; refine (small_any n A c l.length _).mono ?_; rw [hsm]; rintro e w1 ⟨rfl, hb⟩; have HB := Lib.hid (boxed hb).1; clear hb) | (go_at_call 17; refine (sanity_any _).mono ?_; rintro e w2 ⟨rfl, hb⟩; have HB2 := Lib.hid (below_trans HB.out hb); clear hb))
    go_ret
    exact ⟨rfl, HB2.out⟩
  · have HSM := Lib.hid hsm
    have HBD := Lib.hid (fun W h1 => Bound_any n A c l s t W hl h1)
    obtain ⟨br, hbr⟩ : ∃ br, boundR n l s t = br := ⟨_, rfl⟩
    rw [hbr] at HBD
    obtain ⟨b1, b2⟩ := br
    have HBR := Lib.hid hbr
    clear hbr
    go_enter Try.func5, Try.ntmps5
    go_upto_region 5 with (first | (go_at_call 27; refine (small_any n A c l.length _).mono ?_; rw [hsm]; rintro e w1 ⟨rfl, hb⟩; have HB := Lib.hid (boxed hb).1; obtain ⟨c0, c1, lw⟩ := (boxed hb).2; clear hb) | (go_at_call 32; refine (HBD.out _ (HA.out.below HB.out)).mono ?_; rintro e w2 ⟨rfl, hb⟩; have HB2 := Lib.hid (below_trans HB.out hb); have c0 := cell_below hb c0; have c1 := cell_below hb c1; have lw := World.block_lt_of_cell? _ _ c0; clear hb) | (go_at_call 33; refine (rcheck_any n A c l _ hl (HA.out.below HB2.out)).mono ?_; rintro e w3 ⟨rfl, hb⟩; have HB3 := Lib.hid (below_trans HB2.out hb); have c0 := cell_below hb c0; have c1 := cell_below hb c1; have lw := World.block_lt_of_cell? _ _ c0; clear hb))
    by_cases hc : checkL n l = 0
    · have hok := check_ok hc
      have HC := Lib.hid hc
      rw [hc]
      clear hc
      obtain ⟨N, rfl⟩ : ∃ N : Nat, n = N := ⟨n.toNat, by have := hok.n1; omega⟩
      have HIN := Lib.hid (show ∀ k ∈ l, InR N k from fun k hk => (hok.lk k hk).1)
      have HOK := Lib.hid hok
      have hN1 : (1 : Int) ≤ N := hok.n1
      have hN2 : (N : Int) ≤ 50 := hok.n2
      have hl2 : l.length ≤ 260 := hok.l1
      clear hok
      cases hs : nodeB N s
      · obtain ⟨rfl, rfl⟩ : b1 = 0 ∧ b2 = 1 := by
          have := HBR.out
          unfold boundR at this
          rw [if_neg (by simpa using HC.out), if_pos (.inl hs)] at this
          simpa [eq_comm] using this
        go_wp2_with (first | (go_at_call 34; refine (rnode_at _ _ _ _ hN1 hN2).mono ?_; rintro e w4 ⟨rfl, rfl⟩) | (go_at_call 17; refine (sanity_any _).mono ?_; rintro e wz ⟨rfl, hb⟩; have HBz := Lib.hid (below_trans (HB3.out.alloc HB3.out.size _) hb); clear hb))
        go_ret
        exact ⟨rfl, HBz.out⟩
      · have hs0 := (node_in hs hN1 hN2).1
        have hs1 := (node_in hs hN1 hN2).2
        cases ht : nodeB N t
        · obtain ⟨rfl, rfl⟩ : b1 = 0 ∧ b2 = 1 := by
            have := HBR.out
            unfold boundR at this
            rw [if_neg (by simpa using HC.out), if_pos (.inr ht)] at this
            simpa [eq_comm] using this
          go_wp2_with (first | (go_at_call 34; refine (rnode_at _ _ _ _ hN1 hN2).mono ?_; rintro e w4 ⟨rfl, rfl⟩) | (go_at_call 17; refine (sanity_any _).mono ?_; rintro e wz ⟨rfl, hb⟩; have HBz := Lib.hid (below_trans ((HB3.out.alloc HB3.out.size _).alloc (by have := HB3.out.size; simp; omega) _) hb); clear hb))
          go_ret
          exact ⟨rfl, HBz.out⟩
        · have ht0 := (node_in ht hN1 hN2).1
          have ht1 := (node_in ht hN1 hN2).2
          have HRS := Lib.hid (fun W h1 => rsol_any N A c l W (by omega) (by omega) h1 HIN.out)
          have HS4 := Lib.hid (show Below w.heap.size w ((w3.alloc (.cells #[.int .i64 N, .slice A l.length c] 24)).alloc (.cells #[.int .i64 N, .slice A l.length c] 24)) from (HB3.out.alloc HB3.out.size _).alloc (by have := HB3.out.size; simp; omega) _)
          cases hy : (solutionL N l).2
          · obtain ⟨rfl, rfl⟩ : b1 = 0 ∧ b2 = 9 := by
              have := HBR.out
              unfold boundR at this
              rw [if_neg (by simpa using HC.out), if_neg (by simp [hs, ht]), Int.toNat_natCast, if_pos hy] at this
              simpa [eq_comm] using this
            rw [hy] at HRS
            go_wp2_with (first | (go_at_call 34; refine (rnode_at _ _ _ _ hN1 hN2).mono ?_; rintro e w4 ⟨rfl, rfl⟩) | (go_at_call 35; refine (HRS.out _ (HA.out.below HS4.out)).mono ?_; rintro e w5 ⟨v5, rfl, hb⟩; have HB5 := Lib.hid (below_trans HS4.out hb); clear hb) | (go_at_call 17; refine (sanity_any _).mono ?_; rintro e wz ⟨rfl, hb⟩; have HBz := Lib.hid (below_trans HB5.out hb); clear hb))
            go_ret
            exact ⟨rfl, HBz.out⟩
          · have hbs := bounds_same HOK.out hy hs0 hs1
            have HBB := Lib.hid (fun W h1 => rbounds_any N A c l s W (by omega) (by omega) h1 HIN.out hs0 hs1)
            rw [← hbs.1] at HBB
            have HV := Lib.hid (hbs.2 t ht0 ht1)
            have HLB := Lib.hid (boundsL_length N l s)
            have HBR2 := HBR.out
            unfold boundR at HBR2
            rw [if_neg (by simpa using HC.out), if_neg (by simp [hs, ht]), Int.toNat_natCast, if_neg (by simp [hy])] at HBR2
            have HBR3 := Lib.hid HBR2
            rw [hy] at HRS
            clear hbs HBR2 hy
            generalize hbv : gi (boundsL N l s) t = bv at *
            have HBV := Lib.hid hbv
            clear hbv
            by_cases hfr : bv = free
            · obtain ⟨rfl, rfl⟩ : b1 = 0 ∧ b2 = 5 := by
                have := HBR3.out
                rw [if_pos hfr] at this
                simpa [eq_comm] using this
              have hge : (1152921504606846976 : Int) ≤ bv := by rw [hfr]; exact Int.le_refl _
              clear hfr
              go_wp2_with (first | (go_at_call 34; refine (rnode_at _ _ _ _ hN1 hN2).mono ?_; rintro e w4 ⟨rfl, rfl⟩) | (go_at_call 35; refine (HRS.out _ (HA.out.below HS4.out)).mono ?_; rintro e w5 ⟨v5, rfl, hb⟩; have HB5 := Lib.hid (below_trans HS4.out hb); have c0 := cell_below hb (cell_alloc _ (cell_alloc _ c0)); have c1 := cell_below hb (cell_alloc _ (cell_alloc _ c1)); have lw := World.block_lt_of_cell? _ _ c0; clear hb) | (go_at_call 36; refine (HBB.out _ (HA.out.below HB5.out)).mono ?_; rintro e w6 ⟨g6, rfl, _, hrow, hb⟩; have HB6 := Lib.hid (below_trans HB5.out hb); have ct := hrow.cell t.toNat (by rw [HLB.out]; omega); rw [tn _ ht0, HBV.out] at ct; have lg := hrow.lt; clear hb hrow) | (go_at_call 17; refine (sanity_any _).mono ?_; rintro e wz ⟨rfl, hb⟩; have HBz := Lib.hid (below_trans HB6.out hb); clear hb))
              go_ret
              exact ⟨rfl, HBz.out⟩
            · obtain ⟨rfl, rfl⟩ : b1 = bv ∧ b2 = 0 := by
                have := HBR3.out
                rw [if_neg hfr] at this
                simpa [eq_comm] using this
              have hlt : ¬ (1152921504606846976 : Int) ≤ b1 := by
                rcases HV.out with e | e
                · exact absurd e hfr
                · unfold free at e; omega
              clear hfr
              go_wp2_with (first | (go_at_call 34; refine (rnode_at _ _ _ _ hN1 hN2).mono ?_; rintro e w4 ⟨rfl, rfl⟩) | (go_at_call 35; refine (HRS.out _ (HA.out.below HS4.out)).mono ?_; rintro e w5 ⟨v5, rfl, hb⟩; have HB5 := Lib.hid (below_trans HS4.out hb); have c0 := cell_below hb (cell_alloc _ (cell_alloc _ c0)); have c1 := cell_below hb (cell_alloc _ (cell_alloc _ c1)); have lw := World.block_lt_of_cell? _ _ c0; clear hb) | (go_at_call 36; refine (HBB.out _ (HA.out.below HB5.out)).mono ?_; rintro e w6 ⟨g6, rfl, _, hrow, hb⟩; have HB6 := Lib.hid (below_trans HB5.out hb); have ct := hrow.cell t.toNat (by rw [HLB.out]; omega); rw [tn _ ht0, HBV.out] at ct; have lg := hrow.lt; clear hb hrow) | (go_at_call 17; refine (sanity_any _).mono ?_; rintro e wz ⟨rfl, hb⟩; have HBz := Lib.hid (below_trans HB6.out hb); clear hb))
              go_ret
              exact ⟨rfl, HBz.out⟩
    · have hc' : (checkL n l == 0) = false := by simpa using hc
      obtain ⟨rfl, hb2⟩ : b1 = 0 ∧ b2 = checkL n l := by
        have := HBR.out
        unfold boundR at this
        rw [if_pos (by simpa using hc)] at this
        simpa [eq_comm] using this
      have HE := Lib.hid hb2
      clear hc hb2
      rw [HE.out]
      go_wp2_with (go_at_call 17; refine (sanity_any _).mono ?_; rintro e wz ⟨rfl, hb⟩; have HBz := Lib.hid (below_trans HB3.out hb); clear hb)
      go_ret
      exact ⟨rfl, HBz.out⟩
theorem bounds_at (n : Int) (A : Option Addr) (c : Nat) (l : List Lk) (s t : Int) (w : World) (h : LksAt w A l) (_ : A = none → l.length = 0 ∧ c = 0) (hl : l.length ≤ 9223372036854775807) (_ : -9223372036854775808 ≤ s ∧ s ≤ 9223372036854775807) (_ : -9223372036854775808 ≤ t ∧ t ≤ 9223372036854775807) :
    Calls Try.prog 5 #[.agg #[.int .i64 n, .slice A l.length c], .int .i64 s, .int .i64 t] w fun e w' => e = .returned (.bool true) ∧ Below w.heap.size w w' := bounds_walk n A c l s t w h hl
end Go.Proofs.Ytmhiiomejopaoaa
