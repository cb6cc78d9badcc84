/- The flow walks: Bound. -/
import Derived.Test.YtmhiiomejopaoaaQ1
namespace Go.Proofs.Ytmhiiomejopaoaa
set_option linter.all false
open Go.RowKit

def boundR (n : Int) (l : List Lk) (s t : Int) : Int × Int :=
  if checkL n l ≠ 0 then (0, checkL n l)
  else if nodeB n s = false ∨ nodeB n t = false then (0, 1)
  else if (solutionL n.toNat l).2 = false then (0, 9)
  else if gi (boundsL n.toNat l s) t = free then (0, 5) else (gi (boundsL n.toNat l s) t, 0)
theorem node_in {n v : Int} (h : nodeB n v = true) (h1 : 1 ≤ n) (h2 : n ≤ 50) : 0 ≤ v ∧ v < n := by
  unfold nodeB withinB at h
  rw [wrap_pred h1 h2] at h
  simp at h
  omega
set_option maxRecDepth 100000 in
set_option maxHeartbeats 4000000 in
theorem Bound_any (n : Int) (A : Option Addr) (c : Nat) (l : List Lk) (s t : Int) (w : World) (hl : l.length ≤ 9223372036854775807) (h : LksAt w A l) :
    Calls Try.prog 32 #[.agg #[.int .i64 n, .slice A l.length c], .int .i64 s, .int .i64 t] w fun e w' => e = .returned (.tuple #[.int .i64 (boundR n l s t).1, .int .i64 (boundR n l s t).2]) ∧ Below w.heap.size w w' := by
  have HA := Lib.hid h
  clear h
  by_cases hc : checkL n l = 0
  · have hok := check_ok hc
    have hc' : (checkL n l != 0) = false := by simpa using hc
    have HC := Lib.hid hc
    clear hc
    obtain ⟨N, rfl⟩ : ∃ N : Nat, n = N := ⟨n.toNat, by have := hok.n1; omega⟩
    have HIN := Lib.hid (show ∀ k ∈ l, InR N k from fun k hk => (hok.lk k hk).1)
    have hN1 : (1 : Int) ≤ N := hok.n1
    have hN2 : (N : Int) ≤ 50 := hok.n2
    have hl2 : l.length ≤ 260 := hok.l1
    clear hok
    cases hs : nodeB N s
    · have HR := Lib.hid (show boundR N l s t = (0, 1) by unfold boundR; rw [if_neg (by simpa using HC.out), if_pos (.inl hs)])
      go_enter Try.func32, Try.ntmps32
      go_wp2_with (first | (go_at_call 53; refine (check_any N A c l _ hl (HA.out.alloc _)).mono ?_; rintro e w1 ⟨rfl, hb⟩; have HB := Lib.hid (boxed hb).1; obtain ⟨c0, c1, lw⟩ := (boxed hb).2; clear hb) | (go_at_call 80; refine (node_any _ _ _ _).mono ?_; rintro e w2 ⟨rfl, rfl⟩))
      go_ret2
      exact ⟨by rw [HR.out]; rfl, HB.out.alloc HB.out.size _⟩
    · have hs0 := (node_in hs hN1 hN2).1
      have hs1 := (node_in hs hN1 hN2).2
      cases ht : nodeB N t
      · have HR := Lib.hid (show boundR N l s t = (0, 1) by unfold boundR; rw [if_neg (by simpa using HC.out), if_pos (.inr ht)])
        go_enter Try.func32, Try.ntmps32
        go_wp2_with (first | (go_at_call 53; refine (check_any N A c l _ hl (HA.out.alloc _)).mono ?_; rintro e w1 ⟨rfl, hb⟩; have HB := Lib.hid (boxed hb).1; obtain ⟨c0, c1, lw⟩ := (boxed hb).2; clear hb) | (go_at_call 80; refine (node_any _ _ _ _).mono ?_; rintro e w2 ⟨rfl, rfl⟩))
        go_ret2
        exact ⟨by rw [HR.out]; rfl, (HB.out.alloc HB.out.size _).alloc (by have := HB.out.size; simp; omega) _⟩
      · have ht0 := (node_in ht hN1 hN2).1
        have ht1 := (node_in ht hN1 hN2).2
        cases hy : (solutionL N l).2
        · have HR := Lib.hid (show boundR N l s t = (0, 9) by unfold boundR; rw [if_neg (by simpa using HC.out), if_neg (by simp [hs, ht]), Int.toNat_natCast, if_pos hy])
          have HYS := Lib.hid (fun W h1 => solution_no N A c l W (by omega) (by omega) h1 HIN.out hy)
          clear hy
          go_enter Try.func32, Try.ntmps32
          go_wp2_with (first | (go_at_call 53; refine (check_any N A c l _ hl (HA.out.alloc _)).mono ?_; rintro e w1 ⟨rfl, hb⟩; have HB := Lib.hid (boxed hb).1; obtain ⟨c0, c1, lw⟩ := (boxed hb).2; clear hb) | (go_at_call 80; refine (node_any _ _ _ _).mono ?_; rintro e w2 ⟨rfl, rfl⟩) | (go_at_call 81; refine (HYS.out _ ((((HA.out.below HB.out).alloc _).alloc _))).mono ?_; rintro e w3 ⟨rfl, hb⟩; have HB3 := Lib.hid (below_trans ((HB.out.alloc HB.out.size _).alloc (by have := HB.out.size; simp; omega) _) hb); clear hb))
          go_ret2
          exact ⟨by rw [HR.out]; rfl, HB3.out⟩
        · have HYS := Lib.hid (fun W h1 => solution_yes N A c l W (by omega) (by omega) h1 HIN.out hy)
          have HBS := Lib.hid (fun W h1 => bounds_any N A c l s W (by omega) (by omega) h1 HIN.out hs0 hs1)
          have HRR := Lib.hid (show boundR N l s t = if gi (boundsL N l s) t = free then (0, 5) else (gi (boundsL N l s) t, 0) by unfold boundR; rw [if_neg (by simpa using HC.out), if_neg (by simp [hs, ht]), Int.toNat_natCast, if_neg (by simp [hy])])
          have HLB := Lib.hid (boundsL_length N l s)
          clear hy
          generalize hbv : gi (boundsL N l s) t = bv at *
          have HBV := Lib.hid hbv
          clear hbv
          cases hfr : (bv == 1152921504606846976)
          · have HR := Lib.hid (show boundR N l s t = (bv, 0) by rw [HRR.out, if_neg (by unfold free; simpa using hfr)])
            go_enter Try.func32, Try.ntmps32
            go_wp2_with (first | (go_at_call 53; refine (check_any N A c l _ hl (HA.out.alloc _)).mono ?_; rintro e w1 ⟨rfl, hb⟩; have HB := Lib.hid (boxed hb).1; obtain ⟨c0, c1, lw⟩ := (boxed hb).2; clear hb) | (go_at_call 80; refine (node_any _ _ _ _).mono ?_; rintro e w2 ⟨rfl, rfl⟩) | (go_at_call 81; refine (HYS.out _ ((((HA.out.below HB.out).alloc _).alloc _))).mono ?_; rintro e w3 ⟨g2, rfl, _, _, hb⟩; have HB3 := Lib.hid (below_trans ((HB.out.alloc HB.out.size _).alloc (by have := HB.out.size; simp; omega) _) hb); have c0 := cell_below hb (cell_alloc _ (cell_alloc _ c0)); have c1 := cell_below hb (cell_alloc _ (cell_alloc _ c1)); have lw := World.block_lt_of_cell? _ _ c0; clear hb) | (go_at_call 69; refine (HBS.out _ (HA.out.below HB3.out)).mono ?_; rintro e w4 ⟨g3, rfl, _, hrow, hb⟩; have HB4 := Lib.hid (below_trans HB3.out hb); have ct := hrow.cell t.toNat (by rw [HLB.out]; omega); rw [tn _ ht0, HBV.out] at ct; have lg := hrow.lt; clear hb hrow))
            go_ret2
            exact ⟨by rw [HR.out]; rfl, HB4.out⟩
          · have HR := Lib.hid (show boundR N l s t = (0, 5) by rw [HRR.out, if_pos (by unfold free; simpa using hfr)])
            go_enter Try.func32, Try.ntmps32
            go_wp2_with (first | (go_at_call 53; refine (check_any N A c l _ hl (HA.out.alloc _)).mono ?_; rintro e w1 ⟨rfl, hb⟩; have HB := Lib.hid (boxed hb).1; obtain ⟨c0, c1, lw⟩ := (boxed hb).2; clear hb) | (go_at_call 80; refine (node_any _ _ _ _).mono ?_; rintro e w2 ⟨rfl, rfl⟩) | (go_at_call 81; refine (HYS.out _ ((((HA.out.below HB.out).alloc _).alloc _))).mono ?_; rintro e w3 ⟨g2, rfl, _, _, hb⟩; have HB3 := Lib.hid (below_trans ((HB.out.alloc HB.out.size _).alloc (by have := HB.out.size; simp; omega) _) hb); have c0 := cell_below hb (cell_alloc _ (cell_alloc _ c0)); have c1 := cell_below hb (cell_alloc _ (cell_alloc _ c1)); have lw := World.block_lt_of_cell? _ _ c0; clear hb) | (go_at_call 69; refine (HBS.out _ (HA.out.below HB3.out)).mono ?_; rintro e w4 ⟨g3, rfl, _, hrow, hb⟩; have HB4 := Lib.hid (below_trans HB3.out hb); have ct := hrow.cell t.toNat (by rw [HLB.out]; omega); rw [tn _ ht0, HBV.out] at ct; have lg := hrow.lt; clear hb hrow))
            go_ret2
            exact ⟨by rw [HR.out]; rfl, HB4.out⟩
  · have hc' : (checkL n l != 0) = true := by simpa using hc
    have HR := Lib.hid (show boundR n l s t = (0, checkL n l) by unfold boundR; rw [if_pos (by simpa using hc)])
    clear hc
    go_enter Try.func32, Try.ntmps32
    go_wp2_with (go_at_call 53; refine (check_any n A c l _ hl (HA.out.alloc _)).mono ?_; rintro e w1 ⟨rfl, hb⟩; have HB := Lib.hid (boxed hb).1; clear hb)
    go_ret2
    exact ⟨by rw [HR.out]; rfl, HB.out⟩
end Go.Proofs.Ytmhiiomejopaoaa
