/- The flow laws: sums, its walk. -/
import Derived.Test.YtmhiiomejopaoaaZ2
import Derived.Test.YtmhiiomejopaoaaN2
namespace Go.Proofs.Ytmhiiomejopaoaa
set_option linter.all false
open Go.RowKit

set_option maxRecDepth 100000 in
set_option maxHeartbeats 20000000 in
theorem sums_walk (n : Int) (A : Option Addr) (c : Nat) (l : List Lk) (C : Option Addr) (f : Nat) (p : List Int) (D : Option Addr) (g : Nat) (x : List Int) (w : World)
    (h : LksAt w A l) (hn : A = none → l.length = 0 ∧ c = 0) (h1 : IntsAt w C p) (h2 : IntsAt w D x) (hl : l.length ≤ 9223372036854775807) (hp : p.length ≤ 9223372036854775807) (hx : x.length ≤ 9223372036854775807) (hw : ∀ v ∈ p, -9223372036854775808 ≤ v ∧ v ≤ 9223372036854775807) :
    Calls Try.prog 7 #[.agg #[.int .i64 n, .slice A l.length c], .slice C p.length f, .slice D x.length g] w fun e w' => e = .returned (.bool true) ∧ Below w.heap.size w w' := by
  have HA := Lib.hid h
  have HP := Lib.hid h1
  have HX := Lib.hid h2
  have HN := Lib.hid hn
  have HWF := Lib.hid hw
  clear h h1 h2 hn hw
  cases hs : smallB n l.length
  · go_enter Try.func7, Try.ntmps7
    go_wp2_with (first | (go_at_call 27; refine (small_any _ A c l.length _).mono ?_; rw [hs]; rintro e w1 ⟨rfl, hb⟩; have HB1 := Lib.hid (boxed hb).1; obtain ⟨c0, c1, lw⟩ := (boxed hb).2; clear hb) | (go_at_call 17; refine (sanity_any _).mono ?_; rintro e wz ⟨rfl, hb⟩; have HBz := Lib.hid (below_trans HB1.out hb); clear hb))
    go_ret
    exact ⟨rfl, HBz.out⟩
  · have hl2 := small_len hs
    by_cases hp60 : 60 < p.length
    · go_enter Try.func7, Try.ntmps7
      go_wp2_with (first | (go_at_call 27; refine (small_any _ A c l.length _).mono ?_; rw [hs]; rintro e w1 ⟨rfl, hb⟩; have HB1 := Lib.hid (boxed hb).1; obtain ⟨c0, c1, lw⟩ := (boxed hb).2; clear hb) | (go_at_call 17; refine (sanity_any _).mono ?_; rintro e wz ⟨rfl, hb⟩; have HBz := Lib.hid (below_trans HB1.out hb); clear hb))
      go_ret
      exact ⟨rfl, HBz.out⟩
    · by_cases hx60 : 60 < x.length
      · go_enter Try.func7, Try.ntmps7
        go_wp2_with (first | (go_at_call 27; refine (small_any _ A c l.length _).mono ?_; rw [hs]; rintro e w1 ⟨rfl, hb⟩; have HB1 := Lib.hid (boxed hb).1; obtain ⟨c0, c1, lw⟩ := (boxed hb).2; clear hb) | (go_at_call 17; refine (sanity_any _).mono ?_; rintro e wz ⟨rfl, hb⟩; have HBz := Lib.hid (below_trans HB1.out hb); clear hb))
        go_ret
        exact ⟨rfl, HBz.out⟩
      · have HLL := Lib.hid (show l.length ≤ 1000 ∧ p.length ≤ 1000000 ∧ x.length ≤ 1000000 by omega)
        have HW := Lib.hid (fun W h1 h2 => checkW_any n A c l C f p W (by omega) (by omega) h1 h2)
        have HV := Lib.hid (fun W h1 h2 h3 => Value_any n A c l C f p D g x W hl (by omega) (by omega) h1 h2 h3)
        have HE := Lib.hid (fun W h1 h2 => rerror_any n A c l C f p W hl (by omega) h1 h2)
        by_cases ha : askedI n l p = 0
        case neg =>
          obtain ⟨a, hae⟩ : ∃ a, askedI n l p = a := ⟨_, rfl⟩
          rw [hae] at HW HE ha
          obtain ⟨v1, v2, v3, v4⟩ := sums_bad x HWF.out hae ha
          rw [v1] at HV
          have HM := Lib.hid (fun W h1 h2 => Most_any 2000000 (0, a) n A c l C f p W HLL.out.1 HLL.out.2.1 h1 h2 v2)
          have HL := Lib.hid (fun W h1 h2 => Least_any 2000000 (0, a) n A c l C f p W HLL.out.1 HLL.out.2.1 h1 h2 v3)
          have HF := Lib.hid (fun W h1 h2 => Fixed_any 2000000 (0, a) (0, a) n A c l C f p W HLL.out.1 HLL.out.2.1 h1 h2 v2 v3)
          rw [v4] at HF
          have ha2 : (a != 0) = true := by simpa using ha
          clear hae v1 v2 v3 v4 ha hl hp hx hl2
          go_enter Try.func7, Try.ntmps7
          go_wp2_with (first | (go_at_call 27; refine (small_any _ A c l.length _).mono ?_; rw [hs]; rintro e w1 ⟨rfl, hb⟩; have HB1 := Lib.hid (boxed hb).1; obtain ⟨c0, c1, lw⟩ := (boxed hb).2; clear hb) | (go_at_call 28; refine (HW.out _ (HA.out.below HB1.out) (HP.out.below HB1.out)).mono ?_; rintro e w2 ⟨rfl, hb⟩; have HB2 := Lib.hid (below_trans HB1.out hb); have c0 := cell_below hb c0; have c1 := cell_below hb c1; have lw := World.block_lt_of_cell? _ _ c0; clear hb HW) | (go_at_call 39; refine (HV.out _ (HA.out.below HB2.out) (HP.out.below HB2.out) (HX.out.below HB2.out)).mono ?_; rintro e w3 ⟨rfl, hb⟩; have HB3 := Lib.hid (below_trans HB2.out hb); have c0 := cell_below hb c0; have c1 := cell_below hb c1; have lw := World.block_lt_of_cell? _ _ c0; clear hb HV) | (go_at_call 29; refine (HM.out _ (HA.out.below HB3.out) (HP.out.below HB3.out)).mono ?_; rintro e w4 ⟨rfl, hb⟩; have HB4 := Lib.hid (below_trans HB3.out hb); have c0 := cell_below hb c0; have c1 := cell_below hb c1; have lw := World.block_lt_of_cell? _ _ c0; clear hb HM) | (go_at_call 30; refine (HL.out _ (HA.out.below HB4.out) (HP.out.below HB4.out)).mono ?_; rintro e w5 ⟨rfl, hb⟩; have HB5 := Lib.hid (below_trans HB4.out hb); have c0 := cell_below hb c0; have c1 := cell_below hb c1; have lw := World.block_lt_of_cell? _ _ c0; clear hb HL) | (go_at_call 40; refine (HF.out _ (HA.out.below HB5.out) (HP.out.below HB5.out)).mono ?_; rintro e w6 ⟨rfl, hb⟩; have HB6 := Lib.hid (below_trans HB5.out hb); have c0 := cell_below hb c0; have c1 := cell_below hb c1; have lw := World.block_lt_of_cell? _ _ c0; clear hb HF) | (go_at_call 21; refine (HE.out _ (HA.out.below HB6.out) (HP.out.below HB6.out)).mono ?_; rintro e w7 ⟨rfl, hb⟩; have HB7 := Lib.hid (below_trans HB6.out hb); have c0 := cell_below hb c0; have c1 := cell_below hb c1; have lw := World.block_lt_of_cell? _ _ c0; clear hb HE) | (go_at_call 17; refine (sanity_any _).mono ?_; rintro e wz ⟨rfl, hb⟩; have HBz := Lib.hid (below_trans HB7.out hb); clear hb))
          go_ret
          exact ⟨rfl, HBz.out⟩
        case pos =>
          obtain ⟨N, r, s, hO⟩ := sums_ok x HWF.out ha hs
          have HO := Lib.hid hO
          rw [ha] at HW HE
          have HM := Lib.hid (fun W h1 h2 => Most_any 2000000 r n A c l C f p W HLL.out.1 HLL.out.2.1 h1 h2 hO.pm)
          have HL := Lib.hid (fun W h1 h2 => Least_any 2000000 (wrap64 (-s.1), s.2) n A c l C f p W HLL.out.1 HLL.out.2.1 h1 h2 hO.pl2)
          have HF := Lib.hid (fun W h1 h2 => Fixed_any 2000000 r (wrap64 (-s.1), s.2) n A c l C f p W HLL.out.1 HLL.out.2.1 h1 h2 hO.pm hO.pl2)
          have HA41 := Lib.hid (fun W h1 => rvalues_any n (.slice A l.length c) D g x W (by omega) h1)
          have hVR : valueR n l p x = if areB n x = false then (0, 1) else (valueI p x, 0) := by unfold valueR; rw [if_neg (by simpa using ha)]
          rw [hVR] at HV
          have HRT := Lib.hid (fun W h1 => rturned_any C f p W HLL.out.2.1 h1)
          obtain ⟨rfl, n0, n1, pl, inr, rm, pm, rl, pl2, e3⟩ := hO
          have HR1 := Lib.hid (fun W h1 h2 => rmost_any 2000000 r N A c l C f p W n0 n1 HLL.out.1 (by omega) pl HN.out h1 h2 inr rm)
          have HR2 := Lib.hid (fun B2 d2 W h1 h2 => rmost_any 2000000 s N A c l B2 d2 (turnedL p) W n0 n1 HLL.out.1 (by omega) (by rw [turned_length]; exact pl) HN.out h1 h2 inr rl)
          rw [turned_length] at HR2
          have HE3 := Lib.hid e3
          have HPL := Lib.hid (fun hb : areB N x = true => (show p.length ≤ x.length by have := are_len hb; omega))
          obtain ⟨m, gg⟩ := r
          obtain ⟨s1, s2⟩ := s
          obtain ⟨fx, hfx⟩ : ∃ fx, fixedR (m, gg) (wrap64 (-s1), s2) = fx := ⟨_, rfl⟩
          rw [show fixedR (m, gg) (wrap64 (-(s1, s2).1), (s1, s2).2) = fx from hfx] at HF
          have HFX := Lib.hid hfx
          obtain ⟨is_, i_⟩ := fx
          clear hVR ha pl inr rm pm rl pl2 e3 hl hp hx hl2 hfx HO
          obtain ⟨b, hb⟩ : ∃ b, areB N x = b := ⟨_, rfl⟩
          rw [hb] at HA41 HV HPL
          have hv42 : b = true → ∀ W, IntsAt W C p → IntsAt W D x → Calls Try.prog 42 #[.slice C p.length f, .slice D x.length g] W fun e w' => e = .returned (.int .i64 (valueI p x)) ∧ Below W.heap.size W w' := fun e W h1 h2 => rvalue_any C f p D g x W (by have := HLL.out; omega) (HPL.out e) h1 h2
          have HV42 := Lib.hid hv42
          clear hb hv42 HPL
          generalize valueI p x = vv at HV HV42
          go_enter Try.func7, Try.ntmps7
          go_upto_region 9 with (first | (go_at_call 27; refine (small_any _ A c l.length _).mono ?_; rw [hs]; rintro e w1 ⟨rfl, hb⟩; have HB1 := Lib.hid (boxed hb).1; obtain ⟨c0, c1, lw⟩ := (boxed hb).2; clear hb) | (go_at_call 28; refine (HW.out _ (HA.out.below HB1.out) (HP.out.below HB1.out)).mono ?_; rintro e w2 ⟨rfl, hb⟩; have HB2 := Lib.hid (below_trans HB1.out hb); have c0 := cell_below hb c0; have c1 := cell_below hb c1; have lw := World.block_lt_of_cell? _ _ c0; clear hb HW) | (go_at_call 39; refine (HV.out _ (HA.out.below HB2.out) (HP.out.below HB2.out) (HX.out.below HB2.out)).mono ?_; rintro e w3 ⟨rfl, hb⟩; have HB3 := Lib.hid (below_trans HB2.out hb); have c0 := cell_below hb c0; have c1 := cell_below hb c1; have lw := World.block_lt_of_cell? _ _ c0; clear hb HV) | (go_at_call 29; refine (HM.out _ (HA.out.below HB3.out) (HP.out.below HB3.out)).mono ?_; rintro e w4 ⟨rfl, hb⟩; have HB4 := Lib.hid (below_trans HB3.out hb); have c0 := cell_below hb c0; have c1 := cell_below hb c1; have lw := World.block_lt_of_cell? _ _ c0; clear hb HM) | (go_at_call 30; refine (HL.out _ (HA.out.below HB4.out) (HP.out.below HB4.out)).mono ?_; rintro e w5 ⟨rfl, hb⟩; have HB5 := Lib.hid (below_trans HB4.out hb); have c0 := cell_below hb c0; have c1 := cell_below hb c1; have lw := World.block_lt_of_cell? _ _ c0; clear hb HL) | (go_at_call 40; refine (HF.out _ (HA.out.below HB5.out) (HP.out.below HB5.out)).mono ?_; rintro e w6 ⟨rfl, hb⟩; have HB6 := Lib.hid (below_trans HB5.out hb); have c0 := cell_below hb c0; have c1 := cell_below hb c1; have lw := World.block_lt_of_cell? _ _ c0; clear hb HF) | (go_at_call 21; refine (HE.out _ (HA.out.below HB6.out) (HP.out.below HB6.out)).mono ?_; rintro e w7 ⟨rfl, hb⟩; have HB7 := Lib.hid (below_trans HB6.out hb); have c0 := cell_below hb c0; have c1 := cell_below hb c1; have lw := World.block_lt_of_cell? _ _ c0; clear hb HE))
          cases b
          · replace HV := Lib.hid True.intro
            clear HV HV42
            go_upto_region 19 with (first | (go_at_call 41; refine (HA41.out _ (HX.out.below HB7.out)).mono ?_; rintro e w8 ⟨rfl, hb⟩; have HB8 := Lib.hid (below_trans HB7.out hb); have c0 := cell_below hb c0; have c1 := cell_below hb c1; have lw := World.block_lt_of_cell? _ _ c0; clear hb HA41) | (go_at_call 22; refine (HR1.out _ (HA.out.below HB8.out) (HP.out.below HB8.out)).mono ?_; rintro e w9 ⟨rfl, hb⟩; have HB9 := Lib.hid (below_trans HB8.out hb); have c0 := cell_below hb c0; have c1 := cell_below hb c1; have lw := World.block_lt_of_cell? _ _ c0; clear hb HR1))
            have HC0 := Lib.hid (And.intro c0 c1)
            have HP9 := Lib.hid (HP.out.below HB9.out)
            have HA9 := Lib.hid (HA.out.below HB9.out)
            go_region_held3 (fun w' => w'.cell? ⟨w.heap.size, 0, none⟩ = some (.int .i64 N) ∧ w'.cell? ⟨w.heap.size, 1, none⟩ = some (.slice A l.length c)) (first | exact ⟨c0, c1⟩ | exact ⟨cell_below hb3 c0, cell_below hb3 c1⟩ | (constructor <;> go_simp; done)) (first | (go_at_call 43; refine (HRT.out _ ?hh).mono ?_; (case hh => exact HP9.out); rintro e wa ⟨v, rfl, ho, hb⟩; have HBa := Lib.hid (below_trans HB9.out (below_undrew hb)); have HBq := Lib.hid (below_undrew hb); replace c0 := cell_below HBq.out HC0.out.1; replace c1 := cell_below HBq.out HC0.out.2; replace lw := World.block_lt_of_cell? _ _ c0; obtain ⟨B2, d2, rfl, hv, _⟩ := own_intsV (turned_own ho); rw [turned_length]; have HV2 := Lib.hid hv; clear hb ho hv) | (go_at_call 22; refine (HR2.out B2 d2 _ (HA.out.below HBa.out) HV2.out).mono ?_; rintro e wb ⟨rfl, hb3⟩; have HBb := Lib.hid (below_trans HBa.out hb3); replace c0 := cell_below hb3 c0; replace c1 := cell_below hb3 c1; replace lw := World.block_lt_of_cell? _ _ c0))
            all_goals
              rcases HE3.out with e3 | e3 | e3
              · have e3' : gg = 0 := e3
                subst e3'
                by_cases e4 : s2 = 0
                · subst e4
                  cases e5 : (m == wrap64 (-s1))
                  all_goals
                    have hfi := HFX.out
                    unfold fixedR at hfi
                    simp only [ne_eq, not_true_eq_false, false_and, if_false, or_self, e5, Prod.mk.injEq] at hfi
                    obtain ⟨rfl, rfl⟩ := hfi
                    go_wp2_with (go_at_call 17; refine (sanity_any _).mono ?_; rintro e wz ⟨rfl, hb⟩; have HBz := Lib.hid (below_trans HBb.out hb); clear hb)
                    go_ret
                    exact ⟨rfl, HBz.out⟩
                · have e4' : (s2 == 0) = false := by simpa using e4
                  have hfi := HFX.out
                  unfold fixedR at hfi
                  simp only [ne_eq, not_true_eq_false, false_and, if_false, e4, not_false_eq_true, or_true, if_true, Prod.mk.injEq] at hfi
                  obtain ⟨rfl, rfl⟩ := hfi
                  clear e4
                  go_wp2_with (go_at_call 17; refine (sanity_any _).mono ?_; rintro e wz ⟨rfl, hb⟩; have HBz := Lib.hid (below_trans HBb.out hb); clear hb)
                  go_ret
                  exact ⟨rfl, HBz.out⟩
              · have e3' : gg = 5 := e3
                subst e3'
                have hfi : (false, (0 : Int)) = (is_, i_) := by rw [← HFX.out]; simp [fixedR]
                simp only [Prod.mk.injEq] at hfi
                obtain ⟨rfl, rfl⟩ := hfi
                go_wp2_with (go_at_call 17; refine (sanity_any _).mono ?_; rintro e wz ⟨rfl, hb⟩; have HBz := Lib.hid (below_trans HBb.out hb); clear hb)
                go_ret
                exact ⟨rfl, HBz.out⟩
              · have e3' : gg = 9 := e3
                subst e3'
                have hfi : (false, (9 : Int)) = (is_, i_) := by rw [← HFX.out]; simp [fixedR]
                simp only [Prod.mk.injEq] at hfi
                obtain ⟨rfl, rfl⟩ := hfi
                go_wp2_with (go_at_call 17; refine (sanity_any _).mono ?_; rintro e wz ⟨rfl, hb⟩; have HBz := Lib.hid (below_trans HBb.out hb); clear hb)
                go_ret
                exact ⟨rfl, HBz.out⟩
          · have HV4 := Lib.hid (HV42.out rfl)
            clear HV42
            go_upto_region 19 with (first | (go_at_call 41; refine (HA41.out _ (HX.out.below HB7.out)).mono ?_; rintro e wy ⟨rfl, hb⟩; have HBy := Lib.hid (below_trans HB7.out hb); have c0 := cell_below hb c0; have c1 := cell_below hb c1; have lw := World.block_lt_of_cell? _ _ c0; clear hb HA41) | (go_at_call 42; refine (HV4.out _ (HP.out.below HBy.out) (HX.out.below HBy.out)).mono ?_; rintro e w8 ⟨rfl, hb⟩; have HB8 := Lib.hid (below_trans HBy.out hb); have c0 := cell_below hb c0; have c1 := cell_below hb c1; have lw := World.block_lt_of_cell? _ _ c0; clear hb HV4) | (go_at_call 22; refine (HR1.out _ (HA.out.below HB8.out) (HP.out.below HB8.out)).mono ?_; rintro e w9 ⟨rfl, hb⟩; have HB9 := Lib.hid (below_trans HB8.out hb); have c0 := cell_below hb c0; have c1 := cell_below hb c1; have lw := World.block_lt_of_cell? _ _ c0; clear hb HR1))
            have HC0 := Lib.hid (And.intro c0 c1)
            have HP9 := Lib.hid (HP.out.below HB9.out)
            have HA9 := Lib.hid (HA.out.below HB9.out)
            go_region_held3 (fun w' => w'.cell? ⟨w.heap.size, 0, none⟩ = some (.int .i64 N) ∧ w'.cell? ⟨w.heap.size, 1, none⟩ = some (.slice A l.length c)) (first | exact ⟨c0, c1⟩ | exact ⟨cell_below hb3 c0, cell_below hb3 c1⟩ | (constructor <;> go_simp; done)) (first | (go_at_call 43; refine (HRT.out _ ?hh).mono ?_; (case hh => exact HP9.out); rintro e wa ⟨v, rfl, ho, hb⟩; have HBa := Lib.hid (below_trans HB9.out (below_undrew hb)); have HBq := Lib.hid (below_undrew hb); replace c0 := cell_below HBq.out HC0.out.1; replace c1 := cell_below HBq.out HC0.out.2; replace lw := World.block_lt_of_cell? _ _ c0; obtain ⟨B2, d2, rfl, hv, _⟩ := own_intsV (turned_own ho); rw [turned_length]; have HV2 := Lib.hid hv; clear hb ho hv) | (go_at_call 22; refine (HR2.out B2 d2 _ (HA.out.below HBa.out) HV2.out).mono ?_; rintro e wb ⟨rfl, hb3⟩; have HBb := Lib.hid (below_trans HBa.out hb3); replace c0 := cell_below hb3 c0; replace c1 := cell_below hb3 c1; replace lw := World.block_lt_of_cell? _ _ c0))
            all_goals
              rcases HE3.out with e3 | e3 | e3
              · have e3' : gg = 0 := e3
                subst e3'
                by_cases e4 : s2 = 0
                · subst e4
                  cases e5 : (m == wrap64 (-s1))
                  all_goals
                    have hfi := HFX.out
                    unfold fixedR at hfi
                    simp only [ne_eq, not_true_eq_false, false_and, if_false, or_self, e5, Prod.mk.injEq] at hfi
                    obtain ⟨rfl, rfl⟩ := hfi
                    go_wp2_with (go_at_call 17; refine (sanity_any _).mono ?_; rintro e wz ⟨rfl, hb⟩; have HBz := Lib.hid (below_trans HBb.out hb); clear hb)
                    go_ret
                    exact ⟨rfl, HBz.out⟩
                · have e4' : (s2 == 0) = false := by simpa using e4
                  have hfi := HFX.out
                  unfold fixedR at hfi
                  simp only [ne_eq, not_true_eq_false, false_and, if_false, e4, not_false_eq_true, or_true, if_true, Prod.mk.injEq] at hfi
                  obtain ⟨rfl, rfl⟩ := hfi
                  clear e4
                  go_wp2_with (go_at_call 17; refine (sanity_any _).mono ?_; rintro e wz ⟨rfl, hb⟩; have HBz := Lib.hid (below_trans HBb.out hb); clear hb)
                  go_ret
                  exact ⟨rfl, HBz.out⟩
              · have e3' : gg = 5 := e3
                subst e3'
                have hfi : (false, (0 : Int)) = (is_, i_) := by rw [← HFX.out]; simp [fixedR]
                simp only [Prod.mk.injEq] at hfi
                obtain ⟨rfl, rfl⟩ := hfi
                go_wp2_with (go_at_call 17; refine (sanity_any _).mono ?_; rintro e wz ⟨rfl, hb⟩; have HBz := Lib.hid (below_trans HBb.out hb); clear hb)
                go_ret
                exact ⟨rfl, HBz.out⟩
              · have e3' : gg = 9 := e3
                subst e3'
                have hfi : (false, (9 : Int)) = (is_, i_) := by rw [← HFX.out]; simp [fixedR]
                simp only [Prod.mk.injEq] at hfi
                obtain ⟨rfl, rfl⟩ := hfi
                go_wp2_with (go_at_call 17; refine (sanity_any _).mono ?_; rintro e wz ⟨rfl, hb⟩; have HBz := Lib.hid (below_trans HBb.out hb); clear hb)
                go_ret
                exact ⟨rfl, HBz.out⟩
theorem sums_at (n : Int) (A : Option Addr) (c : Nat) (l : List Lk) (C : Option Addr) (f : Nat) (p : List Int) (D : Option Addr) (g : Nat) (x : List Int) (w : World)
    (h : LksAt w A l) (hn : A = none → l.length = 0 ∧ c = 0) (hl : l.length ≤ 9223372036854775807) (h1 : IntsAt w C p) (_ : C = none → p.length = 0 ∧ f = 0) (hp : p.length ≤ 9223372036854775807) (hw : ∀ v ∈ p, -9223372036854775808 ≤ v ∧ v ≤ 9223372036854775807) (h2 : IntsAt w D x) (_ : D = none → x.length = 0 ∧ g = 0) (hx : x.length ≤ 9223372036854775807) (_ : ∀ v ∈ x, -9223372036854775808 ≤ v ∧ v ≤ 9223372036854775807) :
    Calls Try.prog 7 #[.agg #[.int .i64 n, .slice A l.length c], .slice C p.length f, .slice D x.length g] w fun e w' => e = .returned (.bool true) ∧ Below w.heap.size w w' :=
  sums_walk n A c l C f p D g x w h hn h1 h2 hl hp hx hw
end Go.Proofs.Ytmhiiomejopaoaa
