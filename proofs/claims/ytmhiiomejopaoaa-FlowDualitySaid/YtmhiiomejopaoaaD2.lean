/- The flow laws: duality, its walk. -/
import Derived.Test.YtmhiiomejopaoaaD1
import Derived.Test.YtmhiiomejopaoaaQ2
namespace Go.Proofs.Ytmhiiomejopaoaa
set_option linter.all false
open Go.RowKit

set_option maxRecDepth 100000 in
set_option maxHeartbeats 4000000 in
theorem duality_walk (n : Int) (A : Option Addr) (c : Nat) (l : List Lk) (C : Option Addr) (f : Nat) (p : List Int) (B : Option Addr) (d : Nat) (q : List Int) (D : Option Addr) (g : Nat) (x : List Int) (w : World)
    (h : LksAt w A l) (hn : A = none → l.length = 0 ∧ c = 0) (h1 : IntsAt w C p) (hn1 : C = none → p.length = 0 ∧ f = 0) (h2 : IntsAt w B q) (h3 : IntsAt w D x) (hl : l.length ≤ 9223372036854775807) (hp : p.length ≤ 9223372036854775807) (hq : q.length ≤ 9223372036854775807) (hx : x.length ≤ 9223372036854775807)
    (law : askedI n l p = 0 → smallB n l.length = true → DualLaw n l p q x) :
    Calls Try.prog 11 #[.agg #[.int .i64 n, .slice A l.length c], .slice C p.length f, .slice B q.length d, .slice D x.length g] w fun e w' => e = .returned (.bool true) ∧ Below w.heap.size w w' := by
  have HA := Lib.hid h
  have HP := Lib.hid h1
  have HQ := Lib.hid h2
  have HX := Lib.hid h3
  have HN := Lib.hid hn
  have HN1 := Lib.hid hn1
  have HL := Lib.hid law
  clear h h1 h2 h3 hn hn1 law
  cases hs : smallB n l.length
  · go_enter Try.func11, Try.ntmps11
    go_wp2_with (first | (go_at_call 27; refine (small_any n A c l.length _).mono ?_; rw [hs]; rintro e w1 ⟨rfl, hb⟩; have HB := Lib.hid (boxed hb).1; clear hb) | (go_at_call 17; refine (sanity_any _).mono ?_; rintro e w2 ⟨rfl, hb⟩; have HB2 := Lib.hid (below_trans HB.out hb); clear hb))
    go_ret
    exact ⟨rfl, HB2.out⟩
  · have hl2 := small_len hs
    by_cases hp60 : 60 < p.length
    · go_enter Try.func11, Try.ntmps11
      go_wp2_with (first | (go_at_call 27; refine (small_any n A c l.length _).mono ?_; rw [hs]; rintro e w1 ⟨rfl, hb⟩; have HB := Lib.hid (boxed hb).1; clear hb) | (go_at_call 17; refine (sanity_any _).mono ?_; rintro e w2 ⟨rfl, hb⟩; have HB2 := Lib.hid (below_trans HB.out hb); clear hb))
      go_ret
      exact ⟨rfl, HB2.out⟩
    · by_cases hq300 : 300 < q.length
      · go_enter Try.func11, Try.ntmps11
        go_wp2_with (first | (go_at_call 27; refine (small_any n A c l.length _).mono ?_; rw [hs]; rintro e w1 ⟨rfl, hb⟩; have HB := Lib.hid (boxed hb).1; clear hb) | (go_at_call 17; refine (sanity_any _).mono ?_; rintro e w2 ⟨rfl, hb⟩; have HB2 := Lib.hid (below_trans HB.out hb); clear hb))
        go_ret
        exact ⟨rfl, HB2.out⟩
      · by_cases hx60 : 60 < x.length
        · go_enter Try.func11, Try.ntmps11
          go_wp2_with (first | (go_at_call 27; refine (small_any n A c l.length _).mono ?_; rw [hs]; rintro e w1 ⟨rfl, hb⟩; have HB := Lib.hid (boxed hb).1; clear hb) | (go_at_call 17; refine (sanity_any _).mono ?_; rintro e w2 ⟨rfl, hb⟩; have HB2 := Lib.hid (below_trans HB.out hb); clear hb))
          go_ret
          exact ⟨rfl, HB2.out⟩
        · have HHW := Lib.hid (fun W h1 h2 => checkW_any n A c l C f p W (by omega) (by omega) h1 h2)
          by_cases ha : askedI n l p = 0
          · have HLW := Lib.hid (HL.out ha hs)
            have HCR := Lib.hid ha
            rw [ha] at HHW
            clear ha HL
            have HHF := Lib.hid (fun W h1 h2 => Fits_any n A c l D g x W hl (by omega) h1 h2)
            have HHV := Lib.hid (fun W h1 h2 h3 => Value_any n A c l C f p D g x W hl (by omega) (by omega) h1 h2 h3)
            have HHC := Lib.hid (fun W h1 h2 h3 => CheckFlow_any n A c l C f p B d q W (by omega) (by omega) (by omega) h1 h2 h3 HN1.out)
            have HBB := Lib.hid (fun W h1 h2 h3 h4 => both_any n A c l C f p B d q D g x W (by omega) (by omega) (by omega) (by omega) h1 h2 h3 h4 HN1.out)
            have HLL := Lib.hid (show l.length ≤ 1000 ∧ p.length ≤ 1000000 by omega)
            clear hl hp hq hx hl2
            obtain ⟨fx, hfx⟩ : ∃ fx, fitsR n l x = fx := ⟨_, rfl⟩
            obtain ⟨vx, hvx⟩ : ∃ vx, valueR n l p x = vx := ⟨_, rfl⟩
            obtain ⟨cx, hcx⟩ : ∃ cx, flowR n l p q = cx := ⟨_, rfl⟩
            obtain ⟨bx, hbx⟩ : ∃ bx, bothR n l p q x = bx := ⟨_, rfl⟩
            rw [hfx] at HHF
            rw [hvx] at HHV
            rw [hcx] at HHC
            rw [hbx] at HBB
            obtain ⟨f1, f2⟩ := fx
            obtain ⟨v1, v2⟩ := vx
            obtain ⟨k1, k2⟩ := cx
            obtain ⟨b1, b2⟩ := bx
            obtain ⟨so, hso⟩ : ∃ so, solvedB n l p x = so := ⟨_, rfl⟩
            have HSO := Lib.hid (show so = (f2 == 0 && (v2 == 0 && f1)) by rw [← hso]; unfold solvedB; rw [hfx, hvx])
            obtain ⟨L1, r, LP, LM, LC⟩ := HLW.out
            rw [hso, hcx, hvx] at L1
            have HL1 := Lib.hid L1
            have HHM := Lib.hid (fun W h1 h2 => Most_any 2000000 _ n A c l C f p W HLL.out.1 HLL.out.2 h1 h2 LM)
            have HHP := Lib.hid (fun W h1 h2 => prove_any 2000000 r n A c l C f p W HLL.out.1 HLL.out.2 h1 h2 LP)
            have HRA := Lib.hid (fun W h1 h2 h3 => reach_any 2000000 r n A c l C f p W HLL.out.1 HLL.out.2 HN.out h1 h2 LP h3)
            have HEQ := Lib.hid (And.intro hfx (And.intro hvx (And.intro hcx (And.intro hbx hso))))
            have HLC := Lib.hid LC
            clear L1 LP LM LC hfx hvx hcx hbx hso HLW
            go_enter Try.func11, Try.ntmps11
            go_upto_region 6 with (first | (go_at_call 27; refine (small_any n A c l.length _).mono ?_; rw [hs]; rintro e w1 ⟨rfl, hb⟩; have HB := Lib.hid (boxed hb).1; obtain ⟨c0, c1, lw⟩ := (boxed hb).2; clear hb) | (go_at_call 28; refine (HHW.out _ (HA.out.below HB.out) (HP.out.below HB.out)).mono ?_; rintro e w2 ⟨rfl, hb⟩; have HB2 := Lib.hid (below_trans HB.out hb); have c0 := cell_below hb c0; have c1 := cell_below hb c1; have lw := World.block_lt_of_cell? _ _ c0; clear hb HHW) | (go_at_call 37; refine (HHF.out _ (HA.out.below HB2.out) (HX.out.below HB2.out)).mono ?_; rintro e w3 ⟨rfl, hb⟩; have HB3 := Lib.hid (below_trans HB2.out hb); have c0 := cell_below hb c0; have c1 := cell_below hb c1; have lw := World.block_lt_of_cell? _ _ c0; clear hb HHF) | (go_at_call 39; refine (HHV.out _ (HA.out.below HB3.out) (HP.out.below HB3.out) (HX.out.below HB3.out)).mono ?_; rintro e w4 ⟨rfl, hb⟩; have HB4 := Lib.hid (below_trans HB3.out hb); have c0 := cell_below hb c0; have c1 := cell_below hb c1; have lw := World.block_lt_of_cell? _ _ c0; clear hb HHV) | (go_at_call 46; refine (HHC.out _ (HA.out.below HB4.out) (HP.out.below HB4.out) (HQ.out.below HB4.out)).mono ?_; rintro e w5 ⟨rfl, hb⟩; have HB5 := Lib.hid (below_trans HB4.out hb); have c0 := cell_below hb c0; have c1 := cell_below hb c1; have lw := World.block_lt_of_cell? _ _ c0; clear hb HHC))
            go_cut [15] from 71 (fun s wx => s = .bool so ∧ w5 = wx)
            case first =>
              have HSE := Lib.hid HSO.out
              clear HSO
              cases e1 : (f2 == 0)
              · rw [e1] at HSE
                go_wp2_with fail
                go_meet
                exact ⟨by rw [HSE.out]; rfl, rfl⟩
              · cases e2 : (v2 == 0)
                · rw [e1, e2] at HSE
                  go_wp2_with fail
                  go_meet
                  exact ⟨by rw [HSE.out]; rfl, rfl⟩
                · rw [e1, e2] at HSE
                  go_wp2_with fail
                  go_meet
                  exact ⟨by rw [HSE.out]; rfl, rfl⟩
            case rest =>
              obtain ⟨rfl, rfl⟩ := hcut
              go_upto_region 7 with fail
              go_cut [89] from 80 (fun s wx => s = .bool false ∧ w5 = wx)
              case first =>
                cases so
                · go_wp2_with fail
                  go_meet
                  exact ⟨rfl, rfl⟩
                · cases e3 : (k2 == 0)
                  · go_wp2_with fail
                    go_meet
                    exact ⟨rfl, rfl⟩
                  · have hle := HL1.out rfl (by simpa using e3)
                    have hle2 : ¬ k1 < v1 := by omega
                    clear hle
                    go_wp2_with fail
                    go_meet
                    exact ⟨rfl, rfl⟩
              case rest =>
                obtain ⟨rfl, rfl⟩ := hcut
                rcases HLC.out with ⟨rfl, hso⟩ | ⟨rfl, hk2⟩ | ⟨u0, rfl, hD⟩
                · have HRA2 := Lib.hid (fun W h1 h2 => HRA.out W h1 h2 (fun h => by cases h))
                  have e3 : mostV l (([], 9) : List Int × Int) = (0, 9) := rfl
                  have e4 : reachR n l (([], 9) : List Int × Int) = ([], 9) := rfl
                  rw [e3] at HHM
                  rw [e4] at HRA2
                  clear e3 e4 HRA
                  have hso' : so = false := by have := HEQ.out.2.2.2.2; rw [← this]; exact hso
                  subst hso'
                  clear hso
                  go_wp2_with (first | (go_at_call 29; refine (HHM.out _ (HA.out.below HB5.out) (HP.out.below HB5.out)).mono ?_; rintro e w6 ⟨rfl, hb⟩; have HB6 := Lib.hid (below_trans HB5.out hb); have c0 := cell_below hb c0; have c1 := cell_below hb c1; have lw := World.block_lt_of_cell? _ _ c0; clear hb HHM) | (go_at_call 45; refine (HHP.out _ (HA.out.below HB6.out) (HP.out.below HB6.out)).mono ?_; rintro e w7 ⟨vp, rfl, hvp, hb⟩; have HB7 := Lib.hid (below_trans HB6.out hb); have c0 := cell_below hb c0; have c1 := cell_below hb c1; have lw := World.block_lt_of_cell? _ _ c0; clear hb HHP hvp) | (go_at_call 44; refine (HRA2.out _ (HA.out.below HB7.out) (HP.out.below HB7.out)).mono ?_; rintro e w8 ⟨vr, rfl, hvr, hb⟩; have HB8 := Lib.hid (below_trans HB7.out hb); have c0 := cell_below hb c0; have c1 := cell_below hb c1; have lw := World.block_lt_of_cell? _ _ c0; clear hb HRA2 hvr) | (go_at_call 17; refine (sanity_any _).mono ?_; rintro e wz ⟨rfl, hb⟩; have HBz := Lib.hid (below_trans HB8.out hb); clear hb))
                  go_ret
                  exact ⟨rfl, HBz.out⟩
                · have HRA2 := Lib.hid (fun W h1 h2 => HRA.out W h1 h2 (fun h => by cases h))
                  have e3 : mostV l (([], 5) : List Int × Int) = (0, 5) := rfl
                  have e4 : reachR n l (([], 5) : List Int × Int) = ([], 5) := rfl
                  rw [e3] at HHM
                  rw [e4] at HRA2
                  clear e3 e4 HRA
                  have hk2' : (k2 == 0) = false := by have := HEQ.out.2.2.1; rw [this] at hk2; simpa using hk2
                  clear hk2
                  go_wp2_with (first | (go_at_call 29; refine (HHM.out _ (HA.out.below HB5.out) (HP.out.below HB5.out)).mono ?_; rintro e w6 ⟨rfl, hb⟩; have HB6 := Lib.hid (below_trans HB5.out hb); have c0 := cell_below hb c0; have c1 := cell_below hb c1; have lw := World.block_lt_of_cell? _ _ c0; clear hb HHM) | (go_at_call 45; refine (HHP.out _ (HA.out.below HB6.out) (HP.out.below HB6.out)).mono ?_; rintro e w7 ⟨vp, rfl, hvp, hb⟩; have HB7 := Lib.hid (below_trans HB6.out hb); have c0 := cell_below hb c0; have c1 := cell_below hb c1; have lw := World.block_lt_of_cell? _ _ c0; clear hb HHP hvp) | (go_at_call 44; refine (HRA2.out _ (HA.out.below HB7.out) (HP.out.below HB7.out)).mono ?_; rintro e w8 ⟨vr, rfl, hvr, hb⟩; have HB8 := Lib.hid (below_trans HB7.out hb); have c0 := cell_below hb c0; have c1 := cell_below hb c1; have lw := World.block_lt_of_cell? _ _ c0; clear hb HRA2 hvr) | (go_at_call 17; refine (sanity_any _).mono ?_; rintro e wz ⟨rfl, hb⟩; have HBz := Lib.hid (below_trans HB8.out hb); clear hb))
                  go_ret
                  exact ⟨rfl, HBz.out⟩
                · have HRA2 := Lib.hid (fun W h1 h2 => HRA.out W h1 h2 (fun _ => hD.sol))
                  have e3 : mostV l (u0, 0) = (costI l u0, 0) := rfl
                  have e4 : reachR n l (u0, 0) = (reachL n.toNat l u0, 0) := rfl
                  rw [e3] at HHM
                  rw [e4] at HRA2
                  clear e3 e4 HRA
                  have hbo := hD.both
                  have HOL := Lib.hid (show u0.length ≤ 1000000 ∧ (reachL n.toNat l u0).length ≤ 1000000 by
                    have h1 := hD.len; have h2 := hD.own; have h3 := (check_ok (asked_ok HCR.out).1).n2; have h4 := HLL.out; omega)
                  obtain ⟨own, hown⟩ : ∃ own, reachL n.toNat l u0 = own := ⟨_, rfl⟩
                  rw [hown] at hbo HRA2 HOL
                  have HB1 := Lib.hid (fun W Y cy Z cz h1 h2 h3 h4 => both_any n A c l C f p Y cy u0 Z cz own W (by have := HLL.out; omega) (by have := HLL.out; omega) HOL.out.1 HOL.out.2 h1 h2 h3 h4 HN1.out)
                  rw [hbo] at HB1
                  have hvm := hD.vm
                  have hcm := hD.cm
                  have heq := hD.eq
                  obtain ⟨q1, q2, q3, q4, q5⟩ := HEQ.out
                  rw [q5, q2] at hvm
                  rw [q3] at hcm
                  rw [q4, q2, q3] at heq
                  obtain ⟨m, hm⟩ : ∃ m, costI l u0 = m := ⟨_, rfl⟩
                  rw [hm] at hvm hcm heq HHM
                  have HVM := Lib.hid hvm
                  have HCM := Lib.hid hcm
                  have HEE := Lib.hid heq
                  clear hvm hcm heq hm q1 q2 q3 q4 q5 hbo hown hD
                  go_upto_region 18 with (first | (go_at_call 29; refine (HHM.out _ (HA.out.below HB5.out) (HP.out.below HB5.out)).mono ?_; rintro e w6 ⟨rfl, hb⟩; have HB6 := Lib.hid (below_trans HB5.out hb); have c0 := cell_below hb c0; have c1 := cell_below hb c1; have lw := World.block_lt_of_cell? _ _ c0; clear hb HHM) | (go_at_call 45; refine (HHP.out _ (HA.out.below HB6.out) (HP.out.below HB6.out)).mono ?_; rintro e w7 ⟨vp, rfl, ⟨A7, c7, rfl, hv7, _⟩, hb⟩; have HB7 := Lib.hid (below_trans HB6.out hb); have c0 := cell_below hb c0; have c1 := cell_below hb c1; have lw := World.block_lt_of_cell? _ _ c0; have HV7 := Lib.hid hv7; clear hb HHP hv7) | (go_at_call 44; refine (HRA2.out _ (HA.out.below HB7.out) (HP.out.below HB7.out)).mono ?_; rintro e w8 ⟨vr, rfl, ⟨A8, c8, rfl, hv8, _⟩, hb⟩; have HB8 := Lib.hid (below_trans HB7.out hb); have c0 := cell_below hb c0; have c1 := cell_below hb c1; have lw := World.block_lt_of_cell? _ _ c0; have HV8 := Lib.hid hv8; have HV78 := Lib.hid (HV7.out.below hb); clear hb HRA2 hv8) | (go_at_call 47; refine (HB1.out _ _ _ _ _ (HA.out.below HB8.out) (HP.out.below HB8.out) HV78.out HV8.out).mono ?_; rintro e w9 ⟨rfl, hb⟩; have HB9 := Lib.hid (below_trans HB8.out hb); have c0 := cell_below hb c0; have c1 := cell_below hb c1; have lw := World.block_lt_of_cell? _ _ c0; clear hb HB1) | (go_at_call 47; refine (HBB.out _ (HA.out.below HB9.out) (HP.out.below HB9.out) (HQ.out.below HB9.out) (HX.out.below HB9.out)).mono ?_; rintro e w10 ⟨rfl, hb⟩; have HB10 := Lib.hid (below_trans HB9.out hb); have c0 := cell_below hb c0; have c1 := cell_below hb c1; have lw := World.block_lt_of_cell? _ _ c0; clear hb HBB))
                  go_cut [172] from 150 (fun s wx => s = .bool false ∧ w10 = wx)
                  case first =>
                    cases so
                    · cases e3 : (k2 == 0)
                      · go_wp2_with fail
                        go_meet
                        exact ⟨rfl, rfl⟩
                      · have hle := HCM.out (by simpa using e3)
                        have hle2 : ¬ k1 < m := by omega
                        clear hle
                        go_wp2_with fail
                        go_meet
                        exact ⟨rfl, rfl⟩
                    · have hlv := HVM.out rfl
                      have hlv2 : ¬ m < v1 := by omega
                      clear hlv
                      cases e3 : (k2 == 0)
                      · go_wp2_with fail
                        go_meet
                        exact ⟨rfl, rfl⟩
                      · have hle := HCM.out (by simpa using e3)
                        have hle2 : ¬ k1 < m := by omega
                        clear hle
                        go_wp2_with fail
                        go_meet
                        exact ⟨rfl, rfl⟩
                  case rest =>
                    obtain ⟨rfl, rfl⟩ := hcut
                    cases e4 : (b2 != 0)
                    · cases b1
                      · go_wp2_with (go_at_call 17; refine (sanity_any _).mono ?_; rintro e wz ⟨rfl, hb⟩; have HBz := Lib.hid (below_trans HB10.out hb); clear hb)
                        go_ret
                        exact ⟨rfl, HBz.out⟩
                      · have hee := HEE.out (by rw [show b2 = 0 by simpa using e4])
                        have he1 : (v1 == m) = true := by simpa using hee.1
                        have he2 : (k1 == m) = true := by simpa using hee.2
                        clear hee
                        go_wp2_with (go_at_call 17; refine (sanity_any _).mono ?_; rintro e wz ⟨rfl, hb⟩; have HBz := Lib.hid (below_trans HB10.out hb); clear hb)
                        go_ret
                        exact ⟨rfl, HBz.out⟩
                    · go_wp2_with (go_at_call 17; refine (sanity_any _).mono ?_; rintro e wz ⟨rfl, hb⟩; have HBz := Lib.hid (below_trans HB10.out hb); clear hb)
                      go_ret
                      exact ⟨rfl, HBz.out⟩
          · have ha' : (askedI n l p != 0) = true := by simpa using ha
            clear ha HL
            go_enter Try.func11, Try.ntmps11
            go_wp2_with (first | (go_at_call 27; refine (small_any n A c l.length _).mono ?_; rw [hs]; rintro e w1 ⟨rfl, hb⟩; have HB := Lib.hid (boxed hb).1; obtain ⟨c0, c1, lw⟩ := (boxed hb).2; clear hb) | (go_at_call 28; refine (HHW.out _ (HA.out.below HB.out) (HP.out.below HB.out)).mono ?_; rintro e w2 ⟨rfl, hb⟩; have HB2 := Lib.hid (below_trans HB.out hb); have c0 := cell_below hb c0; have c1 := cell_below hb c1; have lw := World.block_lt_of_cell? _ _ c0; clear hb HHW) | (go_at_call 17; refine (sanity_any _).mono ?_; rintro e wz ⟨rfl, hb⟩; have HBz := Lib.hid (below_trans HB2.out hb); clear hb))
            go_ret
            exact ⟨rfl, HBz.out⟩
theorem duality_at (n : Int) (A : Option Addr) (c : Nat) (l : List Lk) (C : Option Addr) (f : Nat) (p : List Int) (B : Option Addr) (d : Nat) (q : List Int) (D : Option Addr) (g : Nat) (x : List Int) (w : World)
    (h : LksAt w A l) (hn : A = none → l.length = 0 ∧ c = 0) (hl : l.length ≤ 9223372036854775807) (h1 : IntsAt w C p) (hn1 : C = none → p.length = 0 ∧ f = 0) (hp : p.length ≤ 9223372036854775807) (_ : ∀ v ∈ p, -9223372036854775808 ≤ v ∧ v ≤ 9223372036854775807) (h2 : IntsAt w B q) (_ : B = none → q.length = 0 ∧ d = 0) (hq : q.length ≤ 9223372036854775807) (_ : ∀ v ∈ q, -9223372036854775808 ≤ v ∧ v ≤ 9223372036854775807) (h3 : IntsAt w D x) (_ : D = none → x.length = 0 ∧ g = 0) (hx : x.length ≤ 9223372036854775807) (_ : ∀ v ∈ x, -9223372036854775808 ≤ v ∧ v ≤ 9223372036854775807) :
    Calls Try.prog 11 #[.agg #[.int .i64 n, .slice A l.length c], .slice C p.length f, .slice B q.length d, .slice D x.length g] w fun e w' => e = .returned (.bool true) ∧ Below w.heap.size w w' :=
  duality_walk n A c l C f p B d q D g x w h hn h1 hn1 h2 h3 hl hp hq hx (fun ha hs => dual_law n l p q x ha hs)
end Go.Proofs.Ytmhiiomejopaoaa
