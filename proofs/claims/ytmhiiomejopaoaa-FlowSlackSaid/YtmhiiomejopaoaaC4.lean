/- The flow laws: slack, its walk. -/
import Derived.Test.YtmhiiomejopaoaaC3
import Derived.Test.YtmhiiomejopaoaaV4
import Derived.Test.YtmhiiomejopaoaaN2
namespace Go.Proofs.Ytmhiiomejopaoaa
set_option linter.all false
open Go.RowKit

theorem slack_pre (n : Int) (l : List Lk) (p x : List Int) (hs : lightB n l.length = true) : ∃ r0, MostP 2000000 n l p = some r0 ∧ (r0.2 = 0 → askedI n l p = 0 ∧ ∃ u t d e, SlackOk n l p x r0.1 u t d e) := by
  by_cases ha : askedI n l p = 0
  · have hn1 := (check_ok (asked_ok ha).1).n1
    obtain ⟨N, rfl⟩ : ∃ N : Nat, n = N := ⟨n.toNat, by omega⟩
    have hsm2 : (N : Int) ≤ 8 ∧ l.length ≤ 18 := by simpa [lightB] using hs
    obtain ⟨r, hr, _⟩ := most_facts ha (by omega) (by omega)
    refine ⟨r, hr, fun h0 => ⟨ha, ?_⟩⟩
    obtain ⟨a, b⟩ := r
    have h0' : b = 0 := h0
    subst h0'
    exact slack_law N l p x a ha hs hr
  · exact ⟨(0, askedI n l p), by unfold MostP; rw [if_neg ha], fun h0 => absurd h0 ha⟩
set_option maxRecDepth 100000 in
set_option maxHeartbeats 40000000 in
theorem slack_walk (n : Int) (A : Option Addr) (c : Nat) (l : List Lk) (C : Option Addr) (f : Nat) (p : List Int) (D : Option Addr) (g : Nat) (x : List Int) (w : World)
    (h : LksAt w A l) (hn : A = none → l.length = 0 ∧ c = 0) (h1 : IntsAt w C p) (hn1 : C = none → p.length = 0 ∧ f = 0) (h2 : IntsAt w D x) (hl : l.length ≤ 9223372036854775807) (hp : p.length ≤ 9223372036854775807) (hx : x.length ≤ 9223372036854775807)
    (law : lightB n l.length = true → ∃ r0, MostP 2000000 n l p = some r0 ∧ (r0.2 = 0 → askedI n l p = 0 ∧ ∃ u t d e, SlackOk n l p x r0.1 u t d e)) :
    Calls Try.prog 10 #[.agg #[.int .i64 n, .slice A l.length c], .slice C p.length f, .slice D x.length g] w fun e w' => e = .returned (.bool true) ∧ Below w.heap.size w w' := by
  have HA := Lib.hid h
  have HP := Lib.hid h1
  have HX := Lib.hid h2
  have HN := Lib.hid hn
  have HN1 := Lib.hid hn1
  have HLAW := Lib.hid law
  clear h h1 h2 hn hn1 law
  cases hs : lightB n l.length
  · skip
    go_enter Try.func10, Try.ntmps10
    go_wp2_with (first | (go_at_call 16; refine (light_any n A c l.length _).mono ?_; rw [hs]; rintro e w1 ⟨rfl, hb⟩; have HB1 := Lib.hid (boxed hb).1; obtain ⟨c0, c1, lw⟩ := (boxed hb).2; clear hb) | (go_at_call 17; refine (sanity_any _).mono ?_; rintro e wz ⟨rfl, hb⟩; have HBz := Lib.hid (below_trans HB1.out hb); clear hb))
    go_ret
    exact ⟨rfl, HBz.out⟩
  · have hls : n ≤ 8 ∧ l.length ≤ 18 := by simpa [lightB] using hs
    by_cases hp60 : 60 < p.length
    · skip
      go_enter Try.func10, Try.ntmps10
      go_wp2_with (first | (go_at_call 16; refine (light_any n A c l.length _).mono ?_; rw [hs]; rintro e w1 ⟨rfl, hb⟩; have HB1 := Lib.hid (boxed hb).1; obtain ⟨c0, c1, lw⟩ := (boxed hb).2; clear hb) | (go_at_call 17; refine (sanity_any _).mono ?_; rintro e wz ⟨rfl, hb⟩; have HBz := Lib.hid (below_trans HB1.out hb); clear hb))
      go_ret
      exact ⟨rfl, HBz.out⟩
    · skip
      by_cases hx60 : 60 < x.length
      · skip
        go_enter Try.func10, Try.ntmps10
        go_wp2_with (first | (go_at_call 16; refine (light_any n A c l.length _).mono ?_; rw [hs]; rintro e w1 ⟨rfl, hb⟩; have HB1 := Lib.hid (boxed hb).1; obtain ⟨c0, c1, lw⟩ := (boxed hb).2; clear hb) | (go_at_call 17; refine (sanity_any _).mono ?_; rintro e wz ⟨rfl, hb⟩; have HBz := Lib.hid (below_trans HB1.out hb); clear hb))
        go_ret
        exact ⟨rfl, HBz.out⟩
      · skip
        obtain ⟨r0, hm, hlaw⟩ := HLAW.out hs
        have HLE := Lib.hid (show l.length ≤ 18 ∧ p.length ≤ 60 ∧ x.length ≤ 60 ∧ l.length ≤ 1000 ∧ p.length ≤ 1000000 ∧ x.length ≤ 1000000 by omega)
        have HM := Lib.hid (fun W h1 h2 => Most_any 2000000 r0 n A c l C f p W HLE.out.2.2.2.1 HLE.out.2.2.2.2.1 h1 h2 hm)
        obtain ⟨most, e0⟩ := r0
        have HLW := Lib.hid hlaw
        clear hm hlaw HLAW hls
        by_cases he : e0 = 0
        case neg =>
          have he' : (e0 != 0) = true := by simpa using he
          clear he HLW
          go_enter Try.func10, Try.ntmps10
          go_wp2_with (first | (go_at_call 16; refine (light_any n A c l.length _).mono ?_; rw [hs]; rintro e w1 ⟨rfl, hb⟩; have HB1 := Lib.hid (boxed hb).1; obtain ⟨c0, c1, lw⟩ := (boxed hb).2; clear hb) | (go_at_call 29; refine (HM.out _ (HA.out.below HB1.out) (HP.out.below HB1.out)).mono ?_; rintro e w2 ⟨rfl, hb⟩; have HB2 := Lib.hid (below_trans HB1.out hb); have c0 := cell_below hb c0; have c1 := cell_below hb c1; have lw := World.block_lt_of_cell? _ _ c0; clear hb HM) | (go_at_call 17; refine (sanity_any _).mono ?_; rintro e wz ⟨rfl, hb⟩; have HBz := Lib.hid (below_trans HB2.out hb); clear hb))
          go_ret
          exact ⟨rfl, HBz.out⟩
        case pos =>
          subst he
          obtain ⟨ha, u, t, d, e, hso⟩ := HLW.out rfl
          have HSO := Lib.hid hso
          have hok := check_ok (asked_ok ha).1
          have HCK := Lib.hid (asked_ok ha).1
          have HLK := Lib.hid (fun k : Nat => fun hk : k < l.length => (hok.lk (gl l k) (gl_mem (l := l) (i := (k : Int)) (by omega) (by omega))).1)
          have HASK := Lib.hid ha
          clear hso HLW ha hok
          have HPR := Lib.hid (fun W h1 h2 => prove_any 2000000 (u, 0) n A c l C f p W HLE.out.2.2.2.1 HLE.out.2.2.2.2.1 h1 h2 HSO.out.pr)
          have HTI := Lib.hid (fun W h1 h2 => tight_any 2000000 (u, 0) n A c l C f p W HLE.out.2.2.2.1 HLE.out.2.2.2.2.1 HN.out h1 h2 HSO.out.pr)
          rw [HSO.out.ti] at HTI
          have HNE := Lib.hid (fun W h1 h2 => needed_any 2000000 (d, 0) n A c l C f p W HLE.out.2.2.2.1 HLE.out.2.2.2.2.1 h1 h2 HSO.out.ne)
          have HCO := Lib.hid (fun W h1 h2 => core_any 2000000 (e, 0) n A c l C f p W HLE.out.2.2.2.1 HLE.out.2.2.2.2.1 h1 h2 HSO.out.co)
          have HFI := Lib.hid (fun W h1 h2 => Fits_any n A c l D g x W (by have := HLE.out; omega) HLE.out.2.2.2.2.2 h1 h2)
          have HVA := Lib.hid (fun W h1 h2 h3 => Value_any n A c l C f p D g x W (by have := HLE.out; omega) HLE.out.2.2.2.2.1 HLE.out.2.2.2.2.2 h1 h2 h3)
          have hul : ((u.length : Int) != (l.length : Int)) = false := by have h := HSO.out.len; simp; omega
          have HDE := Lib.hid (show d.length ≤ 140737488351232 ∧ e.length ≤ 140737488351232 by have h1 := HSO.out.dl; have h2 := HSO.out.cl; have h3 := HLE.out; omega)
          go_enter Try.func10, Try.ntmps10
          go_upto_region 14 with (first | (go_at_call 16; refine (light_any n A c l.length _).mono ?_; rw [hs]; rintro e w1 ⟨rfl, hb⟩; have HB1 := Lib.hid (boxed hb).1; obtain ⟨c0, c1, lw⟩ := (boxed hb).2; clear hb) | (go_at_call 29; refine (HM.out _ (HA.out.below HB1.out) (HP.out.below HB1.out)).mono ?_; rintro e w2 ⟨rfl, hb⟩; have HB2 := Lib.hid (below_trans HB1.out hb); have c0 := cell_below hb c0; have c1 := cell_below hb c1; have lw := World.block_lt_of_cell? _ _ c0; clear hb HM) | (go_at_call 45; refine (HPR.out _ (HA.out.below HB2.out) (HP.out.below HB2.out)).mono ?_; rintro e w3 ⟨v, rfl, ⟨Au, cu, rfl, hv, _⟩, hb⟩; have HB3 := Lib.hid (below_trans HB2.out hb); have c0 := cell_below hb c0; have c1 := cell_below hb c1; have lw := World.block_lt_of_cell? _ _ c0;  have HIu := Lib.hid hv; clear hb hv HPR) | (go_at_call 18; refine (HTI.out _ (HA.out.below HB3.out) (HP.out.below HB3.out)).mono ?_; rintro e w4 ⟨v, rfl, ⟨At, ct, rfl, hv, _⟩, hb⟩; have HB4 := Lib.hid (below_trans HB3.out hb); have c0 := cell_below hb c0; have c1 := cell_below hb c1; have lw := World.block_lt_of_cell? _ _ c0; have HIu := Lib.hid (HIu.out.below hb); have HIt := Lib.hid hv; clear hb hv HTI) | (go_at_call 19; refine (HNE.out _ (HA.out.below HB4.out) (HP.out.below HB4.out)).mono ?_; rintro e w5 ⟨v, rfl, ⟨Ad, cd, rfl, hv, _⟩, hb⟩; have HB5 := Lib.hid (below_trans HB4.out hb); have c0 := cell_below hb c0; have c1 := cell_below hb c1; have lw := World.block_lt_of_cell? _ _ c0; have HIu := Lib.hid (HIu.out.below hb); have HIt := Lib.hid (HIt.out.below hb); have HId := Lib.hid hv; clear hb hv HNE) | (go_at_call 20; refine (HCO.out _ (HA.out.below HB5.out) (HP.out.below HB5.out)).mono ?_; rintro e w6 ⟨v, rfl, ⟨Ae, ce, rfl, hv, _⟩, hb⟩; have HB6 := Lib.hid (below_trans HB5.out hb); have c0 := cell_below hb c0; have c1 := cell_below hb c1; have lw := World.block_lt_of_cell? _ _ c0; have HIu := Lib.hid (HIu.out.below hb); have HIt := Lib.hid (HIt.out.below hb); have HId := Lib.hid (HId.out.below hb); have HIe := Lib.hid hv; clear hb hv HCO))
          clear hul
          have HC := Lib.hid (And.intro c0 c1)
          clear c0 c1 lw
          go_loopw [17, 18] (fun v i wr => ∃ k : Nat, k ≤ l.length ∧ i = .int .i64 k ∧ Hid (OwnN w6.heap.size w6 wr v (ndN (fun k => !e.contains (k : Int)) k))) (fun _ i _ => l.length - (intOf i).toNat)
          case atStart => exact ⟨0, by omega, rfl, Lib.hid ⟨World.ownsRow_nil _ _ _ _, Below.refl _ _, Nat.le_refl _⟩⟩
          case round =>
            obtain ⟨k, hk, rfl, HO⟩ := hrel
            have c0 := cell_below HO.out.below HC.out.1
            have c1 := cell_below HO.out.below HC.out.2
            have lw := World.block_lt_of_cell? _ _ c0
            have HB7 := Lib.hid (below_trans HB6.out HO.out.below)
            have HIu := Lib.hid (HIu.out.below HO.out.below)
            have HIt := Lib.hid (HIt.out.below HO.out.below)
            have HId := Lib.hid (HId.out.below HO.out.below)
            have HIe := Lib.hid (HIe.out.below HO.out.below)
            by_cases hlt : k < l.length
            case pos =>
              have hltu : k < u.length := by have := HSO.out.len; omega
              obtain ⟨b1, o1, e1, g1⟩ := HIu.out.nat k hltu
              subst e1
              have l1 := World.block_lt_of_cell? _ _ g1
              have HT := Lib.hid (fun (hu0 : 0 < gi u k) W h1 => (show Calls Try.prog 57 #[.slice At t.length ct, .int .i64 (k : Int)] W fun e w' => e = .returned (.bool true) ∧ Below W.heap.size W w' from by have h := has_any At ct t (k : Int) W (by have := HSO.out.tl; have := HLE.out; omega) h1; rw [HSO.out.ut k hlt hu0] at h; exact h))
              have HD := Lib.hid (fun W h1 => has_any Ad cd d (k : Int) W HDE.out.1 h1)
              have HE1 := Lib.hid (fun W h1 => has_any Ae ce e (k : Int) W HDE.out.2 h1)
              have HE2 := HE1
              have HDC := Lib.hid (HSO.out.dc k hlt)
              have HND := Lib.hid (ndN_succ (fun k => !e.contains (k : Int)) k)
              have HNL := Lib.hid (ndN_len (fun k => !e.contains (k : Int)) k)
              have hkm : k + 1 ≤ 19 := by have := HLE.out; omega
              generalize hqc : e.contains (k : Int) = qc at HE1 HE2 HDC HND
              generalize hqd : d.contains (k : Int) = qd at HD HDC
              clear hqc hqd
              by_cases hu0 : 0 < gi u k
              case pos =>
                cases qd
                case false =>
                  cases qc
                  case false =>
                    clear HE1
                    have HBB0 := Lib.hid (Below.refl wr.heap.size wr)
                    go_wp2_with (first | (go_at_call 57; refine (HT.out hu0 _ (HIt.out.below HBB0.out)).mono ?_; rintro e ww1 ⟨rfl, hb⟩; have HBB1 := Lib.hid (below_trans HBB0.out hb); have g1 := cell_below hb g1; have l1 := World.block_lt_of_cell? _ _ g1; clear hb HT) | (go_at_call 57; refine (HD.out _ (HId.out.below HBB1.out)).mono ?_; rintro e ww2 ⟨rfl, hb⟩; have HBB2 := Lib.hid (below_trans HBB1.out hb); have g1 := cell_below hb g1; have l1 := World.block_lt_of_cell? _ _ g1; clear hb HD) | (go_at_call 57; refine (HE2.out _ (HIe.out.below HBB2.out)).mono ?_; rintro e ww3 ⟨rfl, hb⟩; have HBB3 := Lib.hid (below_trans HBB2.out hb); have g1 := cell_below hb g1; have l1 := World.block_lt_of_cell? _ _ g1; clear hb HE2) | (at_builtin; refine app_one rfl _ _ 25 3 (.int .i64 0) 1 8 rfl Try.underlying25 info3 rfl (by omega) u17 _ _ [.int .i64 k] rfl rfl rfl rfl (one1 _ _) w6.heap.size (HO.out.calls HBB3.out).row (HO.out.calls HBB3.out).hB (by have := HNL.out; omega) (by have := HNL.out; unfold maxLen; omega) ?_; intro v1 w9 ho hg _; have HO9 := Lib.hid ((HO.out.calls HBB3.out).appended ho hg); clear ho hg))
                    go_roundw
                    case rel => exact ⟨k + 1, by omega, by go_num, Lib.hid (by rw [HND.out]; exact HO9.out)⟩
                    case measure => simp [intOf]; omega
                  case true =>
                    clear HE1
                    have HBB0 := Lib.hid (Below.refl wr.heap.size wr)
                    go_wp2_with (first | (go_at_call 57; refine (HT.out hu0 _ (HIt.out.below HBB0.out)).mono ?_; rintro e ww1 ⟨rfl, hb⟩; have HBB1 := Lib.hid (below_trans HBB0.out hb); have g1 := cell_below hb g1; have l1 := World.block_lt_of_cell? _ _ g1; clear hb HT) | (go_at_call 57; refine (HD.out _ (HId.out.below HBB1.out)).mono ?_; rintro e ww2 ⟨rfl, hb⟩; have HBB2 := Lib.hid (below_trans HBB1.out hb); have g1 := cell_below hb g1; have l1 := World.block_lt_of_cell? _ _ g1; clear hb HD) | (go_at_call 57; refine (HE2.out _ (HIe.out.below HBB2.out)).mono ?_; rintro e ww3 ⟨rfl, hb⟩; have HBB3 := Lib.hid (below_trans HBB2.out hb); have g1 := cell_below hb g1; have l1 := World.block_lt_of_cell? _ _ g1; clear hb HE2))
                    go_roundw
                    case rel => exact ⟨k + 1, by omega, by go_num, Lib.hid (by rw [HND.out]; exact HO.out.calls HBB3.out)⟩
                    case measure => simp [intOf]; omega
                case true =>
                  obtain ⟨hq1, hq2⟩ := HDC.out rfl
                  subst hq1
                  have hq3 : (gi u k == 0) = false := by simpa using hq2
                  clear hq2
                  have HBB0 := Lib.hid (Below.refl wr.heap.size wr)
                  go_wp2_with (first | (go_at_call 57; refine (HT.out hu0 _ (HIt.out.below HBB0.out)).mono ?_; rintro e ww1 ⟨rfl, hb⟩; have HBB1 := Lib.hid (below_trans HBB0.out hb); have g1 := cell_below hb g1; have l1 := World.block_lt_of_cell? _ _ g1; clear hb HT) | (go_at_call 57; refine (HD.out _ (HId.out.below HBB1.out)).mono ?_; rintro e ww2 ⟨rfl, hb⟩; have HBB2 := Lib.hid (below_trans HBB1.out hb); have g1 := cell_below hb g1; have l1 := World.block_lt_of_cell? _ _ g1; clear hb HD) | (go_at_call 57; refine (HE1.out _ (HIe.out.below HBB2.out)).mono ?_; rintro e ww3 ⟨rfl, hb⟩; have HBB3 := Lib.hid (below_trans HBB2.out hb); have g1 := cell_below hb g1; have l1 := World.block_lt_of_cell? _ _ g1; clear hb HE1) | (go_at_call 57; refine (HE2.out _ (HIe.out.below HBB3.out)).mono ?_; rintro e ww4 ⟨rfl, hb⟩; have HBB4 := Lib.hid (below_trans HBB3.out hb); have g1 := cell_below hb g1; have l1 := World.block_lt_of_cell? _ _ g1; clear hb HE2))
                  go_roundw
                  case rel => exact ⟨k + 1, by omega, by go_num, Lib.hid (by rw [HND.out]; exact HO.out.calls HBB4.out)⟩
                  case measure => simp [intOf]; omega
              case neg =>
                cases qd
                case false =>
                  cases qc
                  case false =>
                    clear HT
                    clear HE1
                    have HBB0 := Lib.hid (Below.refl wr.heap.size wr)
                    go_wp2_with (first | (go_at_call 57; refine (HD.out _ (HId.out.below HBB0.out)).mono ?_; rintro e ww1 ⟨rfl, hb⟩; have HBB1 := Lib.hid (below_trans HBB0.out hb); have g1 := cell_below hb g1; have l1 := World.block_lt_of_cell? _ _ g1; clear hb HD) | (go_at_call 57; refine (HE2.out _ (HIe.out.below HBB1.out)).mono ?_; rintro e ww2 ⟨rfl, hb⟩; have HBB2 := Lib.hid (below_trans HBB1.out hb); have g1 := cell_below hb g1; have l1 := World.block_lt_of_cell? _ _ g1; clear hb HE2) | (at_builtin; refine app_one rfl _ _ 25 3 (.int .i64 0) 1 8 rfl Try.underlying25 info3 rfl (by omega) u17 _ _ [.int .i64 k] rfl rfl rfl rfl (one1 _ _) w6.heap.size (HO.out.calls HBB2.out).row (HO.out.calls HBB2.out).hB (by have := HNL.out; omega) (by have := HNL.out; unfold maxLen; omega) ?_; intro v1 w9 ho hg _; have HO9 := Lib.hid ((HO.out.calls HBB2.out).appended ho hg); clear ho hg))
                    go_roundw
                    case rel => exact ⟨k + 1, by omega, by go_num, Lib.hid (by rw [HND.out]; exact HO9.out)⟩
                    case measure => simp [intOf]; omega
                  case true =>
                    clear HT
                    clear HE1
                    have HBB0 := Lib.hid (Below.refl wr.heap.size wr)
                    go_wp2_with (first | (go_at_call 57; refine (HD.out _ (HId.out.below HBB0.out)).mono ?_; rintro e ww1 ⟨rfl, hb⟩; have HBB1 := Lib.hid (below_trans HBB0.out hb); have g1 := cell_below hb g1; have l1 := World.block_lt_of_cell? _ _ g1; clear hb HD) | (go_at_call 57; refine (HE2.out _ (HIe.out.below HBB1.out)).mono ?_; rintro e ww2 ⟨rfl, hb⟩; have HBB2 := Lib.hid (below_trans HBB1.out hb); have g1 := cell_below hb g1; have l1 := World.block_lt_of_cell? _ _ g1; clear hb HE2))
                    go_roundw
                    case rel => exact ⟨k + 1, by omega, by go_num, Lib.hid (by rw [HND.out]; exact HO.out.calls HBB2.out)⟩
                    case measure => simp [intOf]; omega
                case true =>
                  obtain ⟨hq1, hq2⟩ := HDC.out rfl
                  subst hq1
                  have hq3 : (gi u k == 0) = false := by simpa using hq2
                  clear hq2
                  clear HT
                  have HBB0 := Lib.hid (Below.refl wr.heap.size wr)
                  go_wp2_with (first | (go_at_call 57; refine (HD.out _ (HId.out.below HBB0.out)).mono ?_; rintro e ww1 ⟨rfl, hb⟩; have HBB1 := Lib.hid (below_trans HBB0.out hb); have g1 := cell_below hb g1; have l1 := World.block_lt_of_cell? _ _ g1; clear hb HD) | (go_at_call 57; refine (HE1.out _ (HIe.out.below HBB1.out)).mono ?_; rintro e ww2 ⟨rfl, hb⟩; have HBB2 := Lib.hid (below_trans HBB1.out hb); have g1 := cell_below hb g1; have l1 := World.block_lt_of_cell? _ _ g1; clear hb HE1) | (go_at_call 57; refine (HE2.out _ (HIe.out.below HBB2.out)).mono ?_; rintro e ww3 ⟨rfl, hb⟩; have HBB3 := Lib.hid (below_trans HBB2.out hb); have g1 := cell_below hb g1; have l1 := World.block_lt_of_cell? _ _ g1; clear hb HE2))
                  go_roundw
                  case rel => exact ⟨k + 1, by omega, by go_num, Lib.hid (by rw [HND.out]; exact HO.out.calls HBB3.out)⟩
                  case measure => simp [intOf]; omega
            case neg =>
              obtain rfl : k = l.length := by omega
              have HGL := Lib.hid (ndN_len (fun k => !e.contains (k : Int)) l.length)
              have HAL := Lib.hid HSO.out.al
              have HAC := Lib.hid HSO.out.ac
              have HALE := Lib.hid HSO.out.le
              generalize ndN (fun k => !e.contains (k : Int)) l.length = gone at HO HGL HAL HAC HALE
              obtain ⟨K, hK⟩ : ∃ K, keptL l (notIn gone) = K := ⟨_, rfl⟩
              have HKL := Lib.hid (show K.length ≤ 18 by rw [← hK]; have := keptL_len l (notIn gone); have := HLE.out; omega)
              rw [hK] at HAL HAC HALE
              obtain ⟨Ag, cg, hug, hvg, _⟩ := own_intsV HO.out.row
              subst hug
              have HIg := Lib.hid hvg
              clear hvg hlt HIu HId HIe
              have HWO := Lib.hid (fun W h1 h2 => without_any n A c l Ag cg gone W (by have := HLE.out; omega) (by have := HGL.out; have := HLE.out; omega) h1 h2)
              have e2 : withoutR n l gone = ((n, K), 0) := by unfold withoutR; rw [HCK.out, hK]; rfl
              rw [e2] at HWO
              clear e2 hK
              have HM2 := Lib.hid (fun W A9 c9 h1 h2 => Most_any 2000000 (most, 0) n A9 c9 K C f p W (by have := HKL.out; omega) HLE.out.2.2.2.2.1 h1 h2 HAL.out)
              obtain ⟨fx, hfx⟩ : ∃ fx, fitsR n l x = fx := ⟨_, rfl⟩
              obtain ⟨vx, hvx⟩ : ∃ vx, valueR n l p x = vx := ⟨_, rfl⟩
              have HXT := Lib.hid HSO.out.xt
              rw [hfx] at HFI HXT
              rw [hvx] at HVA HXT
              have HARE := Lib.hid (fun (q : fx = (true, 0)) => (show areB n x = true by rw [q] at hfx; exact (fits_ok hfx).2.1))
              obtain ⟨f1, f2⟩ := fx
              obtain ⟨v1, v2⟩ := vx
              clear hfx hvx
              go_upto_region 22 with (first | (go_at_call 37; refine (HFI.out _ (HA.out.below HB7.out) (HX.out.below HB7.out)).mono ?_; rintro e w8 ⟨rfl, hb⟩; have HB8 := Lib.hid (below_trans HB7.out hb); have c0 := cell_below hb c0; have c1 := cell_below hb c1; have lw := World.block_lt_of_cell? _ _ c0; have HIg := Lib.hid (HIg.out.below hb); have HIt := Lib.hid (HIt.out.below hb); clear hb HFI) | (go_at_call 39; refine (HVA.out _ (HA.out.below HB8.out) (HP.out.below HB8.out) (HX.out.below HB8.out)).mono ?_; rintro e w9 ⟨rfl, hb⟩; have HB9 := Lib.hid (below_trans HB8.out hb); have c0 := cell_below hb c0; have c1 := cell_below hb c1; have lw := World.block_lt_of_cell? _ _ c0; have HIg := Lib.hid (HIg.out.below hb); have HIt := Lib.hid (HIt.out.below hb); clear hb HVA))
              by_cases hall : f2 = 0 ∧ v2 = 0 ∧ f1 = true ∧ most = v1
              case pos =>
                obtain ⟨rfl, rfl, rfl, rfl⟩ := hall
                have HXT2 := Lib.hid (HXT.out rfl rfl)
                have HXA := Lib.hid (are_len (HARE.out rfl))
                have HTM := Lib.hid HSO.out.tm
                have HTL := Lib.hid HSO.out.tl
                have HC9 := Lib.hid (And.intro c0 c1)
                clear HXT HARE
                go_upto_region 24 with fail
                clear c0 c1 lw
                go_loopw [23] (fun i wr => ∃ k : Nat, k ≤ t.length ∧ i = .int .i64 k ∧ Hid (Below w9.heap.size w9 wr)) (fun i _ => t.length - (intOf i).toNat)
                case atStart => exact ⟨0, by omega, rfl, Lib.hid (Below.refl _ _)⟩
                case round =>
                  obtain ⟨k, hk, rfl, HBk⟩ := hrel
                  have c0 := cell_below HBk.out HC9.out.1
                  have c1 := cell_below HBk.out HC9.out.2
                  have lw := World.block_lt_of_cell? _ _ c0
                  have HB9k := Lib.hid (below_trans HB9.out HBk.out)
                  by_cases hlt : k < t.length
                  case pos =>
                    obtain ⟨bt, ot, et, gt⟩ := (HIt.out.below HBk.out).nat k hlt
                    subst et
                    have hym := gi_mem (l := t) (i := (k : Int)) (by omega) (by omega)
                    obtain ⟨y0, y1⟩ := HTM.out _ hym
                    have hxy := HXT2.out _ hym
                    generalize gi t k = y at gt hym y0 y1 hxy
                    obtain ⟨bl, ol, el, gl1, gl2, gl3⟩ := (HA.out.below HB9k.out) y y0 y1
                    subst el
                    have hin := HLK.out y.toNat (by omega)
                    rw [show ((y.toNat : Nat) : Int) = y by omega] at hin
                    generalize gl l y = q at gl1 gl2 gl3 hxy hin
                    obtain ⟨i1, i2, i3, i4⟩ := hin
                    have hxl := HXA.out
                    obtain ⟨bx, ox, ex, gx⟩ := (HX.out.below HB9k.out) q.a i1 (by omega)
                    obtain ⟨bx2, ox2, ex2, gx2⟩ := (HX.out.below HB9k.out) q.b i3 (by omega)
                    subst ex
                    obtain ⟨rfl, rfl⟩ : bx = bx2 ∧ ox = ox2 := by simpa using ex2
                    have la := World.block_lt_of_cell? _ _ gt
                    have lb := World.block_lt_of_cell? _ _ gl1
                    have lc := World.block_lt_of_cell? _ _ gx
                    have hne : (gi x q.b != IntKind.i64.wrap (gi x q.a + q.m)) = false := by rw [IntWalk.i64_left, hxy]; simp
                    have hy0 : ¬ y < 0 := by omega
                    have hy1 : ¬ (l.length : Int) ≤ y := by omega
                    have hkm : k + 1 ≤ 19 := by have := HTL.out; have := HLE.out; omega
                    have i2x : q.a < (x.length : Int) := by omega
                    have i4x : q.b < (x.length : Int) := by omega
                    clear hxy hym ex2 hxl i2 i4
                    go_wp2
                    go_quiet (fail)
                    go_wp2
                    go_roundw
                    case rel => exact ⟨k + 1, by omega, by go_num, Lib.hid (below_drews HBk.out _)⟩
                    case measure => simp [intOf]; omega
                  case neg =>
                    obtain rfl : k = t.length := by omega
                    have HIg := Lib.hid (HIg.out.below HBk.out)
                    have MK1 := Lib.hid True.intro
                    have MK2 := Lib.hid True.intro
                    go_upto_region 33 with (first | (go_at_call 52; have hmk := MK1.out; clear hmk MK1; refine (HWO.out _ (HA.out.below HB9k.out) HIg.out).mono ?_; rintro e w10 ⟨v4, rfl, ⟨A4, c4, rfl, hv4, _⟩, hb⟩; have HB10 := Lib.hid (below_trans HB9k.out hb); have HV4 := Lib.hid hv4; clear hb HWO hv4) | (go_at_call 29; have hmk := MK2.out; clear hmk MK2; refine (HM2.out _ _ _ (HV4.out.alloc _) (HP.out.below (below_trans HB10.out bel))).mono ?_; rintro e w11 ⟨rfl, hb⟩; have HB11 := Lib.hid (below_trans (below_trans HB10.out bel) hb); have e0 := cell_below (a := ⟨w10.heap.size, 0, none⟩) (v := .int .i64 n) hb (by go_simp); have e1 := cell_below (a := ⟨w10.heap.size, 1, none⟩) (v := .slice A4 K.length c4) hb (by go_simp); have le := World.block_lt_of_cell? _ _ e0; have HV4 := Lib.hid ((HV4.out.alloc _).below hb); clear hb HM2))
                    have HEE := Lib.hid (And.intro e0 e1)
                    clear e0 e1 le c0 c1 lw
                    go_loopw [28, 29, 30, 31, 32] (fun i _ _ _ _ wr => ∃ z : Nat, z ≤ K.length ∧ i = .int .i64 z ∧ Hid (Below w11.heap.size w11 wr)) (fun i _ _ _ _ _ => K.length - (intOf i).toNat)
                    case atStart => exact ⟨0, by omega, rfl, Lib.hid (Below.refl _ _)⟩
                    case round =>
                      obtain ⟨z, hz, rfl, HBR⟩ := hrel
                      have e0 := cell_below HBR.out HEE.out.1
                      have e1 := cell_below HBR.out HEE.out.2
                      have le := World.block_lt_of_cell? _ _ e0
                      have HB12 := Lib.hid (below_trans HB11.out HBR.out)
                      by_cases hzl : z < K.length
                      case pos =>
                        have hzm : z + 1 ≤ 19 := by have := HKL.out; omega
                        obtain ⟨ry, hy1, hy2⟩ := HALE.out z hzl
                        obtain ⟨K3, hK3⟩ : ∃ K3, keptL K (notIn [(z : Int)]) = K3 := ⟨_, rfl⟩
                        have HK3 := Lib.hid (show K3.length ≤ 18 by rw [← hK3]; have := keptL_len K (notIn [(z : Int)]); have := HKL.out; omega)
                        have e2 : withoutR n K [(z : Int)] = ((n, K3), 0) := by unfold withoutR; rw [HAC.out, hK3]; rfl
                        rw [hK3] at hy1
                        have HW2 := Lib.hid (fun W B h1 h2 => without_any n A4 c4 K (some ⟨B, 0, none⟩) 1 [(z : Int)] W (by have := HKL.out; omega) (by simp) h1 h2)
                        rw [e2] at HW2
                        have HM3 := Lib.hid (fun W A9 c9 h1 h2 => Most_any 2000000 ry n A9 c9 K3 C f p W (by have := HK3.out; omega) HLE.out.2.2.2.2.1 h1 h2 hy1)
                        obtain ⟨y, ye⟩ := ry
                        clear e2 hK3 hy1
                        cases hye : (ye == 0)
                        · clear hy2
                          go_wp2_with (first | (go_at_call 52; refine (HW2.out _ _ ((HV4.out.below HBR.out).alloc _) (lit_new _ _)).mono ?_; rintro e w13 ⟨v5, rfl, ⟨A5, c5, rfl, hv5, _⟩, hb⟩; have HBR3 := Lib.hid (below_trans (below_trans HBR.out bel) hb); have HV5 := Lib.hid hv5; clear hb HW2 hv5) | (go_at_call 29; refine (HM3.out _ _ _ (HV5.out.alloc _) (HP.out.below (below_trans HB11.out (below_trans HBR3.out bel)))).mono ?_; rintro e w14 ⟨rfl, hb⟩; have HBR4 := Lib.hid (below_trans (below_trans HBR3.out bel) hb); clear hb HM3))
                          go_roundw
                          case rel => exact ⟨z + 1, by omega, by go_num, HBR4⟩
                          case measure => simp [intOf]; omega
                        · have hyy : (y == most) = false := by
                            cases hq : (y == most) with
                            | false => rfl
                            | true => exact absurd ⟨by simpa using hye, by simpa using hq⟩ hy2
                          clear hy2
                          go_wp2_with (first | (go_at_call 52; refine (HW2.out _ _ ((HV4.out.below HBR.out).alloc _) (lit_new _ _)).mono ?_; rintro e w13 ⟨v5, rfl, ⟨A5, c5, rfl, hv5, _⟩, hb⟩; have HBR3 := Lib.hid (below_trans (below_trans HBR.out bel) hb); have HV5 := Lib.hid hv5; clear hb HW2 hv5) | (go_at_call 29; refine (HM3.out _ _ _ (HV5.out.alloc _) (HP.out.below (below_trans HB11.out (below_trans HBR3.out bel)))).mono ?_; rintro e w14 ⟨rfl, hb⟩; have HBR4 := Lib.hid (below_trans (below_trans HBR3.out bel) hb); clear hb HM3))
                          go_roundw
                          case rel => exact ⟨z + 1, by omega, by go_num, HBR4⟩
                          case measure => simp [intOf]; omega
                      case neg =>
                        obtain rfl : z = K.length := by omega
                        go_wp2_with (go_at_call 17; refine (sanity_any _).mono ?_; rintro e wz ⟨rfl, hb⟩; have HBz := Lib.hid (below_trans HB12.out hb); clear hb)
                        go_ret
                        exact ⟨rfl, HBz.out⟩
              case neg =>
                have hall2 : (f2 == 0 && (v2 == 0 && (f1 && v1 == most))) = false := by
                  cases hq : (f2 == 0 && (v2 == 0 && (f1 && v1 == most))) with
                  | false => rfl
                  | true => exact absurd (by simp only [Bool.and_eq_true, beq_iff_eq] at hq; exact ⟨hq.1, hq.2.1, hq.2.2.1, hq.2.2.2.symm⟩) hall
                clear hall HXT HARE
                go_cut [172] from 159 (fun s wx => s = .bool false ∧ w9 = wx)
                case first =>
                  cases b1 : (f2 == 0)
                  · go_wp2_with fail
                    go_meet
                    exact ⟨rfl, rfl⟩
                  · cases b2 : (v2 == 0)
                    · go_wp2_with fail
                      go_meet
                      exact ⟨rfl, rfl⟩
                    · cases f1
                      · go_wp2_with fail
                        go_meet
                        exact ⟨rfl, rfl⟩
                      · have b3 : (v1 == most) = false := by rw [b1, b2] at hall2; simpa using hall2
                        go_wp2_with fail
                        go_meet
                        exact ⟨rfl, rfl⟩
                case rest =>
                  obtain ⟨rfl, rfl⟩ := hcut
                  clear hall2
                  have MK1 := Lib.hid True.intro
                  have MK2 := Lib.hid True.intro
                  go_upto_region 33 with (first | (go_at_call 52; have hmk := MK1.out; clear hmk MK1; refine (HWO.out _ (HA.out.below HB9.out) HIg.out).mono ?_; rintro e w10 ⟨v4, rfl, ⟨A4, c4, rfl, hv4, _⟩, hb⟩; have HB10 := Lib.hid (below_trans HB9.out hb); have HV4 := Lib.hid hv4; clear hb HWO hv4) | (go_at_call 29; have hmk := MK2.out; clear hmk MK2; refine (HM2.out _ _ _ (HV4.out.alloc _) (HP.out.below (below_trans HB10.out bel))).mono ?_; rintro e w11 ⟨rfl, hb⟩; have HB11 := Lib.hid (below_trans (below_trans HB10.out bel) hb); have e0 := cell_below (a := ⟨w10.heap.size, 0, none⟩) (v := .int .i64 n) hb (by go_simp); have e1 := cell_below (a := ⟨w10.heap.size, 1, none⟩) (v := .slice A4 K.length c4) hb (by go_simp); have le := World.block_lt_of_cell? _ _ e0; have HV4 := Lib.hid ((HV4.out.alloc _).below hb); clear hb HM2))
                  have HEE := Lib.hid (And.intro e0 e1)
                  clear e0 e1 le c0 c1 lw
                  go_loopw [28, 29, 30, 31, 32] (fun i _ _ _ _ wr => ∃ z : Nat, z ≤ K.length ∧ i = .int .i64 z ∧ Hid (Below w11.heap.size w11 wr)) (fun i _ _ _ _ _ => K.length - (intOf i).toNat)
                  case atStart => exact ⟨0, by omega, rfl, Lib.hid (Below.refl _ _)⟩
                  case round =>
                    obtain ⟨z, hz, rfl, HBR⟩ := hrel
                    have e0 := cell_below HBR.out HEE.out.1
                    have e1 := cell_below HBR.out HEE.out.2
                    have le := World.block_lt_of_cell? _ _ e0
                    have HB12 := Lib.hid (below_trans HB11.out HBR.out)
                    by_cases hzl : z < K.length
                    case pos =>
                      have hzm : z + 1 ≤ 19 := by have := HKL.out; omega
                      obtain ⟨ry, hy1, hy2⟩ := HALE.out z hzl
                      obtain ⟨K3, hK3⟩ : ∃ K3, keptL K (notIn [(z : Int)]) = K3 := ⟨_, rfl⟩
                      have HK3 := Lib.hid (show K3.length ≤ 18 by rw [← hK3]; have := keptL_len K (notIn [(z : Int)]); have := HKL.out; omega)
                      have e2 : withoutR n K [(z : Int)] = ((n, K3), 0) := by unfold withoutR; rw [HAC.out, hK3]; rfl
                      rw [hK3] at hy1
                      have HW2 := Lib.hid (fun W B h1 h2 => without_any n A4 c4 K (some ⟨B, 0, none⟩) 1 [(z : Int)] W (by have := HKL.out; omega) (by simp) h1 h2)
                      rw [e2] at HW2
                      have HM3 := Lib.hid (fun W A9 c9 h1 h2 => Most_any 2000000 ry n A9 c9 K3 C f p W (by have := HK3.out; omega) HLE.out.2.2.2.2.1 h1 h2 hy1)
                      obtain ⟨y, ye⟩ := ry
                      clear e2 hK3 hy1
                      cases hye : (ye == 0)
                      · clear hy2
                        go_wp2_with (first | (go_at_call 52; refine (HW2.out _ _ ((HV4.out.below HBR.out).alloc _) (lit_new _ _)).mono ?_; rintro e w13 ⟨v5, rfl, ⟨A5, c5, rfl, hv5, _⟩, hb⟩; have HBR3 := Lib.hid (below_trans (below_trans HBR.out bel) hb); have HV5 := Lib.hid hv5; clear hb HW2 hv5) | (go_at_call 29; refine (HM3.out _ _ _ (HV5.out.alloc _) (HP.out.below (below_trans HB11.out (below_trans HBR3.out bel)))).mono ?_; rintro e w14 ⟨rfl, hb⟩; have HBR4 := Lib.hid (below_trans (below_trans HBR3.out bel) hb); clear hb HM3))
                        go_roundw
                        case rel => exact ⟨z + 1, by omega, by go_num, HBR4⟩
                        case measure => simp [intOf]; omega
                      · have hyy : (y == most) = false := by
                          cases hq : (y == most) with
                          | false => rfl
                          | true => exact absurd ⟨by simpa using hye, by simpa using hq⟩ hy2
                        clear hy2
                        go_wp2_with (first | (go_at_call 52; refine (HW2.out _ _ ((HV4.out.below HBR.out).alloc _) (lit_new _ _)).mono ?_; rintro e w13 ⟨v5, rfl, ⟨A5, c5, rfl, hv5, _⟩, hb⟩; have HBR3 := Lib.hid (below_trans (below_trans HBR.out bel) hb); have HV5 := Lib.hid hv5; clear hb HW2 hv5) | (go_at_call 29; refine (HM3.out _ _ _ (HV5.out.alloc _) (HP.out.below (below_trans HB11.out (below_trans HBR3.out bel)))).mono ?_; rintro e w14 ⟨rfl, hb⟩; have HBR4 := Lib.hid (below_trans (below_trans HBR3.out bel) hb); clear hb HM3))
                        go_roundw
                        case rel => exact ⟨z + 1, by omega, by go_num, HBR4⟩
                        case measure => simp [intOf]; omega
                    case neg =>
                      obtain rfl : z = K.length := by omega
                      go_wp2_with (go_at_call 17; refine (sanity_any _).mono ?_; rintro e wz ⟨rfl, hb⟩; have HBz := Lib.hid (below_trans HB12.out hb); clear hb)
                      go_ret
                      exact ⟨rfl, HBz.out⟩
theorem slack_at (n : Int) (A : Option Addr) (c : Nat) (l : List Lk) (C : Option Addr) (f : Nat) (p : List Int) (D : Option Addr) (g : Nat) (x : List Int) (w : World)
    (h : LksAt w A l) (hn : A = none → l.length = 0 ∧ c = 0) (hl : l.length ≤ 9223372036854775807) (h1 : IntsAt w C p) (hn1 : C = none → p.length = 0 ∧ f = 0) (hp : p.length ≤ 9223372036854775807) (_ : ∀ v ∈ p, -9223372036854775808 ≤ v ∧ v ≤ 9223372036854775807) (h2 : IntsAt w D x) (_ : D = none → x.length = 0 ∧ g = 0) (hx : x.length ≤ 9223372036854775807) (_ : ∀ v ∈ x, -9223372036854775808 ≤ v ∧ v ≤ 9223372036854775807) :
    Calls Try.prog 10 #[.agg #[.int .i64 n, .slice A l.length c], .slice C p.length f, .slice D x.length g] w fun e w' => e = .returned (.bool true) ∧ Below w.heap.size w w' :=
  slack_walk n A c l C f p D g x w h hn h1 hn1 h2 hl hp hx (fun hs => slack_pre n l p x hs)
end Go.Proofs.Ytmhiiomejopaoaa
