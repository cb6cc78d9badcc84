/- The walks of texts: Parse. -/
import Derived.Test.YtmhiiomejopaoaaGreatDoorW4
import Derived.Deep.RegionHeld3
import Derived.Deep.DeepCutAuto
import Derived.Deep.RegionWith
namespace Go.Proofs.YtmhiiomejopaoaaGreatDoor
set_option linter.all false
set_option maxRecDepth 1000000
open Go.RowKit
attribute [local go_sem] Oper.semAt_some

theorem sl58 (g n : Nat) : ∃ o, (n ≠ 0 → o = 1) ∧ ∀ W : World, (Instr.sliceAt 58 (.slice (some ⟨g, 0, none⟩) (n + 1) (n + 1)) (some (.int .i64 1)) none none).run Tryz.prog W = .ok (.slice (some ⟨g, o, none⟩) n n) W := by
  by_cases h : n = 0
  · subst h
    refine ⟨0, fun h => absurd rfl h, fun W => ?_⟩
    refine (run_sliceAt_slice (P := Tryz.prog) (w := W) 58 _ _ _ _ (by kernel_rfl)).trans ?_
    kernel_rfl
  · refine ⟨1, fun _ => rfl, fun W => ?_⟩
    refine (run_sliceAt_slice (P := Tryz.prog) (w := W) 58 _ _ _ _ (by kernel_rfl)).trans ?_
    refine (run_slice_l (P := Tryz.prog) (w := W) 58 _ _ _ (by kernel_rfl) .i64 1 (by omega) (by omega)).trans ?_
    have h1 : (sizeOf (Tryz.prog.elem 58)).run Tryz.prog W = .ok 1 W := by kernel_rfl
    rw [h1]
    simp [Result.andThen, sliced, h, Addr.add]
theorem cf56 : ∀ args w, (callFunc 56 args).run Tryz.prog w = .ok (.enter 56 args) w := fun _ _ => by kernel_rfl
set_option maxHeartbeats 4000000 in
theorem Parse_any (s : List UInt8) (r : Option (Int × List Lk)) (w : World) (hs : s.length ≤ 100000) (hr : Reads s r) (hT : Tab w) (hV : Vars w) :
    Calls Tryz.prog 8 #[.string ⟨s.toArray⟩] w fun e w' => ∃ A c, e = .returned (.tuple #[.agg #[.int .i64 (netN r), .slice A (netL r).length c], .int .i64 (errP r)]) ∧ LksAt w' A (netL r) ∧ (A = none → (netL r).length = 0 ∧ c = 0) ∧ Below w.heap.size w w' := by
  have HT := Lib.hid hT
  have HV := Lib.hid hV
  have HR := Lib.hid hr
  have HL := Lib.hid (fun W => Lines_any s W)
  have HSQ := Lib.hid (fun n bs W => lines1 n bs s hs W)
  clear hT hV hr
  refine (callsIn_wide (n := 9)).1 ?_
  refine callsIn_of_wp_marks Tryz.func8 rfl trivial ?_ rfl
  refine wpIn_wide.2 ?_
  simp only [Tryz.ntmps8, List.size_toArray, List.length_cons, List.length_nil, Nat.reduceAdd, Nat.reduceSub, Array.replicate_succ, Array.replicate_zero, List.push_toArray, List.append_toArray, List.nil_append, List.cons_append]
  go_wp2_with (go_at_call 27; refine (HL.out _).mono ?_; rintro e w5 ⟨rfl, hw5⟩; have HW5 := Lib.hid hw5; clear hw5)
  have hw5 := HW5.out
  obtain ⟨b, hb⟩ : ∃ b, w.heap.size = b := ⟨_, rfl⟩
  have hN : w5.heap.size = b + 4 := by rw [hw5, ← hb]; simp
  have hbox : w5.heap[b + 3]? = some (.cells #[.string ⟨s.toArray⟩] 9 (0, 0)) := by rw [hw5, ← hb]; have := heap_alloc_new (((w.alloc (.cells #[.int .i64 0, .slice none 0 0] 24)).alloc (.cells #[.int .i64 0] 27)).alloc (.cells #[.int .i64 0, .slice none 0 0] 24)) (.cells #[.string ⟨s.toArray⟩] 9); simpa using this
  have hST : ParSt b w w5 (0, []) := by
    rw [hw5, ← hb]
    have a1 := heap_alloc_new w (.cells #[.int .i64 0, .slice none 0 0] 24)
    have a2 := heap_alloc_new (w.alloc (.cells #[.int .i64 0, .slice none 0 0] 24)) (.cells #[.int .i64 0] 27)
    have a3 := heap_alloc_new ((w.alloc (.cells #[.int .i64 0, .slice none 0 0] 24)).alloc (.cells #[.int .i64 0] 27)) (.cells #[.int .i64 0, .slice none 0 0] 24)
    rw [World.size_alloc] at a2
    rw [World.size_alloc, World.size_alloc] at a3
    refine ⟨⟨.slice none 0 0, old_box _ a3, World.ownsRow_nil _ _ _ _⟩, old_box _ (old_box _ (old_box _ a1)), old_box _ (old_box _ a2), bel, by simp⟩
  rw [hb]
  have HBB := Lib.hid hb
  clear hw5 hb
  refine wp_rangeX1 (n := 9) (by omega) (gf := 56) rfl cf56 (enc := fun x : List UInt8 => .string ⟨x.toArray⟩) (HSQ.out 8 (b + 3) w5 hbox) (by omega) 5
    (fun pre W => ∃ st, runF pre (0, []) = some st ∧ st.2.length ≤ 261 ∧ ParSt b w W st) (fun W => parseF s = none ∧ ParNo b w W) ?hI ?hIx ?hIl ?hIxl ⟨(0, []), rfl, by simp, hST⟩ ?assign ?body ?done ?stop
  case hI =>
    rintro pre A A' ⟨st, h1, h2, h3⟩ hg
    exact ⟨st, h1, h2, h3.grown hg⟩
  case hIx => exact fun A A' h hg => ⟨h.1, h.2.grown hg⟩
  case hIl =>
    rintro pre A l o o' hl ho hc ⟨st, h1, h2, h3⟩
    exact ⟨st, h1, h2, h3.putObj o' ho hc (by omega)⟩
  case hIxl => exact fun A l o o' hl ho hc h => ⟨h.1, h.2.putObj o' ho hc (by omega)⟩
  case assign =>
    intro l' y W K hK
    refine wpIn_region_lit (list_round (by kernel_rfl) (by rintro ⟨a, w, h⟩; exact h) ?_)
    go_wp2
    exact hK
  case body =>
    rintro l' pre x W ⟨st, hrun, hlen, hP⟩ hpre
    have HP := Lib.hid hP
    have HRUN := Lib.hid hrun
    have HPRE := Lib.hid hpre
    have hxl : x.length ≤ 100000 := by
      have := lines_mem s.length s x (hpre.subset (List.mem_append_right _ List.mem_cons_self))
      omega
    have hbl : (bareL x).length ≤ 100000 := by
      have := bare_len x
      omega
    obtain ⟨hfl, hfl2, hfl3⟩ := fields_small _ (bareL x) (Nat.le_refl _)
    have HTR := Lib.hid (trim_any x hxl)
    have HSP := Lib.hid (fun W' hV => split_any (bareL x) hbl W' hV)
    have HROW := Lib.hid (show rowF x st = (numsL ((fieldsL (bareL x)).drop 1)).bind fun y => stepF ((fieldsL (bareL x)).headD (bs [])) y st from rfl)
    obtain ⟨P0, ps, hps⟩ : ∃ P0 ps, fieldsL (bareL x) = P0 :: ps := by
      cases h : fieldsL (bareL x) with
      | nil => rw [h] at hfl; simp at hfl
      | cons a t => exact ⟨a, t, rfl⟩
    rw [hps] at HROW HSP hfl2 hfl3
    simp only [List.drop_succ_cons, List.drop_zero, List.headD_cons, List.length_cons, List.map_cons] at HROW HSP
    have hpl : ps.length ≤ 100000 := by
      simp at hfl2
      omega
    have HPS := Lib.hid (show ∀ p ∈ ps, p.size ≤ 100000 from fun p hp => Nat.le_trans (hfl3 p (List.mem_cons_of_mem _ hp)) hbl)
    have hWV : Vars W := HV.out.below (HBB.out ▸ hP.below)
    have HWV := Lib.hid hWV
    clear hP hrun hpre hfl hfl2 hfl3 hps hbl hxl hWV
    have HNO := Lib.hid (show rowF x st = none → parseF s = none from fun h => runF_prefix HPRE.out (by rw [runF_snoc, HRUN.out]; exact h))
    obtain ⟨o, ho1, hsl⟩ := sl58 W.heap.size ps.length
    have HO1 := Lib.hid ho1
    clear ho1
    refine wpIn_block ?_
    gi_wp2_with (first | (refine ⟨trivial, ?_⟩; gi_at_call 29; refine (CallsIn.inRound l' (callsIn_wide.2 (HTR.out _))).mono ?_; rintro e w1 ⟨rfl, rfl⟩) | (refine ⟨trivial, ?_⟩; gi_at_call 28; refine (CallsIn.inRound l' (callsIn_wide.2 (HSP.out _ HWV.out))).mono ?_; rintro e w1 ⟨rfl, hw1⟩; have HW1 := Lib.hid hw1; clear hw1))
    have HCELL := Lib.hid (show ∀ k < ps.length, ∃ p, ps[k]? = some p ∧ w1.cell? ⟨W.heap.size, o + k, none⟩ = some (.string p) ∧ p.size ≤ 100000 by
      intro k hk
      have hne : ps.length ≠ 0 := by omega
      have ho := HO1.out hne
      subst ho
      have hh := heap_alloc_new W (.cells (.string P0 :: ps.map Value.string).toArray 9)
      rw [← HW1.out] at hh
      refine ⟨ps[k], List.getElem?_eq_getElem hk, ?_, HPS.out _ (List.getElem_mem hk)⟩
      rw [cell_of_heap hh (1 + k), Nat.add_comm]
      simp [List.getElem?_eq_getElem hk])
    have HC0 := Lib.hid (show w1.cell? ⟨W.heap.size, 0, none⟩ = some (.string P0) by
      have hh := heap_alloc_new W (.cells (.string P0 :: ps.map Value.string).toArray 9)
      rw [← HW1.out] at hh
      rw [cell_of_heap hh 0]
      rfl)
    have HB1 := Lib.hid (show Below W.heap.size W w1 by rw [HW1.out]; exact bel)
    clear hsl HSP HTR
    gi_loopw [7, 23] (fun v i wr => ∃ (k : Nat) (xs : List Int), i = .int .i64 (k : Int) ∧ k ≤ ps.length ∧ Hid (numsL (ps.take k) = some xs) ∧ Hid (OwnN w1.heap.size w1 wr v xs)) (fun _ i _ => ps.length - (intOf i).toNat)
    case atStart => exact ⟨0, [], rfl, by omega, Lib.hid rfl, Lib.hid ⟨World.ownsRow_nil _ _ _ _, Below.refl _ _, Nat.le_refl _⟩⟩
    case round =>
      obtain ⟨k, xs, rfl, hk, HX, HO⟩ := hrel
      by_cases hlt : k < ps.length
      · have t1 : decide ((k : Int) < (ps.length : Int)) = true := decide_eq_true (by omega)
        obtain ⟨p, hp, hc, hps⟩ := HCELL.out k hlt
        have hc2 := cell_below HO.out.below hc
        have HPK := Lib.hid hp
        clear hc hp
        have HXL := Lib.hid (show xs.length ≤ 100000 by have := numsL_len HX.out; rw [List.length_take] at this; omega)
        by_cases hat : ∃ v, Lib.atoiAll p.data.toList = .ok v
        · obtain ⟨v, hv⟩ := hat
          have HA := Lib.hid (atoi_good p hps v hv wr)
          have HX2 := Lib.hid (show numsL (ps.take (k + 1)) = some (xs ++ [v]) by
            rw [List.take_succ, HPK.out]
            show numsL (ps.take k ++ [p]) = _
            rw [numsL_snoc, HX.out, hv]
            rfl)
          clear hv
          gi_wp2_with (first | (refine ⟨trivial, ?_⟩; gi_at_call 30; refine (CallsIn.inRound l' (callsIn_wide.2 HA.out)).mono ?_; rintro e w3 ⟨rfl, hb⟩; have HO3 := Lib.hid (HO.out.calls hb); clear hb HA) | (gi_at_builtin; refine list_round (by kernel_rfl) (by rintro ⟨a, w, h⟩; exact h) ?_; refine app_one rfl _ _ 38 3 (.int .i64 0) 1 8 rfl Tryz.underlying38 info3 rfl (by omega) u7 xs.length (ints xs) [.int .i64 v] rfl rfl (by simp) rfl (one1 _ _) w1.heap.size HO3.out.row HO3.out.hB (by have := HXL.out; omega) (by have := HXL.out; unfold maxLen; omega) ?_; intro v1 w4 ho hg _; have HO4 := Lib.hid (HO3.out.appended ho hg); clear ho hg))
          go_wp2
          gi_wp2
          go_roundw
          case rel => exact ⟨k + 1, xs ++ [v], by go_num, by omega, HX2, HO4⟩
          case measure => simp [intOf]; omega
        · have HA := Lib.hid (atoi_bad p hps (fun v hv => hat ⟨v, hv⟩) wr (HV.out.below (HBB.out ▸ ((HP.out.step HB1.out).step (by exact HO.out.below)).below)))
          have HX2 := Lib.hid (show numsL ps = none by
            have h1 : ps = ps.take (k + 1) ++ ps.drop (k + 1) := (List.take_append_drop _ _).symm
            rw [h1]
            apply numsL_none
            rw [List.take_succ, HPK.out]
            show numsL (ps.take k ++ [p]) = none
            rw [numsL_snoc, HX.out]
            cases ha : Lib.atoiAll p.data.toList with
            | ok v => exact absurd ⟨v, ha⟩ hat
            | _ => rfl)
          clear hat
          gi_wp2_with (refine ⟨trivial, ?_⟩; gi_at_call 30; refine (CallsIn.inRound l' (callsIn_wide.2 HA.out)).mono ?_; rintro e w3 ⟨⟨va, pa, rfl⟩, hb⟩; have HO3 := Lib.hid (HO.out.calls hb); have HP3 := Lib.hid (((HP.out.step HB1.out).step HO.out.below).step hb); clear hb HA; have y0 := cell_of_heap HP3.out.r2 0; have y1 := cell_of_heap HP3.out.r2 1; have y2 := cell_of_heap HP3.out.r3 0; have z0 := frozen_of_heap HP3.out.r2 0; have z1 := frozen_of_heap HP3.out.r2 1; have z2 := frozen_of_heap HP3.out.r3 0; simp at y0 y1 y2)
          exact ⟨by rw [hN]; exact (keepsFrom_below (below_trans HB1.out HO3.out.below)).trans HP3.out.keepsNo, HNO.out (by rw [HROW.out, HX2.out]; rfl), HP3.out.no⟩
      · obtain rfl : k = ps.length := by omega
        have t1 : decide ((ps.length : Int) < (ps.length : Int)) = false := decide_eq_false (by omega)
        rw [List.take_length] at HX
        have HXL := Lib.hid (numsL_len HX.out)
        have HB4 := Lib.hid (below_trans HB1.out HO.out.below)
        have HP4 := Lib.hid (HP.out.step HB4.out)
        have c0 : wr.cell? ⟨W.heap.size, 0, none⟩ = some (.string P0) := cell_below HO.out.below HC0.out
        obtain ⟨A, c, rfl, hca, hnil, hA⟩ := own_slice HO.out.row
        have HIN := Lib.hid (own_ints HO.out.row)
        obtain ⟨v, hbx0, hrow0⟩ := HP.out.own
        obtain ⟨B, d, rfl, hcb, hnb, hBB⟩ := own_slice hrow0
        have hbx := (HB4.out.block _ (Array.getElem?_eq_some_iff.1 hbx0).1).trans hbx0
        have hrow := ownsRow_bel hrow0 HB4.out
        clear hbx0 hrow0
        have HBX := Lib.hid hbx
        have HRW := Lib.hid hrow
        have y0 := cell_of_heap HP4.out.r2 0
        have y1 := cell_of_heap HP4.out.r2 1
        have y2 := cell_of_heap HP4.out.r3 0
        have y3 : wr.cell? ⟨b + 1 + 1, 0, none⟩ = _ := cell_of_heap HBX.out 0
        have y4 : wr.cell? ⟨b + 1 + 1, 1, none⟩ = _ := cell_of_heap HBX.out 1
        have z0 := frozen_of_heap HP4.out.r2 0
        have z1 := frozen_of_heap HP4.out.r2 1
        have z2 := frozen_of_heap HP4.out.r3 0
        have z3 : wr.frozen? ⟨b + 1 + 1, 0, none⟩ = false := frozen_of_heap HBX.out 0
        have z4 : wr.frozen? ⟨b + 1 + 1, 1, none⟩ = false := frozen_of_heap HBX.out 1
        simp at y0 y1 y2 y3 y4
        clear hbx hrow hca hcb
        have E1 := bytes_eq P0 [110, 111, 100, 101, 115]
        have E2 := bytes_eq P0 [108, 105, 110, 107]
        by_cases h1 : P0 = bs nodesW
        · have e1 : (P0.toList == [110, 111, 100, 101, 115]) = true := by rw [E1]; exact decide_eq_true h1
          have e2 : (P0.toList == [108, 105, 110, 107]) = false := by rw [E2]; exact decide_eq_false (fun h => absurd (h1.symm.trans h) (by decide))
          by_cases h2 : xs.length = 1
          · obtain ⟨g, og, rfl, g0⟩ := HIN.out 0 (by omega) (by omega)
            have HST := Lib.hid (show stepF P0 xs st = some (gi xs 0, st.2) from if_pos ⟨h1, h2⟩)
            have e3 : ((xs.length : Int) == 1) = true := by rw [h2]; rfl
            have hgl := World.block_lt_of_cell? _ _ g0
            simp at g0 hgl
            generalize xs.length = m at *
            subst h2
            clear h1 E1 E2
            gi_wp2
            exact ⟨by rw [hN]; exact (keepsFrom_below HB4.out).trans (keepsFrom_set _ _ (by simp)), (keepX_below HB4.out).trans (keepX_set _ _ (by simp)), (gi xs 0, st.2), by rw [runF_snoc, HRUN.out]; exact HROW.out.trans (by rw [HX.out]; exact HST.out), hlen, HP4.out.setN _⟩
          · have HST := Lib.hid (show stepF P0 xs st = none by
              unfold stepF
              rw [if_neg (fun h => h2 h.2), if_neg (fun h => absurd (h1.symm.trans h.1) (by decide))])
            have e3 : ((xs.length : Int) == 1) = false := by rw [beq_eq_false_iff_ne]; omega
            generalize xs.length = m at *
            clear h1 h2 E1 E2
            gi_wp2
            exact ⟨by rw [hN]; exact (keepsFrom_below HB4.out).trans HP4.out.keepsNo, HNO.out (by rw [HROW.out, HX.out]; exact HST.out), HP4.out.no⟩
        · have e1 : (P0.toList == [110, 111, 100, 101, 115]) = false := by rw [E1]; exact decide_eq_false h1
          by_cases h3 : P0 = bs linkW
          · have e2 : (P0.toList == [108, 105, 110, 107]) = true := by rw [E2]; exact decide_eq_true h3
            by_cases h4 : xs.length = 3
            · by_cases h5 : st.2.length ≤ 260
              · obtain ⟨g, og, rfl, g0⟩ := HIN.out 0 (by omega) (by omega)
                have g1 : wr.cell? ⟨g, og + 1, none⟩ = some (.int .i64 (gi xs 1)) := by
                  obtain ⟨g', og', e, q⟩ := HIN.out 1 (by omega) (by omega)
                  injection e with e
                  injection e with e1 e2
                  subst e1 e2
                  exact q
                have g2 : wr.cell? ⟨g, og + 2, none⟩ = some (.int .i64 (gi xs 2)) := by
                  obtain ⟨g', og', e, q⟩ := HIN.out 2 (by omega) (by omega)
                  injection e with e
                  injection e with e1 e2
                  subst e1 e2
                  exact q
                have HST := Lib.hid (show stepF P0 xs st = some (st.1, st.2 ++ [⟨gi xs 0, gi xs 1, gi xs 2⟩]) by
                  unfold stepF
                  rw [if_neg (fun h => h1 h.1), if_pos ⟨h3, h4, h5⟩])
                have e3 : ((xs.length : Int) == 3) = true := by rw [h4]; rfl
                have e4 : decide ((st.2.length : Int) ≤ 260) = true := decide_eq_true (by omega)
                have hgl := World.block_lt_of_cell? _ _ g0
                have hAg := Lib.hid ((hA _ rfl).2.1)
                simp at g0 hgl
                generalize gi xs 0 = x0 at *
                generalize gi xs 1 = x1 at *
                generalize gi xs 2 = x2 at *
                generalize xs.length = m at *
                subst h4
                clear h1 h3 E1 E2
                have lb : b + 1 + 1 < wr.heap.size := by have := HP4.out.size; omega
                have HNG := Lib.hid (show (Value.slice B st.2.length d).ownBlock ≠ some g by
                  intro e
                  have h1 := hAg.out
                  have h2 := HB1.out.size
                  cases B with
                  | none => cases e
                  | some ad =>
                    have h3 := hBB ad rfl
                    rw [h3.1] at e
                    injection e with e
                    simp at h1
                    omega)
                have HNB := Lib.hid (show some (b + 2) ≠ (Value.slice B st.2.length d).ownBlock by
                  intro e
                  cases B with
                  | none => cases e
                  | some ad =>
                    have h3 := hBB ad rfl
                    rw [h3.1] at e
                    injection e with e
                    omega)
                have HGB := Lib.hid (show b + 1 + 1 ≠ g by
                  have h1 := hAg.out
                  have h2 := HB1.out.size
                  have h3 := HP.out.size
                  simp at h1
                  omega)
                gi_wp2
                refine held_round (S := fun w' => w'.cell? ⟨g, og, none⟩ = some (.int .i64 x0) ∧ w'.cell? ⟨g, og + 1, none⟩ = some (.int .i64 x1) ∧ w'.cell? ⟨g, og + 2, none⟩ = some (.int .i64 x2)) (by kernel_rfl) (by kernel_rfl) (by rintro ⟨a, w, h⟩; exact h) ⟨g0, g1, g2⟩ (fun hHeld => ?_)
                refine wpAnyH_take (i := 0) (v := ?_) rfl (by kernel_rfl) (by kernel_rfl) (by kernel_rfl) (fun _ _ _ h => h) (Or.inl ⟨by rfl, ?hyy⟩) (by assumption) ?_
                case hyy => (intro w hSw; (try dsimp only at hSw); go_simp; all_goals (with_reducible rfl))
                try simp only [List.getElem_toArray, List.getElem_cons_zero, List.getElem_cons_succ, Act.put, List.setIfInBounds_toArray, List.set_cons_zero, List.set_cons_succ]
                refine wpAnyH_take (i := 2) (v := ?_) rfl (by kernel_rfl) (by kernel_rfl) (by kernel_rfl) (fun _ _ _ h => h) (Or.inl ⟨by rfl, ?hyy⟩) (by assumption) ?_
                case hyy => (intro w hSw; (try dsimp only at hSw); go_simp; all_goals (with_reducible rfl))
                try simp only [List.getElem_toArray, List.getElem_cons_zero, List.getElem_cons_succ, Act.put, List.setIfInBounds_toArray, List.set_cons_zero, List.set_cons_succ]
                refine wpAnyH_take (i := 3) (v := ?_) rfl (by kernel_rfl) (by kernel_rfl) (by kernel_rfl) (fun _ _ _ h => h) (Or.inl ⟨by rfl, ?hyy⟩) (by assumption) ?_
                case hyy => (intro w hSw; (try dsimp only at hSw); go_simp; all_goals (with_reducible rfl))
                try simp only [List.getElem_toArray, List.getElem_cons_zero, List.getElem_cons_succ, Act.put, List.setIfInBounds_toArray, List.set_cons_zero, List.set_cons_succ]
                refine wpAnyH_take (i := 4) (v := ?_) rfl (by kernel_rfl) (by kernel_rfl) (by kernel_rfl) (fun _ _ _ h => h) (Or.inl ⟨by rfl, ?hyy⟩) (by assumption) ?_
                case hyy => (intro w hSw; (try dsimp only at hSw); go_simp; all_goals (with_reducible rfl))
                try simp only [List.getElem_toArray, List.getElem_cons_zero, List.getElem_cons_succ, Act.put, List.setIfInBounds_toArray, List.set_cons_zero, List.set_cons_succ]
                refine wpAnyH_take (i := 5) (v := ?_) rfl (by kernel_rfl) (by kernel_rfl) (by kernel_rfl) (fun _ _ _ h => h) (Or.inl ⟨by rfl, ?hyy⟩) (by assumption) ?_
                case hyy => (intro w hSw; (try dsimp only at hSw); go_simp; all_goals (with_reducible rfl))
                try simp only [List.getElem_toArray, List.getElem_cons_zero, List.getElem_cons_succ, Act.put, List.setIfInBounds_toArray, List.set_cons_zero, List.set_cons_succ]
                refine wpAnyH_take (i := 6) (v := ?_) rfl (by kernel_rfl) (by kernel_rfl) (by kernel_rfl) (fun _ _ _ h => h) (Or.inl ⟨by rfl, ?hyy⟩) (by assumption) ?_
                case hyy => (intro w hSw; (try dsimp only at hSw); go_simp; all_goals (with_reducible rfl))
                try simp only [List.getElem_toArray, List.getElem_cons_zero, List.getElem_cons_succ, Act.put, List.setIfInBounds_toArray, List.set_cons_zero, List.set_cons_succ]
                refine wpAnyH_take (i := 7) (v := ?_) rfl (by kernel_rfl) (by kernel_rfl) (by kernel_rfl) (fun _ _ _ h => h) (Or.inl ⟨by rfl, ?hyy⟩) (by assumption) ?_
                case hyy => (intro w hSw; (try dsimp only at hSw); go_simp; all_goals (with_reducible rfl))
                try simp only [List.getElem_toArray, List.getElem_cons_zero, List.getElem_cons_succ, Act.put, List.setIfInBounds_toArray, List.set_cons_zero, List.set_cons_succ]
                refine wpAnyH_take (i := 8) (v := ?_) rfl (by kernel_rfl) (by kernel_rfl) (by kernel_rfl) (fun _ _ _ h => h) (Or.inl ⟨by rfl, ?hyy⟩) (by assumption) ?_
                case hyy => (intro w hSw; (try dsimp only at hSw); go_simp; all_goals (with_reducible rfl))
                try simp only [List.getElem_toArray, List.getElem_cons_zero, List.getElem_cons_succ, Act.put, List.setIfInBounds_toArray, List.set_cons_zero, List.set_cons_succ]
                refine wpAnyH_take (i := 9) (v := ?_) rfl (by kernel_rfl) (by kernel_rfl) (by kernel_rfl) (fun _ _ _ h => h) (Or.inl ⟨by rfl, ?hyy⟩) (by assumption) ?_
                case hyy => (intro w hSw; (try dsimp only at hSw); go_simp; all_goals (with_reducible rfl))
                try simp only [List.getElem_toArray, List.getElem_cons_zero, List.getElem_cons_succ, Act.put, List.setIfInBounds_toArray, List.set_cons_zero, List.set_cons_succ]
                refine wpAnyH_take (i := 10) (v := ?_) rfl (by kernel_rfl) (by kernel_rfl) (by kernel_rfl) (fun _ _ _ h => h) (Or.inl ⟨by rfl, ?hyy⟩) (by assumption) ?_
                case hyy => (intro w hSw; (try dsimp only at hSw); go_simp; all_goals (with_reducible rfl))
                try simp only [List.getElem_toArray, List.getElem_cons_zero, List.getElem_cons_succ, Act.put, List.setIfInBounds_toArray, List.set_cons_zero, List.set_cons_succ]
                refine wpAnyH_take (i := 11) (v := ?_) rfl (by kernel_rfl) (by kernel_rfl) (by kernel_rfl) (fun _ _ _ h => h) (Or.inl ⟨by rfl, ?hyy⟩) (by assumption) ?_
                case hyy => (intro w hSw; (try dsimp only at hSw); go_simp; all_goals (with_reducible rfl))
                try simp only [List.getElem_toArray, List.getElem_cons_zero, List.getElem_cons_succ, Act.put, List.setIfInBounds_toArray, List.set_cons_zero, List.set_cons_succ]
                refine wpAnyH_ready (rs := [1, 12]) (by kernel_rfl) (by simp) ?_
                refine AllReadyH.cons rfl (fun K hK => ?h1) (AllReadyH.cons rfl (fun K hK => ?h12) AllReadyH.nil)
                case h1 =>
                  go_simp
                  refine hK.out _ _ ⟨g0, g1, g2⟩ (fun hHeldN1 => ?_)
                  clear hK K
                  try simp only [List.getElem_toArray, List.getElem_cons_zero, List.getElem_cons_succ, Act.put, List.setIfInBounds_toArray, List.set_cons_zero, List.set_cons_succ]
                  refine wpAnyH_ready (rs := [12]) (by kernel_rfl) (by simp) ?_
                  refine AllReadyH.cons rfl (fun K hK => ?_) AllReadyH.nil
                  go_simp
                  refine hK.out _ _ ⟨cell_alloc _ g0, cell_alloc _ g1, cell_alloc _ g2⟩ (fun hHeldN2 => ?_)
                  clear hK K
                  try simp only [List.getElem_toArray, List.getElem_cons_zero, List.getElem_cons_succ, Act.put, List.setIfInBounds_toArray, List.set_cons_zero, List.set_cons_succ]
                  refine wpAnyH_ready (rs := [13]) (by kernel_rfl) (by simp) ?_
                  refine AllReadyH.cons rfl (fun K hK => ?_) AllReadyH.nil
                  refine step_app_lks rfl (.tmp 72) (.tmp 83) rfl (b + 4) (.slice B st.2.length d) st.2.length (lkcs st.2) (by simp [Act.eval, Act.put]) ?ho (some ⟨wr.heap.size, 0, none⟩) 1 [⟨x0, x1, x2⟩] (by simp [Act.eval, Act.put]) ?hr (fun e => by cases e) (by simp; omega) ?hb ?_
                  case ho => exact HRW.out.alloc _
                  case hr => exact lks_new wr.drew ⟨x0, x1, x2⟩
                  case hb => (have := HP4.out.size; simp; omega)
                  intro v5 w5' ho5 hg5' ha5
                  have hg5 : wr.grownBy w5' (Value.slice B st.2.length d).ownBlock := World.grownBy.trans (grown_alloc (grown_drew (grown_refl wr _)) _) hg5'
                  have f0 := cell_grown' hg5 HNG.out g0
                  have f1 := cell_grown' hg5 HNG.out g1
                  have f2 := cell_grown' hg5 HNG.out g2
                  have HBX5 := Lib.hid ((hg5.block _ (Array.getElem?_eq_some_iff.1 HBX.out).1 HNB.out).trans HBX.out)
                  have f3 : w5'.cell? ⟨b + 1 + 1, 0, none⟩ = _ := cell_of_heap HBX5.out 0
                  have f4 : w5'.cell? ⟨b + 1 + 1, 1, none⟩ = _ := cell_of_heap HBX5.out 1
                  have f5 : w5'.frozen? ⟨b + 1 + 1, 1, none⟩ = false := frozen_of_heap HBX5.out 1
                  simp at f3 f4
                  have HFIN := Lib.hid (ParSt.pushed HBX.out HRW.out HP4.out hg5 ho5)
                  obtain ⟨A5, c5, rfl, _, _, _⟩ := own_slice ho5
                  clear ho5 hg5' hg5 ha5
                  refine hK.out _ _ ⟨f0, f1, f2⟩ (fun hHeldN3 => ?_)
                  clear hK K
                  try simp only [List.getElem_toArray, List.getElem_cons_zero, List.getElem_cons_succ, Act.put, List.setIfInBounds_toArray, List.set_cons_zero, List.set_cons_succ]
                  refine wpAnyH_ready (rs := [14]) (by kernel_rfl) (by simp) ?_
                  refine AllReadyH.cons rfl (fun K hK => ?_) AllReadyH.nil
                  go_simp
                  refine hK.out _ _ ⟨f0, f1, f2⟩ (fun hHeldN4 => ?_)
                  clear hK K
                  try simp only [List.getElem_toArray, List.getElem_cons_zero, List.getElem_cons_succ, Act.put, List.setIfInBounds_toArray, List.set_cons_zero, List.set_cons_succ]
                  refine wpAnyH_ready (rs := [15]) (by kernel_rfl) (by simp) ?_
                  refine AllReadyH.cons rfl (fun K hK => ?_) AllReadyH.nil
                  go_simp
                  refine hK.out _ _ ⟨(World.cell?_setCell_far _ _ _ _ (HGB.out)).trans f0, (World.cell?_setCell_far _ _ _ _ (HGB.out)).trans f1, (World.cell?_setCell_far _ _ _ _ (HGB.out)).trans f2⟩ (fun hHeldN5 => ?_)
                  clear hK K
                  try simp only [List.getElem_toArray, List.getElem_cons_zero, List.getElem_cons_succ, Act.put, List.setIfInBounds_toArray, List.set_cons_zero, List.set_cons_succ]
                  refine wpAnyH_done (by kernel_rfl) ?_ _
                  clear f0 f1 f2 f3 f4 f5
                  exact ⟨by rw [hN]; exact (keepsFrom_below HB4.out).trans HFIN.out.2.1, (keepX_below HB4.out).trans HFIN.out.2.2, (st.1, st.2 ++ [⟨x0, x1, x2⟩]), by rw [runF_snoc, HRUN.out]; exact HROW.out.trans (by rw [HX.out]; exact HST.out), by simp; omega, HFIN.out.1⟩
                case h12 =>
                  go_simp
                  refine hK.out _ _ ⟨cell_alloc _ g0, cell_alloc _ g1, cell_alloc _ g2⟩ (fun hHeldN6 => ?_)
                  clear hK K
                  try simp only [List.getElem_toArray, List.getElem_cons_zero, List.getElem_cons_succ, Act.put, List.setIfInBounds_toArray, List.set_cons_zero, List.set_cons_succ]
                  refine wpAnyH_ready (rs := [1]) (by kernel_rfl) (by simp) ?_
                  refine AllReadyH.cons rfl (fun K hK => ?_) AllReadyH.nil
                  go_simp
                  refine hK.out _ _ ⟨cell_alloc _ g0, cell_alloc _ g1, cell_alloc _ g2⟩ (fun hHeldN7 => ?_)
                  clear hK K
                  try simp only [List.getElem_toArray, List.getElem_cons_zero, List.getElem_cons_succ, Act.put, List.setIfInBounds_toArray, List.set_cons_zero, List.set_cons_succ]
                  refine wpAnyH_ready (rs := [13]) (by kernel_rfl) (by simp) ?_
                  refine AllReadyH.cons rfl (fun K hK => ?_) AllReadyH.nil
                  refine step_app_lks rfl (.tmp 72) (.tmp 83) rfl (b + 4) (.slice B st.2.length d) st.2.length (lkcs st.2) (by simp [Act.eval, Act.put]) ?ho (some ⟨wr.heap.size, 0, none⟩) 1 [⟨x0, x1, x2⟩] (by simp [Act.eval, Act.put]) ?hr (fun e => by cases e) (by simp; omega) ?hb ?_
                  case ho => exact HRW.out.alloc _
                  case hr => exact lks_new wr.drew ⟨x0, x1, x2⟩
                  case hb => (have := HP4.out.size; simp; omega)
                  intro v5 w5' ho5 hg5' ha5
                  have hg5 : wr.grownBy w5' (Value.slice B st.2.length d).ownBlock := World.grownBy.trans (grown_alloc (grown_drew (grown_refl wr _)) _) hg5'
                  have f0 := cell_grown' hg5 HNG.out g0
                  have f1 := cell_grown' hg5 HNG.out g1
                  have f2 := cell_grown' hg5 HNG.out g2
                  have HBX5 := Lib.hid ((hg5.block _ (Array.getElem?_eq_some_iff.1 HBX.out).1 HNB.out).trans HBX.out)
                  have f3 : w5'.cell? ⟨b + 1 + 1, 0, none⟩ = _ := cell_of_heap HBX5.out 0
                  have f4 : w5'.cell? ⟨b + 1 + 1, 1, none⟩ = _ := cell_of_heap HBX5.out 1
                  have f5 : w5'.frozen? ⟨b + 1 + 1, 1, none⟩ = false := frozen_of_heap HBX5.out 1
                  simp at f3 f4
                  have HFIN := Lib.hid (ParSt.pushed HBX.out HRW.out HP4.out hg5 ho5)
                  obtain ⟨A5, c5, rfl, _, _, _⟩ := own_slice ho5
                  clear ho5 hg5' hg5 ha5
                  refine hK.out _ _ ⟨f0, f1, f2⟩ (fun hHeldN8 => ?_)
                  clear hK K
                  try simp only [List.getElem_toArray, List.getElem_cons_zero, List.getElem_cons_succ, Act.put, List.setIfInBounds_toArray, List.set_cons_zero, List.set_cons_succ]
                  refine wpAnyH_ready (rs := [14]) (by kernel_rfl) (by simp) ?_
                  refine AllReadyH.cons rfl (fun K hK => ?_) AllReadyH.nil
                  go_simp
                  refine hK.out _ _ ⟨f0, f1, f2⟩ (fun hHeldN9 => ?_)
                  clear hK K
                  try simp only [List.getElem_toArray, List.getElem_cons_zero, List.getElem_cons_succ, Act.put, List.setIfInBounds_toArray, List.set_cons_zero, List.set_cons_succ]
                  refine wpAnyH_ready (rs := [15]) (by kernel_rfl) (by simp) ?_
                  refine AllReadyH.cons rfl (fun K hK => ?_) AllReadyH.nil
                  go_simp
                  refine hK.out _ _ ⟨(World.cell?_setCell_far _ _ _ _ (HGB.out)).trans f0, (World.cell?_setCell_far _ _ _ _ (HGB.out)).trans f1, (World.cell?_setCell_far _ _ _ _ (HGB.out)).trans f2⟩ (fun hHeldN10 => ?_)
                  clear hK K
                  try simp only [List.getElem_toArray, List.getElem_cons_zero, List.getElem_cons_succ, Act.put, List.setIfInBounds_toArray, List.set_cons_zero, List.set_cons_succ]
                  refine wpAnyH_done (by kernel_rfl) ?_ _
                  clear f0 f1 f2 f3 f4 f5
                  exact ⟨by rw [hN]; exact (keepsFrom_below HB4.out).trans HFIN.out.2.1, (keepX_below HB4.out).trans HFIN.out.2.2, (st.1, st.2 ++ [⟨x0, x1, x2⟩]), by rw [runF_snoc, HRUN.out]; exact HROW.out.trans (by rw [HX.out]; exact HST.out), by simp; omega, HFIN.out.1⟩
              · have HST := Lib.hid (show stepF P0 xs st = none by
                  unfold stepF
                  rw [if_neg (fun h => h1 h.1), if_neg (fun h => h5 h.2.2)])
                have e3 : ((xs.length : Int) == 3) = true := by rw [h4]; rfl
                have e4 : decide ((st.2.length : Int) ≤ 260) = false := decide_eq_false (by omega)
                generalize xs.length = m at *
                subst h4
                clear h1 h3 E1 E2
                gi_wp2
                exact ⟨by rw [hN]; exact (keepsFrom_below HB4.out).trans HP4.out.keepsNo, HNO.out (by rw [HROW.out, HX.out]; exact HST.out), HP4.out.no⟩
            · have HST := Lib.hid (show stepF P0 xs st = none by
                unfold stepF
                rw [if_neg (fun h => h1 h.1), if_neg (fun h => h4 h.2.1)])
              have e3 : ((xs.length : Int) == 3) = false := by rw [beq_eq_false_iff_ne]; omega
              generalize xs.length = m at *
              clear h1 h3 h4 E1 E2
              gi_wp2
              exact ⟨by rw [hN]; exact (keepsFrom_below HB4.out).trans HP4.out.keepsNo, HNO.out (by rw [HROW.out, HX.out]; exact HST.out), HP4.out.no⟩
          · have HST := Lib.hid (show stepF P0 xs st = none by
              unfold stepF
              rw [if_neg (fun h => h1 h.1), if_neg (fun h => h3 h.1)])
            have e2 : (P0.toList == [108, 105, 110, 107]) = false := by rw [E2]; exact decide_eq_false h3
            generalize xs.length = m at *
            clear h1 h3 E1 E2
            gi_wp2
            exact ⟨by rw [hN]; exact (keepsFrom_below HB4.out).trans HP4.out.keepsNo, HNO.out (by rw [HROW.out, HX.out]; exact HST.out), HP4.out.no⟩
  case done =>
    rintro D W hD ⟨st, hrun, hlen, hP⟩ hK
    have HK := Lib.hid hK
    have HP := Lib.hid hP
    obtain ⟨v, hbx, hrow⟩ := hP.own
    obtain ⟨B, d, rfl, hcb, hnb, hBB⟩ := own_slice hrow
    have HBX := Lib.hid hbx
    have HRW := Lib.hid hrow
    have hlk := own_lks hrow
    have y3 : W.cell? ⟨b + 1 + 1, 0, none⟩ = _ := cell_of_heap HBX.out 0
    have y4 : W.cell? ⟨b + 1 + 1, 1, none⟩ = _ := cell_of_heap HBX.out 1
    simp at y3 y4
    have hWB : Below w.heap.size w W := HBB.out ▸ HP.out.below
    have HLK := Lib.hid hlk
    have HBS := Lib.hid hBB
    clear hP hK hbx hrow hlk hBB
    have HPF := Lib.hid (show parseF s = some st from hrun)
    clear hrun
    by_cases hck : checkL st.1 st.2 = 0
    · have hok := check_ok hck
      have HPR := Lib.hid (Print_good st.1 B d st.2 W HLK.out hok (HT.out.below hWB))
      by_cases heq : printL st.1 st.2 = s
      · have hrs : r = some (st.1, st.2) := reads_yes HR.out hok heq
        subst hrs
        rw [heq] at HPR
        clear hok heq hck
        go_wp2_with (go_at_call 7; refine HPR.out.mono ?_; rintro e w6 ⟨rfl, hb6⟩; have HP6 := Lib.hid (HP.out.step hb6); have HK6 := Lib.hid ((hb6.block D (Array.getElem?_eq_some_iff.1 HK.out).1).trans HK.out); have HBX6 := Lib.hid ((hb6.block _ (Array.getElem?_eq_some_iff.1 HBX.out).1).trans HBX.out); have HRW6 := Lib.hid (ownsRow_bel HRW.out hb6); clear hb6; have x0 := cell_of_heap HP6.out.r2 0; have x1 := cell_of_heap HP6.out.r2 1; have x2 := cell_of_heap HP6.out.r3 0; have z0 := frozen_of_heap HP6.out.r2 0; have z1 := frozen_of_heap HP6.out.r2 1; have z2 := frozen_of_heap HP6.out.r3 0; have x3 : w6.cell? ⟨b + 1 + 1, 0, none⟩ = _ := cell_of_heap HBX6.out 0; have x4 : w6.cell? ⟨b + 1 + 1, 1, none⟩ = _ := cell_of_heap HBX6.out 1; simp at x0 x1 x2 x3 x4)
        obtain ⟨p1, p2, p3, p4⟩ := HP6.out.put (.int .i64 st.1) (.slice B st.2.length d) (.int .i64 0)
        have HPK := Lib.hid ((p3 D (by omega)).trans HK6.out)
        have q1 := (World.putObj_heap_other (o := .deferred none) (show b ≠ D by omega)).trans p1
        have q2 := (World.putObj_heap_other (o := .deferred none) (show b + 1 ≠ D by omega)).trans p2
        have v0 := cell_of_heap q1 0
        have v1 := cell_of_heap q1 1
        have v2 := cell_of_heap q2 0
        simp at v0 v1 v2
        refine ⟨by simp, .inl ⟨_, _, rfl, run_takeDeferred HPK.out, ?_⟩⟩
        refine ⟨.tuple #[.agg #[.int .i64 st.1, .slice B st.2.length d], .int .i64 0], ?_, B, d, rfl, own_lks (ownsRow_putObj (ownsRow_setOther (ownsRow_setOther (ownsRow_setOther HRW6.out _ _ (by simp)) _ _ (by simp)) _ _ (by simp)) (.deferred none) HPK.out rfl), hnb, (by rw [HBB.out]; exact putObj_below _ p4 (by omega))⟩
        simp [results, Tryz.results8, go_sem, v0, v1, v2]
      · have hrn : r = none := by
          cases r with
          | none => rfl
          | some z =>
            obtain ⟨N, l⟩ := z
            obtain ⟨h1, h2⟩ := HR.out.1 N l rfl
            have h3 := parse_print h1
            rw [h2, HPF.out] at h3
            injection h3 with h3
            exact absurd (by rw [h3]; exact h2) heq
        subst hrn
        have hq : (printL st.1 st.2 == s) = false := by rw [beq_eq_false_iff_ne]; exact heq
        generalize printL st.1 st.2 = P at *
        clear hok heq hck
        go_wp2_with (go_at_call 7; refine HPR.out.mono ?_; rintro e w6 ⟨rfl, hb6⟩; have HP6 := Lib.hid (HP.out.step hb6); have HK6 := Lib.hid ((hb6.block D (Array.getElem?_eq_some_iff.1 HK.out).1).trans HK.out); have HBX6 := Lib.hid ((hb6.block _ (Array.getElem?_eq_some_iff.1 HBX.out).1).trans HBX.out); have HRW6 := Lib.hid (ownsRow_bel HRW.out hb6); clear hb6; have x0 := cell_of_heap HP6.out.r2 0; have x1 := cell_of_heap HP6.out.r2 1; have x2 := cell_of_heap HP6.out.r3 0; have z0 := frozen_of_heap HP6.out.r2 0; have z1 := frozen_of_heap HP6.out.r2 1; have z2 := frozen_of_heap HP6.out.r3 0; have x3 : w6.cell? ⟨b + 1 + 1, 0, none⟩ = _ := cell_of_heap HBX6.out 0; have x4 : w6.cell? ⟨b + 1 + 1, 1, none⟩ = _ := cell_of_heap HBX6.out 1; simp at x0 x1 x2 x3 x4)
        obtain ⟨p1, p2, p3, p4⟩ := HP6.out.put (.int .i64 0) (.slice none 0 0) (.int .i64 7)
        have HPK := Lib.hid ((p3 D (by omega)).trans HK6.out)
        have q1 := (World.putObj_heap_other (o := .deferred none) (show b ≠ D by omega)).trans p1
        have q2 := (World.putObj_heap_other (o := .deferred none) (show b + 1 ≠ D by omega)).trans p2
        have v0 := cell_of_heap q1 0
        have v1 := cell_of_heap q1 1
        have v2 := cell_of_heap q2 0
        simp at v0 v1 v2
        refine ⟨by simp, .inl ⟨_, _, rfl, run_takeDeferred HPK.out, ?_⟩⟩
        refine ⟨.tuple #[.agg #[.int .i64 0, .slice none 0 0], .int .i64 7], ?_, none, 0, rfl, fun i h0 hi => absurd hi (by simp [netL]; omega), fun _ => ⟨rfl, rfl⟩, (by rw [HBB.out]; exact putObj_below _ p4 (by omega))⟩
        simp [results, Tryz.results8, go_sem, v0, v1, v2]
    · have HPR := Lib.hid (Print_bad st.1 B d st.2 W (by omega) HLK.out hck)
      have hrn : r = none := by
        cases r with
        | none => rfl
        | some z =>
          obtain ⟨N, l⟩ := z
          obtain ⟨h1, h2⟩ := HR.out.1 N l rfl
          have h3 := parse_print h1
          rw [h2, HPF.out] at h3
          injection h3 with h3
          exact absurd (by rw [h3]; exact ok_check h1) hck
      subst hrn
      generalize checkL st.1 st.2 = e0 at *
      have hq : (e0 != 0) = true := by rw [bne_iff_ne]; exact hck
      clear hck
      go_wp2_with (go_at_call 7; refine HPR.out.mono ?_; rintro e w6 ⟨rfl, hb6⟩; have HP6 := Lib.hid (HP.out.step hb6); have HK6 := Lib.hid ((hb6.block D (Array.getElem?_eq_some_iff.1 HK.out).1).trans HK.out); have HBX6 := Lib.hid ((hb6.block _ (Array.getElem?_eq_some_iff.1 HBX.out).1).trans HBX.out); have HRW6 := Lib.hid (ownsRow_bel HRW.out hb6); clear hb6; have x0 := cell_of_heap HP6.out.r2 0; have x1 := cell_of_heap HP6.out.r2 1; have x2 := cell_of_heap HP6.out.r3 0; have z0 := frozen_of_heap HP6.out.r2 0; have z1 := frozen_of_heap HP6.out.r2 1; have z2 := frozen_of_heap HP6.out.r3 0; have x3 : w6.cell? ⟨b + 1 + 1, 0, none⟩ = _ := cell_of_heap HBX6.out 0; have x4 : w6.cell? ⟨b + 1 + 1, 1, none⟩ = _ := cell_of_heap HBX6.out 1; simp at x0 x1 x2 x3 x4)
      obtain ⟨p1, p2, p3, p4⟩ := HP6.out.put (.int .i64 0) (.slice none 0 0) (.int .i64 7)
      have HPK := Lib.hid ((p3 D (by omega)).trans HK6.out)
      have q1 := (World.putObj_heap_other (o := .deferred none) (show b ≠ D by omega)).trans p1
      have q2 := (World.putObj_heap_other (o := .deferred none) (show b + 1 ≠ D by omega)).trans p2
      have v0 := cell_of_heap q1 0
      have v1 := cell_of_heap q1 1
      have v2 := cell_of_heap q2 0
      simp at v0 v1 v2
      refine ⟨by simp, .inl ⟨_, _, rfl, run_takeDeferred HPK.out, ?_⟩⟩
      refine ⟨.tuple #[.agg #[.int .i64 0, .slice none 0 0], .int .i64 7], ?_, none, 0, rfl, fun i h0 hi => absurd hi (by simp [netL]; omega), fun _ => ⟨rfl, rfl⟩, (by rw [HBB.out]; exact putObj_below _ p4 (by omega))⟩
      simp [results, Tryz.results8, go_sem, v0, v1, v2]
  case stop =>
    rintro D W hD ⟨hno, hP⟩ hK
    have hrn : r = none := by
      cases r with
      | none => rfl
      | some z =>
        obtain ⟨N, l⟩ := z
        obtain ⟨h1, h2⟩ := HR.out.1 N l rfl
        have := parse_print h1
        rw [h2, hno] at this
        cases this
    subst hrn
    have HK := Lib.hid hK
    have hf := hP.putObj (.deferred none) hK rfl (by omega)
    have y0 := cell_of_heap hf.r2 0
    have y1 := cell_of_heap hf.r2 1
    have y2 := cell_of_heap hf.r3 0
    simp at y0 y1 y2
    clear hK
    refine ⟨by simp, .inl ⟨_, _, rfl, run_takeDeferred HK.out, ?_⟩⟩
    refine ⟨.tuple #[.agg #[.int .i64 0, .slice none 0 0], .int .i64 7], ?_, none, 0, rfl, fun i h0 hi => absurd hi (by simp [netL]; omega), fun _ => ⟨rfl, rfl⟩, HBB.out ▸ hf.below⟩
    simp [results, Tryz.results8, go_sem, y0, y1, y2]
end Go.Proofs.YtmhiiomejopaoaaGreatDoor
