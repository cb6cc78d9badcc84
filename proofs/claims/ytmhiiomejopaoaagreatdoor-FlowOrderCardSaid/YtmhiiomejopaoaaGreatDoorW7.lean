/- The walks of texts: the reference's Print. -/
import Derived.Test.YtmhiiomejopaoaaGreatDoorW6
import Derived.Deep.RegionHeld3
namespace Go.Proofs.YtmhiiomejopaoaaGreatDoor
set_option linter.all false
set_option maxRecDepth 100000
open Go.RowKit

theorem lkL_join (k : Lk) : lkL k = [108, 105, 110, 107, 32] ++ Lib.itoa k.a ++ [32] ++ Lib.itoa k.b ++ [32] ++ Lib.itoa k.m ++ [10] := by
  simp [lkL, lineN, linkW, numsB]
theorem nodes_join (n : Int) : lineN nodesW [n] = [110, 111, 100, 101, 115, 32] ++ Lib.itoa n ++ [10] := by
  simp [lineN, nodesW, numsB]
set_option maxHeartbeats 8000000 in
theorem rPrint_good (n : Int) (A : Option Addr) (c : Nat) (l : List Lk) (w : World) (h : LksAt w A l) (hok : NetOk n l) :
    Calls Tryz.prog 12 #[.agg #[.int .i64 n, .slice A l.length c]] w fun e w' => e = .returned (.string ⟨(printL n l).toArray⟩) ∧ Below w.heap.size w w' := by
  have HH := Lib.hid h
  obtain ⟨s1, s2⟩ := hok.small
  have HD := Lib.hid (fun W => decimal_any n W s1)
  have HS := Lib.hid s2
  have hl := hok.l1
  have HP := Lib.hid (show printL n l = lineN nodesW [n] ++ l.flatMap lkL from rfl)
  have HN1 := Lib.hid (nodes_join n)
  have hil := itoa_len s1
  generalize printL n l = P at *
  generalize lineN nodesW [n] = P1 at *
  generalize Lib.itoa n = I at *
  have q1 := add_str [110, 111, 100, 101, 115, 32] I (by simp) (by omega)
  have q2 := add_str ([110, 111, 100, 101, 115, 32] ++ I) [10] (by simp; omega) (by simp)
  rw [← HN1.out] at q2
  have HL1 := Lib.hid (show P1.length ≤ 30 by rw [HN1.out]; simp; omega)
  obtain ⟨S1, hS1⟩ : ∃ S, [110, 111, 100, 101, 115, 32] ++ I = S := ⟨_, rfl⟩
  rw [hS1] at q1 q2
  clear h s1 s2 hok hil HN1 hS1
  go_enter Tryz.func12, Tryz.ntmps12
  go_wp2_with (go_at_call 34; refine (HD.out _).mono ?_; rintro e w1 ⟨rfl, hb⟩; have HB1 := Lib.hid (below_trans (bel : Below w.heap.size w (w.alloc _)) hb); have HX1 := Lib.hid ((hb.block w.heap.size (by simp)).trans (heap_new w _)); clear hb HD)
  clear q1 q2
  go_loopw [3, 4] (fun s i wr => ∃ (k : Nat) (z : List UInt8), i = .int .i64 (k : Int) ∧ k ≤ l.length ∧ s = .string ⟨z.toArray⟩ ∧ Hid (z = P1 ++ (l.take k).flatMap lkL) ∧ Hid (Below w.heap.size w wr) ∧ Hid (wr.heap[w.heap.size]? = some (.cells #[.int .i64 n, .slice A l.length c] 24 (0, 0)))) (fun _ i _ => l.length - (intOf i).toNat)
  case atStart => exact ⟨0, P1, rfl, by omega, rfl, Lib.hid (by simp), HB1, HX1⟩
  case round =>
    obtain ⟨k, z, rfl, hk, rfl, HZ, HB, HX⟩ := hrel
    have hzl : z.length ≤ 900000 := by
      rw [HZ.out]
      have h1 := links_len (l.take k) (fun x hx => HS.out x (List.mem_of_mem_take hx))
      have h2 := HL1.out
      have h3 : (l.take k).length ≤ 260 := by simp; omega
      rw [List.length_append]
      omega
    have b0 := cell_of_heap HX.out 0
    have b1 := cell_of_heap HX.out 1
    simp at b0 b1
    by_cases hlt : k < l.length
    · have t1 : decide ((k : Int) < (l.length : Int)) = true := decide_eq_true (by omega)
      obtain ⟨b, o, rfl, g1, g2, g3⟩ := HH.out.below HB.out k (by omega) (by omega)
      have hsm := HS.out _ (gl_memN l k hlt)
      have HN := Lib.hid (links_take l k hlt)
      have HJ := Lib.hid (lkL_join (gl l k))
      generalize hx : gl l k = x at *
      obtain ⟨xa, xb, xm⟩ := x
      simp only at g1 g2 g3 HJ hsm
      have HD1 := Lib.hid (fun W => decimal_any xa W hsm.1)
      have HD2 := Lib.hid (fun W => decimal_any xb W hsm.2.1)
      have HD3 := Lib.hid (fun W => decimal_any xm W hsm.2.2)
      have l1 := itoa_len hsm.1
      have l2 := itoa_len hsm.2.1
      have l3 := itoa_len hsm.2.2
      generalize lkL ⟨xa, xb, xm⟩ = K at *
      generalize Lib.itoa xa = Ia at *
      generalize Lib.itoa xb = Ib at *
      generalize Lib.itoa xm = Im at *
      have HZ2 := Lib.hid (show z ++ [108, 105, 110, 107, 32] ++ Ia ++ [32] ++ Ib ++ [32] ++ Im ++ [10] = P1 ++ (l.take (k + 1)).flatMap lkL by rw [HN.out, HZ.out, HJ.out]; simp)
      have q1 := add_str z [108, 105, 110, 107, 32] (by omega) (by simp)
      obtain ⟨S1, hS1⟩ : ∃ S, z ++ [108, 105, 110, 107, 32] = S := ⟨_, rfl⟩
      have m1 : S1.length ≤ 900005 := by rw [← hS1]; simp; omega
      rw [hS1] at q1 HZ2
      have q2 := add_str S1 Ia (by omega) (by omega)
      obtain ⟨S2, hS2⟩ : ∃ S, S1 ++ Ia = S := ⟨_, rfl⟩
      have m2 : S2.length ≤ 900020 := by rw [← hS2]; simp; omega
      rw [hS2] at q2 HZ2
      have q3 := add_str S2 [32] (by omega) (by simp)
      obtain ⟨S3, hS3⟩ : ∃ S, S2 ++ [32] = S := ⟨_, rfl⟩
      have m3 : S3.length ≤ 900021 := by rw [← hS3]; simp; omega
      rw [hS3] at q3 HZ2
      have q4 := add_str S3 Ib (by omega) (by omega)
      obtain ⟨S4, hS4⟩ : ∃ S, S3 ++ Ib = S := ⟨_, rfl⟩
      have m4 : S4.length ≤ 900040 := by rw [← hS4]; simp; omega
      rw [hS4] at q4 HZ2
      have q5 := add_str S4 [32] (by omega) (by simp)
      obtain ⟨S5, hS5⟩ : ∃ S, S4 ++ [32] = S := ⟨_, rfl⟩
      have m5 : S5.length ≤ 900041 := by rw [← hS5]; simp; omega
      rw [hS5] at q5 HZ2
      have q6 := add_str S5 Im (by omega) (by omega)
      obtain ⟨S6, hS6⟩ : ∃ S, S5 ++ Im = S := ⟨_, rfl⟩
      have m6 : S6.length ≤ 900060 := by rw [← hS6]; simp; omega
      rw [hS6] at q6 HZ2
      have q7 := add_str S6 [10] (by omega) (by simp)
      obtain ⟨S7, hS7⟩ : ∃ S, S6 ++ [10] = S := ⟨_, rfl⟩
      rw [hS7] at q7 HZ2
      clear hS1 hS2 hS3 hS4 hS5 hS6 hS7 m1 m2 m3 m4 m5 m6 l1 l2 l3 hsm hzl hx HJ HN
      simp at g1 g2 g3
      have lb := World.block_lt_of_cell? _ _ g1
      dsimp only at lb
      go_upto_region 6 with fail
      obtain ⟨Wa, hWa⟩ : ∃ Wa, wr.alloc (.cells #[.int .i64 xa, .int .i64 xb, .int .i64 xm] 51) = Wa := ⟨_, rfl⟩
      rw [hWa]
      have hn := heap_new wr (.cells #[.int .i64 xa, .int .i64 xb, .int .i64 xm] 51)
      rw [hWa] at hn
      have HBa := Lib.hid (show Below w.heap.size w Wa.drew by rw [← hWa]; exact (HB.out.alloc HB.out.size _).drew)
      have HXa := Lib.hid (show Wa.drew.heap[w.heap.size]? = some (.cells #[.int .i64 n, .slice (some ⟨b, o, none⟩) l.length c] 24 (0, 0)) by rw [← hWa]; exact (Below.heap_alloc _ _ _ (Array.getElem?_eq_some_iff.1 HX.out).1).trans HX.out)
      obtain ⟨B, hB⟩ : ∃ B, wr.heap.size = B := ⟨_, rfl⟩
      rw [hB] at hn ⊢
      have c0 := cell_of_heap hn 0
      have c1 := cell_of_heap hn 1
      have c2 := cell_of_heap hn 2
      have lc := (Array.getElem?_eq_some_iff.1 hn).1
      simp at c0 c1 c2
      clear hWa hB hn lb g1 g2 g3 b0 b1 HB HX
      refine wp_region_held_drew (S := fun w' => w'.cell? ⟨B, 0, none⟩ = some (.int .i64 xa) ∧ w'.cell? ⟨B, 1, none⟩ = some (.int .i64 xb) ∧ w'.cell? ⟨B, 2, none⟩ = some (.int .i64 xm)) (by kernel_rfl) ⟨c0, c1, c2⟩ (fun hHeld => ?_)
      refine wpAnyH_take (i := 0) (v := ?_) rfl (by kernel_rfl) (by kernel_rfl) (by kernel_rfl) (fun _ _ _ h => h) (Or.inl ⟨by rfl, ?hyy⟩) (by assumption) ?_
      case hyy => (intro w hSw; (try dsimp only at hSw); go_simp; all_goals (with_reducible rfl))
      try simp only [List.getElem_toArray, List.getElem_cons_zero, List.getElem_cons_succ, Act.put, List.setIfInBounds_toArray, List.set_cons_zero, List.set_cons_succ]
      refine wpAnyH_take (i := 1) (v := ?_) rfl (by kernel_rfl) (by kernel_rfl) (by kernel_rfl) (fun _ _ _ h => h) (Or.inl ⟨by rfl, ?hyy⟩) (by assumption) ?_
      case hyy => (intro w hSw; (try dsimp only at hSw); go_simp; all_goals (with_reducible rfl))
      try simp only [List.getElem_toArray, List.getElem_cons_zero, List.getElem_cons_succ, Act.put, List.setIfInBounds_toArray, List.set_cons_zero, List.set_cons_succ]
      refine wpAnyH_take (i := 2) (v := ?_) rfl (by kernel_rfl) (by kernel_rfl) (by kernel_rfl) (fun _ _ _ h => h) (Or.inl ⟨by rfl, ?hyy⟩) (by assumption) ?_
      case hyy => (intro w hSw; (try dsimp only at hSw); go_simp; all_goals (with_reducible rfl))
      try simp only [List.getElem_toArray, List.getElem_cons_zero, List.getElem_cons_succ, Act.put, List.setIfInBounds_toArray, List.set_cons_zero, List.set_cons_succ]
      refine wpAnyH_take (i := 3) (v := ?_) rfl (by kernel_rfl) (by kernel_rfl) (by kernel_rfl) (fun _ _ _ h => h) (Or.inl ⟨by rfl, ?hyy⟩) (by assumption) ?_
      case hyy => (intro w hSw; (try dsimp only at hSw); go_simp; all_goals (with_reducible rfl))
      try simp only [List.getElem_toArray, List.getElem_cons_zero, List.getElem_cons_succ, Act.put, List.setIfInBounds_toArray, List.set_cons_zero, List.set_cons_succ]
      refine wpAnyH_take (i := 7) (v := ?_) rfl (by kernel_rfl) (by kernel_rfl) (by kernel_rfl) (fun _ _ _ h => h) (Or.inl ⟨by rfl, ?hyy⟩) (by assumption) ?_
      case hyy => (intro w hSw; (try dsimp only at hSw); go_simp; all_goals (with_reducible rfl))
      try simp only [List.getElem_toArray, List.getElem_cons_zero, List.getElem_cons_succ, Act.put, List.setIfInBounds_toArray, List.set_cons_zero, List.set_cons_succ]
      refine wpAnyH_take (i := 8) (v := ?_) rfl (by kernel_rfl) (by kernel_rfl) (by kernel_rfl) (fun _ _ _ h => h) (Or.inl ⟨by rfl, ?hyy⟩) (by assumption) ?_
      case hyy => (intro w hSw; (try dsimp only at hSw); go_simp; all_goals (with_reducible rfl))
      try simp only [List.getElem_toArray, List.getElem_cons_zero, List.getElem_cons_succ, Act.put, List.setIfInBounds_toArray, List.set_cons_zero, List.set_cons_succ]
      refine wpAnyH_take (i := 12) (v := ?_) rfl (by kernel_rfl) (by kernel_rfl) (by kernel_rfl) (fun _ _ _ h => h) (Or.inl ⟨by rfl, ?hyy⟩) (by assumption) ?_
      case hyy => (intro w hSw; (try dsimp only at hSw); go_simp; all_goals (with_reducible rfl))
      try simp only [List.getElem_toArray, List.getElem_cons_zero, List.getElem_cons_succ, Act.put, List.setIfInBounds_toArray, List.set_cons_zero, List.set_cons_succ]
      refine wpAnyH_take (i := 13) (v := ?_) rfl (by kernel_rfl) (by kernel_rfl) (by kernel_rfl) (fun _ _ _ h => h) (Or.inl ⟨by rfl, ?hyy⟩) (by assumption) ?_
      case hyy => (intro w hSw; (try dsimp only at hSw); go_simp; all_goals (with_reducible rfl))
      try simp only [List.getElem_toArray, List.getElem_cons_zero, List.getElem_cons_succ, Act.put, List.setIfInBounds_toArray, List.set_cons_zero, List.set_cons_succ]
      refine wpAnyH_ready (rs := [4]) (by kernel_rfl) (by simp) ?_
      refine AllReadyH.cons rfl (fun K hK => ?_) AllReadyH.nil
      go_simp
      refine (HD1.out _).mono ?_
      rintro e w2 ⟨rfl, hb⟩
      have d0 := (hb.cell lc).trans c0
      have d1 := (hb.cell lc).trans c1
      have d2 := (hb.cell lc).trans c2
      have lc2 := Nat.lt_of_lt_of_le lc hb.size
      have HB2 := Lib.hid (below_trans HBa.out hb)
      have HX2 := Lib.hid ((hb.block _ (Array.getElem?_eq_some_iff.1 HXa.out).1).trans HXa.out)
      clear hb HD1
      refine hK.out _ _ ⟨d0, d1, d2⟩ (fun hHeldN1 => ?_)
      clear hK K
      try simp only [List.getElem_toArray, List.getElem_cons_zero, List.getElem_cons_succ, Act.put, List.setIfInBounds_toArray, List.set_cons_zero, List.set_cons_succ]
      refine wpAnyH_take (i := 5) (v := ?_) rfl (by kernel_rfl) (by kernel_rfl) (by kernel_rfl) (fun _ _ _ h => h) (Or.inl ⟨by rfl, ?hyy⟩) (by assumption) ?_
      case hyy => (intro w hSw; (try dsimp only at hSw); go_simp; all_goals (with_reducible rfl))
      try simp only [List.getElem_toArray, List.getElem_cons_zero, List.getElem_cons_succ, Act.put, List.setIfInBounds_toArray, List.set_cons_zero, List.set_cons_succ]
      refine wpAnyH_take (i := 6) (v := ?_) rfl (by kernel_rfl) (by kernel_rfl) (by kernel_rfl) (fun _ _ _ h => h) (Or.inl ⟨by rfl, ?hyy⟩) (by assumption) ?_
      case hyy => (intro w hSw; (try dsimp only at hSw); go_simp; all_goals (with_reducible rfl))
      try simp only [List.getElem_toArray, List.getElem_cons_zero, List.getElem_cons_succ, Act.put, List.setIfInBounds_toArray, List.set_cons_zero, List.set_cons_succ]
      refine wpAnyH_ready (rs := [9]) (by kernel_rfl) (by simp) ?_
      refine AllReadyH.cons rfl (fun K hK => ?_) AllReadyH.nil
      go_simp
      refine (HD2.out _).mono ?_
      rintro e w3 ⟨rfl, hb⟩
      have k0 := (hb.cell lc2).trans d0
      have k1 := (hb.cell lc2).trans d1
      have k2 := (hb.cell lc2).trans d2
      have lc3 := Nat.lt_of_lt_of_le lc2 hb.size
      have HB3 := Lib.hid (below_trans HB2.out hb)
      have HX3 := Lib.hid ((hb.block _ (Array.getElem?_eq_some_iff.1 HX2.out).1).trans HX2.out)
      clear hb HD2
      refine hK.out _ _ ⟨k0, k1, k2⟩ (fun hHeldN2 => ?_)
      clear hK K
      try simp only [List.getElem_toArray, List.getElem_cons_zero, List.getElem_cons_succ, Act.put, List.setIfInBounds_toArray, List.set_cons_zero, List.set_cons_succ]
      refine wpAnyH_take (i := 10) (v := ?_) rfl (by kernel_rfl) (by kernel_rfl) (by kernel_rfl) (fun _ _ _ h => h) (Or.inl ⟨by rfl, ?hyy⟩) (by assumption) ?_
      case hyy => (intro w hSw; (try dsimp only at hSw); go_simp; all_goals (with_reducible rfl))
      try simp only [List.getElem_toArray, List.getElem_cons_zero, List.getElem_cons_succ, Act.put, List.setIfInBounds_toArray, List.set_cons_zero, List.set_cons_succ]
      refine wpAnyH_take (i := 11) (v := ?_) rfl (by kernel_rfl) (by kernel_rfl) (by kernel_rfl) (fun _ _ _ h => h) (Or.inl ⟨by rfl, ?hyy⟩) (by assumption) ?_
      case hyy => (intro w hSw; (try dsimp only at hSw); go_simp; all_goals (with_reducible rfl))
      try simp only [List.getElem_toArray, List.getElem_cons_zero, List.getElem_cons_succ, Act.put, List.setIfInBounds_toArray, List.set_cons_zero, List.set_cons_succ]
      refine wpAnyH_ready (rs := [14]) (by kernel_rfl) (by simp) ?_
      refine AllReadyH.cons rfl (fun K hK => ?_) AllReadyH.nil
      go_simp
      refine (HD3.out _).mono ?_
      rintro e w4 ⟨rfl, hb⟩
      have j0 := (hb.cell lc3).trans k0
      have j1 := (hb.cell lc3).trans k1
      have j2 := (hb.cell lc3).trans k2
      have HB4 := Lib.hid (below_trans HB3.out hb)
      have HX4 := Lib.hid ((hb.block _ (Array.getElem?_eq_some_iff.1 HX3.out).1).trans HX3.out)
      clear hb HD3
      refine hK.out _ _ ⟨j0, j1, j2⟩ (fun hHeldN3 => ?_)
      clear hK K
      try simp only [List.getElem_toArray, List.getElem_cons_zero, List.getElem_cons_succ, Act.put, List.setIfInBounds_toArray, List.set_cons_zero, List.set_cons_succ]
      refine wpAnyH_take (i := 15) (v := ?_) rfl (by kernel_rfl) (by kernel_rfl) (by kernel_rfl) (fun _ _ _ h => h) (Or.inl ⟨by rfl, ?hyy⟩) (by assumption) ?_
      case hyy => (intro w hSw; (try dsimp only at hSw); go_simp; all_goals (with_reducible rfl))
      try simp only [List.getElem_toArray, List.getElem_cons_zero, List.getElem_cons_succ, Act.put, List.setIfInBounds_toArray, List.set_cons_zero, List.set_cons_succ]
      refine wpAnyH_take (i := 16) (v := ?_) rfl (by kernel_rfl) (by kernel_rfl) (by kernel_rfl) (fun _ _ _ h => h) (Or.inl ⟨by rfl, ?hyy⟩) (by assumption) ?_
      case hyy => (intro w hSw; (try dsimp only at hSw); go_simp; all_goals (with_reducible rfl))
      try simp only [List.getElem_toArray, List.getElem_cons_zero, List.getElem_cons_succ, Act.put, List.setIfInBounds_toArray, List.set_cons_zero, List.set_cons_succ]
      refine wpAnyH_ready (rs := [17]) (by kernel_rfl) (by simp) ?_
      refine AllReadyH.cons rfl (fun K hK => ?_) AllReadyH.nil
      go_simp
      refine hK.out _ _ ⟨j0, j1, j2⟩ (fun hHeldN4 => ?_)
      clear hK K
      try simp only [List.getElem_toArray, List.getElem_cons_zero, List.getElem_cons_succ, Act.put, List.setIfInBounds_toArray, List.set_cons_zero, List.set_cons_succ]
      refine wpAnyH_done (by kernel_rfl) ?_ _
      go_wp2
      go_roundw
      case rel => exact ⟨k + 1, S7, by go_num, by omega, rfl, HZ2, HB4, HX4⟩
      case measure => simp [intOf]; omega
    · obtain rfl : k = l.length := by omega
      have t1 : decide ((l.length : Int) < (l.length : Int)) = false := decide_eq_false (by omega)
      have HE := Lib.hid (show z = P by rw [HZ.out, HP.out, List.take_length])
      clear hzl
      go_wp2
      go_ret
      exact ⟨by rw [HE.out]; rfl, HB.out⟩
end Go.Proofs.YtmhiiomejopaoaaGreatDoor
