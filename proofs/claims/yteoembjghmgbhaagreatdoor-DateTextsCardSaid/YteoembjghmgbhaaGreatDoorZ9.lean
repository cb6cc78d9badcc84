/- The date walks: Parse, where the parts are numbers and a month. -/
import Derived.Test.YteoembjghmgbhaaGreatDoorZ8
namespace Go.Proofs.YteoembjghmgbhaaGreatDoor
set_option linter.all false
open Go.RowKit

theorem sneq23 (a b c : Int) (W : World) : (Go.binOp .neq 23 (.agg #[.int .i64 a, .int .i64 b, .int .i64 c]) (.agg #[.int .i64 a, .int .i64 b, .int .i64 c])).run Tryz.prog W = .ok (.bool false) W := by
  rw [run_neq_struct, eq23]
  simp [Result.andThen]
set_option maxRecDepth 100000 in
set_option maxHeartbeats 2000000 in
theorem parse_nodate (L : List UInt8) (P0 P1 P2 : ByteArray) (q : Nat) (D Y M : Int) (w : World) (hT : Tab w) (hV : Vars w) (hS : SplitAt ⟨L.toArray⟩ 3 [P0, P1, P2]) (h1 : P1.size = 3) (h3 : P0.size ≤ 1000) (h4 : P2.size ≤ 1000) (hD : Lib.atoiAll P0.data.toList = .ok D) (hY : Lib.atoiAll P2.data.toList = .ok Y) (hA : Lib.index letters P1.data.toList = (q : Int)) (hq : q ≤ 36) (hM : ((q / 3 : Nat) : Int) + 1 = M) (ho : okD ⟨Y, M, D⟩ = false) :
    Calls Tryz.prog 7 #[.string ⟨L.toArray⟩] w fun e w' => e = .returned (.tuple #[dtv zeroD, .int .i64 7]) ∧ Below w.heap.size w w' := by
  have HT := Lib.hid hT
  have HV := Lib.hid hV
  have HS := Lib.hid hS
  unfold SplitAt at HS
  simp only [List.map_cons, List.map_nil] at HS
  have t1 : ((P1.size : Int) != 3) = false := by rw [bne_eq_false_iff_eq]; omega
  have A0 := Lib.hid (fun W (_ : Vars W) => atoi_good P0 h3 D hD W)
  have A2 := Lib.hid (fun W (_ : Vars W) => atoi_good P2 h4 Y hY W)
  have HI := Lib.hid (fun W (hW : Vars W) => index_str (bs letters) P1 (by decide) W hW)
  rw [show Lib.index (bs letters).data.toList P1.data.toList = (q : Int) from hA] at HI
  unfold bs letters at HI
  obtain ⟨m0, hm0⟩ : ∃ m0, q / 3 = m0 := ⟨_, rfl⟩
  rw [hm0] at hM
  have k1 : IntKind.i64.wrap ((q : Int).tdiv 3) = (m0 : Int) := by rw [Int.tdiv_eq_ediv_of_nonneg (by omega), IntKind.wrap_i64]; omega
  have k2 : (q : Int) / 3 = (m0 : Int) := by omega
  have k3 : IntKind.i64.wrap ((m0 : Int) + 1) = M := by rw [IntKind.wrap_i64]; omega
  have k4 : (m0 : Int) + 1 = M := hM
  have k5 : 1 ≤ M := by omega
  have k6 : M ≤ 13 := by omega
  clear hD hY hA h1 h3 h4 hT hV hS hm0 hM hq
  have HP := Lib.hid (fun W => Print_bad ⟨Y, M, D⟩ W ho)
  clear ho
  unfold dtv at HP ⊢
  unfold zeroD
  simp only at HP ⊢
  go_enter Tryz.func7, Tryz.ntmps7
  go_wp2_with (first | (go_at_call 21; refine (HS.out _ (HV.out.below bel)).mono ?_; rintro e w1 ⟨rfl, hw1⟩; have HB1 := Lib.hid (show Below w.heap.size w w1 by rw [hw1]; exact bel); have HX1 := Lib.hid (show w1.heap[w.heap.size]? = some (.cells #[.int .i64 0, .int .i64 0, .int .i64 0] 23 (0, 0)) by rw [hw1]; exact old_box _ (heap_alloc_new w _)); have HR1 := Lib.hid (show w1.heap[w.heap.size + 1]? = some (.cells #[.string P0, .string P1, .string P2] 9 (0, 0)) by rw [hw1]; simpa using heap_alloc_new (w.alloc (.cells #[.int .i64 0, .int .i64 0, .int .i64 0] 23)) (.cells #[.string P0, .string P1, .string P2] 9)); obtain ⟨x0, x1, x2, y0, y1, y2, lx⟩ := cells3 HX1.out; obtain ⟨r0, r1, r2, s0, s1, s2, lr⟩ := cells3 HR1.out; clear hw1) | (go_at_call 22; refine (A0.out _ (HV.out.below HB1.out)).mono ?_; rintro e w2 ⟨rfl, hb⟩; have HB2 := Lib.hid (below_trans HB1.out hb); have HX2 := Lib.hid (lift0 hb HX1.out); have HR2 := Lib.hid (lift0 hb HR1.out); obtain ⟨x20, x21, x22, y20, y21, y22, lx2⟩ := cells3 HX2.out; obtain ⟨r20, r21, r22, s20, s21, s22, lr2⟩ := cells3 HR2.out; clear hb A0) | (go_at_call 22; refine (A2.out _ (HV.out.below HB2.out)).mono ?_; rintro e w3 ⟨rfl, hb⟩; have HB3 := Lib.hid (below_trans HB2.out hb); have HX3 := Lib.hid (lift0 hb HX2.out); have HR3 := Lib.hid (lift0 hb HR2.out); obtain ⟨x30, x31, x32, y30, y31, y32, lx3⟩ := cells3 HX3.out; obtain ⟨r30, r31, r32, s30, s31, s32, lr3⟩ := cells3 HR3.out; clear hb A2) | (go_at_call 23; refine (HI.out _ (HV.out.below HB3.out)).mono ?_; rintro e w9 ⟨rfl, rfl⟩; clear HI) | (go_at_call 6; refine (HP.out _).mono ?_; rintro e w10 ⟨rfl, hb⟩; have HDB := Lib.hid (show w10.heap[w3.heap.size]? = some (.cells #[.int .i64 Y, .int .i64 M, .int .i64 D] 23 (0, 0)) from lnew hb); have HX10 := Lib.hid (lift1 hb HX3.out); have HB10 := Lib.hid (below_trans (HB3.out.alloc HB3.out.size _) hb); obtain ⟨x100, x101, x102, y100, y101, y102, lx10⟩ := cells3 HX10.out; obtain ⟨d0, d1, d2, g0, g1, g2, ld⟩ := cells3 HDB.out; clear hb))
  have HZ := Lib.hid (set3 (x := .int .i64 0) (y := .int .i64 0) (z := .int .i64 0) HX10.out)
  obtain ⟨v0, v1, v2, _, _, _, _⟩ := cells3 HZ.out
  refine bodyPost_ret (v := .tuple #[.agg #[.int .i64 0, .int .i64 0, .int .i64 0], .int .i64 7]) ?_ rfl ?_
  · simp [results, Tryz.results7, go_sem, v0, v1, v2]
  · exact ⟨rfl, ((HB10.out.setCell (Nat.le_refl _) _).setCell (Nat.le_refl _) _).setCell (Nat.le_refl _) _⟩
set_option maxRecDepth 100000 in
set_option maxHeartbeats 2000000 in
theorem parse_other (L : List UInt8) (P0 P1 P2 : ByteArray) (q : Nat) (D Y M : Int) (w : World) (hT : Tab w) (hV : Vars w) (hS : SplitAt ⟨L.toArray⟩ 3 [P0, P1, P2]) (h1 : P1.size = 3) (h3 : P0.size ≤ 1000) (h4 : P2.size ≤ 1000) (hD : Lib.atoiAll P0.data.toList = .ok D) (hY : Lib.atoiAll P2.data.toList = .ok Y) (hA : Lib.index letters P1.data.toList = (q : Int)) (hq : q ≤ 36) (hM : ((q / 3 : Nat) : Int) + 1 = M) (ho : okD ⟨Y, M, D⟩ = true) (hne : printL ⟨Y, M, D⟩ ≠ L) :
    Calls Tryz.prog 7 #[.string ⟨L.toArray⟩] w fun e w' => e = .returned (.tuple #[dtv zeroD, .int .i64 7]) ∧ Below w.heap.size w w' := by
  have HT := Lib.hid hT
  have HV := Lib.hid hV
  have HS := Lib.hid hS
  unfold SplitAt at HS
  simp only [List.map_cons, List.map_nil] at HS
  have t1 : ((P1.size : Int) != 3) = false := by rw [bne_eq_false_iff_eq]; omega
  have A0 := Lib.hid (fun W (_ : Vars W) => atoi_good P0 h3 D hD W)
  have A2 := Lib.hid (fun W (_ : Vars W) => atoi_good P2 h4 Y hY W)
  have HI := Lib.hid (fun W (hW : Vars W) => index_str (bs letters) P1 (by decide) W hW)
  rw [show Lib.index (bs letters).data.toList P1.data.toList = (q : Int) from hA] at HI
  unfold bs letters at HI
  obtain ⟨m0, hm0⟩ : ∃ m0, q / 3 = m0 := ⟨_, rfl⟩
  rw [hm0] at hM
  have k1 : IntKind.i64.wrap ((q : Int).tdiv 3) = (m0 : Int) := by rw [Int.tdiv_eq_ediv_of_nonneg (by omega), IntKind.wrap_i64]; omega
  have k2 : (q : Int) / 3 = (m0 : Int) := by omega
  have k3 : IntKind.i64.wrap ((m0 : Int) + 1) = M := by rw [IntKind.wrap_i64]; omega
  have k4 : (m0 : Int) + 1 = M := hM
  have k5 : 1 ≤ M := by omega
  have k6 : M ≤ 13 := by omega
  clear hD hY hA h1 h3 h4 hT hV hS hm0 hM hq
  have HP := Lib.hid (fun W (hT : Tab W) => Print_good ⟨Y, M, D⟩ W hT ho)
  have hpe : (printL ⟨Y, M, D⟩ == L) = false := by rw [beq_eq_false_iff_ne]; exact hne
  generalize printL ⟨Y, M, D⟩ = P at *
  have hpn : (P != L) = true := by rw [bne_iff_ne]; exact hne
  clear ho hne
  unfold dtv at HP ⊢
  unfold zeroD
  simp only at HP ⊢
  go_enter Tryz.func7, Tryz.ntmps7
  go_wp2_with (first | (go_at_call 21; refine (HS.out _ (HV.out.below bel)).mono ?_; rintro e w1 ⟨rfl, hw1⟩; have HB1 := Lib.hid (show Below w.heap.size w w1 by rw [hw1]; exact bel); have HX1 := Lib.hid (show w1.heap[w.heap.size]? = some (.cells #[.int .i64 0, .int .i64 0, .int .i64 0] 23 (0, 0)) by rw [hw1]; exact old_box _ (heap_alloc_new w _)); have HR1 := Lib.hid (show w1.heap[w.heap.size + 1]? = some (.cells #[.string P0, .string P1, .string P2] 9 (0, 0)) by rw [hw1]; simpa using heap_alloc_new (w.alloc (.cells #[.int .i64 0, .int .i64 0, .int .i64 0] 23)) (.cells #[.string P0, .string P1, .string P2] 9)); obtain ⟨x0, x1, x2, y0, y1, y2, lx⟩ := cells3 HX1.out; obtain ⟨r0, r1, r2, s0, s1, s2, lr⟩ := cells3 HR1.out; clear hw1) | (go_at_call 22; refine (A0.out _ (HV.out.below HB1.out)).mono ?_; rintro e w2 ⟨rfl, hb⟩; have HB2 := Lib.hid (below_trans HB1.out hb); have HX2 := Lib.hid (lift0 hb HX1.out); have HR2 := Lib.hid (lift0 hb HR1.out); obtain ⟨x20, x21, x22, y20, y21, y22, lx2⟩ := cells3 HX2.out; obtain ⟨r20, r21, r22, s20, s21, s22, lr2⟩ := cells3 HR2.out; clear hb A0) | (go_at_call 22; refine (A2.out _ (HV.out.below HB2.out)).mono ?_; rintro e w3 ⟨rfl, hb⟩; have HB3 := Lib.hid (below_trans HB2.out hb); have HX3 := Lib.hid (lift0 hb HX2.out); have HR3 := Lib.hid (lift0 hb HR2.out); obtain ⟨x30, x31, x32, y30, y31, y32, lx3⟩ := cells3 HX3.out; obtain ⟨r30, r31, r32, s30, s31, s32, lr3⟩ := cells3 HR3.out; clear hb A2) | (go_at_call 23; refine (HI.out _ (HV.out.below HB3.out)).mono ?_; rintro e w9 ⟨rfl, rfl⟩; clear HI) | (go_at_call 6; refine (HP.out _ (HT.out.below (HB3.out.alloc HB3.out.size _))).mono ?_; rintro e w10 ⟨rfl, hb⟩; have HDB := Lib.hid (show w10.heap[w3.heap.size]? = some (.cells #[.int .i64 Y, .int .i64 M, .int .i64 D] 23 (0, 0)) from lnew hb); have HX10 := Lib.hid (lift1 hb HX3.out); have HB10 := Lib.hid (below_trans (HB3.out.alloc HB3.out.size _) hb); obtain ⟨x100, x101, x102, y100, y101, y102, lx10⟩ := cells3 HX10.out; obtain ⟨d0, d1, d2, g0, g1, g2, ld⟩ := cells3 HDB.out; clear hb))
  have HZ := Lib.hid (set3 (x := .int .i64 0) (y := .int .i64 0) (z := .int .i64 0) HX10.out)
  obtain ⟨v0, v1, v2, _, _, _, _⟩ := cells3 HZ.out
  refine bodyPost_ret (v := .tuple #[.agg #[.int .i64 0, .int .i64 0, .int .i64 0], .int .i64 7]) ?_ rfl ?_
  · simp [results, Tryz.results7, go_sem, v0, v1, v2]
  · exact ⟨rfl, ((HB10.out.setCell (Nat.le_refl _) _).setCell (Nat.le_refl _) _).setCell (Nat.le_refl _) _⟩
set_option maxRecDepth 100000 in
set_option maxHeartbeats 2000000 in
theorem parse_date (L : List UInt8) (P0 P1 P2 : ByteArray) (q : Nat) (D Y M : Int) (w : World) (hT : Tab w) (hV : Vars w) (hS : SplitAt ⟨L.toArray⟩ 3 [P0, P1, P2]) (h1 : P1.size = 3) (h3 : P0.size ≤ 1000) (h4 : P2.size ≤ 1000) (hD : Lib.atoiAll P0.data.toList = .ok D) (hY : Lib.atoiAll P2.data.toList = .ok Y) (hA : Lib.index letters P1.data.toList = (q : Int)) (hq : q ≤ 36) (hM : ((q / 3 : Nat) : Int) + 1 = M) (ho : okD ⟨Y, M, D⟩ = true) (he : printL ⟨Y, M, D⟩ = L) :
    Calls Tryz.prog 7 #[.string ⟨L.toArray⟩] w fun e w' => e = .returned (.tuple #[dtv ⟨Y, M, D⟩, .int .i64 0]) ∧ Below w.heap.size w w' := by
  have HT := Lib.hid hT
  have HV := Lib.hid hV
  have HS := Lib.hid hS
  unfold SplitAt at HS
  simp only [List.map_cons, List.map_nil] at HS
  have t1 : ((P1.size : Int) != 3) = false := by rw [bne_eq_false_iff_eq]; omega
  have A0 := Lib.hid (fun W (_ : Vars W) => atoi_good P0 h3 D hD W)
  have A2 := Lib.hid (fun W (_ : Vars W) => atoi_good P2 h4 Y hY W)
  have HI := Lib.hid (fun W (hW : Vars W) => index_str (bs letters) P1 (by decide) W hW)
  rw [show Lib.index (bs letters).data.toList P1.data.toList = (q : Int) from hA] at HI
  unfold bs letters at HI
  obtain ⟨m0, hm0⟩ : ∃ m0, q / 3 = m0 := ⟨_, rfl⟩
  rw [hm0] at hM
  have k1 : IntKind.i64.wrap ((q : Int).tdiv 3) = (m0 : Int) := by rw [Int.tdiv_eq_ediv_of_nonneg (by omega), IntKind.wrap_i64]; omega
  have k2 : (q : Int) / 3 = (m0 : Int) := by omega
  have k3 : IntKind.i64.wrap ((m0 : Int) + 1) = M := by rw [IntKind.wrap_i64]; omega
  have k4 : (m0 : Int) + 1 = M := hM
  have k5 : 1 ≤ M := by omega
  have k6 : M ≤ 13 := by omega
  clear hD hY hA h1 h3 h4 hT hV hS hm0 hM hq
  have HP := Lib.hid (fun W (hT : Tab W) => Print_good ⟨Y, M, D⟩ W hT ho)
  rw [he] at HP
  obtain ⟨-, hdb, b1, b2, b3, b4, b5, b6⟩ := okD_facts ho
  simp only at b1 b2 b3 b4 b5 b6
  have HOF := Lib.hid (fun x (hx : x = dayI ⟨Y, M, D⟩) W => by have h := Of_any (dayI ⟨Y, M, D⟩) W; rw [ok_of ho, ← hx] at h; exact h)
  obtain ⟨n, hn⟩ : ∃ n : Nat, 12 * (Y - 1850) + M - 1 = n := ⟨(12 * (Y - 1850) + M - 1).toNat, by omega⟩
  have hdi : dayI ⟨Y, M, D⟩ = beginN n + D - 1 := by
    unfold dayI
    simp only
    rw [hn, Int.toNat_natCast]
  have hbd : 0 ≤ dayI ⟨Y, M, D⟩ ∧ dayI ⟨Y, M, D⟩ ≤ 60000 := by simpa [dayB] using hdb
  have HBG := Lib.hid (fun x (hx : x = (n : Int)) W => by have h := begin_any n W (by omega); rw [← hx] at h; exact h)
  generalize dayI ⟨Y, M, D⟩ = day at *
  generalize beginN n = g at *
  have z23 := sneq23 Y M D
  clear ho he hdb
  unfold dtv at HP HOF ⊢
  simp only at HP HOF ⊢
  go_enter Tryz.func7, Tryz.ntmps7
  go_wp2_with (first | (go_at_call 21; refine (HS.out _ (HV.out.below bel)).mono ?_; rintro e w1 ⟨rfl, hw1⟩; have HB1 := Lib.hid (show Below w.heap.size w w1 by rw [hw1]; exact bel); have HX1 := Lib.hid (show w1.heap[w.heap.size]? = some (.cells #[.int .i64 0, .int .i64 0, .int .i64 0] 23 (0, 0)) by rw [hw1]; exact old_box _ (heap_alloc_new w _)); have HR1 := Lib.hid (show w1.heap[w.heap.size + 1]? = some (.cells #[.string P0, .string P1, .string P2] 9 (0, 0)) by rw [hw1]; simpa using heap_alloc_new (w.alloc (.cells #[.int .i64 0, .int .i64 0, .int .i64 0] 23)) (.cells #[.string P0, .string P1, .string P2] 9)); obtain ⟨x0, x1, x2, y0, y1, y2, lx⟩ := cells3 HX1.out; obtain ⟨r0, r1, r2, s0, s1, s2, lr⟩ := cells3 HR1.out; clear hw1) | (go_at_call 22; refine (A0.out _ (HV.out.below HB1.out)).mono ?_; rintro e w2 ⟨rfl, hb⟩; have HB2 := Lib.hid (below_trans HB1.out hb); have HX2 := Lib.hid (lift0 hb HX1.out); have HR2 := Lib.hid (lift0 hb HR1.out); obtain ⟨x20, x21, x22, y20, y21, y22, lx2⟩ := cells3 HX2.out; obtain ⟨r20, r21, r22, s20, s21, s22, lr2⟩ := cells3 HR2.out; clear hb A0) | (go_at_call 22; refine (A2.out _ (HV.out.below HB2.out)).mono ?_; rintro e w3 ⟨rfl, hb⟩; have HB3 := Lib.hid (below_trans HB2.out hb); have HX3 := Lib.hid (lift0 hb HX2.out); have HR3 := Lib.hid (lift0 hb HR2.out); obtain ⟨x30, x31, x32, y30, y31, y32, lx3⟩ := cells3 HX3.out; obtain ⟨r30, r31, r32, s30, s31, s32, lr3⟩ := cells3 HR3.out; clear hb A2) | (go_at_call 23; refine (HI.out _ (HV.out.below HB3.out)).mono ?_; rintro e w9 ⟨rfl, rfl⟩; clear HI) | (go_at_call 6; refine (HP.out _ (HT.out.below (HB3.out.alloc HB3.out.size _))).mono ?_; rintro e w10 ⟨rfl, hb⟩; have HDB := Lib.hid (show w10.heap[w3.heap.size]? = some (.cells #[.int .i64 Y, .int .i64 M, .int .i64 D] 23 (0, 0)) from lnew hb); have HX10 := Lib.hid (lift1 hb HX3.out); have HB10 := Lib.hid (below_trans (HB3.out.alloc HB3.out.size _) hb); obtain ⟨x100, x101, x102, y100, y101, y102, lx10⟩ := cells3 HX10.out; obtain ⟨d0, d1, d2, g0, g1, g2, ld⟩ := cells3 HDB.out; clear hb) | (go_at_call 24; refine (HBG.out _ (by omega) _).mono ?_; rintro e w11 ⟨rfl, hb⟩; have HD11 := Lib.hid (lift0 hb HDB.out); have HX11 := Lib.hid (lift0 hb HX10.out); have HB11 := Lib.hid (below_trans HB10.out hb); obtain ⟨e0, e1, e2, i0, i1, i2, le⟩ := cells3 HD11.out; clear hb) | (go_at_call 12; refine (HOF.out _ (by omega) _).mono ?_; rintro e w12 ⟨rfl, hb⟩; have HD12 := Lib.hid (lift0 hb HD11.out); have HX12 := Lib.hid (lift0 hb HX11.out); have HB12 := Lib.hid (below_trans HB11.out hb); obtain ⟨f0, f1, f2, j0, j1, j2, lf⟩ := cells3 HD12.out; obtain ⟨n0, n1, n2, o0, o1, o2, lo⟩ := cells3 HX12.out; clear hb))
  have HZ := Lib.hid (old_box (.cells #[.int .i64 Y, .int .i64 M, .int .i64 D] 23) (set3 (x := .int .i64 Y) (y := .int .i64 M) (z := .int .i64 D) HX12.out))
  obtain ⟨v0, v1, v2, _, _, _, _⟩ := cells3 HZ.out
  have hb3 := ((HB12.out.setCell (p := ⟨w.heap.size, 0, none⟩) (Nat.le_refl _) (.int .i64 Y)).setCell (p := ⟨w.heap.size, 1, none⟩) (Nat.le_refl _) (.int .i64 M)).setCell (p := ⟨w.heap.size, 2, none⟩) (Nat.le_refl _) (.int .i64 D)
  refine bodyPost_ret (v := .tuple #[.agg #[.int .i64 Y, .int .i64 M, .int .i64 D], .int .i64 0]) ?_ rfl ?_
  · simp [results, Tryz.results7, go_sem, v0, v1, v2]
  · exact ⟨rfl, hb3.alloc hb3.size _⟩
end Go.Proofs.YteoembjghmgbhaaGreatDoor
