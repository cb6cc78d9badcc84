/- The reference's Cut: what it gives is the parts. -/
import Derived.Test.YteoembjghmgbhaaDoorV3
import Derived.Test.YteoembjghmgbhaaDoorR3
namespace Go.Proofs.YteoembjghmgbhaaDoor
set_option linter.all false
open Go.RowKit

def loV (s : Sp) (k : Nat) : Int := min (s.hi + 1) (max s.lo (beginN (monI s.lo + k)))
theorem loV_zero (s : Sp) (hs : spanB s = true) : loV s 0 = s.lo := by
  have hsb : 0 ≤ s.lo ∧ s.lo ≤ s.hi ∧ s.hi ≤ 60000 := by simpa [spanB] using hs
  have := mon_low s.lo hsb.1
  unfold loV
  rw [Nat.add_zero]
  omega
theorem loV_end (s : Sp) (hs : spanB s = true) : loV s (partsN s) = s.hi + 1 := by
  have hsb : 0 ≤ s.lo ∧ s.lo ≤ s.hi ∧ s.hi ≤ 60000 := by simpa [spanB] using hs
  have h1 := mon_mono hsb.1 hsb.2.1 hsb.2.2
  have h2 := mon_high s.hi (by omega) hsb.2.2
  unfold loV partsN
  rw [show monI s.lo + (monI s.hi + 1 - monI s.lo) = monI s.hi + 1 by omega]
  omega
theorem cut_step (s : Sp) (hs : spanB s = true) (k M : Nat) (hk : k < partsN s) (hM : monI s.lo + k = M) :
    0 ≤ loV s k ∧ loV s k ≤ s.hi ∧ monI (loV s k) = M ∧ pieceS s M = ⟨loV s k, min s.hi (beginN (M + 1) - 1)⟩ ∧ loV s (k + 1) = min s.hi (beginN (M + 1) - 1) + 1 ∧ beginN M ≤ loV s k ∧ loV s k < beginN (M + 1) ∧ M ≤ 1971 := by
  have hsb : 0 ≤ s.lo ∧ s.lo ≤ s.hi ∧ s.hi ≤ 60000 := by simpa [spanB] using hs
  have h1 := mon_mono hsb.1 hsb.2.1 hsb.2.2
  have h2 := mon_low s.hi (by omega)
  have h3 := mon_le s.hi
  have h4 := mon_high s.lo hsb.1 (by omega)
  have h5 := mon_low s.lo hsb.1
  have hkk : k < monI s.hi + 1 - monI s.lo := hk
  have h6 := begin_le (show M ≤ monI s.hi by omega) (by omega)
  have h7 := begin_le (show monI s.lo + 1 ≤ M + 1 by omega) (by omega)
  have h8 := begin_lt (show M < M + 1 by omega) (by omega)
  have h9 : loV s k = max s.lo (beginN M) := by
    unfold loV
    rw [hM]
    omega
  have h10 : beginN M ≤ loV s k ∧ loV s k < beginN (M + 1) := by rw [h9]; omega
  have h11 : 0 ≤ loV s k ∧ loV s k ≤ s.hi := by rw [h9]; omega
  refine ⟨h11.1, h11.2, mon_uniq _ h11.1 (by omega) M (by omega) h10.1 h10.2, ?_, ?_, h10.1, h10.2, by omega⟩
  · unfold pieceS
    rw [h9]
  · unfold loV
    rw [show monI s.lo + (k + 1) = M + 1 by omega]
    omega
set_option maxRecDepth 1000000 in
set_option maxHeartbeats 4000000 in
theorem rCut_any (s : Sp) (w : World) (hs : spanB s = true) :
    Calls Tryd.prog 41 #[spv s] w fun e w' => ∃ v, e = .returned v ∧ w'.ownsRow w.heap.size 37 2 v (partsL s).length (spcs (partsL s)) ∧ Below w.heap.size w w' := by
  have hsb : 0 ≤ s.lo ∧ s.lo ≤ s.hi ∧ s.hi ≤ 60000 := by simpa [spanB] using hs
  have HST := Lib.hid (fun k hk => cut_step s hs k (monI s.lo + k) hk rfl)
  have HZ := Lib.hid (loV_zero s hs)
  have HE := Lib.hid (loV_end s hs)
  have HPK := Lib.hid (fun k => partsK_succ s k)
  have HPZ := Lib.hid (show partsK s 0 = [] from rfl)
  have HPL := Lib.hid (show partsK s (partsN s) = partsL s from rfl)
  have HLN := Lib.hid (fun k => partsK_len s k)
  have HNB := Lib.hid (show partsN s ≤ 1972 by unfold partsN; have := mon_le s.hi; omega)
  clear hs
  generalize hLV : loV s = LV at *
  generalize hPK : partsK s = PK at *
  generalize hPI : pieceS s = PI at *
  generalize hN : partsN s = N at *
  generalize hPL : partsL s = PL at *
  generalize hA0 : monI s.lo = a0 at *
  clear hLV hPK hPI hN hPL hA0
  obtain ⟨lo, hi⟩ := s
  unfold spv
  simp only at *
  have HX0 := Lib.hid (heap_alloc_new w (.cells #[.int .i64 lo, .int .i64 hi] 37))
  obtain ⟨w2, hw2⟩ : ∃ w2, w2 = w.alloc (.cells #[.int .i64 lo, .int .i64 hi] 37) := ⟨_, rfl⟩
  rw [← hw2] at HX0
  have HB2 := Lib.hid (show Below w.heap.size w w2 by rw [hw2]; exact bel)
  have HS2 := Lib.hid (show w2.heap.size = w.heap.size + 1 by rw [hw2]; simp)
  have HW2 := Lib.hid hw2
  clear hw2
  go_enter Tryd.func41, Tryd.ntmps41
  go_upto_region 3 with fail
  rw [← HW2.out]
  go_loopw [3, 4] (fun v i wr => ∃ (k : Nat) (A : Option Addr) (c : Nat), k ≤ N ∧ v = .slice A k c ∧ i = .int .i64 (LV k) ∧ Hid (wr.ownsRow (w.heap.size + 1) 37 2 (.slice A k c) k (spcs (PK k))) ∧ Hid (Below (w.heap.size + 1) w2 wr)) (fun v i _ => 70000 - (intOf i).toNat)
  case atStart => exact ⟨0, none, 0, by omega, rfl, by rw [HZ.out], Lib.hid (by rw [HPZ.out]; exact World.ownsRow_nil _ _ _ _), Lib.hid (Below.refl _ _)⟩
  case round =>
    obtain ⟨k, A, c, hk, rfl, rfl, HR, HB⟩ := hrel
    have HX := Lib.hid ((HB.out.block w.heap.size (by omega)).trans HX0.out)
    obtain ⟨c0, c1, _, _, lc⟩ := cells2 HX.out
    by_cases hlt : k < N
    · obtain ⟨M, hM⟩ : ∃ M, a0 + k = M := ⟨_, rfl⟩
      obtain ⟨g1, g2, g3, g4, g5, g6, g7, g8⟩ := HST.out k hlt
      have hpk := HPK.out k
      rw [hM] at g3 g4 g5 g6 g7 g8 hpk
      have HO := Lib.hid (fun W => rOf_any (LV k) W g1 (by omega))
      have ho : ofI (LV k) = ⟨1850 + ((M / 12 : Nat) : Int), ((M % 12 : Nat) : Int) + 1, LV k - beginN M + 1⟩ := by unfold ofI; rw [g3]
      rw [ho] at HO
      have hst := begin_step M (by omega)
      have hln := len_bd (1850 + ((M / 12 : Nat) : Int)) (((M % 12 : Nat) : Int) + 1)
      have HL := Lib.hid (fun W => rLength_any (1850 + ((M / 12 : Nat) : Int)) (((M % 12 : Nat) : Int) + 1) W (by omega) (by omega))
      have hll := HLN.out k
      have hlk := HNB.out
      obtain ⟨l0, hl0⟩ : ∃ l0, LV k = l0 := ⟨_, rfl⟩
      obtain ⟨y, hy⟩ : ∃ y, 1850 + ((M / 12 : Nat) : Int) = y := ⟨_, rfl⟩
      obtain ⟨m, hm⟩ : ∃ m, ((M % 12 : Nat) : Int) + 1 = m := ⟨_, rfl⟩
      rw [hl0] at g1 g2 g4 g6 g7 HO ⊢
      rw [hy, hm] at HO HL hst hln
      obtain ⟨ln, hln2⟩ : ∃ ln, lenI y m = ln := ⟨_, rfl⟩
      rw [hln2] at HL hst hln
      obtain ⟨d, hd⟩ : ∃ d, l0 - beginN M + 1 = d := ⟨_, rfl⟩
      rw [hd] at HO
      obtain ⟨h1, hh1⟩ : ∃ h1, min hi (l0 + ln - d) = h1 := ⟨_, rfl⟩
      have hh2 : min hi (beginN (M + 1) - 1) = h1 := by rw [← hh1, hst]; congr 1; omega
      rw [hh2] at g4 g5
      have hh3 : l0 ≤ h1 ∧ h1 ≤ hi := by rw [← hh2]; omega
      have hd2 : 1 ≤ d ∧ d ≤ 31 := by omega
      have HPS := Lib.hid (show PK (k + 1) = PK k ++ [⟨l0, h1⟩] by rw [hpk, g4])
      have HLV := Lib.hid g5
      unfold dtv at HO
      simp only at HO
      have t : decide (l0 ≤ hi) = true := decide_eq_true (by omega)
      have hw1 : IntKind.i64.wrap (l0 + ln) = l0 + ln := by rw [IntKind.wrap_i64]; omega
      have hw2 : IntKind.i64.wrap (l0 + ln - d) = l0 + ln - d := by rw [IntKind.wrap_i64]; omega
      have hw3 : IntKind.i64.wrap (h1 + 1) = h1 + 1 := by rw [IntKind.wrap_i64]; omega
      clear g3 g4 g5 g6 g7 hst hd hl0 hy hm hln2 hpk ho hM hh2
      have hs1 : w.heap.size + 1 ≤ wr.heap.size := by have := HB.out.size; have := HS2.out; omega
      go_upto_region 5 with (first | (go_at_call 23; refine (HO.out _).mono ?_; rintro e w3 ⟨rfl, hb⟩; have HB3 := Lib.hid (HB.out.trans (hb.mono hs1)); have HR3 := Lib.hid (ownsRow_bel HR.out hb); have HX3 := Lib.hid (lift0 hb HX.out); clear hb HO))
      obtain ⟨W, hWe⟩ : ∃ W, W = w3.alloc (.cells #[.int .i64 y, .int .i64 m, .int .i64 d] 23) := ⟨_, rfl⟩
      have HWD := Lib.hid (show W.heap[w3.heap.size]? = some (.cells #[.int .i64 y, .int .i64 m, .int .i64 d] 23 (0, 0)) by rw [hWe]; exact heap_alloc_new w3 _)
      have hs3 : w.heap.size + 1 ≤ w3.heap.size := by have := HB3.out.size; have := HS2.out; omega
      have HWB := Lib.hid (show Below (w.heap.size + 1) w2 W by rw [hWe]; exact HB3.out.alloc hs3 _)
      have HWR := Lib.hid (show W.ownsRow (w.heap.size + 1) 37 2 (.slice A k c) k (spcs (PK k)) by rw [hWe]; exact HR3.out.alloc _)
      have HWX := Lib.hid ((HWB.out.block w.heap.size (by omega)).trans HX0.out)
      have hs4 : w.heap.size + 1 ≤ W.heap.size := by rw [hWe]; simp; omega
      rw [← hWe]
      obtain ⟨e0, e1, _, _, le⟩ := cells2 HWX.out
      obtain ⟨f0, f1, f2, _, _, _, lf⟩ := cells3 HWD.out
      clear hWe c0 c1 lc
      go_quiet (first | (go_at_call 62; refine quiet_eq (HL.out _)))
      obtain ⟨V, hVe⟩ : ∃ V, V = W.drewN nq := ⟨_, rfl⟩
      have HVR := Lib.hid (show V.ownsRow (w.heap.size + 1) 37 2 (.slice A k c) k (spcs (PK k)) by rw [hVe]; exact HWR.out)
      have HVB := Lib.hid (show Below (w.heap.size + 1) w2 V by rw [hVe]; exact below_dN HWB.out _)
      have hs5 : w.heap.size + 1 ≤ V.heap.size := by rw [hVe]; exact hs4
      rw [← hVe]
      obtain ⟨A', c', hAe, hc1, hn1, hA1⟩ := own_slice HVR.out
      cases hAe
      clear hVe e0 e1 le f0 f1 f2 lf
      go_wp2_with (at_builtin; refine app_one rfl _ _ 54 37 (.agg #[.int .i64 0, .int .i64 0]) 2 16 rfl Tryd.underlying54 info37 rfl (by omega) (.slice A k c) k (spcs (PK k)) (spc ⟨l0, h1⟩) rfl rfl (by simp) rfl (spc_one _) (w.heap.size + 1) HVR.out (by omega) (by omega) (by unfold maxLen; omega) ?_; intro v1 w4 ho hg _; obtain ⟨A1, c1, rfl, -⟩ := own_slice ho; have HB4 := Lib.hid (below_own HVB.out hg hs5 (fun b hb => by cases A with | none => cases hb | some ad => have h2 := hA1 ad rfl; rw [hb] at h2; have h3 := Option.some.inj h2.1; omega)); have HO4 := Lib.hid ho; clear hg ho)
      go_roundw
      case rel => exact ⟨k + 1, A1, c1, by omega, rfl, by rw [HLV.out], Lib.hid (by rw [HPS.out, spcs_app]; exact HO4.out), HB4⟩
      case measure => simp [intOf]; omega
    · obtain rfl : k = N := by omega
      have t : decide (hi + 1 ≤ hi) = false := decide_eq_false (by omega)
      rw [HE.out]
      go_wp2
      go_ret
      exact ⟨_, rfl, by rw [← HPL.out, HLN.out]; exact own_base HR.out (by omega), HB2.out.trans (HB.out.mono (by omega))⟩
end Go.Proofs.YteoembjghmgbhaaDoor
