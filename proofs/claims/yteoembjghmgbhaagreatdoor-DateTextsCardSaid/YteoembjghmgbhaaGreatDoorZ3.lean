/- The date walks: the reference's decimal, Print. -/
import Derived.Test.YteoembjghmgbhaaGreatDoorZ2
namespace Go.Proofs.YteoembjghmgbhaaGreatDoor
set_option linter.all false
open Go.RowKit

def dgB (n : Nat) : UInt8 := UInt8.ofNat (48 + n % 10)
def gF : Nat → Nat → List UInt8
  | 0, _ => []
  | k + 1, n => if 9 < n then gF k (n / 10) ++ [dgB (n / 10)] else []
def decL (n : Nat) : List UInt8 := gF 5 n ++ [dgB n]
theorem dec_itoa : ∀ k : Fin 2015, decL k.val = Lib.itoa (k.val : Int) := by decide +kernel
theorem conv1 (W : World) (x : Int) : (convert 73 9 (.slice (some ⟨W.heap.size, 0, none⟩) 1 1)).run Tryz.prog (W.alloc (.cells #[.int .u8 x] 5)) = .ok (.string ⟨[UInt8.ofNat x.toNat].toArray⟩) (W.alloc (.cells #[.int .u8 x] 5)) := by
  refine run_convert_bytes_arg (P := Tryz.prog) (W.alloc (.cells #[.int .u8 x] 5)) 73 5 (by kernel_rfl) (by kernel_rfl) W.heap.size 0 1 1 [x] rfl (fun i hi => ?_) 9 (by kernel_rfl)
  obtain rfl : i = 0 := by omega
  simpa using (cells1 (heap_alloc_new W (.cells #[.int .u8 x] 5))).1
theorem gF_len : ∀ (k n : Nat), (gF k n).length ≤ k
  | 0, _ => by simp [gF]
  | k + 1, n => by
    unfold gF
    split
    · have := gF_len k (n / 10)
      simp
      omega
    · simp
set_option maxRecDepth 100000 in
set_option maxHeartbeats 1000000 in
theorem decimal_any (n : Nat) (w : World) (hn : n ≤ 2014) : Calls Tryz.prog 28 #[.int .i64 (n : Int)] w fun e w' => e = .returned (.string ⟨(decL n).toArray⟩) ∧ Below w.heap.size w w' := by
  have HR := Lib.hid (show decL n = gF 5 n ++ [dgB n] from rfl)
  obtain ⟨R, hR⟩ : ∃ R, decL n = R := ⟨_, rfl⟩
  rw [hR] at HR ⊢
  clear hR
  have hcv := conv1
  have hd1 : UInt8.ofNat (48 + (n : Int) % 10).toNat = dgB n := by unfold dgB; congr 1
  go_enter Tryz.func28, Tryz.ntmps28
  go_wp2
  go_loopw [0, 3] (fun a s wr => ∃ (k m : Nat) (l : List UInt8), a = .int .i64 (m : Int) ∧ s = .string ⟨l.toArray⟩ ∧ Hid (m < 10 ^ (k + 1) ∧ gF k m ++ l = R ∧ l.length ≤ 100 ∧ l.length + k ≤ 100) ∧ m ≤ 2014 ∧ Hid (Below w.heap.size w wr)) (fun a _ _ => (intOf a).toNat)
  case atStart => exact ⟨5, n, [dgB n], rfl, rfl, Lib.hid ⟨by omega, HR.out.symm, by simp, by simp⟩, hn, Lib.hid bel⟩
  case round =>
    obtain ⟨k, m, l, rfl, rfl, HI, hm, hB⟩ := hrel
    by_cases h9 : 9 < m
    · obtain ⟨k', hk'⟩ : ∃ k', k = k' + 1 := by
        cases k with
        | zero => have := HI.out.1; omega
        | succ k => exact ⟨k, rfl⟩
      subst hk'
      have t9 : decide ((9 : Int) < (m : Int)) = true := decide_eq_true (by omega)
      obtain ⟨p, hp⟩ : ∃ p, m / 10 = p := ⟨_, rfl⟩
      have hd2 : UInt8.ofNat (48 + (p : Int) % 10).toNat = dgB p := by unfold dgB; congr 1
      have hadd := add_str [dgB p] l (by simp) (by have := HI.out.2.2.1; omega)
      have hq : IntKind.i64.wrap ((m : Int).tdiv 10) = (p : Int) := by rw [Int.tdiv_eq_ediv_of_nonneg (by omega), IntKind.wrap_i64]; omega
      have hq2 : (m : Int) / 10 = (p : Int) := by omega
      have HJ := Lib.hid (show p < 10 ^ (k' + 1) ∧ gF k' p ++ ([dgB p] ++ l) = R ∧ ([dgB p] ++ l).length ≤ 100 ∧ ([dgB p] ++ l).length + k' ≤ 100 by
        obtain ⟨h1, h2, h3, h4⟩ := HI.out
        refine ⟨?_, ?_, ?_, ?_⟩
        · have : (10 : Nat) ^ (k' + 1 + 1) = 10 ^ (k' + 1) * 10 := Nat.pow_succ _ _
          omega
        · rw [← h2, ← hp]
          rw [show gF (k' + 1) m = gF k' (m / 10) ++ [dgB (m / 10)] from if_pos h9]
          simp
        · simp; omega
        · simp; omega)
      obtain ⟨S, hS⟩ : ∃ S, [dgB p] ++ l = S := ⟨_, rfl⟩
      rw [hS] at hadd HJ
      have hpm : p < m := by omega
      clear hS hp
      go_wp2
      go_roundw
      case rel => exact ⟨k', p, S, rfl, rfl, HJ, by omega, Lib.hid (hB.out.alloc hB.out.size _)⟩
      case measure => simp [intOf]; omega
    · have t9 : decide ((9 : Int) < (m : Int)) = false := decide_eq_false (by omega)
      have HE := Lib.hid (show l = R by
        obtain ⟨h1, h2, h3⟩ := HI.out
        have : gF k m = [] := by cases k with | zero => rfl | succ k => exact if_neg h9
        rw [this] at h2
        simpa using h2)
      go_wp2
      go_ret
      exact ⟨by rw [HE.out]; rfl, hB.out⟩
theorem dec_is {n : Int} (h0 : 0 ≤ n) (h1 : n ≤ 2014) (W : World) : Calls Tryz.prog 28 #[.int .i64 n] W fun e w' => e = .returned (.string ⟨(Lib.itoa n).toArray⟩) ∧ Below W.heap.size W w' := by
  obtain ⟨k, rfl⟩ : ∃ k : Nat, n = k := ⟨n.toNat, by omega⟩
  have h := decimal_any k W (by omega)
  rw [dec_itoa ⟨k, by omega⟩] at h
  exact h
set_option maxRecDepth 100000 in
set_option maxHeartbeats 2000000 in
theorem rPrint_good (d : Dt) (w : World) (hv : okD d = true) : Calls Tryz.prog 10 #[dtv d] w fun e w' => e = .returned (.string ⟨(printL d).toArray⟩) ∧ Below w.heap.size w w' := by
  obtain ⟨-, -, h1, h2, h3, h4, h5, h6⟩ := okD_facts hv
  obtain ⟨y, m, d⟩ := d
  simp only at h1 h2 h3 h4 h5 h6
  obtain ⟨q, hq⟩ : ∃ q : Nat, 3 * m - 3 = q := ⟨(3 * m - 3).toNat, by omega⟩
  have hsl := slice_mon q m hq h4
  have HP := Lib.hid (show printL ⟨y, m, d⟩ = Lib.itoa d ++ [32] ++ monB m ++ [32] ++ Lib.itoa y from rfl)
  have l1 := dom_len (n := d) (by omega) h6
  have l2 := monB_len h3 h4
  have l3 := year_len h1 h2
  have HI1 := Lib.hid (dec_is (n := d) (by omega) (by omega))
  have HI2 := Lib.hid (dec_is (n := y) (by omega) (by omega))
  generalize Lib.itoa d = D at *
  generalize Lib.itoa y = Y at *
  generalize monB m = N at *
  have q1 := add_str D [32] (by omega) (by simp)
  have q2 := add_str (D ++ [32]) N (by simp; omega) (by omega)
  have q3 := add_str (D ++ [32] ++ N) [32] (by simp; omega) (by simp)
  have q4 := add_str (D ++ [32] ++ N ++ [32]) Y (by simp; omega) (by omega)
  rw [← HP.out] at q4
  clear HP
  generalize printL ⟨y, m, d⟩ = P at *
  obtain ⟨S1, hS1⟩ : ∃ S, D ++ [32] = S := ⟨_, rfl⟩
  rw [hS1] at q1 q2 q3 q4
  obtain ⟨S2, hS2⟩ : ∃ S, S1 ++ N = S := ⟨_, rfl⟩
  rw [hS2] at q2 q3 q4
  obtain ⟨S3, hS3⟩ : ∃ S, S2 ++ [32] = S := ⟨_, rfl⟩
  rw [hS3] at q3 q4
  have e1 : IntKind.i64.wrap (3 * m) = (q : Int) + 3 := by rw [IntKind.wrap_i64]; omega
  have e2 : IntKind.i64.wrap ((q : Int) + 3 - 3) = (q : Int) := by rw [IntKind.wrap_i64]; omega
  have e3 : IntKind.i64.wrap (q : Int) = (q : Int) := by rw [IntKind.wrap_i64]; omega
  clear hS1 hS2 hS3 l1 l2 l3 h1 h2 h3 h4 h5 h6 hv hq
  unfold dtv at *
  simp only at *
  go_enter Tryz.func10, Tryz.ntmps10
  go_upto_region 1 with fail
  obtain ⟨c0, c1, c2, f0, f1, f2, lc⟩ := cells3 (heap_alloc_new w (.cells #[.int .i64 y, .int .i64 m, .int .i64 d] 23))
  have HB1d := Lib.hid (bel : Below w.heap.size w ((w.alloc (.cells #[.int .i64 y, .int .i64 m, .int .i64 d] 23)).drew))
  go_region_held3 (fun w' => w'.cell? ⟨w.heap.size, 0, none⟩ = some (.int .i64 y) ∧ w'.cell? ⟨w.heap.size, 1, none⟩ = some (.int .i64 m) ∧ w'.cell? ⟨w.heap.size, 2, none⟩ = some (.int .i64 d)) (first | exact ⟨c0, c1, c2⟩ | exact ⟨d0, d1, d2⟩ | exact ⟨k0, k1, k2⟩) (first | (go_at_call 28; refine (HI1.out _).mono ?_; rintro e w2 ⟨rfl, hb⟩; have d0 := (hb.cell lc).trans c0; have d1 := (hb.cell lc).trans c1; have d2 := (hb.cell lc).trans c2; have lc2 := Nat.lt_of_lt_of_le lc hb.size; have HB2 := Lib.hid (below_trans HB1d.out hb); clear hb HI1) | (go_at_call 28; refine (HI2.out _).mono ?_; rintro e w3 ⟨rfl, hb⟩; have k0 := (hb.cell lc2).trans d0; have k1 := (hb.cell lc2).trans d1; have k2 := (hb.cell lc2).trans d2; have HB3 := Lib.hid (below_trans HB2.out hb); clear hb HI2))
  all_goals
    go_wp2
    go_ret
    exact ⟨by first | rfl | simp, HB3.out⟩
end Go.Proofs.YteoembjghmgbhaaGreatDoor
