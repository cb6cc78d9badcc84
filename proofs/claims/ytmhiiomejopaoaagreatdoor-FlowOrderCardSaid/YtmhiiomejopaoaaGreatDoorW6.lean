/- The walks of texts: the reference's decimal, number. -/
import Derived.Test.YtmhiiomejopaoaaGreatDoorW3
namespace Go.Proofs.YtmhiiomejopaoaaGreatDoor
set_option linter.all false
set_option maxRecDepth 100000
open Go.RowKit

def dgB (n : Nat) : UInt8 := UInt8.ofNat (48 + n % 10)
def preD (m : Nat) : List UInt8 := if 9 < m then Lib.decDigits (m / 10) else []
theorem dd_pre (m : Nat) : Lib.decDigits m = preD m ++ [dgB m] := by
  unfold preD dgB
  by_cases h : m < 10
  · rw [dd_lt h, if_neg (by omega), Nat.mod_eq_of_lt h]
    rfl
  · rw [dd_ge h, if_pos (by omega)]
theorem conv1 (W : World) (x : Int) : (convert 90 9 (.slice (some ⟨W.heap.size, 0, none⟩) 1 1)).run Tryz.prog (W.alloc (.cells #[.int .u8 x] 5)) = .ok (.string ⟨[UInt8.ofNat x.toNat].toArray⟩) (W.alloc (.cells #[.int .u8 x] 5)) := by
  refine run_convert_bytes_arg (P := Tryz.prog) (W.alloc (.cells #[.int .u8 x] 5)) 90 5 (by kernel_rfl) (by kernel_rfl) W.heap.size 0 1 1 [x] rfl (fun i hi => ?_) 9 (by kernel_rfl)
  obtain rfl : i = 0 := by omega
  simpa using cell_of_heap (heap_alloc_new W (.cells #[.int .u8 x] 5)) 0
theorem u8_in {n : Nat} : (48 + (n : Int) % 10).toNat = 48 + n % 10 := by omega
set_option maxHeartbeats 1000000 in
theorem decimal_pos (n : Nat) (w : World) (hn : n < 1000000000000) : Calls Tryz.prog 34 #[.int .i64 (n : Int)] w fun e w' => e = .returned (.string ⟨(Lib.decDigits n).toArray⟩) ∧ Below w.heap.size w w' := by
  have HR := Lib.hid (dd_pre n)
  have hlen := dd_len 11 n (by have : (10 : Nat) ^ (11 + 1) = 1000000000000 := by decide
                               omega)
  obtain ⟨R, hR⟩ : ∃ R, Lib.decDigits n = R := ⟨_, rfl⟩
  rw [hR] at HR hlen ⊢
  have HLE := Lib.hid hlen
  clear hR hlen
  have hcv := conv1
  have hd1 : UInt8.ofNat (48 + (n : Int) % 10).toNat = dgB n := by unfold dgB; rw [u8_in]
  have t0 : decide ((n : Int) < 0) = false := decide_eq_false (by omega)
  go_enter Tryz.func34, Tryz.ntmps34
  go_wp2
  go_loopw [0, 3] (fun a s wr => ∃ (m : Nat) (l : List UInt8), a = .int .i64 (m : Int) ∧ s = .string ⟨l.toArray⟩ ∧ Hid (preD m ++ l = R) ∧ m < 1000000000000 ∧ Hid (Below w.heap.size w wr)) (fun a _ _ => (intOf a).toNat)
  case atStart => exact ⟨n, [dgB n], rfl, rfl, Lib.hid HR.out.symm, hn, Lib.hid bel⟩
  case round =>
    obtain ⟨m, l, rfl, rfl, HI, hm, hB⟩ := hrel
    have hll : l.length ≤ 12 := by
      have h1 := congrArg List.length HI.out
      have h2 := HLE.out
      simp at h1
      omega
    by_cases h9 : 9 < m
    · have t9 : decide ((9 : Int) < (m : Int)) = true := decide_eq_true (by omega)
      obtain ⟨p, hp⟩ : ∃ p, m / 10 = p := ⟨_, rfl⟩
      have hd2 : UInt8.ofNat (48 + (p : Int) % 10).toNat = dgB p := by unfold dgB; rw [u8_in]
      have hadd := add_str [dgB p] l (by simp) (by omega)
      have hq : IntKind.i64.wrap ((m : Int).tdiv 10) = (p : Int) := by rw [Int.tdiv_eq_ediv_of_nonneg (by omega), IntKind.wrap_i64]; omega
      have hq2 : (m : Int) / 10 = (p : Int) := by omega
      have HJ := Lib.hid (show preD p ++ ([dgB p] ++ l) = R by
        rw [← HI.out, ← List.append_assoc, ← dd_pre p]
        congr 1
        unfold preD
        rw [if_pos h9, hp])
      obtain ⟨S, hS⟩ : ∃ S, [dgB p] ++ l = S := ⟨_, rfl⟩
      rw [hS] at hadd HJ
      have hpm : p < m := by omega
      clear hS hp hll
      go_wp2
      go_roundw
      case rel => exact ⟨p, S, rfl, rfl, HJ, by omega, Lib.hid (hB.out.alloc hB.out.size _)⟩
      case measure => simp [intOf]; omega
    · have t9 : decide ((9 : Int) < (m : Int)) = false := decide_eq_false (by omega)
      have HE := Lib.hid (show l = R by
        have h1 := HI.out
        unfold preD at h1
        rw [if_neg h9] at h1
        simpa using h1)
      clear hll
      go_wp2
      go_ret
      exact ⟨by rw [HE.out]; rfl, hB.out⟩
set_option maxHeartbeats 1000000 in
theorem decimal_any (n : Int) (w : World) (hn : Small n) : Calls Tryz.prog 34 #[.int .i64 n] w fun e w' => e = .returned (.string ⟨(Lib.itoa n).toArray⟩) ∧ Below w.heap.size w w' := by
  obtain ⟨h1, h2⟩ := hn
  by_cases h0 : 0 ≤ n
  · obtain ⟨k, rfl⟩ : ∃ k : Nat, n = k := ⟨n.toNat, by omega⟩
    rw [Lib.itoa_nonneg]
    exact decimal_pos k w (by omega)
  · obtain ⟨k, rfl⟩ : ∃ k : Nat, n = -(k : Int) := ⟨(-n).toNat, by omega⟩
    rw [Lib.itoa_neg k (by omega)]
    have HP := Lib.hid (fun W => decimal_pos k W (by omega))
    have hlen := dd_len 11 k (by have : (10 : Nat) ^ (11 + 1) = 1000000000000 := by decide
                                 omega)
    have q := add_str [45] (Lib.decDigits k) (by simp) (by omega)
    rw [show [45] ++ Lib.decDigits k = 45 :: Lib.decDigits k from rfl] at q
    generalize Lib.decDigits k = D at *
    obtain ⟨S, hS⟩ : ∃ S, 45 :: D = S := ⟨_, rfl⟩
    rw [hS] at q ⊢
    clear hS hlen
    have t0 : decide (-(k : Int) < 0) = true := decide_eq_true (by omega)
    have e1 : IntKind.i64.wrap (0 - -(k : Int)) = (k : Int) := by rw [IntKind.wrap_i64]; omega
    go_enter Tryz.func34, Tryz.ntmps34
    go_wp2_with (go_at_call 34; refine (HP.out _).mono ?_; rintro e w1 ⟨rfl, hb⟩; have HB1 := Lib.hid hb; clear hb)
    go_ret
    exact ⟨rfl, HB1.out⟩
end Go.Proofs.YtmhiiomejopaoaaGreatDoor
