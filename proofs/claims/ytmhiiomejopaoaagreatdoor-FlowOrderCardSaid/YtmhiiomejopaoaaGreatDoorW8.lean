/- The walks of texts: the reference's number. -/
import Derived.Test.YtmhiiomejopaoaaGreatDoorW6
namespace Go.Proofs.YtmhiiomejopaoaaGreatDoor
set_option linter.all false
set_option maxRecDepth 100000
open Go.RowKit

theorem digF_end (s : List UInt8) (a : Nat) (n : Int) (h : s.length ≤ a) : digF (s.drop a) n = (n, 0) := by
  rw [List.drop_of_length_le h]
  rfl
theorem digF_stop (s : List UInt8) (a : Nat) (n : Int) (h : a < s.length) (hd : ¬ (48 ≤ (s[a]).toNat ∧ (s[a]).toNat ≤ 57)) : digF (s.drop a) n = (n, 0) := by
  rw [List.drop_eq_getElem_cons h]
  exact if_neg hd
theorem digF_go (s : List UInt8) (a : Nat) (n : Int) (h : a < s.length) (hd : 48 ≤ (s[a]).toNat ∧ (s[a]).toNat ≤ 57) : (digF (s.drop a) n).1 = (digF (s.drop (a + 1)) (min (10 * n + (((s[a]).toNat : Int) - 48)) 1099511627776)).1 ∧ (digF (s.drop a) n).2 = (digF (s.drop (a + 1)) (min (10 * n + (((s[a]).toNat : Int) - 48)) 1099511627776)).2 + 1 := by
  rw [List.drop_eq_getElem_cons h]
  exact ⟨by rw [show digF (s[a] :: s.drop (a + 1)) n = _ from if_pos hd], by rw [show digF (s[a] :: s.drop (a + 1)) n = _ from if_pos hd]⟩
set_option maxHeartbeats 4000000 in
theorem number_any (s : List UInt8) (a : Nat) (w : World) (hs : s.length ≤ 1000) (ha : a ≤ 100000) : Calls Tryz.prog 31 #[.string ⟨s.toArray⟩, .int .i64 (a : Int)] w fun e w' => e = .returned (.tuple #[.int .i64 (numP s a).1, .int .i64 ((numP s a).2 : Int)]) ∧ Below w.heap.size w w' := by
  by_cases h45 : (s.drop a).head? = some 45
  · have hlt : a < s.length := by
      by_cases h : a < s.length
      · exact h
      · rw [List.drop_of_length_le (by omega)] at h45; cases h45
    have hsa : s[a] = 45 := by
      rw [List.drop_eq_getElem_cons hlt] at h45
      exact Option.some.inj h45
    have HN : numP s a = (-(digF (s.drop (a + 1)) 0).1, a + 1 + (digF (s.drop (a + 1)) 0).2) := if_pos h45
    rw [HN]
    have t1 : decide ((a : Int) < (s.length : Int)) = true := decide_eq_true (by omega)
    have hx0 : ((⟨s.toArray⟩ : ByteArray)[a]'(by show a < s.toArray.size; simpa using hlt)).toNat = 45 := by show (s[a]).toNat = 45; rw [hsa]; rfl
    obtain ⟨V, hV⟩ : ∃ V, (digF (s.drop (a + 1)) 0).1 = V := ⟨_, rfl⟩
    obtain ⟨E, hE⟩ : ∃ E, a + 1 + (digF (s.drop (a + 1)) 0).2 = E := ⟨_, rfl⟩
    have HV := Lib.hid hV
    have HE := Lib.hid hE
    simp only [hV, hE]
    clear h45 HN hsa hV hE
    go_enter Tryz.func31, Tryz.ntmps31
    go_wp2
    go_loopw [1, 7] (fun t m wr => ∃ (a' : Nat) (n : Int), t = .int .i64 (a' : Int) ∧ m = .int .i64 n ∧ a' ≤ 101000 ∧ 0 ≤ n ∧ n ≤ 1099511627776 ∧ Hid ((digF (s.drop a') n).1 = V) ∧ Hid (a' + (digF (s.drop a') n).2 = E) ∧ Hid (Below w.heap.size w wr)) (fun t _ _ => 200000 - (intOf t).toNat)
    case atStart => exact ⟨a + 1, 0, rfl, rfl, by omega, by omega, by omega, HV, HE, Lib.hid bel⟩
    case round =>
      obtain ⟨a', n, rfl, rfl, ha', hn0, hn1, HV, HE, HB⟩ := hrel
      by_cases hlt' : a' < s.length
      · have t2 : decide ((a' : Int) < (s.length : Int)) = true := decide_eq_true (by omega)
        obtain ⟨v, hv⟩ : ∃ v, (s[a']).toNat = v := ⟨_, rfl⟩
        have hx : ((⟨s.toArray⟩ : ByteArray)[a']'(by show a' < s.toArray.size; simpa using hlt')).toNat = v := hv
        have hvb : v < 256 := by rw [← hv]; exact (s[a']).toNat_lt
        by_cases hd : 48 ≤ v ∧ v ≤ 57
        · have t3 : decide ((48 : Int) ≤ (v : Int)) = true := decide_eq_true (by omega)
          have t4 : decide ((v : Int) ≤ 57) = true := decide_eq_true (by omega)
          obtain ⟨f1, f2⟩ := digF_go s a' n hlt' (by rw [hv]; exact hd)
          rw [hv] at f1 f2
          have e1 : IntKind.u8.wrap ((v : Int) - 48) = (v : Int) - 48 := by simp [IntKind.wrap, IntKind.bits, IntKind.signed]; omega
          obtain ⟨n2, hn2⟩ : ∃ n2, min (10 * n + ((v : Int) - 48)) 1099511627776 = n2 := ⟨_, rfl⟩
          have hk : (if 1099511627776 < 10 * n + ((v : Int) - 48) then 1099511627776 else 10 * n + ((v : Int) - 48)) = n2 := by rw [← hn2]; split <;> omega
          rw [hn2] at f1 f2
          have HV2 := Lib.hid (f1.symm.trans HV.out)
          have HE2 := Lib.hid (show a' + 1 + (digF (s.drop (a' + 1)) n2).2 = E by have := HE.out; omega)
          have hb0 : 0 ≤ n2 ∧ n2 ≤ 1099511627776 := by omega
          have HB2 := Lib.hid hb0
          clear f1 f2 hb0 hv
          go_wp2
          go_roundw
          case rel => exact ⟨a' + 1, n2, by go_num, by simp_all, by omega, HB2.out.1, HB2.out.2, HV2, HE2, HB⟩
          case measure => simp [intOf]; omega
        · have HS := Lib.hid (digF_stop s a' n hlt' (by rw [hv]; exact hd))
          have HVn := Lib.hid (show n = V by have := HV.out; rw [HS.out] at this; exact this)
          have HEn := Lib.hid (show a' = E by have := HE.out; rw [HS.out] at this; simpa using this)
          clear hv
          by_cases h48 : 48 ≤ v
          · have t3 : decide ((48 : Int) ≤ (v : Int)) = true := decide_eq_true (by omega)
            have t4 : decide ((v : Int) ≤ 57) = false := decide_eq_false (by omega)
            go_wp2
            go_ret2
            exact ⟨by rw [← HVn.out, ← HEn.out]; simp, HB.out⟩
          · have t3 : decide ((48 : Int) ≤ (v : Int)) = false := decide_eq_false (by omega)
            go_wp2
            go_ret2
            exact ⟨by rw [← HVn.out, ← HEn.out]; simp, HB.out⟩
      · have t2 : decide ((a' : Int) < (s.length : Int)) = false := decide_eq_false (by omega)
        have HS := Lib.hid (digF_end s a' n (by omega))
        have HVn := Lib.hid (show n = V by have := HV.out; rw [HS.out] at this; exact this)
        have HEn := Lib.hid (show a' = E by have := HE.out; rw [HS.out] at this; simpa using this)
        go_wp2
        go_ret2
        exact ⟨by rw [← HVn.out, ← HEn.out]; simp, HB.out⟩
  · have HN : numP s a = ((digF (s.drop a) 0).1, a + (digF (s.drop a) 0).2) := if_neg h45
    rw [HN]
    obtain ⟨V, hV⟩ : ∃ V, (digF (s.drop a) 0).1 = V := ⟨_, rfl⟩
    obtain ⟨E, hE⟩ : ∃ E, a + (digF (s.drop a) 0).2 = E := ⟨_, rfl⟩
    have HV := Lib.hid hV
    have HE := Lib.hid hE
    simp only [hV, hE]
    clear HN hV hE
    by_cases hlt : a < s.length
    · have t1 : decide ((a : Int) < (s.length : Int)) = true := decide_eq_true (by omega)
      obtain ⟨u, hu⟩ : ∃ u, (s[a]).toNat = u := ⟨_, rfl⟩
      have hx0 : ((⟨s.toArray⟩ : ByteArray)[a]'(by show a < s.toArray.size; simpa using hlt)).toNat = u := hu
      have t5 : ((u : Int) == 45) = false := by
        rw [beq_eq_false_iff_ne]
        intro h
        apply h45
        rw [List.drop_eq_getElem_cons hlt]
        have : s[a] = 45 := by
          apply UInt8.toNat_inj.1
          rw [hu]
          show u = 45
          omega
        rw [this]
        rfl
      clear h45 hu
      go_enter Tryz.func31, Tryz.ntmps31
      go_wp2
      go_loopw [1, 7] (fun t m wr => ∃ (a' : Nat) (n : Int), t = .int .i64 (a' : Int) ∧ m = .int .i64 n ∧ a' ≤ 101000 ∧ 0 ≤ n ∧ n ≤ 1099511627776 ∧ Hid ((digF (s.drop a') n).1 = V) ∧ Hid (a' + (digF (s.drop a') n).2 = E) ∧ Hid (Below w.heap.size w wr)) (fun t _ _ => 200000 - (intOf t).toNat)
      case atStart => exact ⟨a, 0, rfl, rfl, by omega, by omega, by omega, HV, HE, Lib.hid bel⟩
      case round =>
        obtain ⟨a', n, rfl, rfl, ha', hn0, hn1, HV, HE, HB⟩ := hrel
        by_cases hlt' : a' < s.length
        · have t2 : decide ((a' : Int) < (s.length : Int)) = true := decide_eq_true (by omega)
          obtain ⟨v, hv⟩ : ∃ v, (s[a']).toNat = v := ⟨_, rfl⟩
          have hx : ((⟨s.toArray⟩ : ByteArray)[a']'(by show a' < s.toArray.size; simpa using hlt')).toNat = v := hv
          have hvb : v < 256 := by rw [← hv]; exact (s[a']).toNat_lt
          by_cases hd : 48 ≤ v ∧ v ≤ 57
          · have t3 : decide ((48 : Int) ≤ (v : Int)) = true := decide_eq_true (by omega)
            have t4 : decide ((v : Int) ≤ 57) = true := decide_eq_true (by omega)
            obtain ⟨f1, f2⟩ := digF_go s a' n hlt' (by rw [hv]; exact hd)
            rw [hv] at f1 f2
            have e1 : IntKind.u8.wrap ((v : Int) - 48) = (v : Int) - 48 := by simp [IntKind.wrap, IntKind.bits, IntKind.signed]; omega
            obtain ⟨n2, hn2⟩ : ∃ n2, min (10 * n + ((v : Int) - 48)) 1099511627776 = n2 := ⟨_, rfl⟩
            have hk : (if 1099511627776 < 10 * n + ((v : Int) - 48) then 1099511627776 else 10 * n + ((v : Int) - 48)) = n2 := by rw [← hn2]; split <;> omega
            rw [hn2] at f1 f2
            have HV2 := Lib.hid (f1.symm.trans HV.out)
            have HE2 := Lib.hid (show a' + 1 + (digF (s.drop (a' + 1)) n2).2 = E by have := HE.out; omega)
            have hb0 : 0 ≤ n2 ∧ n2 ≤ 1099511627776 := by omega
            have HB2 := Lib.hid hb0
            clear f1 f2 hb0 hv
            go_wp2
            go_roundw
            case rel => exact ⟨a' + 1, n2, by go_num, by simp_all, by omega, HB2.out.1, HB2.out.2, HV2, HE2, HB⟩
            case measure => simp [intOf]; omega
          · have HS := Lib.hid (digF_stop s a' n hlt' (by rw [hv]; exact hd))
            have HVn := Lib.hid (show n = V by have := HV.out; rw [HS.out] at this; exact this)
            have HEn := Lib.hid (show a' = E by have := HE.out; rw [HS.out] at this; simpa using this)
            clear hv
            by_cases h48 : 48 ≤ v
            · have t3 : decide ((48 : Int) ≤ (v : Int)) = true := decide_eq_true (by omega)
              have t4 : decide ((v : Int) ≤ 57) = false := decide_eq_false (by omega)
              go_wp2
              go_ret2
              exact ⟨by rw [← HVn.out, ← HEn.out]; simp, HB.out⟩
            · have t3 : decide ((48 : Int) ≤ (v : Int)) = false := decide_eq_false (by omega)
              go_wp2
              go_ret2
              exact ⟨by rw [← HVn.out, ← HEn.out]; simp, HB.out⟩
        · have t2 : decide ((a' : Int) < (s.length : Int)) = false := decide_eq_false (by omega)
          have HS := Lib.hid (digF_end s a' n (by omega))
          have HVn := Lib.hid (show n = V by have := HV.out; rw [HS.out] at this; exact this)
          have HEn := Lib.hid (show a' = E by have := HE.out; rw [HS.out] at this; simpa using this)
          go_wp2
          go_ret2
          exact ⟨by rw [← HVn.out, ← HEn.out]; simp, HB.out⟩
    · have t1 : decide ((a : Int) < (s.length : Int)) = false := decide_eq_false (by omega)
      clear h45
      go_enter Tryz.func31, Tryz.ntmps31
      go_wp2
      go_loopw [1, 7] (fun t m wr => ∃ (a' : Nat) (n : Int), t = .int .i64 (a' : Int) ∧ m = .int .i64 n ∧ a' ≤ 101000 ∧ 0 ≤ n ∧ n ≤ 1099511627776 ∧ Hid ((digF (s.drop a') n).1 = V) ∧ Hid (a' + (digF (s.drop a') n).2 = E) ∧ Hid (Below w.heap.size w wr)) (fun t _ _ => 200000 - (intOf t).toNat)
      case atStart => exact ⟨a, 0, rfl, rfl, by omega, by omega, by omega, HV, HE, Lib.hid bel⟩
      case round =>
        obtain ⟨a', n, rfl, rfl, ha', hn0, hn1, HV, HE, HB⟩ := hrel
        by_cases hlt' : a' < s.length
        · have t2 : decide ((a' : Int) < (s.length : Int)) = true := decide_eq_true (by omega)
          obtain ⟨v, hv⟩ : ∃ v, (s[a']).toNat = v := ⟨_, rfl⟩
          have hx : ((⟨s.toArray⟩ : ByteArray)[a']'(by show a' < s.toArray.size; simpa using hlt')).toNat = v := hv
          have hvb : v < 256 := by rw [← hv]; exact (s[a']).toNat_lt
          by_cases hd : 48 ≤ v ∧ v ≤ 57
          · have t3 : decide ((48 : Int) ≤ (v : Int)) = true := decide_eq_true (by omega)
            have t4 : decide ((v : Int) ≤ 57) = true := decide_eq_true (by omega)
            obtain ⟨f1, f2⟩ := digF_go s a' n hlt' (by rw [hv]; exact hd)
            rw [hv] at f1 f2
            have e1 : IntKind.u8.wrap ((v : Int) - 48) = (v : Int) - 48 := by simp [IntKind.wrap, IntKind.bits, IntKind.signed]; omega
            obtain ⟨n2, hn2⟩ : ∃ n2, min (10 * n + ((v : Int) - 48)) 1099511627776 = n2 := ⟨_, rfl⟩
            have hk : (if 1099511627776 < 10 * n + ((v : Int) - 48) then 1099511627776 else 10 * n + ((v : Int) - 48)) = n2 := by rw [← hn2]; split <;> omega
            rw [hn2] at f1 f2
            have HV2 := Lib.hid (f1.symm.trans HV.out)
            have HE2 := Lib.hid (show a' + 1 + (digF (s.drop (a' + 1)) n2).2 = E by have := HE.out; omega)
            have hb0 : 0 ≤ n2 ∧ n2 ≤ 1099511627776 := by omega
            have HB2 := Lib.hid hb0
            clear f1 f2 hb0 hv
            go_wp2
            go_roundw
            case rel => exact ⟨a' + 1, n2, by go_num, by simp_all, by omega, HB2.out.1, HB2.out.2, HV2, HE2, HB⟩
            case measure => simp [intOf]; omega
          · have HS := Lib.hid (digF_stop s a' n hlt' (by rw [hv]; exact hd))
            have HVn := Lib.hid (show n = V by have := HV.out; rw [HS.out] at this; exact this)
            have HEn := Lib.hid (show a' = E by have := HE.out; rw [HS.out] at this; simpa using this)
            clear hv
            by_cases h48 : 48 ≤ v
            · have t3 : decide ((48 : Int) ≤ (v : Int)) = true := decide_eq_true (by omega)
              have t4 : decide ((v : Int) ≤ 57) = false := decide_eq_false (by omega)
              go_wp2
              go_ret2
              exact ⟨by rw [← HVn.out, ← HEn.out]; simp, HB.out⟩
            · have t3 : decide ((48 : Int) ≤ (v : Int)) = false := decide_eq_false (by omega)
              go_wp2
              go_ret2
              exact ⟨by rw [← HVn.out, ← HEn.out]; simp, HB.out⟩
        · have t2 : decide ((a' : Int) < (s.length : Int)) = false := decide_eq_false (by omega)
          have HS := Lib.hid (digF_end s a' n (by omega))
          have HVn := Lib.hid (show n = V by have := HV.out; rw [HS.out] at this; exact this)
          have HEn := Lib.hid (show a' = E by have := HE.out; rw [HS.out] at this; simpa using this)
          go_wp2
          go_ret2
          exact ⟨by rw [← HVn.out, ← HEn.out]; simp, HB.out⟩
end Go.Proofs.YtmhiiomejopaoaaGreatDoor
