/- The reference's Alike: the same list. -/
import Derived.Test.YteoembjghmgbhaaDoorE1
import Derived.Test.YteoembjghmgbhaaDoorW8
namespace Go.Proofs.YteoembjghmgbhaaDoor
set_option linter.all false
open Go.RowKit

/-- The months of c years on, with no end. -/
def runL (r a : Int) : Nat → List Int
  | 0 => []
  | c + 1 => runL r a c ++ [12 * (a + c) + r]
theorem runL_len (r a : Int) : ∀ c, (runL r a c).length = c
  | 0 => rfl
  | c + 1 => by unfold runL; rw [List.length_append, runL_len r a c]; rfl
/-- What the reference has found behind i steps. -/
def cntN (r : Nat) (i : Nat) : Nat := (i + 11 - r) / 12
theorem cnt_hit (r i : Nat) (hr : r ≤ 11) (h : i % 12 = r) : cntN r (i + 1) = cntN r i + 1 ∧ 12 * cntN r i + r = i := by
  unfold cntN; omega
theorem cnt_miss (r i : Nat) (hr : r ≤ 11) (h : i % 12 ≠ r) : cntN r (i + 1) = cntN r i := by
  unfold cntN; omega
theorem alikeN_run (r a : Int) : ∀ j, ∃ c, alikeN r a j = runL r a c ∧ c ≤ j ∧ (c = j ∨ 1971 < 12 * (a + c) + r) ∧ (c = 0 ∨ 12 * (a + (c - 1 : Nat)) + r ≤ 1971)
  | 0 => ⟨0, rfl, Nat.le_refl _, .inl rfl, .inl rfl⟩
  | j + 1 => by
    obtain ⟨c, h1, h2, h3, h4⟩ := alikeN_run r a j
    unfold alikeN
    split
    · rename_i hc
      have : c = j := by rcases h3 with h3 | h3 <;> omega
      subst this
      exact ⟨c + 1, by rw [h1]; rfl, Nat.le_refl _, .inl rfl, .inr (by simpa using hc)⟩
    · rename_i hc
      refine ⟨c, by rw [h1, List.append_nil], by omega, .inr ?_, h4⟩
      rcases h3 with h3 | h3
      · rw [h3]; omega
      · exact h3
theorem alike_cnt (r a n : Nat) (hr : r ≤ 11) (ha : a ≤ 164) (hn : a + n ≤ 165) (N : Nat) (hN : N = 12 * n ∧ 12 * a + 12 * n ≤ 1972 ∨ N + 12 * a = 1972 ∧ 1972 < 12 * a + 12 * n) : alikeN r a n = runL r a (cntN r N) := by
  obtain ⟨c, h1, h2, h3, h4⟩ := alikeN_run r a n
  have : c = cntN r N := by
    unfold cntN
    rcases h4 with h4 | h4
    · subst h4
      rcases h3 with h3 | h3 <;> rcases hN with hN | hN <;> omega
    · rcases h3 with h3 | h3 <;> rcases hN with hN | hN <;> omega
  rw [h1, this]
set_option maxRecDepth 100000 in
set_option maxHeartbeats 1000000 in
theorem rAlike_any (month : Int) (y : Sp) (w : World) (hg : alikeG month y = true) :
    Calls Tryd.prog 47 #[.int .i64 month, spv y] w fun e w' => ∃ A c, e = .returned (.slice A (alikeL month y).length c) ∧ IntsAt w' A (alikeL month y) ∧ Below w.heap.size w w' := by
  have hL : alikeL month y = alikeN (month % 12) (y.lo - 1850) (y.hi - y.lo + 1).toNat := by unfold alikeL; rw [hg]; rfl
  have hf : (0 ≤ month ∧ month ≤ 1971) ∧ 1850 ≤ y.lo ∧ y.lo ≤ y.hi ∧ y.hi ≤ 2014 := by simpa [alikeG, monthB] using hg
  obtain ⟨lo, hi⟩ := y
  simp only at hf hL
  obtain ⟨⟨m1, m2⟩, y1, y2, y3⟩ := hf
  have dm : month.tmod 12 = month % 12 := Int.tmod_eq_emod_of_nonneg m1
  obtain ⟨r, hr⟩ : ∃ r : Nat, month % 12 = r := ⟨(month % 12).toNat, by omega⟩
  obtain ⟨a, ha⟩ : ∃ a : Nat, lo - 1850 = a := ⟨(lo - 1850).toNat, by omega⟩
  obtain ⟨n, hn⟩ : ∃ n : Nat, (hi - lo + 1).toNat = n := ⟨_, rfl⟩
  obtain ⟨N, hN⟩ : ∃ N : Nat, N = 12 * n ∧ 12 * a + 12 * n ≤ 1972 ∨ N + 12 * a = 1972 ∧ 1972 < 12 * a + 12 * n := by
    by_cases h : 12 * a + 12 * n ≤ 1972
    · exact ⟨12 * n, .inl ⟨rfl, h⟩⟩
    · exact ⟨1972 - 12 * a, .inr ⟨by omega, by omega⟩⟩
  have hrb : r ≤ 11 := by omega
  rw [hn, hr, ha, alike_cnt r a n hrb (by omega) (by omega) N hN] at hL
  rw [hr] at dm
  have HE := Lib.hid hL
  have hlo : lo = 1850 + a := by omega
  have hhi : hi = 1849 + a + n := by omega
  have hNb : N ≤ 1972 := by omega
  have hab : a ≤ 164 := by omega
  have HNN := Lib.hid hN
  have HHI := Lib.hid hhi
  have hnb : n ≤ 165 := by omega
  have HLEN := Lib.hid (fun c => runL_len r a c)
  subst hlo
  clear hL hN hg hn ha hr y1 y2 hhi
  unfold spv
  simp only
  go_enter Tryd.func47, Tryd.ntmps47
  go_upto_region 3 with fail
  obtain ⟨W, hWe⟩ : ∃ W, W = (w.alloc (Obj.cells #[.int .i64 (1850 + (a : Int)), .int .i64 hi] 37)) := ⟨_, rfl⟩
  have HWB := Lib.hid (show Below w.heap.size w W by rw [hWe]; exact bel)
  have HX := Lib.hid (show W.heap[w.heap.size]? = some (.cells #[.int .i64 (1850 + (a : Int)), .int .i64 hi] 37 (0, 0)) by rw [hWe]; exact heap_alloc_new w _)
  rw [← hWe]
  clear hWe
  go_loopw [5, 6] (fun o i wr => ∃ j : Nat, j ≤ N ∧ i = .int .i64 (12 * (a : Int) + j) ∧ Hid (wr.ownsRow W.heap.size 3 1 o (runL r a (cntN r j)).length (ints (runL r a (cntN r j)))) ∧ Hid (Below W.heap.size W wr)) (fun _ i _ => (12 * (a : Int) + N - intOf i).toNat)
  case atStart => exact ⟨0, by omega, by congr 1; omega, Lib.hid (by rw [show cntN r 0 = 0 by unfold cntN; omega]; exact World.ownsRow_nil _ _ _ _), Lib.hid (Below.refl _ _)⟩
  case round =>
    obtain ⟨j, hj, rfl, HO, HB⟩ := hrel
    obtain ⟨c0, c1, _, _, lc⟩ := cells2 (lift0 HB.out HX.out)
    have dj : (12 * (a : Int) + (j : Int)).tmod 12 = ((j % 12 : Nat) : Int) := by rw [Int.tmod_eq_emod_of_nonneg (by omega)]; omega
    have hq1 := HHI.out
    have hq2 := Lib.hid hq1
    have hq3 : 12 * (a : Int) + 12 * n = 12 * (hi - 1849) := by omega
    clear hq1
    by_cases hlt : j < N
    · have t5 : decide (12 * (a : Int) + (j : Int) < 12 * (hi - 1849)) = true := decide_eq_true (by have := HNN.out; omega)
      have t6 : decide (12 * (a : Int) + (j : Int) ≤ 1971) = true := decide_eq_true (by have := HNN.out; omega)
      have hlen := HLEN.out (cntN r j)
      have hcb : cntN r j ≤ 200 := by unfold cntN; omega
      by_cases hh : j % 12 = r
      · obtain ⟨hc1, hc2⟩ := cnt_hit r j hrb hh
        have tq : (((j % 12 : Nat) : Int) == (r : Int)) = true := by simp [hh]
        have HS := Lib.hid (show runL r a (cntN r (j + 1)) = runL r a (cntN r j) ++ [12 * (a : Int) + j] by rw [hc1]; show runL r a (cntN r j) ++ [12 * ((a : Int) + (cntN r j : Nat)) + r] = _; congr 2; omega)
        clear hh hc1 hc2
        generalize cntN r j = cc at *
        generalize runL r a cc = acc at *
        generalize j % 12 = jm at *
        obtain ⟨A5, c5, rfl, -⟩ := own_slice HO.out
        have hA := (own_slice HO.out)
        go_wp2_with (first | (at_builtin; refine app_one rfl _ _ 51 3 (.int .i64 0) 1 8 rfl Tryd.underlying51 info3 rfl (by omega) (.slice A5 acc.length c5) acc.length (ints acc) [.int .i64 (12 * (a : Int) + j)] rfl rfl (by simp) rfl (one1 _ _) W.heap.size HO.out HB.out.size (by omega) (by unfold maxLen; omega) ?_; intro v1 w1 ho hg _; have HO1 := Lib.hid ho; have HB1 := Lib.hid (below_own HB.out hg HB.out.size (fun b hb => by obtain ⟨A6, c6, e6, _, _, h6⟩ := hA; cases A5 with | none => cases hb | some ad => cases e6; have h7 := h6 ad rfl; rw [hb] at h7; have h8 := Option.some.inj h7.1; omega)); clear ho hg))
        go_roundw
        case rel => exact ⟨j + 1, by omega, by go_num, Lib.hid (by rw [HS.out, ints_app, List.length_append]; exact HO1.out), HB1⟩
        case measure => simp [intOf]; omega
      · have tq : (((j % 12 : Nat) : Int) == (r : Int)) = false := by simp; omega
        have HS := Lib.hid (cnt_miss r j hrb hh)
        clear hh
        generalize j % 12 = jm at *
        go_wp2
        go_roundw
        case rel => exact ⟨j + 1, by omega, by go_num, Lib.hid (by rw [HS.out]; exact HO.out), HB⟩
        case measure => simp [intOf]; omega
    · obtain rfl : j = N := by omega
      have HIA := Lib.hid (HE.out)
      obtain ⟨A5, c5, rfl, -⟩ := own_slice HO.out
      have hi5 := own_ints HO.out
      rw [← HE.out] at hi5
      have HI5 := Lib.hid hi5
      clear hi5
      rcases HNN.out with ⟨h1, h2⟩ | ⟨h1, h2⟩
      · have t5 : decide (12 * (a : Int) + (j : Int) < 12 * (hi - 1849)) = false := decide_eq_false (by omega)
        go_wp2
        go_ret
        exact ⟨A5, c5, by rw [HE.out]; rfl, HI5.out, HWB.out.trans (HB.out.mono HWB.out.size)⟩
      · have t5 : decide (12 * (a : Int) + (j : Int) < 12 * (hi - 1849)) = true := decide_eq_true (by omega)
        have t6 : decide (12 * (a : Int) + (j : Int) ≤ 1971) = false := decide_eq_false (by omega)
        go_wp2
        go_ret
        exact ⟨A5, c5, by rw [HE.out]; rfl, HI5.out, HWB.out.trans (HB.out.mono HWB.out.size)⟩
end Go.Proofs.YteoembjghmgbhaaDoor
