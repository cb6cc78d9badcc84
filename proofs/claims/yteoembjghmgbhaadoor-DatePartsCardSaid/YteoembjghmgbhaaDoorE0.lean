/- The date walks: Alike; a row of whole numbers that is appended to. -/
import Derived.Test.YteoembjghmgbhaaDoorC8
namespace Go.Proofs.YteoembjghmgbhaaDoor
set_option linter.all false
open Go.RowKit

theorem one1 (k : IntKind) (x : Int) : ∀ u ∈ [Value.int k x], u.oneCell' = true := by intro u hu; simp at hu; subst hu; rfl
theorem ints_app (l : List Int) (x : Int) : ints (l ++ [x]) = ints l ++ [.int .i64 x] := by unfold ints; simp
/-- The months of j years on from year number a (0: 1850), those that there are. -/
def alikeN (r a : Int) : Nat → List Int
  | 0 => []
  | j + 1 => alikeN r a j ++ (if 12 * (a + j) + r ≤ 1971 then [12 * (a + j) + r] else [])
theorem alikeN_len (r a : Int) : ∀ j, (alikeN r a j).length ≤ j
  | 0 => by simp [alikeN]
  | j + 1 => by
    have := alikeN_len r a j
    unfold alikeN
    rw [List.length_append]
    split <;> simp <;> omega
def alikeG (month : Int) (y : Sp) : Bool := monthB month && (decide (1850 ≤ y.lo) && (decide (y.lo ≤ y.hi) && decide (y.hi ≤ 2014)))
def alikeL (month : Int) (y : Sp) : List Int := if alikeG month y then alikeN (month % 12) (y.lo - 1850) (y.hi - y.lo + 1).toNat else []
set_option maxRecDepth 100000 in
set_option maxHeartbeats 1000000 in
theorem Alike_bad (month : Int) (y : Sp) (w : World) (hg : alikeG month y = false) :
    Calls Tryd.prog 37 #[.int .i64 month, spv y] w fun e w' => e = .returned (.tuple #[.slice none 0 0, .int .i64 1]) ∧ Below w.heap.size w w' := by
  obtain ⟨lo, hi⟩ := y
  unfold spv
  simp only
  unfold alikeG at hg
  simp only at hg
  have HG := Lib.hid hg
  clear hg
  cases h1 : monthB month
  · go_enter Tryd.func37, Tryd.ntmps37
    go_wp2_with (go_at_call 69; refine (isMonth_any _ _).mono ?_; rw [h1]; rintro e w1 ⟨rfl, rfl⟩)
    go_ret2
    exact ⟨rfl, bel⟩
  · by_cases h2 : lo < 1850
    · have t2 : decide (lo < 1850) = true := decide_eq_true h2
      go_enter Tryd.func37, Tryd.ntmps37
      go_wp2_with (go_at_call 69; refine (isMonth_any _ _).mono ?_; rw [h1]; rintro e w1 ⟨rfl, rfl⟩)
      go_ret2
      exact ⟨rfl, bel⟩
    · have t2 : decide (lo < 1850) = false := decide_eq_false h2
      by_cases h3 : hi < lo
      · have t3 : decide (hi < lo) = true := decide_eq_true h3
        go_enter Tryd.func37, Tryd.ntmps37
        go_wp2_with (go_at_call 69; refine (isMonth_any _ _).mono ?_; rw [h1]; rintro e w1 ⟨rfl, rfl⟩)
        go_ret2
        exact ⟨rfl, bel⟩
      · have t3 : decide (hi < lo) = false := decide_eq_false h3
        have t4 : decide (2014 < hi) = true := by
          have h := HG.out
          rw [h1, decide_eq_true (show 1850 ≤ lo by omega), decide_eq_true (show lo ≤ hi by omega)] at h
          have h5 : decide (hi ≤ 2014) = false := h
          exact decide_eq_true (by have := of_decide_eq_false h5; omega)
        go_enter Tryd.func37, Tryd.ntmps37
        go_wp2_with (go_at_call 69; refine (isMonth_any _ _).mono ?_; rw [h1]; rintro e w1 ⟨rfl, rfl⟩)
        go_ret2
        exact ⟨rfl, bel⟩
set_option maxRecDepth 100000 in
set_option maxHeartbeats 2000000 in
theorem Alike_good (month : Int) (y : Sp) (w : World) (hg : alikeG month y = true) :
    Calls Tryd.prog 37 #[.int .i64 month, spv y] w fun e w' => ∃ v, e = .returned (.tuple #[v, .int .i64 0]) ∧ w'.ownsRow w.heap.size 3 1 v (alikeL month y).length (ints (alikeL month y)) ∧ Below w.heap.size w w' := by
  have HE := Lib.hid (show alikeL month y = alikeN (month % 12) (y.lo - 1850) (y.hi - y.lo + 1).toNat by unfold alikeL; rw [hg]; rfl)
  have hf : (0 ≤ month ∧ month ≤ 1971) ∧ 1850 ≤ y.lo ∧ y.lo ≤ y.hi ∧ y.hi ≤ 2014 := by simpa [alikeG, monthB] using hg
  have h1 : monthB month = true := by simp [monthB, hf.1.1, hf.1.2]
  obtain ⟨lo, hi⟩ := y
  simp only at hf HE
  obtain ⟨⟨m1, m2⟩, y1, y2, y3⟩ := hf
  have dm : month.tmod 12 = month % 12 := Int.tmod_eq_emod_of_nonneg m1
  obtain ⟨r, hr⟩ : ∃ r, month % 12 = r := ⟨_, rfl⟩
  have hrb : 0 ≤ r ∧ r ≤ 11 := by omega
  rw [hr] at dm HE
  obtain ⟨n, hn⟩ : ∃ n : Nat, (hi - lo + 1).toNat = n := ⟨_, rfl⟩
  have hnb : hi = lo + n - 1 ∧ n ≤ 165 := by omega
  rw [hn] at HE
  have HN := Lib.hid hnb.1
  have hn2 := hnb.2
  have HLEN := Lib.hid (fun j => alikeN_len r (lo - 1850) j)
  have HST := Lib.hid (fun j => show alikeN r (lo - 1850) (j + 1) = alikeN r (lo - 1850) j ++ (if 12 * ((lo - 1850) + j) + r ≤ 1971 then [12 * ((lo - 1850) + j) + r] else []) from rfl)
  clear hg hr hn hnb
  unfold spv
  simp only
  go_enter Tryd.func37, Tryd.ntmps37
  go_upto_region 5 with (go_at_call 69; refine (isMonth_any _ _).mono ?_; rw [h1]; rintro e w1 ⟨rfl, rfl⟩)
  obtain ⟨W, hWe⟩ : ∃ W, W = (w.alloc (Obj.cells #[.int .i64 lo, .int .i64 hi] 37)) := ⟨_, rfl⟩
  have HWB := Lib.hid (show Below w.heap.size w W by rw [hWe]; exact bel)
  have HX := Lib.hid (show W.heap[w.heap.size]? = some (.cells #[.int .i64 lo, .int .i64 hi] 37 (0, 0)) by rw [hWe]; exact heap_alloc_new w _)
  rw [← hWe]
  clear hWe
  go_loopw [6, 7] (fun o i wr => ∃ j : Nat, j ≤ n ∧ i = .int .i64 (lo + j) ∧ Hid (wr.ownsRow W.heap.size 3 1 o (alikeN r (lo - 1850) j).length (ints (alikeN r (lo - 1850) j))) ∧ Hid (Below W.heap.size W wr)) (fun _ i _ => (lo + n - intOf i).toNat)
  case atStart => exact ⟨0, by omega, by simp, Lib.hid (World.ownsRow_nil _ _ _ _), Lib.hid (Below.refl _ _)⟩
  case round =>
    obtain ⟨j, hj, rfl, HO, HB⟩ := hrel
    obtain ⟨c0, c1, _, _, lc⟩ := cells2 (lift0 HB.out HX.out)
    have hlen := HLEN.out j
    by_cases hlt : j < n
    · have t5 : decide (lo + (j : Int) ≤ hi) = true := decide_eq_true (by have := HN.out; omega)
      have hS := HST.out j
      have es : 12 * (lo + (j : Int) - 1850) + r = 12 * ((lo - 1850) + (j : Int)) + r := by omega
      by_cases hle : 12 * (lo + (j : Int) - 1850) + r ≤ 1971
      · have HM := Lib.hid (show monthB (12 * (lo + (j : Int) - 1850) + r) = true by simp [monthB, hle]; omega)
        rw [if_pos (by omega)] at hS
        have HS := Lib.hid hS
        rw [← es] at HS
        clear hS es
        generalize alikeN r (lo - 1850) j = acc at *
        obtain ⟨A5, c5, rfl, -⟩ := own_slice HO.out
        have hA := (own_slice HO.out)
        go_wp2_with (first | (go_at_call 69; refine (isMonth_any _ _).mono ?_; rw [HM.out]; rintro e w1 ⟨rfl, rfl⟩) | (at_builtin; refine app_one rfl _ _ 51 3 (.int .i64 0) 1 8 rfl Tryd.underlying51 info3 rfl (by omega) (.slice A5 acc.length c5) acc.length (ints acc) [.int .i64 (12 * (lo + (j : Int) - 1850) + r)] rfl rfl (by simp) rfl (one1 _ _) W.heap.size HO.out HB.out.size (by omega) (by unfold maxLen; omega) ?_; intro v1 w1 ho hg _; have HO1 := Lib.hid ho; have HB1 := Lib.hid (below_own HB.out hg HB.out.size (fun b hb => by obtain ⟨A6, c6, e6, _, _, h6⟩ := hA; cases A5 with | none => cases hb | some ad => cases e6; have h7 := h6 ad rfl; rw [hb] at h7; have h8 := Option.some.inj h7.1; omega)); clear ho hg))
        go_roundw
        case rel => exact ⟨j + 1, by omega, by go_num, Lib.hid (by rw [HS.out, ints_app, List.length_append]; exact HO1.out), HB1⟩
        case measure => simp [intOf]; omega
      · have HM := Lib.hid (show monthB (12 * (lo + (j : Int) - 1850) + r) = false by simp [monthB]; omega)
        rw [if_neg (by omega), List.append_nil] at hS
        have HS := Lib.hid hS
        clear hS es
        generalize alikeN r (lo - 1850) j = acc at *
        go_wp2_with (first | (go_at_call 69; refine (isMonth_any _ _).mono ?_; rw [HM.out]; rintro e w1 ⟨rfl, rfl⟩))
        go_roundw
        case rel => exact ⟨j + 1, by omega, by go_num, Lib.hid (by rw [HS.out]; exact HO.out), HB⟩
        case measure => simp [intOf]; omega
    · obtain rfl : j = n := by omega
      have t5 : decide (lo + (j : Int) ≤ hi) = false := decide_eq_false (by have := HN.out; omega)
      go_wp2
      go_ret2
      exact ⟨_, rfl, by rw [HE.out]; exact own_base HO.out HWB.out.size, HWB.out.trans (HB.out.mono HWB.out.size)⟩
end Go.Proofs.YteoembjghmgbhaaDoor
