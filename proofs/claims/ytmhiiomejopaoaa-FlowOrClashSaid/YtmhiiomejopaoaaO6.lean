/- The flow walks: Clash. -/
import Derived.Test.YtmhiiomejopaoaaO5
import Derived.Test.YtmhiiomejopaoaaK9
namespace Go.Proofs.Ytmhiiomejopaoaa
set_option linter.all false
open Go.RowKit

def findB (l : List Lk) (N m a : Nat) : Option (List Int) := match findA l m (N - a) a with | some p => some p | none => findM l N (N - m) (m + 1)
theorem findB_start {l : List Lk} {N m : Nat} (h : m ≤ N) (h1 : 1 ≤ m) : findM l N (N + 1 - m) m = findB l N m 0 := by
  obtain ⟨r, hr⟩ : ∃ r, N + 1 - m = r + 1 := ⟨N - m, by omega⟩
  rw [hr]
  unfold findB
  rw [Nat.sub_zero, show N - m = r by omega]
  rfl
theorem findB_step {l : List Lk} {N m a : Nat} (h : a < N) : findB l N m a = match closedP l a m with | some p => some p | none => findB l N m (a + 1) := by
  obtain ⟨r, hr⟩ : ∃ r, N - a = r + 1 := ⟨N - a - 1, by omega⟩
  unfold findB
  rw [hr, show N - (a + 1) = r by omega]
  show (match (match closedP l a m with | some p => some p | none => findA l m r (a + 1)) with | some p => some p | none => _) = _
  cases closedP l a m <;> rfl
theorem findB_end {l : List Lk} {N m : Nat} : findB l N m N = findM l N (N + 1 - (m + 1)) (m + 1) := by
  unfold findB
  rw [Nat.sub_self, show N + 1 - (m + 1) = N - m by omega]
  rfl
set_option maxRecDepth 100000 in
set_option maxHeartbeats 2000000 in
theorem Clash_go (N : Nat) (A : Option Addr) (c : Nat) (l : List Lk) (w : World) (hok : NetOk N l) (hck : checkL N l = 0) (hno : (solutionL N l).2 = false) (h : LksAt w A l) (P : List Int) (hP : findM l N N 1 = some P) :
    Calls Try.prog 59 #[.agg #[.int .i64 (N : Int), .slice A l.length c]] w fun e w' => ∃ v, e = .returned (.tuple #[v, .int .i64 0]) ∧ IntsV w' v P ∧ Below w.heap.size w w' := by
  have hn := hok.n2
  have hl1 := hok.l1
  have HK := Lib.hid (check_any N A c l _ (by omega) (h.alloc (.cells #[.int .i64 (N : Int), .slice A l.length c] 24)))
  rw [hck] at HK
  have hr : ∀ k ∈ l, InR N k := fun k hk => (hok.lk k hk).1
  have HS := Lib.hid (show ∀ W, Below w.heap.size w W → Calls Try.prog 81 #[.int .i64 (N : Int), .slice A l.length c] W fun e w' => e = .returned (.tuple #[.slice none 0 0, .bool false]) ∧ Below W.heap.size W w' from fun W hW => solution_no N A c l W (by omega) (by omega) (h.below hW) hr hno)
  have HCL := Lib.hid (fun (a m : Nat) (hm : m ≤ 1000) (h1 : 1 ≤ m) W (hW : Below w.heap.size w W) => closed_any N A c l a m W hm h1 (by omega) (h.below hW) (fun x hx => (hok.lk x hx).2.2))
  have HN := Lib.hid (show N ≤ 50 by omega)
  have HPP := Lib.hid (show findM l N (N + 1 - 1) 1 = some P from hP)
  clear h hok hck hno hr hP hl1
  go_enter Try.func59, Try.ntmps59
  go_wp2_with (first | (go_at_call 53; refine HK.out.mono ?_; rintro e w1 ⟨rfl, hb⟩; have HB1 := Lib.hid (below_trans (bel : Below w.heap.size w (w.alloc _)) hb); have HX1 := Lib.hid (lnew hb); obtain ⟨c0, c1, lc⟩ := two HX1.out; clear hb) | (go_at_call 81; refine (HS.out _ HB1.out).mono ?_; rintro e w2 ⟨rfl, hb⟩; have HB2 := Lib.hid (below_trans HB1.out hb); have HX2 := Lib.hid (lift0 hb HX1.out); clear hb))
  clear c0 c1 lc HB1 HX1
  go_loopw [7] (fun s wr => ∃ m : Nat, 1 ≤ m ∧ m ≤ N + 1 ∧ s = .int .i64 (m : Int) ∧ Hid (findM l N (N + 1 - m) m = some P) ∧ Hid (wr.heap[w.heap.size]? = some (.cells #[.int .i64 (N : Int), .slice A l.length c] 24 (0, 0))) ∧ Hid (Below w.heap.size w wr)) (fun s _ => (100 - (intOf s)).toNat)
  case atStart => exact ⟨1, by omega, by omega, rfl, HPP, HX2, HB2⟩
  case round =>
    obtain ⟨m, hm1, hm2, rfl, HF, HX, HB⟩ := hrel
    obtain ⟨c0, c1, lc⟩ := two HX.out
    by_cases hmN : m ≤ N
    · have t1 : decide ((m : Int) ≤ (N : Int)) = true := decide_eq_true (by omega)
      have HF2 := Lib.hid (show findB l N m 0 = some P by rw [← findB_start hmN hm1]; exact HF.out)
      go_wp2
      clear c0 c1 lc
      go_loopw [32] (fun s wx => ∃ a : Nat, a ≤ N ∧ s = .int .i64 (a : Int) ∧ Hid (findB l N m a = some P) ∧ Hid (wx.heap[w.heap.size]? = some (.cells #[.int .i64 (N : Int), .slice A l.length c] 24 (0, 0))) ∧ Hid (Below w.heap.size w wx)) (fun s _ => (100 - (intOf s)).toNat)
      case atStart => exact ⟨0, by omega, rfl, HF2, HX, HB⟩
      case round =>
        obtain ⟨a, ha, rfl, HG, HX5, HB5⟩ := hrel
        obtain ⟨c0, c1, lc⟩ := two HX5.out
        by_cases haN : a < N
        · have t2 : decide ((a : Int) < (N : Int)) = true := decide_eq_true (by omega)
          have hst := findB_step (l := l) (m := m) haN
          rw [HG.out] at hst
          have HC := Lib.hid (HCL.out a m (by omega) hm1 wr HB5.out)
          cases hcl : closedP l (a : Int) m with
          | none =>
            rw [hcl] at HC hst
            have HST := Lib.hid (show findB l N m (a + 1) = some P from hst.symm)
            unfold ClosedOk at HC
            simp only at HC
            clear hst hcl
            go_wp2_with (first | (go_at_call 93; refine HC.out.mono ?_; rintro e w6 ⟨rfl, hb⟩; have HB6 := Lib.hid (below_trans HB5.out hb); have HX6 := Lib.hid (lift0 hb HX5.out); clear hb))
            go_roundw
            case rel => exact ⟨a + 1, by omega, by go_num, HST, HX6, HB6⟩
            case measure => simp [intOf]; omega
          | some p =>
            rw [hcl] at HC hst
            obtain rfl : P = p := Option.some.inj hst
            unfold ClosedOk at HC
            simp only at HC
            clear hst hcl
            go_wp2_with (first | (go_at_call 93; refine HC.out.mono ?_; rintro e w6 ⟨⟨g, rfl, hg1, hg2, hg3⟩, hb⟩; have HB6 := Lib.hid (below_trans HB5.out hb); have HI6 := Lib.hid (And.intro hg2 hg3); clear hb hg1 hg2 hg3))
            go_ret2
            exact ⟨_, rfl, ⟨some ⟨g, 0, none⟩, m, by rw [HI6.out.1]; rfl, HI6.out.2.ints, fun h => by cases h⟩, HB6.out⟩
        · obtain rfl : a = N := by omega
          have t2 : decide ((a : Int) < (a : Int)) = false := decide_eq_false (by omega)
          have HE := Lib.hid (show findM l a (a + 1 - (m + 1)) (m + 1) = some P by rw [← findB_end]; exact HG.out)
          go_wp2
          go_roundw
          case rel => exact ⟨m + 1, by omega, by omega, by go_num, HE, HX5, HB5⟩
          case measure => simp [intOf]; omega
    · exfalso
      have h := HF.out
      rw [show N + 1 - m = 0 by omega] at h
      cases h
end Go.Proofs.Ytmhiiomejopaoaa
