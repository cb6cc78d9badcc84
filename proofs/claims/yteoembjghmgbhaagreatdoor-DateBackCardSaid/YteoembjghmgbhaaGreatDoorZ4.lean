/- The date walks: the reference's Parse. -/
import Derived.Test.YteoembjghmgbhaaGreatDoorZ3
namespace Go.Proofs.YteoembjghmgbhaaGreatDoor
set_option linter.all false
open Go.RowKit

def foldI (l : List UInt8) : Int := l.foldl (fun a x => 10 * a + (x.toNat : Int) - 48) 0
theorem foldI_succ (l : List UInt8) (k : Nat) (h : k < l.length) : foldI (l.take (k + 1)) = 10 * foldI (l.take k) + (l[k].toNat : Int) - 48 := by
  unfold foldI
  rw [List.take_succ_eq_append_getElem h, List.foldl_append]
  rfl
theorem foldI_bd (l : List UInt8) : ∀ k, k ≤ l.length → -100 * 10 ^ k + 6 ≤ foldI (l.take k) ∧ foldI (l.take k) ≤ 300 * 10 ^ k - 24
  | 0, _ => by simp [foldI]
  | k + 1, h => by
    obtain ⟨h1, h2⟩ := foldI_bd l k (by omega)
    rw [foldI_succ l k (by omega)]
    have hp : (0 : Int) < 10 ^ k := Int.pow_pos (by omega)
    have hx := (l[k]).toNat_lt
    have e : (10 : Int) ^ (k + 1) = 10 ^ k * 10 := Int.pow_succ _ _
    rw [e]
    omega
theorem pow10_le {j : Nat} (h : j < 4) : (0 : Int) < 10 ^ j ∧ (10 : Int) ^ j ≤ 1000 := by
  rcases (show j = 0 ∨ j = 1 ∨ j = 2 ∨ j = 3 by omega) with rfl | rfl | rfl | rfl <;> decide
theorem fold_step (l : List UInt8) (j : Nat) (h : j < l.length) (h4 : j < 4) (b : Int) (hb : b = (l[j].toNat : Int)) : wrap64 (wrap64 (wrap64 (10 * foldI (l.take j)) + wrap64 b) - 48) = foldI (l.take (j + 1)) := by
  obtain ⟨h1, h2⟩ := foldI_bd l j (by omega)
  obtain ⟨h5, h6⟩ := pow10_le h4
  have h7 := (l[j]).toNat_lt
  rw [foldI_succ l j h]
  rw [wrap_in (x := 10 * foldI (l.take j)) (by omega), wrap_in (x := b) (by omega), wrap_in (x := 10 * foldI (l.take j) + b) (by omega), wrap_in (x := 10 * foldI (l.take j) + b - 48) (by omega), hb]
theorem parse_out (L : List UInt8) (w : World) (h1 : L.length ≠ 10) (h2 : L.length ≠ 11) :
    Calls Tryz.prog 8 #[.string ⟨L.toArray⟩] w fun e w' => e = .returned (.tuple #[dtv ⟨0, 0, 0⟩, .bool false]) ∧ Below w.heap.size w w' := by
  have t1 : ((L.length : Int) != 10) = true := by rw [bne_iff_ne]; omega
  have t2 : ((L.length : Int) != 11) = true := by rw [bne_iff_ne]; omega
  go_enter Tryz.func8, Tryz.ntmps8
  go_wp2
  refine bodyPost_ret (v := .tuple #[.agg #[.int .i64 0, .int .i64 0, .int .i64 0], .bool false]) ?_ rfl ?_
  · simp [results, Tryz.results8, go_sem]
  · exact ⟨rfl, bel⟩
set_option maxRecDepth 100000 in
set_option maxHeartbeats 2000000 in
theorem parse_10 (L : List UInt8) (w : World) (hn : L.length = 10) :
    Calls Tryz.prog 8 #[.string ⟨L.toArray⟩] w fun e w' => ((∃ d, okD d = true ∧ printL d = L ∧ e = .returned (.tuple #[dtv d, .bool true])) ∨ (e = .returned (.tuple #[dtv ⟨0, 0, 0⟩, .bool false]) ∧ ∀ m, 1 ≤ m → m ≤ 12 → ¬ (okD ⟨foldI (L.drop 6), m, foldI (L.take 1)⟩ = true ∧ printL ⟨foldI (L.drop 6), m, foldI (L.take 1)⟩ = L))) ∧ Below w.heap.size w w' := by
  obtain ⟨Y, hY⟩ : ∃ Y, foldI (L.drop 6) = Y := ⟨_, rfl⟩
  obtain ⟨D, hD⟩ : ∃ D, foldI (L.take 1) = D := ⟨_, rfl⟩
  have HY := Lib.hid hY
  have HD := Lib.hid hD
  rw [hY, hD]
  clear hY hD
  go_enter Tryz.func8, Tryz.ntmps8
  go_wp2
  go_loopw [5] (fun m wr => ∃ k : Nat, k ≤ 12 ∧ m = .int .i64 ((k : Int) + 1) ∧ Hid (∀ m : Int, 1 ≤ m → m ≤ k → ¬ (okD ⟨Y, m, D⟩ = true ∧ printL ⟨Y, m, D⟩ = L)) ∧ Hid (wr.heap[w.heap.size]? = some (.cells #[.int .i64 0, .int .i64 0, .int .i64 0] 23 (0, 0))) ∧ Hid (Below w.heap.size w wr)) (fun m _ => (20 - (intOf m)).toNat)
  case atStart => exact ⟨0, by omega, rfl, Lib.hid (fun m h1 h2 => by omega), Lib.hid (heap_alloc_new w _), Lib.hid bel⟩
  case round =>
    obtain ⟨k, hk, rfl, HN, HX, hB⟩ := hrel
    by_cases h12 : k < 12
    · have t3 : decide ((k : Int) + 1 ≤ 12) = true := decide_eq_true (by omega)
      go_wp2
      go_loopw [6, 7] (fun y i wx => ∃ j : Nat, j ≤ 4 ∧ y = .int .i64 (foldI ((L.drop 6).take j)) ∧ i = .int .i64 (6 + (j : Int)) ∧ wr = wx) (fun y i _ => (20 - (intOf i)).toNat)
      case atStart => exact ⟨0, by omega, rfl, rfl, rfl⟩
      case round =>
        obtain ⟨j, hj, rfl, rfl, rfl⟩ := hrel
        by_cases hj4 : j < 4
        · have t4 : decide (6 + (j : Int) < 10) = true := decide_eq_true (by omega)
          go_wp2
          go_roundw
          case rel =>
            refine ⟨j + 1, by omega, ?_, by congr 1, trivial⟩
            rw [fold_step (L.drop 6) j (by simp; omega) hj4 _ (by simp; rfl)]
          case measure => simp [intOf]; omega
        · obtain rfl : j = 4 := by omega
          have hye : foldI ((L.drop 6).take 4) = Y := by rw [← HY.out, List.take_of_length_le (by simp; omega)]
          rw [hye, show (6 : Int) + ((4 : Nat) : Int) = 10 from rfl]
          clear hye hj hj4
          go_wp2
          go_loopw [8, 9] (fun y i wx => ∃ j : Nat, j ≤ 1 ∧ y = .int .i64 (foldI (L.take j)) ∧ i = .int .i64 (j : Int) ∧ wr = wx) (fun y i _ => (20 - (intOf i)).toNat)
          case atStart => exact ⟨0, by omega, rfl, rfl, rfl⟩
          case round =>
            obtain ⟨j, hj, rfl, rfl, rfl⟩ := hrel
            by_cases hj1 : j < 1
            · have t4 : decide ((j : Int) < 1) = true := decide_eq_true (by omega)
              go_wp2
              go_roundw
              case rel =>
                refine ⟨j + 1, by omega, ?_, by congr 1, trivial⟩
                exact congrArg (Value.int IntKind.i64) (fold_step L j (by omega) (by omega) _ rfl)
              case measure => simp [intOf]; omega
            · obtain rfl : j = 1 := by omega
              rw [HD.out]
              clear hj hj1
              obtain ⟨M, hM⟩ : ∃ M : Int, (k : Int) + 1 = M := ⟨_, rfl⟩
              rw [hM]
              have HM := Lib.hid hM
              have hM1 : 1 ≤ M := by omega
              have hM2 : M ≤ 12 := by omega
              have HNM := Lib.hid (fun W => rNumber_any ⟨Y, M, D⟩ W)
              clear hM
              have hstep : ¬ (okD ⟨Y, M, D⟩ = true ∧ printL ⟨Y, M, D⟩ = L) → ∀ m : Int, 1 ≤ m → m ≤ ((k + 1 : Nat) : Int) → ¬ (okD ⟨Y, m, D⟩ = true ∧ printL ⟨Y, m, D⟩ = L) := fun h m h1 h2 => by
                by_cases e : m = M
                · subst e; exact h
                · exact HN.out m h1 (by have := HM.out; omega)
              have HST := Lib.hid hstep
              clear hstep
              rcases okD_num ⟨Y, M, D⟩ with ⟨ho, h1, h2⟩ | ⟨ho, h1⟩
              · obtain ⟨nn, hnn⟩ : ∃ nn, numI ⟨Y, M, D⟩ = nn := ⟨_, rfl⟩
                rw [hnn] at HNM h2
                have t5 : decide (0 ≤ nn) = true := decide_eq_true h2
                have HPR := Lib.hid (fun W => rPrint_good ⟨Y, M, D⟩ W ho)
                by_cases heq : printL ⟨Y, M, D⟩ = L
                · rw [heq] at HPR
                  have HQ := Lib.hid (And.intro ho heq)
                  unfold dtv at HNM HPR
                  simp only at HNM HPR
                  clear ho h1 hnn heq
                  go_wp2_with (first | (go_at_call 9; refine (HNM.out _).mono ?_; rintro e w1 ⟨rfl, hb⟩; have HX1 := Lib.hid (lift1 hb HX.out); have HD1 := Lib.hid (lnew hb); have HB1 := Lib.hid (below_trans (hB.out.alloc hB.out.size _) hb); obtain ⟨c0, c1, c2, f0, f1, f2, lc⟩ := cells3 HD1.out; clear hb) | (go_at_call 10; refine (HPR.out _).mono ?_; rintro e w2 ⟨rfl, hb⟩; have HX2 := Lib.hid (lift0 hb HX1.out); have HD2 := Lib.hid (lift0 hb HD1.out); have HB2 := Lib.hid (below_trans HB1.out hb); obtain ⟨d0, d1, d2, g0, g1, g2, ld⟩ := cells3 HD2.out; obtain ⟨x0, x1, x2, y0, y1, y2, lx⟩ := cells3 HX2.out; clear hb))
                  have HX3 := Lib.hid (set3 (x := .int .i64 Y) (y := .int .i64 M) (z := .int .i64 D) HX2.out)
                  obtain ⟨v0, v1, v2, _, _, _, _⟩ := cells3 HX3.out
                  refine bodyPost_ret (v := .tuple #[.agg #[.int .i64 Y, .int .i64 M, .int .i64 D], .bool true]) ?_ rfl ?_
                  · simp [results, Tryz.results8, go_sem, *]
                  · exact ⟨.inl ⟨⟨Y, M, D⟩, HQ.out.1, HQ.out.2, rfl⟩, ((HB2.out.setCell (Nat.le_refl _) _).setCell (Nat.le_refl _) _).setCell (Nat.le_refl _) _⟩
                · have HNE := Lib.hid (HST.out (fun h => heq h.2))
                  have hpe : (printL ⟨Y, M, D⟩ == L) = false := by rw [beq_eq_false_iff_ne]; exact heq
                  generalize printL ⟨Y, M, D⟩ = P at *
                  unfold dtv at HNM HPR
                  simp only at HNM HPR
                  clear ho h1 hnn
                  go_wp2_with (first | (go_at_call 9; refine (HNM.out _).mono ?_; rintro e w1 ⟨rfl, hb⟩; have HX1 := Lib.hid (lift1 hb HX.out); have HD1 := Lib.hid (lnew hb); have HB1 := Lib.hid (below_trans (hB.out.alloc hB.out.size _) hb); obtain ⟨c0, c1, c2, f0, f1, f2, lc⟩ := cells3 HD1.out; clear hb) | (go_at_call 10; refine (HPR.out _).mono ?_; rintro e w2 ⟨rfl, hb⟩; have HX2 := Lib.hid (lift0 hb HX1.out); have HD2 := Lib.hid (lift0 hb HD1.out); have HB2 := Lib.hid (below_trans HB1.out hb); clear hb))
                  go_roundw
                  case rel => exact ⟨k + 1, by omega, by have := HM.out; congr 1; omega, HNE, HX2, HB2⟩
                  case measure => have := HM.out; simp [intOf]; omega
              · rw [h1] at HNM
                have HNE := Lib.hid (HST.out (fun h => by rw [ho] at h; cases h.1))
                unfold dtv at HNM
                simp only at HNM
                clear ho h1
                go_wp2_with (first | (go_at_call 9; refine (HNM.out _).mono ?_; rintro e w1 ⟨rfl, hb⟩; have HX1 := Lib.hid (lift1 hb HX.out); have HB1 := Lib.hid (below_trans (hB.out.alloc hB.out.size _) hb); clear hb))
                go_roundw
                case rel => exact ⟨k + 1, by omega, by have := HM.out; congr 1; omega, HNE, HX1, HB1⟩
                case measure => have := HM.out; simp [intOf]; omega
    · have HNA := Lib.hid (show ∀ m : Int, 1 ≤ m → m ≤ 12 → ¬ (okD ⟨Y, m, D⟩ = true ∧ printL ⟨Y, m, D⟩ = L) from fun m h1 h2 => HN.out m h1 (by omega))
      have t3 : decide ((k : Int) + 1 ≤ 12) = false := decide_eq_false (by omega)
      obtain ⟨x0, x1, x2, y0, y1, y2, lx⟩ := cells3 HX.out
      go_wp2
      have HX3 := Lib.hid (set3 (x := .int .i64 0) (y := .int .i64 0) (z := .int .i64 0) HX.out)
      obtain ⟨v0, v1, v2, _, _, _, _⟩ := cells3 HX3.out
      refine bodyPost_ret (v := .tuple #[.agg #[.int .i64 0, .int .i64 0, .int .i64 0], .bool false]) ?_ rfl ?_
      · simp [results, Tryz.results8, go_sem, *]
      · exact ⟨.inr ⟨rfl, HNA.out⟩, ((hB.out.setCell (Nat.le_refl _) _).setCell (Nat.le_refl _) _).setCell (Nat.le_refl _) _⟩
set_option maxRecDepth 100000 in
set_option maxHeartbeats 2000000 in
theorem parse_11 (L : List UInt8) (w : World) (hn : L.length = 11) :
    Calls Tryz.prog 8 #[.string ⟨L.toArray⟩] w fun e w' => ((∃ d, okD d = true ∧ printL d = L ∧ e = .returned (.tuple #[dtv d, .bool true])) ∨ (e = .returned (.tuple #[dtv ⟨0, 0, 0⟩, .bool false]) ∧ ∀ m, 1 ≤ m → m ≤ 12 → ¬ (okD ⟨foldI (L.drop 7), m, foldI (L.take 2)⟩ = true ∧ printL ⟨foldI (L.drop 7), m, foldI (L.take 2)⟩ = L))) ∧ Below w.heap.size w w' := by
  obtain ⟨Y, hY⟩ : ∃ Y, foldI (L.drop 7) = Y := ⟨_, rfl⟩
  obtain ⟨D, hD⟩ : ∃ D, foldI (L.take 2) = D := ⟨_, rfl⟩
  have HY := Lib.hid hY
  have HD := Lib.hid hD
  rw [hY, hD]
  clear hY hD
  go_enter Tryz.func8, Tryz.ntmps8
  go_wp2
  go_loopw [5] (fun m wr => ∃ k : Nat, k ≤ 12 ∧ m = .int .i64 ((k : Int) + 1) ∧ Hid (∀ m : Int, 1 ≤ m → m ≤ k → ¬ (okD ⟨Y, m, D⟩ = true ∧ printL ⟨Y, m, D⟩ = L)) ∧ Hid (wr.heap[w.heap.size]? = some (.cells #[.int .i64 0, .int .i64 0, .int .i64 0] 23 (0, 0))) ∧ Hid (Below w.heap.size w wr)) (fun m _ => (20 - (intOf m)).toNat)
  case atStart => exact ⟨0, by omega, rfl, Lib.hid (fun m h1 h2 => by omega), Lib.hid (heap_alloc_new w _), Lib.hid bel⟩
  case round =>
    obtain ⟨k, hk, rfl, HN, HX, hB⟩ := hrel
    by_cases h12 : k < 12
    · have t3 : decide ((k : Int) + 1 ≤ 12) = true := decide_eq_true (by omega)
      go_wp2
      go_loopw [6, 7] (fun y i wx => ∃ j : Nat, j ≤ 4 ∧ y = .int .i64 (foldI ((L.drop 7).take j)) ∧ i = .int .i64 (7 + (j : Int)) ∧ wr = wx) (fun y i _ => (20 - (intOf i)).toNat)
      case atStart => exact ⟨0, by omega, rfl, rfl, rfl⟩
      case round =>
        obtain ⟨j, hj, rfl, rfl, rfl⟩ := hrel
        by_cases hj4 : j < 4
        · have t4 : decide (7 + (j : Int) < 11) = true := decide_eq_true (by omega)
          go_wp2
          go_roundw
          case rel =>
            refine ⟨j + 1, by omega, ?_, by congr 1, trivial⟩
            rw [fold_step (L.drop 7) j (by simp; omega) hj4 _ (by simp; rfl)]
          case measure => simp [intOf]; omega
        · obtain rfl : j = 4 := by omega
          have hye : foldI ((L.drop 7).take 4) = Y := by rw [← HY.out, List.take_of_length_le (by simp; omega)]
          rw [hye, show (7 : Int) + ((4 : Nat) : Int) = 11 from rfl]
          clear hye hj hj4
          go_wp2
          go_loopw [8, 9] (fun y i wx => ∃ j : Nat, j ≤ 2 ∧ y = .int .i64 (foldI (L.take j)) ∧ i = .int .i64 (j : Int) ∧ wr = wx) (fun y i _ => (20 - (intOf i)).toNat)
          case atStart => exact ⟨0, by omega, rfl, rfl, rfl⟩
          case round =>
            obtain ⟨j, hj, rfl, rfl, rfl⟩ := hrel
            by_cases hj1 : j < 2
            · have t4 : decide ((j : Int) < 2) = true := decide_eq_true (by omega)
              go_wp2
              go_roundw
              case rel =>
                refine ⟨j + 1, by omega, ?_, by congr 1, trivial⟩
                exact congrArg (Value.int IntKind.i64) (fold_step L j (by omega) (by omega) _ rfl)
              case measure => simp [intOf]; omega
            · obtain rfl : j = 2 := by omega
              rw [HD.out]
              clear hj hj1
              obtain ⟨M, hM⟩ : ∃ M : Int, (k : Int) + 1 = M := ⟨_, rfl⟩
              rw [hM]
              have HM := Lib.hid hM
              have hM1 : 1 ≤ M := by omega
              have hM2 : M ≤ 12 := by omega
              have HNM := Lib.hid (fun W => rNumber_any ⟨Y, M, D⟩ W)
              clear hM
              have hstep : ¬ (okD ⟨Y, M, D⟩ = true ∧ printL ⟨Y, M, D⟩ = L) → ∀ m : Int, 1 ≤ m → m ≤ ((k + 1 : Nat) : Int) → ¬ (okD ⟨Y, m, D⟩ = true ∧ printL ⟨Y, m, D⟩ = L) := fun h m h1 h2 => by
                by_cases e : m = M
                · subst e; exact h
                · exact HN.out m h1 (by have := HM.out; omega)
              have HST := Lib.hid hstep
              clear hstep
              rcases okD_num ⟨Y, M, D⟩ with ⟨ho, h1, h2⟩ | ⟨ho, h1⟩
              · obtain ⟨nn, hnn⟩ : ∃ nn, numI ⟨Y, M, D⟩ = nn := ⟨_, rfl⟩
                rw [hnn] at HNM h2
                have t5 : decide (0 ≤ nn) = true := decide_eq_true h2
                have HPR := Lib.hid (fun W => rPrint_good ⟨Y, M, D⟩ W ho)
                by_cases heq : printL ⟨Y, M, D⟩ = L
                · rw [heq] at HPR
                  have HQ := Lib.hid (And.intro ho heq)
                  unfold dtv at HNM HPR
                  simp only at HNM HPR
                  clear ho h1 hnn heq
                  go_wp2_with (first | (go_at_call 9; refine (HNM.out _).mono ?_; rintro e w1 ⟨rfl, hb⟩; have HX1 := Lib.hid (lift1 hb HX.out); have HD1 := Lib.hid (lnew hb); have HB1 := Lib.hid (below_trans (hB.out.alloc hB.out.size _) hb); obtain ⟨c0, c1, c2, f0, f1, f2, lc⟩ := cells3 HD1.out; clear hb) | (go_at_call 10; refine (HPR.out _).mono ?_; rintro e w2 ⟨rfl, hb⟩; have HX2 := Lib.hid (lift0 hb HX1.out); have HD2 := Lib.hid (lift0 hb HD1.out); have HB2 := Lib.hid (below_trans HB1.out hb); obtain ⟨d0, d1, d2, g0, g1, g2, ld⟩ := cells3 HD2.out; obtain ⟨x0, x1, x2, y0, y1, y2, lx⟩ := cells3 HX2.out; clear hb))
                  have HX3 := Lib.hid (set3 (x := .int .i64 Y) (y := .int .i64 M) (z := .int .i64 D) HX2.out)
                  obtain ⟨v0, v1, v2, _, _, _, _⟩ := cells3 HX3.out
                  refine bodyPost_ret (v := .tuple #[.agg #[.int .i64 Y, .int .i64 M, .int .i64 D], .bool true]) ?_ rfl ?_
                  · simp [results, Tryz.results8, go_sem, *]
                  · exact ⟨.inl ⟨⟨Y, M, D⟩, HQ.out.1, HQ.out.2, rfl⟩, ((HB2.out.setCell (Nat.le_refl _) _).setCell (Nat.le_refl _) _).setCell (Nat.le_refl _) _⟩
                · have HNE := Lib.hid (HST.out (fun h => heq h.2))
                  have hpe : (printL ⟨Y, M, D⟩ == L) = false := by rw [beq_eq_false_iff_ne]; exact heq
                  generalize printL ⟨Y, M, D⟩ = P at *
                  unfold dtv at HNM HPR
                  simp only at HNM HPR
                  clear ho h1 hnn
                  go_wp2_with (first | (go_at_call 9; refine (HNM.out _).mono ?_; rintro e w1 ⟨rfl, hb⟩; have HX1 := Lib.hid (lift1 hb HX.out); have HD1 := Lib.hid (lnew hb); have HB1 := Lib.hid (below_trans (hB.out.alloc hB.out.size _) hb); obtain ⟨c0, c1, c2, f0, f1, f2, lc⟩ := cells3 HD1.out; clear hb) | (go_at_call 10; refine (HPR.out _).mono ?_; rintro e w2 ⟨rfl, hb⟩; have HX2 := Lib.hid (lift0 hb HX1.out); have HD2 := Lib.hid (lift0 hb HD1.out); have HB2 := Lib.hid (below_trans HB1.out hb); clear hb))
                  go_roundw
                  case rel => exact ⟨k + 1, by omega, by have := HM.out; congr 1; omega, HNE, HX2, HB2⟩
                  case measure => have := HM.out; simp [intOf]; omega
              · rw [h1] at HNM
                have HNE := Lib.hid (HST.out (fun h => by rw [ho] at h; cases h.1))
                unfold dtv at HNM
                simp only at HNM
                clear ho h1
                go_wp2_with (first | (go_at_call 9; refine (HNM.out _).mono ?_; rintro e w1 ⟨rfl, hb⟩; have HX1 := Lib.hid (lift1 hb HX.out); have HB1 := Lib.hid (below_trans (hB.out.alloc hB.out.size _) hb); clear hb))
                go_roundw
                case rel => exact ⟨k + 1, by omega, by have := HM.out; congr 1; omega, HNE, HX1, HB1⟩
                case measure => have := HM.out; simp [intOf]; omega
    · have HNA := Lib.hid (show ∀ m : Int, 1 ≤ m → m ≤ 12 → ¬ (okD ⟨Y, m, D⟩ = true ∧ printL ⟨Y, m, D⟩ = L) from fun m h1 h2 => HN.out m h1 (by omega))
      have t3 : decide ((k : Int) + 1 ≤ 12) = false := decide_eq_false (by omega)
      obtain ⟨x0, x1, x2, y0, y1, y2, lx⟩ := cells3 HX.out
      go_wp2
      have HX3 := Lib.hid (set3 (x := .int .i64 0) (y := .int .i64 0) (z := .int .i64 0) HX.out)
      obtain ⟨v0, v1, v2, _, _, _, _⟩ := cells3 HX3.out
      refine bodyPost_ret (v := .tuple #[.agg #[.int .i64 0, .int .i64 0, .int .i64 0], .bool false]) ?_ rfl ?_
      · simp [results, Tryz.results8, go_sem, *]
      · exact ⟨.inr ⟨rfl, HNA.out⟩, ((hB.out.setCell (Nat.le_refl _) _).setCell (Nat.le_refl _) _).setCell (Nat.le_refl _) _⟩
end Go.Proofs.YteoembjghmgbhaaGreatDoor
