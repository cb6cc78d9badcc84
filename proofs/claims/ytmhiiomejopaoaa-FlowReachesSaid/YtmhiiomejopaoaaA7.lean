/- The flow walks: the reference's Weights, Error, Value, Units, Cost, Turned; Fixed -/
import Derived.Test.YtmhiiomejopaoaaM9
import Derived.Test.YtmhiiomejopaoaaR4
namespace Go.Proofs.Ytmhiiomejopaoaa
set_option linter.all false
open Go.RowKit
set_option maxRecDepth 100000

set_option maxRecDepth 100000 in
set_option maxHeartbeats 1000000 in
theorem rweights_any (n : Int) (L : Value) (A : Option Addr) (c : Nat) (x : List Int) (w : World) (hl : x.length ≤ 140737488351232) (h : IntsAt w A x) :
    Calls Try.prog 72 #[.agg #[.int .i64 n, L], .slice A x.length c] w fun e w' => e = .returned (.bool (weightsB n x)) ∧ Below w.heap.size w w' := by
  have H := Lib.hid h
  clear h
  cases hn : ((x.length : Int) != n)
  · have HN := Lib.hid (show (x.length : Int) = n by simpa using hn)
    go_enter Try.func72, Try.ntmps72
    go_wp2
    go_loopw [5, 6] (fun s i wr => ∃ k : Nat, k ≤ x.length ∧ i = .int .i64 k ∧ s = .int .i64 ((x.take k).foldl addW 0) ∧ Hid (∀ j : Nat, j < k → (!withinB (gi x j) (-100000) 100000) = false) ∧ Hid (wr = w.alloc (.cells #[.int .i64 n, L] 24))) (fun _ i _ => x.length - (intOf i).toNat)
    case atStart => exact ⟨0, by omega, rfl, rfl, Lib.hid (by simp), Lib.hid rfl⟩
    case round =>
      obtain ⟨k, hk, rfl, rfl, hbad, HW⟩ := hrel
      have HBR := Lib.hid (show Below w.heap.size w wr by rw [HW.out]; exact bel)
      by_cases hlt : k < x.length
      · obtain ⟨b, o, rfl, g1⟩ := (H.out.below HBR.out).nat k hlt
        have hz := World.block_lt_of_cell? wr _ g1
        have Hf := Lib.hid (fold_gi addW 0 x k hlt)
        cases hp : withinB (gi x k) (-100000) 100000
        · have HE := Lib.hid (show weightsB n x = false by unfold weightsB; rw [any_gi_true (f := fun x => !withinB x (-100000) 100000) (i := k) (by omega) (by omega) (by simp only [hp]; rfl)]; rfl)
          go_wp2_with (go_at_call 82; refine (in_any _ _ _ _).mono ?_; rw [hp]; rintro e w' ⟨rfl, rfl⟩)
          go_ret
          exact ⟨ret_bool HE.out.symm, HBR.out⟩
        · have HP := Lib.hid hp
          go_wp2_with (go_at_call 82; refine (in_any _ _ _ _).mono ?_; rw [hp]; rintro e w' ⟨rfl, rfl⟩)
          go_roundw
          case rel =>
            refine ⟨k + 1, by omega, by go_num, by rw [Hf.out]; rfl, Lib.hid fun j hj => ?_, HW⟩
            rcases Nat.lt_succ_iff_lt_or_eq.1 hj with h | rfl
            · exact hbad.out j h
            · rw [HP.out]; rfl
          case measure => simp [intOf]; omega
      · obtain rfl : k = x.length := by omega
        have hs : (x.take x.length).foldl addW 0 = sumW x := by rw [List.take_length]; rfl
        rw [hs]
        have Ha := Lib.hid (show weightsB n x = (sumW x == 0) by
          unfold weightsB
          rw [any_gi_false (f := fun x => !withinB x (-100000) 100000) hbad.out]
          simp [HN.out])
        clear hs
        go_wp2
        go_ret
        exact ⟨ret_bool Ha.out.symm, HBR.out⟩
  · have HE := Lib.hid (show weightsB n x = false by
      have : ¬ (x.length : Int) = n := by simpa using hn
      simp [weightsB, this])
    go_enter Try.func72, Try.ntmps72
    go_wp2
    go_ret
    exact ⟨ret_bool HE.out.symm, bel⟩
set_option maxRecDepth 100000 in
set_option maxHeartbeats 1000000 in
theorem rerror_any (n : Int) (A : Option Addr) (c : Nat) (l : List Lk) (B : Option Addr) (d : Nat) (x : List Int) (w : World) (hl : l.length ≤ 9223372036854775807) (hx : x.length ≤ 140737488351232) (h : LksAt w A l) (h' : IntsAt w B x) :
    Calls Try.prog 21 #[.agg #[.int .i64 n, .slice A l.length c], .slice B x.length d] w fun e w' => e = .returned (.int .i64 (askedI n l x)) ∧ Below w.heap.size w w' := by
  have HA := Lib.hid h
  have HX := Lib.hid h'
  have HRC := Lib.hid (fun W h1 => rcheck_any n A c l W hl h1)
  have HRW := Lib.hid (fun W h1 => rweights_any n (.slice A l.length c) B d x W hx h1)
  clear h h'
  obtain ⟨e0, he0⟩ : ∃ e0, checkL n l = e0 := ⟨_, rfl⟩
  rw [he0] at HRC
  cases hz : (e0 != 0)
  · have hz2 : e0 = 0 := by simpa using hz
    obtain ⟨b, hb⟩ : ∃ b, weightsB n x = b := ⟨_, rfl⟩
    have HE := Lib.hid (show askedI n l x = if b then 0 else 1 by unfold askedI; rw [he0, hz2, hb]; simp)
    rw [hb] at HRW
    clear hb he0
    go_enter Try.func21, Try.ntmps21
    cases b
    all_goals
      go_wp2_with (first | (go_at_call 33; refine (HRC.out _ (HA.out.alloc _)).mono ?_; rintro e w1 ⟨rfl, hb⟩; have HB := Lib.hid (boxed hb).1; obtain ⟨c0, c1, lw⟩ := (boxed hb).2; clear hb) | (go_at_call 72; refine (HRW.out _ (HX.out.below HB.out)).mono ?_; rintro e w2 ⟨rfl, hb⟩; have HB2 := Lib.hid (below_trans HB.out hb); clear hb))
      go_ret
      exact ⟨by rw [HE.out]; rfl, HB2.out⟩
  · have hz2 : ¬ e0 = 0 := by simpa using hz
    have HE := Lib.hid (show askedI n l x = e0 by unfold askedI; rw [he0, if_pos hz2])
    clear hz2 he0
    go_enter Try.func21, Try.ntmps21
    go_wp2_with (go_at_call 33; refine (HRC.out _ (HA.out.alloc _)).mono ?_; rintro e w1 ⟨rfl, hb⟩; have HB := Lib.hid (boxed hb).1; clear hb)
    go_ret
    exact ⟨ret_int HE.out.symm, HB.out⟩
set_option maxRecDepth 100000 in
set_option maxHeartbeats 1000000 in
theorem rvalue_any (A : Option Addr) (c : Nat) (u : List Int) (B : Option Addr) (d : Nat) (x : List Int) (w : World) (hl : u.length ≤ 140737488351232) (hx : u.length ≤ x.length) (h : IntsAt w A u) (h' : IntsAt w B x) :
    Calls Try.prog 42 #[.slice A u.length c, .slice B x.length d] w fun e w' => e = .returned (.int .i64 (valueI u x)) ∧ Below w.heap.size w w' := by
  have H := Lib.hid h
  have H' := Lib.hid h'
  clear h h'
  go_enter Try.func42, Try.ntmps42
  go_wp2
  go_loopw [5, 6] (fun s i wr => ∃ k : Nat, k ≤ u.length ∧ i = .int .i64 k ∧ s = .int .i64 (((u.zip x).take k).foldl mulAdd 0) ∧ Hid (Below w.heap.size w wr)) (fun _ i _ => u.length - (intOf i).toNat)
  case atStart => exact ⟨0, by omega, rfl, rfl, Lib.hid (Below.refl _ _)⟩
  case round =>
    obtain ⟨k, hk, rfl, rfl, HB⟩ := hrel
    by_cases hlt : k < u.length
    · obtain ⟨b, o, rfl, g1⟩ := (H.out.below HB.out).nat k hlt
      obtain ⟨b', o', rfl, g2⟩ := (H'.out.below HB.out).nat k (by omega)
      have l1 := World.block_lt_of_cell? _ _ g1
      have l2 := World.block_lt_of_cell? _ _ g2
      have hlt2 : k < x.length := by omega
      have Hf := Lib.hid (show ((u.zip x).take (k + 1)).foldl mulAdd 0 = wrap64 (((u.zip x).take k).foldl mulAdd 0 + wrap64 (gi u k * gi x k)) by rw [zip_take u x k hlt hlt2, List.foldl_append]; rfl)
      go_wp2
      go_quiet (fail)
      go_wp2
      go_roundw
      case rel => exact ⟨k + 1, by omega, by go_num, by rw [Hf.out], Lib.hid (below_drews HB.out _)⟩
      case measure => simp [intOf]; omega
    · obtain rfl : k = u.length := by omega
      have e : (u.zip x).take u.length = u.zip x := List.take_of_length_le (by simp; omega)
      have HE := Lib.hid (show ((u.zip x).take u.length).foldl mulAdd 0 = valueI u x by rw [e]; rfl)
      clear e
      go_wp2
      go_ret
      exact ⟨ret_int HE.out, HB.out⟩
set_option maxRecDepth 100000 in
set_option maxHeartbeats 1000000 in
theorem runits_any (n : Int) (A : Option Addr) (c : Nat) (l : List Lk) (B : Option Addr) (d : Nat) (u : List Int) (w : World) (hu : u.length ≤ 140737488351232) (h' : IntsAt w B u) :
    Calls Try.prog 48 #[.agg #[.int .i64 n, .slice A l.length c], .slice B u.length d] w fun e w' => e = .returned (.int .i64 (isFlowI l u)) ∧ Below w.heap.size w w' := by
  have H := Lib.hid h'
  clear h'
  cases hn : ((u.length : Int) != (l.length : Int))
  · have HN := Lib.hid (show u.length = l.length by simp at hn; omega)
    go_enter Try.func48, Try.ntmps48
    go_wp2
    go_loopw [5, 6] (fun s i wr => ∃ k : Nat, k ≤ u.length ∧ i = .int .i64 k ∧ s = .int .i64 ((u.take k).foldl addW 0) ∧ Hid (∀ j : Nat, j < k → badU (gi u j) = false) ∧ Hid (wr = w.alloc (.cells #[.int .i64 n, .slice A l.length c] 24))) (fun _ i _ => u.length - (intOf i).toNat)
    case atStart => exact ⟨0, by omega, rfl, rfl, Lib.hid (by simp), Lib.hid rfl⟩
    case round =>
      obtain ⟨k, hk, rfl, rfl, hbad, HW⟩ := hrel
      have HBR := Lib.hid (show Below w.heap.size w wr by rw [HW.out]; exact bel)
      by_cases hlt : k < u.length
      · obtain ⟨b, o, rfl, g1⟩ := (H.out.below HBR.out).nat k hlt
        have hz := World.block_lt_of_cell? wr _ g1
        have Hf := Lib.hid (fold_gi addW 0 u k hlt)
        cases hp : withinB (gi u k) 0 134217728
        · have HE := Lib.hid (show isFlowI l u = 1 by
            unfold isFlowI
            rw [if_pos]
            rw [any_gi_true (f := badU) (i := k) (by omega) (by omega) (by unfold badU; rw [hp]; rfl)]
            simp)
          go_wp2_with (go_at_call 82; refine (in_any _ _ _ _).mono ?_; rw [hp]; rintro e w' ⟨rfl, rfl⟩)
          go_ret
          exact ⟨ret_int HE.out.symm, HBR.out⟩
        · have HP := Lib.hid hp
          go_wp2_with (go_at_call 82; refine (in_any _ _ _ _).mono ?_; rw [hp]; rintro e w' ⟨rfl, rfl⟩)
          go_roundw
          case rel =>
            refine ⟨k + 1, by omega, by go_num, by rw [Hf.out]; rfl, Lib.hid fun j hj => ?_, HW⟩
            rcases Nat.lt_succ_iff_lt_or_eq.1 hj with h | rfl
            · exact hbad.out j h
            · unfold badU; rw [HP.out]; rfl
          case measure => simp [intOf]; omega
      · obtain rfl : k = u.length := by omega
        have hs : (u.take u.length).foldl addW 0 = sumW u := by rw [List.take_length]; rfl
        rw [hs]
        have Ha := Lib.hid (show isFlowI l u = if 134217728 < sumW u then 3 else 0 by
          unfold isFlowI
          rw [any_gi_false (f := badU) hbad.out, if_neg (by simp [HN.out])])
        clear hs
        by_cases hgt : 134217728 < sumW u
        · have HE := Lib.hid (show isFlowI l u = 3 by rw [Ha.out, if_pos hgt])
          go_wp2
          go_ret
          exact ⟨ret_int HE.out.symm, HBR.out⟩
        · have HE := Lib.hid (show isFlowI l u = 0 by rw [Ha.out, if_neg hgt])
          go_wp2
          go_ret
          exact ⟨ret_int HE.out.symm, HBR.out⟩
  · have HE := Lib.hid (show isFlowI l u = 1 by
      have : ¬ u.length = l.length := by simp at hn; omega
      unfold isFlowI
      rw [if_pos (by simp [this])])
    go_enter Try.func48, Try.ntmps48
    go_wp2
    go_ret
    exact ⟨ret_int HE.out.symm, bel⟩

set_option maxRecDepth 100000 in
set_option maxHeartbeats 1000000 in
theorem rcost_any (n : Int) (A : Option Addr) (c : Nat) (l : List Lk) (B : Option Addr) (d : Nat) (u : List Int) (w : World) (hl : l.length ≤ 140737488351232) (hu : u.length = l.length) (h : LksAt w A l) (h' : IntsAt w B u) :
    Calls Try.prog 50 #[.agg #[.int .i64 n, .slice A l.length c], .slice B u.length d] w fun e w' => e = .returned (.int .i64 (costI l u)) ∧ Below w.heap.size w w' := by
  have H := Lib.hid h
  have H' := Lib.hid h'
  have HU := Lib.hid hu
  clear h h' hu
  go_enter Try.func50, Try.ntmps50
  go_wp2
  go_loopw [5, 6] (fun s i wr => ∃ k : Nat, k ≤ u.length ∧ i = .int .i64 k ∧ s = .int .i64 (((u.zip (l.map (·.m))).take k).foldl mulAdd 0) ∧ Hid (Below w.heap.size w wr) ∧ wr.cell? ⟨w.heap.size, 1, none⟩ = some (.slice A l.length c)) (fun _ i _ => u.length - (intOf i).toNat)
  case atStart => exact ⟨0, by omega, rfl, rfl, Lib.hid bel, by go_simp⟩
  case round =>
    obtain ⟨k, hk, rfl, rfl, HB, c1⟩ := hrel
    have lc := World.block_lt_of_cell? _ _ c1
    by_cases hlt : k < u.length
    · have hlt2 : k < l.length := by have := HU.out; omega
      obtain ⟨b, o, rfl, g1, g2, g3⟩ := (H.out.below HB.out).nat k hlt2
      obtain ⟨b', o', rfl, g4⟩ := (H'.out.below HB.out).nat k hlt
      have hz := World.block_lt_of_cell? _ _ g4
      have hz2 := World.block_lt_of_cell? _ _ g3
      have Hf := Lib.hid (show ((u.zip (l.map (·.m))).take (k + 1)).foldl mulAdd 0 = wrap64 (((u.zip (l.map (·.m))).take k).foldl mulAdd 0 + wrap64 (gi u k * (gl l k).m)) by rw [zip_take u _ k hlt (by simpa using hlt2), List.foldl_append, gi_map_m l k hlt2]; rfl)
      go_wp2
      go_quiet (fail)
      go_wp2
      go_roundw
      case rel => exact ⟨k + 1, by omega, by go_num, by rw [Hf.out], Lib.hid (below_drews HB.out _), c1⟩
      case measure => simp [intOf]; omega
    · obtain rfl : k = u.length := by omega
      have e : (u.zip (l.map (·.m))).take u.length = u.zip (l.map (·.m)) := List.take_of_length_le (by simp; omega)
      have HE := Lib.hid (show ((u.zip (l.map (·.m))).take u.length).foldl mulAdd 0 = costI l u by rw [e]; rfl)
      clear e
      go_wp2
      go_ret
      exact ⟨ret_int HE.out, HB.out⟩
set_option maxRecDepth 100000 in
set_option maxHeartbeats 1000000 in
theorem rturned_any (A : Option Addr) (c : Nat) (l : List Int) (w : World) (hl : l.length ≤ 1000000) (h : IntsAt w A l) :
    Calls Try.prog 43 #[.slice A l.length c] w fun e w' => ∃ v, e = .returned v ∧ w'.ownsRow w.heap.size 3 1 v l.length (ints (turnedL l)) ∧ Below w.heap.size w w' := by
  have H := Lib.hid h
  clear h
  go_enter Try.func43, Try.ntmps43
  go_wp2
  go_loopw [3, 4] (fun v i wr => ∃ k : Nat, k ≤ l.length ∧ i = .int .i64 k ∧ Hid (OwnN w.heap.size w wr v (turnedL (l.take k)))) (fun _ i _ => l.length - (intOf i).toNat)
  case atStart => exact ⟨0, by omega, rfl, Lib.hid ⟨World.ownsRow_nil _ _ _ _, Below.refl _ _, Nat.le_refl _⟩⟩
  case round =>
    obtain ⟨k, hk, rfl, HO⟩ := hrel
    by_cases hlt : k < l.length
    · obtain ⟨b, o, rfl, g1⟩ := (H.out.below HO.out.below).nat k hlt
      have hz := World.block_lt_of_cell? _ _ g1
      have hkl : (turnedL (l.take k)).length ≤ 1000000 := by simp [turnedL]; omega
      have Hs := Lib.hid (show turnedL (l.take k) ++ [wrap64 (-gi l k)] = turnedL (l.take (k + 1)) by rw [take_gi l k hlt]; simp [turnedL])
      go_wp2_with (at_builtin; refine app_one rfl _ _ 25 3 (.int .i64 0) 1 8 rfl Try.underlying25 info3 rfl (by omega) u3 _ _ [.int .i64 (wrap64 (-gi l k))] rfl rfl (by simp) rfl (one1 _ _) w.heap.size HO.out.row HO.out.hB (by omega) (by unfold maxLen; omega) ?_; intro v1 w1 ho hg _; have HO1 := Lib.hid (HO.out.appended ho hg); clear ho hg)
      go_roundw
      case rel => exact ⟨k + 1, by omega, by go_num, Lib.hid (by rw [← Hs.out]; exact HO1.out)⟩
      case measure => simp [intOf]; omega
    · obtain rfl : k = l.length := by omega
      have HR := Lib.hid HO.out.row
      rw [List.take_length, turned_length] at HR
      go_wp2
      go_ret
      exact ⟨_, rfl, HR.out, HO.out.below⟩
def fixedR (r s : Int × Int) : Bool × Int := if r.2 ≠ 0 ∧ r.2 ≠ 5 then (false, r.2) else if r.2 ≠ 0 ∨ s.2 ≠ 0 then (false, 0) else (r.1 == s.1, 0)
set_option maxRecDepth 100000 in
set_option maxHeartbeats 2000000 in
theorem Fixed_any (F : Nat) (r s : Int × Int) (n : Int) (A : Option Addr) (c : Nat) (l : List Lk) (B : Option Addr) (d : Nat) (x : List Int) (w : World) (hl : l.length ≤ 1000) (hx : x.length ≤ 1000000) (h : LksAt w A l) (h' : IntsAt w B x) (hb : MostP F n l x = some r) (hs : LeastP F n l x = some s) :
    Calls Try.prog 40 #[.agg #[.int .i64 n, .slice A l.length c], .slice B x.length d] w fun e w' => e = .returned (.tuple #[.bool (fixedR r s).1, .int .i64 (fixedR r s).2]) ∧ Below w.heap.size w w' := by
  have HA := Lib.hid h
  have HX := Lib.hid h'
  have HM := Lib.hid (fun W h1 h2 => Most_any F r n A c l B d x W hl hx h1 h2 hb)
  have HL := Lib.hid (fun W h1 h2 => Least_any F s n A c l B d x W hl hx h1 h2 hs)
  clear h h' hb hs
  obtain ⟨hi, e⟩ := r
  obtain ⟨lo, f⟩ := s
  by_cases h1 : e = 0
  · subst h1
    by_cases h2 : f = 0
    · subst h2
      have HE := Lib.hid (show fixedR (hi, 0) (lo, 0) = (hi == lo, 0) by simp [fixedR])
      go_enter Try.func40, Try.ntmps40
      go_wp2_with (first | (go_at_call 29; refine (HM.out _ (HA.out.alloc _) (HX.out.alloc _)).mono ?_; rintro e w1 ⟨rfl, hb⟩; have HB := Lib.hid (boxed hb).1; obtain ⟨c0, c1, lw⟩ := (boxed hb).2; clear hb) | (go_at_call 30; refine (HL.out _ (HA.out.below HB.out) (HX.out.below HB.out)).mono ?_; rintro e w2 ⟨rfl, hb⟩; have HB2 := Lib.hid (below_trans HB.out hb); clear hb))
      go_ret2
      exact ⟨by rw [HE.out]; rfl, HB2.out⟩
    · have h2' : (f != 0) = true := by simpa using h2
      have HE := Lib.hid (show fixedR (hi, 0) (lo, f) = (false, 0) by simp [fixedR, h2])
      clear h2
      go_enter Try.func40, Try.ntmps40
      go_wp2_with (first | (go_at_call 29; refine (HM.out _ (HA.out.alloc _) (HX.out.alloc _)).mono ?_; rintro e w1 ⟨rfl, hb⟩; have HB := Lib.hid (boxed hb).1; obtain ⟨c0, c1, lw⟩ := (boxed hb).2; clear hb) | (go_at_call 30; refine (HL.out _ (HA.out.below HB.out) (HX.out.below HB.out)).mono ?_; rintro e w2 ⟨rfl, hb⟩; have HB2 := Lib.hid (below_trans HB.out hb); clear hb))
      go_ret2
      exact ⟨by rw [HE.out]; rfl, HB2.out⟩
  · have h1' : (e != 0) = true := by simpa using h1
    by_cases h5 : e = 5
    · subst h5
      have HE := Lib.hid (show fixedR (hi, 5) (lo, f) = (false, 0) by simp [fixedR])
      clear h1
      go_enter Try.func40, Try.ntmps40
      go_wp2_with (first | (go_at_call 29; refine (HM.out _ (HA.out.alloc _) (HX.out.alloc _)).mono ?_; rintro e w1 ⟨rfl, hb⟩; have HB := Lib.hid (boxed hb).1; obtain ⟨c0, c1, lw⟩ := (boxed hb).2; clear hb) | (go_at_call 30; refine (HL.out _ (HA.out.below HB.out) (HX.out.below HB.out)).mono ?_; rintro e w2 ⟨rfl, hb⟩; have HB2 := Lib.hid (below_trans HB.out hb); clear hb))
      go_ret2
      exact ⟨by rw [HE.out]; rfl, HB2.out⟩
    · have h5' : (e != 5) = true := by simpa using h5
      have HE := Lib.hid (show fixedR (hi, e) (lo, f) = (false, e) by simp [fixedR, h1, h5])
      clear h1 h5
      go_enter Try.func40, Try.ntmps40
      go_wp2_with (first | (go_at_call 29; refine (HM.out _ (HA.out.alloc _) (HX.out.alloc _)).mono ?_; rintro e w1 ⟨rfl, hb⟩; have HB := Lib.hid (boxed hb).1; obtain ⟨c0, c1, lw⟩ := (boxed hb).2; clear hb) | (go_at_call 30; refine (HL.out _ (HA.out.below HB.out) (HX.out.below HB.out)).mono ?_; rintro e w2 ⟨rfl, hb⟩; have HB2 := Lib.hid (below_trans HB.out hb); clear hb))
      go_ret2
      exact ⟨by rw [HE.out]; rfl, HB2.out⟩
end Go.Proofs.Ytmhiiomejopaoaa
