/- The flow walks: the reference's Error, Units, Carries. -/
import Derived.Test.YtmhiiomejopaoaaM9
import Derived.Test.YtmhiiomejopaoaaR4
import Derived.Test.YtmhiiomejopaoaaW7
namespace Go.Proofs.Ytmhiiomejopaoaa
set_option linter.all false
open Go.RowKit
set_option maxRecDepth 100000
theorem gi_repj (m : Nat) (c k : Int) (h0 : 0 ≤ k) (h : k < m) : gi (List.replicate m c) k = c := by
  simp only [gi, List.getD_eq_getElem?_getD, List.getElem?_replicate]
  rw [if_pos (by omega)]
  rfl
set_option maxRecDepth 100000 in
set_option maxHeartbeats 1000000 in
theorem rweights_any (n : Int) (L : Value) (A : Option Addr) (c : Nat) (x : List Int) (w : World) (hl : x.length ≤ 140737488351232) (h : IntsAt w A x) :
    Calls Try.prog 72 #[.agg #[.int .i64 n, L], .slice A x.length c] w fun e w' => e = .returned (.bool (weightsB n x)) ∧ Below w.heap.size w w' := by
  have H := Lib.hid h
  clear h
  cases hn : ((x.length : Int) != n)
  · have HN := Lib.hid (show (x.length : Int) = n by simpa using hn)
    go_enter Try.func72, Try.ntmps72
    go_wp2
    go_loopw [5, 6] (fun s i wr => ∃ k : Nat, k ≤ x.length ∧ i = .int .i64 k ∧ s = .int .i64 ((x.take k).foldl addW 0) ∧ Hid (∀ j : Nat, j < k → (!withinB (gi x j) (-100000) 100000) = false) ∧ Hid (wr = w.alloc (.cells #[.int .i64 n, L] 24))) (fun _ i _ => x.length - (intOf i).toNat)
    case atStart => exact ⟨0, by omega, rfl, rfl, Lib.hid (by simp), Lib.hid rfl⟩
    case round =>
      obtain ⟨k, hk, rfl, rfl, hbad, HW⟩ := hrel
      have HBR := Lib.hid (show Below w.heap.size w wr by rw [HW.out]; exact bel)
      by_cases hlt : k < x.length
      · obtain ⟨b, o, rfl, g1⟩ := (H.out.below HBR.out).nat k hlt
        have hz := World.block_lt_of_cell? wr _ g1
        have Hf := Lib.hid (fold_gi addW 0 x k hlt)
        cases hp : withinB (gi x k) (-100000) 100000
        · have HE := Lib.hid (show weightsB n x = false by unfold weightsB; rw [any_gi_true (f := fun x => !withinB x (-100000) 100000) (i := k) (by omega) (by omega) (by simp only [hp]; rfl)]; rfl)
          go_wp2_with (go_at_call 82; refine (in_any _ _ _ _).mono ?_; rw [hp]; rintro e w' ⟨rfl, rfl⟩)
          go_ret
          exact ⟨ret_bool HE.out.symm, HBR.out⟩
        · have HP := Lib.hid hp
          go_wp2_with (go_at_call 82; refine (in_any _ _ _ _).mono ?_; rw [hp]; rintro e w' ⟨rfl, rfl⟩)
          go_roundw
          case rel =>
            refine ⟨k + 1, by omega, by go_num, by rw [Hf.out]; rfl, Lib.hid fun j hj => ?_, HW⟩
            rcases Nat.lt_succ_iff_lt_or_eq.1 hj with h | rfl
            · exact hbad.out j h
            · rw [HP.out]; rfl
          case measure => simp [intOf]; omega
      · obtain rfl : k = x.length := by omega
        have hs : (x.take x.length).foldl addW 0 = sumW x := by rw [List.take_length]; rfl
        rw [hs]
        have Ha := Lib.hid (show weightsB n x = (sumW x == 0) by
          unfold weightsB
          rw [any_gi_false (f := fun x => !withinB x (-100000) 100000) hbad.out]
          simp [HN.out])
        clear hs
        go_wp2
        go_ret
        exact ⟨ret_bool Ha.out.symm, HBR.out⟩
  · have HE := Lib.hid (show weightsB n x = false by
      have : ¬ (x.length : Int) = n := by simpa using hn
      simp [weightsB, this])
    go_enter Try.func72, Try.ntmps72
    go_wp2
    go_ret
    exact ⟨ret_bool HE.out.symm, bel⟩
set_option maxRecDepth 100000 in
set_option maxHeartbeats 1000000 in
theorem rerror_any (n : Int) (A : Option Addr) (c : Nat) (l : List Lk) (B : Option Addr) (d : Nat) (x : List Int) (w : World) (hl : l.length ≤ 9223372036854775807) (hx : x.length ≤ 140737488351232) (h : LksAt w A l) (h' : IntsAt w B x) :
    Calls Try.prog 21 #[.agg #[.int .i64 n, .slice A l.length c], .slice B x.length d] w fun e w' => e = .returned (.int .i64 (askedI n l x)) ∧ Below w.heap.size w w' := by
  have HA := Lib.hid h
  have HX := Lib.hid h'
  have HRC := Lib.hid (fun W h1 => rcheck_any n A c l W hl h1)
  have HRW := Lib.hid (fun W h1 => rweights_any n (.slice A l.length c) B d x W hx h1)
  clear h h'
  obtain ⟨e0, he0⟩ : ∃ e0, checkL n l = e0 := ⟨_, rfl⟩
  rw [he0] at HRC
  cases hz : (e0 != 0)
  · have hz2 : e0 = 0 := by simpa using hz
    obtain ⟨b, hb⟩ : ∃ b, weightsB n x = b := ⟨_, rfl⟩
    have HE := Lib.hid (show askedI n l x = if b then 0 else 1 by unfold askedI; rw [he0, hz2, hb]; simp)
    rw [hb] at HRW
    clear hb he0
    go_enter Try.func21, Try.ntmps21
    cases b
    all_goals
      go_wp2_with (first | (go_at_call 33; refine (HRC.out _ (HA.out.alloc _)).mono ?_; rintro e w1 ⟨rfl, hb⟩; have HB := Lib.hid (boxed hb).1; obtain ⟨c0, c1, lw⟩ := (boxed hb).2; clear hb) | (go_at_call 72; refine (HRW.out _ (HX.out.below HB.out)).mono ?_; rintro e w2 ⟨rfl, hb⟩; have HB2 := Lib.hid (below_trans HB.out hb); clear hb))
      go_ret
      exact ⟨by rw [HE.out]; rfl, HB2.out⟩
  · have hz2 : ¬ e0 = 0 := by simpa using hz
    have HE := Lib.hid (show askedI n l x = e0 by unfold askedI; rw [he0, if_pos hz2])
    clear hz2 he0
    go_enter Try.func21, Try.ntmps21
    go_wp2_with (go_at_call 33; refine (HRC.out _ (HA.out.alloc _)).mono ?_; rintro e w1 ⟨rfl, hb⟩; have HB := Lib.hid (boxed hb).1; clear hb)
    go_ret
    exact ⟨ret_int HE.out.symm, HB.out⟩
set_option maxRecDepth 100000 in
set_option maxHeartbeats 1000000 in
theorem rvalue_any (A : Option Addr) (c : Nat) (u : List Int) (B : Option Addr) (d : Nat) (x : List Int) (w : World) (hl : u.length ≤ 140737488351232) (hx : u.length ≤ x.length) (h : IntsAt w A u) (h' : IntsAt w B x) :
    Calls Try.prog 42 #[.slice A u.length c, .slice B x.length d] w fun e w' => e = .returned (.int .i64 (valueI u x)) ∧ Below w.heap.size w w' := by
  have H := Lib.hid h
  have H' := Lib.hid h'
  clear h h'
  go_enter Try.func42, Try.ntmps42
  go_wp2
  go_loopw [5, 6] (fun s i wr => ∃ k : Nat, k ≤ u.length ∧ i = .int .i64 k ∧ s = .int .i64 (((u.zip x).take k).foldl mulAdd 0) ∧ Hid (Below w.heap.size w wr)) (fun _ i _ => u.length - (intOf i).toNat)
  case atStart => exact ⟨0, by omega, rfl, rfl, Lib.hid (Below.refl _ _)⟩
  case round =>
    obtain ⟨k, hk, rfl, rfl, HB⟩ := hrel
    by_cases hlt : k < u.length
    · obtain ⟨b, o, rfl, g1⟩ := (H.out.below HB.out).nat k hlt
      obtain ⟨b', o', rfl, g2⟩ := (H'.out.below HB.out).nat k (by omega)
      have l1 := World.block_lt_of_cell? _ _ g1
      have l2 := World.block_lt_of_cell? _ _ g2
      have hlt2 : k < x.length := by omega
      have Hf := Lib.hid (show ((u.zip x).take (k + 1)).foldl mulAdd 0 = wrap64 (((u.zip x).take k).foldl mulAdd 0 + wrap64 (gi u k * gi x k)) by rw [zip_take u x k hlt hlt2, List.foldl_append]; rfl)
      go_wp2
      go_quiet (fail)
      go_wp2
      go_roundw
      case rel => exact ⟨k + 1, by omega, by go_num, by rw [Hf.out], Lib.hid (below_drews HB.out _)⟩
      case measure => simp [intOf]; omega
    · obtain rfl : k = u.length := by omega
      have e : (u.zip x).take u.length = u.zip x := List.take_of_length_le (by simp; omega)
      have HE := Lib.hid (show ((u.zip x).take u.length).foldl mulAdd 0 = valueI u x by rw [e]; rfl)
      clear e
      go_wp2
      go_ret
      exact ⟨ret_int HE.out, HB.out⟩
set_option maxRecDepth 100000 in
set_option maxHeartbeats 1000000 in
theorem runits_any (n : Int) (A : Option Addr) (c : Nat) (l : List Lk) (B : Option Addr) (d : Nat) (u : List Int) (w : World) (hu : u.length ≤ 140737488351232) (h' : IntsAt w B u) :
    Calls Try.prog 48 #[.agg #[.int .i64 n, .slice A l.length c], .slice B u.length d] w fun e w' => e = .returned (.int .i64 (isFlowI l u)) ∧ Below w.heap.size w w' := by
  have H := Lib.hid h'
  clear h'
  cases hn : ((u.length : Int) != (l.length : Int))
  · have HN := Lib.hid (show u.length = l.length by simp at hn; omega)
    go_enter Try.func48, Try.ntmps48
    go_wp2
    go_loopw [5, 6] (fun s i wr => ∃ k : Nat, k ≤ u.length ∧ i = .int .i64 k ∧ s = .int .i64 ((u.take k).foldl addW 0) ∧ Hid (∀ j : Nat, j < k → badU (gi u j) = false) ∧ Hid (wr = w.alloc (.cells #[.int .i64 n, .slice A l.length c] 24))) (fun _ i _ => u.length - (intOf i).toNat)
    case atStart => exact ⟨0, by omega, rfl, rfl, Lib.hid (by simp), Lib.hid rfl⟩
    case round =>
      obtain ⟨k, hk, rfl, rfl, hbad, HW⟩ := hrel
      have HBR := Lib.hid (show Below w.heap.size w wr by rw [HW.out]; exact bel)
      by_cases hlt : k < u.length
      · obtain ⟨b, o, rfl, g1⟩ := (H.out.below HBR.out).nat k hlt
        have hz := World.block_lt_of_cell? wr _ g1
        have Hf := Lib.hid (fold_gi addW 0 u k hlt)
        cases hp : withinB (gi u k) 0 134217728
        · have HE := Lib.hid (show isFlowI l u = 1 by
            unfold isFlowI
            rw [if_pos]
            rw [any_gi_true (f := badU) (i := k) (by omega) (by omega) (by unfold badU; rw [hp]; rfl)]
            simp)
          go_wp2_with (go_at_call 82; refine (in_any _ _ _ _).mono ?_; rw [hp]; rintro e w' ⟨rfl, rfl⟩)
          go_ret
          exact ⟨ret_int HE.out.symm, HBR.out⟩
        · have HP := Lib.hid hp
          go_wp2_with (go_at_call 82; refine (in_any _ _ _ _).mono ?_; rw [hp]; rintro e w' ⟨rfl, rfl⟩)
          go_roundw
          case rel =>
            refine ⟨k + 1, by omega, by go_num, by rw [Hf.out]; rfl, Lib.hid fun j hj => ?_, HW⟩
            rcases Nat.lt_succ_iff_lt_or_eq.1 hj with h | rfl
            · exact hbad.out j h
            · unfold badU; rw [HP.out]; rfl
          case measure => simp [intOf]; omega
      · obtain rfl : k = u.length := by omega
        have hs : (u.take u.length).foldl addW 0 = sumW u := by rw [List.take_length]; rfl
        rw [hs]
        have Ha := Lib.hid (show isFlowI l u = if 134217728 < sumW u then 3 else 0 by
          unfold isFlowI
          rw [any_gi_false (f := badU) hbad.out, if_neg (by simp [HN.out])])
        clear hs
        by_cases hgt : 134217728 < sumW u
        · have HE := Lib.hid (show isFlowI l u = 3 by rw [Ha.out, if_pos hgt])
          go_wp2
          go_ret
          exact ⟨ret_int HE.out.symm, HBR.out⟩
        · have HE := Lib.hid (show isFlowI l u = 0 by rw [Ha.out, if_neg hgt])
          go_wp2
          go_ret
          exact ⟨ret_int HE.out.symm, HBR.out⟩
  · have HE := Lib.hid (show isFlowI l u = 1 by
      have : ¬ u.length = l.length := by simp at hn; omega
      unfold isFlowI
      rw [if_pos (by simp [this])])
    go_enter Try.func48, Try.ntmps48
    go_wp2
    go_ret
    exact ⟨ret_int HE.out.symm, bel⟩

def moveI (left : List Int) (p : Lk × Int) : List Int :=
  si (si left p.1.b (wrap64 (gi left p.1.b + p.2))) p.1.a (wrap64 (gi (si left p.1.b (wrap64 (gi left p.1.b + p.2))) p.1.a - p.2))
def inOf (n : Nat) (l : List Lk) (u : List Int) : List Int := (l.zip u).foldl moveI (List.replicate n 0)
theorem moveI_length (s : List Int) (p : Lk × Int) : (moveI s p).length = s.length := by simp [moveI, si]
theorem foldl_moveI_length (l : List (Lk × Int)) : ∀ s : List Int, (l.foldl moveI s).length = s.length := by
  induction l with
  | nil => intro s; rfl
  | cons k l ih => intro s; rw [List.foldl_cons, ih, moveI_length]
theorem inP {n : Nat} {l : List Lk} {u : List Int} (hlk : ∀ k : Nat, k < l.length → 0 ≤ (gl l k).a ∧ (gl l k).a < n ∧ 0 ≤ (gl l k).b ∧ (gl l k).b < n) (hu : u.length = l.length) (h0 : ∀ k : Nat, k < l.length → 0 ≤ gi u k) (hB : 2 * sumN (fun k => gi u k) l.length ≤ 4611686018427387904) :
    ∀ m, m ≤ l.length → (((l.zip u).take m).foldl moveI (List.replicate n 0)).length = n ∧ ∀ v : Int, 0 ≤ v → v < n → gi (((l.zip u).take m).foldl moveI (List.replicate n 0)) v = netP l u v m ∧ -(2 * sumN (fun k => gi u k) m) ≤ gi (((l.zip u).take m).foldl moveI (List.replicate n 0)) v ∧ gi (((l.zip u).take m).foldl moveI (List.replicate n 0)) v ≤ 2 * sumN (fun k => gi u k) m
  | 0, _ => ⟨by simp, fun v v0 v1 => by
    simp only [List.take_zero, List.foldl_nil, netP, sumN]
    rw [gi_repj n 0 v v0 v1]
    omega⟩
  | m + 1, hm => by
    obtain ⟨i1, i2⟩ := inP hlk hu h0 hB m (by omega)
    rw [zipl_take l u m (by omega) (by omega), List.foldl_append]
    obtain ⟨L, hL⟩ : ∃ L, L = ((l.zip u).take m).foldl moveI (List.replicate n 0) := ⟨_, rfl⟩
    rw [← hL] at i1 i2 ⊢
    obtain ⟨a0, a1, b0, b1⟩ := hlk m (by omega)
    have hu0 := h0 m (by omega)
    have hs := sumN_le_total (g := fun k : Nat => gi u k) (m := l.length) (k := m + 1) h0 (by omega)
    have e : sumN (fun k : Nat => gi u k) (m + 1) = sumN (fun k : Nat => gi u k) m + gi u m := rfl
    have hb := i2 _ b0 b1
    have ha := i2 _ a0 a1
    show (moveI L (gl l m, gi u m)).length = n ∧ ∀ v : Int, 0 ≤ v → v < n → gi (moveI L (gl l m, gi u m)) v = _ ∧ _ ≤ gi (moveI L (gl l m, gi u m)) v ∧ gi (moveI L (gl l m, gi u m)) v ≤ _
    refine ⟨by rw [moveI_length]; exact i1, fun v v0 v1 => ?_⟩
    have e1 : wrap64 (gi L (gl l m).b + gi u m) = gi L (gl l m).b + gi u m := wrap_in (by omega)
    have h1 : ∀ v : Int, 0 ≤ v → gi (si L (gl l m).b (gi L (gl l m).b + gi u m)) v = if v = (gl l m).b then gi L (gl l m).b + gi u m else gi L v := fun v hv => gi_set_eq b0 (by omega) hv
    have h2 : gi (moveI L (gl l m, gi u m)) v = if v = (gl l m).a then gi (si L (gl l m).b (gi L (gl l m).b + gi u m)) (gl l m).a - gi u m else gi (si L (gl l m).b (gi L (gl l m).b + gi u m)) v := by
      have h3 := h1 _ a0
      show gi (si (si L (gl l m).b (wrap64 (gi L (gl l m).b + gi u m))) (gl l m).a (wrap64 (gi (si L (gl l m).b (wrap64 (gi L (gl l m).b + gi u m))) (gl l m).a - gi u m))) v = _
      rw [e1, gi_set_eq a0 (by rw [si_len]; omega) v0, wrap_in]
      split at h3 <;> omega
    have hv := i2 v v0 v1
    have hn : netP l u v (m + 1) = netP l u v m + gi u m * (ind (gl l m).b v - ind (gl l m).a v) := rfl
    rw [h2, h1 _ a0, h1 v v0, hn, e]
    unfold ind
    have s1 : ((gl l m).a = v) = (v = (gl l m).a) := propext ⟨Eq.symm, Eq.symm⟩
    have s2 : ((gl l m).b = v) = (v = (gl l m).b) := propext ⟨Eq.symm, Eq.symm⟩
    simp only [s1, s2]
    by_cases q1 : v = (gl l m).a
    · simp only [if_pos q1]
      by_cases q2 : v = (gl l m).b
      · simp only [if_pos q2, ← q1]
        refine ⟨by grind, by omega, by omega⟩
      · simp only [if_neg q2, ← q1]
        refine ⟨by grind, by omega, by omega⟩
    · simp only [if_neg q1]
      by_cases q2 : v = (gl l m).b
      · simp only [if_pos q2, ← q2]
        refine ⟨by grind, by omega, by omega⟩
      · simp only [if_neg q2]
        refine ⟨by grind, by omega, by omega⟩
/-- The reference's Carries is the program's carries. -/
theorem in_same {n : Nat} {l : List Lk} {w u : List Int} (hlk : ∀ k : Nat, k < l.length → 0 ≤ (gl l k).a ∧ (gl l k).a < n ∧ 0 ≤ (gl l k).b ∧ (gl l k).b < n) (hw : w.length = n) (hwb : ∀ i : Nat, i < n → -100000 ≤ gi w i ∧ gi w i ≤ 100000) (hu : u.length = l.length) (h0 : ∀ k : Nat, k < l.length → 0 ≤ gi u k) (hs : sumN (fun k => gi u k) l.length ≤ 268435456) :
    decide (inOf n l u = w) = carriesB l w u := by
  obtain ⟨h1, h2⟩ := inP hlk hu h0 (by omega) l.length (Nat.le_refl _)
  rw [List.take_of_length_le (by simp; omega)] at h1 h2
  rw [Bool.eq_iff_iff, carries_iff hlk hw hwb hu h0 hs, decide_eq_true_eq]
  constructor
  · intro h v hv
    have h3 := (h2 v (by omega) (by omega)).1
    unfold inOf at h
    rw [h] at h3
    exact h3.symm
  · intro h
    refine List.ext_getElem (by rw [hw]; exact h1) fun i q1 q2 => ?_
    have h3 := (h2 i (by omega) (by omega)).1
    have h4 := h i (by omega)
    have e1 : gi (inOf n l u) i = (inOf n l u)[i] := by simp [gi, List.getD_eq_getElem?_getD, q1]
    have e2 : gi w i = w[i] := by simp [gi, List.getD_eq_getElem?_getD, q2]
    rw [← e1, ← e2, ← h4]
    exact h3
set_option maxRecDepth 100000 in
set_option maxHeartbeats 2000000 in
theorem rcarries_any (n : Nat) (A : Option Addr) (c : Nat) (l : List Lk) (C : Option Addr) (f : Nat) (x : List Int) (B : Option Addr) (d : Nat) (u : List Int) (w : World) (hn : n ≤ 1000000) (hl : l.length ≤ 1000000) (hx : x.length ≤ 1000000) (hu : u.length = l.length)
    (h : LksAt w A l) (h1 : IntsAt w C x) (h2 : IntsAt w B u) (hr : ∀ k ∈ l, InR n k) :
    Calls Try.prog 49 #[.agg #[.int .i64 n, .slice A l.length c], .slice C x.length f, .slice B u.length d] w fun e w' => e = .returned (.bool (decide (inOf n l u = x))) ∧ Below w.heap.size w w' := by
  have hmk := mkInts n hn
  have HA := Lib.hid h
  have HX := Lib.hid h1
  have HU := Lib.hid h2
  have HR := Lib.hid hr
  have HUL := Lib.hid hu
  have HN := Lib.hid hn
  clear h h1 h2 hr
  obtain ⟨W1, hW1⟩ : ∃ W1, W1 = (w.alloc (.cells #[.int .i64 n, .slice A l.length c] 24)).alloc (.cells (madeCells #[.int .i64 0] n) 3) := ⟨_, rfl⟩
  have HB1 := Lib.hid (show Below w.heap.size w W1 by rw [hW1]; exact bel)
  have HQ := Lib.hid (show W1.cell? ⟨w.heap.size, 1, none⟩ = some (.slice A l.length c) by rw [hW1]; exact cell_alloc _ (by go_simp))
  have HG1 := Lib.hid (show RowI W1 (w.heap.size + 1) (List.replicate n 0) by rw [hW1]; have := RowI_made (w.alloc (.cells #[.int .i64 n, .slice A l.length c] 24)) n; simpa using this)
  have HNB := Lib.hid (show some (⟨w.heap.size, 1, none⟩ : Addr).block ≠ some (w.heap.size + 1) by simp)
  have HAA := Lib.hid (HA.out.below HB1.out)
  have HUU := Lib.hid (HU.out.below HB1.out)
  have HNA := Lib.hid (HA.out.apart (g := w.heap.size + 1) (by omega))
  have HNU := Lib.hid (HU.out.apart (g := w.heap.size + 1) (by omega))
  have HW1 := Lib.hid hW1
  clear hW1 hu hn
  go_enter Try.func49, Try.ntmps49
  go_upto_region 3 with fail
  rw [← HW1.out]
  clear HW1 hmk
  go_loopw [8, 9] (fun i _ wr => ∃ k : Nat, k ≤ u.length ∧ i = .int .i64 k ∧ Hid (RowI wr (w.heap.size + 1) (((l.zip u).take k).foldl moveI (List.replicate n 0))) ∧ Hid (W1.grownBy wr (some (w.heap.size + 1)))) (fun i _ _ => u.length - (intOf i).toNat)
  case atStart => exact ⟨0, by omega, rfl, HG1, Lib.hid (grown_refl _ _)⟩
  case round =>
    obtain ⟨k, hk, rfl, HZ, HG⟩ := hrel
    have Hlen := Lib.hid (show (((l.zip u).take k).foldl moveI (List.replicate n 0)).length = n by rw [foldl_moveI_length]; simp)
    generalize hz : ((l.zip u).take k).foldl moveI (List.replicate n 0) = z at HZ Hlen
    have HZE := Lib.hid hz
    clear hz
    have q1 := HG.out.cell HQ.out HNB.out
    have lq := World.block_lt_of_cell? _ _ q1
    have hub : u.length ≤ 1000000 := by have := HUL.out; omega
    by_cases hlt : k < u.length
    · have hlt2 : k < l.length := by have := HUL.out; omega
      obtain ⟨b, o, rfl, g1, g2, g3⟩ := (HAA.out.grown HG.out HNA.out).nat k hlt2
      obtain ⟨b', o', rfl, g4⟩ := (HUU.out.grown HG.out HNU.out).nat k hlt
      have hbl := World.block_lt_of_cell? _ _ g4
      have hbl2 := World.block_lt_of_cell? _ _ g1
      have hnb' : b' ≠ w.heap.size + 1 := fun e => HNU.out _ rfl (by omega) (by simp [e])
      dsimp only at hbl hbl2
      have hzz := HZ.out.lt
      obtain ⟨i1, i2, i3, i4⟩ := HR.out _ (gl_mem (l := l) (i := k) (by omega) (by omega))
      have Hf := Lib.hid (show ((l.zip u).take (k + 1)).foldl moveI (List.replicate n 0) = moveI z (gl l k, gi u k) by rw [zipl_take l u k hlt2 hlt, List.foldl_append, HZE.out]; rfl)
      generalize hq : gl l k = q at *
      generalize hy : gi u k = y at *
      have HQ2 := Lib.hid hq
      have HY := Lib.hid hy
      clear hq hy
      obtain ⟨w2, hw2⟩ : ∃ w2, w2 = wr.alloc (.cells #[.int .i64 q.a, .int .i64 q.b, .int .i64 q.m] 39) := ⟨_, rfl⟩
      have d0 : w2.cell? ⟨wr.heap.size, 0, none⟩ = some (.int .i64 q.a) := by rw [hw2]; go_simp
      have d1 : w2.cell? ⟨wr.heap.size, 1, none⟩ = some (.int .i64 q.b) := by rw [hw2]; go_simp
      have d3 : w2.cell? ⟨b', o' + k, none⟩ = some (.int .i64 y) := by rw [hw2]; exact cell_alloc _ g4
      have R2 := Lib.hid (show RowI w2 (w.heap.size + 1) z by rw [hw2]; exact HZ.out.alloc _)
      have G2 := Lib.hid (show W1.grownBy w2 (some (w.heap.size + 1)) by rw [hw2]; exact grown_alloc HG.out _)
      have c2 := R2.out.cell q.b.toNat (by have := Hlen.out; omega)
      have f2 := R2.out.frozen q.b.toNat
      have l2 := R2.out.lt
      rw [tn _ i3] at c2
      go_upto_region 6 with fail
      rw [← hw2]
      have hgs : wr.heap.size ≠ w.heap.size + 1 := by omega
      have hbl3 := World.block_lt_of_cell? _ _ d3
      have hbl4 := World.block_lt_of_cell? _ _ d0
      clear hw2 g1 g2 g3 g4 q1 lq hbl hbl2
      go_still_tail 14, (by kernel_rfl)
      go_wp2
      obtain ⟨w3, hw3⟩ : ∃ w3, w3 = (w2.setCell ⟨w.heap.size + 1, q.b.toNat, none⟩ (.int .i64 (wrap64 (gi z q.b + y)))).drew := ⟨_, rfl⟩
      rw [← hw3]
      have e0 : w3.cell? ⟨wr.heap.size, 0, none⟩ = some (.int .i64 q.a) := by rw [hw3]; exact cell_otherd d0 (by simp only; omega)
      have e3 : w3.cell? ⟨b', o' + k, none⟩ = some (.int .i64 y) := by rw [hw3]; exact cell_otherd d3 (by simp only; omega)
      have R3 := Lib.hid (show RowI w3 (w.heap.size + 1) (si z q.b (wrap64 (gi z q.b + y))) by rw [hw3]; exact R2.out.set _ _)
      have G3 := Lib.hid (show W1.grownBy w3 (some (w.heap.size + 1)) by rw [hw3]; exact grown_drew (grown_set G2.out _ _ (.inl rfl)))
      generalize hzz' : si z q.b (wrap64 (gi z q.b + y)) = z' at R3
      have HZ' := Lib.hid hzz'
      clear hzz' hw3
      have c3 := R3.out.cell q.a.toNat (by rw [← HZ'.out]; have := Hlen.out; simp [si]; omega)
      have f3 := R3.out.frozen q.a.toNat
      have l3 := R3.out.lt
      have hbl5 := World.block_lt_of_cell? _ _ e3
      have hbl6 := World.block_lt_of_cell? _ _ e0
      rw [tn _ i1] at c3
      clear c2 f2 d0 d1 d3 hbl3 hbl4 l2
      go_still_tail 14, (by kernel_rfl)
      go_wp2
      go_roundw
      case rel => exact ⟨k + 1, by omega, by go_num, Lib.hid (by rw [Hf.out]; unfold moveI; rw [HZ'.out]; exact R3.out.set _ _), Lib.hid (grown_drew (grown_set G3.out _ _ (.inl rfl)))⟩
      case measure => simp [intOf]; omega
    · obtain rfl : k = u.length := by omega
      have HZZ := Lib.hid (show inOf n l u = z by rw [← HZE.out, List.take_of_length_le (by simp; omega)]; rfl)
      have hcall := same_any (some ⟨w.heap.size + 1, 0, none⟩) n z C f x wr (by have := Hlen.out; have := HN.out; omega) HZ.out.ints ((HX.out.below HB1.out).grown HG.out (HX.out.apart (g := w.heap.size + 1) (by omega)))
      rw [Hlen.out] at hcall
      have HC := Lib.hid hcall
      clear hcall
      go_wp2_with (go_at_call 23; refine HC.out.mono ?_; rintro e w2 ⟨rfl, hb⟩)
      go_ret
      exact ⟨by rw [HZZ.out]; rfl, (below_of_grown HB1.out HG.out HB1.out.size (by omega)).trans (hb.mono (below_of_grown HB1.out HG.out HB1.out.size (by omega)).size)⟩

end Go.Proofs.Ytmhiiomejopaoaa
