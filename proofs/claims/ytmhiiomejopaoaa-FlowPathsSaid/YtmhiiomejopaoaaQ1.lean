/- The flow walks: small, light, In, Fits, Value. -/
import Derived.Test.YtmhiiomejopaoaaN2
namespace Go.Proofs.Ytmhiiomejopaoaa
set_option linter.all false
open Go.RowKit

def inB (n lo hi : Int) : Bool := decide (lo ≤ n) && decide (n ≤ hi)
set_option maxHeartbeats 400000 in
theorem in_any (a b c : Int) (w : World) :
    Calls Try.prog 82 #[.int .i64 a, .int .i64 b, .int .i64 c] w fun e w' => e = .returned (.bool (withinB a b c)) ∧ w = w' := by
  unfold withinB
  go_enter Try.func82, Try.ntmps82
  go_wp2
  all_goals (go_ret; exact ⟨by simp [*]; try omega, rfl⟩)
set_option maxHeartbeats 400000 in
theorem lwithin_any (a : Int) (w : World) :
    Calls Try.prog 38 #[.int .i64 a] w fun e w' => e = .returned (.bool (withinB a (-1048576) 1048576)) ∧ w = w' := by
  go_enter Try.func38, Try.ntmps38
  go_wp2_with (go_at_call 82; refine (in_any _ _ _ _).mono ?_; rintro e w' ⟨rfl, rfl⟩)
  go_ret
  exact ⟨rfl, rfl⟩
def smallB (n : Int) (m : Nat) : Bool := (decide (n ≤ 12) && decide (m ≤ 36)) || (decide (260 < m) && decide (m ≤ 270))
def lightB (n : Int) (m : Nat) : Bool := decide (n ≤ 8) && decide (m ≤ 18)
set_option maxRecDepth 100000 in
set_option maxHeartbeats 1000000 in
theorem small_any (n : Int) (A : Option Addr) (c m : Nat) (w : World) :
    Calls Try.prog 27 #[.agg #[.int .i64 n, .slice A m c]] w fun e w' => e = .returned (.bool (smallB n m)) ∧ Below w.heap.size w w' := by
  unfold smallB
  go_enter Try.func27, Try.ntmps27
  go_wp2
  all_goals (go_ret; refine ⟨ret_bool ?_, bel⟩)
  all_goals (by_cases e1 : n ≤ 12 <;> by_cases e2 : m ≤ 36 <;> by_cases e3 : 260 < m <;> by_cases e4 : m ≤ 270 <;> first | omega | (simp [e1, e2, e3, e4]; done) | (simp [e1, e2, e3, e4]; omega))
set_option maxRecDepth 100000 in
set_option maxHeartbeats 1000000 in
theorem light_any (n : Int) (A : Option Addr) (c m : Nat) (w : World) :
    Calls Try.prog 16 #[.agg #[.int .i64 n, .slice A m c]] w fun e w' => e = .returned (.bool (lightB n m)) ∧ Below w.heap.size w w' := by
  unfold lightB
  go_enter Try.func16, Try.ntmps16
  go_wp2
  all_goals (go_ret; refine ⟨ret_bool ?_, bel⟩)
  all_goals (first | (simp [*]; done) | (simp [*]; omega))
def fitsR (n : Int) (l : List Lk) (x : List Int) : Bool × Int := if checkL n l ≠ 0 then (false, checkL n l) else if areB n x = false then (false, 1) else (fitsB x l, 0)
theorem are_len {n : Int} {x : List Int} (h : areB n x = true) : (x.length : Int) = n := by
  unfold areB at h
  simp only [Bool.and_eq_true, decide_eq_true_eq] at h
  exact h.1
set_option maxRecDepth 100000 in
set_option maxHeartbeats 1000000 in
theorem Fits_any (n : Int) (A : Option Addr) (c : Nat) (l : List Lk) (B : Option Addr) (d : Nat) (x : List Int) (w : World) (hl : l.length ≤ 9223372036854775807) (hx : x.length ≤ 1000000) (h : LksAt w A l) (h' : IntsAt w B x) :
    Calls Try.prog 37 #[.agg #[.int .i64 n, .slice A l.length c], .slice B x.length d] w fun e w' => e = .returned (.tuple #[.bool (fitsR n l x).1, .int .i64 (fitsR n l x).2]) ∧ Below w.heap.size w w' := by
  have HA := Lib.hid h
  have HX := Lib.hid h'
  clear h h'
  by_cases hc : checkL n l = 0
  · have hc' : (checkL n l != 0) = false := by simpa using hc
    have hok := check_ok hc
    have HC := Lib.hid hc
    have HI := Lib.hid (show areB n x = true → ∀ k ∈ l, InR x.length k from fun ha k hk => by rw [are_len ha]; exact (hok.lk k hk).1)
    have HLL := Lib.hid hok.l1
    clear hc hok
    cases har : areB n x
    · have HR := Lib.hid (show fitsR n l x = (false, 1) by unfold fitsR; rw [if_neg (by simpa using HC.out), if_pos har])
      go_enter Try.func37, Try.ntmps37
      go_wp2_with (first | (go_at_call 53; refine (check_any n A c l _ hl (HA.out.alloc _)).mono ?_; rintro e w1 ⟨rfl, hb⟩; have HB := Lib.hid (boxed hb).1; obtain ⟨c0, c1, lw⟩ := (boxed hb).2; clear hb) | (go_at_call 83; refine (are_any n _ B d x _ (by omega) (HX.out.below HB.out)).mono ?_; rintro e w2 ⟨rfl, hb⟩; have HB2 := Lib.hid (below_trans HB.out hb); clear hb))
      go_ret2
      exact ⟨by rw [HR.out]; rfl, HB2.out⟩
    · have HIN := Lib.hid (HI.out har)
      have HR := Lib.hid (show fitsR n l x = (fitsB x l, 0) by unfold fitsR; rw [if_neg (by simpa using HC.out), if_neg (by rw [har]; simp)])
      go_enter Try.func37, Try.ntmps37
      go_wp2_with (first | (go_at_call 53; refine (check_any n A c l _ hl (HA.out.alloc _)).mono ?_; rintro e w1 ⟨rfl, hb⟩; have HB := Lib.hid (boxed hb).1; obtain ⟨c0, c1, lw⟩ := (boxed hb).2; clear hb) | (go_at_call 83; refine (are_any n _ B d x _ (by omega) (HX.out.below HB.out)).mono ?_; rintro e w2 ⟨rfl, hb⟩; have HB2 := Lib.hid (below_trans HB.out hb); have c0 := cell_below hb c0; have c1 := cell_below hb c1; have lw := World.block_lt_of_cell? _ _ c0; clear hb) | (go_at_call 84; refine (fits_any n A c l B d x _ (by have := HLL.out; omega) (by omega) (HA.out.below HB2.out) (HX.out.below HB2.out) HIN.out).mono ?_; rintro e w3 ⟨rfl, hb⟩; have HB3 := Lib.hid (below_trans HB2.out hb); clear hb))
      go_ret2
      exact ⟨by rw [HR.out]; rfl, HB3.out⟩
  · have hc' : (checkL n l != 0) = true := by simpa using hc
    have HR := Lib.hid (show fitsR n l x = (false, checkL n l) by unfold fitsR; rw [if_pos (by simpa using hc)])
    clear hc
    go_enter Try.func37, Try.ntmps37
    go_wp2_with (go_at_call 53; refine (check_any n A c l _ hl (HA.out.alloc _)).mono ?_; rintro e w1 ⟨rfl, hb⟩; have HB := Lib.hid (boxed hb).1; clear hb)
    go_ret2
    exact ⟨by rw [HR.out]; rfl, HB.out⟩
def valueR (n : Int) (l : List Lk) (w x : List Int) : Int × Int := if askedI n l w ≠ 0 then (0, askedI n l w) else if areB n x = false then (0, 1) else (valueI w x, 0)
set_option maxRecDepth 100000 in
set_option maxHeartbeats 1000000 in
theorem Value_any (n : Int) (A : Option Addr) (c : Nat) (l : List Lk) (C : Option Addr) (f : Nat) (u : List Int) (B : Option Addr) (d : Nat) (x : List Int) (w : World) (hl : l.length ≤ 9223372036854775807) (hu : u.length ≤ 1000000) (hx : x.length ≤ 1000000) (h : LksAt w A l) (h1 : IntsAt w C u) (h' : IntsAt w B x) :
    Calls Try.prog 39 #[.agg #[.int .i64 n, .slice A l.length c], .slice C u.length f, .slice B x.length d] w fun e w' => e = .returned (.tuple #[.int .i64 (valueR n l u x).1, .int .i64 (valueR n l u x).2]) ∧ Below w.heap.size w w' := by
  have HA := Lib.hid h
  have HU := Lib.hid h1
  have HX := Lib.hid h'
  clear h h1 h'
  by_cases hc : askedI n l u = 0
  · have hc' : (askedI n l u != 0) = false := by simpa using hc
    have HC := Lib.hid hc
    have HUX := Lib.hid (show areB n x = true → u.length ≤ x.length from fun ha => by have := are_len ha; have := weights_len (asked_ok hc).2; omega)
    clear hc
    cases har : areB n x
    · have HR := Lib.hid (show valueR n l u x = (0, 1) by unfold valueR; rw [if_neg (by simpa using HC.out), if_pos har])
      go_enter Try.func39, Try.ntmps39
      go_wp2_with (first | (go_at_call 76; refine (asked_any n A c l C f u _ hl (by omega) (HA.out.alloc _) (HU.out.alloc _)).mono ?_; rintro e w1 ⟨rfl, hb⟩; have HB := Lib.hid (boxed hb).1; obtain ⟨c0, c1, lw⟩ := (boxed hb).2; clear hb) | (go_at_call 83; refine (are_any n _ B d x _ (by omega) (HX.out.below HB.out)).mono ?_; rintro e w2 ⟨rfl, hb⟩; have HB2 := Lib.hid (below_trans HB.out hb); clear hb))
      go_ret2
      exact ⟨by rw [HR.out]; rfl, HB2.out⟩
    · have HUL := Lib.hid (HUX.out har)
      have HR := Lib.hid (show valueR n l u x = (valueI u x, 0) by unfold valueR; rw [if_neg (by simpa using HC.out), if_neg (by rw [har]; simp)])
      go_enter Try.func39, Try.ntmps39
      go_wp2_with (first | (go_at_call 76; refine (asked_any n A c l C f u _ hl (by omega) (HA.out.alloc _) (HU.out.alloc _)).mono ?_; rintro e w1 ⟨rfl, hb⟩; have HB := Lib.hid (boxed hb).1; obtain ⟨c0, c1, lw⟩ := (boxed hb).2; clear hb) | (go_at_call 83; refine (are_any n _ B d x _ (by omega) (HX.out.below HB.out)).mono ?_; rintro e w2 ⟨rfl, hb⟩; have HB2 := Lib.hid (below_trans HB.out hb); clear hb) | (go_at_call 85; refine (value_any C f u B d x _ (by omega) HUL.out (HU.out.below HB2.out) (HX.out.below HB2.out)).mono ?_; rintro e w3 ⟨rfl, hb⟩; have HB3 := Lib.hid (below_trans HB2.out hb); clear hb))
      go_ret2
      exact ⟨by rw [HR.out]; rfl, HB3.out⟩
  · have hc' : (askedI n l u != 0) = true := by simpa using hc
    have HR := Lib.hid (show valueR n l u x = (0, askedI n l u) by unfold valueR; rw [if_pos (by simpa using hc)])
    clear hc
    go_enter Try.func39, Try.ntmps39
    go_wp2_with (go_at_call 76; refine (asked_any n A c l C f u _ hl (by omega) (HA.out.alloc _) (HU.out.alloc _)).mono ?_; rintro e w1 ⟨rfl, hb⟩; have HB := Lib.hid (boxed hb).1; clear hb)
    go_ret2
    exact ⟨by rw [HR.out]; rfl, HB.out⟩
end Go.Proofs.Ytmhiiomejopaoaa
