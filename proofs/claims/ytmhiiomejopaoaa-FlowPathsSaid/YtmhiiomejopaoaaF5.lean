/- The flow walks, fifth part. -/
import Derived.Test.YtmhiiomejopaoaaF4
namespace Go.Proofs.Ytmhiiomejopaoaa
set_option linter.all false
open Go.RowKit

def badLk (n : Int) (l : Lk) : Bool := !nodeB n l.a || (!nodeB n l.b || (l.a == l.b || !withinB l.m (-17179869184) 17179869184))
def checkL (n : Int) (l : List Lk) : Int := if !withinB n 1 50 then 1 else if 260 < l.length then 2 else if l.any (badLk n) then 1 else 0
set_option maxRecDepth 100000 in
set_option maxHeartbeats 400000 in
theorem check_any (n : Int) (A : Option Addr) (c : Nat) (l : List Lk) (w : World) (hl : l.length ≤ 9223372036854775807) (h : LksAt w A l) :
    Calls Try.prog 53 #[.agg #[.int .i64 n, .slice A l.length c]] w fun e w' => e = .returned (.int .i64 (checkL n l)) ∧ Below w.heap.size w w' := by
  have H := Lib.hid h
  clear h
  go_enter Try.func53, Try.ntmps53
  cases hn : withinB n 1 50
  · go_wp2_with (go_at_call 92; refine (within_any _ _ _ _).mono ?_; rintro e w' ⟨rfl, rfl⟩)
    go_ret
    exact ⟨ret_int (by simp [checkL, hn]), bel⟩
  · by_cases hn3 : l.length ≤ 260
    · go_wp2_with (go_at_call 92; refine (within_any _ _ _ _).mono ?_; rintro e w' ⟨rfl, rfl⟩)
      go_loopw [16] (fun i wr => ∃ k : Nat, k ≤ l.length ∧ i = .int .i64 k ∧ Hid (∀ j : Nat, j < k → badLk n (gl l j) = false) ∧ Below w.heap.size w wr ∧ wr.cell? ⟨w.heap.size, 0, none⟩ = some (.int .i64 n) ∧ wr.cell? ⟨w.heap.size, 1, none⟩ = some (.slice A l.length c)) (fun i _ => l.length - (intOf i).toNat)
      case atStart => exact ⟨0, by omega, rfl, Lib.hid (by simp), bel, by simp, by simp⟩
      case round =>
        obtain ⟨k, hk, rfl, hbad, hB, hc0, hc1⟩ := hrel
        have hz := World.block_lt_of_cell? wr _ hc0
        dsimp only at hz
        by_cases hlt : k < l.length
        · obtain ⟨b, o, rfl, g1, g2, g3⟩ := (H.out.below hB).nat k hlt
          generalize hx : gl l k = x at g1 g2 g3
          have Hx := Lib.hid hx
          clear hx
          have Hone := Lib.hid (fun (hb : badLk n x = true) => any_gl_true (f := badLk n) (l := l) (i := (k : Int)) (by omega) (by omega) (by rw [Hx.out]; exact hb))
          have Hn := Lib.hid hn
          clear hn
          go_wp2_with (first | (go_at_call 92; refine (within_any _ _ _ _).mono ?_; rintro e w' ⟨rfl, rfl⟩) | (go_at_call 80; refine (node_any _ _ _ _).mono ?_; rintro e w1 ⟨rfl, rfl⟩))
          all_goals first
            | (go_ret; exact ⟨ret_int (by rw [checkL, Hn.out, Hone.out (by simp_all [badLk])]; simp [show ¬ 260 < l.length by omega]), bel⟩)
            | (refine ⟨⟨k + 1, by omega, by go_num, Lib.hid fun j hj => ?_, bel, cel, cel⟩, by simp [intOf]; omega⟩
               rcases Nat.lt_succ_iff_lt_or_eq.1 hj with h | rfl
               · exact hbad.out j h
               · rw [Hx.out]; simp_all [badLk])
        · go_wp2
          go_ret
          obtain rfl : k = l.length := by omega
          exact ⟨ret_int (by rw [checkL, any_gl_false hbad.out, hn]; simp [show ¬ 260 < l.length by omega]), hB⟩
    · go_wp2_with (go_at_call 92; refine (within_any _ _ _ _).mono ?_; rintro e w' ⟨rfl, rfl⟩)
      go_ret
      exact ⟨ret_int (by simp [checkL, hn, show 260 < l.length by omega]), bel⟩

def askedI (n : Int) (l : List Lk) (x : List Int) : Int := if checkL n l ≠ 0 then checkL n l else if weightsB n x then 0 else 1
set_option maxHeartbeats 400000 in
theorem asked_any (n : Int) (A : Option Addr) (c : Nat) (l : List Lk) (B : Option Addr) (d : Nat) (x : List Int) (w : World) (hl : l.length ≤ 9223372036854775807) (hx : x.length ≤ 140737488351232) (h : LksAt w A l) (h' : IntsAt w B x) :
    Calls Try.prog 76 #[.agg #[.int .i64 n, .slice A l.length c], .slice B x.length d] w fun e w' => e = .returned (.int .i64 (askedI n l x)) ∧ Below w.heap.size w w' := by
  have H := Lib.hid h
  have H' := Lib.hid h'
  clear h h'
  by_cases hc : checkL n l = 0
  · have hc' : (checkL n l != 0) = false := by simpa using hc
    have HC := Lib.hid hc
    clear hc
    cases hw : weightsB n x
    all_goals
      go_enter Try.func76, Try.ntmps76
      go_wp2_with (go_at_call 53; refine (check_any n A c l _ hl (H.out.alloc _)).mono ?_; rintro e w1 ⟨rfl, hb⟩; have hb' := Lib.hid hb; obtain ⟨hbc, hbf⟩ := bcell hb; clear hb)
      have hb2 := below_trans (bel : Below w.heap.size w (w.alloc (.cells #[.int .i64 n, .slice A l.length c] 24))) hb'.out
      have HB2 := Lib.hid hb2
      clear hb2
      go_wp2_with (go_at_call 107; refine (weights_any n _ B d x _ hx (H'.out.below HB2.out)).mono ?_; rintro e w2 ⟨rfl, hb3⟩)
      go_wp2
      go_ret
      exact ⟨ret_int (by simp [askedI, HC.out, hw]), below_trans HB2.out hb3⟩
  · have hc' : (checkL n l != 0) = true := by simpa using hc
    have HC := Lib.hid hc
    clear hc
    go_enter Try.func76, Try.ntmps76
    go_wp2_with (go_at_call 53; refine (check_any n A c l _ hl (H.out.alloc _)).mono ?_; rintro e w1 ⟨rfl, hb⟩)
    go_ret
    exact ⟨ret_int (by simp [askedI, HC.out]), below_trans bel hb⟩

def mulAdd (s : Int) (p : Int × Int) : Int := wrap64 (s + wrap64 (p.1 * p.2))
def valueI (w x : List Int) : Int := (w.zip x).foldl mulAdd 0
theorem zip_take (w x : List Int) (k : Nat) (h1 : k < w.length) (h2 : k < x.length) : (w.zip x).take (k + 1) = (w.zip x).take k ++ [(gi w k, gi x k)] := by
  rw [List.take_succ_eq_append_getElem (by simp; omega)]; simp [gi, List.getD_eq_getElem?_getD, h1, h2]
set_option maxRecDepth 100000 in
set_option maxHeartbeats 400000 in
theorem value_any (A : Option Addr) (c : Nat) (u : List Int) (B : Option Addr) (d : Nat) (x : List Int) (w : World) (hl : u.length ≤ 140737488351232) (hx : u.length ≤ x.length) (h : IntsAt w A u) (h' : IntsAt w B x) :
    Calls Try.prog 85 #[.slice A u.length c, .slice B x.length d] w fun e w' => e = .returned (.int .i64 (valueI u x)) ∧ Below w.heap.size w w' := by
  have H := Lib.hid h
  have H' := Lib.hid h'
  clear h h'
  go_enter Try.func85, Try.ntmps85
  go_wp2
  go_loopw [5, 6, 9] (fun s _ i wr => ∃ k : Nat, k ≤ u.length ∧ i = .int .i64 k ∧ s = .int .i64 (((u.zip x).take k).foldl mulAdd 0) ∧ Hid (Below w.heap.size w wr)) (fun _ _ i _ => u.length - (intOf i).toNat)
  case atStart => exact ⟨0, by omega, rfl, rfl, Lib.hid (Below.refl _ _)⟩
  case round =>
    obtain ⟨k, hk, rfl, rfl, HB⟩ := hrel
    by_cases hlt : k < u.length
    · obtain ⟨b, o, rfl, g1⟩ := (H.out.below HB.out).nat k hlt
      obtain ⟨b', o', rfl, g2⟩ := (H'.out.below HB.out).nat k (by omega)
      have hlt2 : k < x.length := by omega
      have Hf := Lib.hid (show ((u.zip x).take (k + 1)).foldl mulAdd 0 = wrap64 (((u.zip x).take k).foldl mulAdd 0 + wrap64 (gi u k * gi x k)) by rw [zip_take u x k hlt hlt2, List.foldl_append]; rfl)
      go_wp2
      go_quiet (fail)
      go_wp2
      go_roundw
      case rel => exact ⟨k + 1, by omega, by go_num, by rw [Hf.out], Lib.hid (below_drews HB.out _)⟩
      case measure => simp [intOf]; omega
    · go_wp2
      go_ret
      obtain rfl : k = u.length := by omega
      have e : (u.zip x).take u.length = u.zip x := List.take_of_length_le (by simp; omega)
      rw [e]
      exact ⟨rfl, HB.out⟩
end Go.Proofs.Ytmhiiomejopaoaa
