/- The flow walks, sixth part. -/
import Derived.Test.YtmhiiomejopaoaaF5
namespace Go.Proofs.Ytmhiiomejopaoaa
set_option linter.all false
open Go.RowKit

theorem gi_map_m (l : List Lk) (k : Nat) (h : k < l.length) : gi (l.map (·.m)) k = (gl l k).m := by
  simp [gi, gl, List.getD_eq_getElem?_getD, h]
def costI (l : List Lk) (u : List Int) : Int := valueI u (l.map (·.m))
set_option maxRecDepth 100000 in
set_option maxHeartbeats 400000 in
theorem cost_any (n : Int) (A : Option Addr) (c : Nat) (l : List Lk) (B : Option Addr) (d : Nat) (u : List Int) (w : World) (hl : l.length ≤ 140737488351232) (hu : u.length = l.length) (h : LksAt w A l) (h' : IntsAt w B u) :
    Calls Try.prog 70 #[.agg #[.int .i64 n, .slice A l.length c], .slice B u.length d] w fun e w' => e = .returned (.int .i64 (costI l u)) ∧ Below w.heap.size w w' := by
  have H := Lib.hid h
  have H' := Lib.hid h'
  have HU := Lib.hid hu
  clear h h' hu
  go_enter Try.func70, Try.ntmps70
  go_wp2
  go_loopw [5, 6, 11] (fun s _ i wr => ∃ k : Nat, k ≤ l.length ∧ i = .int .i64 k ∧ s = .int .i64 (((u.zip (l.map (·.m))).take k).foldl mulAdd 0) ∧ Hid (Below w.heap.size w wr)) (fun _ _ i _ => l.length - (intOf i).toNat)
  case atStart => exact ⟨0, by omega, rfl, rfl, Lib.hid bel⟩
  case round =>
    obtain ⟨k, hk, rfl, rfl, HB⟩ := hrel
    by_cases hlt : k < l.length
    · have hlt2 : k < u.length := by have := HU.out; omega
      obtain ⟨b, o, rfl, g1, g2, g3⟩ := (H.out.below HB.out).nat k hlt
      obtain ⟨b', o', rfl, g4⟩ := (H'.out.below HB.out).nat k hlt2
      have hz := World.block_lt_of_cell? _ _ g4
      dsimp only at hz
      have hbs := HB.out.size
      have Hf := Lib.hid (show ((u.zip (l.map (·.m))).take (k + 1)).foldl mulAdd 0 = wrap64 (((u.zip (l.map (·.m))).take k).foldl mulAdd 0 + wrap64 (gi u k * (gl l k).m)) by rw [zip_take u _ k hlt2 (by simpa using hlt), List.foldl_append, gi_map_m l k hlt]; rfl)
      go_wp2
      go_quiet (fail)
      go_wp2
      go_roundw
      case rel => exact ⟨k + 1, by omega, by go_num, by rw [Hf.out], Lib.hid (below_drews (HB.out.alloc hbs _) _)⟩
      case measure => simp [intOf]; omega
    · go_wp2
      go_ret
      obtain rfl : k = l.length := by omega
      have e : (u.zip (l.map (·.m))).take l.length = u.zip (l.map (·.m)) := List.take_of_length_le (by simp; omega)
      rw [e]
      exact ⟨rfl, HB.out⟩

theorem cf113 : ∀ args w, (callFunc 113 args).run Try.prog w = .ok (.enter 113 args) w := fun _ _ => by kernel_rfl
theorem cf114 : ∀ args w, (callFunc 114 args).run Try.prog w = .ok (.enter 114 args) w := fun _ _ => by kernel_rfl
def badU (v : Int) : Bool := !withinB v 0 134217728
set_option maxHeartbeats 400000 in
theorem isFlow1_any (a : Int) (w : World) : Calls Try.prog 113 #[.int .i64 a] w fun e w' => e = .returned (.bool (badU a)) ∧ w = w' := by
  go_enter Try.func113, Try.ntmps113
  go_wp2_with (go_at_call 92; refine (within_any _ _ _ _).mono ?_; rintro e w' ⟨rfl, rfl⟩)
  go_ret
  exact ⟨rfl, rfl⟩
set_option maxHeartbeats 400000 in
theorem carries1_any (a : Int) (w : World) : Calls Try.prog 114 #[.int .i64 a] w fun e w' => e = .returned (.bool (a != 0)) ∧ w = w' := by
  go_enter Try.func114, Try.ntmps114
  go_wp2
  go_ret
  exact ⟨rfl, rfl⟩
def isFlowI (l : List Lk) (u : List Int) : Int := if (u.length != l.length) || u.any badU then 1 else if 134217728 < sumW u then 3 else 0
set_option maxRecDepth 100000 in
set_option maxHeartbeats 400000 in
theorem isFlow_any (n : Int) (A : Option Addr) (c : Nat) (l : List Lk) (B : Option Addr) (d : Nat) (u : List Int) (w : World) (hu : u.length ≤ 140737488351232) (h' : IntsAt w B u) :
    Calls Try.prog 87 #[.agg #[.int .i64 n, .slice A l.length c], .slice B u.length d] w fun e w' => e = .returned (.int .i64 (isFlowI l u)) ∧ Below w.heap.size w w' := by
  have H' := Lib.hid h'
  clear h'
  have HC : TestsInt 113 #[] badU u (w.alloc (.cells #[.int .i64 n, .slice A l.length c] 24)) := fun y W _ _ => (isFlow1_any y W).mono fun e W' ⟨h1, h2⟩ => ⟨h1, h2 ▸ Below.refl _ _⟩
  by_cases hn : u.length = l.length
  · have hn' : ((u.length : Int) != (l.length : Int)) = false := by simp; omega
    have HN := Lib.hid hn
    clear hn
    cases ha : u.any badU
    · have HA := Lib.hid ha
      go_enter Try.func87, Try.ntmps87
      go_wp2_with (go_at_call 94; refine (containsFunc_int 113 #[] badU B d u _ hu (H'.out.alloc _) cf113 HC).mono ?_; rintro e w1 ⟨rfl, hb⟩; have HB1 := Lib.hid (below_trans (bel : Below w.heap.size w _) hb); clear hb)
      clear ha
      go_loopw [5, 7, 20] (fun s _ i wr => ∃ k : Nat, k ≤ u.length ∧ i = .int .i64 k ∧ s = .int .i64 ((u.take k).foldl addW 0) ∧ wr = w1) (fun _ _ i _ => u.length - (intOf i).toNat)
      case atStart => exact ⟨0, by omega, rfl, rfl, rfl⟩
      case round =>
        obtain ⟨k, hk, rfl, rfl, rfl⟩ := hrel
        by_cases hlt : k < u.length
        · obtain ⟨b, o, rfl, g1⟩ := (H'.out.below HB1.out).nat k hlt
          have Hf := Lib.hid (fold_gi addW 0 u k hlt)
          go_wp2
          go_roundw
          case rel => exact ⟨k + 1, by omega, by go_num, by rw [Hf.out]; rfl, trivial⟩
          case measure => simp [intOf]; omega
        · obtain rfl : k = u.length := by omega
          have hs : (u.take u.length).foldl addW 0 = sumW u := by rw [List.take_length]; rfl
          rw [hs]
          have HN2 : (u.length != l.length) = false := by have := HN.out; simp; omega
          have HN3 := Lib.hid HN2
          clear HN2
          by_cases hgt : 134217728 < sumW u
          all_goals
            go_wp2
            go_ret
            exact ⟨ret_int (by simp only [isFlowI, HA.out, HN3.out]; simp [hgt]), HB1.out⟩
    · have HA := Lib.hid ha
      go_enter Try.func87, Try.ntmps87
      go_wp2_with (go_at_call 94; refine (containsFunc_int 113 #[] badU B d u _ hu (H'.out.alloc _) cf113 HC).mono ?_; rintro e w1 ⟨rfl, hb⟩)
      go_ret
      exact ⟨ret_int (by simp [isFlowI, HA.out]), below_trans bel hb⟩
  · have hn' : ((u.length : Int) != (l.length : Int)) = true := by simp; omega
    go_enter Try.func87, Try.ntmps87
    go_wp2
    go_ret
    exact ⟨ret_int (by simp [isFlowI, hn]), bel⟩
end Go.Proofs.Ytmhiiomejopaoaa
