/- The flow walks, second part. -/
import Derived.Test.YtmhiiomejopaoaaF1
namespace Go.Proofs.Ytmhiiomejopaoaa
set_option linter.all false
open Go.RowKit

def overB (x : List Int) (k : Lk) : Bool := decide (wrap64 (gi x k.a + k.m) < gi x k.b)
def InR (n : Int) (k : Lk) : Prop := 0 ≤ k.a ∧ k.a < n ∧ 0 ≤ k.b ∧ k.b < n
set_option maxHeartbeats 400000 in
theorem fits1_any (y : Lk) (g : Nat) (A : Option Addr) (c : Nat) (x : List Int) (w : World) (hl : x.length ≤ 140737488351232) (h : IntsAt w A x) (hg : w.cell? ⟨g, 0, none⟩ = some (.slice A x.length c)) (hy : InR x.length y) :
    Calls Try.prog 111 #[.agg #[.int .i64 y.a, .int .i64 y.b, .int .i64 y.m], .pointer (some ⟨g, 0, none⟩)] w fun e w' => e = .returned (.bool (overB x y)) ∧ Below w.heap.size w w' := by
  obtain ⟨h1, h2, h3, h4⟩ := hy
  obtain ⟨b, o, rfl, ga⟩ := h _ h1 h2
  obtain ⟨b', o', e, gb⟩ := h _ h3 h4
  obtain ⟨rfl, rfl⟩ : b = b' ∧ o = o' := by simpa using e
  clear e h
  unfold overB
  have hz := World.block_lt_of_cell? w _ hg
  have hz2 := World.block_lt_of_cell? w _ ga
  dsimp only at hz hz2
  go_enter Try.func111, Try.ntmps111
  go_wp2
  go_quiet (fail)
  go_wp2
  go_ret
  exact ⟨rfl, bel⟩

def fitsB (x : List Int) (l : List Lk) : Bool := !l.any (overB x)
set_option maxHeartbeats 400000 in
theorem fits_any (n : Int) (A : Option Addr) (c : Nat) (l : List Lk) (B : Option Addr) (d : Nat) (x : List Int) (w : World) (hl : l.length ≤ 140737488351232) (hx : x.length ≤ 140737488351232) (h : LksAt w A l) (h' : IntsAt w B x) (hr : ∀ k ∈ l, InR x.length k) :
    Calls Try.prog 84 #[.agg #[.int .i64 n, .slice A l.length c], .slice B x.length d] w fun e w' => e = .returned (.bool (fitsB x l)) ∧ Below w.heap.size w w' := by
  have H := Lib.hid h
  have H' := Lib.hid h'
  have HR := Lib.hid hr
  clear h h' hr
  have HC : TestsLk 111 #[.pointer (some ⟨w.heap.size + 1, 0, none⟩)] (overB x) l ((w.alloc (.cells #[.int .i64 n, .slice A l.length c] 24)).alloc (.cells #[.slice B x.length d] 25)) := fun y W hy hW =>
    fits1_any y _ B d x W hx (((H'.out.alloc _).alloc _).below hW) (cell_below hW (by go_simp)) (HR.out y hy)
  go_enter Try.func84, Try.ntmps84
  go_wp2_with (go_at_call 110; refine (containsFunc_lk 111 _ (overB x) A c l _ hl ((H.out.alloc _).alloc _) cf111 HC).mono ?_; rintro e w1 ⟨rfl, hb⟩)
  go_ret
  exact ⟨rfl, below_trans bel hb⟩

def addW (s x : Int) : Int := wrap64 (s + x)
def sumW (l : List Int) : Int := l.foldl addW 0
def weightsB (n : Int) (w : List Int) : Bool := !w.any (fun x => !withinB x (-100000) 100000) && (decide ((w.length : Int) = n) && (sumW w == 0))
set_option maxHeartbeats 400000 in
theorem weights_any (n : Int) (L : Value) (A : Option Addr) (c : Nat) (x : List Int) (w : World) (hl : x.length ≤ 140737488351232) (h : IntsAt w A x) :
    Calls Try.prog 107 #[.agg #[.int .i64 n, L], .slice A x.length c] w fun e w' => e = .returned (.bool (weightsB n x)) ∧ Below w.heap.size w w' := by
  have H := Lib.hid h
  clear h
  go_enter Try.func107, Try.ntmps107
  go_wp2
  go_loopw [5, 7, 10] (fun s _ i wr => ∃ k : Nat, k ≤ x.length ∧ i = .int .i64 k ∧ s = .int .i64 ((x.take k).foldl addW 0) ∧ Hid (∀ j : Nat, j < k → (!withinB (gi x j) (-100000) 100000) = false) ∧ wr = w.alloc (.cells #[.int .i64 n, L] 24)) (fun _ _ i _ => x.length - (intOf i).toNat)
  case atStart => exact ⟨0, by omega, rfl, rfl, Lib.hid (by simp), rfl⟩
  case round =>
    obtain ⟨k, hk, rfl, rfl, hbad, rfl⟩ := hrel
    by_cases hlt : k < x.length
    · obtain ⟨b, o, rfl, g1⟩ := H.out.nat k hlt
      have hz := World.block_lt_of_cell? w _ g1
      dsimp only at hz
      have Hf := Lib.hid (fold_gi addW 0 x k hlt)
      cases hp : withinB (gi x k) (-100000) 100000
      all_goals
        go_wp2_with (go_at_call 92; refine (within_any _ _ _ _).mono ?_; rintro e w' ⟨rfl, rfl⟩)
      · go_ret
        exact ⟨ret_bool (by unfold weightsB; rw [any_gi_true (f := fun x => !withinB x (-100000) 100000) (i := k) (by omega) (by omega) (by simp only [hp]; rfl)]; rfl), bel⟩
      · refine ⟨⟨k + 1, by omega, by go_num, by rw [Hf.out]; rfl, Lib.hid fun j hj => ?_, trivial⟩, by simp [intOf]; omega⟩
        rcases Nat.lt_succ_iff_lt_or_eq.1 hj with h | rfl
        · exact hbad.out j h
        · simp [hp]
    · obtain rfl : k = x.length := by omega
      have hs : (x.take x.length).foldl addW 0 = sumW x := by rw [List.take_length]; rfl
      rw [hs]
      have Ha := Lib.hid (any_gi_false (f := fun x => !withinB x (-100000) 100000) hbad.out)
      by_cases hn : (x.length : Int) = n
      · have hn' : ((x.length : Int) == n) = true := by simpa using hn
        have HN := Lib.hid hn
        clear hn
        go_wp2
        go_ret
        exact ⟨ret_bool (by unfold weightsB; rw [Ha.out]; simp [HN.out]), bel⟩
      · have hn' : ((x.length : Int) == n) = false := by simpa using hn
        have HN := Lib.hid hn
        clear hn
        go_wp2
        go_ret
        exact ⟨ret_bool (by unfold weightsB; rw [Ha.out]; simp [HN.out]), bel⟩

end Go.Proofs.Ytmhiiomejopaoaa
