/- The chapter's examples, reckoned. -/
import Derived.Test.YtmhiiomejopaoaaM8
import Derived.Test.YtmhiiomejopaoaaM9
namespace Go.Proofs.Ytmhiiomejopaoaa
set_option linter.all false
open Go.RowKit

def exL : List Lk := [⟨0, 1, 5⟩, ⟨1, 2, 3⟩, ⟨0, 2, 9⟩, ⟨2, 0, -6⟩, ⟨2, 1, -2⟩, ⟨1, 3, 4⟩, ⟨2, 3, 1⟩]
def exW : List Int := [-2, 0, 1, 1]
theorem ex_most : MostP 100 4 exL exW = some (17, 0) := by decide +kernel
theorem ex_least : LeastP 100 4 exL exW = some (0, 5) := by decide +kernel
theorem ex_least2 : LeastP 100 4 exL [-1, 0, 1, 0] = some (6, 0) := by decide +kernel
theorem ex_prove : proveP 100 4 exL exW = some ([2, 2, 0, 0, 0, 0, 1], 0) := by decide +kernel
theorem ex_tight : tightR 4 exL ([2, 2, 0, 0, 0, 0, 1], 0) = ([0, 1, 5, 6], 0) := by decide +kernel
theorem ex_needed : neededP 100 4 exL exW = some ([0, 1], 0) := by decide +kernel
theorem ex_core : coreP 100 4 exL exW = some ([0, 1, 5], 0) := by decide +kernel
theorem ex_both : bothR 4 exL exW [2, 1, 0, 0, 0, 1, 0] [0, 5, 8, 9] = (true, 0) := by decide +kernel
theorem ex_with : withR 4 exL [⟨1, 0, -6⟩] = ((4, exL ++ [⟨1, 0, -6⟩]), 0) := by decide +kernel
theorem ex_clash : clashI 4 (exL ++ [⟨1, 0, -6⟩]) [7, 0] = 0 := by decide +kernel
theorem ex_clash2 : clashI 4 exL [0, 1] = 8 := by decide +kernel
theorem lks_lit {w : World} {g : Nat} {l : List Lk} {t : TypeId} (h : w.heap[g]? = some (.cells (lkcs l).toArray t (0, 0))) : LksAt w (some ⟨g, 0, none⟩) l := by
  intro i h0 hi
  have ht : i.toNat < l.length := by omega
  have e : ((i.toNat : Nat) : Int) = i := by omega
  have hc : ∀ j v, j < 3 → (lkc (gl l i))[j]? = some v → w.cell? ⟨g, i.toNat * 3 + j, none⟩ = some v := by
    intro j v hj hv
    rw [cell_of_heap h]
    have := lkcs_get l i.toNat j ht hj
    rw [e, hv] at this
    simpa using this
  exact ⟨g, 0, rfl, by have := hc 0 _ (by omega) rfl; simpa using this, by have := hc 1 _ (by omega) rfl; simpa using this, by have := hc 2 _ (by omega) rfl; simpa using this⟩
theorem ints_lit {w : World} {g : Nat} {l : List Int} (h : w.heap[g]? = some (.cells (ints l).toArray 3 (0, 0))) : IntsAt w (some ⟨g, 0, none⟩) l := by
  refine RowI.ints (g := g) ⟨_, h, ?_⟩
  rw [List.take_of_length_le (by simp [ints])]
set_option maxRecDepth 100000 in
set_option maxHeartbeats 1000000 in
theorem example_any (w : World) : Calls Try.prog 67 #[] w fun e w' => ∃ g, e = .returned (.agg #[.int .i64 4, .slice (some ⟨g, 0, none⟩) 7 7]) ∧ LksAt w' (some ⟨g, 0, none⟩) exL ∧ Below w.heap.size w w' := by
  go_enter Try.func67, Try.ntmps67
  go_wp2
  refine bodyPost_ret (v := .agg #[.int .i64 4, .slice (some ⟨w.heap.size + 1, 0, none⟩) 7 7]) ?_ rfl ?_
  · simp [results, Try.results67, go_sem]
  · refine ⟨_, rfl, lks_lit (t := 39) ?_, bel⟩
    have := heap_alloc_new (w.alloc (.cells #[.int .i64 4, .slice (some ⟨w.heap.size + 1, 0, none⟩) 7 7] 24)) (.cells (lkcs exL).toArray 39)
    simpa [lkcs, lkc, exL] using this
theorem cells_eq {a b : Bool} {x y : List Int} (h : ∀ j : Nat, j < x.length → gi x j = gi y j) (hl : x.length = y.length) : x = y := by
  apply List.ext_getElem?
  intro i
  by_cases hi : i < x.length
  · rw [gi_get hi, gi_get (by omega), h i hi]
  · rw [List.getElem?_eq_none (by omega), List.getElem?_eq_none (by omega)]
set_option maxRecDepth 100000 in
set_option maxHeartbeats 1000000 in
theorem same_any (A : Option Addr) (c : Nat) (x : List Int) (B : Option Addr) (d : Nat) (y : List Int) (w : World) (hx : x.length ≤ 140737488351232) (h : IntsAt w A x) (h' : IntsAt w B y) :
    Calls Try.prog 23 #[.slice A x.length c, .slice B y.length d] w fun e w' => e = .returned (.bool (decide (x = y))) ∧ Below w.heap.size w w' := by
  have HX := Lib.hid h
  have HY := Lib.hid h'
  clear h h'
  by_cases hl : x.length = y.length
  · have hl' : ((x.length : Int) != (y.length : Int)) = false := by simp; omega
    have HL := Lib.hid hl
    clear hl
    go_enter Try.func23, Try.ntmps23
    go_wp2
    go_loopw [5] (fun i wr => ∃ k : Nat, k ≤ x.length ∧ i = .int .i64 k ∧ Hid (∀ j : Nat, j < k → gi x j = gi y j) ∧ Hid (Below w.heap.size w wr)) (fun i _ => x.length - (intOf i).toNat)
    case atStart => exact ⟨0, by omega, rfl, Lib.hid (fun j hj => by omega), Lib.hid (Below.refl _ _)⟩
    case round =>
      obtain ⟨k, hk, rfl, HK, HB⟩ := hrel
      by_cases hlt : k < x.length
      · have hlt2 : (k : Int) < (y.length : Int) := by have := HL.out; omega
        obtain ⟨b1, o1, rfl, g1⟩ := (HX.out.below HB.out).nat k hlt
        obtain ⟨b2, o2, rfl, g2⟩ := (HY.out.below HB.out).nat k (by have := HL.out; omega)
        have l1 := World.block_lt_of_cell? _ _ g1
        have l2 := World.block_lt_of_cell? _ _ g2
        cases hq : (gi x k != gi y k)
        · have HQ := Lib.hid (show gi x k = gi y k by simpa using hq)
          go_wp2
          go_quiet (fail)
          go_wp2
          go_roundw
          case rel =>
            refine ⟨k + 1, by omega, by go_num, Lib.hid fun j hj => ?_, Lib.hid (below_drews HB.out _)⟩
            rcases Nat.lt_succ_iff_lt_or_eq.1 hj with h | rfl
            · exact HK.out j h
            · exact HQ.out
          case measure => simp [intOf]; omega
        · have HQ := Lib.hid (show x ≠ y from fun e => by rw [e] at hq; simp at hq)
          go_wp2
          go_quiet (fail)
          go_wp2
          go_ret
          exact ⟨by simp [HQ.out], below_drews HB.out _⟩
      · obtain rfl : k = x.length := by omega
        have e := cells_eq (a := true) (b := true) HK.out HL.out
        have HE := Lib.hid e
        clear e
        go_wp2
        go_ret
        exact ⟨by simp [HE.out], HB.out⟩
  · have hl' : ((x.length : Int) != (y.length : Int)) = true := by simp; omega
    have hne : x ≠ y := fun e => hl (by rw [e])
    have HNE := Lib.hid hne
    clear hne hl
    go_enter Try.func23, Try.ntmps23
    go_wp2
    go_ret
    exact ⟨by simp [HNE.out], bel⟩
end Go.Proofs.Ytmhiiomejopaoaa
