/- The examples; sanity -/
import Derived.Test.YtmhiiomejopaoaaGreatDoorM9
namespace Go.Proofs.YtmhiiomejopaoaaGreatDoor
set_option linter.all false
set_option maxRecDepth 100000
open Go.RowKit
set_option maxRecDepth 100000

def exL : List Lk := [⟨0, 1, 5⟩, ⟨1, 2, 3⟩, ⟨0, 2, 9⟩, ⟨2, 0, -6⟩, ⟨2, 1, -2⟩, ⟨1, 3, 4⟩, ⟨2, 3, 1⟩]
def exW : List Int := [-2, 0, 1, 1]
theorem ex_most : MostP 100 4 exL exW = some (17, 0) := by decide +kernel
theorem ex_least : LeastP 100 4 exL exW = some (0, 5) := by decide +kernel
theorem ex_least2 : LeastP 100 4 exL [-1, 0, 1, 0] = some (6, 0) := by decide +kernel
theorem ex_prove : proveP 100 4 exL exW = some ([2, 2, 0, 0, 0, 0, 1], 0) := by decide +kernel
theorem ex_tight : tightR 4 exL ([2, 2, 0, 0, 0, 0, 1], 0) = ([0, 1, 5, 6], 0) := by decide +kernel
theorem ex_needed : neededP 100 4 exL exW = some ([0, 1], 0) := by decide +kernel
theorem ex_core : coreP 100 4 exL exW = some ([0, 1, 5], 0) := by decide +kernel
theorem ex_both : bothR 4 exL exW [2, 1, 0, 0, 0, 1, 0] [0, 5, 8, 9] = (true, 0) := by decide +kernel
theorem ex_with : withR 4 exL [⟨1, 0, -6⟩] = ((4, exL ++ [⟨1, 0, -6⟩]), 0) := by decide +kernel
theorem ex_clash : clashI 4 (exL ++ [⟨1, 0, -6⟩]) [7, 0] = 0 := by decide +kernel
theorem ex_clash2 : clashI 4 exL [0, 1] = 8 := by decide +kernel
theorem lks_lit {w : World} {g : Nat} {l : List Lk} {t : TypeId} (h : w.heap[g]? = some (.cells (lkcs l).toArray t (0, 0))) : LksAt w (some ⟨g, 0, none⟩) l := by
  intro i h0 hi
  have ht : i.toNat < l.length := by omega
  have e : ((i.toNat : Nat) : Int) = i := by omega
  have hc : ∀ j v, j < 3 → (lkc (gl l i))[j]? = some v → w.cell? ⟨g, i.toNat * 3 + j, none⟩ = some v := by
    intro j v hj hv
    rw [cell_of_heap h]
    have := lkcs_get l i.toNat j ht hj
    rw [e, hv] at this
    simpa using this
  exact ⟨g, 0, rfl, by have := hc 0 _ (by omega) rfl; simpa using this, by have := hc 1 _ (by omega) rfl; simpa using this, by have := hc 2 _ (by omega) rfl; simpa using this⟩
theorem ints_lit {w : World} {g : Nat} {l : List Int} (h : w.heap[g]? = some (.cells (ints l).toArray 3 (0, 0))) : IntsAt w (some ⟨g, 0, none⟩) l := by
  refine RowI.ints (g := g) ⟨_, h, ?_⟩
  rw [List.take_of_length_le (by simp [ints])]
set_option maxRecDepth 100000 in
set_option maxHeartbeats 1000000 in
theorem example_any (w : World) : Calls Tryz.prog 17 #[] w fun e w' => ∃ g, e = .returned (.agg #[.int .i64 4, .slice (some ⟨g, 0, none⟩) 7 7]) ∧ LksAt w' (some ⟨g, 0, none⟩) exL ∧ Below w.heap.size w w' := by
  go_enter Tryz.func17, Tryz.ntmps17
  go_wp2
  refine bodyPost_ret (v := .agg #[.int .i64 4, .slice (some ⟨w.heap.size + 1, 0, none⟩) 7 7]) ?_ rfl ?_
  · simp [results, Tryz.results17, go_sem]
  · refine ⟨_, rfl, lks_lit (t := 51) ?_, bel⟩
    have := heap_alloc_new (w.alloc (.cells #[.int .i64 4, .slice (some ⟨w.heap.size + 1, 0, none⟩) 7 7] 24)) (.cells (lkcs exL).toArray 51)
    simpa [lkcs, lkc, exL] using this
theorem cells_eq {a b : Bool} {x y : List Int} (h : ∀ j : Nat, j < x.length → gi x j = gi y j) (hl : x.length = y.length) : x = y := by
  apply List.ext_getElem?
  intro i
  by_cases hi : i < x.length
  · rw [gi_get hi, gi_get (by omega), h i hi]
  · rw [List.getElem?_eq_none (by omega), List.getElem?_eq_none (by omega)]
set_option maxRecDepth 100000 in
set_option maxHeartbeats 1000000 in
theorem same_any (A : Option Addr) (c : Nat) (x : List Int) (B : Option Addr) (d : Nat) (y : List Int) (w : World) (hx : x.length ≤ 140737488351232) (h : IntsAt w A x) (h' : IntsAt w B y) :
    Calls Tryz.prog 23 #[.slice A x.length c, .slice B y.length d] w fun e w' => e = .returned (.bool (decide (x = y))) ∧ Below w.heap.size w w' := by
  have HX := Lib.hid h
  have HY := Lib.hid h'
  clear h h'
  by_cases hl : x.length = y.length
  · have hl' : ((x.length : Int) != (y.length : Int)) = false := by simp; omega
    have HL := Lib.hid hl
    clear hl
    go_enter Tryz.func23, Tryz.ntmps23
    go_wp2
    go_loopw [5] (fun i wr => ∃ k : Nat, k ≤ x.length ∧ i = .int .i64 k ∧ Hid (∀ j : Nat, j < k → gi x j = gi y j) ∧ Hid (Below w.heap.size w wr)) (fun i _ => x.length - (intOf i).toNat)
    case atStart => exact ⟨0, by omega, rfl, Lib.hid (fun j hj => by omega), Lib.hid (Below.refl _ _)⟩
    case round =>
      obtain ⟨k, hk, rfl, HK, HB⟩ := hrel
      by_cases hlt : k < x.length
      · have hlt2 : (k : Int) < (y.length : Int) := by have := HL.out; omega
        obtain ⟨b1, o1, rfl, g1⟩ := (HX.out.below HB.out).nat k hlt
        obtain ⟨b2, o2, rfl, g2⟩ := (HY.out.below HB.out).nat k (by have := HL.out; omega)
        have l1 := World.block_lt_of_cell? _ _ g1
        have l2 := World.block_lt_of_cell? _ _ g2
        cases hq : (gi x k != gi y k)
        · have HQ := Lib.hid (show gi x k = gi y k by simpa using hq)
          go_wp2
          go_quiet (fail)
          go_wp2
          go_roundw
          case rel =>
            refine ⟨k + 1, by omega, by go_num, Lib.hid fun j hj => ?_, Lib.hid (below_drews HB.out _)⟩
            rcases Nat.lt_succ_iff_lt_or_eq.1 hj with h | rfl
            · exact HK.out j h
            · exact HQ.out
          case measure => simp [intOf]; omega
        · have HQ := Lib.hid (show x ≠ y from fun e => by rw [e] at hq; simp at hq)
          go_wp2
          go_quiet (fail)
          go_wp2
          go_ret
          exact ⟨by simp [HQ.out], below_drews HB.out _⟩
      · obtain rfl : k = x.length := by omega
        have e := cells_eq (a := true) (b := true) HK.out HL.out
        have HE := Lib.hid e
        clear e
        go_wp2
        go_ret
        exact ⟨by simp [HE.out], HB.out⟩
  · have hl' : ((x.length : Int) != (y.length : Int)) = true := by simp; omega
    have hne : x ≠ y := fun e => hl (by rw [e])
    have HNE := Lib.hid hne
    clear hne hl
    go_enter Tryz.func23, Tryz.ntmps23
    go_wp2
    go_ret
    exact ⟨by simp [HNE.out], bel⟩

def exL8 : List Lk := [⟨0, 1, 5⟩, ⟨1, 2, 3⟩, ⟨0, 2, 9⟩, ⟨2, 0, -6⟩, ⟨2, 1, -2⟩, ⟨1, 3, 4⟩, ⟨2, 3, 1⟩, ⟨1, 0, -6⟩]
theorem exL8_eq : exL ++ [⟨1, 0, -6⟩] = exL8 := rfl
section
variable (w : World) (g b : Nat) (hl : LksAt w (some ⟨g, 0, none⟩) exL)
include hl
theorem s_most (hw : IntsAt w (some ⟨b, 0, none⟩) exW) : Calls Tryz.prog 14 #[.agg #[.int .i64 4, .slice (some ⟨g, 0, none⟩) 7 7], .slice (some ⟨b, 0, none⟩) 4 4] w fun e w' => e = .returned (.tuple #[.int .i64 17, .int .i64 0]) ∧ Below w.heap.size w w' :=
  Most_any 100 (17, 0) 4 _ 7 exL _ 4 exW w (by decide) (by decide) hl hw ex_most
theorem s_least (hw : IntsAt w (some ⟨b, 0, none⟩) exW) : Calls Tryz.prog 15 #[.agg #[.int .i64 4, .slice (some ⟨g, 0, none⟩) 7 7], .slice (some ⟨b, 0, none⟩) 4 4] w fun e w' => e = .returned (.tuple #[.int .i64 0, .int .i64 5]) ∧ Below w.heap.size w w' :=
  Least_any 100 (0, 5) 4 _ 7 exL _ 4 exW w (by decide) (by decide) hl hw ex_least
theorem s_least2 (hw : IntsAt w (some ⟨b, 0, none⟩) [-1, 0, 1, 0]) : Calls Tryz.prog 15 #[.agg #[.int .i64 4, .slice (some ⟨g, 0, none⟩) 7 7], .slice (some ⟨b, 0, none⟩) 4 4] w fun e w' => e = .returned (.tuple #[.int .i64 6, .int .i64 0]) ∧ Below w.heap.size w w' :=
  Least_any 100 (6, 0) 4 _ 7 exL _ 4 [-1, 0, 1, 0] w (by decide) (by decide) hl hw ex_least2
theorem s_tight (hw : IntsAt w (some ⟨b, 0, none⟩) exW) : Calls Tryz.prog 18 #[.agg #[.int .i64 4, .slice (some ⟨g, 0, none⟩) 7 7], .slice (some ⟨b, 0, none⟩) 4 4] w fun e w' => ∃ A c, e = .returned (.tuple #[.slice A 4 c, .int .i64 0]) ∧ IntsAt w' A [0, 1, 5, 6] ∧ Below w.heap.size w w' :=
  (tight_any 100 _ 4 _ 7 exL _ 4 exW w (by decide) (by decide) (fun e => by cases e) hl hw ex_prove).mono fun e w' h => by
    obtain ⟨v, rfl, ⟨A, c, rfl, h1, _⟩, h2⟩ := h
    rw [ex_tight] at h1 ⊢
    exact ⟨A, c, rfl, h1, h2⟩
theorem s_needed (hw : IntsAt w (some ⟨b, 0, none⟩) exW) : Calls Tryz.prog 19 #[.agg #[.int .i64 4, .slice (some ⟨g, 0, none⟩) 7 7], .slice (some ⟨b, 0, none⟩) 4 4] w fun e w' => ∃ A c, e = .returned (.tuple #[.slice A 2 c, .int .i64 0]) ∧ IntsAt w' A [0, 1] ∧ Below w.heap.size w w' :=
  (needed_any 100 _ 4 _ 7 exL _ 4 exW w (by decide) (by decide) hl hw ex_needed).mono fun e w' h => by
    obtain ⟨v, rfl, ⟨A, c, rfl, h1, _⟩, h2⟩ := h
    exact ⟨A, c, rfl, h1, h2⟩
theorem s_core (hw : IntsAt w (some ⟨b, 0, none⟩) exW) : Calls Tryz.prog 20 #[.agg #[.int .i64 4, .slice (some ⟨g, 0, none⟩) 7 7], .slice (some ⟨b, 0, none⟩) 4 4] w fun e w' => ∃ A c, e = .returned (.tuple #[.slice A 3 c, .int .i64 0]) ∧ IntsAt w' A [0, 1, 5] ∧ Below w.heap.size w w' :=
  (core_any 100 _ 4 _ 7 exL _ 4 exW w (by decide) (by decide) hl hw ex_core).mono fun e w' h => by
    obtain ⟨v, rfl, ⟨A, c, rfl, h1, _⟩, h2⟩ := h
    exact ⟨A, c, rfl, h1, h2⟩
theorem s_both (hw : IntsAt w (some ⟨b, 0, none⟩) exW) (p q : Nat) (hu : IntsAt w (some ⟨p, 0, none⟩) [2, 1, 0, 0, 0, 1, 0]) (hx : IntsAt w (some ⟨q, 0, none⟩) [0, 5, 8, 9]) : Calls Tryz.prog 21 #[.agg #[.int .i64 4, .slice (some ⟨g, 0, none⟩) 7 7], .slice (some ⟨b, 0, none⟩) 4 4, .slice (some ⟨p, 0, none⟩) 7 7, .slice (some ⟨q, 0, none⟩) 4 4] w fun e w' => e = .returned (.tuple #[.bool true, .int .i64 0]) ∧ Below w.heap.size w w' :=
  (both_any 4 _ 7 exL _ 4 exW _ 7 [2, 1, 0, 0, 0, 1, 0] _ 4 [0, 5, 8, 9] w (by decide) (by decide) (by decide) (by decide) hl hw hu hx (fun e => by cases e)).mono fun e w' h => by
    rw [ex_both] at h
    exact h
theorem s_with (p : Nat) (hm : LksAt w (some ⟨p, 0, none⟩) [⟨1, 0, -6⟩]) : Calls Tryz.prog 22 #[.agg #[.int .i64 4, .slice (some ⟨g, 0, none⟩) 7 7], .slice (some ⟨p, 0, none⟩) 1 1] w fun e w' => ∃ A c, e = .returned (.tuple #[.agg #[.int .i64 4, .slice A 8 c], .int .i64 0]) ∧ LksAt w' A exL8 ∧ Below w.heap.size w w' :=
  (with_any 4 _ 7 exL _ 1 [⟨1, 0, -6⟩] w (by decide) (fun e => by cases e) (fun e => by cases e) hl hm).mono fun e w' h => by
    rw [ex_with, exL8_eq] at h
    obtain ⟨v, rfl, ⟨A, c, rfl, h1, _⟩, h2⟩ := h
    exact ⟨A, c, rfl, h1, h2⟩
theorem s_clash2 (hp : IntsAt w (some ⟨b, 0, none⟩) [0, 1]) : Calls Tryz.prog 24 #[.agg #[.int .i64 4, .slice (some ⟨g, 0, none⟩) 7 7], .slice (some ⟨b, 0, none⟩) 2 2] w fun e w' => e = .returned (.int .i64 8) ∧ Below w.heap.size w w' :=
  (clash_any 4 _ 7 exL _ 2 [0, 1] w (by decide) (by decide) hl hp).mono fun e w' h => by
    rw [ex_clash2] at h
    exact h
end
set_option maxRecDepth 100000 in
theorem s_clash (w : World) (A : Option Addr) (c b : Nat) (hl : LksAt w A exL8) (hp : IntsAt w (some ⟨b, 0, none⟩) [7, 0]) : Calls Tryz.prog 24 #[.agg #[.int .i64 4, .slice A 8 c], .slice (some ⟨b, 0, none⟩) 2 2] w fun e w' => e = .returned (.int .i64 0) ∧ Below w.heap.size w w' :=
  (clash_any 4 A c exL8 _ 2 [7, 0] w (by decide) (by decide) hl hp).mono fun e w' h => by
    rw [← exL8_eq, ex_clash] at h
    exact h
theorem lit_new2 (w : World) (o : Obj) (l : List Int) : IntsAt ((w.alloc o).alloc (.cells (ints l).toArray 3)) (some ⟨w.heap.size + 1, 0, none⟩) l := by
  have := ints_lit (heap_alloc_new (w.alloc o) (.cells (ints l).toArray 3))
  simpa using this
theorem below_of_alloc {w w' : World} {o : Obj} (hb : Below (w.alloc o).heap.size (w.alloc o) w') : Below w.heap.size w w' := below_trans (Below.alloc (Below.refl _ _) (Nat.le_refl _) _) hb
theorem s_same4 (w : World) (A : Option Addr) (c b : Nat) (h : IntsAt w A [0, 1, 5, 6]) (h' : IntsAt w (some ⟨b, 0, none⟩) [0, 1, 5, 6]) : Calls Tryz.prog 23 #[.slice A 4 c, .slice (some ⟨b, 0, none⟩) 4 4] w fun e w' => e = .returned (.bool true) ∧ Below w.heap.size w w' :=
  same_any A c [0, 1, 5, 6] _ 4 [0, 1, 5, 6] w (by decide) h h'
theorem s_same2 (w : World) (A : Option Addr) (c b : Nat) (h : IntsAt w A [0, 1]) (h' : IntsAt w (some ⟨b, 0, none⟩) [0, 1]) : Calls Tryz.prog 23 #[.slice A 2 c, .slice (some ⟨b, 0, none⟩) 2 2] w fun e w' => e = .returned (.bool true) ∧ Below w.heap.size w w' :=
  same_any A c [0, 1] _ 2 [0, 1] w (by decide) h h'
theorem s_same3 (w : World) (A : Option Addr) (c b : Nat) (h : IntsAt w A [0, 1, 5]) (h' : IntsAt w (some ⟨b, 0, none⟩) [0, 1, 5]) : Calls Tryz.prog 23 #[.slice A 3 c, .slice (some ⟨b, 0, none⟩) 3 3] w fun e w' => e = .returned (.bool true) ∧ Below w.heap.size w w' :=
  same_any A c [0, 1, 5] _ 3 [0, 1, 5] w (by decide) h h'
structure SanW (w0 wk : World) (g b1 b2 : Nat) : Prop where
  c0 : wk.cell? ⟨b1, 0, none⟩ = some (.int .i64 4)
  c1 : wk.cell? ⟨b1, 1, none⟩ = some (.slice (some ⟨g, 0, none⟩) 7 7)
  links : LksAt wk (some ⟨g, 0, none⟩) exL
  ws : IntsAt wk (some ⟨b2, 0, none⟩) exW
  below : Below w0.heap.size w0 wk
theorem SanW.step {w0 wk w' : World} {g b1 b2 : Nat} (h : SanW w0 wk g b1 b2) (hb : Below wk.heap.size wk w') : SanW w0 w' g b1 b2 :=
  ⟨cell_below hb h.c0, cell_below hb h.c1, h.links.below hb, h.ws.below hb, below_trans h.below hb⟩
theorem SanW.alloc {w0 wk : World} {g b1 b2 : Nat} (h : SanW w0 wk g b1 b2) (o : Obj) : SanW w0 (wk.alloc o) g b1 b2 := h.step (Below.alloc (Below.refl _ _) (Nat.le_refl _) _)
theorem lit_new (w : World) (l : List Int) : IntsAt (w.alloc (.cells (ints l).toArray 3)) (some ⟨w.heap.size, 0, none⟩) l := ints_lit (heap_alloc_new _ _)
theorem lit_newL (w : World) (l : List Lk) : LksAt (w.alloc (.cells (lkcs l).toArray 51)) (some ⟨w.heap.size, 0, none⟩) l := lks_lit (heap_alloc_new _ _)
set_option maxRecDepth 100000 in
set_option maxHeartbeats 4000000 in
theorem sanity_any (w : World) : Calls Tryz.prog 6 #[] w fun e w' => e = .returned (.bool true) ∧ Below w.heap.size w w' := by
  go_enter Tryz.func6, Tryz.ntmps6
  go_upto_region 3 with (go_at_call 17; refine (example_any _).mono ?_; rintro e w1 ⟨g, rfl, hl, hb⟩; have HL := Lib.hid hl; have HB := Lib.hid hb; clear hl hb)
  have hs : SanW w ((w1.alloc (.cells #[.int .i64 4, .slice (some ⟨g, 0, none⟩) 7 7] 24)).alloc (.cells #[.int .i64 (-2), .int .i64 0, .int .i64 1, .int .i64 1] 3)) g w1.heap.size (w1.heap.size + 1) :=
    ⟨by go_simp, by go_simp, (HL.out.alloc _).alloc _, by have := lit_new (w1.alloc (.cells #[.int .i64 4, .slice (some ⟨g, 0, none⟩) 7 7] 24)) exW; simpa [ints, exW] using this, below_trans HB.out bel⟩
  generalize hw2 : (w1.alloc (.cells #[.int .i64 4, .slice (some ⟨g, 0, none⟩) 7 7] 24)).alloc (.cells #[.int .i64 (-2), .int .i64 0, .int .i64 1, .int .i64 1] 3) = w2 at hs ⊢
  clear hw2 HL HB
  have S := Lib.hid hs
  clear hs
  have c0 := S.out.c0
  have c1 := S.out.c1
  have lb := World.block_lt_of_cell? _ _ c0
  go_upto_region 4 with (go_at_call 14; refine (s_most _ g _ S.out.links S.out.ws).mono ?_; rintro e w3 ⟨rfl, hb⟩; have S3 := Lib.hid (S.out.step hb); clear hb)
  clear c0 c1 lb S
  have S := S3
  clear S3
  have c0 := S.out.c0
  have c1 := S.out.c1
  have lb := World.block_lt_of_cell? _ _ c0
  go_upto_region 5 with (go_at_call 15; refine (s_least _ g _ S.out.links S.out.ws).mono ?_; rintro e w3 ⟨rfl, hb⟩; have S3 := Lib.hid (S.out.step hb); clear hb)
  clear c0 c1 lb S
  have S := S3
  clear S3
  have c0 := S.out.c0
  have c1 := S.out.c1
  have lb := World.block_lt_of_cell? _ _ c0
  go_upto_region 6 with (go_at_call 15; refine (s_least2 _ g _ ?h1 ?h2).mono ?_; (case h1 => exact (S.out.alloc _).links); (case h2 => exact lit_new _ _); rintro e w3 ⟨rfl, hb⟩; have hb := below_of_alloc hb; have S3 := Lib.hid (S.out.step hb); clear hb)
  clear c0 c1 lb S
  have S := S3
  clear S3
  have c0 := S.out.c0
  have c1 := S.out.c1
  have lb := World.block_lt_of_cell? _ _ c0
  go_upto_region 7 with (go_at_call 18; refine (s_tight _ g _ S.out.links S.out.ws).mono ?_; rintro e w3 ⟨A1, k1, rfl, ht, hb⟩; have S3 := Lib.hid (S.out.step hb); have T1 := Lib.hid ht; clear ht; clear hb)
  clear c0 c1 lb S
  have S := S3
  clear S3
  have c0 := S.out.c0
  have c1 := S.out.c1
  have lb := World.block_lt_of_cell? _ _ c0
  go_upto_region 8 with (go_at_call 19; refine (s_needed _ g _ S.out.links S.out.ws).mono ?_; rintro e w3 ⟨A2, k2, rfl, ht, hb⟩; have S3 := Lib.hid (S.out.step hb); have T2 := Lib.hid ht; replace T1 := Lib.hid (T1.out.below hb); clear ht; clear hb)
  clear c0 c1 lb S
  have S := S3
  clear S3
  have c0 := S.out.c0
  have c1 := S.out.c1
  have lb := World.block_lt_of_cell? _ _ c0
  go_upto_region 9 with (go_at_call 20; refine (s_core _ g _ S.out.links S.out.ws).mono ?_; rintro e w3 ⟨A3, k3, rfl, ht, hb⟩; have S3 := Lib.hid (S.out.step hb); have T3 := Lib.hid ht; replace T1 := Lib.hid (T1.out.below hb); replace T2 := Lib.hid (T2.out.below hb); clear ht; clear hb)
  clear c0 c1 lb S
  have S := S3
  clear S3
  have c0 := S.out.c0
  have c1 := S.out.c1
  have lb := World.block_lt_of_cell? _ _ c0
  go_upto_region 10 with (go_at_call 21; refine (s_both _ g _ ?h1 ?h2 _ _ ?h3 ?h4).mono ?_; (case h1 => exact ((S.out.alloc _).alloc _).links); (case h2 => exact ((S.out.alloc _).alloc _).ws); (case h3 => exact (lit_new _ _).alloc _); (case h4 => exact lit_new2 _ _ _); rintro e w3 ⟨rfl, hb⟩; have hb := below_of_alloc (below_of_alloc hb); have S3 := Lib.hid (S.out.step hb); replace T1 := Lib.hid (T1.out.below hb); replace T2 := Lib.hid (T2.out.below hb); replace T3 := Lib.hid (T3.out.below hb); clear hb)
  clear c0 c1 lb S
  have S := S3
  clear S3
  have c0 := S.out.c0
  have c1 := S.out.c1
  have lb := World.block_lt_of_cell? _ _ c0
  go_upto_region 11 with (go_at_call 22; refine (s_with _ g ?h1 _ ?h3).mono ?_; (case h1 => exact (S.out.alloc _).links); (case h3 => exact lit_newL _ _); rintro e w3 ⟨A4, k4, rfl, ht, hb⟩; have hb := below_of_alloc hb; have S3 := Lib.hid (S.out.step hb); have T4 := Lib.hid ht; replace T1 := Lib.hid (T1.out.below hb); replace T2 := Lib.hid (T2.out.below hb); replace T3 := Lib.hid (T3.out.below hb); clear ht; clear hb)
  clear c0 c1 lb S
  have S := S3
  clear S3
  have c0 := S.out.c0
  have c1 := S.out.c1
  have lb := World.block_lt_of_cell? _ _ c0
  go_upto_region 11 with fail
  obtain ⟨wz, hwz⟩ : ∃ wz, wz = w3.alloc (.cells #[.int .i64 4, .slice A4 8 k4] 24) := ⟨_, rfl⟩
  rw [← hwz]
  have D := Lib.hid (show wz.cell? ⟨w3.heap.size, 0, none⟩ = some (.int .i64 4) ∧ wz.cell? ⟨w3.heap.size, 1, none⟩ = some (.slice A4 8 k4) by rw [hwz]; exact ⟨by go_simp, by go_simp⟩)
  replace S := Lib.hid (show SanW w wz g w1.heap.size (w1.heap.size + 1) by rw [hwz]; exact S.out.alloc _)
  replace T1 := Lib.hid (show IntsAt wz A1 [0, 1, 5, 6] by rw [hwz]; exact T1.out.alloc _)
  replace T2 := Lib.hid (show IntsAt wz A2 [0, 1] by rw [hwz]; exact T2.out.alloc _)
  replace T3 := Lib.hid (show IntsAt wz A3 [0, 1, 5] by rw [hwz]; exact T3.out.alloc _)
  replace T4 := Lib.hid (show LksAt wz A4 exL8 by rw [hwz]; exact T4.out.alloc _)
  clear hwz c0 c1 lb
  go_upto_region 13 with fail
  have c0 := S.out.c0
  have c1 := S.out.c1
  have d0 := D.out.1
  have d1 := D.out.2
  have lb := World.block_lt_of_cell? _ _ c0
  have ld := World.block_lt_of_cell? _ _ d0
  go_wp2_with (first | (go_at_call 23; refine (s_same4 _ A1 k1 _ (T1.out.alloc _) ?h2).mono ?_; (case h2 => exact lit_new _ _); rintro e w5 ⟨rfl, hb⟩; have hb := below_of_alloc hb; replace S := Lib.hid (S.out.step hb); replace D := Lib.hid (And.intro (cell_below hb D.out.1) (cell_below hb D.out.2)); replace T2 := Lib.hid (T2.out.below hb); replace T3 := Lib.hid (T3.out.below hb); replace T4 := Lib.hid (T4.out.below hb); replace c0 := S.out.c0; replace c1 := S.out.c1; replace d0 := D.out.1; replace d1 := D.out.2; replace lb := World.block_lt_of_cell? _ _ c0; replace ld := World.block_lt_of_cell? _ _ d0; clear hb; clear T1) | (go_at_call 23; refine (s_same2 _ A2 k2 _ (T2.out.alloc _) ?h2).mono ?_; (case h2 => exact lit_new _ _); rintro e w5 ⟨rfl, hb⟩; have hb := below_of_alloc hb; replace S := Lib.hid (S.out.step hb); replace D := Lib.hid (And.intro (cell_below hb D.out.1) (cell_below hb D.out.2)); replace T3 := Lib.hid (T3.out.below hb); replace T4 := Lib.hid (T4.out.below hb); replace c0 := S.out.c0; replace c1 := S.out.c1; replace d0 := D.out.1; replace d1 := D.out.2; replace lb := World.block_lt_of_cell? _ _ c0; replace ld := World.block_lt_of_cell? _ _ d0; clear hb; clear T2) | (go_at_call 23; refine (s_same3 _ A3 k3 _ (T3.out.alloc _) ?h2).mono ?_; (case h2 => exact lit_new _ _); rintro e w5 ⟨rfl, hb⟩; have hb := below_of_alloc hb; replace S := Lib.hid (S.out.step hb); replace D := Lib.hid (And.intro (cell_below hb D.out.1) (cell_below hb D.out.2)); replace T4 := Lib.hid (T4.out.below hb); replace c0 := S.out.c0; replace c1 := S.out.c1; replace d0 := D.out.1; replace d1 := D.out.2; replace lb := World.block_lt_of_cell? _ _ c0; replace ld := World.block_lt_of_cell? _ _ d0; clear hb; clear T3) | (go_at_call 24; refine (s_clash _ A4 k4 _ (T4.out.alloc _) ?h2).mono ?_; (case h2 => exact lit_new _ _); rintro e w5 ⟨rfl, hb⟩; have hb := below_of_alloc hb; replace S := Lib.hid (S.out.step hb); replace D := Lib.hid (And.intro (cell_below hb D.out.1) (cell_below hb D.out.2)); replace c0 := S.out.c0; replace c1 := S.out.c1; replace d0 := D.out.1; replace d1 := D.out.2; replace lb := World.block_lt_of_cell? _ _ c0; replace ld := World.block_lt_of_cell? _ _ d0; clear hb; clear T4) | (go_at_call 24; refine (s_clash2 _ g _ ?h1 ?h2).mono ?_; (case h1 => exact (S.out.alloc _).links); (case h2 => exact lit_new _ _); rintro e w5 ⟨rfl, hb⟩; have hb := below_of_alloc hb; replace S := Lib.hid (S.out.step hb); replace D := Lib.hid (And.intro (cell_below hb D.out.1) (cell_below hb D.out.2)); replace c0 := S.out.c0; replace c1 := S.out.c1; replace d0 := D.out.1; replace d1 := D.out.2; replace lb := World.block_lt_of_cell? _ _ c0; replace ld := World.block_lt_of_cell? _ _ d0; clear hb))
  go_ret
  exact ⟨rfl, S.out.below⟩
end Go.Proofs.YtmhiiomejopaoaaGreatDoor
