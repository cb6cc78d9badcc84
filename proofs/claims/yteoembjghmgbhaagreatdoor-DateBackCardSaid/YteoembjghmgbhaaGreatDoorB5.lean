/- The date walks: exists, day, Valid, Number. -/
import Derived.Test.YteoembjghmgbhaaGreatDoorB4
import Derived.Deep.RegionHeld3
namespace Go.Proofs.YteoembjghmgbhaaGreatDoor
set_option linter.all false
open Go.RowKit

theorem below_dN {B : Nat} {a w : World} (h : Below B a w) (n : Nat) : Below B a (w.drewN n) := h.trans ⟨rfl, rfl, rfl, Nat.le_refl _, fun _ _ => rfl⟩
def ex4 (y m d : Int) : Bool := decide (1850 ≤ y) && (decide (y ≤ 2014) && (decide (1 ≤ m) && (decide (m ≤ 12) && decide (1 ≤ d))))
def exB (d : Dt) : Bool := ex4 d.y d.m d.d && decide (d.d ≤ lenI d.y d.m)
set_option maxRecDepth 100000 in
set_option maxHeartbeats 4000000 in
theorem exists_no (y m d : Int) (w : World) (hno : ex4 y m d = false) : Calls Tryz.prog 48 #[dtv ⟨y, m, d⟩] w fun e w' => e = .returned (.bool false) ∧ Below w.heap.size w w' := by
  unfold dtv
  simp only
  unfold ex4 at hno
  have HN := Lib.hid hno
  clear hno
  cases t1 : decide (1850 ≤ y)
  · go_enter Tryz.func48, Tryz.ntmps48
    go_wp2
    go_quiet (fail)
    go_wp2
    go_ret
    exact ⟨rfl, below_dN bel _⟩
  · cases t2 : decide (y ≤ 2014)
    · go_enter Tryz.func48, Tryz.ntmps48
      go_wp2
      go_quiet (fail)
      go_wp2
      go_ret
      exact ⟨rfl, below_dN bel _⟩
    · cases t3 : decide (1 ≤ m)
      · go_enter Tryz.func48, Tryz.ntmps48
        go_wp2
        go_quiet (fail)
        go_wp2
        go_ret
        exact ⟨rfl, below_dN bel _⟩
      · cases t4 : decide (m ≤ 12)
        · go_enter Tryz.func48, Tryz.ntmps48
          go_wp2
          go_quiet (fail)
          go_wp2
          go_ret
          exact ⟨rfl, below_dN bel _⟩
        · cases t5 : decide (1 ≤ d)
          · go_enter Tryz.func48, Tryz.ntmps48
            go_wp2
            go_quiet (fail)
            go_wp2
            go_ret
            exact ⟨rfl, below_dN bel _⟩
          · exact absurd HN.out (by rw [t1, t2, t3, t4, t5]; decide)
set_option maxRecDepth 100000 in
set_option maxHeartbeats 4000000 in
theorem exists_yes (y m d : Int) (w : World) (hyes : ex4 y m d = true) : Calls Tryz.prog 48 #[dtv ⟨y, m, d⟩] w fun e w' => e = .returned (.bool (decide (d ≤ lenI y m))) ∧ Below w.heap.size w w' := by
  have h0 : 1850 ≤ y ∧ y ≤ 2014 ∧ 1 ≤ m ∧ m ≤ 12 ∧ 1 ≤ d := by simpa [ex4] using hyes
  clear hyes
  obtain ⟨a1, a2, a3, a4, a5⟩ := h0
  have HL := Lib.hid (fun W => length_any y m W a3 a4)
  generalize lenI y m = l at *
  unfold dtv
  simp only
  go_enter Tryz.func48, Tryz.ntmps48
  go_upto_region 1 with fail
  obtain ⟨c0, c1, c2, f0, f1, f2, lc⟩ := cells3 (heap_alloc_new w (.cells #[.int .i64 y, .int .i64 m, .int .i64 d] 62))
  have HBx := Lib.hid (bel : Below w.heap.size w ((w.alloc (.cells #[.int .i64 y, .int .i64 m, .int .i64 d] 62)).drew))
  go_region_held3 (fun w' => w'.cell? ⟨w.heap.size, 0, none⟩ = some (.int .i64 y) ∧ w'.cell? ⟨w.heap.size, 1, none⟩ = some (.int .i64 m) ∧ w'.cell? ⟨w.heap.size, 2, none⟩ = some (.int .i64 d)) (first | exact ⟨c0, c1, c2⟩ | exact ⟨d0, d1, d2⟩) (first | (go_at_call 36; refine (HL.out _).mono ?_; rintro e w1 ⟨rfl, hb⟩; have d0 := (hb.cell lc).trans c0; have d1 := (hb.cell lc).trans c1; have d2 := (hb.cell lc).trans c2; have HB2 := Lib.hid (below_trans HBx.out hb); clear hb))
  all_goals
    go_wp2
    go_ret
    exact ⟨rfl, HB2.out⟩
theorem exists_any (d : Dt) (w : World) : Calls Tryz.prog 48 #[dtv d] w fun e w' => e = .returned (.bool (exB d)) ∧ Below w.heap.size w w' := by
  obtain ⟨y, m, d⟩ := d
  cases h : ex4 y m d
  · rw [show exB ⟨y, m, d⟩ = false by unfold exB; simp only; rw [h]; rfl]
    exact exists_no y m d w h
  · rw [show exB ⟨y, m, d⟩ = decide (d ≤ lenI y m) by unfold exB; simp only; rw [h]; rfl]
    exact exists_yes y m d w h
end Go.Proofs.YteoembjghmgbhaaGreatDoor
