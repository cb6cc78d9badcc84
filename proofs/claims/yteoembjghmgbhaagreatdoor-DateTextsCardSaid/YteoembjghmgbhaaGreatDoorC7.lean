/- The date walks: Print, at one date. -/
import Derived.Test.YteoembjghmgbhaaGreatDoorL2
import Derived.Lib.AppendIntMem
namespace Go.Proofs.YteoembjghmgbhaaGreatDoor
set_option linter.all false
open Go.RowKit

/-- The library's table of powers of ten stands, and will. -/
def Tab (w : World) : Prop := ∀ w', Below w.heap.size w w' → Lib.TabIs Tryz.prog w' "internal/strconv.uint64pow10" .u64 Lib.pow10Tab
theorem Tab.here {w : World} (h : Tab w) : Lib.TabIs Tryz.prog w "internal/strconv.uint64pow10" .u64 Lib.pow10Tab := h w (Below.refl _ _)
theorem Tab.below {w w1 : World} (h : Tab w) (hb : Below w.heap.size w w1) : Tab w1 := fun w' h' => h w' (hb.trans (h'.mono hb.size))
theorem grow_below (w : World) (k : Nat) (os : Array Obj) : Below w.heap.size w (Sort.grow (w.drewN k) os) := by
  refine ⟨rfl, rfl, rfl, ?_, ?_⟩
  · show w.heap.size ≤ (w.heap ++ os).size
    simp
  · intro j hj
    show (w.heap ++ os)[j]? = w.heap[j]?
    rw [Array.getElem?_append_left hj]
theorem itoa_any (n : Int) (h0 : -9223372036854775808 ≤ n) (h1 : n ≤ 9223372036854775807) (w : World) (hT : Tab w) :
    Calls Tryz.prog 20 #[.int .i64 n] w fun e w' => e = .returned (.string ⟨(Lib.itoa n).toArray⟩) ∧ Below w.heap.size w w' :=
  (Any.strconv_Itoa itoaL n h0 h1 w hT.here).mono fun _ _ ⟨he, k, os, hw⟩ => ⟨he, by rw [hw]; exact grow_below w k os⟩
theorem itoa_14 (w : World) (hT : Tab w) : Calls Tryz.prog 20 #[.int .i64 14] w fun e w' => e = .returned (.string ⟨#[49, 52]⟩) ∧ Below w.heap.size w w' := by
  have h := itoa_any 14 (by omega) (by omega) w hT
  rw [show Lib.itoa 14 = [49, 52] by decide +kernel] at h
  exact h
theorem itoa_1871 (w : World) (hT : Tab w) : Calls Tryz.prog 20 #[.int .i64 1871] w fun e w' => e = .returned (.string ⟨#[49, 56, 55, 49]⟩) ∧ Below w.heap.size w w' := by
  have h := itoa_any 1871 (by omega) (by omega) w hT
  rw [show Lib.itoa 1871 = [49, 56, 55, 49] by decide +kernel] at h
  exact h
set_option maxRecDepth 100000 in
set_option maxHeartbeats 2000000 in
theorem print_1871 (w : World) (hT : Tab w) : Calls Tryz.prog 6 #[.agg #[.int .i64 1871, .int .i64 3, .int .i64 14]] w fun e w' => e = .returned (.tuple #[.string ⟨#[49, 52, 32, 77, 97, 114, 32, 49, 56, 55, 49]⟩, .int .i64 0]) ∧ Below w.heap.size w w' := by
  have HT := Lib.hid hT
  have HV := Lib.hid (fun W => Valid_any ⟨1871, 3, 14⟩ W)
  rw [show (dayR ⟨1871, 3, 14⟩).2 = true by decide +kernel] at HV
  unfold dtv at HV
  simp only at HV
  clear hT
  go_enter Tryz.func6, Tryz.ntmps6
  go_upto_region 3 with (first | (go_at_call 19; refine (HV.out _).mono ?_; rintro e w1 ⟨rfl, hb⟩; have HB1 := Lib.hid (below_trans (bel : Below w.heap.size w (w.alloc _)) hb); have HH1 := Lib.hid ((hb.block w.heap.size (by simp)).trans (heap_alloc_new w _)); clear hb))
  obtain ⟨c0, c1, c2, f0, f1, f2, lc⟩ := cells3 HH1.out
  have HB1d := Lib.hid (HB1.out.drew)
  have MK := Lib.hid True.intro
  have wz : ∀ x : Int, -9223372036854775808 ≤ x ∧ x ≤ 9223372036854775807 → IntKind.i64.wrap x = x := fun x hx => by rw [IntKind.wrap_i64]; omega
  have e1 := wz 9 (by omega)
  have e2 := wz 6 (by omega)
  clear wz
  go_region_held3 (fun w' => w'.cell? ⟨w.heap.size, 0, none⟩ = some (.int .i64 1871) ∧ w'.cell? ⟨w.heap.size, 1, none⟩ = some (.int .i64 3) ∧ w'.cell? ⟨w.heap.size, 2, none⟩ = some (.int .i64 14)) (first | exact ⟨c0, c1, c2⟩ | exact ⟨d0, d1, d2⟩ | exact ⟨k0, k1, k2⟩) (first | (go_at_call 20; refine (itoa_14 _ (HT.out.below HB1d.out)).mono ?_; rintro e w2 ⟨rfl, hb⟩; have d0 := (hb.cell lc).trans c0; have d1 := (hb.cell lc).trans c1; have d2 := (hb.cell lc).trans c2; have lc2 := Nat.lt_of_lt_of_le lc hb.size; have HB2 := Lib.hid (below_trans HB1d.out hb); clear hb) | (go_at_call 20; refine (itoa_1871 _ (HT.out.below HB2.out)).mono ?_; rintro e w3 ⟨rfl, hb⟩; have k0 := (hb.cell lc2).trans d0; have k1 := (hb.cell lc2).trans d1; have k2 := (hb.cell lc2).trans d2; have HB3 := Lib.hid (below_trans HB2.out hb); clear hb))
  all_goals
    go_wp2
    go_ret2
    exact ⟨by kernel_rfl, HB3.out⟩
end Go.Proofs.YteoembjghmgbhaaGreatDoor
