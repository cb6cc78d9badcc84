/- The date walks: Print, at every date. -/
import Derived.Test.YteoembjghmgbhaaGreatDoorZ1
import Derived.Deep.RegionHeld3
namespace Go.Proofs.YteoembjghmgbhaaGreatDoor
set_option linter.all false
open Go.RowKit

theorem add_str (x y : List UInt8) (hx : x.length ≤ 1000) (hy : y.length ≤ 1000) (W : World) : (Op.stringOp .add ⟨x.toArray⟩ ⟨y.toArray⟩).run Tryz.prog W = .ok (.string ⟨(x ++ y).toArray⟩) W := by
  have h1 : (x.length : Int) ≤ 8388608 := by omega
  have h2 : (y.length : Int) ≤ 8388608 := by omega
  exact run_string_add_lists W x y h1 h2
set_option maxRecDepth 100000 in
set_option maxHeartbeats 2000000 in
theorem Print_bad (d : Dt) (w : World) (hv : okD d = false) : Calls Tryz.prog 6 #[dtv d] w fun e w' => e = .returned (.tuple #[.string ⟨#[]⟩, .int .i64 1]) ∧ Below w.heap.size w w' := by
  have HV := Lib.hid (fun W => Valid_any d W)
  rw [show (dayR d).2 = false from hv] at HV
  clear hv
  obtain ⟨y, m, d⟩ := d
  unfold dtv at *
  simp only at *
  go_enter Tryz.func6, Tryz.ntmps6
  go_wp2_with (first | (go_at_call 19; refine (HV.out _).mono ?_; rintro e w1 ⟨rfl, hb⟩; have HB1 := Lib.hid (below_trans (bel : Below w.heap.size w (w.alloc _)) hb); clear hb))
  go_ret2
  exact ⟨by first | rfl | simp, HB1.out⟩
set_option maxRecDepth 100000 in
set_option maxHeartbeats 2000000 in
theorem Print_good (d : Dt) (w : World) (hT : Tab w) (hv : okD d = true) : Calls Tryz.prog 6 #[dtv d] w fun e w' => e = .returned (.tuple #[.string ⟨(printL d).toArray⟩, .int .i64 0]) ∧ Below w.heap.size w w' := by
  obtain ⟨-, -, h1, h2, h3, h4, h5, h6⟩ := okD_facts hv
  have HT := Lib.hid hT
  have HV := Lib.hid (fun W => Valid_any d W)
  rw [show (dayR d).2 = true from hv] at HV
  obtain ⟨y, m, d⟩ := d
  simp only at h1 h2 h3 h4 h5 h6
  obtain ⟨q, hq⟩ : ∃ q : Nat, 3 * m - 3 = q := ⟨(3 * m - 3).toNat, by omega⟩
  have hsl := slice_mon q m hq h4
  have HP := Lib.hid (show printL ⟨y, m, d⟩ = Lib.itoa d ++ [32] ++ monB m ++ [32] ++ Lib.itoa y from rfl)
  have l1 := dom_len (n := d) (by omega) h6
  have l2 := monB_len h3 h4
  have l3 := year_len h1 h2
  have HI1 := Lib.hid (fun W (hT : Tab W) => itoa_any d (by omega) (by omega) W hT)
  have HI2 := Lib.hid (fun W (hT : Tab W) => itoa_any y (by omega) (by omega) W hT)
  generalize Lib.itoa d = D at *
  generalize Lib.itoa y = Y at *
  generalize monB m = N at *
  have q1 := add_str D [32] (by omega) (by simp)
  have q2 := add_str (D ++ [32]) N (by simp; omega) (by omega)
  have q3 := add_str (D ++ [32] ++ N) [32] (by simp; omega) (by simp)
  have q4 := add_str (D ++ [32] ++ N ++ [32]) Y (by simp; omega) (by omega)
  rw [← HP.out] at q4
  clear HP
  generalize printL ⟨y, m, d⟩ = P at *
  obtain ⟨S1, hS1⟩ : ∃ S, D ++ [32] = S := ⟨_, rfl⟩
  rw [hS1] at q1 q2 q3 q4
  obtain ⟨S2, hS2⟩ : ∃ S, S1 ++ N = S := ⟨_, rfl⟩
  rw [hS2] at q2 q3 q4
  obtain ⟨S3, hS3⟩ : ∃ S, S2 ++ [32] = S := ⟨_, rfl⟩
  rw [hS3] at q3 q4
  have e1 : IntKind.i64.wrap (3 * m) = (q : Int) + 3 := by rw [IntKind.wrap_i64]; omega
  have e2 : IntKind.i64.wrap ((q : Int) + 3 - 3) = (q : Int) := by rw [IntKind.wrap_i64]; omega
  have e3 : IntKind.i64.wrap (q : Int) = (q : Int) := by rw [IntKind.wrap_i64]; omega
  clear hS1 hS2 hS3 l1 l2 l3 h1 h2 h3 h4 h5 h6 hv hq
  unfold dtv at *
  simp only at *
  go_enter Tryz.func6, Tryz.ntmps6
  go_upto_region 3 with (first | (go_at_call 19; refine (HV.out _).mono ?_; rintro e w1 ⟨rfl, hb⟩; have HB1 := Lib.hid (below_trans (bel : Below w.heap.size w (w.alloc _)) hb); have HH1 := Lib.hid ((hb.block w.heap.size (by simp)).trans (heap_alloc_new w _)); clear hb))
  obtain ⟨c0, c1, c2, f0, f1, f2, lc⟩ := cells3 HH1.out
  have HB1d := Lib.hid (HB1.out.drew)
  go_region_held3 (fun w' => w'.cell? ⟨w.heap.size, 0, none⟩ = some (.int .i64 y) ∧ w'.cell? ⟨w.heap.size, 1, none⟩ = some (.int .i64 m) ∧ w'.cell? ⟨w.heap.size, 2, none⟩ = some (.int .i64 d)) (first | exact ⟨c0, c1, c2⟩ | exact ⟨d0, d1, d2⟩ | exact ⟨k0, k1, k2⟩) (first | (go_at_call 20; refine (HI1.out _ (HT.out.below HB1d.out)).mono ?_; rintro e w2 ⟨rfl, hb⟩; have d0 := (hb.cell lc).trans c0; have d1 := (hb.cell lc).trans c1; have d2 := (hb.cell lc).trans c2; have lc2 := Nat.lt_of_lt_of_le lc hb.size; have HB2 := Lib.hid (below_trans HB1d.out hb); clear hb HI1) | (go_at_call 20; refine (HI2.out _ (HT.out.below HB2.out)).mono ?_; rintro e w3 ⟨rfl, hb⟩; have k0 := (hb.cell lc2).trans d0; have k1 := (hb.cell lc2).trans d1; have k2 := (hb.cell lc2).trans d2; have HB3 := Lib.hid (below_trans HB2.out hb); clear hb HI2))
  all_goals
    go_wp2
    go_ret2
    exact ⟨by first | rfl | simp, HB3.out⟩
end Go.Proofs.YteoembjghmgbhaaGreatDoor
