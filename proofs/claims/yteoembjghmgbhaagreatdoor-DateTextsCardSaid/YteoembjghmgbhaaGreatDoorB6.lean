/- The date walks: day, Valid, Number. -/
import Derived.Test.YteoembjghmgbhaaGreatDoorB5
namespace Go.Proofs.YteoembjghmgbhaaGreatDoor
set_option linter.all false
open Go.RowKit

def dayI (d : Dt) : Int := beginN (12 * (d.y - 1850) + d.m - 1).toNat + d.d - 1
def dayR (d : Dt) : Int × Bool := if exB d then (dayI d, dayB (dayI d)) else (0, false)
set_option maxRecDepth 100000 in
set_option maxHeartbeats 4000000 in
theorem day_any (d : Dt) (w : World) : Calls Tryz.prog 29 #[dtv d] w fun e w' => e = .returned (.tuple #[.int .i64 (dayR d).1, .bool (dayR d).2]) ∧ Below w.heap.size w w' := by
  have HX := Lib.hid (fun W => exists_any d W)
  cases hx : exB d
  · have HE := Lib.hid (show dayR d = (0, false) by unfold dayR; rw [hx]; rfl)
    rw [hx] at HX
    unfold dtv at *
    go_enter Tryz.func29, Tryz.ntmps29
    go_wp2_with (go_at_call 48; refine (HX.out _).mono ?_; rintro e w1 ⟨rfl, hb⟩; have HB1 := Lib.hid (below_trans (bel : Below w.heap.size w (w.alloc _)) hb); clear hb)
    go_ret2
    exact ⟨by rw [HE.out]; rfl, HB1.out⟩
  · have HE := Lib.hid (show dayR d = (dayI d, dayB (dayI d)) by unfold dayR; rw [hx]; rfl)
    rw [hx] at HX
    have h0 : (1850 ≤ d.y ∧ d.y ≤ 2014 ∧ 1 ≤ d.m ∧ d.m ≤ 12 ∧ 1 ≤ d.d) ∧ d.d ≤ lenI d.y d.m := by simpa [exB, ex4] using hx
    have hlb := len_bd d.y d.m
    have hdi := show dayI d = beginN (12 * (d.y - 1850) + d.m - 1).toNat + d.d - 1 from rfl
    obtain ⟨k, hk⟩ : ∃ k : Nat, 12 * (d.y - 1850) + d.m - 1 = k := ⟨(12 * (d.y - 1850) + d.m - 1).toNat, by omega⟩
    rw [hk, Int.toNat_natCast] at hdi
    have hkb : k ≤ 2000 := by omega
    have HC := Lib.hid (fun W => begin_any k W (by omega))
    have hbb := begin_bd2 k (by omega)
    generalize beginN k = b at *
    rw [← hk] at HC
    rw [hdi] at HE
    obtain ⟨y, m, d⟩ := d
    simp only at *
    have hdb : 1 ≤ d ∧ d ≤ 31 := by omega
    obtain ⟨⟨a1, a2, a3, a4, a5⟩, a6⟩ := h0
    clear a6 hlb hdi hx hk
    unfold dtv at *
    simp only at *
    go_enter Tryz.func29, Tryz.ntmps29
    go_upto_region 3 with (first | (go_at_call 48; refine (HX.out _).mono ?_; rintro e w1 ⟨rfl, hb⟩; have HB1 := Lib.hid (below_trans (bel : Below w.heap.size w (w.alloc _)) hb); have HH1 := Lib.hid ((hb.block w.heap.size (by simp)).trans (heap_alloc_new w _)); clear hb))
    obtain ⟨c0, c1, c2, f0, f1, f2, lc⟩ := cells3 HH1.out
    have HB1d := Lib.hid (HB1.out.drew)
    have wz : ∀ x : Int, -9223372036854775808 ≤ x ∧ x ≤ 9223372036854775807 → IntKind.i64.wrap x = x := fun x hx => by rw [IntKind.wrap_i64]; omega
    have e1 := wz (y - 1850) (by omega)
    have e2 := wz (12 * (y - 1850)) (by omega)
    have e3 := wz (12 * (y - 1850) + m) (by omega)
    have e4 := wz (12 * (y - 1850) + m - 1) (by omega)
    have e5 := wz (b + d) (by omega)
    have e6 := wz (b + d - 1) (by omega)
    clear wz
    go_region_held3 (fun w' => w'.cell? ⟨w.heap.size, 0, none⟩ = some (.int .i64 y) ∧ w'.cell? ⟨w.heap.size, 1, none⟩ = some (.int .i64 m) ∧ w'.cell? ⟨w.heap.size, 2, none⟩ = some (.int .i64 d)) (first | exact ⟨c0, c1, c2⟩ | exact ⟨d0, d1, d2⟩) (first | (go_at_call 24; refine (HC.out _).mono ?_; rintro e w2 ⟨rfl, hb⟩; have d0 := (hb.cell lc).trans c0; have d1 := (hb.cell lc).trans c1; have d2 := (hb.cell lc).trans c2; have HB2 := Lib.hid (below_trans HB1d.out hb); clear hb))
    all_goals
      go_wp2_with (go_at_call 30; refine (isDay_any _ _).mono ?_; rintro e w4 ⟨rfl, rfl⟩)
      go_ret2
      exact ⟨by rw [HE.out]; rfl, HB2.out⟩
end Go.Proofs.YteoembjghmgbhaaGreatDoor
