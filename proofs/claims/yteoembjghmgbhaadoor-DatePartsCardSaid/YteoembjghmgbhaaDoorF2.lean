/- The date walks: Minus; the reference's Meet. -/
import Derived.Test.YteoembjghmgbhaaDoorF1
namespace Go.Proofs.YteoembjghmgbhaaDoor
set_option linter.all false
open Go.RowKit

def minusE (a b : Sp) : Int := if spanB a && spanB b then 0 else 1
def minusL (a b : Sp) : List Sp := if spanB a && spanB b then restL a [b] else []
theorem below2 {w w2 : World} {o1 o2 : Obj} (hb : Below ((w.alloc o1).alloc o2).heap.size ((w.alloc o1).alloc o2) w2) : Below w.heap.size w w2 ∧ w2.heap[w.heap.size]? = some o1 ∧ w2.heap[w.heap.size + 1]? = some o2 :=
  ⟨below_trans (bel : Below w.heap.size w ((w.alloc o1).alloc o2)) hb, blockA hb, blockB hb⟩
set_option maxRecDepth 100000 in
set_option maxHeartbeats 1000000 in
theorem Minus_any (a b : Sp) (w : World) : Calls Tryd.prog 54 #[spv a, spv b] w fun e w' => ∃ v, e = .returned (.tuple #[v, .int .i64 (minusE a b)]) ∧ w'.ownsRow w.heap.size 37 2 v (minusL a b).length (spcs (minusL a b)) ∧ Below w.heap.size w w' := by
  have HE := Lib.hid (show minusE a b = if spanB a && spanB b then 0 else 1 from rfl)
  have HL := Lib.hid (show minusL a b = if spanB a && spanB b then restL a [b] else [] from rfl)
  have HA := Lib.hid (fun W => isSpan_b a W)
  have HB := Lib.hid (fun W => isSpan_b b W)
  cases ha : spanB a
  · rw [ha] at HE HL HA
    obtain ⟨a1, a2⟩ := a
    obtain ⟨b1, b2⟩ := b
    unfold spv at *
    simp only at *
    clear ha HB
    go_enter Tryd.func54, Tryd.ntmps54
    go_wp2_with (first | (go_at_call 71; refine (HA.out _).mono ?_; rintro e w1 ⟨rfl, hb⟩; have H1 := Lib.hid (below2 hb); clear hb HA))
    go_ret2
    exact ⟨_, by rw [HE.out]; rfl, by rw [HL.out]; exact World.ownsRow_nil _ _ _ _, H1.out.1⟩
  · rw [ha] at HE HL HA
    cases hb0 : spanB b
    · rw [hb0] at HE HL HB
      obtain ⟨a1, a2⟩ := a
      obtain ⟨b1, b2⟩ := b
      unfold spv at *
      simp only at *
      clear ha hb0
      go_enter Tryd.func54, Tryd.ntmps54
      go_wp2_with (first | (go_at_call 71; refine (HA.out _).mono ?_; rintro e w1 ⟨rfl, hb⟩; have H1 := Lib.hid (below2 hb); obtain ⟨q0, q1, _, _, _⟩ := cells2 H1.out.2.2; clear hb HA) | (go_at_call 71; refine (HB.out _).mono ?_; rintro e w2 ⟨rfl, hb⟩; have HB2 := Lib.hid (below_trans H1.out.1 hb); clear hb HB))
      go_ret2
      exact ⟨_, by rw [HE.out]; rfl, by rw [HL.out]; exact World.ownsRow_nil _ _ _ _, HB2.out⟩
    · rw [hb0] at HE HL HB
      have hab : 0 ≤ a.lo ∧ a.lo ≤ a.hi ∧ a.hi ≤ 60000 := by simpa [spanB] using ha
      have hbb : 0 ≤ b.lo ∧ b.lo ≤ b.hi ∧ b.hi ≤ 60000 := by simpa [spanB] using hb0
      have HR := Lib.hid (fun A W (h : SpsAt W A [b]) => rest_any a A 1 [b] W ⟨hab.1, by omega, by omega, hab.2.2⟩ (by simp) h (fun x hx => by simp at hx; subst hx; omega))
      obtain ⟨a1, a2⟩ := a
      obtain ⟨b1, b2⟩ := b
      unfold spv at *
      simp only at *
      clear ha hb0 hab hbb
      go_enter Tryd.func54, Tryd.ntmps54
      go_wp2_with (first | (go_at_call 71; refine (HA.out _).mono ?_; rintro e w1 ⟨rfl, hb⟩; have H1 := Lib.hid (below2 hb); obtain ⟨q0, q1, _, _, _⟩ := cells2 H1.out.2.2; clear hb HA) | (go_at_call 71; refine (HB.out _).mono ?_; rintro e w2 ⟨rfl, hb⟩; have HB2 := Lib.hid (below_trans H1.out.1 hb); obtain ⟨c0, c1, _, _, _⟩ := cells2 (lift0 hb H1.out.2.1); obtain ⟨d0, d1, _, _, _⟩ := cells2 (lift0 hb H1.out.2.2); clear hb HB) | (go_at_call 76; refine (HR.out _ _ (sps_lit w2 [⟨b1, b2⟩] #[.int .i64 b1, .int .i64 b2] rfl (by simp))).mono ?_; rintro e w3 ⟨v, rfl, ho, hb⟩; have HB3 := Lib.hid (below_trans (HB2.out.alloc HB2.out.size _) hb); have HO3 := Lib.hid (own_base (base' := w.heap.size) ho (by have := HB2.out.size; simp; omega)); clear hb ho))
      go_ret2
      exact ⟨_, by rw [HE.out]; rfl, by rw [HL.out]; exact HO3.out, HB3.out⟩
set_option maxRecDepth 100000 in
set_option maxHeartbeats 1000000 in
theorem rMeet_any (a b : Sp) (w : World) : Calls Tryd.prog 55 #[spv a, spv b] w fun e w' => e = .returned (.tuple #[spv (meetS a b), .bool (decide ((meetS a b).lo ≤ (meetS a b).hi))]) ∧ Below w.heap.size w w' := by
  have HM := Lib.hid (show meetS a b = ⟨max a.lo b.lo, min a.hi b.hi⟩ from rfl)
  obtain ⟨a1, a2⟩ := a
  obtain ⟨b1, b2⟩ := b
  obtain ⟨m1, hm1⟩ : ∃ m1, max a1 b1 = m1 := ⟨_, rfl⟩
  obtain ⟨m2, hm2⟩ : ∃ m2, min a2 b2 = m2 := ⟨_, rfl⟩
  simp only at HM
  rw [hm1, hm2] at HM
  unfold spv at *
  simp only at *
  go_enter Tryd.func55, Tryd.ntmps55
  go_upto_region 2 with fail
  have tb : ∀ r, decide (m1 ≤ m2) = r → r = decide (m1 ≤ m2) := fun _ h => h.symm
  clear tb
  obtain ⟨W, hWe⟩ : ∃ W, W = (((w.alloc (Obj.cells #[.int .i64 a1, .int .i64 a2] 37)).alloc (Obj.cells #[.int .i64 b1, .int .i64 b2] 37)).alloc (Obj.cells #[.int .i64 0, .int .i64 0] 37)).alloc (Obj.cells #[.int .i64 m1, .int .i64 m2] 37) := ⟨_, rfl⟩
  have HWB := Lib.hid (show Below w.heap.size w W by rw [hWe]; exact bel)
  have HZ := Lib.hid (show W.heap[w.heap.size + 1 + 1]? = some (.cells #[.int .i64 0, .int .i64 0] 37 (0, 0)) by rw [hWe]; exact (heap_alloc_old _ _ (by simp)).trans (by simpa using heap_alloc_new ((w.alloc (Obj.cells #[.int .i64 a1, .int .i64 a2] 37)).alloc (Obj.cells #[.int .i64 b1, .int .i64 b2] 37)) (Obj.cells #[.int .i64 0, .int .i64 0] 37)))
  have HX := Lib.hid (show W.heap[w.heap.size + 1 + 1 + 1]? = some (.cells #[.int .i64 m1, .int .i64 m2] 37 (0, 0)) by rw [hWe]; simpa using heap_alloc_new (((w.alloc (Obj.cells #[.int .i64 a1, .int .i64 a2] 37)).alloc (Obj.cells #[.int .i64 b1, .int .i64 b2] 37)).alloc (Obj.cells #[.int .i64 0, .int .i64 0] 37)) (Obj.cells #[.int .i64 m1, .int .i64 m2] 37))
  rw [← hWe]
  clear hWe
  obtain ⟨c0, c1, f0, f1, lc⟩ := cells2 HZ.out
  obtain ⟨d0, d1, g0, g1, ld⟩ := cells2 HX.out
  obtain ⟨y0, y1, _⟩ := cells2 (set2 (x := .int .i64 m1) (y := .int .i64 m2) HZ.out)
  go_region
  all_goals
    go_wp2
    refine bodyPost_ret (v := .tuple #[.agg #[.int .i64 m1, .int .i64 m2], .bool (decide (m1 ≤ m2))]) ?_ rfl ⟨by rw [HM.out], ?_⟩
    · simp [results, Tryd.results55, go_sem, y0, y1]
    · exact bel
end Go.Proofs.YteoembjghmgbhaaDoor
