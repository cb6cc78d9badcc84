/- The date walks: Parse, where the text is no date's by its form. -/
import Derived.Test.YteoembjghmgbhaaGreatDoorZ7
namespace Go.Proofs.YteoembjghmgbhaaGreatDoor
set_option linter.all false
open Go.RowKit

theorem old_box {w : World} {p : Nat} {X : Obj} (o : Obj) (h : w.heap[p]? = some X) : (w.alloc o).heap[p]? = some X := (heap_alloc_old w o (Array.getElem?_eq_some_iff.1 h).1).trans h
/-- What Split gives, in a world. -/
def SplitAt (s : ByteArray) (K : Nat) (Ps : List ByteArray) : Prop := ∀ W, Vars W → Calls Tryz.prog 21 #[.string s, .string ⟨#[32]⟩] W fun e w' => e = .returned (.slice (some ⟨W.heap.size, 0, none⟩) K K) ∧ w' = W.alloc (.cells (Ps.map Value.string).toArray 9)
theorem split_at (s : ByteArray) (hs : s.size ≤ 1000) : SplitAt s (Lib.countB s sep32 + 1) (Lib.splitB sep32 0 (Lib.countB s sep32) s) := fun W hW => split_str s hs W hW
set_option maxRecDepth 100000 in
set_option maxHeartbeats 1000000 in
theorem parse_not3 (s : ByteArray) (K : Nat) (Ps : List ByteArray) (w : World) (hV : Vars w) (hS : SplitAt s K Ps) (hK : K ≠ 3) :
    Calls Tryz.prog 7 #[.string s] w fun e w' => e = .returned (.tuple #[dtv zeroD, .int .i64 7]) ∧ Below w.heap.size w w' := by
  have HV := Lib.hid hV
  have HS := Lib.hid hS
  unfold SplitAt at HS
  have t1 : ((K : Int) != 3) = true := by rw [bne_iff_ne]; omega
  clear hV hS hK
  unfold dtv zeroD
  simp only
  go_enter Tryz.func7, Tryz.ntmps7
  go_wp2_with (first | (go_at_call 21; refine (HS.out _ (HV.out.below bel)).mono ?_; rintro e w1 ⟨rfl, hw1⟩; have HB1 := Lib.hid (show Below w.heap.size w w1 by rw [hw1]; exact bel); have HX1 := Lib.hid (show w1.heap[w.heap.size]? = some (.cells #[.int .i64 0, .int .i64 0, .int .i64 0] 23 (0, 0)) by rw [hw1]; exact old_box _ (heap_alloc_new w _)); obtain ⟨x0, x1, x2, y0, y1, y2, lx⟩ := cells3 HX1.out; clear hw1))
  have HX3 := Lib.hid (set3 (x := .int .i64 0) (y := .int .i64 0) (z := .int .i64 0) HX1.out)
  obtain ⟨v0, v1, v2, _, _, _, _⟩ := cells3 HX3.out
  refine bodyPost_ret (v := .tuple #[.agg #[.int .i64 0, .int .i64 0, .int .i64 0], .int .i64 7]) ?_ rfl ?_
  · simp [results, Tryz.results7, go_sem, *]
  · exact ⟨rfl, ((HB1.out.setCell (Nat.le_refl _) _).setCell (Nat.le_refl _) _).setCell (Nat.le_refl _) _⟩
set_option maxRecDepth 100000 in
set_option maxHeartbeats 2000000 in
theorem parse_len (s P0 P1 P2 : ByteArray) (w : World) (hV : Vars w) (hS : SplitAt s 3 [P0, P1, P2]) (h1 : P1.size ≠ 3) :
    Calls Tryz.prog 7 #[.string s] w fun e w' => e = .returned (.tuple #[dtv zeroD, .int .i64 7]) ∧ Below w.heap.size w w' := by
  have HV := Lib.hid hV
  have HS := Lib.hid hS
  unfold SplitAt at HS
  simp only [List.map_cons, List.map_nil] at HS
  have t1 : ((P1.size : Int) != 3) = true := by rw [bne_iff_ne]; omega
  clear hV hS
  unfold dtv zeroD
  simp only
  go_enter Tryz.func7, Tryz.ntmps7
  go_wp2_with (first | (go_at_call 21; refine (HS.out _ (HV.out.below bel)).mono ?_; rintro e w1 ⟨rfl, hw1⟩; have HB1 := Lib.hid (show Below w.heap.size w w1 by rw [hw1]; exact bel); have HX1 := Lib.hid (show w1.heap[w.heap.size]? = some (.cells #[.int .i64 0, .int .i64 0, .int .i64 0] 23 (0, 0)) by rw [hw1]; exact old_box _ (heap_alloc_new w _)); have HR1 := Lib.hid (show w1.heap[w.heap.size + 1]? = some (.cells #[.string P0, .string P1, .string P2] 9 (0, 0)) by rw [hw1]; simpa using heap_alloc_new (w.alloc (.cells #[.int .i64 0, .int .i64 0, .int .i64 0] 23)) (.cells #[.string P0, .string P1, .string P2] 9)); obtain ⟨x0, x1, x2, y0, y1, y2, lx⟩ := cells3 HX1.out; obtain ⟨r0, r1, r2, s0, s1, s2, lr⟩ := cells3 HR1.out; clear hw1))
  have HZ := Lib.hid (set3 (x := .int .i64 0) (y := .int .i64 0) (z := .int .i64 0) HX1.out)
  obtain ⟨v0, v1, v2, _, _, _, _⟩ := cells3 HZ.out
  refine bodyPost_ret (v := .tuple #[.agg #[.int .i64 0, .int .i64 0, .int .i64 0], .int .i64 7]) ?_ rfl ?_
  · simp [results, Tryz.results7, go_sem, *]
  · exact ⟨rfl, ((HB1.out.setCell (Nat.le_refl _) _).setCell (Nat.le_refl _) _).setCell (Nat.le_refl _) _⟩
set_option maxRecDepth 100000 in
set_option maxHeartbeats 2000000 in
theorem parse_bad0 (s P0 P1 P2 : ByteArray) (at0 : Int) (w : World) (hV : Vars w) (hS : SplitAt s 3 [P0, P1, P2]) (h1 : P1.size = 3) (h3 : P0.size ≤ 1000) (h4 : P2.size ≤ 1000) (hD : ∀ v, Lib.atoiAll P0.data.toList ≠ .ok v) (hA : Lib.index letters P1.data.toList = at0) (A2 : Hid (∀ W, Vars W → Calls Tryz.prog 22 #[.string P2] W fun e w' => (∃ v ev, e = .returned (.tuple #[.int .i64 v, ev])) ∧ Below W.heap.size W w')) :
    Calls Tryz.prog 7 #[.string s] w fun e w' => e = .returned (.tuple #[dtv zeroD, .int .i64 7]) ∧ Below w.heap.size w w' := by
  have HV := Lib.hid hV
  have HS := Lib.hid hS
  unfold SplitAt at HS
  simp only [List.map_cons, List.map_nil] at HS
  have t1 : ((P1.size : Int) != 3) = false := by rw [bne_eq_false_iff_eq]; omega
  have A0 := Lib.hid (fun W (hW : Vars W) => atoi_bad P0 h3 hD W hW)
  have HI := Lib.hid (fun W (hW : Vars W) => index_str (bs letters) P1 (by decide) W hW)
  rw [show Lib.index (bs letters).data.toList P1.data.toList = at0 from hA] at HI
  unfold bs letters at HI
  clear hD hA h1 h3 h4
  clear hV hS
  unfold dtv zeroD
  simp only
  go_enter Tryz.func7, Tryz.ntmps7
  go_wp2_with (first | (go_at_call 21; refine (HS.out _ (HV.out.below bel)).mono ?_; rintro e w1 ⟨rfl, hw1⟩; have HB1 := Lib.hid (show Below w.heap.size w w1 by rw [hw1]; exact bel); have HX1 := Lib.hid (show w1.heap[w.heap.size]? = some (.cells #[.int .i64 0, .int .i64 0, .int .i64 0] 23 (0, 0)) by rw [hw1]; exact old_box _ (heap_alloc_new w _)); have HR1 := Lib.hid (show w1.heap[w.heap.size + 1]? = some (.cells #[.string P0, .string P1, .string P2] 9 (0, 0)) by rw [hw1]; simpa using heap_alloc_new (w.alloc (.cells #[.int .i64 0, .int .i64 0, .int .i64 0] 23)) (.cells #[.string P0, .string P1, .string P2] 9)); obtain ⟨x0, x1, x2, y0, y1, y2, lx⟩ := cells3 HX1.out; obtain ⟨r0, r1, r2, s0, s1, s2, lr⟩ := cells3 HR1.out; clear hw1) | (go_at_call 22; refine (A0.out _ (HV.out.below HB1.out)).mono ?_; rintro e w2 ⟨⟨va0, pa0, rfl⟩, hb⟩; have HB2 := Lib.hid (below_trans HB1.out hb); have HX2 := Lib.hid (lift0 hb HX1.out); have HR2 := Lib.hid (lift0 hb HR1.out); obtain ⟨x20, x21, x22, y20, y21, y22, lx2⟩ := cells3 HX2.out; obtain ⟨r20, r21, r22, s20, s21, s22, lr2⟩ := cells3 HR2.out; clear hb A0) | (go_at_call 22; refine (A2.out _ (HV.out.below HB2.out)).mono ?_; rintro e w3 ⟨⟨va2, ea2, rfl⟩, hb⟩; have HB3 := Lib.hid (below_trans HB2.out hb); have HX3 := Lib.hid (lift0 hb HX2.out); have HR3 := Lib.hid (lift0 hb HR2.out); obtain ⟨x30, x31, x32, y30, y31, y32, lx3⟩ := cells3 HX3.out; obtain ⟨r30, r31, r32, s30, s31, s32, lr3⟩ := cells3 HR3.out; clear hb A2) | (go_at_call 23; refine (HI.out _ (HV.out.below HB3.out)).mono ?_; rintro e w9 ⟨rfl, rfl⟩; clear HI))
  have HZ := Lib.hid (set3 (x := .int .i64 0) (y := .int .i64 0) (z := .int .i64 0) HX3.out)
  obtain ⟨v0, v1, v2, _, _, _, _⟩ := cells3 HZ.out
  refine bodyPost_ret (v := .tuple #[.agg #[.int .i64 0, .int .i64 0, .int .i64 0], .int .i64 7]) ?_ rfl ?_
  · simp [results, Tryz.results7, go_sem, *]
  · exact ⟨rfl, ((HB3.out.setCell (Nat.le_refl _) _).setCell (Nat.le_refl _) _).setCell (Nat.le_refl _) _⟩
set_option maxRecDepth 100000 in
set_option maxHeartbeats 2000000 in
theorem parse_bad2 (s P0 P1 P2 : ByteArray) (at0 D : Int) (w : World) (hV : Vars w) (hS : SplitAt s 3 [P0, P1, P2]) (h1 : P1.size = 3) (h3 : P0.size ≤ 1000) (h4 : P2.size ≤ 1000) (hD : Lib.atoiAll P0.data.toList = .ok D) (hY : ∀ v, Lib.atoiAll P2.data.toList ≠ .ok v) (hA : Lib.index letters P1.data.toList = at0) :
    Calls Tryz.prog 7 #[.string s] w fun e w' => e = .returned (.tuple #[dtv zeroD, .int .i64 7]) ∧ Below w.heap.size w w' := by
  have HV := Lib.hid hV
  have HS := Lib.hid hS
  unfold SplitAt at HS
  simp only [List.map_cons, List.map_nil] at HS
  have t1 : ((P1.size : Int) != 3) = false := by rw [bne_eq_false_iff_eq]; omega
  have A0 := Lib.hid (fun W (_ : Vars W) => atoi_good P0 h3 D hD W)
  have A2 := Lib.hid (fun W (hW : Vars W) => atoi_bad P2 h4 hY W hW)
  have HI := Lib.hid (fun W (hW : Vars W) => index_str (bs letters) P1 (by decide) W hW)
  rw [show Lib.index (bs letters).data.toList P1.data.toList = at0 from hA] at HI
  unfold bs letters at HI
  clear hD hY hA h1 h3 h4
  clear hV hS
  unfold dtv zeroD
  simp only
  go_enter Tryz.func7, Tryz.ntmps7
  go_wp2_with (first | (go_at_call 21; refine (HS.out _ (HV.out.below bel)).mono ?_; rintro e w1 ⟨rfl, hw1⟩; have HB1 := Lib.hid (show Below w.heap.size w w1 by rw [hw1]; exact bel); have HX1 := Lib.hid (show w1.heap[w.heap.size]? = some (.cells #[.int .i64 0, .int .i64 0, .int .i64 0] 23 (0, 0)) by rw [hw1]; exact old_box _ (heap_alloc_new w _)); have HR1 := Lib.hid (show w1.heap[w.heap.size + 1]? = some (.cells #[.string P0, .string P1, .string P2] 9 (0, 0)) by rw [hw1]; simpa using heap_alloc_new (w.alloc (.cells #[.int .i64 0, .int .i64 0, .int .i64 0] 23)) (.cells #[.string P0, .string P1, .string P2] 9)); obtain ⟨x0, x1, x2, y0, y1, y2, lx⟩ := cells3 HX1.out; obtain ⟨r0, r1, r2, s0, s1, s2, lr⟩ := cells3 HR1.out; clear hw1) | (go_at_call 22; refine (A0.out _ (HV.out.below HB1.out)).mono ?_; rintro e w2 ⟨rfl, hb⟩; have HB2 := Lib.hid (below_trans HB1.out hb); have HX2 := Lib.hid (lift0 hb HX1.out); have HR2 := Lib.hid (lift0 hb HR1.out); obtain ⟨x20, x21, x22, y20, y21, y22, lx2⟩ := cells3 HX2.out; obtain ⟨r20, r21, r22, s20, s21, s22, lr2⟩ := cells3 HR2.out; clear hb A0) | (go_at_call 22; refine (A2.out _ (HV.out.below HB2.out)).mono ?_; rintro e w3 ⟨⟨va2, pa2, rfl⟩, hb⟩; have HB3 := Lib.hid (below_trans HB2.out hb); have HX3 := Lib.hid (lift0 hb HX2.out); have HR3 := Lib.hid (lift0 hb HR2.out); obtain ⟨x30, x31, x32, y30, y31, y32, lx3⟩ := cells3 HX3.out; obtain ⟨r30, r31, r32, s30, s31, s32, lr3⟩ := cells3 HR3.out; clear hb A2) | (go_at_call 23; refine (HI.out _ (HV.out.below HB3.out)).mono ?_; rintro e w9 ⟨rfl, rfl⟩; clear HI))
  have HZ := Lib.hid (set3 (x := .int .i64 0) (y := .int .i64 0) (z := .int .i64 0) HX3.out)
  obtain ⟨v0, v1, v2, _, _, _, _⟩ := cells3 HZ.out
  refine bodyPost_ret (v := .tuple #[.agg #[.int .i64 0, .int .i64 0, .int .i64 0], .int .i64 7]) ?_ rfl ?_
  · simp [results, Tryz.results7, go_sem, *]
  · exact ⟨rfl, ((HB3.out.setCell (Nat.le_refl _) _).setCell (Nat.le_refl _) _).setCell (Nat.le_refl _) _⟩
set_option maxRecDepth 100000 in
set_option maxHeartbeats 2000000 in
theorem parse_bad1 (s P0 P1 P2 : ByteArray) (at0 D Y : Int) (w : World) (hV : Vars w) (hS : SplitAt s 3 [P0, P1, P2]) (h1 : P1.size = 3) (h3 : P0.size ≤ 1000) (h4 : P2.size ≤ 1000) (hD : Lib.atoiAll P0.data.toList = .ok D) (hY : Lib.atoiAll P2.data.toList = .ok Y) (hA : Lib.index letters P1.data.toList = at0) (h0 : at0 < 0) :
    Calls Tryz.prog 7 #[.string s] w fun e w' => e = .returned (.tuple #[dtv zeroD, .int .i64 7]) ∧ Below w.heap.size w w' := by
  have HV := Lib.hid hV
  have HS := Lib.hid hS
  unfold SplitAt at HS
  simp only [List.map_cons, List.map_nil] at HS
  have t1 : ((P1.size : Int) != 3) = false := by rw [bne_eq_false_iff_eq]; omega
  have A0 := Lib.hid (fun W (_ : Vars W) => atoi_good P0 h3 D hD W)
  have A2 := Lib.hid (fun W (_ : Vars W) => atoi_good P2 h4 Y hY W)
  have HI := Lib.hid (fun W (hW : Vars W) => index_str (bs letters) P1 (by decide) W hW)
  rw [show Lib.index (bs letters).data.toList P1.data.toList = at0 from hA] at HI
  unfold bs letters at HI
  have t9 : decide (at0 < 0) = true := decide_eq_true h0
  clear hD hY hA h1 h3 h4 h0
  clear hV hS
  unfold dtv zeroD
  simp only
  go_enter Tryz.func7, Tryz.ntmps7
  go_wp2_with (first | (go_at_call 21; refine (HS.out _ (HV.out.below bel)).mono ?_; rintro e w1 ⟨rfl, hw1⟩; have HB1 := Lib.hid (show Below w.heap.size w w1 by rw [hw1]; exact bel); have HX1 := Lib.hid (show w1.heap[w.heap.size]? = some (.cells #[.int .i64 0, .int .i64 0, .int .i64 0] 23 (0, 0)) by rw [hw1]; exact old_box _ (heap_alloc_new w _)); have HR1 := Lib.hid (show w1.heap[w.heap.size + 1]? = some (.cells #[.string P0, .string P1, .string P2] 9 (0, 0)) by rw [hw1]; simpa using heap_alloc_new (w.alloc (.cells #[.int .i64 0, .int .i64 0, .int .i64 0] 23)) (.cells #[.string P0, .string P1, .string P2] 9)); obtain ⟨x0, x1, x2, y0, y1, y2, lx⟩ := cells3 HX1.out; obtain ⟨r0, r1, r2, s0, s1, s2, lr⟩ := cells3 HR1.out; clear hw1) | (go_at_call 22; refine (A0.out _ (HV.out.below HB1.out)).mono ?_; rintro e w2 ⟨rfl, hb⟩; have HB2 := Lib.hid (below_trans HB1.out hb); have HX2 := Lib.hid (lift0 hb HX1.out); have HR2 := Lib.hid (lift0 hb HR1.out); obtain ⟨x20, x21, x22, y20, y21, y22, lx2⟩ := cells3 HX2.out; obtain ⟨r20, r21, r22, s20, s21, s22, lr2⟩ := cells3 HR2.out; clear hb A0) | (go_at_call 22; refine (A2.out _ (HV.out.below HB2.out)).mono ?_; rintro e w3 ⟨rfl, hb⟩; have HB3 := Lib.hid (below_trans HB2.out hb); have HX3 := Lib.hid (lift0 hb HX2.out); have HR3 := Lib.hid (lift0 hb HR2.out); obtain ⟨x30, x31, x32, y30, y31, y32, lx3⟩ := cells3 HX3.out; obtain ⟨r30, r31, r32, s30, s31, s32, lr3⟩ := cells3 HR3.out; clear hb A2) | (go_at_call 23; refine (HI.out _ (HV.out.below HB3.out)).mono ?_; rintro e w9 ⟨rfl, rfl⟩; clear HI))
  have HZ := Lib.hid (set3 (x := .int .i64 0) (y := .int .i64 0) (z := .int .i64 0) HX3.out)
  obtain ⟨v0, v1, v2, _, _, _, _⟩ := cells3 HZ.out
  refine bodyPost_ret (v := .tuple #[.agg #[.int .i64 0, .int .i64 0, .int .i64 0], .int .i64 7]) ?_ rfl ?_
  · simp [results, Tryz.results7, go_sem, *]
  · exact ⟨rfl, ((HB3.out.setCell (Nat.le_refl _) _).setCell (Nat.le_refl _) _).setCell (Nat.le_refl _) _⟩
end Go.Proofs.YteoembjghmgbhaaGreatDoor
