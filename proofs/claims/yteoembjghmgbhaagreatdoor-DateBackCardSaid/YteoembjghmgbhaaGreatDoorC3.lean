/- The date walks: spans put together, one behind the other. -/
import Derived.Test.YteoembjghmgbhaaGreatDoorC2
namespace Go.Proofs.YteoembjghmgbhaaGreatDoor
set_option linter.all false
open Go.RowKit

def mx (a b : Int) : Int := max a b
/-- A span behind others: joined with the last one if they touch. -/
def addU (acc : List Sp) (s : Sp) : List Sp :=
  if 0 < acc.length ∧ s.lo ≤ (gs acc ((acc.length - 1 : Nat) : Int)).hi + 1 then acc.set (acc.length - 1) ⟨(gs acc ((acc.length - 1 : Nat) : Int)).lo, mx (gs acc ((acc.length - 1 : Nat) : Int)).hi s.hi⟩
  else acc ++ [s]
structure AddSt (B : Nat) (w : World) (v : Value) (acc : List Sp) : Prop where
  box : w.heap[B]? = some (.cells #[v] 44 (0, 0))
  row : w.ownsRow (B + 1) 39 2 v acc.length (spcs acc)
theorem cells1 {w : World} {p : Nat} {a : Value} {t : TypeId} (h : w.heap[p]? = some (.cells #[a] t (0, 0))) : w.cell? ⟨p, 0, none⟩ = some a ∧ w.frozen? ⟨p, 0, none⟩ = false ∧ p < w.heap.size :=
  ⟨by rw [cell_of_heap h]; rfl, frozen_of_heap h 0, (Array.getElem?_eq_some_iff.1 h).1⟩
theorem box_set {w : World} {p : Nat} {a x : Value} {t : TypeId} (h : w.heap[p]? = some (.cells #[a] t (0, 0))) : (w.setCell ⟨p, 0, none⟩ x).heap[p]? = some (.cells #[x] t (0, 0)) := by
  simp [World.setCell, Array.getElem?_modify, h]
theorem spcs_app (l : List Sp) (s : Sp) : spcs (l ++ [s]) = spcs l ++ spc s := by unfold spcs; simp
theorem spcs_set (l : List Sp) : ∀ (k : Nat) (x : Int), k < l.length → (spcs l).set (k * 2 + 1) (.int .i64 x) = spcs (l.set k ⟨(gs l (k : Int)).lo, x⟩) := by
  induction l with
  | nil => intro k x h; simp at h
  | cons y l ih =>
    intro k x hk
    have e : ∀ (y : Sp) (l : List Sp), spcs (y :: l) = .int .i64 y.lo :: .int .i64 y.hi :: spcs l := fun _ _ => rfl
    cases k with
    | zero => rw [e]; simp [e, gs]
    | succ k =>
      rw [e, show (k + 1) * 2 + 1 = (k * 2 + 1) + 1 + 1 by omega, List.set_cons_succ, List.set_cons_succ, ih k x (by simpa using hk), List.set_cons_succ, e]
      simp [gs]
theorem spc_one (s : Sp) : ∀ u ∈ spc s, u.oneCell' = true := by
  intro u hu
  simp [spc] at hu
  rcases hu with rfl | rfl <;> rfl
set_option maxRecDepth 100000 in
set_option maxHeartbeats 2000000 in
theorem add_new (B : Nat) (v : Value) (acc : List Sp) (s : Sp) (w : World) (hS : AddSt B w v acc) (hlen : acc.length ≤ 1000) (hno : acc.length = 0) :
    Calls Tryz.prog 56 #[spv s, .pointer (some ⟨B, 0, none⟩)] w fun e w' => e = .returned (.tuple #[]) ∧ ∃ v', AddSt B w' v' (acc ++ [s]) ∧ Below B w w' := by
  obtain ⟨A, c, rfl, hc, hn, hA⟩ := own_slice hS.row
  obtain ⟨c0, f0, l0⟩ := cells1 hS.box
  have HR := Lib.hid hS.row
  have HBX := Lib.hid hS.box
  obtain ⟨a, b⟩ := s
  unfold spv
  simp only at *
  have hz : decide (0 < acc.length) = false := decide_eq_false (by omega)
  clear hS hno
  go_enter Tryz.func56, Tryz.ntmps56
  go_upto_region 2 with fail
  go_quiet (fail)
  obtain ⟨W, hWe⟩ : ∃ W, W = (w.alloc (Obj.cells #[.int .i64 a, .int .i64 b] 39)).drewN nq := ⟨_, rfl⟩
  have hWB := Lib.hid (show Below (B + 1) w W by rw [hWe]; exact below_dN (Below.alloc (Below.refl _ _) (by omega) _) _)
  have hWR := Lib.hid (show W.ownsRow (B + 1) 39 2 (.slice A acc.length c) acc.length (spcs acc) by rw [hWe]; exact HR.out.alloc _)
  have hWX := Lib.hid (show W.heap[B]? = some (.cells #[.slice A acc.length c] 44 (0, 0)) from (hWB.out.block B (by omega)).trans HBX.out)
  have hWS := Lib.hid (show W.heap[w.heap.size]? = some (.cells #[.int .i64 a, .int .i64 b] 39 (0, 0)) by rw [hWe]; exact heap_alloc_new w _)
  rw [← hWe]
  clear hWe
  obtain ⟨u0, g0, m0⟩ := cells1 hWX.out
  obtain ⟨u1, u2, g1, g2, m1⟩ := cells2 hWS.out
  go_wp2_with (at_builtin; refine app_one rfl _ _ 44 39 (.agg #[.int .i64 0, .int .i64 0]) 2 16 rfl Tryz.underlying44 info37 rfl (by omega) (.slice A acc.length c) acc.length (spcs acc) (spc ⟨a, b⟩) rfl rfl (by simp) rfl (spc_one _) (B + 1) hWR.out (by omega) (by omega) (by unfold maxLen; omega) ?_; intro v1 w1 ho hg _; obtain ⟨A1, c1, rfl, -⟩ := own_slice ho; have HB1 := Lib.hid (below_own hWB.out hg (by omega) (fun b hb => by cases A with | none => cases hb | some ad => have := hA ad rfl; rw [hb] at this; have h2 := Option.some.inj this.1; omega)); have HX1 := Lib.hid ((HB1.out.block B (by omega)).trans HBX.out); obtain ⟨y0, z0, k0⟩ := cells1 HX1.out; have HO1 := Lib.hid ho; clear hg ho)
  go_end0
  refine ⟨rfl, _, ⟨box_set HX1.out, ?_⟩, ?_⟩
  · rw [spcs_app, List.length_append]; exact ownsRow_setCell_below HO1.out (Nat.lt_succ_self B) _
  · exact (HB1.out.mono (Nat.le_succ B)).setCell (Nat.le_refl _) _
set_option maxRecDepth 100000 in
set_option maxHeartbeats 2000000 in
theorem add_far (B : Nat) (v : Value) (acc : List Sp) (s : Sp) (w : World) (hS : AddSt B w v acc) (hlen : acc.length ≤ 1000) (hno : 0 < acc.length) (hfar : (gs acc ((acc.length - 1 : Nat) : Int)).hi + 1 < s.lo) (hbd : -1000000 ≤ (gs acc ((acc.length - 1 : Nat) : Int)).hi ∧ (gs acc ((acc.length - 1 : Nat) : Int)).hi ≤ 1000000) :
    Calls Tryz.prog 56 #[spv s, .pointer (some ⟨B, 0, none⟩)] w fun e w' => e = .returned (.tuple #[]) ∧ ∃ v', AddSt B w' v' (acc ++ [s]) ∧ Below B w w' := by
  obtain ⟨A, c, rfl, hc, hn, hA⟩ := own_slice hS.row
  obtain ⟨k, hk⟩ : ∃ k, acc.length = k + 1 := ⟨acc.length - 1, by omega⟩
  obtain ⟨g, o, hAe, r0, r1⟩ := (own_sps hS.row).nat k (by omega)
  have hrow := hS.row
  have hbox := hS.box
  rw [hk] at hrow hbox hc hn hA hlen hno
  have HK := Lib.hid hk
  rw [hk, show k + 1 - 1 = k from rfl] at hfar hbd
  clear hk
  obtain ⟨c0, f0, l0⟩ := cells1 hbox
  have HR := Lib.hid hrow
  have HBX := Lib.hid hbox
  obtain ⟨a, b⟩ := s
  unfold spv
  simp only at *
  have hz : decide (0 < k + 1) = true := decide_eq_true (by omega)
  have ho0 : o = 0 ∧ B + 1 ≤ g ∧ g < w.heap.size := by
    rcases hrow.2 with ⟨e, _⟩ | ⟨g', cap, cur, e, hb, hh, _⟩
    · rw [hAe] at e; cases e
    · rw [hAe] at e; injection e with e1 e2 e3; injection e1 with e1; injection e1 with e1 e4; subst e1; exact ⟨e4, hb, (Array.getElem?_eq_some_iff.1 hh).1⟩
  obtain ⟨rfl, hg1, hg2⟩ := ho0
  subst hAe
  simp only [Nat.zero_add] at r0 r1
  generalize gs acc (k : Int) = last at *
  obtain ⟨la, lb⟩ := last
  simp only at *
  have hq : decide (a ≤ lb + 1) = false := decide_eq_false (by omega)
  clear hS hno hfar hrow hbox
  go_enter Tryz.func56, Tryz.ntmps56
  go_upto_region 2 with fail
  go_quiet (fail)
  obtain ⟨W, hWe⟩ : ∃ W, W = (w.alloc (Obj.cells #[.int .i64 a, .int .i64 b] 39)).drewN nq := ⟨_, rfl⟩
  have hWB := Lib.hid (show Below (B + 1) w W by rw [hWe]; exact below_dN (Below.alloc (Below.refl _ _) (by omega) _) _)
  have hWR := Lib.hid (show W.ownsRow (B + 1) 39 2 (.slice (some ⟨g, 0, none⟩) (k + 1) c) (k + 1) (spcs acc) by rw [hWe]; exact HR.out.alloc _)
  have hWX := Lib.hid (show W.heap[B]? = some (.cells #[.slice (some ⟨g, 0, none⟩) (k + 1) c] 44 (0, 0)) from (hWB.out.block B (by omega)).trans HBX.out)
  have hWS := Lib.hid (show W.heap[w.heap.size]? = some (.cells #[.int .i64 a, .int .i64 b] 39 (0, 0)) by rw [hWe]; exact heap_alloc_new w _)
  rw [← hWe]
  clear hWe
  obtain ⟨u0, g0, m0⟩ := cells1 hWX.out
  obtain ⟨u1, u2, g1, g2, m1⟩ := cells2 hWS.out
  go_wp2_with (at_builtin; refine app_one rfl _ _ 44 39 (.agg #[.int .i64 0, .int .i64 0]) 2 16 rfl Tryz.underlying44 info37 rfl (by omega) (.slice (some ⟨g, 0, none⟩) (k + 1) c) (k + 1) (spcs acc) (spc ⟨a, b⟩) rfl rfl (by simp) rfl (spc_one _) (B + 1) hWR.out (by omega) (by omega) (by unfold maxLen; omega) ?_; intro v1 w1 ho hg _; obtain ⟨A1, c1, rfl, -⟩ := own_slice ho; have HB1 := Lib.hid (below_own hWB.out hg (by omega) (fun b hb => by cases hb; omega)); have HX1 := Lib.hid ((HB1.out.block B (by omega)).trans HBX.out); obtain ⟨y0, z0, k0⟩ := cells1 HX1.out; have HO1 := Lib.hid ho; clear hg ho)
  go_end0
  refine ⟨rfl, _, ⟨box_set HX1.out, ?_⟩, ?_⟩
  · rw [spcs_app, List.length_append, HK.out]; exact ownsRow_setCell_below HO1.out (Nat.lt_succ_self B) _
  · exact (HB1.out.mono (Nat.le_succ B)).setCell (Nat.le_refl _) _
set_option maxRecDepth 100000 in
set_option maxHeartbeats 2000000 in
theorem add_touch (B : Nat) (v : Value) (acc : List Sp) (s : Sp) (w : World) (hS : AddSt B w v acc) (hlen : acc.length ≤ 1000) (hno : 0 < acc.length) (hnear : s.lo ≤ (gs acc ((acc.length - 1 : Nat) : Int)).hi + 1) (hbd : -1000000 ≤ (gs acc ((acc.length - 1 : Nat) : Int)).hi ∧ (gs acc ((acc.length - 1 : Nat) : Int)).hi ≤ 1000000) :
    Calls Tryz.prog 56 #[spv s, .pointer (some ⟨B, 0, none⟩)] w fun e w' => e = .returned (.tuple #[]) ∧ ∃ v', AddSt B w' v' (acc.set (acc.length - 1) ⟨(gs acc ((acc.length - 1 : Nat) : Int)).lo, mx (gs acc ((acc.length - 1 : Nat) : Int)).hi s.hi⟩) ∧ Below B w w' := by
  obtain ⟨A, c, rfl, hc, hn, hA⟩ := own_slice hS.row
  obtain ⟨k, hk⟩ : ∃ k, acc.length = k + 1 := ⟨acc.length - 1, by omega⟩
  obtain ⟨g, o, hAe, r0, r1⟩ := (own_sps hS.row).nat k (by omega)
  have hrow := hS.row
  have hbox := hS.box
  rw [hk] at hrow hbox hc hn hA hlen hno
  have HK := Lib.hid hk
  rw [hk, show k + 1 - 1 = k from rfl] at hnear hbd ⊢
  clear hk
  obtain ⟨c0, f0, l0⟩ := cells1 hbox
  have HR := Lib.hid hrow
  have HBX := Lib.hid hbox
  obtain ⟨a, b⟩ := s
  unfold spv
  simp only at *
  have hz : decide (0 < k + 1) = true := decide_eq_true (by omega)
  have ho0 : o = 0 ∧ B + 1 ≤ g ∧ g < w.heap.size := by
    rcases hrow.2 with ⟨e, _⟩ | ⟨g', cap, cur, e, hb, hh, _⟩
    · rw [hAe] at e; cases e
    · rw [hAe] at e; injection e with e1 e2 e3; injection e1 with e1; injection e1 with e1 e4; subst e1; exact ⟨e4, hb, (Array.getElem?_eq_some_iff.1 hh).1⟩
  obtain ⟨rfl, hg1, hg2⟩ := ho0
  subst hAe
  simp only [Nat.zero_add] at r0 r1
  obtain ⟨last, hlast⟩ : ∃ last, gs acc (k : Int) = last := ⟨_, rfl⟩
  rw [hlast] at hnear hbd r0 r1 ⊢
  have HL := Lib.hid hlast
  clear hlast
  obtain ⟨la, lb⟩ := last
  simp only at *
  have hq : decide (a ≤ lb + 1) = true := decide_eq_true (by omega)
  obtain ⟨mv, hmv⟩ : ∃ mv, max lb b = mv := ⟨_, rfl⟩
  have HMV := Lib.hid (show mx lb b = mv from hmv)
  clear hS hno hnear hrow hbox
  go_enter Tryz.func56, Tryz.ntmps56
  go_upto_region 2 with fail
  go_quiet (fail)
  go_upto_region 3 with fail
  obtain ⟨W, hWe⟩ : ∃ W, W = (w.alloc (Obj.cells #[.int .i64 a, .int .i64 b] 39)).drewN nq := ⟨_, rfl⟩
  have hWB := Lib.hid (show Below w.heap.size w W by rw [hWe]; exact below_dN (Below.alloc (Below.refl _ _) (by omega) _) _)
  have hWR := Lib.hid (show W.ownsRow (B + 1) 39 2 (.slice (some ⟨g, 0, none⟩) (k + 1) c) (k + 1) (spcs acc) by rw [hWe]; exact HR.out.alloc _)
  have hWX := Lib.hid (show W.heap[B]? = some (.cells #[.slice (some ⟨g, 0, none⟩) (k + 1) c] 44 (0, 0)) from (hWB.out.block B (by omega)).trans HBX.out)
  have hWS := Lib.hid (show W.heap[w.heap.size]? = some (.cells #[.int .i64 a, .int .i64 b] 39 (0, 0)) by rw [hWe]; exact heap_alloc_new w _)
  rw [← hWe]
  clear hWe
  obtain ⟨u0, g0, m0⟩ := cells1 hWX.out
  obtain ⟨u1, u2, g1, g2, m1⟩ := cells2 hWS.out
  have q0 := (hWB.out.cell (p := ⟨g, k * 2, none⟩) hg2).trans r0
  have q1 := (hWB.out.cell (p := ⟨g, k * 2 + 1, none⟩) hg2).trans r1
  have q2 : W.frozen? ⟨g, k * 2 + 1, none⟩ = false := by
    rcases hWR.out.2 with ⟨e, _⟩ | ⟨g', cap, cur, e, hb, hh, _⟩
    · cases e
    · cases e; exact frozen_of_heap hh _
  have ew : IntKind.i64.wrap (k : Int) = k := by rw [IntKind.wrap_i64]; omega
  clear c0 f0 r0 r1
  have i1 : (0 : Int) ≤ (k : Int) := by omega
  have i2 : (k : Int) < ((k + 1 : Nat) : Int) := by omega
  have i3 : (k : Int) < (k : Int) + 1 := by omega
  go_still_tail 14, (by kernel_rfl)
  go_wp2
  refine bodyPost_ret (results_none rfl _ _ _) rfl ?_
  have e3 : (acc.set k ⟨la, mx lb b⟩).length = k + 1 := by rw [List.length_set, HK.out]
  have e4 : spcs (acc.set k ⟨la, mx lb b⟩) = (spcs acc).set (k * 2 + 1) (.int .i64 mv) := by
    have h := spcs_set acc k mv (by rw [HK.out]; omega)
    rw [HL.out] at h
    rw [HMV.out]; exact h.symm
  refine ⟨rfl, .slice (some ⟨g, 0, none⟩) (k + 1) c, ⟨?_, ?_⟩, ?_⟩
  · exact (((hWB.out.mono (show B + 1 ≤ w.heap.size from l0)).setCell (p := ⟨g, k * 2 + 1, none⟩) (show B + 1 ≤ g from hg1) _).drew.block B (Nat.lt_succ_self B)).trans HBX.out
  · rw [e3, e4]; exact (own_set hWR.out (k * 2 + 1) (by omega) _ : (W.setCell ⟨g, k * 2 + 1, none⟩ (.int .i64 mv)).ownsRow _ _ _ _ _ _)
  · exact ((hWB.out.mono (Nat.le_of_lt l0)).setCell (p := ⟨g, k * 2 + 1, none⟩) (show B ≤ g by omega) _).drew
/-- A span handed to the closure. -/
theorem add_any (B : Nat) (v : Value) (acc : List Sp) (s : Sp) (w : World) (hS : AddSt B w v acc) (hlen : acc.length ≤ 1000) (hbd : ∀ x ∈ acc, -1000000 ≤ x.hi ∧ x.hi ≤ 1000000) :
    Calls Tryz.prog 56 #[spv s, .pointer (some ⟨B, 0, none⟩)] w fun e w' => e = .returned (.tuple #[]) ∧ ∃ v', AddSt B w' v' (addU acc s) ∧ Below B w w' := by
  unfold addU
  by_cases h0 : acc.length = 0
  · rw [if_neg (fun h => by omega)]
    exact add_new B v acc s w hS hlen h0
  · have hb := hbd _ (gs_mem (l := acc) (i := acc.length - 1) (by omega))
    split
    · rename_i h
      exact add_touch B v acc s w hS hlen h.1 h.2 hb
    · rename_i h
      exact add_far B v acc s w hS hlen (by omega) (by omega) hb
end Go.Proofs.YteoembjghmgbhaaGreatDoor
