/- The flow walks: the reference's Solution. -/
import Derived.Test.YtmhiiomejopaoaaR1
namespace Go.Proofs.Ytmhiiomejopaoaa
set_option linter.all false
open Go.RowKit

def NonPos (z : List Int) : Prop := ∀ i : Int, gi z i ≤ 0
theorem nonpos_rep (n : Nat) : NonPos (List.replicate n 0) := by
  intro i
  simp only [gi, List.getD_eq_getElem?_getD, List.getElem?_replicate]
  split <;> simp
theorem nonpos_si {z : List Int} {b : Int} {v : Int} (h : NonPos z) (hv : v ≤ 0) : NonPos (si z b v) := by
  intro i
  have := h i
  simp only [gi, si, List.getD_eq_getElem?_getD, List.getElem?_set] at this ⊢
  split
  · split
    · simpa using hv
    · simp
  · exact this
theorem nonpos_relax {s : List Int × Bool} {k : Lk} (h : NonPos s.1) : NonPos (relax s k).1 := by
  unfold relax
  split
  · rename_i hc
    refine nonpos_si h ?_
    have h1 : wrap64 (gi s.1 k.a + k.m) < gi s.1 k.b := by simpa [overB] using hc.2
    have := h k.b
    omega
  · exact h
theorem nonpos_fold {l : List Lk} : ∀ {s : List Int × Bool}, NonPos s.1 → NonPos (l.foldl relax s).1 := by
  induction l with
  | nil => intro s h; exact h
  | cons k l ih => intro s h; rw [List.foldl_cons]; exact ih (nonpos_relax h)
theorem relax_yes {z : List Int} {ch : Bool} {q : Lk} (h : NonPos z) (hov : decide (wrap64 (gi z q.a + q.m) < gi z q.b) = true) : relax (z, ch) q = (z.set q.b.toNat (wrap64 (gi z q.a + q.m)), true) := by
  have hne : gi z q.a ≠ free := by have := h q.a; unfold free; omega
  simp [relax, overB, hov, hne, si]
theorem relax_no {z : List Int} {ch : Bool} {q : Lk} (hov : decide (wrap64 (gi z q.a + q.m) < gi z q.b) = false) : relax (z, ch) q = (z, ch) := by simp [relax, overB, hov]
set_option maxRecDepth 100000 in
set_option maxHeartbeats 4000000 in
theorem rsol_any (n : Nat) (A : Option Addr) (c : Nat) (l : List Lk) (w : World) (hn : n ≤ 1000000) (hl : l.length ≤ 1000000) (h : LksAt w A l) (hr : ∀ k ∈ l, InR n k) :
    Calls Try.prog 35 #[.agg #[.int .i64 n, .slice A l.length c]] w fun e w' => ∃ v, e = .returned (.tuple #[v, .bool (solutionL n l).2]) ∧ Below w.heap.size w w' := by
  have hmk := mkInts n hn
  have HR := Lib.hid hr
  obtain ⟨W1, hW1⟩ : ∃ W1, W1 = (w.alloc (.cells #[.int .i64 n, .slice A l.length c] 24)).alloc (.cells (madeCells #[.int .i64 0] n) 3) := ⟨_, rfl⟩
  have HB1 := Lib.hid (show Below w.heap.size w W1 by rw [hW1]; exact bel)
  have HQ := Lib.hid (show W1.cell? ⟨w.heap.size, 0, none⟩ = some (.int .i64 n) ∧ W1.cell? ⟨w.heap.size, 1, none⟩ = some (.slice A l.length c) by rw [hW1]; exact ⟨cell_alloc _ (by go_simp), cell_alloc _ (by go_simp)⟩)
  have HG1 := Lib.hid (show RowI W1 (w.heap.size + 1) (List.replicate n 0) by rw [hW1]; have := RowI_made (w.alloc (.cells #[.int .i64 n, .slice A l.length c] 24)) n; simpa using this)
  have HA1 := Lib.hid (h.below HB1.out)
  have HNE := Lib.hid (h.apart (g := w.heap.size + 1) (by omega))
  have HW1 := Lib.hid hW1
  have HNB := Lib.hid (show some (⟨w.heap.size, 0, none⟩ : Addr).block ≠ some (w.heap.size + 1) by simp)
  clear h hr hW1
  go_enter Try.func35, Try.ntmps35
  go_upto_region 3 with fail
  rw [← HW1.out]
  go_loopw [5, 6, 7, 8] (fun kv _ _ _ wr => ∃ (r : Nat) (y : List Int), r ≤ n + 1 ∧ kv = .int .i64 r ∧ Hid (y.length = n) ∧ Hid (solutionL n l = settledN l (n + 1 - r) y) ∧ Hid (NonPos y) ∧ Hid (RowI wr (w.heap.size + 1) y) ∧ Hid (W1.grownBy wr (some (w.heap.size + 1)))) (fun kv _ _ _ _ => n + 1 - (intOf kv).toNat)
  case atStart => exact ⟨0, List.replicate n 0, by omega, rfl, Lib.hid (by simp), Lib.hid (by unfold solutionL settled; simp), Lib.hid (nonpos_rep n), HG1, Lib.hid (grown_refl _ _)⟩
  case round =>
    obtain ⟨r, y, hrn, rfl, Hy, Hs, HNP, Hg, Hgr⟩ := hrel
    have q0 := Hgr.out.cell HQ.out.1 HNB.out
    have q1 := Hgr.out.cell HQ.out.2 HNB.out
    have lq := World.block_lt_of_cell? _ _ q0
    by_cases hlt : r < n + 1
    · have hlt2 : (r : Int) ≤ (n : Int) := by omega
      go_wp2
      clear q0 q1 lq
      go_loopw [6, 7, 8] (fun ch i _ wr => ∃ k : Nat, k ≤ l.length ∧ i = .int .i64 k ∧ ch = .bool ((l.take k).foldl relax (y, false)).2 ∧ Hid (RowI wr (w.heap.size + 1) ((l.take k).foldl relax (y, false)).1) ∧ Hid (W1.grownBy wr (some (w.heap.size + 1)))) (fun _ i _ _ => l.length - (intOf i).toNat)
      case atStart => exact ⟨0, by omega, rfl, rfl, Hg, Hgr⟩
      case round =>
        obtain ⟨k, hk, rfl, rfl, Hz, Hgz⟩ := hrel
        have Hlen := Lib.hid (foldl_relax_length (l.take k) (y, false))
        have HZP := Lib.hid (nonpos_fold (l := l.take k) (s := (y, false)) HNP.out)
        have q0 := Hgz.out.cell HQ.out.1 HNB.out
        have q1 := Hgz.out.cell HQ.out.2 HNB.out
        have lq := World.block_lt_of_cell? _ _ q0
        generalize hs : (l.take k).foldl relax (y, false) = s at *
        have HS := Lib.hid hs
        clear hs
        obtain ⟨z, ch⟩ := s
        by_cases hkl : k < l.length
        · obtain ⟨b, o, rfl, g1, g2, g3⟩ := (HA1.out.grown Hgz.out HNE.out).nat k hkl
          have hb := World.block_lt_of_cell? _ _ g1
          dsimp only at hb
          have Hf := Lib.hid (fold_gl relax (y, false) l k hkl)
          obtain ⟨i1, i2, i3, i4⟩ := HR.out _ (gl_mem (l := l) (i := k) (by omega) (by omega))
          have hzl : z.length = n := Hlen.out.trans Hy.out
          have HZL := Lib.hid hzl
          generalize hq : gl l k = q at *
          have HQQ := Lib.hid hq
          clear hq
          have ca := Hz.out.cell q.a.toNat (by simp only; omega)
          have cb := Hz.out.cell q.b.toNat (by simp only; omega)
          have fb := Hz.out.frozen q.b.toNat
          have hgl := Hz.out.lt
          simp only [show ((q.a.toNat : Nat) : Int) = q.a by omega, show ((q.b.toNat : Nat) : Int) = q.b by omega] at ca cb
          clear hzl
          cases hov : decide (wrap64 (gi z q.a + q.m) < gi z q.b)
          · have HE := Lib.hid (relax_no (ch := ch) hov)
            go_wp2
            go_quiet (fail)
            go_wp2
            go_roundw
            case rel => exact ⟨k + 1, by omega, by go_num, by rw [Hf.out, HS.out, HE.out], Lib.hid (by rw [Hf.out, HS.out, HE.out]; exact Hz.out.alloc _ |>.drews _), Lib.hid (grown_drews (grown_alloc Hgz.out _) _)⟩
            case measure => simp [intOf]; omega
          · have HE := Lib.hid (relax_yes (ch := ch) HZP.out hov)
            go_wp2
            go_quiet (fail)
            go_wp2
            obtain ⟨w2, hw2⟩ : ∃ w2, w2 = (wr.alloc (.cells #[.int .i64 q.a, .int .i64 q.b, .int .i64 q.m] 39)).drewN nq := ⟨_, rfl⟩
            rw [← hw2]
            have d0 : w2.cell? ⟨wr.heap.size, 0, none⟩ = some (.int .i64 q.a) := by rw [hw2]; go_simp
            have d1 : w2.cell? ⟨wr.heap.size, 1, none⟩ = some (.int .i64 q.b) := by rw [hw2]; go_simp
            have d2 : w2.cell? ⟨wr.heap.size, 2, none⟩ = some (.int .i64 q.m) := by rw [hw2]; go_simp
            have R2 : RowI w2 (w.heap.size + 1) z := by rw [hw2]; exact (Hz.out.alloc _).drews _
            have G2 : W1.grownBy w2 (some (w.heap.size + 1)) := by rw [hw2]; exact grown_drews (grown_alloc Hgz.out _) _
            have c2 := R2.cell q.a.toNat (by have := HZL.out; omega)
            have c3 := R2.cell q.b.toNat (by have := HZL.out; omega)
            have f2 := R2.frozen q.b.toNat
            simp only [show ((q.a.toNat : Nat) : Int) = q.a by omega, show ((q.b.toNat : Nat) : Int) = q.b by omega] at c2 c3
            have HR2 := Lib.hid R2
            have HG2 := Lib.hid G2
            clear R2 G2 hw2 ca cb fb g1 g2 g3 q0 q1
            go_still_tail 12, (by kernel_rfl)
            go_wp2
            go_roundw
            case rel => exact ⟨k + 1, by omega, by go_num, by rw [Hf.out, HS.out, HE.out], Lib.hid (by rw [Hf.out, HS.out, HE.out]; exact HR2.out.set _ _), Lib.hid (grown_drew (grown_set HG2.out _ _ (.inl rfl)))⟩
            case measure => simp [intOf]; omega
        · obtain rfl : k = l.length := by omega
          have e : roundOf l y = (z, ch) := by rw [← HS.out, List.take_length]; rfl
          have hsz : settledN l (n + 1 - r) y = if ch then settledN l (n - r) z else (z, true) := by
            rw [show n + 1 - r = (n - r) + 1 by omega, settledN_succ, e]
          have HSZ := Lib.hid hsz
          clear e hsz
          cases ch
          · have HFin := Lib.hid (show solutionL n l = (z, true) by rw [Hs.out, HSZ.out]; rfl)
            go_wp2
            go_ret2
            have hh := below_of_grown HB1.out Hgz.out HB1.out.size (by omega : w.heap.size ≤ w.heap.size + 1)
            exact ⟨⟨_, by rw [HFin.out]; rfl⟩, hh⟩
          · have HFin := Lib.hid (show solutionL n l = settledN l (n + 1 - (r + 1)) z by rw [Hs.out, HSZ.out]; simp)
            go_wp2
            refine ⟨⟨r + 1, z, by omega, by go_num, Lib.hid (Hlen.out.trans Hy.out), HFin, HZP, Hz, Hgz⟩, by simp [intOf]; omega⟩
    · obtain rfl : r = n + 1 := by omega
      have HFin := Lib.hid (show solutionL n l = (y, false) by rw [Hs.out]; simp [settledN])
      go_wp2
      go_ret2
      exact ⟨⟨_, by rw [HFin.out]; rfl⟩, below_of_grown HB1.out Hgr.out HB1.out.size (by omega)⟩
end Go.Proofs.Ytmhiiomejopaoaa
