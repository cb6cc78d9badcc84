/- The flow walks: the reference's Node, Check, Solution, Bounds; Bound. -/
import Derived.Test.YtmhiiomejopaoaaQ1
namespace Go.Proofs.Ytmhiiomejopaoaa
set_option linter.all false
open Go.RowKit
set_option maxRecDepth 100000

def rnodeB (n v : Int) : Bool := decide (0 ≤ v) && decide (v < n)
theorem rnode_eq {n : Int} (v : Int) (h1 : 1 ≤ n) (h2 : n ≤ 50) : rnodeB n v = nodeB n v := by
  unfold rnodeB nodeB withinB
  rw [wrap_pred h1 h2]
  by_cases e : v < n
  · simp [e, show v ≤ n - 1 by omega]
  · simp [e, show ¬ v ≤ n - 1 by omega]
set_option maxHeartbeats 400000 in
theorem rnode_any (n : Int) (l : Value) (v : Int) (w : World) :
    Calls Try.prog 34 #[.agg #[.int .i64 n, l], .int .i64 v] w fun e w' => e = .returned (.bool (rnodeB n v)) ∧ w.alloc (.cells #[.int .i64 n, l] 24) = w' := by
  unfold rnodeB
  go_enter Try.func34, Try.ntmps34
  go_wp2
  all_goals (go_ret; exact ⟨by simp [*]; try omega, rfl⟩)
theorem rnode_at (n : Int) (l : Value) (v : Int) (w : World) (h1 : 1 ≤ n) (h2 : n ≤ 50) :
    Calls Try.prog 34 #[.agg #[.int .i64 n, l], .int .i64 v] w fun e w' => e = .returned (.bool (nodeB n v)) ∧ w.alloc (.cells #[.int .i64 n, l] 24) = w' := by
  rw [← rnode_eq v h1 h2]
  exact rnode_any n l v w
set_option maxRecDepth 100000 in
set_option maxHeartbeats 1000000 in
theorem rcheck_any (n : Int) (A : Option Addr) (c : Nat) (l : List Lk) (w : World) (hl : l.length ≤ 9223372036854775807) (h : LksAt w A l) :
    Calls Try.prog 33 #[.agg #[.int .i64 n, .slice A l.length c]] w fun e w' => e = .returned (.int .i64 (checkL n l)) ∧ Below w.heap.size w w' := by
  have H := Lib.hid h
  clear h
  go_enter Try.func33, Try.ntmps33
  cases hn : withinB n 1 50
  · go_wp2_with (go_at_call 82; refine (in_any _ _ _ _).mono ?_; rintro e w' ⟨rfl, rfl⟩)
    go_ret
    exact ⟨ret_int (by simp [checkL, hn]), bel⟩
  · have hnn : 1 ≤ n ∧ n ≤ 50 := by simpa [withinB] using hn
    by_cases hn3 : l.length ≤ 260
    · go_wp2_with (go_at_call 82; refine (in_any _ _ _ _).mono ?_; rintro e w' ⟨rfl, rfl⟩)
      have HNN := Lib.hid hnn
      clear hnn
      go_loopw [3, 4] (fun i _ wr => ∃ k : Nat, k ≤ l.length ∧ i = .int .i64 k ∧ Hid (∀ j : Nat, j < k → badLk n (gl l j) = false) ∧ Below w.heap.size w wr ∧ wr.cell? ⟨w.heap.size, 0, none⟩ = some (.int .i64 n) ∧ wr.cell? ⟨w.heap.size, 1, none⟩ = some (.slice A l.length c)) (fun i _ _ => l.length - (intOf i).toNat)
      case atStart => exact ⟨0, by omega, rfl, Lib.hid (by simp), bel, by simp, by simp⟩
      case round =>
        obtain ⟨k, hk, rfl, hbad, hB, hc0, hc1⟩ := hrel
        have hz := World.block_lt_of_cell? wr _ hc0
        dsimp only at hz
        by_cases hlt : k < l.length
        · obtain ⟨b, o, rfl, g1, g2, g3⟩ := (H.out.below hB).nat k hlt
          generalize hx : gl l k = x at g1 g2 g3
          have Hx := Lib.hid hx
          clear hx
          have Hone := Lib.hid (fun (hb : badLk n x = true) => any_gl_true (f := badLk n) (l := l) (i := (k : Int)) (by omega) (by omega) (by rw [Hx.out]; exact hb))
          have Hn := Lib.hid hn
          clear hn
          go_wp2_with (first | (go_at_call 82; refine (in_any _ _ _ _).mono ?_; rintro e w' ⟨rfl, rfl⟩) | (go_at_call 34; refine (rnode_at _ _ _ _ HNN.out.1 HNN.out.2).mono ?_; rintro e w1 ⟨rfl, rfl⟩))
          all_goals first
            | (go_ret; exact ⟨ret_int (by rw [checkL, Hn.out, Hone.out (by simp_all [badLk])]; simp [show ¬ 260 < l.length by omega]), bel⟩)
            | (refine ⟨⟨k + 1, by omega, by go_num, Lib.hid fun j hj => ?_, bel, cel, cel⟩, by simp [intOf]; omega⟩
               rcases Nat.lt_succ_iff_lt_or_eq.1 hj with h | rfl
               · exact hbad.out j h
               · rw [Hx.out]; simp_all [badLk])
        · go_wp2
          go_ret
          obtain rfl : k = l.length := by omega
          exact ⟨ret_int (by rw [checkL, any_gl_false hbad.out, hn]; simp [show ¬ 260 < l.length by omega]), hB⟩
    · go_wp2_with (go_at_call 82; refine (in_any _ _ _ _).mono ?_; rintro e w' ⟨rfl, rfl⟩)
      go_ret
      exact ⟨ret_int (by simp [checkL, hn, show 260 < l.length by omega]), bel⟩

def NonPos (z : List Int) : Prop := ∀ i : Int, gi z i ≤ 0
theorem nonpos_rep (n : Nat) : NonPos (List.replicate n 0) := by
  intro i
  simp only [gi, List.getD_eq_getElem?_getD, List.getElem?_replicate]
  split <;> simp
theorem nonpos_si {z : List Int} {b : Int} {v : Int} (h : NonPos z) (hv : v ≤ 0) : NonPos (si z b v) := by
  intro i
  have := h i
  simp only [gi, si, List.getD_eq_getElem?_getD, List.getElem?_set] at this ⊢
  split
  · split
    · simpa using hv
    · simp
  · exact this
theorem nonpos_relax {s : List Int × Bool} {k : Lk} (h : NonPos s.1) : NonPos (relax s k).1 := by
  unfold relax
  split
  · rename_i hc
    refine nonpos_si h ?_
    have h1 : wrap64 (gi s.1 k.a + k.m) < gi s.1 k.b := by simpa [overB] using hc.2
    have := h k.b
    omega
  · exact h
theorem nonpos_fold {l : List Lk} : ∀ {s : List Int × Bool}, NonPos s.1 → NonPos (l.foldl relax s).1 := by
  induction l with
  | nil => intro s h; exact h
  | cons k l ih => intro s h; rw [List.foldl_cons]; exact ih (nonpos_relax h)
theorem relax_yes {z : List Int} {ch : Bool} {q : Lk} (h : NonPos z) (hov : decide (wrap64 (gi z q.a + q.m) < gi z q.b) = true) : relax (z, ch) q = (z.set q.b.toNat (wrap64 (gi z q.a + q.m)), true) := by
  have hne : gi z q.a ≠ free := by have := h q.a; unfold free; omega
  simp [relax, overB, hov, hne, si]
theorem relax_no {z : List Int} {ch : Bool} {q : Lk} (hov : decide (wrap64 (gi z q.a + q.m) < gi z q.b) = false) : relax (z, ch) q = (z, ch) := by simp [relax, overB, hov]
set_option maxRecDepth 100000 in
set_option maxHeartbeats 4000000 in
theorem rsol_any (n : Nat) (A : Option Addr) (c : Nat) (l : List Lk) (w : World) (hn : n ≤ 1000000) (hl : l.length ≤ 1000000) (h : LksAt w A l) (hr : ∀ k ∈ l, InR n k) :
    Calls Try.prog 35 #[.agg #[.int .i64 n, .slice A l.length c]] w fun e w' => ∃ v, e = .returned (.tuple #[v, .bool (solutionL n l).2]) ∧ Below w.heap.size w w' := by
  have hmk := mkInts n hn
  have HR := Lib.hid hr
  obtain ⟨W1, hW1⟩ : ∃ W1, W1 = (w.alloc (.cells #[.int .i64 n, .slice A l.length c] 24)).alloc (.cells (madeCells #[.int .i64 0] n) 3) := ⟨_, rfl⟩
  have HB1 := Lib.hid (show Below w.heap.size w W1 by rw [hW1]; exact bel)
  have HQ := Lib.hid (show W1.cell? ⟨w.heap.size, 0, none⟩ = some (.int .i64 n) ∧ W1.cell? ⟨w.heap.size, 1, none⟩ = some (.slice A l.length c) by rw [hW1]; exact ⟨cell_alloc _ (by go_simp), cell_alloc _ (by go_simp)⟩)
  have HG1 := Lib.hid (show RowI W1 (w.heap.size + 1) (List.replicate n 0) by rw [hW1]; have := RowI_made (w.alloc (.cells #[.int .i64 n, .slice A l.length c] 24)) n; simpa using this)
  have HA1 := Lib.hid (h.below HB1.out)
  have HNE := Lib.hid (h.apart (g := w.heap.size + 1) (by omega))
  have HW1 := Lib.hid hW1
  have HNB := Lib.hid (show some (⟨w.heap.size, 0, none⟩ : Addr).block ≠ some (w.heap.size + 1) by simp)
  clear h hr hW1
  go_enter Try.func35, Try.ntmps35
  go_upto_region 3 with fail
  rw [← HW1.out]
  go_loopw [5, 6, 7, 8] (fun kv _ _ _ wr => ∃ (r : Nat) (y : List Int), r ≤ n + 1 ∧ kv = .int .i64 r ∧ Hid (y.length = n) ∧ Hid (solutionL n l = settledN l (n + 1 - r) y) ∧ Hid (NonPos y) ∧ Hid (RowI wr (w.heap.size + 1) y) ∧ Hid (W1.grownBy wr (some (w.heap.size + 1)))) (fun kv _ _ _ _ => n + 1 - (intOf kv).toNat)
  case atStart => exact ⟨0, List.replicate n 0, by omega, rfl, Lib.hid (by simp), Lib.hid (by unfold solutionL settled; simp), Lib.hid (nonpos_rep n), HG1, Lib.hid (grown_refl _ _)⟩
  case round =>
    obtain ⟨r, y, hrn, rfl, Hy, Hs, HNP, Hg, Hgr⟩ := hrel
    have q0 := Hgr.out.cell HQ.out.1 HNB.out
    have q1 := Hgr.out.cell HQ.out.2 HNB.out
    have lq := World.block_lt_of_cell? _ _ q0
    by_cases hlt : r < n + 1
    · have hlt2 : (r : Int) ≤ (n : Int) := by omega
      go_wp2
      clear q0 q1 lq
      go_loopw [6, 7, 8] (fun ch i _ wr => ∃ k : Nat, k ≤ l.length ∧ i = .int .i64 k ∧ ch = .bool ((l.take k).foldl relax (y, false)).2 ∧ Hid (RowI wr (w.heap.size + 1) ((l.take k).foldl relax (y, false)).1) ∧ Hid (W1.grownBy wr (some (w.heap.size + 1)))) (fun _ i _ _ => l.length - (intOf i).toNat)
      case atStart => exact ⟨0, by omega, rfl, rfl, Hg, Hgr⟩
      case round =>
        obtain ⟨k, hk, rfl, rfl, Hz, Hgz⟩ := hrel
        have Hlen := Lib.hid (foldl_relax_length (l.take k) (y, false))
        have HZP := Lib.hid (nonpos_fold (l := l.take k) (s := (y, false)) HNP.out)
        have q0 := Hgz.out.cell HQ.out.1 HNB.out
        have q1 := Hgz.out.cell HQ.out.2 HNB.out
        have lq := World.block_lt_of_cell? _ _ q0
        generalize hs : (l.take k).foldl relax (y, false) = s at *
        have HS := Lib.hid hs
        clear hs
        obtain ⟨z, ch⟩ := s
        by_cases hkl : k < l.length
        · obtain ⟨b, o, rfl, g1, g2, g3⟩ := (HA1.out.grown Hgz.out HNE.out).nat k hkl
          have hb := World.block_lt_of_cell? _ _ g1
          dsimp only at hb
          have Hf := Lib.hid (fold_gl relax (y, false) l k hkl)
          obtain ⟨i1, i2, i3, i4⟩ := HR.out _ (gl_mem (l := l) (i := k) (by omega) (by omega))
          have hzl : z.length = n := Hlen.out.trans Hy.out
          have HZL := Lib.hid hzl
          generalize hq : gl l k = q at *
          have HQQ := Lib.hid hq
          clear hq
          have ca := Hz.out.cell q.a.toNat (by simp only; omega)
          have cb := Hz.out.cell q.b.toNat (by simp only; omega)
          have fb := Hz.out.frozen q.b.toNat
          have hgl := Hz.out.lt
          simp only [show ((q.a.toNat : Nat) : Int) = q.a by omega, show ((q.b.toNat : Nat) : Int) = q.b by omega] at ca cb
          clear hzl
          cases hov : decide (wrap64 (gi z q.a + q.m) < gi z q.b)
          · have HE := Lib.hid (relax_no (ch := ch) hov)
            go_wp2
            go_quiet (fail)
            go_wp2
            go_roundw
            case rel => exact ⟨k + 1, by omega, by go_num, by rw [Hf.out, HS.out, HE.out], Lib.hid (by rw [Hf.out, HS.out, HE.out]; exact Hz.out.alloc _ |>.drews _), Lib.hid (grown_drews (grown_alloc Hgz.out _) _)⟩
            case measure => simp [intOf]; omega
          · have HE := Lib.hid (relax_yes (ch := ch) HZP.out hov)
            go_wp2
            go_quiet (fail)
            go_wp2
            obtain ⟨w2, hw2⟩ : ∃ w2, w2 = (wr.alloc (.cells #[.int .i64 q.a, .int .i64 q.b, .int .i64 q.m] 39)).drewN nq := ⟨_, rfl⟩
            rw [← hw2]
            have d0 : w2.cell? ⟨wr.heap.size, 0, none⟩ = some (.int .i64 q.a) := by rw [hw2]; go_simp
            have d1 : w2.cell? ⟨wr.heap.size, 1, none⟩ = some (.int .i64 q.b) := by rw [hw2]; go_simp
            have d2 : w2.cell? ⟨wr.heap.size, 2, none⟩ = some (.int .i64 q.m) := by rw [hw2]; go_simp
            have R2 : RowI w2 (w.heap.size + 1) z := by rw [hw2]; exact (Hz.out.alloc _).drews _
            have G2 : W1.grownBy w2 (some (w.heap.size + 1)) := by rw [hw2]; exact grown_drews (grown_alloc Hgz.out _) _
            have c2 := R2.cell q.a.toNat (by have := HZL.out; omega)
            have c3 := R2.cell q.b.toNat (by have := HZL.out; omega)
            have f2 := R2.frozen q.b.toNat
            simp only [show ((q.a.toNat : Nat) : Int) = q.a by omega, show ((q.b.toNat : Nat) : Int) = q.b by omega] at c2 c3
            have HR2 := Lib.hid R2
            have HG2 := Lib.hid G2
            clear R2 G2 hw2 ca cb fb g1 g2 g3 q0 q1
            go_still_tail 12, (by kernel_rfl)
            go_wp2
            go_roundw
            case rel => exact ⟨k + 1, by omega, by go_num, by rw [Hf.out, HS.out, HE.out], Lib.hid (by rw [Hf.out, HS.out, HE.out]; exact HR2.out.set _ _), Lib.hid (grown_drew (grown_set HG2.out _ _ (.inl rfl)))⟩
            case measure => simp [intOf]; omega
        · obtain rfl : k = l.length := by omega
          have e : roundOf l y = (z, ch) := by rw [← HS.out, List.take_length]; rfl
          have hsz : settledN l (n + 1 - r) y = if ch then settledN l (n - r) z else (z, true) := by
            rw [show n + 1 - r = (n - r) + 1 by omega, settledN_succ, e]
          have HSZ := Lib.hid hsz
          clear e hsz
          cases ch
          · have HFin := Lib.hid (show solutionL n l = (z, true) by rw [Hs.out, HSZ.out]; rfl)
            go_wp2
            go_ret2
            have hh := below_of_grown HB1.out Hgz.out HB1.out.size (by omega : w.heap.size ≤ w.heap.size + 1)
            exact ⟨⟨_, by rw [HFin.out]; rfl⟩, hh⟩
          · have HFin := Lib.hid (show solutionL n l = settledN l (n + 1 - (r + 1)) z by rw [Hs.out, HSZ.out]; simp)
            go_wp2
            refine ⟨⟨r + 1, z, by omega, by go_num, Lib.hid (Hlen.out.trans Hy.out), HFin, HZP, Hz, Hgz⟩, by simp [intOf]; omega⟩
    · obtain rfl : r = n + 1 := by omega
      have HFin := Lib.hid (show solutionL n l = (y, false) by rw [Hs.out]; simp [settledN])
      go_wp2
      go_ret2
      exact ⟨⟨_, by rw [HFin.out]; rfl⟩, below_of_grown HB1.out Hgr.out HB1.out.size (by omega)⟩

def rrelax (d : List Int) (k : Lk) : List Int := if gi d k.a < free then si d k.b (mn (gi d k.b) (wrap64 (gi d k.a + k.m))) else d
def riter (l : List Lk) : Nat → List Int → List Int
  | 0, d => d
  | k + 1, d => riter l k (l.foldl rrelax d)
def rboundsL (n : Nat) (l : List Lk) (s : Int) : List Int := riter l n (si (List.replicate n free) s 0)
theorem rrelax_length (d : List Int) (k : Lk) : (rrelax d k).length = d.length := by
  unfold rrelax si; split <;> simp
theorem foldl_rrelax_length (l : List Lk) : ∀ d : List Int, (l.foldl rrelax d).length = d.length := by
  induction l with
  | nil => intro d; rfl
  | cons k l ih => intro d; rw [List.foldl_cons, ih, rrelax_length]
theorem rrelax_yes {z : List Int} {q : Lk} (h : gi z q.a < 1152921504606846976) : rrelax z q = z.set q.b.toNat (if wrap64 (gi z q.a + q.m) < gi z q.b then wrap64 (gi z q.a + q.m) else gi z q.b) := by
  unfold rrelax
  rw [if_pos (show gi z q.a < free from h)]
  rfl
theorem rrelax_no {z : List Int} {q : Lk} (h : ¬ gi z q.a < 1152921504606846976) : rrelax z q = z := by
  unfold rrelax
  rw [if_neg (show ¬ gi z q.a < free from h)]
set_option maxRecDepth 100000 in
set_option maxHeartbeats 4000000 in
theorem rbounds_any (n : Nat) (A : Option Addr) (c : Nat) (l : List Lk) (s : Int) (w : World) (hn : n ≤ 1000000) (hl : l.length ≤ 1000000) (h : LksAt w A l) (hr : ∀ k ∈ l, InR n k) (hs0 : 0 ≤ s) (hs1 : s < n) :
    Calls Try.prog 36 #[.agg #[.int .i64 n, .slice A l.length c], .int .i64 s] w fun e w' => ∃ g, e = .returned (.slice (some ⟨g, 0, none⟩) n n) ∧ w.heap.size ≤ g ∧ RowI w' g (rboundsL n l s) ∧ Below w.heap.size w w' := by
  have hmk := mkInts n hn
  have HR := Lib.hid hr
  obtain ⟨W1, hW1⟩ : ∃ W1, W1 = (w.alloc (.cells #[.int .i64 n, .slice A l.length c] 24)).alloc (.cells (madeCells #[.int .i64 0] n) 3) := ⟨_, rfl⟩
  have HB1 := Lib.hid (show Below w.heap.size w W1 by rw [hW1]; exact bel)
  have HQ := Lib.hid (show W1.cell? ⟨w.heap.size, 0, none⟩ = some (.int .i64 n) ∧ W1.cell? ⟨w.heap.size, 1, none⟩ = some (.slice A l.length c) by rw [hW1]; exact ⟨cell_alloc _ (by go_simp), cell_alloc _ (by go_simp)⟩)
  have HG1 := Lib.hid (show RowI W1 (w.heap.size + 1) (List.replicate n 0) by rw [hW1]; have := RowI_made (w.alloc (.cells #[.int .i64 n, .slice A l.length c] 24)) n; simpa using this)
  have HA1 := Lib.hid (h.below HB1.out)
  have HNE := Lib.hid (h.apart (g := w.heap.size + 1) (by omega))
  have HW1 := Lib.hid hW1
  have HNB := Lib.hid (show some (⟨w.heap.size, 0, none⟩ : Addr).block ≠ some (w.heap.size + 1) by simp)
  clear h hr hW1
  go_enter Try.func36, Try.ntmps36
  go_upto_region 3 with fail
  rw [← HW1.out]
  go_loopw [6] (fun i wr => ∃ k : Nat, k ≤ n ∧ i = .int .i64 k ∧ Hid (RowI wr (w.heap.size + 1) (List.replicate k free ++ List.replicate (n - k) 0)) ∧ Hid (W1.grownBy wr (some (w.heap.size + 1)))) (fun i _ => n - (intOf i).toNat)
  case atStart => exact ⟨0, by omega, rfl, Lib.hid (by simpa using HG1.out), Lib.hid (grown_refl _ _)⟩
  case round =>
    obtain ⟨k, hk, rfl, HZ, HGR⟩ := hrel
    have q0 := HGR.out.cell HQ.out.1 HNB.out
    have lq := World.block_lt_of_cell? _ _ q0
    by_cases hlt : k < n
    · have c1 := HZ.out.cell k (by simp; omega)
      have f1 := HZ.out.frozen k
      have hgl := HZ.out.lt
      have Hs := Lib.hid (rep_set n k hlt)
      go_wp2
      go_roundw
      case rel => exact ⟨k + 1, by omega, by go_num, Lib.hid (by rw [← Hs.out]; exact HZ.out.set _ _), Lib.hid (grown_set HGR.out _ _ (.inl rfl))⟩
      case measure => simp [intOf]; omega
    · obtain rfl : k = n := by omega
      have e0 : List.replicate k free ++ List.replicate (k - k) 0 = List.replicate k free := by simp
      rw [e0] at HZ
      have c1 := HZ.out.cell s.toNat (by simp; omega)
      have f1 := HZ.out.frozen s.toNat
      have hgl := HZ.out.lt
      have hse := tn s hs0
      have HSE := Lib.hid hse
      clear hse
      go_upto_region 8 with fail
      obtain ⟨w2, hw2⟩ : ∃ w2, w2 = wr.setCell ⟨w.heap.size + 1, s.toNat, none⟩ (.int .i64 0) := ⟨_, rfl⟩
      rw [← hw2]
      have HZ2 := Lib.hid (show RowI w2 (w.heap.size + 1) (si (List.replicate k free) s 0) by rw [hw2]; exact HZ.out.set _ _)
      have HG2 := Lib.hid (show W1.grownBy w2 (some (w.heap.size + 1)) by rw [hw2]; exact grown_set HGR.out _ _ (.inl rfl))
      clear hw2 c1 f1 q0 lq hgl
      go_loopw [7, 8, 9] (fun kv _ _ wr => ∃ (r : Nat) (y : List Int), r ≤ k ∧ kv = .int .i64 r ∧ Hid (y.length = k) ∧ Hid (rboundsL k l s = riter l (k - r) y) ∧ Hid (RowI wr (w.heap.size + 1) y) ∧ Hid (W1.grownBy wr (some (w.heap.size + 1)))) (fun kv _ _ _ => k - (intOf kv).toNat)
      case atStart => exact ⟨0, _, by omega, rfl, Lib.hid (by simp [si]), Lib.hid (by unfold rboundsL; simp), HZ2, HG2⟩
      case round =>
        obtain ⟨r, y, hrn, rfl, Hy, Hs, Hg, Hgr⟩ := hrel
        have q0 := Hgr.out.cell HQ.out.1 HNB.out
        have lq := World.block_lt_of_cell? _ _ q0
        by_cases hlt : r < k
        · go_wp2
          clear q0 lq
          go_loopw [8, 9] (fun i _ wr => ∃ j : Nat, j ≤ l.length ∧ i = .int .i64 j ∧ Hid (RowI wr (w.heap.size + 1) ((l.take j).foldl rrelax y)) ∧ Hid (W1.grownBy wr (some (w.heap.size + 1)))) (fun i _ _ => l.length - (intOf i).toNat)
          case atStart => exact ⟨0, by omega, rfl, Hg, Hgr⟩
          case round =>
            obtain ⟨j, hj, rfl, Hz, Hgz⟩ := hrel
            have Hlen := Lib.hid (foldl_rrelax_length (l.take j) y)
            have q1 := Hgz.out.cell HQ.out.2 HNB.out
            have lq := World.block_lt_of_cell? _ _ q1
            generalize hs : (l.take j).foldl rrelax y = z at *
            have HS := Lib.hid hs
            clear hs
            by_cases hkl : j < l.length
            · obtain ⟨b, o, rfl, g1, g2, g3⟩ := (HA1.out.grown Hgz.out HNE.out).nat j hkl
              have hb := World.block_lt_of_cell? _ _ g1
              dsimp only at hb
              have Hf := Lib.hid (fold_gl rrelax y l j hkl)
              obtain ⟨i1, i2, i3, i4⟩ := HR.out _ (gl_mem (l := l) (i := j) (by omega) (by omega))
              have hzl : z.length = k := Hlen.out.trans Hy.out
              have HZL := Lib.hid hzl
              generalize hq : gl l j = q at *
              have HQQ := Lib.hid hq
              clear hq
              have ca := Hz.out.cell q.a.toNat (by omega)
              have hgl := Hz.out.lt
              simp only [show ((q.a.toNat : Nat) : Int) = q.a by omega] at ca
              clear hzl
              by_cases hfr : gi z q.a < 1152921504606846976
              · obtain ⟨mv, hmv⟩ : ∃ mv, (if wrap64 (gi z q.a + q.m) < gi z q.b then wrap64 (gi z q.a + q.m) else gi z q.b) = mv := ⟨_, rfl⟩
                have he := rrelax_yes hfr
                rw [hmv] at he
                have HE := Lib.hid he
                clear he
                go_upto_region 15 with fail
                obtain ⟨w2, hw2⟩ : ∃ w2, w2 = wr.alloc (.cells #[.int .i64 q.a, .int .i64 q.b, .int .i64 q.m] 39) := ⟨_, rfl⟩
                rw [← hw2]
                have d0 : w2.cell? ⟨wr.heap.size, 0, none⟩ = some (.int .i64 q.a) := by rw [hw2]; go_simp
                have d1 : w2.cell? ⟨wr.heap.size, 1, none⟩ = some (.int .i64 q.b) := by rw [hw2]; go_simp
                have d2 : w2.cell? ⟨wr.heap.size, 2, none⟩ = some (.int .i64 q.m) := by rw [hw2]; go_simp
                have R2 : RowI w2 (w.heap.size + 1) z := by rw [hw2]; exact Hz.out.alloc _
                have G2 : W1.grownBy w2 (some (w.heap.size + 1)) := by rw [hw2]; exact grown_alloc Hgz.out _
                have c2 := R2.cell q.a.toNat (by have := HZL.out; omega)
                have c3 := R2.cell q.b.toNat (by have := HZL.out; omega)
                have f2 := R2.frozen q.b.toNat
                simp only [show ((q.a.toNat : Nat) : Int) = q.a by omega, show ((q.b.toNat : Nat) : Int) = q.b by omega] at c2 c3
                have HR2 := Lib.hid R2
                have HG2 := Lib.hid G2
                clear R2 G2 hw2 ca g1 g2 g3 q1
                go_still_tail 18, (by kernel_rfl)
                go_wp2
                go_roundw
                case rel => exact ⟨j + 1, by omega, by go_num, Lib.hid (by rw [Hf.out, HS.out, HE.out]; exact HR2.out.set _ _), Lib.hid (grown_drew (grown_set HG2.out _ _ (.inl rfl)))⟩
                case measure => simp [intOf]; omega
              · have HE := Lib.hid (rrelax_no hfr)
                go_wp2
                go_roundw
                case rel => exact ⟨j + 1, by omega, by go_num, Lib.hid (by rw [Hf.out, HS.out, HE.out]; exact Hz.out.alloc _), Lib.hid (grown_alloc Hgz.out _)⟩
                case measure => simp [intOf]; omega
            · obtain rfl : j = l.length := by omega
              have e : l.foldl rrelax y = z := by rw [← HS.out, List.take_length]
              have HFin := Lib.hid (show rboundsL k l s = riter l (k - (r + 1)) z by rw [Hs.out, show k - r = (k - (r + 1)) + 1 by omega, riter, e])
              clear e
              go_wp2
              go_roundw
              case rel => exact ⟨r + 1, z, by omega, by go_num, Lib.hid (Hlen.out.trans Hy.out), HFin, Hz, Hgz⟩
              case measure => simp [intOf]; omega
        · obtain rfl : r = k := by omega
          have HFin := Lib.hid (show rboundsL r l s = y by rw [Hs.out]; simp [riter])
          go_wp2
          go_ret
          exact ⟨_, rfl, by omega, by rw [HFin.out]; exact Hg.out, below_of_grown HB1.out Hgr.out HB1.out.size (by omega)⟩

def boundR (n : Int) (l : List Lk) (s t : Int) : Int × Int :=
  if checkL n l ≠ 0 then (0, checkL n l)
  else if nodeB n s = false ∨ nodeB n t = false then (0, 1)
  else if (solutionL n.toNat l).2 = false then (0, 9)
  else if gi (boundsL n.toNat l s) t = free then (0, 5) else (gi (boundsL n.toNat l s) t, 0)
theorem node_in {n v : Int} (h : nodeB n v = true) (h1 : 1 ≤ n) (h2 : n ≤ 50) : 0 ≤ v ∧ v < n := by
  unfold nodeB withinB at h
  rw [wrap_pred h1 h2] at h
  simp at h
  omega
set_option maxRecDepth 100000 in
set_option maxHeartbeats 4000000 in
theorem Bound_any (n : Int) (A : Option Addr) (c : Nat) (l : List Lk) (s t : Int) (w : World) (hl : l.length ≤ 9223372036854775807) (h : LksAt w A l) :
    Calls Try.prog 32 #[.agg #[.int .i64 n, .slice A l.length c], .int .i64 s, .int .i64 t] w fun e w' => e = .returned (.tuple #[.int .i64 (boundR n l s t).1, .int .i64 (boundR n l s t).2]) ∧ Below w.heap.size w w' := by
  have HA := Lib.hid h
  clear h
  by_cases hc : checkL n l = 0
  · have hok := check_ok hc
    have hc' : (checkL n l != 0) = false := by simpa using hc
    have HC := Lib.hid hc
    clear hc
    obtain ⟨N, rfl⟩ : ∃ N : Nat, n = N := ⟨n.toNat, by have := hok.n1; omega⟩
    have HIN := Lib.hid (show ∀ k ∈ l, InR N k from fun k hk => (hok.lk k hk).1)
    have hN1 : (1 : Int) ≤ N := hok.n1
    have hN2 : (N : Int) ≤ 50 := hok.n2
    have hl2 : l.length ≤ 260 := hok.l1
    clear hok
    cases hs : nodeB N s
    · have HR := Lib.hid (show boundR N l s t = (0, 1) by unfold boundR; rw [if_neg (by simpa using HC.out), if_pos (.inl hs)])
      go_enter Try.func32, Try.ntmps32
      go_wp2_with (first | (go_at_call 53; refine (check_any N A c l _ hl (HA.out.alloc _)).mono ?_; rintro e w1 ⟨rfl, hb⟩; have HB := Lib.hid (boxed hb).1; obtain ⟨c0, c1, lw⟩ := (boxed hb).2; clear hb) | (go_at_call 80; refine (node_any _ _ _ _).mono ?_; rintro e w2 ⟨rfl, rfl⟩))
      go_ret2
      exact ⟨by rw [HR.out]; rfl, HB.out.alloc HB.out.size _⟩
    · have hs0 := (node_in hs hN1 hN2).1
      have hs1 := (node_in hs hN1 hN2).2
      cases ht : nodeB N t
      · have HR := Lib.hid (show boundR N l s t = (0, 1) by unfold boundR; rw [if_neg (by simpa using HC.out), if_pos (.inr ht)])
        go_enter Try.func32, Try.ntmps32
        go_wp2_with (first | (go_at_call 53; refine (check_any N A c l _ hl (HA.out.alloc _)).mono ?_; rintro e w1 ⟨rfl, hb⟩; have HB := Lib.hid (boxed hb).1; obtain ⟨c0, c1, lw⟩ := (boxed hb).2; clear hb) | (go_at_call 80; refine (node_any _ _ _ _).mono ?_; rintro e w2 ⟨rfl, rfl⟩))
        go_ret2
        exact ⟨by rw [HR.out]; rfl, (HB.out.alloc HB.out.size _).alloc (by have := HB.out.size; simp; omega) _⟩
      · have ht0 := (node_in ht hN1 hN2).1
        have ht1 := (node_in ht hN1 hN2).2
        cases hy : (solutionL N l).2
        · have HR := Lib.hid (show boundR N l s t = (0, 9) by unfold boundR; rw [if_neg (by simpa using HC.out), if_neg (by simp [hs, ht]), Int.toNat_natCast, if_pos hy])
          have HYS := Lib.hid (fun W h1 => solution_no N A c l W (by omega) (by omega) h1 HIN.out hy)
          clear hy
          go_enter Try.func32, Try.ntmps32
          go_wp2_with (first | (go_at_call 53; refine (check_any N A c l _ hl (HA.out.alloc _)).mono ?_; rintro e w1 ⟨rfl, hb⟩; have HB := Lib.hid (boxed hb).1; obtain ⟨c0, c1, lw⟩ := (boxed hb).2; clear hb) | (go_at_call 80; refine (node_any _ _ _ _).mono ?_; rintro e w2 ⟨rfl, rfl⟩) | (go_at_call 81; refine (HYS.out _ ((((HA.out.below HB.out).alloc _).alloc _))).mono ?_; rintro e w3 ⟨rfl, hb⟩; have HB3 := Lib.hid (below_trans ((HB.out.alloc HB.out.size _).alloc (by have := HB.out.size; simp; omega) _) hb); clear hb))
          go_ret2
          exact ⟨by rw [HR.out]; rfl, HB3.out⟩
        · have HYS := Lib.hid (fun W h1 => solution_yes N A c l W (by omega) (by omega) h1 HIN.out hy)
          have HBS := Lib.hid (fun W h1 => bounds_any N A c l s W (by omega) (by omega) h1 HIN.out hs0 hs1)
          have HRR := Lib.hid (show boundR N l s t = if gi (boundsL N l s) t = free then (0, 5) else (gi (boundsL N l s) t, 0) by unfold boundR; rw [if_neg (by simpa using HC.out), if_neg (by simp [hs, ht]), Int.toNat_natCast, if_neg (by simp [hy])])
          have HLB := Lib.hid (boundsL_length N l s)
          clear hy
          generalize hbv : gi (boundsL N l s) t = bv at *
          have HBV := Lib.hid hbv
          clear hbv
          cases hfr : (bv == 1152921504606846976)
          · have HR := Lib.hid (show boundR N l s t = (bv, 0) by rw [HRR.out, if_neg (by unfold free; simpa using hfr)])
            go_enter Try.func32, Try.ntmps32
            go_wp2_with (first | (go_at_call 53; refine (check_any N A c l _ hl (HA.out.alloc _)).mono ?_; rintro e w1 ⟨rfl, hb⟩; have HB := Lib.hid (boxed hb).1; obtain ⟨c0, c1, lw⟩ := (boxed hb).2; clear hb) | (go_at_call 80; refine (node_any _ _ _ _).mono ?_; rintro e w2 ⟨rfl, rfl⟩) | (go_at_call 81; refine (HYS.out _ ((((HA.out.below HB.out).alloc _).alloc _))).mono ?_; rintro e w3 ⟨g2, rfl, _, _, hb⟩; have HB3 := Lib.hid (below_trans ((HB.out.alloc HB.out.size _).alloc (by have := HB.out.size; simp; omega) _) hb); have c0 := cell_below hb (cell_alloc _ (cell_alloc _ c0)); have c1 := cell_below hb (cell_alloc _ (cell_alloc _ c1)); have lw := World.block_lt_of_cell? _ _ c0; clear hb) | (go_at_call 69; refine (HBS.out _ (HA.out.below HB3.out)).mono ?_; rintro e w4 ⟨g3, rfl, _, hrow, hb⟩; have HB4 := Lib.hid (below_trans HB3.out hb); have ct := hrow.cell t.toNat (by rw [HLB.out]; omega); rw [tn _ ht0, HBV.out] at ct; have lg := hrow.lt; clear hb hrow))
            go_ret2
            exact ⟨by rw [HR.out]; rfl, HB4.out⟩
          · have HR := Lib.hid (show boundR N l s t = (0, 5) by rw [HRR.out, if_pos (by unfold free; simpa using hfr)])
            go_enter Try.func32, Try.ntmps32
            go_wp2_with (first | (go_at_call 53; refine (check_any N A c l _ hl (HA.out.alloc _)).mono ?_; rintro e w1 ⟨rfl, hb⟩; have HB := Lib.hid (boxed hb).1; obtain ⟨c0, c1, lw⟩ := (boxed hb).2; clear hb) | (go_at_call 80; refine (node_any _ _ _ _).mono ?_; rintro e w2 ⟨rfl, rfl⟩) | (go_at_call 81; refine (HYS.out _ ((((HA.out.below HB.out).alloc _).alloc _))).mono ?_; rintro e w3 ⟨g2, rfl, _, _, hb⟩; have HB3 := Lib.hid (below_trans ((HB.out.alloc HB.out.size _).alloc (by have := HB.out.size; simp; omega) _) hb); have c0 := cell_below hb (cell_alloc _ (cell_alloc _ c0)); have c1 := cell_below hb (cell_alloc _ (cell_alloc _ c1)); have lw := World.block_lt_of_cell? _ _ c0; clear hb) | (go_at_call 69; refine (HBS.out _ (HA.out.below HB3.out)).mono ?_; rintro e w4 ⟨g3, rfl, _, hrow, hb⟩; have HB4 := Lib.hid (below_trans HB3.out hb); have ct := hrow.cell t.toNat (by rw [HLB.out]; omega); rw [tn _ ht0, HBV.out] at ct; have lg := hrow.lt; clear hb hrow))
            go_ret2
            exact ⟨by rw [HR.out]; rfl, HB4.out⟩
  · have hc' : (checkL n l != 0) = true := by simpa using hc
    have HR := Lib.hid (show boundR n l s t = (0, checkL n l) by unfold boundR; rw [if_pos (by simpa using hc)])
    clear hc
    go_enter Try.func32, Try.ntmps32
    go_wp2_with (go_at_call 53; refine (check_any n A c l _ hl (HA.out.alloc _)).mono ?_; rintro e w1 ⟨rfl, hb⟩; have HB := Lib.hid (boxed hb).1; clear hb)
    go_ret2
    exact ⟨by rw [HR.out]; rfl, HB.out⟩
end Go.Proofs.Ytmhiiomejopaoaa
