/- The flow walks: the reference's Node, Check, Solution, Bounds; Bound. -/
import Derived.Test.YtmhiiomejopaoaaGreatDoorQ1
namespace Go.Proofs.YtmhiiomejopaoaaGreatDoor
set_option linter.all false
set_option maxRecDepth 100000
open Go.RowKit
set_option maxRecDepth 100000

def rnodeB (n v : Int) : Bool := decide (0 ≤ v) && decide (v < n)
theorem rnode_eq {n : Int} (v : Int) (h1 : 1 ≤ n) (h2 : n ≤ 50) : rnodeB n v = nodeB n v := by
  unfold rnodeB nodeB withinB
  rw [wrap_pred h1 h2]
  by_cases e : v < n
  · simp [e, show v ≤ n - 1 by omega]
  · simp [e, show ¬ v ≤ n - 1 by omega]
set_option maxHeartbeats 400000 in
theorem rnode_any (n : Int) (l : Value) (v : Int) (w : World) :
    Calls Tryz.prog 33 #[.agg #[.int .i64 n, l], .int .i64 v] w fun e w' => e = .returned (.bool (rnodeB n v)) ∧ w.alloc (.cells #[.int .i64 n, l] 24) = w' := by
  unfold rnodeB
  go_enter Tryz.func33, Tryz.ntmps33
  go_wp2
  all_goals (go_ret; exact ⟨by simp [*]; try omega, rfl⟩)
theorem rnode_at (n : Int) (l : Value) (v : Int) (w : World) (h1 : 1 ≤ n) (h2 : n ≤ 50) :
    Calls Tryz.prog 33 #[.agg #[.int .i64 n, l], .int .i64 v] w fun e w' => e = .returned (.bool (nodeB n v)) ∧ w.alloc (.cells #[.int .i64 n, l] 24) = w' := by
  rw [← rnode_eq v h1 h2]
  exact rnode_any n l v w
set_option maxRecDepth 100000 in
set_option maxHeartbeats 1000000 in
theorem rcheck_any (n : Int) (A : Option Addr) (c : Nat) (l : List Lk) (w : World) (hl : l.length ≤ 9223372036854775807) (h : LksAt w A l) :
    Calls Tryz.prog 11 #[.agg #[.int .i64 n, .slice A l.length c]] w fun e w' => e = .returned (.int .i64 (checkL n l)) ∧ Below w.heap.size w w' := by
  have H := Lib.hid h
  clear h
  go_enter Tryz.func11, Tryz.ntmps11
  cases hn : withinB n 1 50
  · go_wp2_with (go_at_call 32; refine (in_any _ _ _ _).mono ?_; rintro e w' ⟨rfl, rfl⟩)
    go_ret
    exact ⟨ret_int (by simp [checkL, hn]), bel⟩
  · have hnn : 1 ≤ n ∧ n ≤ 50 := by simpa [withinB] using hn
    by_cases hn3 : l.length ≤ 260
    · go_wp2_with (go_at_call 32; refine (in_any _ _ _ _).mono ?_; rintro e w' ⟨rfl, rfl⟩)
      have HNN := Lib.hid hnn
      clear hnn
      go_loopw [3, 4] (fun i _ wr => ∃ k : Nat, k ≤ l.length ∧ i = .int .i64 k ∧ Hid (∀ j : Nat, j < k → badLk n (gl l j) = false) ∧ Below w.heap.size w wr ∧ wr.cell? ⟨w.heap.size, 0, none⟩ = some (.int .i64 n) ∧ wr.cell? ⟨w.heap.size, 1, none⟩ = some (.slice A l.length c)) (fun i _ _ => l.length - (intOf i).toNat)
      case atStart => exact ⟨0, by omega, rfl, Lib.hid (by simp), bel, by simp, by simp⟩
      case round =>
        obtain ⟨k, hk, rfl, hbad, hB, hc0, hc1⟩ := hrel
        have hz := World.block_lt_of_cell? wr _ hc0
        dsimp only at hz
        by_cases hlt : k < l.length
        · obtain ⟨b, o, rfl, g1, g2, g3⟩ := (H.out.below hB).nat k hlt
          generalize hx : gl l k = x at g1 g2 g3
          have Hx := Lib.hid hx
          clear hx
          have Hone := Lib.hid (fun (hb : badLk n x = true) => any_gl_true (f := badLk n) (l := l) (i := (k : Int)) (by omega) (by omega) (by rw [Hx.out]; exact hb))
          have Hn := Lib.hid hn
          clear hn
          go_wp2_with (first | (go_at_call 32; refine (in_any _ _ _ _).mono ?_; rintro e w' ⟨rfl, rfl⟩) | (go_at_call 33; refine (rnode_at _ _ _ _ HNN.out.1 HNN.out.2).mono ?_; rintro e w1 ⟨rfl, rfl⟩))
          all_goals first
            | (go_ret; exact ⟨ret_int (by rw [checkL, Hn.out, Hone.out (by simp_all [badLk])]; simp [show ¬ 260 < l.length by omega]), bel⟩)
            | (refine ⟨⟨k + 1, by omega, by go_num, Lib.hid fun j hj => ?_, bel, cel, cel⟩, by simp [intOf]; omega⟩
               rcases Nat.lt_succ_iff_lt_or_eq.1 hj with h | rfl
               · exact hbad.out j h
               · rw [Hx.out]; simp_all [badLk])
        · go_wp2
          go_ret
          obtain rfl : k = l.length := by omega
          exact ⟨ret_int (by rw [checkL, any_gl_false hbad.out, hn]; simp [show ¬ 260 < l.length by omega]), hB⟩
    · go_wp2_with (go_at_call 32; refine (in_any _ _ _ _).mono ?_; rintro e w' ⟨rfl, rfl⟩)
      go_ret
      exact ⟨ret_int (by simp [checkL, hn, show 260 < l.length by omega]), bel⟩

def NonPos (z : List Int) : Prop := ∀ i : Int, gi z i ≤ 0
theorem nonpos_rep (n : Nat) : NonPos (List.replicate n 0) := by
  intro i
  simp only [gi, List.getD_eq_getElem?_getD, List.getElem?_replicate]
  split <;> simp
theorem nonpos_si {z : List Int} {b : Int} {v : Int} (h : NonPos z) (hv : v ≤ 0) : NonPos (si z b v) := by
  intro i
  have := h i
  simp only [gi, si, List.getD_eq_getElem?_getD, List.getElem?_set] at this ⊢
  split
  · split
    · simpa using hv
    · simp
  · exact this
theorem nonpos_relax {s : List Int × Bool} {k : Lk} (h : NonPos s.1) : NonPos (relax s k).1 := by
  unfold relax
  split
  · rename_i hc
    refine nonpos_si h ?_
    have h1 : wrap64 (gi s.1 k.a + k.m) < gi s.1 k.b := by simpa [overB] using hc.2
    have := h k.b
    omega
  · exact h
theorem nonpos_fold {l : List Lk} : ∀ {s : List Int × Bool}, NonPos s.1 → NonPos (l.foldl relax s).1 := by
  induction l with
  | nil => intro s h; exact h
  | cons k l ih => intro s h; rw [List.foldl_cons]; exact ih (nonpos_relax h)
theorem relax_yes {z : List Int} {ch : Bool} {q : Lk} (h : NonPos z) (hov : decide (wrap64 (gi z q.a + q.m) < gi z q.b) = true) : relax (z, ch) q = (z.set q.b.toNat (wrap64 (gi z q.a + q.m)), true) := by
  have hne : gi z q.a ≠ free := by have := h q.a; unfold free; omega
  simp [relax, overB, hov, hne, si]
theorem relax_no {z : List Int} {ch : Bool} {q : Lk} (hov : decide (wrap64 (gi z q.a + q.m) < gi z q.b) = false) : relax (z, ch) q = (z, ch) := by simp [relax, overB, hov]
def rrelax (d : List Int) (k : Lk) : List Int := if gi d k.a < free then si d k.b (mn (gi d k.b) (wrap64 (gi d k.a + k.m))) else d
def riter (l : List Lk) : Nat → List Int → List Int
  | 0, d => d
  | k + 1, d => riter l k (l.foldl rrelax d)
def rboundsL (n : Nat) (l : List Lk) (s : Int) : List Int := riter l n (si (List.replicate n free) s 0)
theorem rrelax_length (d : List Int) (k : Lk) : (rrelax d k).length = d.length := by
  unfold rrelax si; split <;> simp
theorem foldl_rrelax_length (l : List Lk) : ∀ d : List Int, (l.foldl rrelax d).length = d.length := by
  induction l with
  | nil => intro d; rfl
  | cons k l ih => intro d; rw [List.foldl_cons, ih, rrelax_length]
theorem rrelax_yes {z : List Int} {q : Lk} (h : gi z q.a < 1152921504606846976) : rrelax z q = z.set q.b.toNat (if wrap64 (gi z q.a + q.m) < gi z q.b then wrap64 (gi z q.a + q.m) else gi z q.b) := by
  unfold rrelax
  rw [if_pos (show gi z q.a < free from h)]
  rfl
theorem rrelax_no {z : List Int} {q : Lk} (h : ¬ gi z q.a < 1152921504606846976) : rrelax z q = z := by
  unfold rrelax
  rw [if_neg (show ¬ gi z q.a < free from h)]
def boundR (n : Int) (l : List Lk) (s t : Int) : Int × Int :=
  if checkL n l ≠ 0 then (0, checkL n l)
  else if nodeB n s = false ∨ nodeB n t = false then (0, 1)
  else if (solutionL n.toNat l).2 = false then (0, 9)
  else if gi (boundsL n.toNat l s) t = free then (0, 5) else (gi (boundsL n.toNat l s) t, 0)
theorem node_in {n v : Int} (h : nodeB n v = true) (h1 : 1 ≤ n) (h2 : n ≤ 50) : 0 ≤ v ∧ v < n := by
  unfold nodeB withinB at h
  rw [wrap_pred h1 h2] at h
  simp at h
  omega
set_option maxRecDepth 100000 in
set_option maxHeartbeats 4000000 in
theorem Bound_any (n : Int) (A : Option Addr) (c : Nat) (l : List Lk) (s t : Int) (w : World) (hl : l.length ≤ 9223372036854775807) (h : LksAt w A l) :
    Calls Tryz.prog 16 #[.agg #[.int .i64 n, .slice A l.length c], .int .i64 s, .int .i64 t] w fun e w' => e = .returned (.tuple #[.int .i64 (boundR n l s t).1, .int .i64 (boundR n l s t).2]) ∧ Below w.heap.size w w' := by
  have HA := Lib.hid h
  clear h
  by_cases hc : checkL n l = 0
  · have hok := check_ok hc
    have hc' : (checkL n l != 0) = false := by simpa using hc
    have HC := Lib.hid hc
    clear hc
    obtain ⟨N, rfl⟩ : ∃ N : Nat, n = N := ⟨n.toNat, by have := hok.n1; omega⟩
    have HIN := Lib.hid (show ∀ k ∈ l, InR N k from fun k hk => (hok.lk k hk).1)
    have hN1 : (1 : Int) ≤ N := hok.n1
    have hN2 : (N : Int) ≤ 50 := hok.n2
    have hl2 : l.length ≤ 260 := hok.l1
    clear hok
    cases hs : nodeB N s
    · have HR := Lib.hid (show boundR N l s t = (0, 1) by unfold boundR; rw [if_neg (by simpa using HC.out), if_pos (.inl hs)])
      go_enter Tryz.func16, Tryz.ntmps16
      go_wp2_with (first | (go_at_call 25; refine (check_any N A c l _ hl (HA.out.alloc _)).mono ?_; rintro e w1 ⟨rfl, hb⟩; have HB := Lib.hid (boxed hb).1; obtain ⟨c0, c1, lw⟩ := (boxed hb).2; clear hb) | (go_at_call 39; refine (node_any _ _ _ _).mono ?_; rintro e w2 ⟨rfl, rfl⟩))
      go_ret2
      exact ⟨by rw [HR.out]; rfl, HB.out.alloc HB.out.size _⟩
    · have hs0 := (node_in hs hN1 hN2).1
      have hs1 := (node_in hs hN1 hN2).2
      cases ht : nodeB N t
      · have HR := Lib.hid (show boundR N l s t = (0, 1) by unfold boundR; rw [if_neg (by simpa using HC.out), if_pos (.inr ht)])
        go_enter Tryz.func16, Tryz.ntmps16
        go_wp2_with (first | (go_at_call 25; refine (check_any N A c l _ hl (HA.out.alloc _)).mono ?_; rintro e w1 ⟨rfl, hb⟩; have HB := Lib.hid (boxed hb).1; obtain ⟨c0, c1, lw⟩ := (boxed hb).2; clear hb) | (go_at_call 39; refine (node_any _ _ _ _).mono ?_; rintro e w2 ⟨rfl, rfl⟩))
        go_ret2
        exact ⟨by rw [HR.out]; rfl, (HB.out.alloc HB.out.size _).alloc (by have := HB.out.size; simp; omega) _⟩
      · have ht0 := (node_in ht hN1 hN2).1
        have ht1 := (node_in ht hN1 hN2).2
        cases hy : (solutionL N l).2
        · have HR := Lib.hid (show boundR N l s t = (0, 9) by unfold boundR; rw [if_neg (by simpa using HC.out), if_neg (by simp [hs, ht]), Int.toNat_natCast, if_pos hy])
          have HYS := Lib.hid (fun W h1 => solution_no N A c l W (by omega) (by omega) h1 HIN.out hy)
          clear hy
          go_enter Tryz.func16, Tryz.ntmps16
          go_wp2_with (first | (go_at_call 25; refine (check_any N A c l _ hl (HA.out.alloc _)).mono ?_; rintro e w1 ⟨rfl, hb⟩; have HB := Lib.hid (boxed hb).1; obtain ⟨c0, c1, lw⟩ := (boxed hb).2; clear hb) | (go_at_call 39; refine (node_any _ _ _ _).mono ?_; rintro e w2 ⟨rfl, rfl⟩) | (go_at_call 35; refine (HYS.out _ ((((HA.out.below HB.out).alloc _).alloc _))).mono ?_; rintro e w3 ⟨rfl, hb⟩; have HB3 := Lib.hid (below_trans ((HB.out.alloc HB.out.size _).alloc (by have := HB.out.size; simp; omega) _) hb); clear hb))
          go_ret2
          exact ⟨by rw [HR.out]; rfl, HB3.out⟩
        · have HYS := Lib.hid (fun W h1 => solution_yes N A c l W (by omega) (by omega) h1 HIN.out hy)
          have HBS := Lib.hid (fun W h1 => bounds_any N A c l s W (by omega) (by omega) h1 HIN.out hs0 hs1)
          have HRR := Lib.hid (show boundR N l s t = if gi (boundsL N l s) t = free then (0, 5) else (gi (boundsL N l s) t, 0) by unfold boundR; rw [if_neg (by simpa using HC.out), if_neg (by simp [hs, ht]), Int.toNat_natCast, if_neg (by simp [hy])])
          have HLB := Lib.hid (boundsL_length N l s)
          clear hy
          generalize hbv : gi (boundsL N l s) t = bv at *
          have HBV := Lib.hid hbv
          clear hbv
          cases hfr : (bv == 1152921504606846976)
          · have HR := Lib.hid (show boundR N l s t = (bv, 0) by rw [HRR.out, if_neg (by unfold free; simpa using hfr)])
            go_enter Tryz.func16, Tryz.ntmps16
            go_wp2_with (first | (go_at_call 25; refine (check_any N A c l _ hl (HA.out.alloc _)).mono ?_; rintro e w1 ⟨rfl, hb⟩; have HB := Lib.hid (boxed hb).1; obtain ⟨c0, c1, lw⟩ := (boxed hb).2; clear hb) | (go_at_call 39; refine (node_any _ _ _ _).mono ?_; rintro e w2 ⟨rfl, rfl⟩) | (go_at_call 35; refine (HYS.out _ ((((HA.out.below HB.out).alloc _).alloc _))).mono ?_; rintro e w3 ⟨g2, rfl, _, _, hb⟩; have HB3 := Lib.hid (below_trans ((HB.out.alloc HB.out.size _).alloc (by have := HB.out.size; simp; omega) _) hb); have c0 := cell_below hb (cell_alloc _ (cell_alloc _ c0)); have c1 := cell_below hb (cell_alloc _ (cell_alloc _ c1)); have lw := World.block_lt_of_cell? _ _ c0; clear hb) | (go_at_call 40; refine (HBS.out _ (HA.out.below HB3.out)).mono ?_; rintro e w4 ⟨g3, rfl, _, hrow, hb⟩; have HB4 := Lib.hid (below_trans HB3.out hb); have ct := hrow.cell t.toNat (by rw [HLB.out]; omega); rw [tn _ ht0, HBV.out] at ct; have lg := hrow.lt; clear hb hrow))
            go_ret2
            exact ⟨by rw [HR.out]; rfl, HB4.out⟩
          · have HR := Lib.hid (show boundR N l s t = (0, 5) by rw [HRR.out, if_pos (by unfold free; simpa using hfr)])
            go_enter Tryz.func16, Tryz.ntmps16
            go_wp2_with (first | (go_at_call 25; refine (check_any N A c l _ hl (HA.out.alloc _)).mono ?_; rintro e w1 ⟨rfl, hb⟩; have HB := Lib.hid (boxed hb).1; obtain ⟨c0, c1, lw⟩ := (boxed hb).2; clear hb) | (go_at_call 39; refine (node_any _ _ _ _).mono ?_; rintro e w2 ⟨rfl, rfl⟩) | (go_at_call 35; refine (HYS.out _ ((((HA.out.below HB.out).alloc _).alloc _))).mono ?_; rintro e w3 ⟨g2, rfl, _, _, hb⟩; have HB3 := Lib.hid (below_trans ((HB.out.alloc HB.out.size _).alloc (by have := HB.out.size; simp; omega) _) hb); have c0 := cell_below hb (cell_alloc _ (cell_alloc _ c0)); have c1 := cell_below hb (cell_alloc _ (cell_alloc _ c1)); have lw := World.block_lt_of_cell? _ _ c0; clear hb) | (go_at_call 40; refine (HBS.out _ (HA.out.below HB3.out)).mono ?_; rintro e w4 ⟨g3, rfl, _, hrow, hb⟩; have HB4 := Lib.hid (below_trans HB3.out hb); have ct := hrow.cell t.toNat (by rw [HLB.out]; omega); rw [tn _ ht0, HBV.out] at ct; have lg := hrow.lt; clear hb hrow))
            go_ret2
            exact ⟨by rw [HR.out]; rfl, HB4.out⟩
  · have hc' : (checkL n l != 0) = true := by simpa using hc
    have HR := Lib.hid (show boundR n l s t = (0, checkL n l) by unfold boundR; rw [if_pos (by simpa using hc)])
    clear hc
    go_enter Tryz.func16, Tryz.ntmps16
    go_wp2_with (go_at_call 25; refine (check_any n A c l _ hl (HA.out.alloc _)).mono ?_; rintro e w1 ⟨rfl, hb⟩; have HB := Lib.hid (boxed hb).1; clear hb)
    go_ret2
    exact ⟨by rw [HR.out]; rfl, HB.out⟩
end Go.Proofs.YtmhiiomejopaoaaGreatDoor
