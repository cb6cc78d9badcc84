/- The flow walks: the reference's Join and Paths; a list of paths that came in; the law FlowPaths. -/
import Derived.Test.YtmhiiomejopaoaaJB
import Derived.Test.YtmhiiomejopaoaaJF
import Derived.Test.YtmhiiomejopaoaaP1
import Derived.Test.YtmhiiomejopaoaaJ8
import Derived.Test.YtmhiiomejopaoaaJI
import Derived.Test.YtmhiiomejopaoaaQ1
namespace Go.Proofs.Ytmhiiomejopaoaa
set_option linter.all false
open Go.RowKit
set_option maxRecDepth 100000

set_option maxRecDepth 100000 in
set_option maxHeartbeats 8000000 in
theorem rjoin_any (n : Int) (A : Option Addr) (c : Nat) (l : List Lk) (LA : Option Addr) (cc : Nat) (ps : List PV) (w : World) (hl : l.length ≤ 1000) (h : LksAt w A l) (hps : ps.length ≤ 140737488351232) (hp : PthsAt w LA ps) (hpl : ps.length ≤ 1000 → ∀ p ∈ ps, p.1.ls.length ≤ 1000) (hn1 : 1 ≤ n) (hn2 : n ≤ 50) :
    Calls Try.prog 65 #[.agg #[.int .i64 n, .slice A l.length c], .slice LA ps.length cc] w fun e w' => ∃ v, e = .returned (.tuple #[v, .int .i64 (joinR n l ps).2]) ∧ IntsV w' v (joinR n l ps).1 ∧ Below w.heap.size w w' := by
  have HA := Lib.hid h
  have HP := Lib.hid hp
  have HPL := Lib.hid hpl
  have hmk := mkInts l.length (by omega)
  clear h hp hpl
  go_enter Try.func65, Try.ntmps65
  by_cases h1000 : 1000 < ps.length
  · have t1 : decide ((1000 : Int) < (ps.length : Int)) = true := decide_eq_true (by omega)
    have HE := Lib.hid (show joinR n l ps = ([], 2) by unfold joinR; rw [if_pos h1000])
    clear hmk
    go_wp2
    go_ret2
    exact ⟨.slice none 0 0, by rw [HE.out]; rfl, by rw [HE.out]; exact IntsV.nil _, bel⟩
  · have t1 : decide ((1000 : Int) < (ps.length : Int)) = false := decide_eq_false (by omega)
    have h1001 : ps.length ≤ 1000 := by omega
    clear h1000
    go_upto_region 3 with fail
    obtain ⟨w2, hw2⟩ : ∃ w2, w2 = w.alloc (.cells #[.int .i64 n, .slice A l.length c] 24) := ⟨_, rfl⟩
    have HB2 := Lib.hid (show Below w.heap.size w w2 ∧ w.heap.size < w2.heap.size by rw [hw2]; exact ⟨bel, by simp⟩)
    have e0 : w2.cell? ⟨w.heap.size, 0, none⟩ = some (.int .i64 n) := by rw [hw2]; go_simp
    have e1 : w2.cell? ⟨w.heap.size, 1, none⟩ = some (.slice A l.length c) := by rw [hw2]; go_simp
    rw [← hw2]
    clear hw2
    have el := HB2.out.2
    obtain ⟨w3, hw3⟩ : ∃ w3, w3 = w2.alloc (.cells (madeCells #[.int .i64 0] l.length) 3) := ⟨_, rfl⟩
    obtain ⟨g, hg⟩ : ∃ g, w2.heap.size = g := ⟨_, rfl⟩
    have HJ := Lib.hid (show Jn w w3 n A c l.length g (joinU l.length (ps.take 0)) from ⟨by rw [hw3]; exact cell_alloc _ e0, by rw [hw3]; exact cell_alloc _ e1, by rw [hw3, ← hg]; have := RowI_made w2 l.length; simpa [joinU] using this, by rw [hw3]; exact below_trans HB2.out.1 bel, by omega⟩)
    go_upto_region 5 with fail
    rw [← hw3]
    clear hw3 hg e0 e1 el hmk
    go_wp2
    go_loopw [7, 8] (fun s i wr => ∃ k : Nat, k ≤ ps.length ∧ i = .int .i64 (k : Int) ∧ s = .int .i64 (joinS (ps.take k)) ∧ Hid (Jn w wr n A c l.length g (joinU l.length (ps.take k))) ∧ Hid (∀ j : Nat, j < k → goodB n l (gp ps j).1 = true)) (fun _ i _ => ps.length - (intOf i).toNat)
    case atStart => exact ⟨0, by omega, rfl, rfl, HJ, Lib.hid (fun j hj => by omega)⟩
    case round =>
      obtain ⟨k, hk, rfl, rfl, HJk, HGk⟩ := hrel
      by_cases hlt : k < ps.length
      · have t2 : decide ((k : Int) < (ps.length : Int)) = true := decide_eq_true (by omega)
        obtain ⟨b, o, rfl, p0, p1, p2, p3, LB, cb, hx2, hin⟩ := HP.out k hlt
        replace p0 := cell_below HJk.out.bel p0
        replace p1 := cell_below HJk.out.bel p1
        replace p2 := cell_below HJk.out.bel p2
        replace p3 := cell_below HJk.out.bel p3
        have HUT := Lib.hid (joinU_take l.length ps k hlt)
        have HST := Lib.hid (joinS_take ps k hlt)
        have HBAD := Lib.hid (fun hh => join_bad (n := n) (l := l) h1001 hlt hh)
        have hplk := HPL.out h1001 _ (gp_mem hlt)
        have HGJ := Lib.hid (fun (hh : goodB n l (gp ps k).1 = true) => (show ∀ j : Nat, j < k + 1 → goodB n l (gp ps j).1 = true from fun j hj => by
          by_cases e : j = k
          · subst e; exact hh
          · exact HGk.out j (by omega)))
        have HUB := Lib.hid (joinU_ok k hk HGk.out)
        rw [hx2] at p2
        generalize gp ps k = pv at *
        obtain ⟨⟨pa, pb, P, pu⟩, pvv⟩ := pv
        simp only at p0 p1 p2 p3 hin hplk HUT HST
        clear hx2
        have HAP := Lib.hid (hin.apart (Nat.le_of_lt HJk.out.hg))
        have HIN := Lib.hid (hin.below HJk.out.bel)
        have lb := World.block_lt_of_cell? _ _ p0
        dsimp only at lb
        clear hin
        have q0 := HJk.out.q0
        have q1 := HJk.out.q1
        have lq := World.block_lt_of_cell? _ _ q0
        dsimp only at lq
        have lq1 : w.heap.size < wr.heap.size + 1 := by omega
        have lq2 : w.heap.size < wr.heap.size + 1 + 1 := by omega
        have lq3 : w.heap.size < wr.heap.size + 1 + 1 + 1 := by omega
        have i0 : (0 : Int) ≤ (k : Int) := by omega
        have i1 : (k : Int) < (ps.length : Int) := by omega
        have HA1 := Lib.hid (HA.out.below HJk.out.bel)
        cases ha : nodeB n pa with
        | false =>
          have HE := Lib.hid (HBAD.out (by unfold goodB; simp only [ha]; rfl))
          clear HBAD HGJ HUT HST HUB
          go_wp2_with (first | (go_at_call 34; refine (rnode_at n _ _ _ hn1 hn2).mono ?_; rintro e w' ⟨rfl, rfl⟩) | (go_at_call 82; refine (in_any _ _ _ _).mono ?_; rintro e w' ⟨rfl, rfl⟩))
          go_ret2
          exact ⟨.slice none 0 0, by rw [HE.out]; rfl, by rw [HE.out]; exact IntsV.nil _, below_trans HJk.out.bel bel⟩
        | true =>
          cases hb : nodeB n pb with
          | false =>
            have HE := Lib.hid (HBAD.out (by unfold goodB; simp only [ha, hb]; rfl))
            clear HBAD HGJ HUT HST HUB
            go_wp2_with (first | (go_at_call 34; refine (rnode_at n _ _ _ hn1 hn2).mono ?_; rintro e w' ⟨rfl, rfl⟩) | (go_at_call 82; refine (in_any _ _ _ _).mono ?_; rintro e w' ⟨rfl, rfl⟩))
            go_ret2
            exact ⟨.slice none 0 0, by rw [HE.out]; rfl, by rw [HE.out]; exact IntsV.nil _, below_trans HJk.out.bel bel⟩
          | true =>
            by_cases h260 : 260 < P.length
            · have t3 : decide ((260 : Int) < (P.length : Int)) = true := decide_eq_true (by omega)
              have HE := Lib.hid (HBAD.out (by unfold goodB; simp only [ha, hb, h260]; rfl))
              clear HBAD HGJ HUT HST HUB
              go_wp2_with (first | (go_at_call 34; refine (rnode_at n _ _ _ hn1 hn2).mono ?_; rintro e w' ⟨rfl, rfl⟩) | (go_at_call 82; refine (in_any _ _ _ _).mono ?_; rintro e w' ⟨rfl, rfl⟩))
              go_ret2
              exact ⟨.slice none 0 0, by rw [HE.out]; rfl, by rw [HE.out]; exact IntsV.nil _, below_trans HJk.out.bel bel⟩
            · have t3 : decide ((260 : Int) < (P.length : Int)) = false := decide_eq_false (by omega)
              have HLD := Lib.hid (fun W (hW : Below wr.heap.size wr W) => rpath_any n A c l LB cb P pa pb W (by omega) (by omega) (HA1.out.below hW) (HIN.out.below hW))
              cases hpb : pathB l pa pb P with
              | false =>
                have HE := Lib.hid (HBAD.out (by unfold goodB; simp only [ha, hb, h260, hpb, Bool.and_false]))
                clear HBAD HGJ HUT HST HUB
                rw [hpb] at HLD
                go_wp2_with (first | (go_at_call 34; refine (rnode_at n _ _ _ hn1 hn2).mono ?_; rintro e w' ⟨rfl, rfl⟩) | (go_at_call 82; refine (in_any _ _ _ _).mono ?_; rintro e w' ⟨rfl, rfl⟩) | (go_at_call 62; refine (HLD.out _ bel).mono ?_; rintro e w6 ⟨rfl, hb6⟩; have HB6 := Lib.hid (show Below wr.heap.size wr w6 from below_trans bel hb6); have d1 := cell_below hb6 (show World.cell? _ ⟨wr.heap.size, 1, none⟩ = some (.int .i64 pb) by go_simp); have d2 := cell_below hb6 (show World.cell? _ ⟨wr.heap.size, 2, none⟩ = some (.slice LB P.length cb) by go_simp); have d3 := cell_below hb6 (show World.cell? _ ⟨wr.heap.size, 3, none⟩ = some (.int .i64 pu) by go_simp); have ld := World.block_lt_of_cell? _ _ d1; dsimp only at ld; clear hb6))
                go_ret2
                exact ⟨.slice none 0 0, by rw [HE.out]; rfl, by rw [HE.out]; exact IntsV.nil _, below_trans HJk.out.bel HB6.out⟩
              | true =>
                rw [hpb] at HLD
                cases hu : withinB pu 0 134217728 with
                | false =>
                  have HE := Lib.hid (HBAD.out (by unfold goodB; simp only [ha, hb, hu, h260]; rfl))
                  clear HBAD HGJ HUT HST HUB
                  go_wp2_with (first | (go_at_call 34; refine (rnode_at n _ _ _ hn1 hn2).mono ?_; rintro e w' ⟨rfl, rfl⟩) | (go_at_call 82; refine (in_any _ _ _ _).mono ?_; rintro e w' ⟨rfl, rfl⟩) | (go_at_call 62; refine (HLD.out _ bel).mono ?_; rintro e w6 ⟨rfl, hb6⟩; have HB6 := Lib.hid (show Below wr.heap.size wr w6 from below_trans bel hb6); have d1 := cell_below hb6 (show World.cell? _ ⟨wr.heap.size, 1, none⟩ = some (.int .i64 pb) by go_simp); have d2 := cell_below hb6 (show World.cell? _ ⟨wr.heap.size, 2, none⟩ = some (.slice LB P.length cb) by go_simp); have d3 := cell_below hb6 (show World.cell? _ ⟨wr.heap.size, 3, none⟩ = some (.int .i64 pu) by go_simp); have ld := World.block_lt_of_cell? _ _ d1; dsimp only at ld; clear hb6))
                  go_ret2
                  exact ⟨.slice none 0 0, by rw [HE.out]; rfl, by rw [HE.out]; exact IntsV.nil _, below_trans HJk.out.bel HB6.out⟩
                | true =>
                  have hgood : goodB n l ⟨pa, pb, P, pu⟩ = true := by unfold goodB; simp only [ha, hb, hu, h260, hpb]; rfl
                  have HGN := Lib.hid (HGJ.out hgood)
                  have HME := Lib.hid (path_mem (good_parts hgood).2.2.2.2.2)
                  have hup : 0 ≤ pu ∧ pu ≤ 134217728 := by simp [withinB] at hu; exact hu
                  clear hgood HGJ HBAD
                  go_upto_region 11 with (first | (go_at_call 34; refine (rnode_at n _ _ _ hn1 hn2).mono ?_; rintro e w' ⟨rfl, rfl⟩) | (go_at_call 82; refine (in_any _ _ _ _).mono ?_; rintro e w' ⟨rfl, rfl⟩) | (go_at_call 62; refine (HLD.out _ bel).mono ?_; rintro e w6 ⟨rfl, hb6⟩; have HB6 := Lib.hid (show Below wr.heap.size wr w6 from below_trans bel hb6); have d1 := cell_below hb6 (show World.cell? _ ⟨wr.heap.size, 1, none⟩ = some (.int .i64 pb) by go_simp); have d2 := cell_below hb6 (show World.cell? _ ⟨wr.heap.size, 2, none⟩ = some (.slice LB P.length cb) by go_simp); have d3 := cell_below hb6 (show World.cell? _ ⟨wr.heap.size, 3, none⟩ = some (.int .i64 pu) by go_simp); have ld := World.block_lt_of_cell? _ _ d1; dsimp only at ld; clear hb6))
                  have HB7 := Lib.hid HB6.out
                  have HJ6 := Lib.hid (HJk.out.below HB7.out)
                  have HI6 := Lib.hid (HIN.out.below HB7.out)
                  obtain ⟨hu0, hu1⟩ := hup
                  obtain ⟨b1, b2, b3, b4⟩ := HUB.out
                  have HU2 := Lib.hid (show (joinU l.length (ps.take k)).length = l.length ∧ (∀ i : Nat, i < l.length → 0 ≤ gi (joinU l.length (ps.take k)) i ∧ gi (joinU l.length (ps.take k)) i ≤ 34896609280000) ∧ 0 ≤ joinS (ps.take k) ∧ joinS (ps.take k) ≤ 34896609280000 from ⟨b1, fun i hi => by have := b2 i hi; omega, b3, by omega⟩)
                  clear b1 b2 b3 b4 HUB
                  generalize joinU l.length (ps.take k) = U at HU2 HJ6 HJk HUT
                  generalize joinS (ps.take k) = S0 at HU2 HST ⊢
                  obtain ⟨hs0, hs1⟩ := HU2.out.2.2
                  have hP2 : P.length ≤ 260 := by omega
                  clear q0 q1 lq p0 p1 p2 p3 lb
                  go_wp2
                  go_loopw [7, 10] (fun s i wx => ∃ j : Nat, j ≤ P.length ∧ i = .int .i64 (j : Int) ∧ s = .int .i64 (S0 + j * pu) ∧ Hid (Jn w wx n A c l.length g (addP (P.take j) pu U)) ∧ Hid (Fr w6 wx (fun k => k = g))) (fun _ i _ => P.length - (intOf i).toNat)
                  case atStart => exact ⟨0, by omega, rfl, by simp, HJ6, Lib.hid (Fr.refl w6 _)⟩
                  case round =>
                    rename World => wx
                    obtain ⟨j, hj, rfl, rfl, HJx, HFx⟩ := hrel
                    have x2 := HFx.out.cell d2 (by dsimp only; have := HJk.out.row.lt; omega)
                    have lx2 := World.block_lt_of_cell? _ _ x2
                    dsimp only at lx2
                    by_cases hjl : j < P.length
                    · have t4 : decide ((j : Int) < (P.length : Int)) = true := decide_eq_true (by omega)
                      obtain ⟨bp, op, rfl, g1⟩ := (HI6.out.fr HFx.out (fun k hk => by subst hk; exact HAP.out)).nat j hjl
                      have e3 := HFx.out.cell d3 (by dsimp only; have := HJk.out.row.lt; omega)
                      have HAT := Lib.hid (addP_take P pu U j hjl)
                      have hx := HME.out _ (gi_mem (l := P) (i := (j : Int)) (by omega) (by omega))
                      obtain ⟨x, hxx⟩ : ∃ x, gi P (j : Int) = x := ⟨_, rfl⟩
                      rw [hxx] at g1 hx HAT
                      clear hxx
                      obtain ⟨hx0, hx1⟩ := hx
                      have HUL := Lib.hid (addP_len (P.take j) pu U)
                      have hub := addP_up (P := P.take j) hu0 (s := U) (fun i hi => by rw [HU2.out.1]; exact HME.out i (List.mem_of_mem_take hi)) (fun i hi => HU2.out.2.1 i (by rw [HU2.out.1] at hi; exact hi)) x.toNat (by rw [HU2.out.1]; omega)
                      rw [show ((x.toNat : Nat) : Int) = x by omega, List.length_take, Nat.min_eq_left (by omega)] at hub
                      obtain ⟨y, hy⟩ : ∃ y, (j : Int) * pu = y := ⟨_, rfl⟩
                      have hy0 : 0 ≤ y := by rw [← hy]; exact Int.mul_nonneg (by omega) hu0
                      have hy1 : y ≤ 34896609280 := by rw [← hy]; have := Int.mul_le_mul (show (j : Int) ≤ 260 by omega) hu1 hu0 (by omega); omega
                      have HSM := Lib.hid (show S0 + ((j + 1 : Nat) : Int) * pu = S0 + y + pu by rw [show ((j + 1 : Nat) : Int) = (j : Int) + 1 by omega, Int.add_mul, Int.one_mul, hy]; omega)
                      rw [hy] at hub ⊢
                      clear hy
                      have gu := HJx.out.row.cell x.toNat (by rw [HUL.out, HU2.out.1]; omega)
                      rw [show ((x.toNat : Nat) : Int) = x by omega] at gu
                      have fu := HJx.out.row.frozen x.toNat
                      have lg := HJx.out.row.lt
                      generalize addP (P.take j) pu U = V at HAT HUL hub gu HJx
                      obtain ⟨z, hz⟩ : ∃ z, gi V x = z := ⟨_, rfl⟩
                      rw [hz] at hub gu HAT
                      clear hz
                      obtain ⟨hz0, hz1⟩ := hub
                      have hz2 : z ≤ 34931505889280 := by omega
                      clear hz1
                      have j0 : (0 : Int) ≤ (j : Int) := by omega
                      have j1 : (j : Int) < (P.length : Int) := by omega
                      have le := World.block_lt_of_cell? _ _ e3
                      dsimp only at le
                      go_upto_region 14 with fail
                      have hgn : ¬ g = wr.heap.size := by have := HJk.out.row.lt; omega
                      have hgn2 : ¬ wr.heap.size = g := by omega
                      have e4 : (wx.setCell ⟨g, x.toNat, none⟩ (.int .i64 (z + pu))).drew.cell? ⟨wr.heap.size, 3, none⟩ = some (.int .i64 pu) := cell_otherd e3 (by dsimp only; omega)
                      have e5 : (wx.drew.setCell ⟨g, x.toNat, none⟩ (.int .i64 (z + pu))).cell? ⟨wr.heap.size, 3, none⟩ = some (.int .i64 pu) := cell_otherd e3 (by dsimp only; omega)
                      go_still_tail 18, (by kernel_rfl)
                      go_wp2_with fail
                      go_roundw
                      case rel => exact ⟨j + 1, by omega, by go_num, by rw [HSM.out], Lib.hid (by rw [HAT.out]; exact HJx.out.drew.set x.toNat (z + pu)), Lib.hid (HFx.out.drew.set _ _ (.inl rfl))⟩
                      case measure => simp [intOf]; omega
                    · obtain rfl : j = P.length := by omega
                      have t4 : decide ((P.length : Int) < (P.length : Int)) = false := decide_eq_false (by omega)
                      rw [List.take_length] at HJx
                      go_wp2_with fail
                      go_roundw
                      case rel => exact ⟨k + 1, by omega, by go_num, by rw [HST.out], Lib.hid (by rw [HUT.out]; exact HJx.out), HGN⟩
                      case measure => simp [intOf]; omega
      · obtain rfl : k = ps.length := by omega
        have t2 : decide ((ps.length : Int) < (ps.length : Int)) = false := decide_eq_false (by omega)
        have HE := Lib.hid (join_end (n := n) h1001 HGk.out)
        have HUL := Lib.hid (joinU_ok ps.length (Nat.le_refl _) HGk.out).1
        obtain ⟨e1, e2⟩ := join_take_all l.length ps
        rw [e1] at HJk HUL
        rw [e2]
        clear e1 e2
        by_cases hs : 134217728 < joinS ps
        · have t3 : decide ((134217728 : Int) < joinS ps) = true := decide_eq_true hs
          have HE2 := Lib.hid (show joinR n l ps = ([], 3) by rw [HE.out, if_pos hs])
          go_wp2_with fail
          go_ret2
          exact ⟨.slice none 0 0, by rw [HE2.out]; rfl, by rw [HE2.out]; exact IntsV.nil _, HJk.out.bel⟩
        · have t3 : decide ((134217728 : Int) < joinS ps) = false := decide_eq_false hs
          have HE2 := Lib.hid (show joinR n l ps = (joinU l.length ps, 0) by rw [HE.out, if_neg hs])
          go_wp2_with fail
          go_ret2
          exact ⟨.slice (some ⟨g, 0, none⟩) l.length l.length, by rw [HE2.out]; rfl, by rw [HE2.out]; exact ⟨some ⟨g, 0, none⟩, l.length, by rw [HUL.out], HJk.out.row.ints, fun e => by cases e⟩, HJk.out.bel⟩

/-- The state of ref.Paths: the net's box, the sums, the ends. -/
structure Pn (w wr : World) (n : Int) (A : Option Addr) (c m g e : Nat) (U E : List Int) : Prop where
  q0 : wr.cell? ⟨w.heap.size, 0, none⟩ = some (.int .i64 n)
  q1 : wr.cell? ⟨w.heap.size, 1, none⟩ = some (.slice A m c)
  row : RowI wr g U
  rowe : RowI wr e E
  bel : Below w.heap.size w wr
  hg : w.heap.size < g
  he : w.heap.size < e
  ne : g ≠ e
section
variable {w wr w' : World} {n : Int} {A : Option Addr} {c m g e : Nat} {U E : List Int}
theorem Pn.below (h : Pn w wr n A c m g e U E) (hb : Below wr.heap.size wr w') : Pn w w' n A c m g e U E :=
  ⟨cell_below hb h.q0, cell_below hb h.q1, h.row.below hb, h.rowe.below hb, below_trans h.bel hb, h.hg, h.he, h.ne⟩
theorem Pn.set (h : Pn w wr n A c m g e U E) (j : Nat) (v : Int) : Pn w (wr.setCell ⟨g, j, none⟩ (.int .i64 v)) n A c m g e (U.set j v) E := by
  have := h.hg
  exact ⟨cell_other h.q0 (by simp; omega), cell_other h.q1 (by simp; omega), h.row.set j v, h.rowe.other _ _ (fun e => h.ne e.symm), h.bel.setCell (by simp; omega) _, h.hg, h.he, h.ne⟩
theorem Pn.sete (h : Pn w wr n A c m g e U E) (j : Nat) (v : Int) : Pn w (wr.setCell ⟨e, j, none⟩ (.int .i64 v)) n A c m g e U (E.set j v) := by
  have := h.he
  exact ⟨cell_other h.q0 (by simp; omega), cell_other h.q1 (by simp; omega), h.row.other _ _ h.ne, h.rowe.set j v, h.bel.setCell (by simp; omega) _, h.hg, h.he, h.ne⟩
theorem Pn.drew (h : Pn w wr n A c m g e U E) : Pn w wr.drew n A c m g e U E := ⟨h.q0, h.q1, h.row, h.rowe, h.bel.drew, h.hg, h.he, h.ne⟩
end
set_option maxRecDepth 100000 in
set_option maxHeartbeats 8000000 in
theorem rpaths_ok (N : Nat) (A : Option Addr) (c : Nat) (l : List Lk) (B : Option Addr) (d : Nat) (x : List Int) (C : Option Addr) (f : Nat) (u : List Int) (LA : Option Addr) (cc : Nat) (ps : List PV) (w : World) (hok : NetOk (N : Int) l) (hx : x.length = N) (hu : u.length = l.length) (hPS : PsOk N l x u (ps.map (·.1))) (h : LksAt w A l) (h1 : IntsAt w B x) (h2 : IntsAt w C u) (hp : PthsAt w LA ps) :
    Calls Try.prog 66 #[.agg #[.int .i64 (N : Int), .slice A l.length c], .slice B x.length d, .slice C u.length f, .slice LA ps.length cc] w fun e w' => e = .returned (.bool true) ∧ Below w.heap.size w w' := by
  have HA := Lib.hid h
  have HB := Lib.hid h1
  have HC := Lib.hid h2
  have HP := Lib.hid hp
  have HOK := Lib.hid hok
  have HX := Lib.hid hx
  have HU := Lib.hid hu
  have HPS := Lib.hid hPS
  have HGD := Lib.hid (ps_goods hok hPS)
  have hn1 := hok.n1
  have hn2 := hok.n2
  have hl := hok.l1
  have hpm : ps.length ≤ l.length := by have := hPS.many; simpa using this
  have t0 : decide ((l.length : Int) < (ps.length : Int)) = false := decide_eq_false (by omega)
  have t00 : decide (l.length < ps.length) = false := decide_eq_false (by omega)
  have hmk := mkInts l.length (by omega)
  have hmk2 := mkInts N (by omega)
  clear h h1 h2 hp hok hx hu hPS
  go_enter Try.func66, Try.ntmps66
  go_upto_region 3 with fail
  obtain ⟨w2, hw2⟩ : ∃ w2, w2 = w.alloc (.cells #[.int .i64 (N : Int), .slice A l.length c] 24) := ⟨_, rfl⟩
  have HB2 := Lib.hid (show Below w.heap.size w w2 ∧ w.heap.size < w2.heap.size by rw [hw2]; exact ⟨bel, by simp⟩)
  have e0 : w2.cell? ⟨w.heap.size, 0, none⟩ = some (.int .i64 (N : Int)) := by rw [hw2]; go_simp
  have e1 : w2.cell? ⟨w.heap.size, 1, none⟩ = some (.slice A l.length c) := by rw [hw2]; go_simp
  rw [← hw2]
  clear hw2
  have el := HB2.out.2
  obtain ⟨w3, hw3⟩ : ∃ w3, w3 = w2.alloc (.cells (madeCells #[.int .i64 0] l.length) 3) := ⟨_, rfl⟩
  obtain ⟨g, hg⟩ : ∃ g, w2.heap.size = g := ⟨_, rfl⟩
  have HJ3 := Lib.hid (show Jn w w3 (N : Int) A c l.length g (joinU l.length (ps.take 0)) ∧ g < w3.heap.size from ⟨⟨by rw [hw3]; exact cell_alloc _ e0, by rw [hw3]; exact cell_alloc _ e1, by rw [hw3, ← hg]; have := RowI_made w2 l.length; simpa [joinU] using this, by rw [hw3]; exact below_trans HB2.out.1 bel, by omega⟩, by rw [hw3]; simp; omega⟩)
  go_upto_region 4 with fail
  rw [← hw3]
  clear hw3 hg e0 e1 el hmk
  have e0 := HJ3.out.1.q0
  have el := World.block_lt_of_cell? _ _ e0
  dsimp only at el
  obtain ⟨w4, hw4⟩ : ∃ w4, w4 = w3.alloc (.cells (madeCells #[.int .i64 0] N) 3) := ⟨_, rfl⟩
  obtain ⟨e, he⟩ : ∃ e, w3.heap.size = e := ⟨_, rfl⟩
  have HJ := Lib.hid (show Pn w w4 (N : Int) A c l.length g e (joinU l.length (ps.take 0)) (endsL N (ps.take 0)) from by
    have h3 := HJ3.out
    have hb : Below w3.heap.size w3 w4 := by rw [hw4]; exact bel
    refine ⟨cell_below hb h3.1.q0, cell_below hb h3.1.q1, h3.1.row.below hb, ?_, below_trans h3.1.bel hb, h3.1.hg, by omega, by omega⟩
    rw [hw4, ← he]
    have := RowI_made w3 N
    simpa [endsL] using this)
  go_upto_region 5 with fail
  rw [← hw4]
  clear hw4 he e0 el hmk2
  go_wp2
  go_loopw [11] (fun i wr => ∃ k : Nat, k ≤ ps.length ∧ i = .int .i64 (k : Int) ∧ Hid (Pn w wr (N : Int) A c l.length g e (joinU l.length (ps.take k)) (endsL N (ps.take k)))) (fun i _ => ps.length - (intOf i).toNat)
  case atStart => exact ⟨0, by omega, rfl, HJ⟩
  case round =>
    obtain ⟨k, hk, rfl, HJk⟩ := hrel
    by_cases hlt : k < ps.length
    · have t2 : decide ((k : Int) < (ps.length : Int)) = true := decide_eq_true (by omega)
      obtain ⟨b, o, rfl, p0, p1, p2, p3, LB, cb, hx2, hin⟩ := HP.out k hlt
      replace p0 := cell_below HJk.out.bel p0
      replace p1 := cell_below HJk.out.bel p1
      replace p2 := cell_below HJk.out.bel p2
      replace p3 := cell_below HJk.out.bel p3
      have HUT := Lib.hid (joinU_take l.length ps k hlt)
      have HET := Lib.hid (endsL_take N ps k hlt)
      obtain ⟨hpk, hwk⟩ := HGD.out _ (gp_mem hlt)
      have HUB := Lib.hid (joinU_ok (n := (N : Int)) k hk fun j hj => good_of HOK.out (HGD.out _ (gp_mem (by omega))).1)
      have HEB := Lib.hid (endsL_bound (fun p hp => (HGD.out p hp).1) k hk)
      rw [hx2] at p2
      generalize gp ps k = pv at *
      obtain ⟨⟨pa, pb, P, pu⟩, pvv⟩ := pv
      simp only at p0 p1 p2 p3 hin hwk HUT
      clear hx2
      have HAP := Lib.hid (show Apart LB P.length (some g) ∧ Apart LB P.length (some e) from ⟨hin.apart (Nat.le_of_lt HJk.out.hg), hin.apart (Nat.le_of_lt HJk.out.he)⟩)
      have HIN := Lib.hid (hin.below HJk.out.bel)
      have HPK := Lib.hid hpk
      have HME := Lib.hid hpk.mem
      obtain ⟨hu0, hu1⟩ := hpk.u
      have hne := hpk.ne
      have hsh := hpk.short
      simp only at hu0 hu1 hne hsh
      have hP0 : 0 < P.length := by cases P with | nil => exact absurd rfl hne | cons _ _ => simp
      have hna := node_ok (N := N) (by omega) (by omega) hpk.from_
      have hpt := path_ok HOK.out hpk
      simp only at hna hpt
      have HWK := Lib.hid hwk
      have HFT := Lib.hid (show (0 ≤ pa ∧ pa < N) ∧ 0 ≤ pb ∧ pb < N from ⟨hpk.from_, hpk.to_⟩)
      clear hpk hwk hne
      have lb := World.block_lt_of_cell? _ _ p0
      dsimp only at lb
      clear hin
      have q0 := HJk.out.q0
      have q1 := HJk.out.q1
      have lq := World.block_lt_of_cell? _ _ q0
      dsimp only at lq
      have lq1 : w.heap.size < wr.heap.size + 1 := by omega
      have lq2 : w.heap.size < wr.heap.size + 1 + 1 := by omega
      have i0 : (0 : Int) ≤ (k : Int) := by omega
      have i1 : (k : Int) < (ps.length : Int) := by omega
      have s1 : decide (pu < 1) = false := decide_eq_false (by omega)
      have s2 : decide ((P.length : Int) < 1) = false := decide_eq_false (by omega)
      have s3 : decide ((N : Int) < (P.length : Int)) = false := decide_eq_false (by omega)
      have s4 : decide (N < P.length) = false := decide_eq_false (by omega)
      have s5 : decide (P.length < 1) = false := decide_eq_false (by omega)
      have HA1 := Lib.hid (HA.out.below HJk.out.bel)
      have HLD := Lib.hid (fun W (hW : Below wr.heap.size wr W) => rpath_any (N : Int) A c l LB cb P pa pb W (by omega) (by omega) (HA1.out.below hW) (HIN.out.below hW))
      rw [hpt] at HLD
      have HTW := Lib.hid (fun W (hW : Below wr.heap.size wr W) => twice_once (N : Int) A c l LB cb P W (by omega) (by omega) HME.out HPK.out.once (HA1.out.below hW) (HIN.out.below hW))
      clear hpt
      go_upto_region 11 with (first | (go_at_call 34; refine (rnode_at (N : Int) _ _ _ hn1 hn2).mono ?_; rintro e w' ⟨rfl, rfl⟩) | (go_at_call 62; refine (HLD.out _ bel).mono ?_; rintro e w6 ⟨rfl, hb6⟩; have HB6 := Lib.hid (show Below wr.heap.size wr w6 from below_trans bel hb6); have d0 := cell_below hb6 (show World.cell? _ ⟨wr.heap.size, 0, none⟩ = some (.int .i64 pa) by go_simp); have d1 := cell_below hb6 (show World.cell? _ ⟨wr.heap.size, 1, none⟩ = some (.int .i64 pb) by go_simp); have d2 := cell_below hb6 (show World.cell? _ ⟨wr.heap.size, 2, none⟩ = some (.slice LB P.length cb) by go_simp); have d3 := cell_below hb6 (show World.cell? _ ⟨wr.heap.size, 3, none⟩ = some (.int .i64 pu) by go_simp); have q6 := cell_below HB6.out q0; have q7 := cell_below HB6.out q1; have ld := World.block_lt_of_cell? _ _ d1; dsimp only at ld; have lq6 := World.block_lt_of_cell? _ _ q6; dsimp only at lq6; clear hb6) | (go_at_call 102; refine (HTW.out _ HB6.out).mono ?_; rintro e w7 ⟨rfl, hb7⟩; have HB7 := Lib.hid (below_trans HB6.out hb7); have HC7 := Lib.hid (show w7.cell? ⟨wr.heap.size, 0, none⟩ = some (.int .i64 pa) ∧ w7.cell? ⟨wr.heap.size, 1, none⟩ = some (.int .i64 pb) ∧ w7.cell? ⟨wr.heap.size, 2, none⟩ = some (.slice LB P.length cb) ∧ w7.cell? ⟨wr.heap.size, 3, none⟩ = some (.int .i64 pu) from ⟨cell_below hb7 d0, cell_below hb7 d1, cell_below hb7 d2, cell_below hb7 d3⟩); clear hb7))
      obtain ⟨d0, d1, d2, d3⟩ := HC7.out
      have ld := World.block_lt_of_cell? _ _ d1
      dsimp only at ld
      have HJ7 := Lib.hid (HJk.out.below HB7.out)
      have HI7 := Lib.hid (HIN.out.below HB7.out)
      have HRG := Lib.hid (show g < wr.heap.size ∧ e < wr.heap.size from ⟨HJk.out.row.lt, HJk.out.rowe.lt⟩)
      obtain ⟨b1, b2, -, -⟩ := HUB.out
      have HU2 := Lib.hid (show (joinU l.length (ps.take k)).length = l.length ∧ (∀ i : Nat, i < l.length → 0 ≤ gi (joinU l.length (ps.take k)) i ∧ gi (joinU l.length (ps.take k)) i ≤ 34896609280000) from ⟨b1, fun i hi => by have := b2 i hi; omega⟩)
      obtain ⟨b3, b4⟩ := HEB.out
      have HE2 := Lib.hid (show (endsL N (ps.take k)).length = N ∧ (∀ v : Nat, v < N → -34896609280 ≤ gi (endsL N (ps.take k)) v ∧ gi (endsL N (ps.take k)) v ≤ 34896609280) from ⟨b3, fun i hi => by have := b4 i hi; omega⟩)
      clear b1 b2 b3 b4 HUB HEB
      generalize joinU l.length (ps.take k) = U at HU2 HJ7 HJk HUT
      generalize endsL N (ps.take k) = E at HE2 HJ7 HJk HET
      have hP2 : P.length ≤ 50 := by omega
      clear q0 q1 q6 q7 lq lq6 lq1 lq2 p0 p1 p2 p3 lb hna
      go_wp2
      go_loopw [13] (fun i wx => ∃ j : Nat, j ≤ P.length ∧ i = .int .i64 (j : Int) ∧ Hid (Pn w wx (N : Int) A c l.length g e (addP (P.take j) pu U) E) ∧ Hid (Fr w7 wx (fun k => k = g))) (fun i _ => P.length - (intOf i).toNat)
      case atStart => exact ⟨0, by omega, rfl, HJ7, Lib.hid (Fr.refl w7 _)⟩
      case round =>
        rename World => wx
        obtain ⟨j, hj, rfl, HJx, HFx⟩ := hrel
        have hnb : ¬ wr.heap.size = g := by have := HRG.out.1; omega
        have x0 := HFx.out.cell d0 hnb
        have x1 := HFx.out.cell d1 hnb
        have x2 := HFx.out.cell d2 hnb
        have x3 := HFx.out.cell d3 hnb
        have lx := World.block_lt_of_cell? _ _ x0
        dsimp only at lx
        by_cases hjl : j < P.length
        · have t4 : decide ((j : Int) < (P.length : Int)) = true := decide_eq_true (by omega)
          obtain ⟨bp, op, rfl, g1⟩ := (HI7.out.fr HFx.out (fun k hk => by subst hk; exact HAP.out.1)).nat j hjl
          have HAT := Lib.hid (addP_take P pu U j hjl)
          have hx := HME.out _ (gi_mem (l := P) (i := (j : Int)) (by omega) (by omega))
          obtain ⟨y, hxx⟩ : ∃ y, gi P (j : Int) = y := ⟨_, rfl⟩
          rw [hxx] at g1 hx HAT
          clear hxx
          obtain ⟨hx0, hx1⟩ := hx
          have HUL := Lib.hid (addP_len (P.take j) pu U)
          have hub := addP_up (P := P.take j) (by omega : 0 ≤ pu) (s := U) (fun i hi => by rw [HU2.out.1]; exact HME.out i (List.mem_of_mem_take hi)) (fun i hi => HU2.out.2 i (by rw [HU2.out.1] at hi; exact hi)) y.toNat (by rw [HU2.out.1]; omega)
          rw [show ((y.toNat : Nat) : Int) = y by omega, List.length_take, Nat.min_eq_left (by omega)] at hub
          have hy1 : (j : Int) * pu ≤ 6710886400 := by have := Int.mul_le_mul (show (j : Int) ≤ 50 by omega) hu1 (by omega : 0 ≤ pu) (by omega); omega
          have gu := HJx.out.row.cell y.toNat (by rw [HUL.out, HU2.out.1]; omega)
          rw [show ((y.toNat : Nat) : Int) = y by omega] at gu
          have fu := HJx.out.row.frozen y.toNat
          have lg := HJx.out.row.lt
          generalize addP (P.take j) pu U = V at HAT HUL hub gu HJx
          obtain ⟨z, hz⟩ : ∃ z, gi V y = z := ⟨_, rfl⟩
          rw [hz] at hub gu HAT
          clear hz
          obtain ⟨hz0, hz1⟩ := hub
          have hz2 : z ≤ 34931505889280 := by omega
          clear hz1 hy1
          have j0 : (0 : Int) ≤ (j : Int) := by omega
          have j1 : (j : Int) < (P.length : Int) := by omega
          go_upto_region 14 with fail
          go_still_tail 18, (by kernel_rfl)
          go_wp2_with fail
          go_roundw
          case rel => exact ⟨j + 1, by omega, by go_num, Lib.hid (by rw [HAT.out]; exact HJx.out.drew.set y.toNat (z + pu)), Lib.hid (HFx.out.drew.set _ _ (.inl rfl))⟩
          case measure => simp [intOf]; omega
        · obtain rfl : j = P.length := by omega
          have t4 : decide ((P.length : Int) < (P.length : Int)) = false := decide_eq_false (by omega)
          rw [List.take_length] at HJx
          obtain ⟨⟨ha0, ha1⟩, hb0, hb1⟩ := HFT.out
          by_cases hab : pa = pb
          · have hab2 : (pa != pb) = false := by simp [hab]
            have HES := Lib.hid (show endsS E (⟨pa, pb, P, pu⟩, pvv) = E by unfold endsS; rw [if_pos hab])
            go_wp2_with fail
            go_roundw
            case rel => exact ⟨k + 1, by omega, by go_num, Lib.hid (by rw [HUT.out, HET.out, HES.out]; exact HJx.out)⟩
            case measure => simp [intOf]; omega
          · have hab2 : (pa != pb) = true := by simpa using hab
            obtain ⟨hwa, hwb⟩ := HWK.out hab
            have HES := Lib.hid (show endsS E (⟨pa, pb, P, pu⟩, pvv) = si (si E pa (gi E pa - pu)) pb (gi E pb + pu) by unfold endsS; rw [if_neg hab])
            obtain ⟨bw, ow, rfl, g1⟩ := (HB.out.below HJx.out.bel) pa ha0 (by rw [HX.out]; omega)
            obtain ⟨bw2, ow2, e2, g2⟩ := (HB.out.below HJx.out.bel) pb hb0 (by rw [HX.out]; omega)
            cases e2
            have lg1 := World.block_lt_of_cell? _ _ g1
            dsimp only at lg1
            have hxl : (x.length : Int) = (N : Int) := by rw [HX.out]
            have c1 : pa < (x.length : Int) := by omega
            have c2 : pb < (x.length : Int) := by omega
            obtain ⟨wa, hwa2⟩ : ∃ wa, gi x pa = wa := ⟨_, rfl⟩
            obtain ⟨wb, hwb2⟩ : ∃ wb, gi x pb = wb := ⟨_, rfl⟩
            rw [hwa2] at g1 hwa
            rw [hwb2] at g2 hwb
            have v1 : decide (0 ≤ wa) = false := decide_eq_false (by omega)
            have v2 : decide (wb ≤ 0) = false := decide_eq_false (by omega)
            clear hwa2 hwb2 hxl
            have hel : (E.length : Int) = (N : Int) := by rw [HE2.out.1]
            have hza := HE2.out.2 pa.toNat (by omega)
            have hzb := HE2.out.2 pb.toNat (by omega)
            rw [show ((pa.toNat : Nat) : Int) = pa by omega] at hza
            rw [show ((pb.toNat : Nat) : Int) = pb by omega] at hzb
            have r1 := HJx.out.rowe.cell pa.toNat (by omega)
            have r2 := HJx.out.rowe.cell pb.toNat (by omega)
            rw [show ((pa.toNat : Nat) : Int) = pa by omega] at r1
            rw [show ((pb.toNat : Nat) : Int) = pb by omega] at r2
            have f1 := HJx.out.rowe.frozen pa.toNat
            have f2 := HJx.out.rowe.frozen pb.toNat
            have le := HJx.out.rowe.lt
            have HES2 := Lib.hid (show (E.set pa.toNat (gi E pa - pu)).set pb.toNat (gi E pb + pu) = si (si E pa (gi E pa - pu)) pb (gi E pb + pu) from rfl)
            obtain ⟨za, hza2⟩ : ∃ za, gi E pa = za := ⟨_, rfl⟩
            obtain ⟨zb, hzb2⟩ : ∃ zb, gi E pb = zb := ⟨_, rfl⟩
            rw [hza2] at r1 hza HES HES2
            rw [hzb2] at r2 hzb HES HES2
            clear hza2 hzb2 hel
            obtain ⟨hza0, hza1⟩ := hza
            obtain ⟨hzb0, hzb1⟩ := hzb
            have m1 : pa < (N : Int) := ha1
            have m2 : pb < (N : Int) := hb1
            have hnbe : ¬ e = wr.heap.size := by have := HRG.out.2; omega
            have hne2 : ¬ pa.toNat = pb.toNat := by omega
            go_upto_region 18 with fail
            go_still_tail 12, (by kernel_rfl)
            obtain ⟨w8, hw8⟩ : ∃ w8, w8 = (wx.setCell ⟨e, pa.toNat, none⟩ (.int .i64 (za - pu))).drew := ⟨_, rfl⟩
            have y0 : w8.cell? ⟨wr.heap.size, 0, none⟩ = some (.int .i64 pa) := by rw [hw8]; exact cell_otherd x0 hnbe
            have y1 : w8.cell? ⟨wr.heap.size, 1, none⟩ = some (.int .i64 pb) := by rw [hw8]; exact cell_otherd x1 hnbe
            have y3 : w8.cell? ⟨wr.heap.size, 3, none⟩ = some (.int .i64 pu) := by rw [hw8]; exact cell_otherd x3 hnbe
            have ly := World.block_lt_of_cell? _ _ y0
            dsimp only at ly
            have HJ8 := Lib.hid (show Pn w w8 (N : Int) A c l.length g e (addP P pu U) (E.set pa.toNat (za - pu)) by rw [hw8]; exact (HJx.out.sete _ _).drew)
            have r3 : w8.cell? ⟨e, pb.toNat, none⟩ = some (.int .i64 zb) := by
              rw [hw8]
              show (wx.setCell ⟨e, pa.toNat, none⟩ (.int .i64 (za - pu))).cell? ⟨e, pb.toNat, none⟩ = _
              rw [World.cell?_setCell_other _ _ _ _ (by first | (simp; done) | (simp; omega))]
              exact r2
            have f3 := HJ8.out.rowe.frozen pb.toNat
            have le8 := HJ8.out.rowe.lt
            go_upto_region 19 with fail
            rw [← hw8]
            clear hw8 r1 r2 f1 f2 le x0 x1 x2 x3 lx g1 g2 lg1
            go_still_tail 12, (by kernel_rfl)
            go_wp2_with fail
            go_roundw
            case rel => exact ⟨k + 1, by omega, by go_num, Lib.hid (by rw [HUT.out, HET.out, HES.out, ← HES2.out]; exact HJ8.out.drew.sete pb.toNat (zb + pu))⟩
            case measure => simp [intOf]; omega
    · obtain rfl : k = ps.length := by omega
      have t2 : decide ((ps.length : Int) < (ps.length : Int)) = false := decide_eq_false (by omega)
      obtain ⟨s1, s2⟩ := sums_eq HOK.out HX.out HU.out HPS.out
      rw [List.take_length, s1, s2] at HJk
      clear s1 s2
      have HS1 := Lib.hid (show Calls Try.prog 23 #[.slice (some ⟨g, 0, none⟩) l.length l.length, .slice C u.length f] wr fun e w' => e = .returned (.bool true) ∧ Below wr.heap.size wr w' by
        have h := same_any (some ⟨g, 0, none⟩) l.length u C f u wr (by have := HU.out; omega) HJk.out.row.ints (HC.out.below HJk.out.bel)
        rw [decide_eq_true (rfl : u = u)] at h
        rw [HU.out] at h ⊢
        exact h)
      have HS2 := Lib.hid (fun W (hW : Below wr.heap.size wr W) => (show Calls Try.prog 23 #[.slice (some ⟨e, 0, none⟩) N N, .slice B x.length d] W fun e w' => e = .returned (.bool true) ∧ Below W.heap.size W w' by
        have h := same_any (some ⟨e, 0, none⟩) N x B d x W (by have := HX.out; omega) (HJk.out.rowe.below hW).ints ((HB.out.below HJk.out.bel).below hW)
        rw [decide_eq_true (rfl : x = x)] at h
        rw [HX.out] at h ⊢
        exact h))
      go_wp2_with fail
      refine HS1.out.mono ?_
      rintro e8 w8 ⟨rfl, hb8⟩
      have HB8 := Lib.hid hb8
      clear hb8 HS1
      go_wp2_with fail
      refine (HS2.out w8 HB8.out).mono ?_
      rintro e9 w9 ⟨rfl, hb9⟩
      have HB9 := Lib.hid hb9
      clear hb9 HS2
      go_wp2_with fail
      go_ret
      exact ⟨rfl, below_trans (below_trans HJk.out.bel HB8.out) HB9.out⟩
section
open Go.ChangeShapes Go.WideShapes Go.ChangeAt Go.RowKit Go.Joins
section
variable {H : Type} {enc : TypeId × Value → H} {W : World} {fuel : Nat} {x : DataW H × List MemPlace}
theorem open_pths {cs : List Value} (h : DataW.trod enc Try.prog W 0 (fun _ => true) true fuel 68 cs = some x) :
    ∃ (A : Option Addr) (c : Nat) (ps : List PV), cs = [.slice A ps.length c] ∧ PthsAt W A ps ∧ (A = none → ps.length = 0 ∧ c = 0) ∧ ps.length ≤ 9223372036854775807 := by
  rcases Deep.open_slice Try.underlying68 h with ⟨rfl, rfl⟩ | ⟨a, len, cap, m, n, D, Pl, rfl, hb, hl, hm, hmm, rfl, hx⟩
  · exact ⟨none, 0, [], rfl, fun i hi => by simp at hi, fun _ => ⟨rfl, rfl⟩, by simp⟩
  · have hmc : m = cap := by simpa using hmm
    have each : ∀ i, i < len → ∃ k : PV, W.cell? (a.add (i * 4)) = some (.int .i64 k.1.a) ∧ W.cell? (a.add (i * 4 + 1)) = some (.int .i64 k.1.b) ∧ W.cell? (a.add (i * 4 + 2)) = some k.2 ∧ W.cell? (a.add (i * 4 + 3)) = some (.int .i64 k.1.u) ∧ ∃ LA cc, k.2 = .slice LA k.1.ls.length cc ∧ IntsAt W LA k.1.ls := by
      intro i hi
      obtain ⟨cs', h1, h2⟩ := hx i (by omega)
      rw [show Try.prog.cellsOf 72 = 4 by kernel_rfl] at h1
      obtain ⟨_, hlen, hc⟩ := World.cells?_some h1
      match cs', hlen with
      | [v0, v1, v2, v3], _ =>
        obtain ⟨y0, y1, y2, y3, n', _, _, t0, t1, t2, t3⟩ := trod_struct4 Try.underlying72 h2
        simp only [show Try.prog.cellsOf 3 = 1 by kernel_rfl, show Try.prog.cellsOf 25 = 1 by kernel_rfl, List.drop_zero, List.drop_succ_cons, List.take_succ_cons, List.take_zero] at t0 t1 t2 t3
        obtain ⟨k0, e0, _, _⟩ := DataW.trod_int Try.underlying3 t0
        obtain ⟨k1, e1, _, _⟩ := DataW.trod_int Try.underlying3 t1
        obtain ⟨k3, e3, _, _⟩ := DataW.trod_int Try.underlying3 t3
        obtain ⟨LA, lc, ll, e2, hla, -, -, -⟩ := open_intl t2
        simp only [List.cons.injEq, and_true] at e0 e1 e2 e3
        subst e0 e1 e2 e3
        have c0 := hc 0 (by omega)
        have c1 := hc 1 (by omega)
        have c2 := hc 2 (by omega)
        have c3 := hc 3 (by omega)
        rw [Deep.add_add] at c0 c1 c2 c3
        exact ⟨(⟨k0, k1, ll, k3⟩, .slice LA ll.length lc), by simpa using c0, by simpa using c1, by simpa using c2, by simpa using c3, LA, lc, rfl, hla⟩
    obtain ⟨f, hf⟩ := Deep.choose_lt each
    obtain ⟨e1, e2⟩ := list_of_fun len f
    refine ⟨some a, cap, (List.range len).map f, by rw [e1], ?_, (fun e => by cases e), ?_⟩
    · intro i hi
      rw [e1] at hi
      obtain ⟨c0, c1, c2, c3, c4⟩ := hf _ hi
      have hg : gp ((List.range len).map f) i = f i := e2 _ hi
      rw [hg]
      obtain ⟨b, o, s⟩ := a
      have hs : s = none := by
        have := World.cell?_spot (hf 0 (by omega)).1
        simpa [Addr.add] using this
      subst hs
      have ha : ∀ j, (⟨b, o, none⟩ : Addr).add j = ⟨b, o + j, none⟩ := fun j => by unfold Addr.add; split <;> simp_all
      simp only [ha, ← Nat.add_assoc] at c0 c1 c2 c3
      exact ⟨b, o, rfl, c0, c1, c2, c3, c4⟩
    · rw [e1]
      unfold maxLen at hm
      omega
end
end

theorem check_flow {n : Int} {l : List Lk} {x u : List Int} (h : checkL n l ≠ 0) : askedI n l x = checkL n l ∧ (flowR n l x u).2 = checkL n l := by
  have h1 : askedI n l x = checkL n l := by unfold askedI; rw [if_pos h]
  refine ⟨h1, ?_⟩
  unfold flowR
  rw [if_pos (by rw [h1]; exact h), h1]
theorem flow_errs {n : Int} {l : List Lk} {x u : List Int} (h : (flowR n l x u).2 ≠ 0) : (askedI n l x ≠ 0 ∧ (flowR n l x u).2 = askedI n l x) ∨ (askedI n l x = 0 ∧ isFlowI l u ≠ 0 ∧ (flowR n l x u).2 = isFlowI l u) ∨ (askedI n l x = 0 ∧ isFlowI l u = 0 ∧ carriesB l x u = false ∧ (flowR n l x u).2 = 8) := by
  unfold flowR at h ⊢
  by_cases ha : askedI n l x = 0
  · rw [if_neg (by simpa using ha)] at h ⊢
    by_cases hf : isFlowI l u = 0
    · rw [if_neg (by simpa using hf)] at h ⊢
      cases hc : carriesB l x u with
      | false => exact .inr (.inr ⟨ha, hf, rfl, by simp⟩)
      | true => rw [hc] at h; simp at h
    · rw [if_pos (by simpa using hf)]
      exact .inr (.inl ⟨ha, hf, rfl⟩)
  · rw [if_pos (by simpa using ha)]
    exact .inl ⟨ha, rfl⟩
theorem flow_oks {n : Int} {l : List Lk} {x u : List Int} (h : (flowR n l x u).2 = 0) : askedI n l x = 0 ∧ isFlowI l u = 0 ∧ carriesB l x u = true := by
  unfold flowR at h
  by_cases ha : askedI n l x = 0
  · rw [if_neg (by simpa using ha)] at h
    by_cases hf : isFlowI l u = 0
    · rw [if_neg (by simpa using hf)] at h
      cases hc : carriesB l x u with
      | false => rw [hc] at h; simp at h
      | true => exact ⟨ha, hf, rfl⟩
    · rw [if_pos (by simpa using hf)] at h; exact absurd h hf
  · rw [if_pos (by simpa using ha)] at h; exact absurd h ha
theorem carries_in {N : Nat} {l : List Lk} {x u : List Int} (ha : askedI (N : Int) l x = 0) (hf : isFlowI l u = 0) : u.length = l.length ∧ decide (inOf N l u = x) = carriesB l x u := by
  obtain ⟨hok, hw, hwb, hsum⟩ := asked_facts ha
  obtain ⟨f1, f2, f3⟩ := (isFlow_facts hok.l1).1 hf
  exact ⟨f1, in_same (fun k hk => by
    have := (hok.lk _ (gl_mem (l := l) (i := (k : Int)) (by omega) (by omega))).1
    exact ⟨this.1, this.2.1, this.2.2.1, this.2.2.2⟩) hw hwb f1 (fun k hk => (f2 k hk).1) (by omega)⟩
set_option maxRecDepth 100000 in
set_option maxHeartbeats 8000000 in
theorem paths_guard (n : Int) (A : Option Addr) (c : Nat) (l : List Lk) (B : Option Addr) (d : Nat) (x : List Int) (C : Option Addr) (f : Nat) (u : List Int) (LA : Option Addr) (cc : Nat) (ps : List PV) (w : World)
    (hg : smallB n l.length = false ∨ 60 < x.length ∨ 300 < u.length ∨ (40 < ps.length ∧ ps.length ≤ 1000) ∨ 1010 < ps.length) :
    Calls Try.prog 14 #[.agg #[.int .i64 n, .slice A l.length c], .slice B x.length d, .slice C u.length f, .slice LA ps.length cc] w fun e w' => e = .returned (.bool true) ∧ Below w.heap.size w w' := by
  cases hs : smallB n l.length
  · clear hg
    go_enter Try.func14, Try.ntmps14
    go_wp2_with (first | (go_at_call 27; refine (small_any n A c l.length _).mono ?_; rw [hs]; rintro e w1 ⟨rfl, hb⟩; have HB1 := Lib.hid (boxed hb).1; obtain ⟨c0, c1, lw⟩ := (boxed hb).2; clear hb) | (go_at_call 17; refine (sanity_any _).mono ?_; rintro e wz ⟨rfl, hb⟩; have HBz := Lib.hid (below_trans HB1.out hb); clear hb))
    go_ret
    exact ⟨rfl, HBz.out⟩
  · by_cases hx60 : 60 < x.length
    · have t1 : decide ((60 : Int) < (x.length : Int)) = true := decide_eq_true (by omega)
      clear hg
      go_enter Try.func14, Try.ntmps14
      go_wp2_with (first | (go_at_call 27; refine (small_any n A c l.length _).mono ?_; rw [hs]; rintro e w1 ⟨rfl, hb⟩; have HB1 := Lib.hid (boxed hb).1; obtain ⟨c0, c1, lw⟩ := (boxed hb).2; clear hb) | (go_at_call 17; refine (sanity_any _).mono ?_; rintro e wz ⟨rfl, hb⟩; have HBz := Lib.hid (below_trans HB1.out hb); clear hb))
      go_ret
      exact ⟨rfl, HBz.out⟩
    · have t1 : decide ((60 : Int) < (x.length : Int)) = false := decide_eq_false (by omega)
      by_cases hu300 : 300 < u.length
      · have t2 : decide ((300 : Int) < (u.length : Int)) = true := decide_eq_true (by omega)
        clear hg
        go_enter Try.func14, Try.ntmps14
        go_wp2_with (first | (go_at_call 27; refine (small_any n A c l.length _).mono ?_; rw [hs]; rintro e w1 ⟨rfl, hb⟩; have HB1 := Lib.hid (boxed hb).1; obtain ⟨c0, c1, lw⟩ := (boxed hb).2; clear hb) | (go_at_call 17; refine (sanity_any _).mono ?_; rintro e wz ⟨rfl, hb⟩; have HBz := Lib.hid (below_trans HB1.out hb); clear hb))
        go_ret
        exact ⟨rfl, HBz.out⟩
      · have t2 : decide ((300 : Int) < (u.length : Int)) = false := decide_eq_false (by omega)
        by_cases hp1 : 40 < ps.length ∧ ps.length ≤ 1000
        · have t3 : decide ((40 : Int) < (ps.length : Int)) = true := decide_eq_true (by omega)
          have t4 : decide ((ps.length : Int) ≤ (1000 : Int)) = true := decide_eq_true (by omega)
          clear hg
          go_enter Try.func14, Try.ntmps14
          go_wp2_with (first | (go_at_call 27; refine (small_any n A c l.length _).mono ?_; rw [hs]; rintro e w1 ⟨rfl, hb⟩; have HB1 := Lib.hid (boxed hb).1; obtain ⟨c0, c1, lw⟩ := (boxed hb).2; clear hb) | (go_at_call 17; refine (sanity_any _).mono ?_; rintro e wz ⟨rfl, hb⟩; have HBz := Lib.hid (below_trans HB1.out hb); clear hb))
          go_ret
          exact ⟨rfl, HBz.out⟩
        · have hp2 : 1010 < ps.length := by rcases hg with hg | hg | hg | hg | hg; rw [hs] at hg; cases hg; exact absurd hg hx60; exact absurd hg hu300; exact absurd hg hp1; exact hg
          have t3 : decide ((40 : Int) < (ps.length : Int)) = true := decide_eq_true (by omega)
          have t4 : decide ((ps.length : Int) ≤ (1000 : Int)) = false := decide_eq_false (by omega)
          have t5 : decide ((1010 : Int) < (ps.length : Int)) = true := decide_eq_true (by omega)
          clear hg hp1
          go_enter Try.func14, Try.ntmps14
          go_wp2_with (first | (go_at_call 27; refine (small_any n A c l.length _).mono ?_; rw [hs]; rintro e w1 ⟨rfl, hb⟩; have HB1 := Lib.hid (boxed hb).1; obtain ⟨c0, c1, lw⟩ := (boxed hb).2; clear hb) | (go_at_call 17; refine (sanity_any _).mono ?_; rintro e wz ⟨rfl, hb⟩; have HBz := Lib.hid (below_trans HB1.out hb); clear hb))
          go_ret
          exact ⟨rfl, HBz.out⟩
set_option maxRecDepth 100000 in
set_option maxHeartbeats 8000000 in
theorem paths_bad1_a (n : Int) (A : Option Addr) (c : Nat) (l : List Lk) (B : Option Addr) (d : Nat) (x : List Int) (C : Option Addr) (f : Nat) (u : List Int) (LA : Option Addr) (cc : Nat) (ps : List PV) (w : World)
    (h : LksAt w A l) (h1 : IntsAt w B x) (hn1 : B = none → x.length = 0 ∧ d = 0) (h2 : IntsAt w C u) (hn2 : C = none → u.length = 0 ∧ f = 0) (hp : PthsAt w LA ps) (hs : smallB n l.length = true) (hx60 : x.length ≤ 60) (hu300 : u.length ≤ 300) (hps : ps.length ≤ 40) (hck : checkL n l ≠ 0) :
    Calls Try.prog 14 #[.agg #[.int .i64 n, .slice A l.length c], .slice B x.length d, .slice C u.length f, .slice LA ps.length cc] w fun e w' => e = .returned (.bool true) ∧ Below w.heap.size w w' := by
  have t3 : decide ((40 : Int) < (ps.length : Int)) = false := decide_eq_false (by omega)
  have hl2 := small_len hs
  have t1 : decide ((60 : Int) < (x.length : Int)) = false := decide_eq_false (by omega)
  have t2 : decide ((300 : Int) < (u.length : Int)) = false := decide_eq_false (by omega)
  have t5 : decide ((1010 : Int) < (ps.length : Int)) = false := decide_eq_false (by omega)
  have HJC := Lib.hid (fun W (hW : Below w.heap.size w W) => join_check n A c l (.slice LA ps.length cc) W (by omega) (h.below hW) hck)
  have HRC := Lib.hid (fun W (hW : Below w.heap.size w W) => rcheck_any n A c l W (by omega) (h.below hW))
  obtain ⟨hf1, hf2⟩ := check_flow (x := x) (u := u) hck
  have HPB := Lib.hid (fun W (hW : Below w.heap.size w W) => Paths_bad n A c l B d x C f u W (by omega) (by omega) (by omega) (h.below hW) (h1.below hW) (h2.below hW) hn1 (by rw [hf2]; exact hck))
  have HRE := Lib.hid (fun W (hW : Below w.heap.size w W) => rerror_any n A c l B d x W (by omega) (by omega) (h.below hW) (h1.below hW))
  rw [hf1] at HRE
  rw [hf2] at HPB
  generalize checkL n l = r at HJC HRC HPB HRE hck
  have hr : (r != 0) = true := by simpa using hck
  have hr1 : (r == 0) = false := by simpa using hck
  have hr2 : (r != r) = false := by simp
  have hr3 : (r == r) = true := by simp
  clear hck hf1 hf2
  have HPT := Lib.hid hp
  clear h h1 hn1 h2 hn2 hp
  go_enter Try.func14, Try.ntmps14
  go_upto_region 3 with (go_at_call 27; refine (small_any n A c l.length _).mono ?_; rw [hs]; rintro e w1 ⟨rfl, hb⟩; have HB1 := Lib.hid (boxed hb).1; obtain ⟨c0, c1, lw⟩ := (boxed hb).2; clear hb)
  have HCC := Lib.hid (And.intro c0 c1)
  clear c0 c1 lw
  go_wp2
  go_loopw [9] (fun i wr => ∃ k : Nat, k ≤ ps.length ∧ k ≤ 41 ∧ i = .int .i64 (k : Int) ∧ Hid (∀ j : Nat, j < k → (gp ps j).1.ls.length ≤ 270) ∧ Hid (Below w1.heap.size w1 wr)) (fun i _ => 41 - (intOf i).toNat)
  case atStart => exact ⟨0, by omega, by omega, rfl, Lib.hid (fun j hj => by omega), Lib.hid (Below.refl _ _)⟩
  case round =>
    obtain ⟨k, hk, hk41, rfl, HLS, HBr⟩ := hrel
    have HB2 := Lib.hid (below_trans HB1.out HBr.out)
    by_cases hlt : k < ps.length ∧ k < 41
    · obtain ⟨hlt, hk40⟩ := hlt
      have v1 : decide ((k : Int) < (ps.length : Int)) = true := decide_eq_true (by omega)
      have v2 : decide ((k : Int) < 41) = true := decide_eq_true (by omega)
      have v3 : decide (k < ps.length) = true := decide_eq_true hlt
      have v4 : decide (k < 41) = true := decide_eq_true hk40
      obtain ⟨b, o, rfl, p0, p1, p2, p3, LB, cb, hx2, hin⟩ := (HPT.out.below HB2.out) k hlt
      rw [hx2] at p2
      have HNX := Lib.hid (fun (hh : (gp ps k).1.ls.length ≤ 270) => (show ∀ j : Nat, j < k + 1 → (gp ps j).1.ls.length ≤ 270 from fun j hj => by
        by_cases e : j = k
        · subst e; exact hh
        · exact HLS.out j (by omega)))
      clear hin hx2 p0 p1 p3
      generalize (gp ps k).1.ls.length = m at *
      have lb := World.block_lt_of_cell? _ _ p2
      dsimp only at lb
      have i0 : (0 : Int) ≤ (k : Int) := by omega
      have i1 : (k : Int) < (ps.length : Int) := by omega
      by_cases hm : (40 < m ∧ m ≤ 260) ∨ 270 < m
      · rcases hm with ⟨hm1, hm2⟩ | hm3
        · have v5 : decide ((40 : Int) < (m : Int)) = true := decide_eq_true (by omega)
          have v6 : decide ((m : Int) ≤ 260) = true := decide_eq_true (by omega)
          clear HNX
          go_wp2_with (go_at_call 17; refine (sanity_any _).mono ?_; rintro e wz ⟨rfl, hb⟩; have HBz := Lib.hid (below_trans HB2.out hb); clear hb)
          go_ret
          exact ⟨rfl, HBz.out⟩
        · have v5 : decide ((40 : Int) < (m : Int)) = true := decide_eq_true (by omega)
          have v6 : decide ((m : Int) ≤ 260) = false := decide_eq_false (by omega)
          have v7 : decide ((270 : Int) < (m : Int)) = true := decide_eq_true (by omega)
          clear HNX
          go_wp2_with (go_at_call 17; refine (sanity_any _).mono ?_; rintro e wz ⟨rfl, hb⟩; have HBz := Lib.hid (below_trans HB2.out hb); clear hb)
          go_ret
          exact ⟨rfl, HBz.out⟩
      · have HN2 := Lib.hid (HNX.out (by omega))
        have v7 : decide ((270 : Int) < (m : Int)) = false := decide_eq_false (by omega)
        clear HNX
        by_cases hm1 : 40 < m
        · have v5 : decide ((40 : Int) < (m : Int)) = true := decide_eq_true (by omega)
          have v6 : decide ((m : Int) ≤ 260) = false := decide_eq_false (by omega)
          clear hm
          go_wp2_with fail
          go_roundw
          case rel => exact ⟨k + 1, by omega, by omega, by go_num, HN2, HBr⟩
          case measure => simp [intOf]; omega
        · have v5 : decide ((40 : Int) < (m : Int)) = false := decide_eq_false (by omega)
          clear hm
          go_wp2_with fail
          go_roundw
          case rel => exact ⟨k + 1, by omega, by omega, by go_num, HN2, HBr⟩
          case measure => simp [intOf]; omega
    · have HPL := Lib.hid (show ps.length ≤ 1000 → ∀ p ∈ ps, p.1.ls.length ≤ 1000 from fun h1000 p hp => by
        obtain ⟨j, hj, rfl⟩ := List.getElem_of_mem hp
        have := HLS.out j (by omega)
        simp [gp, List.getD_eq_getElem?_getD, hj] at this
        omega)
      have hv : (decide ((k : Int) < (ps.length : Int)) && decide ((k : Int) < 41)) = false := by
        rw [Bool.and_eq_false_iff]
        by_cases e : k < ps.length
        · exact .inr (decide_eq_false (by omega))
        · exact .inl (decide_eq_false (by omega))
      have c0 := cell_below HBr.out HCC.out.1
      have c1 := cell_below HBr.out HCC.out.2
      have lw := World.block_lt_of_cell? _ _ c0
      dsimp only at lw
      clear HLS HCC
      have e1 : ¬ k < ps.length := by omega
      have v1 : decide ((k : Int) < (ps.length : Int)) = false := decide_eq_false (by omega)
      have v3 : decide (k < ps.length) = false := decide_eq_false e1
      clear hv hlt e1
      go_wp2_with (first | (go_at_call 64; refine (HJC.out _ HB2.out).mono ?_; rintro e w3 ⟨rfl, hb⟩; have HB3 := Lib.hid (below_trans HB2.out hb); have c0 := cell_below hb c0; have c1 := cell_below hb c1; have lw := World.block_lt_of_cell? _ _ c0; clear hb) | (go_at_call 33; refine (HRC.out _ HB3.out).mono ?_; rintro e w4 ⟨rfl, hb⟩; have HB4 := Lib.hid (below_trans HB3.out hb); have c0 := cell_below hb c0; have c1 := cell_below hb c1; have lw := World.block_lt_of_cell? _ _ c0; clear hb) | (go_at_call 61; refine (HPB.out _ HB4.out).mono ?_; rintro e w5 ⟨rfl, hb⟩; have HB5 := Lib.hid (below_trans HB4.out hb); have c0 := cell_below hb c0; have c1 := cell_below hb c1; have lw := World.block_lt_of_cell? _ _ c0; clear hb) | (go_at_call 21; refine (HRE.out _ HB5.out).mono ?_; rintro e w6 ⟨rfl, hb⟩; have HB6 := Lib.hid (below_trans HB5.out hb); have c0 := cell_below hb c0; have c1 := cell_below hb c1; have lw := World.block_lt_of_cell? _ _ c0; clear hb) | (go_at_call 17; refine (sanity_any _).mono ?_; rintro e wz ⟨rfl, hb⟩; have HBz := Lib.hid (below_trans HB6.out hb); clear hb))
      go_ret
      exact ⟨rfl, HBz.out⟩
set_option maxRecDepth 100000 in
set_option maxHeartbeats 8000000 in
theorem paths_bad1_b (n : Int) (A : Option Addr) (c : Nat) (l : List Lk) (B : Option Addr) (d : Nat) (x : List Int) (C : Option Addr) (f : Nat) (u : List Int) (LA : Option Addr) (cc : Nat) (ps : List PV) (w : World)
    (h : LksAt w A l) (h1 : IntsAt w B x) (hn1 : B = none → x.length = 0 ∧ d = 0) (h2 : IntsAt w C u) (hn2 : C = none → u.length = 0 ∧ f = 0) (hp : PthsAt w LA ps) (hs : smallB n l.length = true) (hx60 : x.length ≤ 60) (hu300 : u.length ≤ 300) (hps : 1000 < ps.length) (hps2 : ps.length ≤ 1010) (hck : checkL n l ≠ 0) :
    Calls Try.prog 14 #[.agg #[.int .i64 n, .slice A l.length c], .slice B x.length d, .slice C u.length f, .slice LA ps.length cc] w fun e w' => e = .returned (.bool true) ∧ Below w.heap.size w w' := by
  have t3 : decide ((40 : Int) < (ps.length : Int)) = true := decide_eq_true (by omega)
  have t4 : decide ((ps.length : Int) ≤ 1000) = false := decide_eq_false (by omega)
  have hl2 := small_len hs
  have t1 : decide ((60 : Int) < (x.length : Int)) = false := decide_eq_false (by omega)
  have t2 : decide ((300 : Int) < (u.length : Int)) = false := decide_eq_false (by omega)
  have t5 : decide ((1010 : Int) < (ps.length : Int)) = false := decide_eq_false (by omega)
  have HJC := Lib.hid (fun W (hW : Below w.heap.size w W) => join_check n A c l (.slice LA ps.length cc) W (by omega) (h.below hW) hck)
  have HRC := Lib.hid (fun W (hW : Below w.heap.size w W) => rcheck_any n A c l W (by omega) (h.below hW))
  obtain ⟨hf1, hf2⟩ := check_flow (x := x) (u := u) hck
  have HPB := Lib.hid (fun W (hW : Below w.heap.size w W) => Paths_bad n A c l B d x C f u W (by omega) (by omega) (by omega) (h.below hW) (h1.below hW) (h2.below hW) hn1 (by rw [hf2]; exact hck))
  have HRE := Lib.hid (fun W (hW : Below w.heap.size w W) => rerror_any n A c l B d x W (by omega) (by omega) (h.below hW) (h1.below hW))
  rw [hf1] at HRE
  rw [hf2] at HPB
  generalize checkL n l = r at HJC HRC HPB HRE hck
  have hr : (r != 0) = true := by simpa using hck
  have hr1 : (r == 0) = false := by simpa using hck
  have hr2 : (r != r) = false := by simp
  have hr3 : (r == r) = true := by simp
  clear hck hf1 hf2
  have HPT := Lib.hid hp
  clear h h1 hn1 h2 hn2 hp
  go_enter Try.func14, Try.ntmps14
  go_upto_region 3 with (go_at_call 27; refine (small_any n A c l.length _).mono ?_; rw [hs]; rintro e w1 ⟨rfl, hb⟩; have HB1 := Lib.hid (boxed hb).1; obtain ⟨c0, c1, lw⟩ := (boxed hb).2; clear hb)
  have HCC := Lib.hid (And.intro c0 c1)
  clear c0 c1 lw
  go_wp2
  go_loopw [9] (fun i wr => ∃ k : Nat, k ≤ ps.length ∧ k ≤ 41 ∧ i = .int .i64 (k : Int) ∧ Hid (∀ j : Nat, j < k → (gp ps j).1.ls.length ≤ 270) ∧ Hid (Below w1.heap.size w1 wr)) (fun i _ => 41 - (intOf i).toNat)
  case atStart => exact ⟨0, by omega, by omega, rfl, Lib.hid (fun j hj => by omega), Lib.hid (Below.refl _ _)⟩
  case round =>
    obtain ⟨k, hk, hk41, rfl, HLS, HBr⟩ := hrel
    have HB2 := Lib.hid (below_trans HB1.out HBr.out)
    by_cases hlt : k < ps.length ∧ k < 41
    · obtain ⟨hlt, hk40⟩ := hlt
      have v1 : decide ((k : Int) < (ps.length : Int)) = true := decide_eq_true (by omega)
      have v2 : decide ((k : Int) < 41) = true := decide_eq_true (by omega)
      have v3 : decide (k < ps.length) = true := decide_eq_true hlt
      have v4 : decide (k < 41) = true := decide_eq_true hk40
      obtain ⟨b, o, rfl, p0, p1, p2, p3, LB, cb, hx2, hin⟩ := (HPT.out.below HB2.out) k hlt
      rw [hx2] at p2
      have HNX := Lib.hid (fun (hh : (gp ps k).1.ls.length ≤ 270) => (show ∀ j : Nat, j < k + 1 → (gp ps j).1.ls.length ≤ 270 from fun j hj => by
        by_cases e : j = k
        · subst e; exact hh
        · exact HLS.out j (by omega)))
      clear hin hx2 p0 p1 p3
      generalize (gp ps k).1.ls.length = m at *
      have lb := World.block_lt_of_cell? _ _ p2
      dsimp only at lb
      have i0 : (0 : Int) ≤ (k : Int) := by omega
      have i1 : (k : Int) < (ps.length : Int) := by omega
      by_cases hm : (40 < m ∧ m ≤ 260) ∨ 270 < m
      · rcases hm with ⟨hm1, hm2⟩ | hm3
        · have v5 : decide ((40 : Int) < (m : Int)) = true := decide_eq_true (by omega)
          have v6 : decide ((m : Int) ≤ 260) = true := decide_eq_true (by omega)
          clear HNX
          go_wp2_with (go_at_call 17; refine (sanity_any _).mono ?_; rintro e wz ⟨rfl, hb⟩; have HBz := Lib.hid (below_trans HB2.out hb); clear hb)
          go_ret
          exact ⟨rfl, HBz.out⟩
        · have v5 : decide ((40 : Int) < (m : Int)) = true := decide_eq_true (by omega)
          have v6 : decide ((m : Int) ≤ 260) = false := decide_eq_false (by omega)
          have v7 : decide ((270 : Int) < (m : Int)) = true := decide_eq_true (by omega)
          clear HNX
          go_wp2_with (go_at_call 17; refine (sanity_any _).mono ?_; rintro e wz ⟨rfl, hb⟩; have HBz := Lib.hid (below_trans HB2.out hb); clear hb)
          go_ret
          exact ⟨rfl, HBz.out⟩
      · have HN2 := Lib.hid (HNX.out (by omega))
        have v7 : decide ((270 : Int) < (m : Int)) = false := decide_eq_false (by omega)
        clear HNX
        by_cases hm1 : 40 < m
        · have v5 : decide ((40 : Int) < (m : Int)) = true := decide_eq_true (by omega)
          have v6 : decide ((m : Int) ≤ 260) = false := decide_eq_false (by omega)
          clear hm
          go_wp2_with fail
          go_roundw
          case rel => exact ⟨k + 1, by omega, by omega, by go_num, HN2, HBr⟩
          case measure => simp [intOf]; omega
        · have v5 : decide ((40 : Int) < (m : Int)) = false := decide_eq_false (by omega)
          clear hm
          go_wp2_with fail
          go_roundw
          case rel => exact ⟨k + 1, by omega, by omega, by go_num, HN2, HBr⟩
          case measure => simp [intOf]; omega
    · have HPL := Lib.hid (show ps.length ≤ 1000 → ∀ p ∈ ps, p.1.ls.length ≤ 1000 from fun h1000 p hp => by
        obtain ⟨j, hj, rfl⟩ := List.getElem_of_mem hp
        have := HLS.out j (by omega)
        simp [gp, List.getD_eq_getElem?_getD, hj] at this
        omega)
      have hv : (decide ((k : Int) < (ps.length : Int)) && decide ((k : Int) < 41)) = false := by
        rw [Bool.and_eq_false_iff]
        by_cases e : k < ps.length
        · exact .inr (decide_eq_false (by omega))
        · exact .inl (decide_eq_false (by omega))
      have c0 := cell_below HBr.out HCC.out.1
      have c1 := cell_below HBr.out HCC.out.2
      have lw := World.block_lt_of_cell? _ _ c0
      dsimp only at lw
      clear HLS HCC
      have e1 : k < ps.length := by omega
      have v1 : decide ((k : Int) < (ps.length : Int)) = true := decide_eq_true (by omega)
      have v3 : decide (k < ps.length) = true := decide_eq_true e1
      have v2 : decide ((k : Int) < 41) = false := decide_eq_false (by omega)
      have v4 : decide (k < 41) = false := decide_eq_false (by omega)
      clear hv hlt e1
      go_wp2_with (first | (go_at_call 64; refine (HJC.out _ HB2.out).mono ?_; rintro e w3 ⟨rfl, hb⟩; have HB3 := Lib.hid (below_trans HB2.out hb); have c0 := cell_below hb c0; have c1 := cell_below hb c1; have lw := World.block_lt_of_cell? _ _ c0; clear hb) | (go_at_call 33; refine (HRC.out _ HB3.out).mono ?_; rintro e w4 ⟨rfl, hb⟩; have HB4 := Lib.hid (below_trans HB3.out hb); have c0 := cell_below hb c0; have c1 := cell_below hb c1; have lw := World.block_lt_of_cell? _ _ c0; clear hb) | (go_at_call 61; refine (HPB.out _ HB4.out).mono ?_; rintro e w5 ⟨rfl, hb⟩; have HB5 := Lib.hid (below_trans HB4.out hb); have c0 := cell_below hb c0; have c1 := cell_below hb c1; have lw := World.block_lt_of_cell? _ _ c0; clear hb) | (go_at_call 21; refine (HRE.out _ HB5.out).mono ?_; rintro e w6 ⟨rfl, hb⟩; have HB6 := Lib.hid (below_trans HB5.out hb); have c0 := cell_below hb c0; have c1 := cell_below hb c1; have lw := World.block_lt_of_cell? _ _ c0; clear hb) | (go_at_call 17; refine (sanity_any _).mono ?_; rintro e wz ⟨rfl, hb⟩; have HBz := Lib.hid (below_trans HB6.out hb); clear hb))
      go_ret
      exact ⟨rfl, HBz.out⟩
theorem joinU_len (L : Nat) : ∀ (ps : List PV) (s : List Int), (ps.foldl (fun s p => addP p.1.ls p.1.u s) s).length = s.length
  | [], s => rfl
  | p :: ps, s => by rw [List.foldl_cons, joinU_len L ps, addP_len]
theorem joinR_len (n : Int) (l : List Lk) (ps : List PV) : (joinR n l ps).1.length ≤ l.length := by
  unfold joinR
  split
  · simp
  · split
    · simp
    · split
      · simp
      · show (joinU l.length ps).length ≤ _
        unfold joinU
        rw [joinU_len l.length]
        simp
set_option maxRecDepth 100000 in
set_option maxHeartbeats 8000000 in
theorem paths_bad2_a (N : Nat) (A : Option Addr) (c : Nat) (l : List Lk) (B : Option Addr) (d : Nat) (x : List Int) (C : Option Addr) (f : Nat) (u : List Int) (LA : Option Addr) (cc : Nat) (ps : List PV) (w : World)
    (h : LksAt w A l) (h1 : IntsAt w B x) (hn1 : B = none → x.length = 0 ∧ d = 0) (h2 : IntsAt w C u) (hn2 : C = none → u.length = 0 ∧ f = 0) (hp : PthsAt w LA ps) (hs : smallB (N : Int) l.length = true) (hx60 : x.length ≤ 60) (hu300 : u.length ≤ 300) (hps : ps.length ≤ 40) (hck : checkL (N : Int) l = 0) (hf : (flowR (N : Int) l x u).2 ≠ 0) (ha : askedI (N : Int) l x ≠ 0) (hfr : (flowR (N : Int) l x u).2 = askedI (N : Int) l x) :
    Calls Try.prog 14 #[.agg #[.int .i64 (N : Int), .slice A l.length c], .slice B x.length d, .slice C u.length f, .slice LA ps.length cc] w fun e w' => e = .returned (.bool true) ∧ Below w.heap.size w w' := by
  have t3 : decide ((40 : Int) < (ps.length : Int)) = false := decide_eq_false (by omega)
  have hl2 := small_len hs
  have t1 : decide ((60 : Int) < (x.length : Int)) = false := decide_eq_false (by omega)
  have t2 : decide ((300 : Int) < (u.length : Int)) = false := decide_eq_false (by omega)
  have t5 : decide ((1010 : Int) < (ps.length : Int)) = false := decide_eq_false (by omega)
  have hok := check_ok hck
  have HRC := Lib.hid (fun W (hW : Below w.heap.size w W) => rcheck_any (N : Int) A c l W (by omega) (h.below hW))
  rw [hck] at HRC
  have HJN := Lib.hid (fun W (hW : Below w.heap.size w W) hpl => Join_any (N : Int) A c l LA cc ps W (by omega) (h.below hW) (by omega) (hp.below hW) hpl hck)
  have HRJ := Lib.hid (fun W (hW : Below w.heap.size w W) hpl => rjoin_any (N : Int) A c l LA cc ps W (by omega) (h.below hW) (by omega) (hp.below hW) hpl hok.n1 hok.n2)
  have hjl := joinR_len (N : Int) l ps
  generalize joinR (N : Int) l ps = rj at HJN HRJ hjl
  have HSM := Lib.hid (fun A3 c3 A5 c5 W (h3 : IntsAt W A3 rj.1) (h5 : IntsAt W A5 rj.1) => (show Calls Try.prog 23 #[.slice A3 rj.1.length c3, .slice A5 rj.1.length c5] W fun e w' => e = .returned (.bool true) ∧ Below W.heap.size W w' by
    have h := same_any A3 c3 rj.1 A5 c5 rj.1 W (by omega) h3 h5
    rwa [decide_eq_true (rfl : rj.1 = rj.1)] at h))
  have z1 : (rj.2 != rj.2) = false := by simp
  have z0 : ((0 : Int) != 0) = false := by decide
  have HPB := Lib.hid (fun W (hW : Below w.heap.size w W) => Paths_bad (N : Int) A c l B d x C f u W (by omega) (by omega) (by omega) (h.below hW) (h1.below hW) (h2.below hW) hn1 hf)
  have HRE := Lib.hid (fun W (hW : Below w.heap.size w W) => rerror_any (N : Int) A c l B d x W (by omega) (by omega) (h.below hW) (h1.below hW))
  have HUN := Lib.hid (fun W (hW : Below w.heap.size w W) => runits_any (N : Int) A c l C f u W (by omega) (h2.below hW))
  rw [hfr] at HPB
  generalize askedI (N : Int) l x = r at HPB HRE ha
  have hr : (r != 0) = true := by simpa using ha
  have hr1 : (r == 0) = false := by simpa using ha
  have hr3 : (r == r) = true := by simp
  clear hf hfr ha hok hjl hck HUN
  have HPT := Lib.hid hp
  clear h h1 hn1 h2 hn2 hp
  go_enter Try.func14, Try.ntmps14
  go_upto_region 3 with (go_at_call 27; refine (small_any (N : Int) A c l.length _).mono ?_; rw [hs]; rintro e w1 ⟨rfl, hb⟩; have HB1 := Lib.hid (boxed hb).1; obtain ⟨c0, c1, lw⟩ := (boxed hb).2; clear hb)
  have HCC := Lib.hid (And.intro c0 c1)
  clear c0 c1 lw
  go_wp2
  go_loopw [9] (fun i wr => ∃ k : Nat, k ≤ ps.length ∧ k ≤ 41 ∧ i = .int .i64 (k : Int) ∧ Hid (∀ j : Nat, j < k → (gp ps j).1.ls.length ≤ 270) ∧ Hid (Below w1.heap.size w1 wr)) (fun i _ => 41 - (intOf i).toNat)
  case atStart => exact ⟨0, by omega, by omega, rfl, Lib.hid (fun j hj => by omega), Lib.hid (Below.refl _ _)⟩
  case round =>
    obtain ⟨k, hk, hk41, rfl, HLS, HBr⟩ := hrel
    have HB2 := Lib.hid (below_trans HB1.out HBr.out)
    by_cases hlt : k < ps.length ∧ k < 41
    · obtain ⟨hlt, hk40⟩ := hlt
      have v1 : decide ((k : Int) < (ps.length : Int)) = true := decide_eq_true (by omega)
      have v2 : decide ((k : Int) < 41) = true := decide_eq_true (by omega)
      have v3 : decide (k < ps.length) = true := decide_eq_true hlt
      have v4 : decide (k < 41) = true := decide_eq_true hk40
      obtain ⟨b, o, rfl, p0, p1, p2, p3, LB, cb, hx2, hin⟩ := (HPT.out.below HB2.out) k hlt
      rw [hx2] at p2
      have HNX := Lib.hid (fun (hh : (gp ps k).1.ls.length ≤ 270) => (show ∀ j : Nat, j < k + 1 → (gp ps j).1.ls.length ≤ 270 from fun j hj => by
        by_cases e : j = k
        · subst e; exact hh
        · exact HLS.out j (by omega)))
      clear hin hx2 p0 p1 p3
      generalize (gp ps k).1.ls.length = m at *
      have lb := World.block_lt_of_cell? _ _ p2
      dsimp only at lb
      have i0 : (0 : Int) ≤ (k : Int) := by omega
      have i1 : (k : Int) < (ps.length : Int) := by omega
      by_cases hm : (40 < m ∧ m ≤ 260) ∨ 270 < m
      · rcases hm with ⟨hm1, hm2⟩ | hm3
        · have v5 : decide ((40 : Int) < (m : Int)) = true := decide_eq_true (by omega)
          have v6 : decide ((m : Int) ≤ 260) = true := decide_eq_true (by omega)
          clear HNX
          go_wp2_with (go_at_call 17; refine (sanity_any _).mono ?_; rintro e wz ⟨rfl, hb⟩; have HBz := Lib.hid (below_trans HB2.out hb); clear hb)
          go_ret
          exact ⟨rfl, HBz.out⟩
        · have v5 : decide ((40 : Int) < (m : Int)) = true := decide_eq_true (by omega)
          have v6 : decide ((m : Int) ≤ 260) = false := decide_eq_false (by omega)
          have v7 : decide ((270 : Int) < (m : Int)) = true := decide_eq_true (by omega)
          clear HNX
          go_wp2_with (go_at_call 17; refine (sanity_any _).mono ?_; rintro e wz ⟨rfl, hb⟩; have HBz := Lib.hid (below_trans HB2.out hb); clear hb)
          go_ret
          exact ⟨rfl, HBz.out⟩
      · have HN2 := Lib.hid (HNX.out (by omega))
        have v7 : decide ((270 : Int) < (m : Int)) = false := decide_eq_false (by omega)
        clear HNX
        by_cases hm1 : 40 < m
        · have v5 : decide ((40 : Int) < (m : Int)) = true := decide_eq_true (by omega)
          have v6 : decide ((m : Int) ≤ 260) = false := decide_eq_false (by omega)
          clear hm
          go_wp2_with fail
          go_roundw
          case rel => exact ⟨k + 1, by omega, by omega, by go_num, HN2, HBr⟩
          case measure => simp [intOf]; omega
        · have v5 : decide ((40 : Int) < (m : Int)) = false := decide_eq_false (by omega)
          clear hm
          go_wp2_with fail
          go_roundw
          case rel => exact ⟨k + 1, by omega, by omega, by go_num, HN2, HBr⟩
          case measure => simp [intOf]; omega
    · have HPL := Lib.hid (show ps.length ≤ 1000 → ∀ p ∈ ps, p.1.ls.length ≤ 1000 from fun h1000 p hp => by
        obtain ⟨j, hj, rfl⟩ := List.getElem_of_mem hp
        have := HLS.out j (by omega)
        simp [gp, List.getD_eq_getElem?_getD, hj] at this
        omega)
      have hv : (decide ((k : Int) < (ps.length : Int)) && decide ((k : Int) < 41)) = false := by
        rw [Bool.and_eq_false_iff]
        by_cases e : k < ps.length
        · exact .inr (decide_eq_false (by omega))
        · exact .inl (decide_eq_false (by omega))
      have c0 := cell_below HBr.out HCC.out.1
      have c1 := cell_below HBr.out HCC.out.2
      have lw := World.block_lt_of_cell? _ _ c0
      dsimp only at lw
      clear HLS HCC
      have e1 : ¬ k < ps.length := by omega
      have v1 : decide ((k : Int) < (ps.length : Int)) = false := decide_eq_false (by omega)
      have v3 : decide (k < ps.length) = false := decide_eq_false e1
      clear hv hlt e1
      go_wp2_with (first | (go_at_call 64; refine (HJN.out _ HB2.out HPL.out).mono ?_; rintro e w3 ⟨v3, rfl, hv3, hb⟩; have HB3 := Lib.hid (below_trans HB2.out hb); have c0 := cell_below hb c0; have c1 := cell_below hb c1; have lw := World.block_lt_of_cell? _ _ c0; obtain ⟨A3, c3, rfl, hi3, -⟩ := hv3; have HI3 := Lib.hid hi3; clear hi3; clear hb) | (go_at_call 33; refine (HRC.out _ HB3.out).mono ?_; rintro e w4 ⟨rfl, hb⟩; have HB4 := Lib.hid (below_trans HB3.out hb); have c0 := cell_below hb c0; have c1 := cell_below hb c1; have lw := World.block_lt_of_cell? _ _ c0; have HI4 := Lib.hid (HI3.out.below hb); clear hb) | (go_at_call 65; refine (HRJ.out _ HB4.out HPL.out).mono ?_; rintro e w5 ⟨v5, rfl, hv5, hb⟩; have HB5 := Lib.hid (below_trans HB4.out hb); have c0 := cell_below hb c0; have c1 := cell_below hb c1; have lw := World.block_lt_of_cell? _ _ c0; obtain ⟨A5, c5, rfl, hi5, -⟩ := hv5; have HI5 := Lib.hid (And.intro (HI4.out.below hb) hi5); clear hi5; clear hb) | (go_at_call 23; refine (HSM.out _ _ _ _ _ HI5.out.1 HI5.out.2).mono ?_; rintro e w6 ⟨rfl, hb⟩; have HB6 := Lib.hid (below_trans HB5.out hb); have c0 := cell_below hb c0; have c1 := cell_below hb c1; have lw := World.block_lt_of_cell? _ _ c0; clear hb) | (go_at_call 61; refine (HPB.out _ HB6.out).mono ?_; rintro e w7 ⟨rfl, hb⟩; have HB7 := Lib.hid (below_trans HB6.out hb); have c0 := cell_below hb c0; have c1 := cell_below hb c1; have lw := World.block_lt_of_cell? _ _ c0; clear hb) | (go_at_call 21; refine (HRE.out _ HB7.out).mono ?_; rintro e w8 ⟨rfl, hb⟩; have HB8 := Lib.hid (below_trans HB7.out hb); have c0 := cell_below hb c0; have c1 := cell_below hb c1; have lw := World.block_lt_of_cell? _ _ c0; clear hb) | (go_at_call 17; refine (sanity_any _).mono ?_; rintro e wz ⟨rfl, hb⟩; have HBz := Lib.hid (below_trans HB8.out hb); clear hb))
      go_ret
      exact ⟨rfl, HBz.out⟩
set_option maxRecDepth 100000 in
set_option maxHeartbeats 8000000 in
theorem paths_bad2_b (N : Nat) (A : Option Addr) (c : Nat) (l : List Lk) (B : Option Addr) (d : Nat) (x : List Int) (C : Option Addr) (f : Nat) (u : List Int) (LA : Option Addr) (cc : Nat) (ps : List PV) (w : World)
    (h : LksAt w A l) (h1 : IntsAt w B x) (hn1 : B = none → x.length = 0 ∧ d = 0) (h2 : IntsAt w C u) (hn2 : C = none → u.length = 0 ∧ f = 0) (hp : PthsAt w LA ps) (hs : smallB (N : Int) l.length = true) (hx60 : x.length ≤ 60) (hu300 : u.length ≤ 300) (hps : 1000 < ps.length) (hps2 : ps.length ≤ 1010) (hck : checkL (N : Int) l = 0) (hf : (flowR (N : Int) l x u).2 ≠ 0) (ha : askedI (N : Int) l x ≠ 0) (hfr : (flowR (N : Int) l x u).2 = askedI (N : Int) l x) :
    Calls Try.prog 14 #[.agg #[.int .i64 (N : Int), .slice A l.length c], .slice B x.length d, .slice C u.length f, .slice LA ps.length cc] w fun e w' => e = .returned (.bool true) ∧ Below w.heap.size w w' := by
  have t3 : decide ((40 : Int) < (ps.length : Int)) = true := decide_eq_true (by omega)
  have t4 : decide ((ps.length : Int) ≤ 1000) = false := decide_eq_false (by omega)
  have hl2 := small_len hs
  have t1 : decide ((60 : Int) < (x.length : Int)) = false := decide_eq_false (by omega)
  have t2 : decide ((300 : Int) < (u.length : Int)) = false := decide_eq_false (by omega)
  have t5 : decide ((1010 : Int) < (ps.length : Int)) = false := decide_eq_false (by omega)
  have hok := check_ok hck
  have HRC := Lib.hid (fun W (hW : Below w.heap.size w W) => rcheck_any (N : Int) A c l W (by omega) (h.below hW))
  rw [hck] at HRC
  have HJN := Lib.hid (fun W (hW : Below w.heap.size w W) hpl => Join_any (N : Int) A c l LA cc ps W (by omega) (h.below hW) (by omega) (hp.below hW) hpl hck)
  have HRJ := Lib.hid (fun W (hW : Below w.heap.size w W) hpl => rjoin_any (N : Int) A c l LA cc ps W (by omega) (h.below hW) (by omega) (hp.below hW) hpl hok.n1 hok.n2)
  have hjl := joinR_len (N : Int) l ps
  generalize joinR (N : Int) l ps = rj at HJN HRJ hjl
  have HSM := Lib.hid (fun A3 c3 A5 c5 W (h3 : IntsAt W A3 rj.1) (h5 : IntsAt W A5 rj.1) => (show Calls Try.prog 23 #[.slice A3 rj.1.length c3, .slice A5 rj.1.length c5] W fun e w' => e = .returned (.bool true) ∧ Below W.heap.size W w' by
    have h := same_any A3 c3 rj.1 A5 c5 rj.1 W (by omega) h3 h5
    rwa [decide_eq_true (rfl : rj.1 = rj.1)] at h))
  have z1 : (rj.2 != rj.2) = false := by simp
  have z0 : ((0 : Int) != 0) = false := by decide
  have HPB := Lib.hid (fun W (hW : Below w.heap.size w W) => Paths_bad (N : Int) A c l B d x C f u W (by omega) (by omega) (by omega) (h.below hW) (h1.below hW) (h2.below hW) hn1 hf)
  have HRE := Lib.hid (fun W (hW : Below w.heap.size w W) => rerror_any (N : Int) A c l B d x W (by omega) (by omega) (h.below hW) (h1.below hW))
  have HUN := Lib.hid (fun W (hW : Below w.heap.size w W) => runits_any (N : Int) A c l C f u W (by omega) (h2.below hW))
  rw [hfr] at HPB
  generalize askedI (N : Int) l x = r at HPB HRE ha
  have hr : (r != 0) = true := by simpa using ha
  have hr1 : (r == 0) = false := by simpa using ha
  have hr3 : (r == r) = true := by simp
  clear hf hfr ha hok hjl hck HUN
  have HPT := Lib.hid hp
  clear h h1 hn1 h2 hn2 hp
  go_enter Try.func14, Try.ntmps14
  go_upto_region 3 with (go_at_call 27; refine (small_any (N : Int) A c l.length _).mono ?_; rw [hs]; rintro e w1 ⟨rfl, hb⟩; have HB1 := Lib.hid (boxed hb).1; obtain ⟨c0, c1, lw⟩ := (boxed hb).2; clear hb)
  have HCC := Lib.hid (And.intro c0 c1)
  clear c0 c1 lw
  go_wp2
  go_loopw [9] (fun i wr => ∃ k : Nat, k ≤ ps.length ∧ k ≤ 41 ∧ i = .int .i64 (k : Int) ∧ Hid (∀ j : Nat, j < k → (gp ps j).1.ls.length ≤ 270) ∧ Hid (Below w1.heap.size w1 wr)) (fun i _ => 41 - (intOf i).toNat)
  case atStart => exact ⟨0, by omega, by omega, rfl, Lib.hid (fun j hj => by omega), Lib.hid (Below.refl _ _)⟩
  case round =>
    obtain ⟨k, hk, hk41, rfl, HLS, HBr⟩ := hrel
    have HB2 := Lib.hid (below_trans HB1.out HBr.out)
    by_cases hlt : k < ps.length ∧ k < 41
    · obtain ⟨hlt, hk40⟩ := hlt
      have v1 : decide ((k : Int) < (ps.length : Int)) = true := decide_eq_true (by omega)
      have v2 : decide ((k : Int) < 41) = true := decide_eq_true (by omega)
      have v3 : decide (k < ps.length) = true := decide_eq_true hlt
      have v4 : decide (k < 41) = true := decide_eq_true hk40
      obtain ⟨b, o, rfl, p0, p1, p2, p3, LB, cb, hx2, hin⟩ := (HPT.out.below HB2.out) k hlt
      rw [hx2] at p2
      have HNX := Lib.hid (fun (hh : (gp ps k).1.ls.length ≤ 270) => (show ∀ j : Nat, j < k + 1 → (gp ps j).1.ls.length ≤ 270 from fun j hj => by
        by_cases e : j = k
        · subst e; exact hh
        · exact HLS.out j (by omega)))
      clear hin hx2 p0 p1 p3
      generalize (gp ps k).1.ls.length = m at *
      have lb := World.block_lt_of_cell? _ _ p2
      dsimp only at lb
      have i0 : (0 : Int) ≤ (k : Int) := by omega
      have i1 : (k : Int) < (ps.length : Int) := by omega
      by_cases hm : (40 < m ∧ m ≤ 260) ∨ 270 < m
      · rcases hm with ⟨hm1, hm2⟩ | hm3
        · have v5 : decide ((40 : Int) < (m : Int)) = true := decide_eq_true (by omega)
          have v6 : decide ((m : Int) ≤ 260) = true := decide_eq_true (by omega)
          clear HNX
          go_wp2_with (go_at_call 17; refine (sanity_any _).mono ?_; rintro e wz ⟨rfl, hb⟩; have HBz := Lib.hid (below_trans HB2.out hb); clear hb)
          go_ret
          exact ⟨rfl, HBz.out⟩
        · have v5 : decide ((40 : Int) < (m : Int)) = true := decide_eq_true (by omega)
          have v6 : decide ((m : Int) ≤ 260) = false := decide_eq_false (by omega)
          have v7 : decide ((270 : Int) < (m : Int)) = true := decide_eq_true (by omega)
          clear HNX
          go_wp2_with (go_at_call 17; refine (sanity_any _).mono ?_; rintro e wz ⟨rfl, hb⟩; have HBz := Lib.hid (below_trans HB2.out hb); clear hb)
          go_ret
          exact ⟨rfl, HBz.out⟩
      · have HN2 := Lib.hid (HNX.out (by omega))
        have v7 : decide ((270 : Int) < (m : Int)) = false := decide_eq_false (by omega)
        clear HNX
        by_cases hm1 : 40 < m
        · have v5 : decide ((40 : Int) < (m : Int)) = true := decide_eq_true (by omega)
          have v6 : decide ((m : Int) ≤ 260) = false := decide_eq_false (by omega)
          clear hm
          go_wp2_with fail
          go_roundw
          case rel => exact ⟨k + 1, by omega, by omega, by go_num, HN2, HBr⟩
          case measure => simp [intOf]; omega
        · have v5 : decide ((40 : Int) < (m : Int)) = false := decide_eq_false (by omega)
          clear hm
          go_wp2_with fail
          go_roundw
          case rel => exact ⟨k + 1, by omega, by omega, by go_num, HN2, HBr⟩
          case measure => simp [intOf]; omega
    · have HPL := Lib.hid (show ps.length ≤ 1000 → ∀ p ∈ ps, p.1.ls.length ≤ 1000 from fun h1000 p hp => by
        obtain ⟨j, hj, rfl⟩ := List.getElem_of_mem hp
        have := HLS.out j (by omega)
        simp [gp, List.getD_eq_getElem?_getD, hj] at this
        omega)
      have hv : (decide ((k : Int) < (ps.length : Int)) && decide ((k : Int) < 41)) = false := by
        rw [Bool.and_eq_false_iff]
        by_cases e : k < ps.length
        · exact .inr (decide_eq_false (by omega))
        · exact .inl (decide_eq_false (by omega))
      have c0 := cell_below HBr.out HCC.out.1
      have c1 := cell_below HBr.out HCC.out.2
      have lw := World.block_lt_of_cell? _ _ c0
      dsimp only at lw
      clear HLS HCC
      have e1 : k < ps.length := by omega
      have v1 : decide ((k : Int) < (ps.length : Int)) = true := decide_eq_true (by omega)
      have v3 : decide (k < ps.length) = true := decide_eq_true e1
      have v2 : decide ((k : Int) < 41) = false := decide_eq_false (by omega)
      have v4 : decide (k < 41) = false := decide_eq_false (by omega)
      clear hv hlt e1
      go_wp2_with (first | (go_at_call 64; refine (HJN.out _ HB2.out HPL.out).mono ?_; rintro e w3 ⟨v3, rfl, hv3, hb⟩; have HB3 := Lib.hid (below_trans HB2.out hb); have c0 := cell_below hb c0; have c1 := cell_below hb c1; have lw := World.block_lt_of_cell? _ _ c0; obtain ⟨A3, c3, rfl, hi3, -⟩ := hv3; have HI3 := Lib.hid hi3; clear hi3; clear hb) | (go_at_call 33; refine (HRC.out _ HB3.out).mono ?_; rintro e w4 ⟨rfl, hb⟩; have HB4 := Lib.hid (below_trans HB3.out hb); have c0 := cell_below hb c0; have c1 := cell_below hb c1; have lw := World.block_lt_of_cell? _ _ c0; have HI4 := Lib.hid (HI3.out.below hb); clear hb) | (go_at_call 65; refine (HRJ.out _ HB4.out HPL.out).mono ?_; rintro e w5 ⟨v5, rfl, hv5, hb⟩; have HB5 := Lib.hid (below_trans HB4.out hb); have c0 := cell_below hb c0; have c1 := cell_below hb c1; have lw := World.block_lt_of_cell? _ _ c0; obtain ⟨A5, c5, rfl, hi5, -⟩ := hv5; have HI5 := Lib.hid (And.intro (HI4.out.below hb) hi5); clear hi5; clear hb) | (go_at_call 23; refine (HSM.out _ _ _ _ _ HI5.out.1 HI5.out.2).mono ?_; rintro e w6 ⟨rfl, hb⟩; have HB6 := Lib.hid (below_trans HB5.out hb); have c0 := cell_below hb c0; have c1 := cell_below hb c1; have lw := World.block_lt_of_cell? _ _ c0; clear hb) | (go_at_call 61; refine (HPB.out _ HB6.out).mono ?_; rintro e w7 ⟨rfl, hb⟩; have HB7 := Lib.hid (below_trans HB6.out hb); have c0 := cell_below hb c0; have c1 := cell_below hb c1; have lw := World.block_lt_of_cell? _ _ c0; clear hb) | (go_at_call 21; refine (HRE.out _ HB7.out).mono ?_; rintro e w8 ⟨rfl, hb⟩; have HB8 := Lib.hid (below_trans HB7.out hb); have c0 := cell_below hb c0; have c1 := cell_below hb c1; have lw := World.block_lt_of_cell? _ _ c0; clear hb) | (go_at_call 17; refine (sanity_any _).mono ?_; rintro e wz ⟨rfl, hb⟩; have HBz := Lib.hid (below_trans HB8.out hb); clear hb))
      go_ret
      exact ⟨rfl, HBz.out⟩
set_option maxRecDepth 100000 in
set_option maxHeartbeats 8000000 in
theorem paths_bad3_a (N : Nat) (A : Option Addr) (c : Nat) (l : List Lk) (B : Option Addr) (d : Nat) (x : List Int) (C : Option Addr) (f : Nat) (u : List Int) (LA : Option Addr) (cc : Nat) (ps : List PV) (w : World)
    (h : LksAt w A l) (h1 : IntsAt w B x) (hn1 : B = none → x.length = 0 ∧ d = 0) (h2 : IntsAt w C u) (hn2 : C = none → u.length = 0 ∧ f = 0) (hp : PthsAt w LA ps) (hs : smallB (N : Int) l.length = true) (hx60 : x.length ≤ 60) (hu300 : u.length ≤ 300) (hps : ps.length ≤ 40) (hck : checkL (N : Int) l = 0) (hf : (flowR (N : Int) l x u).2 ≠ 0) (ha : askedI (N : Int) l x = 0) (hi : isFlowI l u ≠ 0) (hfr : (flowR (N : Int) l x u).2 = isFlowI l u) :
    Calls Try.prog 14 #[.agg #[.int .i64 (N : Int), .slice A l.length c], .slice B x.length d, .slice C u.length f, .slice LA ps.length cc] w fun e w' => e = .returned (.bool true) ∧ Below w.heap.size w w' := by
  have t3 : decide ((40 : Int) < (ps.length : Int)) = false := decide_eq_false (by omega)
  have hl2 := small_len hs
  have t1 : decide ((60 : Int) < (x.length : Int)) = false := decide_eq_false (by omega)
  have t2 : decide ((300 : Int) < (u.length : Int)) = false := decide_eq_false (by omega)
  have t5 : decide ((1010 : Int) < (ps.length : Int)) = false := decide_eq_false (by omega)
  have hok := check_ok hck
  have HRC := Lib.hid (fun W (hW : Below w.heap.size w W) => rcheck_any (N : Int) A c l W (by omega) (h.below hW))
  rw [hck] at HRC
  have HJN := Lib.hid (fun W (hW : Below w.heap.size w W) hpl => Join_any (N : Int) A c l LA cc ps W (by omega) (h.below hW) (by omega) (hp.below hW) hpl hck)
  have HRJ := Lib.hid (fun W (hW : Below w.heap.size w W) hpl => rjoin_any (N : Int) A c l LA cc ps W (by omega) (h.below hW) (by omega) (hp.below hW) hpl hok.n1 hok.n2)
  have hjl := joinR_len (N : Int) l ps
  generalize joinR (N : Int) l ps = rj at HJN HRJ hjl
  have HSM := Lib.hid (fun A3 c3 A5 c5 W (h3 : IntsAt W A3 rj.1) (h5 : IntsAt W A5 rj.1) => (show Calls Try.prog 23 #[.slice A3 rj.1.length c3, .slice A5 rj.1.length c5] W fun e w' => e = .returned (.bool true) ∧ Below W.heap.size W w' by
    have h := same_any A3 c3 rj.1 A5 c5 rj.1 W (by omega) h3 h5
    rwa [decide_eq_true (rfl : rj.1 = rj.1)] at h))
  have z1 : (rj.2 != rj.2) = false := by simp
  have z0 : ((0 : Int) != 0) = false := by decide
  have HPB := Lib.hid (fun W (hW : Below w.heap.size w W) => Paths_bad (N : Int) A c l B d x C f u W (by omega) (by omega) (by omega) (h.below hW) (h1.below hW) (h2.below hW) hn1 hf)
  have HRE := Lib.hid (fun W (hW : Below w.heap.size w W) => rerror_any (N : Int) A c l B d x W (by omega) (by omega) (h.below hW) (h1.below hW))
  have HUN := Lib.hid (fun W (hW : Below w.heap.size w W) => runits_any (N : Int) A c l C f u W (by omega) (h2.below hW))
  rw [hfr] at HPB
  rw [ha] at HRE
  generalize isFlowI l u = r at HPB HUN hi
  have hr : (r != 0) = true := by simpa using hi
  have hr1 : (r == 0) = false := by simpa using hi
  have hr3 : (r == r) = true := by simp
  clear hf hfr ha hi hok hjl hck
  have HPT := Lib.hid hp
  clear h h1 hn1 h2 hn2 hp
  go_enter Try.func14, Try.ntmps14
  go_upto_region 3 with (go_at_call 27; refine (small_any (N : Int) A c l.length _).mono ?_; rw [hs]; rintro e w1 ⟨rfl, hb⟩; have HB1 := Lib.hid (boxed hb).1; obtain ⟨c0, c1, lw⟩ := (boxed hb).2; clear hb)
  have HCC := Lib.hid (And.intro c0 c1)
  clear c0 c1 lw
  go_wp2
  go_loopw [9] (fun i wr => ∃ k : Nat, k ≤ ps.length ∧ k ≤ 41 ∧ i = .int .i64 (k : Int) ∧ Hid (∀ j : Nat, j < k → (gp ps j).1.ls.length ≤ 270) ∧ Hid (Below w1.heap.size w1 wr)) (fun i _ => 41 - (intOf i).toNat)
  case atStart => exact ⟨0, by omega, by omega, rfl, Lib.hid (fun j hj => by omega), Lib.hid (Below.refl _ _)⟩
  case round =>
    obtain ⟨k, hk, hk41, rfl, HLS, HBr⟩ := hrel
    have HB2 := Lib.hid (below_trans HB1.out HBr.out)
    by_cases hlt : k < ps.length ∧ k < 41
    · obtain ⟨hlt, hk40⟩ := hlt
      have v1 : decide ((k : Int) < (ps.length : Int)) = true := decide_eq_true (by omega)
      have v2 : decide ((k : Int) < 41) = true := decide_eq_true (by omega)
      have v3 : decide (k < ps.length) = true := decide_eq_true hlt
      have v4 : decide (k < 41) = true := decide_eq_true hk40
      obtain ⟨b, o, rfl, p0, p1, p2, p3, LB, cb, hx2, hin⟩ := (HPT.out.below HB2.out) k hlt
      rw [hx2] at p2
      have HNX := Lib.hid (fun (hh : (gp ps k).1.ls.length ≤ 270) => (show ∀ j : Nat, j < k + 1 → (gp ps j).1.ls.length ≤ 270 from fun j hj => by
        by_cases e : j = k
        · subst e; exact hh
        · exact HLS.out j (by omega)))
      clear hin hx2 p0 p1 p3
      generalize (gp ps k).1.ls.length = m at *
      have lb := World.block_lt_of_cell? _ _ p2
      dsimp only at lb
      have i0 : (0 : Int) ≤ (k : Int) := by omega
      have i1 : (k : Int) < (ps.length : Int) := by omega
      by_cases hm : (40 < m ∧ m ≤ 260) ∨ 270 < m
      · rcases hm with ⟨hm1, hm2⟩ | hm3
        · have v5 : decide ((40 : Int) < (m : Int)) = true := decide_eq_true (by omega)
          have v6 : decide ((m : Int) ≤ 260) = true := decide_eq_true (by omega)
          clear HNX
          go_wp2_with (go_at_call 17; refine (sanity_any _).mono ?_; rintro e wz ⟨rfl, hb⟩; have HBz := Lib.hid (below_trans HB2.out hb); clear hb)
          go_ret
          exact ⟨rfl, HBz.out⟩
        · have v5 : decide ((40 : Int) < (m : Int)) = true := decide_eq_true (by omega)
          have v6 : decide ((m : Int) ≤ 260) = false := decide_eq_false (by omega)
          have v7 : decide ((270 : Int) < (m : Int)) = true := decide_eq_true (by omega)
          clear HNX
          go_wp2_with (go_at_call 17; refine (sanity_any _).mono ?_; rintro e wz ⟨rfl, hb⟩; have HBz := Lib.hid (below_trans HB2.out hb); clear hb)
          go_ret
          exact ⟨rfl, HBz.out⟩
      · have HN2 := Lib.hid (HNX.out (by omega))
        have v7 : decide ((270 : Int) < (m : Int)) = false := decide_eq_false (by omega)
        clear HNX
        by_cases hm1 : 40 < m
        · have v5 : decide ((40 : Int) < (m : Int)) = true := decide_eq_true (by omega)
          have v6 : decide ((m : Int) ≤ 260) = false := decide_eq_false (by omega)
          clear hm
          go_wp2_with fail
          go_roundw
          case rel => exact ⟨k + 1, by omega, by omega, by go_num, HN2, HBr⟩
          case measure => simp [intOf]; omega
        · have v5 : decide ((40 : Int) < (m : Int)) = false := decide_eq_false (by omega)
          clear hm
          go_wp2_with fail
          go_roundw
          case rel => exact ⟨k + 1, by omega, by omega, by go_num, HN2, HBr⟩
          case measure => simp [intOf]; omega
    · have HPL := Lib.hid (show ps.length ≤ 1000 → ∀ p ∈ ps, p.1.ls.length ≤ 1000 from fun h1000 p hp => by
        obtain ⟨j, hj, rfl⟩ := List.getElem_of_mem hp
        have := HLS.out j (by omega)
        simp [gp, List.getD_eq_getElem?_getD, hj] at this
        omega)
      have hv : (decide ((k : Int) < (ps.length : Int)) && decide ((k : Int) < 41)) = false := by
        rw [Bool.and_eq_false_iff]
        by_cases e : k < ps.length
        · exact .inr (decide_eq_false (by omega))
        · exact .inl (decide_eq_false (by omega))
      have c0 := cell_below HBr.out HCC.out.1
      have c1 := cell_below HBr.out HCC.out.2
      have lw := World.block_lt_of_cell? _ _ c0
      dsimp only at lw
      clear HLS HCC
      have e1 : ¬ k < ps.length := by omega
      have v1 : decide ((k : Int) < (ps.length : Int)) = false := decide_eq_false (by omega)
      have v3 : decide (k < ps.length) = false := decide_eq_false e1
      clear hv hlt e1
      go_wp2_with (first | (go_at_call 64; refine (HJN.out _ HB2.out HPL.out).mono ?_; rintro e w3 ⟨v3, rfl, hv3, hb⟩; have HB3 := Lib.hid (below_trans HB2.out hb); have c0 := cell_below hb c0; have c1 := cell_below hb c1; have lw := World.block_lt_of_cell? _ _ c0; obtain ⟨A3, c3, rfl, hi3, -⟩ := hv3; have HI3 := Lib.hid hi3; clear hi3; clear hb) | (go_at_call 33; refine (HRC.out _ HB3.out).mono ?_; rintro e w4 ⟨rfl, hb⟩; have HB4 := Lib.hid (below_trans HB3.out hb); have c0 := cell_below hb c0; have c1 := cell_below hb c1; have lw := World.block_lt_of_cell? _ _ c0; have HI4 := Lib.hid (HI3.out.below hb); clear hb) | (go_at_call 65; refine (HRJ.out _ HB4.out HPL.out).mono ?_; rintro e w5 ⟨v5, rfl, hv5, hb⟩; have HB5 := Lib.hid (below_trans HB4.out hb); have c0 := cell_below hb c0; have c1 := cell_below hb c1; have lw := World.block_lt_of_cell? _ _ c0; obtain ⟨A5, c5, rfl, hi5, -⟩ := hv5; have HI5 := Lib.hid (And.intro (HI4.out.below hb) hi5); clear hi5; clear hb) | (go_at_call 23; refine (HSM.out _ _ _ _ _ HI5.out.1 HI5.out.2).mono ?_; rintro e w6 ⟨rfl, hb⟩; have HB6 := Lib.hid (below_trans HB5.out hb); have c0 := cell_below hb c0; have c1 := cell_below hb c1; have lw := World.block_lt_of_cell? _ _ c0; clear hb) | (go_at_call 61; refine (HPB.out _ HB6.out).mono ?_; rintro e w7 ⟨rfl, hb⟩; have HB7 := Lib.hid (below_trans HB6.out hb); have c0 := cell_below hb c0; have c1 := cell_below hb c1; have lw := World.block_lt_of_cell? _ _ c0; clear hb) | (go_at_call 21; refine (HRE.out _ HB7.out).mono ?_; rintro e w8 ⟨rfl, hb⟩; have HB8 := Lib.hid (below_trans HB7.out hb); have c0 := cell_below hb c0; have c1 := cell_below hb c1; have lw := World.block_lt_of_cell? _ _ c0; clear hb) | (go_at_call 48; refine (HUN.out _ HB8.out).mono ?_; rintro e w9 ⟨rfl, hb⟩; have HB9 := Lib.hid (below_trans HB8.out hb); have c0 := cell_below hb c0; have c1 := cell_below hb c1; have lw := World.block_lt_of_cell? _ _ c0; clear hb) | (go_at_call 17; refine (sanity_any _).mono ?_; rintro e wz ⟨rfl, hb⟩; have HBz := Lib.hid (below_trans HB9.out hb); clear hb))
      go_ret
      exact ⟨rfl, HBz.out⟩
set_option maxRecDepth 100000 in
set_option maxHeartbeats 8000000 in
theorem paths_bad3_b (N : Nat) (A : Option Addr) (c : Nat) (l : List Lk) (B : Option Addr) (d : Nat) (x : List Int) (C : Option Addr) (f : Nat) (u : List Int) (LA : Option Addr) (cc : Nat) (ps : List PV) (w : World)
    (h : LksAt w A l) (h1 : IntsAt w B x) (hn1 : B = none → x.length = 0 ∧ d = 0) (h2 : IntsAt w C u) (hn2 : C = none → u.length = 0 ∧ f = 0) (hp : PthsAt w LA ps) (hs : smallB (N : Int) l.length = true) (hx60 : x.length ≤ 60) (hu300 : u.length ≤ 300) (hps : 1000 < ps.length) (hps2 : ps.length ≤ 1010) (hck : checkL (N : Int) l = 0) (hf : (flowR (N : Int) l x u).2 ≠ 0) (ha : askedI (N : Int) l x = 0) (hi : isFlowI l u ≠ 0) (hfr : (flowR (N : Int) l x u).2 = isFlowI l u) :
    Calls Try.prog 14 #[.agg #[.int .i64 (N : Int), .slice A l.length c], .slice B x.length d, .slice C u.length f, .slice LA ps.length cc] w fun e w' => e = .returned (.bool true) ∧ Below w.heap.size w w' := by
  have t3 : decide ((40 : Int) < (ps.length : Int)) = true := decide_eq_true (by omega)
  have t4 : decide ((ps.length : Int) ≤ 1000) = false := decide_eq_false (by omega)
  have hl2 := small_len hs
  have t1 : decide ((60 : Int) < (x.length : Int)) = false := decide_eq_false (by omega)
  have t2 : decide ((300 : Int) < (u.length : Int)) = false := decide_eq_false (by omega)
  have t5 : decide ((1010 : Int) < (ps.length : Int)) = false := decide_eq_false (by omega)
  have hok := check_ok hck
  have HRC := Lib.hid (fun W (hW : Below w.heap.size w W) => rcheck_any (N : Int) A c l W (by omega) (h.below hW))
  rw [hck] at HRC
  have HJN := Lib.hid (fun W (hW : Below w.heap.size w W) hpl => Join_any (N : Int) A c l LA cc ps W (by omega) (h.below hW) (by omega) (hp.below hW) hpl hck)
  have HRJ := Lib.hid (fun W (hW : Below w.heap.size w W) hpl => rjoin_any (N : Int) A c l LA cc ps W (by omega) (h.below hW) (by omega) (hp.below hW) hpl hok.n1 hok.n2)
  have hjl := joinR_len (N : Int) l ps
  generalize joinR (N : Int) l ps = rj at HJN HRJ hjl
  have HSM := Lib.hid (fun A3 c3 A5 c5 W (h3 : IntsAt W A3 rj.1) (h5 : IntsAt W A5 rj.1) => (show Calls Try.prog 23 #[.slice A3 rj.1.length c3, .slice A5 rj.1.length c5] W fun e w' => e = .returned (.bool true) ∧ Below W.heap.size W w' by
    have h := same_any A3 c3 rj.1 A5 c5 rj.1 W (by omega) h3 h5
    rwa [decide_eq_true (rfl : rj.1 = rj.1)] at h))
  have z1 : (rj.2 != rj.2) = false := by simp
  have z0 : ((0 : Int) != 0) = false := by decide
  have HPB := Lib.hid (fun W (hW : Below w.heap.size w W) => Paths_bad (N : Int) A c l B d x C f u W (by omega) (by omega) (by omega) (h.below hW) (h1.below hW) (h2.below hW) hn1 hf)
  have HRE := Lib.hid (fun W (hW : Below w.heap.size w W) => rerror_any (N : Int) A c l B d x W (by omega) (by omega) (h.below hW) (h1.below hW))
  have HUN := Lib.hid (fun W (hW : Below w.heap.size w W) => runits_any (N : Int) A c l C f u W (by omega) (h2.below hW))
  rw [hfr] at HPB
  rw [ha] at HRE
  generalize isFlowI l u = r at HPB HUN hi
  have hr : (r != 0) = true := by simpa using hi
  have hr1 : (r == 0) = false := by simpa using hi
  have hr3 : (r == r) = true := by simp
  clear hf hfr ha hi hok hjl hck
  have HPT := Lib.hid hp
  clear h h1 hn1 h2 hn2 hp
  go_enter Try.func14, Try.ntmps14
  go_upto_region 3 with (go_at_call 27; refine (small_any (N : Int) A c l.length _).mono ?_; rw [hs]; rintro e w1 ⟨rfl, hb⟩; have HB1 := Lib.hid (boxed hb).1; obtain ⟨c0, c1, lw⟩ := (boxed hb).2; clear hb)
  have HCC := Lib.hid (And.intro c0 c1)
  clear c0 c1 lw
  go_wp2
  go_loopw [9] (fun i wr => ∃ k : Nat, k ≤ ps.length ∧ k ≤ 41 ∧ i = .int .i64 (k : Int) ∧ Hid (∀ j : Nat, j < k → (gp ps j).1.ls.length ≤ 270) ∧ Hid (Below w1.heap.size w1 wr)) (fun i _ => 41 - (intOf i).toNat)
  case atStart => exact ⟨0, by omega, by omega, rfl, Lib.hid (fun j hj => by omega), Lib.hid (Below.refl _ _)⟩
  case round =>
    obtain ⟨k, hk, hk41, rfl, HLS, HBr⟩ := hrel
    have HB2 := Lib.hid (below_trans HB1.out HBr.out)
    by_cases hlt : k < ps.length ∧ k < 41
    · obtain ⟨hlt, hk40⟩ := hlt
      have v1 : decide ((k : Int) < (ps.length : Int)) = true := decide_eq_true (by omega)
      have v2 : decide ((k : Int) < 41) = true := decide_eq_true (by omega)
      have v3 : decide (k < ps.length) = true := decide_eq_true hlt
      have v4 : decide (k < 41) = true := decide_eq_true hk40
      obtain ⟨b, o, rfl, p0, p1, p2, p3, LB, cb, hx2, hin⟩ := (HPT.out.below HB2.out) k hlt
      rw [hx2] at p2
      have HNX := Lib.hid (fun (hh : (gp ps k).1.ls.length ≤ 270) => (show ∀ j : Nat, j < k + 1 → (gp ps j).1.ls.length ≤ 270 from fun j hj => by
        by_cases e : j = k
        · subst e; exact hh
        · exact HLS.out j (by omega)))
      clear hin hx2 p0 p1 p3
      generalize (gp ps k).1.ls.length = m at *
      have lb := World.block_lt_of_cell? _ _ p2
      dsimp only at lb
      have i0 : (0 : Int) ≤ (k : Int) := by omega
      have i1 : (k : Int) < (ps.length : Int) := by omega
      by_cases hm : (40 < m ∧ m ≤ 260) ∨ 270 < m
      · rcases hm with ⟨hm1, hm2⟩ | hm3
        · have v5 : decide ((40 : Int) < (m : Int)) = true := decide_eq_true (by omega)
          have v6 : decide ((m : Int) ≤ 260) = true := decide_eq_true (by omega)
          clear HNX
          go_wp2_with (go_at_call 17; refine (sanity_any _).mono ?_; rintro e wz ⟨rfl, hb⟩; have HBz := Lib.hid (below_trans HB2.out hb); clear hb)
          go_ret
          exact ⟨rfl, HBz.out⟩
        · have v5 : decide ((40 : Int) < (m : Int)) = true := decide_eq_true (by omega)
          have v6 : decide ((m : Int) ≤ 260) = false := decide_eq_false (by omega)
          have v7 : decide ((270 : Int) < (m : Int)) = true := decide_eq_true (by omega)
          clear HNX
          go_wp2_with (go_at_call 17; refine (sanity_any _).mono ?_; rintro e wz ⟨rfl, hb⟩; have HBz := Lib.hid (below_trans HB2.out hb); clear hb)
          go_ret
          exact ⟨rfl, HBz.out⟩
      · have HN2 := Lib.hid (HNX.out (by omega))
        have v7 : decide ((270 : Int) < (m : Int)) = false := decide_eq_false (by omega)
        clear HNX
        by_cases hm1 : 40 < m
        · have v5 : decide ((40 : Int) < (m : Int)) = true := decide_eq_true (by omega)
          have v6 : decide ((m : Int) ≤ 260) = false := decide_eq_false (by omega)
          clear hm
          go_wp2_with fail
          go_roundw
          case rel => exact ⟨k + 1, by omega, by omega, by go_num, HN2, HBr⟩
          case measure => simp [intOf]; omega
        · have v5 : decide ((40 : Int) < (m : Int)) = false := decide_eq_false (by omega)
          clear hm
          go_wp2_with fail
          go_roundw
          case rel => exact ⟨k + 1, by omega, by omega, by go_num, HN2, HBr⟩
          case measure => simp [intOf]; omega
    · have HPL := Lib.hid (show ps.length ≤ 1000 → ∀ p ∈ ps, p.1.ls.length ≤ 1000 from fun h1000 p hp => by
        obtain ⟨j, hj, rfl⟩ := List.getElem_of_mem hp
        have := HLS.out j (by omega)
        simp [gp, List.getD_eq_getElem?_getD, hj] at this
        omega)
      have hv : (decide ((k : Int) < (ps.length : Int)) && decide ((k : Int) < 41)) = false := by
        rw [Bool.and_eq_false_iff]
        by_cases e : k < ps.length
        · exact .inr (decide_eq_false (by omega))
        · exact .inl (decide_eq_false (by omega))
      have c0 := cell_below HBr.out HCC.out.1
      have c1 := cell_below HBr.out HCC.out.2
      have lw := World.block_lt_of_cell? _ _ c0
      dsimp only at lw
      clear HLS HCC
      have e1 : k < ps.length := by omega
      have v1 : decide ((k : Int) < (ps.length : Int)) = true := decide_eq_true (by omega)
      have v3 : decide (k < ps.length) = true := decide_eq_true e1
      have v2 : decide ((k : Int) < 41) = false := decide_eq_false (by omega)
      have v4 : decide (k < 41) = false := decide_eq_false (by omega)
      clear hv hlt e1
      go_wp2_with (first | (go_at_call 64; refine (HJN.out _ HB2.out HPL.out).mono ?_; rintro e w3 ⟨v3, rfl, hv3, hb⟩; have HB3 := Lib.hid (below_trans HB2.out hb); have c0 := cell_below hb c0; have c1 := cell_below hb c1; have lw := World.block_lt_of_cell? _ _ c0; obtain ⟨A3, c3, rfl, hi3, -⟩ := hv3; have HI3 := Lib.hid hi3; clear hi3; clear hb) | (go_at_call 33; refine (HRC.out _ HB3.out).mono ?_; rintro e w4 ⟨rfl, hb⟩; have HB4 := Lib.hid (below_trans HB3.out hb); have c0 := cell_below hb c0; have c1 := cell_below hb c1; have lw := World.block_lt_of_cell? _ _ c0; have HI4 := Lib.hid (HI3.out.below hb); clear hb) | (go_at_call 65; refine (HRJ.out _ HB4.out HPL.out).mono ?_; rintro e w5 ⟨v5, rfl, hv5, hb⟩; have HB5 := Lib.hid (below_trans HB4.out hb); have c0 := cell_below hb c0; have c1 := cell_below hb c1; have lw := World.block_lt_of_cell? _ _ c0; obtain ⟨A5, c5, rfl, hi5, -⟩ := hv5; have HI5 := Lib.hid (And.intro (HI4.out.below hb) hi5); clear hi5; clear hb) | (go_at_call 23; refine (HSM.out _ _ _ _ _ HI5.out.1 HI5.out.2).mono ?_; rintro e w6 ⟨rfl, hb⟩; have HB6 := Lib.hid (below_trans HB5.out hb); have c0 := cell_below hb c0; have c1 := cell_below hb c1; have lw := World.block_lt_of_cell? _ _ c0; clear hb) | (go_at_call 61; refine (HPB.out _ HB6.out).mono ?_; rintro e w7 ⟨rfl, hb⟩; have HB7 := Lib.hid (below_trans HB6.out hb); have c0 := cell_below hb c0; have c1 := cell_below hb c1; have lw := World.block_lt_of_cell? _ _ c0; clear hb) | (go_at_call 21; refine (HRE.out _ HB7.out).mono ?_; rintro e w8 ⟨rfl, hb⟩; have HB8 := Lib.hid (below_trans HB7.out hb); have c0 := cell_below hb c0; have c1 := cell_below hb c1; have lw := World.block_lt_of_cell? _ _ c0; clear hb) | (go_at_call 48; refine (HUN.out _ HB8.out).mono ?_; rintro e w9 ⟨rfl, hb⟩; have HB9 := Lib.hid (below_trans HB8.out hb); have c0 := cell_below hb c0; have c1 := cell_below hb c1; have lw := World.block_lt_of_cell? _ _ c0; clear hb) | (go_at_call 17; refine (sanity_any _).mono ?_; rintro e wz ⟨rfl, hb⟩; have HBz := Lib.hid (below_trans HB9.out hb); clear hb))
      go_ret
      exact ⟨rfl, HBz.out⟩
set_option maxRecDepth 100000 in
set_option maxHeartbeats 8000000 in
theorem paths_bad4_a (N : Nat) (A : Option Addr) (c : Nat) (l : List Lk) (B : Option Addr) (d : Nat) (x : List Int) (C : Option Addr) (f : Nat) (u : List Int) (LA : Option Addr) (cc : Nat) (ps : List PV) (w : World)
    (h : LksAt w A l) (h1 : IntsAt w B x) (hn1 : B = none → x.length = 0 ∧ d = 0) (h2 : IntsAt w C u) (hn2 : C = none → u.length = 0 ∧ f = 0) (hp : PthsAt w LA ps) (hs : smallB (N : Int) l.length = true) (hx60 : x.length ≤ 60) (hu300 : u.length ≤ 300) (hps : ps.length ≤ 40) (hck : checkL (N : Int) l = 0) (hf : (flowR (N : Int) l x u).2 ≠ 0) (ha : askedI (N : Int) l x = 0) (hi : isFlowI l u = 0) (hc : carriesB l x u = false) (hfr : (flowR (N : Int) l x u).2 = 8) :
    Calls Try.prog 14 #[.agg #[.int .i64 (N : Int), .slice A l.length c], .slice B x.length d, .slice C u.length f, .slice LA ps.length cc] w fun e w' => e = .returned (.bool true) ∧ Below w.heap.size w w' := by
  have t3 : decide ((40 : Int) < (ps.length : Int)) = false := decide_eq_false (by omega)
  have hl2 := small_len hs
  have t1 : decide ((60 : Int) < (x.length : Int)) = false := decide_eq_false (by omega)
  have t2 : decide ((300 : Int) < (u.length : Int)) = false := decide_eq_false (by omega)
  have t5 : decide ((1010 : Int) < (ps.length : Int)) = false := decide_eq_false (by omega)
  have hok := check_ok hck
  have HRC := Lib.hid (fun W (hW : Below w.heap.size w W) => rcheck_any (N : Int) A c l W (by omega) (h.below hW))
  rw [hck] at HRC
  have HJN := Lib.hid (fun W (hW : Below w.heap.size w W) hpl => Join_any (N : Int) A c l LA cc ps W (by omega) (h.below hW) (by omega) (hp.below hW) hpl hck)
  have HRJ := Lib.hid (fun W (hW : Below w.heap.size w W) hpl => rjoin_any (N : Int) A c l LA cc ps W (by omega) (h.below hW) (by omega) (hp.below hW) hpl hok.n1 hok.n2)
  have hjl := joinR_len (N : Int) l ps
  generalize joinR (N : Int) l ps = rj at HJN HRJ hjl
  have HSM := Lib.hid (fun A3 c3 A5 c5 W (h3 : IntsAt W A3 rj.1) (h5 : IntsAt W A5 rj.1) => (show Calls Try.prog 23 #[.slice A3 rj.1.length c3, .slice A5 rj.1.length c5] W fun e w' => e = .returned (.bool true) ∧ Below W.heap.size W w' by
    have h := same_any A3 c3 rj.1 A5 c5 rj.1 W (by omega) h3 h5
    rwa [decide_eq_true (rfl : rj.1 = rj.1)] at h))
  have z1 : (rj.2 != rj.2) = false := by simp
  have z0 : ((0 : Int) != 0) = false := by decide
  have HPB := Lib.hid (fun W (hW : Below w.heap.size w W) => Paths_bad (N : Int) A c l B d x C f u W (by omega) (by omega) (by omega) (h.below hW) (h1.below hW) (h2.below hW) hn1 hf)
  have HRE := Lib.hid (fun W (hW : Below w.heap.size w W) => rerror_any (N : Int) A c l B d x W (by omega) (by omega) (h.below hW) (h1.below hW))
  have HUN := Lib.hid (fun W (hW : Below w.heap.size w W) => runits_any (N : Int) A c l C f u W (by omega) (h2.below hW))
  obtain ⟨hul, hcar⟩ := carries_in ha hi
  have HCA := Lib.hid (fun W (hW : Below w.heap.size w W) => rcarries_any N A c l B d x C f u W (by have := hok.n2; omega) (by omega) (by omega) hul (h.below hW) (h1.below hW) (h2.below hW) (fun k hk => (hok.lk k hk).1))
  rw [hcar, hc] at HCA
  rw [hi] at HUN
  rw [ha] at HRE
  rw [hfr] at HPB
  clear hf hfr ha hi hok hjl hck hc hcar hul
  have HPT := Lib.hid hp
  clear h h1 hn1 h2 hn2 hp
  go_enter Try.func14, Try.ntmps14
  go_upto_region 3 with (go_at_call 27; refine (small_any (N : Int) A c l.length _).mono ?_; rw [hs]; rintro e w1 ⟨rfl, hb⟩; have HB1 := Lib.hid (boxed hb).1; obtain ⟨c0, c1, lw⟩ := (boxed hb).2; clear hb)
  have HCC := Lib.hid (And.intro c0 c1)
  clear c0 c1 lw
  go_wp2
  go_loopw [9] (fun i wr => ∃ k : Nat, k ≤ ps.length ∧ k ≤ 41 ∧ i = .int .i64 (k : Int) ∧ Hid (∀ j : Nat, j < k → (gp ps j).1.ls.length ≤ 270) ∧ Hid (Below w1.heap.size w1 wr)) (fun i _ => 41 - (intOf i).toNat)
  case atStart => exact ⟨0, by omega, by omega, rfl, Lib.hid (fun j hj => by omega), Lib.hid (Below.refl _ _)⟩
  case round =>
    obtain ⟨k, hk, hk41, rfl, HLS, HBr⟩ := hrel
    have HB2 := Lib.hid (below_trans HB1.out HBr.out)
    by_cases hlt : k < ps.length ∧ k < 41
    · obtain ⟨hlt, hk40⟩ := hlt
      have v1 : decide ((k : Int) < (ps.length : Int)) = true := decide_eq_true (by omega)
      have v2 : decide ((k : Int) < 41) = true := decide_eq_true (by omega)
      have v3 : decide (k < ps.length) = true := decide_eq_true hlt
      have v4 : decide (k < 41) = true := decide_eq_true hk40
      obtain ⟨b, o, rfl, p0, p1, p2, p3, LB, cb, hx2, hin⟩ := (HPT.out.below HB2.out) k hlt
      rw [hx2] at p2
      have HNX := Lib.hid (fun (hh : (gp ps k).1.ls.length ≤ 270) => (show ∀ j : Nat, j < k + 1 → (gp ps j).1.ls.length ≤ 270 from fun j hj => by
        by_cases e : j = k
        · subst e; exact hh
        · exact HLS.out j (by omega)))
      clear hin hx2 p0 p1 p3
      generalize (gp ps k).1.ls.length = m at *
      have lb := World.block_lt_of_cell? _ _ p2
      dsimp only at lb
      have i0 : (0 : Int) ≤ (k : Int) := by omega
      have i1 : (k : Int) < (ps.length : Int) := by omega
      by_cases hm : (40 < m ∧ m ≤ 260) ∨ 270 < m
      · rcases hm with ⟨hm1, hm2⟩ | hm3
        · have v5 : decide ((40 : Int) < (m : Int)) = true := decide_eq_true (by omega)
          have v6 : decide ((m : Int) ≤ 260) = true := decide_eq_true (by omega)
          clear HNX
          go_wp2_with (go_at_call 17; refine (sanity_any _).mono ?_; rintro e wz ⟨rfl, hb⟩; have HBz := Lib.hid (below_trans HB2.out hb); clear hb)
          go_ret
          exact ⟨rfl, HBz.out⟩
        · have v5 : decide ((40 : Int) < (m : Int)) = true := decide_eq_true (by omega)
          have v6 : decide ((m : Int) ≤ 260) = false := decide_eq_false (by omega)
          have v7 : decide ((270 : Int) < (m : Int)) = true := decide_eq_true (by omega)
          clear HNX
          go_wp2_with (go_at_call 17; refine (sanity_any _).mono ?_; rintro e wz ⟨rfl, hb⟩; have HBz := Lib.hid (below_trans HB2.out hb); clear hb)
          go_ret
          exact ⟨rfl, HBz.out⟩
      · have HN2 := Lib.hid (HNX.out (by omega))
        have v7 : decide ((270 : Int) < (m : Int)) = false := decide_eq_false (by omega)
        clear HNX
        by_cases hm1 : 40 < m
        · have v5 : decide ((40 : Int) < (m : Int)) = true := decide_eq_true (by omega)
          have v6 : decide ((m : Int) ≤ 260) = false := decide_eq_false (by omega)
          clear hm
          go_wp2_with fail
          go_roundw
          case rel => exact ⟨k + 1, by omega, by omega, by go_num, HN2, HBr⟩
          case measure => simp [intOf]; omega
        · have v5 : decide ((40 : Int) < (m : Int)) = false := decide_eq_false (by omega)
          clear hm
          go_wp2_with fail
          go_roundw
          case rel => exact ⟨k + 1, by omega, by omega, by go_num, HN2, HBr⟩
          case measure => simp [intOf]; omega
    · have HPL := Lib.hid (show ps.length ≤ 1000 → ∀ p ∈ ps, p.1.ls.length ≤ 1000 from fun h1000 p hp => by
        obtain ⟨j, hj, rfl⟩ := List.getElem_of_mem hp
        have := HLS.out j (by omega)
        simp [gp, List.getD_eq_getElem?_getD, hj] at this
        omega)
      have hv : (decide ((k : Int) < (ps.length : Int)) && decide ((k : Int) < 41)) = false := by
        rw [Bool.and_eq_false_iff]
        by_cases e : k < ps.length
        · exact .inr (decide_eq_false (by omega))
        · exact .inl (decide_eq_false (by omega))
      have c0 := cell_below HBr.out HCC.out.1
      have c1 := cell_below HBr.out HCC.out.2
      have lw := World.block_lt_of_cell? _ _ c0
      dsimp only at lw
      clear HLS HCC
      have e1 : ¬ k < ps.length := by omega
      have v1 : decide ((k : Int) < (ps.length : Int)) = false := decide_eq_false (by omega)
      have v3 : decide (k < ps.length) = false := decide_eq_false e1
      clear hv hlt e1
      go_wp2_with (first | (go_at_call 64; refine (HJN.out _ HB2.out HPL.out).mono ?_; rintro e w3 ⟨v3, rfl, hv3, hb⟩; have HB3 := Lib.hid (below_trans HB2.out hb); have c0 := cell_below hb c0; have c1 := cell_below hb c1; have lw := World.block_lt_of_cell? _ _ c0; obtain ⟨A3, c3, rfl, hi3, -⟩ := hv3; have HI3 := Lib.hid hi3; clear hi3; clear hb) | (go_at_call 33; refine (HRC.out _ HB3.out).mono ?_; rintro e w4 ⟨rfl, hb⟩; have HB4 := Lib.hid (below_trans HB3.out hb); have c0 := cell_below hb c0; have c1 := cell_below hb c1; have lw := World.block_lt_of_cell? _ _ c0; have HI4 := Lib.hid (HI3.out.below hb); clear hb) | (go_at_call 65; refine (HRJ.out _ HB4.out HPL.out).mono ?_; rintro e w5 ⟨v5, rfl, hv5, hb⟩; have HB5 := Lib.hid (below_trans HB4.out hb); have c0 := cell_below hb c0; have c1 := cell_below hb c1; have lw := World.block_lt_of_cell? _ _ c0; obtain ⟨A5, c5, rfl, hi5, -⟩ := hv5; have HI5 := Lib.hid (And.intro (HI4.out.below hb) hi5); clear hi5; clear hb) | (go_at_call 23; refine (HSM.out _ _ _ _ _ HI5.out.1 HI5.out.2).mono ?_; rintro e w6 ⟨rfl, hb⟩; have HB6 := Lib.hid (below_trans HB5.out hb); have c0 := cell_below hb c0; have c1 := cell_below hb c1; have lw := World.block_lt_of_cell? _ _ c0; clear hb) | (go_at_call 61; refine (HPB.out _ HB6.out).mono ?_; rintro e w7 ⟨rfl, hb⟩; have HB7 := Lib.hid (below_trans HB6.out hb); have c0 := cell_below hb c0; have c1 := cell_below hb c1; have lw := World.block_lt_of_cell? _ _ c0; clear hb) | (go_at_call 21; refine (HRE.out _ HB7.out).mono ?_; rintro e w8 ⟨rfl, hb⟩; have HB8 := Lib.hid (below_trans HB7.out hb); have c0 := cell_below hb c0; have c1 := cell_below hb c1; have lw := World.block_lt_of_cell? _ _ c0; clear hb) | (go_at_call 48; refine (HUN.out _ HB8.out).mono ?_; rintro e w9 ⟨rfl, hb⟩; have HB9 := Lib.hid (below_trans HB8.out hb); have c0 := cell_below hb c0; have c1 := cell_below hb c1; have lw := World.block_lt_of_cell? _ _ c0; clear hb) | (go_at_call 49; refine (HCA.out _ HB9.out).mono ?_; rintro e wA ⟨rfl, hb⟩; have HBA := Lib.hid (below_trans HB9.out hb); have c0 := cell_below hb c0; have c1 := cell_below hb c1; have lw := World.block_lt_of_cell? _ _ c0; clear hb) | (go_at_call 17; refine (sanity_any _).mono ?_; rintro e wz ⟨rfl, hb⟩; have HBz := Lib.hid (below_trans HBA.out hb); clear hb))
      go_ret
      exact ⟨rfl, HBz.out⟩
set_option maxRecDepth 100000 in
set_option maxHeartbeats 8000000 in
theorem paths_bad4_b (N : Nat) (A : Option Addr) (c : Nat) (l : List Lk) (B : Option Addr) (d : Nat) (x : List Int) (C : Option Addr) (f : Nat) (u : List Int) (LA : Option Addr) (cc : Nat) (ps : List PV) (w : World)
    (h : LksAt w A l) (h1 : IntsAt w B x) (hn1 : B = none → x.length = 0 ∧ d = 0) (h2 : IntsAt w C u) (hn2 : C = none → u.length = 0 ∧ f = 0) (hp : PthsAt w LA ps) (hs : smallB (N : Int) l.length = true) (hx60 : x.length ≤ 60) (hu300 : u.length ≤ 300) (hps : 1000 < ps.length) (hps2 : ps.length ≤ 1010) (hck : checkL (N : Int) l = 0) (hf : (flowR (N : Int) l x u).2 ≠ 0) (ha : askedI (N : Int) l x = 0) (hi : isFlowI l u = 0) (hc : carriesB l x u = false) (hfr : (flowR (N : Int) l x u).2 = 8) :
    Calls Try.prog 14 #[.agg #[.int .i64 (N : Int), .slice A l.length c], .slice B x.length d, .slice C u.length f, .slice LA ps.length cc] w fun e w' => e = .returned (.bool true) ∧ Below w.heap.size w w' := by
  have t3 : decide ((40 : Int) < (ps.length : Int)) = true := decide_eq_true (by omega)
  have t4 : decide ((ps.length : Int) ≤ 1000) = false := decide_eq_false (by omega)
  have hl2 := small_len hs
  have t1 : decide ((60 : Int) < (x.length : Int)) = false := decide_eq_false (by omega)
  have t2 : decide ((300 : Int) < (u.length : Int)) = false := decide_eq_false (by omega)
  have t5 : decide ((1010 : Int) < (ps.length : Int)) = false := decide_eq_false (by omega)
  have hok := check_ok hck
  have HRC := Lib.hid (fun W (hW : Below w.heap.size w W) => rcheck_any (N : Int) A c l W (by omega) (h.below hW))
  rw [hck] at HRC
  have HJN := Lib.hid (fun W (hW : Below w.heap.size w W) hpl => Join_any (N : Int) A c l LA cc ps W (by omega) (h.below hW) (by omega) (hp.below hW) hpl hck)
  have HRJ := Lib.hid (fun W (hW : Below w.heap.size w W) hpl => rjoin_any (N : Int) A c l LA cc ps W (by omega) (h.below hW) (by omega) (hp.below hW) hpl hok.n1 hok.n2)
  have hjl := joinR_len (N : Int) l ps
  generalize joinR (N : Int) l ps = rj at HJN HRJ hjl
  have HSM := Lib.hid (fun A3 c3 A5 c5 W (h3 : IntsAt W A3 rj.1) (h5 : IntsAt W A5 rj.1) => (show Calls Try.prog 23 #[.slice A3 rj.1.length c3, .slice A5 rj.1.length c5] W fun e w' => e = .returned (.bool true) ∧ Below W.heap.size W w' by
    have h := same_any A3 c3 rj.1 A5 c5 rj.1 W (by omega) h3 h5
    rwa [decide_eq_true (rfl : rj.1 = rj.1)] at h))
  have z1 : (rj.2 != rj.2) = false := by simp
  have z0 : ((0 : Int) != 0) = false := by decide
  have HPB := Lib.hid (fun W (hW : Below w.heap.size w W) => Paths_bad (N : Int) A c l B d x C f u W (by omega) (by omega) (by omega) (h.below hW) (h1.below hW) (h2.below hW) hn1 hf)
  have HRE := Lib.hid (fun W (hW : Below w.heap.size w W) => rerror_any (N : Int) A c l B d x W (by omega) (by omega) (h.below hW) (h1.below hW))
  have HUN := Lib.hid (fun W (hW : Below w.heap.size w W) => runits_any (N : Int) A c l C f u W (by omega) (h2.below hW))
  obtain ⟨hul, hcar⟩ := carries_in ha hi
  have HCA := Lib.hid (fun W (hW : Below w.heap.size w W) => rcarries_any N A c l B d x C f u W (by have := hok.n2; omega) (by omega) (by omega) hul (h.below hW) (h1.below hW) (h2.below hW) (fun k hk => (hok.lk k hk).1))
  rw [hcar, hc] at HCA
  rw [hi] at HUN
  rw [ha] at HRE
  rw [hfr] at HPB
  clear hf hfr ha hi hok hjl hck hc hcar hul
  have HPT := Lib.hid hp
  clear h h1 hn1 h2 hn2 hp
  go_enter Try.func14, Try.ntmps14
  go_upto_region 3 with (go_at_call 27; refine (small_any (N : Int) A c l.length _).mono ?_; rw [hs]; rintro e w1 ⟨rfl, hb⟩; have HB1 := Lib.hid (boxed hb).1; obtain ⟨c0, c1, lw⟩ := (boxed hb).2; clear hb)
  have HCC := Lib.hid (And.intro c0 c1)
  clear c0 c1 lw
  go_wp2
  go_loopw [9] (fun i wr => ∃ k : Nat, k ≤ ps.length ∧ k ≤ 41 ∧ i = .int .i64 (k : Int) ∧ Hid (∀ j : Nat, j < k → (gp ps j).1.ls.length ≤ 270) ∧ Hid (Below w1.heap.size w1 wr)) (fun i _ => 41 - (intOf i).toNat)
  case atStart => exact ⟨0, by omega, by omega, rfl, Lib.hid (fun j hj => by omega), Lib.hid (Below.refl _ _)⟩
  case round =>
    obtain ⟨k, hk, hk41, rfl, HLS, HBr⟩ := hrel
    have HB2 := Lib.hid (below_trans HB1.out HBr.out)
    by_cases hlt : k < ps.length ∧ k < 41
    · obtain ⟨hlt, hk40⟩ := hlt
      have v1 : decide ((k : Int) < (ps.length : Int)) = true := decide_eq_true (by omega)
      have v2 : decide ((k : Int) < 41) = true := decide_eq_true (by omega)
      have v3 : decide (k < ps.length) = true := decide_eq_true hlt
      have v4 : decide (k < 41) = true := decide_eq_true hk40
      obtain ⟨b, o, rfl, p0, p1, p2, p3, LB, cb, hx2, hin⟩ := (HPT.out.below HB2.out) k hlt
      rw [hx2] at p2
      have HNX := Lib.hid (fun (hh : (gp ps k).1.ls.length ≤ 270) => (show ∀ j : Nat, j < k + 1 → (gp ps j).1.ls.length ≤ 270 from fun j hj => by
        by_cases e : j = k
        · subst e; exact hh
        · exact HLS.out j (by omega)))
      clear hin hx2 p0 p1 p3
      generalize (gp ps k).1.ls.length = m at *
      have lb := World.block_lt_of_cell? _ _ p2
      dsimp only at lb
      have i0 : (0 : Int) ≤ (k : Int) := by omega
      have i1 : (k : Int) < (ps.length : Int) := by omega
      by_cases hm : (40 < m ∧ m ≤ 260) ∨ 270 < m
      · rcases hm with ⟨hm1, hm2⟩ | hm3
        · have v5 : decide ((40 : Int) < (m : Int)) = true := decide_eq_true (by omega)
          have v6 : decide ((m : Int) ≤ 260) = true := decide_eq_true (by omega)
          clear HNX
          go_wp2_with (go_at_call 17; refine (sanity_any _).mono ?_; rintro e wz ⟨rfl, hb⟩; have HBz := Lib.hid (below_trans HB2.out hb); clear hb)
          go_ret
          exact ⟨rfl, HBz.out⟩
        · have v5 : decide ((40 : Int) < (m : Int)) = true := decide_eq_true (by omega)
          have v6 : decide ((m : Int) ≤ 260) = false := decide_eq_false (by omega)
          have v7 : decide ((270 : Int) < (m : Int)) = true := decide_eq_true (by omega)
          clear HNX
          go_wp2_with (go_at_call 17; refine (sanity_any _).mono ?_; rintro e wz ⟨rfl, hb⟩; have HBz := Lib.hid (below_trans HB2.out hb); clear hb)
          go_ret
          exact ⟨rfl, HBz.out⟩
      · have HN2 := Lib.hid (HNX.out (by omega))
        have v7 : decide ((270 : Int) < (m : Int)) = false := decide_eq_false (by omega)
        clear HNX
        by_cases hm1 : 40 < m
        · have v5 : decide ((40 : Int) < (m : Int)) = true := decide_eq_true (by omega)
          have v6 : decide ((m : Int) ≤ 260) = false := decide_eq_false (by omega)
          clear hm
          go_wp2_with fail
          go_roundw
          case rel => exact ⟨k + 1, by omega, by omega, by go_num, HN2, HBr⟩
          case measure => simp [intOf]; omega
        · have v5 : decide ((40 : Int) < (m : Int)) = false := decide_eq_false (by omega)
          clear hm
          go_wp2_with fail
          go_roundw
          case rel => exact ⟨k + 1, by omega, by omega, by go_num, HN2, HBr⟩
          case measure => simp [intOf]; omega
    · have HPL := Lib.hid (show ps.length ≤ 1000 → ∀ p ∈ ps, p.1.ls.length ≤ 1000 from fun h1000 p hp => by
        obtain ⟨j, hj, rfl⟩ := List.getElem_of_mem hp
        have := HLS.out j (by omega)
        simp [gp, List.getD_eq_getElem?_getD, hj] at this
        omega)
      have hv : (decide ((k : Int) < (ps.length : Int)) && decide ((k : Int) < 41)) = false := by
        rw [Bool.and_eq_false_iff]
        by_cases e : k < ps.length
        · exact .inr (decide_eq_false (by omega))
        · exact .inl (decide_eq_false (by omega))
      have c0 := cell_below HBr.out HCC.out.1
      have c1 := cell_below HBr.out HCC.out.2
      have lw := World.block_lt_of_cell? _ _ c0
      dsimp only at lw
      clear HLS HCC
      have e1 : k < ps.length := by omega
      have v1 : decide ((k : Int) < (ps.length : Int)) = true := decide_eq_true (by omega)
      have v3 : decide (k < ps.length) = true := decide_eq_true e1
      have v2 : decide ((k : Int) < 41) = false := decide_eq_false (by omega)
      have v4 : decide (k < 41) = false := decide_eq_false (by omega)
      clear hv hlt e1
      go_wp2_with (first | (go_at_call 64; refine (HJN.out _ HB2.out HPL.out).mono ?_; rintro e w3 ⟨v3, rfl, hv3, hb⟩; have HB3 := Lib.hid (below_trans HB2.out hb); have c0 := cell_below hb c0; have c1 := cell_below hb c1; have lw := World.block_lt_of_cell? _ _ c0; obtain ⟨A3, c3, rfl, hi3, -⟩ := hv3; have HI3 := Lib.hid hi3; clear hi3; clear hb) | (go_at_call 33; refine (HRC.out _ HB3.out).mono ?_; rintro e w4 ⟨rfl, hb⟩; have HB4 := Lib.hid (below_trans HB3.out hb); have c0 := cell_below hb c0; have c1 := cell_below hb c1; have lw := World.block_lt_of_cell? _ _ c0; have HI4 := Lib.hid (HI3.out.below hb); clear hb) | (go_at_call 65; refine (HRJ.out _ HB4.out HPL.out).mono ?_; rintro e w5 ⟨v5, rfl, hv5, hb⟩; have HB5 := Lib.hid (below_trans HB4.out hb); have c0 := cell_below hb c0; have c1 := cell_below hb c1; have lw := World.block_lt_of_cell? _ _ c0; obtain ⟨A5, c5, rfl, hi5, -⟩ := hv5; have HI5 := Lib.hid (And.intro (HI4.out.below hb) hi5); clear hi5; clear hb) | (go_at_call 23; refine (HSM.out _ _ _ _ _ HI5.out.1 HI5.out.2).mono ?_; rintro e w6 ⟨rfl, hb⟩; have HB6 := Lib.hid (below_trans HB5.out hb); have c0 := cell_below hb c0; have c1 := cell_below hb c1; have lw := World.block_lt_of_cell? _ _ c0; clear hb) | (go_at_call 61; refine (HPB.out _ HB6.out).mono ?_; rintro e w7 ⟨rfl, hb⟩; have HB7 := Lib.hid (below_trans HB6.out hb); have c0 := cell_below hb c0; have c1 := cell_below hb c1; have lw := World.block_lt_of_cell? _ _ c0; clear hb) | (go_at_call 21; refine (HRE.out _ HB7.out).mono ?_; rintro e w8 ⟨rfl, hb⟩; have HB8 := Lib.hid (below_trans HB7.out hb); have c0 := cell_below hb c0; have c1 := cell_below hb c1; have lw := World.block_lt_of_cell? _ _ c0; clear hb) | (go_at_call 48; refine (HUN.out _ HB8.out).mono ?_; rintro e w9 ⟨rfl, hb⟩; have HB9 := Lib.hid (below_trans HB8.out hb); have c0 := cell_below hb c0; have c1 := cell_below hb c1; have lw := World.block_lt_of_cell? _ _ c0; clear hb) | (go_at_call 49; refine (HCA.out _ HB9.out).mono ?_; rintro e wA ⟨rfl, hb⟩; have HBA := Lib.hid (below_trans HB9.out hb); have c0 := cell_below hb c0; have c1 := cell_below hb c1; have lw := World.block_lt_of_cell? _ _ c0; clear hb) | (go_at_call 17; refine (sanity_any _).mono ?_; rintro e wz ⟨rfl, hb⟩; have HBz := Lib.hid (below_trans HBA.out hb); clear hb))
      go_ret
      exact ⟨rfl, HBz.out⟩
set_option maxRecDepth 100000 in
set_option maxHeartbeats 8000000 in
theorem paths_good_a (N : Nat) (A : Option Addr) (c : Nat) (l : List Lk) (B : Option Addr) (d : Nat) (x : List Int) (C : Option Addr) (f : Nat) (u : List Int) (LA : Option Addr) (cc : Nat) (ps : List PV) (w : World)
    (h : LksAt w A l) (h1 : IntsAt w B x) (hn1 : B = none → x.length = 0 ∧ d = 0) (h2 : IntsAt w C u) (hn2 : C = none → u.length = 0 ∧ f = 0) (hp : PthsAt w LA ps) (hs : smallB (N : Int) l.length = true) (hx60 : x.length ≤ 60) (hu300 : u.length ≤ 300) (hps : ps.length ≤ 40) (hck : checkL (N : Int) l = 0) (hf : (flowR (N : Int) l x u).2 = 0) :
    Calls Try.prog 14 #[.agg #[.int .i64 (N : Int), .slice A l.length c], .slice B x.length d, .slice C u.length f, .slice LA ps.length cc] w fun e w' => e = .returned (.bool true) ∧ Below w.heap.size w w' := by
  have t3 : decide ((40 : Int) < (ps.length : Int)) = false := decide_eq_false (by omega)
  have hl2 := small_len hs
  have t1 : decide ((60 : Int) < (x.length : Int)) = false := decide_eq_false (by omega)
  have t2 : decide ((300 : Int) < (u.length : Int)) = false := decide_eq_false (by omega)
  have t5 : decide ((1010 : Int) < (ps.length : Int)) = false := decide_eq_false (by omega)
  have hok := check_ok hck
  have HRC := Lib.hid (fun W (hW : Below w.heap.size w W) => rcheck_any (N : Int) A c l W (by omega) (h.below hW))
  rw [hck] at HRC
  have HJN := Lib.hid (fun W (hW : Below w.heap.size w W) hpl => Join_any (N : Int) A c l LA cc ps W (by omega) (h.below hW) (by omega) (hp.below hW) hpl hck)
  have HRJ := Lib.hid (fun W (hW : Below w.heap.size w W) hpl => rjoin_any (N : Int) A c l LA cc ps W (by omega) (h.below hW) (by omega) (hp.below hW) hpl hok.n1 hok.n2)
  have hjl := joinR_len (N : Int) l ps
  generalize joinR (N : Int) l ps = rj at HJN HRJ hjl
  have HSM := Lib.hid (fun A3 c3 A5 c5 W (h3 : IntsAt W A3 rj.1) (h5 : IntsAt W A5 rj.1) => (show Calls Try.prog 23 #[.slice A3 rj.1.length c3, .slice A5 rj.1.length c5] W fun e w' => e = .returned (.bool true) ∧ Below W.heap.size W w' by
    have h := same_any A3 c3 rj.1 A5 c5 rj.1 W (by omega) h3 h5
    rwa [decide_eq_true (rfl : rj.1 = rj.1)] at h))
  have z1 : (rj.2 != rj.2) = false := by simp
  have z0 : ((0 : Int) != 0) = false := by decide
  have HPO := Lib.hid (fun W (hW : Below w.heap.size w W) => Paths_ok N A c l B d x C f u W (by omega) (by omega) (by omega) (h.below hW) (h1.below hW) (h2.below hW) hn1 hn2 hf)
  have HRE := Lib.hid (fun W (hW : Below w.heap.size w W) => rerror_any (N : Int) A c l B d x W (by omega) (by omega) (h.below hW) (h1.below hW))
  have HUN := Lib.hid (fun W (hW : Below w.heap.size w W) => runits_any (N : Int) A c l C f u W (by omega) (h2.below hW))
  obtain ⟨ha, hi, hc⟩ := flow_oks hf
  obtain ⟨hul, hcar⟩ := carries_in ha hi
  have HCA := Lib.hid (fun W (hW : Below w.heap.size w W) => rcarries_any N A c l B d x C f u W (by have := hok.n2; omega) (by omega) (by omega) hul (h.below hW) (h1.below hW) (h2.below hW) (fun k hk => (hok.lk k hk).1))
  rw [hcar, hc] at HCA
  rw [hi] at HUN
  rw [ha] at HRE
  have HRP := Lib.hid (fun W (hW : Below w.heap.size w W) L2 cc2 ps2 hp2 hps2 => rpaths_ok N A c l B d x C f u L2 cc2 ps2 W hok (asked_facts ha).2.1 hul hps2 (h.below hW) (h1.below hW) (h2.below hW) hp2)
  clear hf ha hi hok hjl hck hc hcar hul
  have HPT := Lib.hid hp
  clear h h1 hn1 h2 hn2 hp
  go_enter Try.func14, Try.ntmps14
  go_upto_region 3 with (go_at_call 27; refine (small_any (N : Int) A c l.length _).mono ?_; rw [hs]; rintro e w1 ⟨rfl, hb⟩; have HB1 := Lib.hid (boxed hb).1; obtain ⟨c0, c1, lw⟩ := (boxed hb).2; clear hb)
  have HCC := Lib.hid (And.intro c0 c1)
  clear c0 c1 lw
  go_wp2
  go_loopw [9] (fun i wr => ∃ k : Nat, k ≤ ps.length ∧ k ≤ 41 ∧ i = .int .i64 (k : Int) ∧ Hid (∀ j : Nat, j < k → (gp ps j).1.ls.length ≤ 270) ∧ Hid (Below w1.heap.size w1 wr)) (fun i _ => 41 - (intOf i).toNat)
  case atStart => exact ⟨0, by omega, by omega, rfl, Lib.hid (fun j hj => by omega), Lib.hid (Below.refl _ _)⟩
  case round =>
    obtain ⟨k, hk, hk41, rfl, HLS, HBr⟩ := hrel
    have HB2 := Lib.hid (below_trans HB1.out HBr.out)
    by_cases hlt : k < ps.length ∧ k < 41
    · obtain ⟨hlt, hk40⟩ := hlt
      have v1 : decide ((k : Int) < (ps.length : Int)) = true := decide_eq_true (by omega)
      have v2 : decide ((k : Int) < 41) = true := decide_eq_true (by omega)
      have v3 : decide (k < ps.length) = true := decide_eq_true hlt
      have v4 : decide (k < 41) = true := decide_eq_true hk40
      obtain ⟨b, o, rfl, p0, p1, p2, p3, LB, cb, hx2, hin⟩ := (HPT.out.below HB2.out) k hlt
      rw [hx2] at p2
      have HNX := Lib.hid (fun (hh : (gp ps k).1.ls.length ≤ 270) => (show ∀ j : Nat, j < k + 1 → (gp ps j).1.ls.length ≤ 270 from fun j hj => by
        by_cases e : j = k
        · subst e; exact hh
        · exact HLS.out j (by omega)))
      clear hin hx2 p0 p1 p3
      generalize (gp ps k).1.ls.length = m at *
      have lb := World.block_lt_of_cell? _ _ p2
      dsimp only at lb
      have i0 : (0 : Int) ≤ (k : Int) := by omega
      have i1 : (k : Int) < (ps.length : Int) := by omega
      by_cases hm : (40 < m ∧ m ≤ 260) ∨ 270 < m
      · rcases hm with ⟨hm1, hm2⟩ | hm3
        · have v5 : decide ((40 : Int) < (m : Int)) = true := decide_eq_true (by omega)
          have v6 : decide ((m : Int) ≤ 260) = true := decide_eq_true (by omega)
          clear HNX
          go_wp2_with (go_at_call 17; refine (sanity_any _).mono ?_; rintro e wz ⟨rfl, hb⟩; have HBz := Lib.hid (below_trans HB2.out hb); clear hb)
          go_ret
          exact ⟨rfl, HBz.out⟩
        · have v5 : decide ((40 : Int) < (m : Int)) = true := decide_eq_true (by omega)
          have v6 : decide ((m : Int) ≤ 260) = false := decide_eq_false (by omega)
          have v7 : decide ((270 : Int) < (m : Int)) = true := decide_eq_true (by omega)
          clear HNX
          go_wp2_with (go_at_call 17; refine (sanity_any _).mono ?_; rintro e wz ⟨rfl, hb⟩; have HBz := Lib.hid (below_trans HB2.out hb); clear hb)
          go_ret
          exact ⟨rfl, HBz.out⟩
      · have HN2 := Lib.hid (HNX.out (by omega))
        have v7 : decide ((270 : Int) < (m : Int)) = false := decide_eq_false (by omega)
        clear HNX
        by_cases hm1 : 40 < m
        · have v5 : decide ((40 : Int) < (m : Int)) = true := decide_eq_true (by omega)
          have v6 : decide ((m : Int) ≤ 260) = false := decide_eq_false (by omega)
          clear hm
          go_wp2_with fail
          go_roundw
          case rel => exact ⟨k + 1, by omega, by omega, by go_num, HN2, HBr⟩
          case measure => simp [intOf]; omega
        · have v5 : decide ((40 : Int) < (m : Int)) = false := decide_eq_false (by omega)
          clear hm
          go_wp2_with fail
          go_roundw
          case rel => exact ⟨k + 1, by omega, by omega, by go_num, HN2, HBr⟩
          case measure => simp [intOf]; omega
    · have HPL := Lib.hid (show ps.length ≤ 1000 → ∀ p ∈ ps, p.1.ls.length ≤ 1000 from fun h1000 p hp => by
        obtain ⟨j, hj, rfl⟩ := List.getElem_of_mem hp
        have := HLS.out j (by omega)
        simp [gp, List.getD_eq_getElem?_getD, hj] at this
        omega)
      have hv : (decide ((k : Int) < (ps.length : Int)) && decide ((k : Int) < 41)) = false := by
        rw [Bool.and_eq_false_iff]
        by_cases e : k < ps.length
        · exact .inr (decide_eq_false (by omega))
        · exact .inl (decide_eq_false (by omega))
      have c0 := cell_below HBr.out HCC.out.1
      have c1 := cell_below HBr.out HCC.out.2
      have lw := World.block_lt_of_cell? _ _ c0
      dsimp only at lw
      clear HLS HCC
      have e1 : ¬ k < ps.length := by omega
      have v1 : decide ((k : Int) < (ps.length : Int)) = false := decide_eq_false (by omega)
      have v3 : decide (k < ps.length) = false := decide_eq_false e1
      clear hv hlt e1
      go_wp2_with (first | (go_at_call 64; refine (HJN.out _ HB2.out HPL.out).mono ?_; rintro e w3 ⟨v3, rfl, hv3, hb⟩; have HB3 := Lib.hid (below_trans HB2.out hb); have c0 := cell_below hb c0; have c1 := cell_below hb c1; have lw := World.block_lt_of_cell? _ _ c0; obtain ⟨A3, c3, rfl, hi3, -⟩ := hv3; have HI3 := Lib.hid hi3; clear hi3; clear hb) | (go_at_call 33; refine (HRC.out _ HB3.out).mono ?_; rintro e w4 ⟨rfl, hb⟩; have HB4 := Lib.hid (below_trans HB3.out hb); have c0 := cell_below hb c0; have c1 := cell_below hb c1; have lw := World.block_lt_of_cell? _ _ c0; have HI4 := Lib.hid (HI3.out.below hb); clear hb) | (go_at_call 65; refine (HRJ.out _ HB4.out HPL.out).mono ?_; rintro e w5 ⟨v5, rfl, hv5, hb⟩; have HB5 := Lib.hid (below_trans HB4.out hb); have c0 := cell_below hb c0; have c1 := cell_below hb c1; have lw := World.block_lt_of_cell? _ _ c0; obtain ⟨A5, c5, rfl, hi5, -⟩ := hv5; have HI5 := Lib.hid (And.intro (HI4.out.below hb) hi5); clear hi5; clear hb) | (go_at_call 23; refine (HSM.out _ _ _ _ _ HI5.out.1 HI5.out.2).mono ?_; rintro e w6 ⟨rfl, hb⟩; have HB6 := Lib.hid (below_trans HB5.out hb); have c0 := cell_below hb c0; have c1 := cell_below hb c1; have lw := World.block_lt_of_cell? _ _ c0; clear hb) | (go_at_call 61; refine (HPO.out _ HB6.out).mono ?_; rintro e w7 ⟨hb, L2, cc2, ps2, rfl, hp2, hps2, -⟩; have HB7 := Lib.hid (below_trans HB6.out hb); have c0 := cell_below hb c0; have c1 := cell_below hb c1; have lw := World.block_lt_of_cell? _ _ c0; have HP2 := Lib.hid hp2; have HPS2 := Lib.hid hps2; clear hp2 hps2; clear hb) | (go_at_call 21; refine (HRE.out _ HB7.out).mono ?_; rintro e w8 ⟨rfl, hb⟩; have HB8 := Lib.hid (below_trans HB7.out hb); have c0 := cell_below hb c0; have c1 := cell_below hb c1; have lw := World.block_lt_of_cell? _ _ c0; have HP3 := Lib.hid (HP2.out.below hb); clear hb) | (go_at_call 48; refine (HUN.out _ HB8.out).mono ?_; rintro e w9 ⟨rfl, hb⟩; have HB9 := Lib.hid (below_trans HB8.out hb); have c0 := cell_below hb c0; have c1 := cell_below hb c1; have lw := World.block_lt_of_cell? _ _ c0; have HP4 := Lib.hid (HP3.out.below hb); clear hb) | (go_at_call 49; refine (HCA.out _ HB9.out).mono ?_; rintro e wA ⟨rfl, hb⟩; have HBA := Lib.hid (below_trans HB9.out hb); have c0 := cell_below hb c0; have c1 := cell_below hb c1; have lw := World.block_lt_of_cell? _ _ c0; have HP5 := Lib.hid (HP4.out.below hb); clear hb) | (go_at_call 17; refine (sanity_any _).mono ?_; rintro e wz ⟨rfl, hb⟩; have HBz := Lib.hid (below_trans HBA.out hb); have HP6 := Lib.hid (HP5.out.below hb); have c0 := cell_below hb c0; have c1 := cell_below hb c1; have lw := World.block_lt_of_cell? _ _ c0; clear hb) | (go_at_call 66; refine (HRP.out _ HBz.out _ _ _ HP6.out HPS2.out).mono ?_; rintro e wy ⟨rfl, hb⟩; have HBy := Lib.hid (below_trans HBz.out hb); clear hb))
      go_ret
      exact ⟨rfl, HBy.out⟩
set_option maxRecDepth 100000 in
set_option maxHeartbeats 8000000 in
theorem paths_good_b (N : Nat) (A : Option Addr) (c : Nat) (l : List Lk) (B : Option Addr) (d : Nat) (x : List Int) (C : Option Addr) (f : Nat) (u : List Int) (LA : Option Addr) (cc : Nat) (ps : List PV) (w : World)
    (h : LksAt w A l) (h1 : IntsAt w B x) (hn1 : B = none → x.length = 0 ∧ d = 0) (h2 : IntsAt w C u) (hn2 : C = none → u.length = 0 ∧ f = 0) (hp : PthsAt w LA ps) (hs : smallB (N : Int) l.length = true) (hx60 : x.length ≤ 60) (hu300 : u.length ≤ 300) (hps : 1000 < ps.length) (hps2 : ps.length ≤ 1010) (hck : checkL (N : Int) l = 0) (hf : (flowR (N : Int) l x u).2 = 0) :
    Calls Try.prog 14 #[.agg #[.int .i64 (N : Int), .slice A l.length c], .slice B x.length d, .slice C u.length f, .slice LA ps.length cc] w fun e w' => e = .returned (.bool true) ∧ Below w.heap.size w w' := by
  have t3 : decide ((40 : Int) < (ps.length : Int)) = true := decide_eq_true (by omega)
  have t4 : decide ((ps.length : Int) ≤ 1000) = false := decide_eq_false (by omega)
  have hl2 := small_len hs
  have t1 : decide ((60 : Int) < (x.length : Int)) = false := decide_eq_false (by omega)
  have t2 : decide ((300 : Int) < (u.length : Int)) = false := decide_eq_false (by omega)
  have t5 : decide ((1010 : Int) < (ps.length : Int)) = false := decide_eq_false (by omega)
  have hok := check_ok hck
  have HRC := Lib.hid (fun W (hW : Below w.heap.size w W) => rcheck_any (N : Int) A c l W (by omega) (h.below hW))
  rw [hck] at HRC
  have HJN := Lib.hid (fun W (hW : Below w.heap.size w W) hpl => Join_any (N : Int) A c l LA cc ps W (by omega) (h.below hW) (by omega) (hp.below hW) hpl hck)
  have HRJ := Lib.hid (fun W (hW : Below w.heap.size w W) hpl => rjoin_any (N : Int) A c l LA cc ps W (by omega) (h.below hW) (by omega) (hp.below hW) hpl hok.n1 hok.n2)
  have hjl := joinR_len (N : Int) l ps
  generalize joinR (N : Int) l ps = rj at HJN HRJ hjl
  have HSM := Lib.hid (fun A3 c3 A5 c5 W (h3 : IntsAt W A3 rj.1) (h5 : IntsAt W A5 rj.1) => (show Calls Try.prog 23 #[.slice A3 rj.1.length c3, .slice A5 rj.1.length c5] W fun e w' => e = .returned (.bool true) ∧ Below W.heap.size W w' by
    have h := same_any A3 c3 rj.1 A5 c5 rj.1 W (by omega) h3 h5
    rwa [decide_eq_true (rfl : rj.1 = rj.1)] at h))
  have z1 : (rj.2 != rj.2) = false := by simp
  have z0 : ((0 : Int) != 0) = false := by decide
  have HPO := Lib.hid (fun W (hW : Below w.heap.size w W) => Paths_ok N A c l B d x C f u W (by omega) (by omega) (by omega) (h.below hW) (h1.below hW) (h2.below hW) hn1 hn2 hf)
  have HRE := Lib.hid (fun W (hW : Below w.heap.size w W) => rerror_any (N : Int) A c l B d x W (by omega) (by omega) (h.below hW) (h1.below hW))
  have HUN := Lib.hid (fun W (hW : Below w.heap.size w W) => runits_any (N : Int) A c l C f u W (by omega) (h2.below hW))
  obtain ⟨ha, hi, hc⟩ := flow_oks hf
  obtain ⟨hul, hcar⟩ := carries_in ha hi
  have HCA := Lib.hid (fun W (hW : Below w.heap.size w W) => rcarries_any N A c l B d x C f u W (by have := hok.n2; omega) (by omega) (by omega) hul (h.below hW) (h1.below hW) (h2.below hW) (fun k hk => (hok.lk k hk).1))
  rw [hcar, hc] at HCA
  rw [hi] at HUN
  rw [ha] at HRE
  have HRP := Lib.hid (fun W (hW : Below w.heap.size w W) L2 cc2 ps2 hp2 hps2 => rpaths_ok N A c l B d x C f u L2 cc2 ps2 W hok (asked_facts ha).2.1 hul hps2 (h.below hW) (h1.below hW) (h2.below hW) hp2)
  clear hf ha hi hok hjl hck hc hcar hul
  have HPT := Lib.hid hp
  clear h h1 hn1 h2 hn2 hp
  go_enter Try.func14, Try.ntmps14
  go_upto_region 3 with (go_at_call 27; refine (small_any (N : Int) A c l.length _).mono ?_; rw [hs]; rintro e w1 ⟨rfl, hb⟩; have HB1 := Lib.hid (boxed hb).1; obtain ⟨c0, c1, lw⟩ := (boxed hb).2; clear hb)
  have HCC := Lib.hid (And.intro c0 c1)
  clear c0 c1 lw
  go_wp2
  go_loopw [9] (fun i wr => ∃ k : Nat, k ≤ ps.length ∧ k ≤ 41 ∧ i = .int .i64 (k : Int) ∧ Hid (∀ j : Nat, j < k → (gp ps j).1.ls.length ≤ 270) ∧ Hid (Below w1.heap.size w1 wr)) (fun i _ => 41 - (intOf i).toNat)
  case atStart => exact ⟨0, by omega, by omega, rfl, Lib.hid (fun j hj => by omega), Lib.hid (Below.refl _ _)⟩
  case round =>
    obtain ⟨k, hk, hk41, rfl, HLS, HBr⟩ := hrel
    have HB2 := Lib.hid (below_trans HB1.out HBr.out)
    by_cases hlt : k < ps.length ∧ k < 41
    · obtain ⟨hlt, hk40⟩ := hlt
      have v1 : decide ((k : Int) < (ps.length : Int)) = true := decide_eq_true (by omega)
      have v2 : decide ((k : Int) < 41) = true := decide_eq_true (by omega)
      have v3 : decide (k < ps.length) = true := decide_eq_true hlt
      have v4 : decide (k < 41) = true := decide_eq_true hk40
      obtain ⟨b, o, rfl, p0, p1, p2, p3, LB, cb, hx2, hin⟩ := (HPT.out.below HB2.out) k hlt
      rw [hx2] at p2
      have HNX := Lib.hid (fun (hh : (gp ps k).1.ls.length ≤ 270) => (show ∀ j : Nat, j < k + 1 → (gp ps j).1.ls.length ≤ 270 from fun j hj => by
        by_cases e : j = k
        · subst e; exact hh
        · exact HLS.out j (by omega)))
      clear hin hx2 p0 p1 p3
      generalize (gp ps k).1.ls.length = m at *
      have lb := World.block_lt_of_cell? _ _ p2
      dsimp only at lb
      have i0 : (0 : Int) ≤ (k : Int) := by omega
      have i1 : (k : Int) < (ps.length : Int) := by omega
      by_cases hm : (40 < m ∧ m ≤ 260) ∨ 270 < m
      · rcases hm with ⟨hm1, hm2⟩ | hm3
        · have v5 : decide ((40 : Int) < (m : Int)) = true := decide_eq_true (by omega)
          have v6 : decide ((m : Int) ≤ 260) = true := decide_eq_true (by omega)
          clear HNX
          go_wp2_with (go_at_call 17; refine (sanity_any _).mono ?_; rintro e wz ⟨rfl, hb⟩; have HBz := Lib.hid (below_trans HB2.out hb); clear hb)
          go_ret
          exact ⟨rfl, HBz.out⟩
        · have v5 : decide ((40 : Int) < (m : Int)) = true := decide_eq_true (by omega)
          have v6 : decide ((m : Int) ≤ 260) = false := decide_eq_false (by omega)
          have v7 : decide ((270 : Int) < (m : Int)) = true := decide_eq_true (by omega)
          clear HNX
          go_wp2_with (go_at_call 17; refine (sanity_any _).mono ?_; rintro e wz ⟨rfl, hb⟩; have HBz := Lib.hid (below_trans HB2.out hb); clear hb)
          go_ret
          exact ⟨rfl, HBz.out⟩
      · have HN2 := Lib.hid (HNX.out (by omega))
        have v7 : decide ((270 : Int) < (m : Int)) = false := decide_eq_false (by omega)
        clear HNX
        by_cases hm1 : 40 < m
        · have v5 : decide ((40 : Int) < (m : Int)) = true := decide_eq_true (by omega)
          have v6 : decide ((m : Int) ≤ 260) = false := decide_eq_false (by omega)
          clear hm
          go_wp2_with fail
          go_roundw
          case rel => exact ⟨k + 1, by omega, by omega, by go_num, HN2, HBr⟩
          case measure => simp [intOf]; omega
        · have v5 : decide ((40 : Int) < (m : Int)) = false := decide_eq_false (by omega)
          clear hm
          go_wp2_with fail
          go_roundw
          case rel => exact ⟨k + 1, by omega, by omega, by go_num, HN2, HBr⟩
          case measure => simp [intOf]; omega
    · have HPL := Lib.hid (show ps.length ≤ 1000 → ∀ p ∈ ps, p.1.ls.length ≤ 1000 from fun h1000 p hp => by
        obtain ⟨j, hj, rfl⟩ := List.getElem_of_mem hp
        have := HLS.out j (by omega)
        simp [gp, List.getD_eq_getElem?_getD, hj] at this
        omega)
      have hv : (decide ((k : Int) < (ps.length : Int)) && decide ((k : Int) < 41)) = false := by
        rw [Bool.and_eq_false_iff]
        by_cases e : k < ps.length
        · exact .inr (decide_eq_false (by omega))
        · exact .inl (decide_eq_false (by omega))
      have c0 := cell_below HBr.out HCC.out.1
      have c1 := cell_below HBr.out HCC.out.2
      have lw := World.block_lt_of_cell? _ _ c0
      dsimp only at lw
      clear HLS HCC
      have e1 : k < ps.length := by omega
      have v1 : decide ((k : Int) < (ps.length : Int)) = true := decide_eq_true (by omega)
      have v3 : decide (k < ps.length) = true := decide_eq_true e1
      have v2 : decide ((k : Int) < 41) = false := decide_eq_false (by omega)
      have v4 : decide (k < 41) = false := decide_eq_false (by omega)
      clear hv hlt e1
      go_wp2_with (first | (go_at_call 64; refine (HJN.out _ HB2.out HPL.out).mono ?_; rintro e w3 ⟨v3, rfl, hv3, hb⟩; have HB3 := Lib.hid (below_trans HB2.out hb); have c0 := cell_below hb c0; have c1 := cell_below hb c1; have lw := World.block_lt_of_cell? _ _ c0; obtain ⟨A3, c3, rfl, hi3, -⟩ := hv3; have HI3 := Lib.hid hi3; clear hi3; clear hb) | (go_at_call 33; refine (HRC.out _ HB3.out).mono ?_; rintro e w4 ⟨rfl, hb⟩; have HB4 := Lib.hid (below_trans HB3.out hb); have c0 := cell_below hb c0; have c1 := cell_below hb c1; have lw := World.block_lt_of_cell? _ _ c0; have HI4 := Lib.hid (HI3.out.below hb); clear hb) | (go_at_call 65; refine (HRJ.out _ HB4.out HPL.out).mono ?_; rintro e w5 ⟨v5, rfl, hv5, hb⟩; have HB5 := Lib.hid (below_trans HB4.out hb); have c0 := cell_below hb c0; have c1 := cell_below hb c1; have lw := World.block_lt_of_cell? _ _ c0; obtain ⟨A5, c5, rfl, hi5, -⟩ := hv5; have HI5 := Lib.hid (And.intro (HI4.out.below hb) hi5); clear hi5; clear hb) | (go_at_call 23; refine (HSM.out _ _ _ _ _ HI5.out.1 HI5.out.2).mono ?_; rintro e w6 ⟨rfl, hb⟩; have HB6 := Lib.hid (below_trans HB5.out hb); have c0 := cell_below hb c0; have c1 := cell_below hb c1; have lw := World.block_lt_of_cell? _ _ c0; clear hb) | (go_at_call 61; refine (HPO.out _ HB6.out).mono ?_; rintro e w7 ⟨hb, L2, cc2, ps2, rfl, hp2, hps2, -⟩; have HB7 := Lib.hid (below_trans HB6.out hb); have c0 := cell_below hb c0; have c1 := cell_below hb c1; have lw := World.block_lt_of_cell? _ _ c0; have HP2 := Lib.hid hp2; have HPS2 := Lib.hid hps2; clear hp2 hps2; clear hb) | (go_at_call 21; refine (HRE.out _ HB7.out).mono ?_; rintro e w8 ⟨rfl, hb⟩; have HB8 := Lib.hid (below_trans HB7.out hb); have c0 := cell_below hb c0; have c1 := cell_below hb c1; have lw := World.block_lt_of_cell? _ _ c0; have HP3 := Lib.hid (HP2.out.below hb); clear hb) | (go_at_call 48; refine (HUN.out _ HB8.out).mono ?_; rintro e w9 ⟨rfl, hb⟩; have HB9 := Lib.hid (below_trans HB8.out hb); have c0 := cell_below hb c0; have c1 := cell_below hb c1; have lw := World.block_lt_of_cell? _ _ c0; have HP4 := Lib.hid (HP3.out.below hb); clear hb) | (go_at_call 49; refine (HCA.out _ HB9.out).mono ?_; rintro e wA ⟨rfl, hb⟩; have HBA := Lib.hid (below_trans HB9.out hb); have c0 := cell_below hb c0; have c1 := cell_below hb c1; have lw := World.block_lt_of_cell? _ _ c0; have HP5 := Lib.hid (HP4.out.below hb); clear hb) | (go_at_call 17; refine (sanity_any _).mono ?_; rintro e wz ⟨rfl, hb⟩; have HBz := Lib.hid (below_trans HBA.out hb); have HP6 := Lib.hid (HP5.out.below hb); have c0 := cell_below hb c0; have c1 := cell_below hb c1; have lw := World.block_lt_of_cell? _ _ c0; clear hb) | (go_at_call 66; refine (HRP.out _ HBz.out _ _ _ HP6.out HPS2.out).mono ?_; rintro e wy ⟨rfl, hb⟩; have HBy := Lib.hid (below_trans HBz.out hb); clear hb))
      go_ret
      exact ⟨rfl, HBy.out⟩
theorem paths_at (n : Int) (A : Option Addr) (c : Nat) (l : List Lk) (B : Option Addr) (d : Nat) (x : List Int) (C : Option Addr) (f : Nat) (u : List Int) (LA : Option Addr) (cc : Nat) (ps : List PV) (w : World)
    (h : LksAt w A l) (_ : A = none → l.length = 0 ∧ c = 0) (hl : l.length ≤ 9223372036854775807) (h1 : IntsAt w B x) (hn1 : B = none → x.length = 0 ∧ d = 0) (hx : x.length ≤ 9223372036854775807) (_ : ∀ v ∈ x, -9223372036854775808 ≤ v ∧ v ≤ 9223372036854775807) (h2 : IntsAt w C u) (hn2 : C = none → u.length = 0 ∧ f = 0) (hu : u.length ≤ 9223372036854775807) (_ : ∀ v ∈ u, -9223372036854775808 ≤ v ∧ v ≤ 9223372036854775807) (hp : PthsAt w LA ps) (_ : LA = none → ps.length = 0 ∧ cc = 0) (_ : ps.length ≤ 9223372036854775807) :
    Calls Try.prog 14 #[.agg #[.int .i64 n, .slice A l.length c], .slice B x.length d, .slice C u.length f, .slice LA ps.length cc] w fun e w' => e = .returned (.bool true) ∧ Below w.heap.size w w' := by
  by_cases hg : smallB n l.length = false ∨ 60 < x.length ∨ 300 < u.length ∨ (40 < ps.length ∧ ps.length ≤ 1000) ∨ 1010 < ps.length
  · exact paths_guard n A c l B d x C f u LA cc ps w hg
  · have hs : smallB n l.length = true := by
      cases hs : smallB n l.length
      · exact absurd (.inl hs) hg
      · rfl
    have hx60 : x.length ≤ 60 := Classical.byContradiction fun h => hg (.inr (.inl (by omega)))
    have hu300 : u.length ≤ 300 := Classical.byContradiction fun h => hg (.inr (.inr (.inl (by omega))))
    have hps : ps.length ≤ 40 ∨ (1000 < ps.length ∧ ps.length ≤ 1010) := Classical.byContradiction fun h => hg (.inr (.inr (.inr (by omega))))
    by_cases hck : checkL n l = 0
    · obtain ⟨N, rfl⟩ := Int.eq_ofNat_of_zero_le (show 0 ≤ n by have := (check_ok hck).n1; omega)
      by_cases hf : (flowR (N : Int) l x u).2 = 0
      · rcases hps with hps | ⟨hps, hps2⟩; exact paths_good_a N A c l B d x C f u LA cc ps w h h1 hn1 h2 hn2 hp hs hx60 hu300 hps hck hf; exact paths_good_b N A c l B d x C f u LA cc ps w h h1 hn1 h2 hn2 hp hs hx60 hu300 hps hps2 hck hf
      · rcases flow_errs hf with ⟨a1, a2⟩ | ⟨a1, a2, a3⟩ | ⟨a1, a2, a3, a4⟩
        · rcases hps with hps | ⟨hps, hps2⟩; exact paths_bad2_a N A c l B d x C f u LA cc ps w h h1 hn1 h2 hn2 hp hs hx60 hu300 hps hck hf a1 a2; exact paths_bad2_b N A c l B d x C f u LA cc ps w h h1 hn1 h2 hn2 hp hs hx60 hu300 hps hps2 hck hf a1 a2
        · rcases hps with hps | ⟨hps, hps2⟩; exact paths_bad3_a N A c l B d x C f u LA cc ps w h h1 hn1 h2 hn2 hp hs hx60 hu300 hps hck hf a1 a2 a3; exact paths_bad3_b N A c l B d x C f u LA cc ps w h h1 hn1 h2 hn2 hp hs hx60 hu300 hps hps2 hck hf a1 a2 a3
        · rcases hps with hps | ⟨hps, hps2⟩; exact paths_bad4_a N A c l B d x C f u LA cc ps w h h1 hn1 h2 hn2 hp hs hx60 hu300 hps hck hf a1 a2 a3 a4; exact paths_bad4_b N A c l B d x C f u LA cc ps w h h1 hn1 h2 hn2 hp hs hx60 hu300 hps hps2 hck hf a1 a2 a3 a4
    · rcases hps with hps | ⟨hps, hps2⟩; exact paths_bad1_a n A c l B d x C f u LA cc ps w h h1 hn1 h2 hn2 hp hs hx60 hu300 hps hck; exact paths_bad1_b n A c l B d x C f u LA cc ps w h h1 hn1 h2 hn2 hp hs hx60 hu300 hps hps2 hck
end Go.Proofs.Ytmhiiomejopaoaa
