/- The flow walks: CheckBoth, CheckClash -/
import Derived.Test.YtmhiiomejopaoaaGreatDoorM7
namespace Go.Proofs.YtmhiiomejopaoaaGreatDoor
set_option linter.all false
set_option maxRecDepth 100000
open Go.RowKit
set_option maxRecDepth 100000

def bothR (n : Int) (l : List Lk) (w u x : List Int) : Bool × Int :=
  if askedI n l w ≠ 0 then (false, askedI n l w)
  else if isFlowI l u = 1 ∨ areB n x = false then (false, 1)
  else if isFlowI l u ≠ 0 then (false, isFlowI l u)
  else (carriesB l w u && (fitsB x l && (costI l u == valueI w x)), 0)
theorem isFlow_len {l : List Lk} {u : List Int} (h : isFlowI l u ≠ 1) : u.length = l.length := by
  unfold isFlowI at h
  by_cases h1 : u.length = l.length
  · exact h1
  · have : (u.length != l.length) = true := by simpa using h1
    rw [this] at h
    simp at h
set_option maxRecDepth 100000 in
set_option maxHeartbeats 4000000 in
theorem both_any (n : Int) (A : Option Addr) (c : Nat) (l : List Lk) (B : Option Addr) (d : Nat) (x : List Int) (C : Option Addr) (f : Nat) (u : List Int) (D : Option Addr) (g : Nat) (y : List Int) (w : World) (hl : l.length ≤ 1000000) (hx : x.length ≤ 1000000) (hu : u.length ≤ 1000000) (hy : y.length ≤ 1000000) (h : LksAt w A l) (h1 : IntsAt w B x) (h2 : IntsAt w C u) (h3 : IntsAt w D y) (hB : B = none → x.length = 0 ∧ d = 0) :
    Calls Tryz.prog 21 #[.agg #[.int .i64 n, .slice A l.length c], .slice B x.length d, .slice C u.length f, .slice D y.length g] w fun e w' => e = .returned (.tuple #[.bool (bothR n l x u y).1, .int .i64 (bothR n l x u y).2]) ∧ Below w.heap.size w w' := by
  have HA := Lib.hid h
  have HX := Lib.hid h1
  have HU := Lib.hid h2
  have HY := Lib.hid h3
  have HBN := Lib.hid hB
  clear h h1 h2 h3 hB
  by_cases ha : askedI n l x = 0
  · have ha' : (askedI n l x != 0) = false := by simpa using ha
    have HH := Lib.hid ha
    clear ha
    cases hf1 : (isFlowI l u == 1)
    · have HF1 := Lib.hid (show isFlowI l u ≠ 1 by simpa using hf1)
      cases har : areB n y
      · have HR := Lib.hid (show bothR n l x u y = (false, 1) by unfold bothR; rw [if_neg (by simpa using HH.out), if_pos (.inr har)])
        go_enter Tryz.func21, Tryz.ntmps21
        go_wp2_with (first | (go_at_call 36; refine (asked_any n A c l B d x _ (by omega) (by omega) (HA.out.alloc _) (HX.out.alloc _)).mono ?_; rintro e w1 ⟨rfl, hb⟩; have HB := Lib.hid (boxed hb).1; obtain ⟨c0, c1, lw⟩ := (boxed hb).2; clear hb) | (go_at_call 45; refine (isFlow_any n A c l C f u _ (by omega) (HU.out.below HB.out)).mono ?_; rintro e w2 ⟨rfl, hb⟩; have HB2 := Lib.hid (below_trans HB.out hb); have c0 := cell_below hb c0; have c1 := cell_below hb c1; have lw := World.block_lt_of_cell? _ _ c0; clear hb) | (go_at_call 46; refine (are_any n _ D g y _ (by omega) (HY.out.below HB2.out)).mono ?_; rintro e w3 ⟨rfl, hb⟩; have HB3 := Lib.hid (below_trans HB2.out hb); clear hb))
        go_ret2
        exact ⟨by rw [HR.out]; rfl, HB3.out⟩
      · have HAR := Lib.hid har
        cases hf0 : (isFlowI l u != 0)
        · have HF0 := Lib.hid (show isFlowI l u = 0 by simpa using hf0)
          have HUL := Lib.hid (isFlow_len HF1.out)
          have hok := check_ok (asked_ok HH.out).1
          have HWL := Lib.hid (weights_len (asked_ok HH.out).2)
          have HIN := Lib.hid (show ∀ k ∈ l, InR x.length k by rw [HWL.out]; exact fun k hk => (hok.lk k hk).1)
          have HYL := Lib.hid (show y.length = x.length by have h1 := HAR.out; unfold areB at h1; simp only [Bool.and_eq_true, decide_eq_true_eq] at h1; have := HWL.out; omega)
          have HX0 := Lib.hid (show 0 < x.length by have := HWL.out; have := hok.n1; omega)
          have HR := Lib.hid (show bothR n l x u y = (carriesB l x u && (fitsB y l && (costI l u == valueI x y)), 0) by unfold bothR; rw [if_neg (by simpa using HH.out), if_neg (by rintro (h | h); exact HF1.out h; rw [HAR.out] at h; cases h), if_neg (by simpa using HF0.out)])
          clear hok
          have HHC := Lib.hid (fun W (hW : Below w.heap.size w W) => carries_any n A c l B d x C f u W hl hx HX0.out (by rw [HUL.out]; exact Nat.le_refl _) (HA.out.below hW) (HX.out.below hW) (HU.out.below hW) HBN.out HIN.out)
          have HHF := Lib.hid (fun W (hW : Below w.heap.size w W) => fits_any n A c l D g y W (by omega) (by omega) (HA.out.below hW) (HY.out.below hW) (by rw [HYL.out]; exact HIN.out))
          have HHK := Lib.hid (fun W (hW : Below w.heap.size w W) => cost_any n A c l C f u W (by omega) HUL.out (HA.out.below hW) (HU.out.below hW))
          have HHV := Lib.hid (fun W (hW : Below w.heap.size w W) => value_any B d x D g y W (by omega) (by rw [HYL.out]; exact Nat.le_refl _) (HX.out.below hW) (HY.out.below hW))
          generalize hca : carriesB l x u = ca at *
          generalize hfi : fitsB y l = fi at *
          clear hca hfi
          go_enter Tryz.func21, Tryz.ntmps21
          cases ca <;> cases fi
          all_goals
            go_wp2_with (first | (go_at_call 36; refine (asked_any n A c l B d x _ (by omega) (by omega) (HA.out.alloc _) (HX.out.alloc _)).mono ?_; rintro e w1 ⟨rfl, hb⟩; have HB := Lib.hid (boxed hb).1; obtain ⟨c0, c1, lw⟩ := (boxed hb).2; clear hb) | (go_at_call 45; refine (isFlow_any n A c l C f u _ (by omega) (HU.out.below HB.out)).mono ?_; rintro e w2 ⟨rfl, hb⟩; have HB2 := Lib.hid (below_trans HB.out hb); have c0 := cell_below hb c0; have c1 := cell_below hb c1; have lw := World.block_lt_of_cell? _ _ c0; clear hb) | (go_at_call 46; refine (are_any n _ D g y _ (by omega) (HY.out.below HB2.out)).mono ?_; rintro e w3 ⟨rfl, hb⟩; have HB3 := Lib.hid (below_trans HB2.out hb); have c0 := cell_below hb c0; have c1 := cell_below hb c1; have lw := World.block_lt_of_cell? _ _ c0; clear hb) | (go_at_call 47; refine (HHC.out _ HB3.out).mono ?_; rintro e w4 ⟨rfl, hb⟩; have HB4 := Lib.hid (below_trans HB3.out hb); have c0 := cell_below hb c0; have c1 := cell_below hb c1; have lw := World.block_lt_of_cell? _ _ c0; clear hb) | (go_at_call 48; refine (HHF.out _ HB4.out).mono ?_; rintro e w5 ⟨rfl, hb⟩; have HB5 := Lib.hid (below_trans HB4.out hb); have c0 := cell_below hb c0; have c1 := cell_below hb c1; have lw := World.block_lt_of_cell? _ _ c0; clear hb) | (go_at_call 43; refine (HHK.out _ HB5.out).mono ?_; rintro e w6 ⟨rfl, hb⟩; have HB6 := Lib.hid (below_trans HB5.out hb); clear hb) | (go_at_call 49; refine (HHV.out _ HB6.out).mono ?_; rintro e w7 ⟨rfl, hb⟩; have HB7 := Lib.hid (below_trans HB6.out hb); clear hb))
            go_ret2
            first
              | exact ⟨by rw [HR.out]; simp, HB7.out⟩
              | exact ⟨by rw [HR.out]; simp, HB5.out⟩
              | exact ⟨by rw [HR.out]; simp, HB4.out⟩
        · have HR := Lib.hid (show bothR n l x u y = (false, isFlowI l u) by unfold bothR; rw [if_neg (by simpa using HH.out), if_neg (by rintro (h | h); exact HF1.out h; rw [HAR.out] at h; cases h), if_pos (by simpa using hf0)])
          go_enter Tryz.func21, Tryz.ntmps21
          go_wp2_with (first | (go_at_call 36; refine (asked_any n A c l B d x _ (by omega) (by omega) (HA.out.alloc _) (HX.out.alloc _)).mono ?_; rintro e w1 ⟨rfl, hb⟩; have HB := Lib.hid (boxed hb).1; obtain ⟨c0, c1, lw⟩ := (boxed hb).2; clear hb) | (go_at_call 45; refine (isFlow_any n A c l C f u _ (by omega) (HU.out.below HB.out)).mono ?_; rintro e w2 ⟨rfl, hb⟩; have HB2 := Lib.hid (below_trans HB.out hb); have c0 := cell_below hb c0; have c1 := cell_below hb c1; have lw := World.block_lt_of_cell? _ _ c0; clear hb) | (go_at_call 46; refine (are_any n _ D g y _ (by omega) (HY.out.below HB2.out)).mono ?_; rintro e w3 ⟨rfl, hb⟩; have HB3 := Lib.hid (below_trans HB2.out hb); clear hb))
          go_ret2
          exact ⟨by rw [HR.out]; rfl, HB3.out⟩
    · have HR := Lib.hid (show bothR n l x u y = (false, 1) by unfold bothR; rw [if_neg (by simpa using HH.out), if_pos (.inl (by simpa using hf1))])
      go_enter Tryz.func21, Tryz.ntmps21
      go_wp2_with (first | (go_at_call 36; refine (asked_any n A c l B d x _ (by omega) (by omega) (HA.out.alloc _) (HX.out.alloc _)).mono ?_; rintro e w1 ⟨rfl, hb⟩; have HB := Lib.hid (boxed hb).1; obtain ⟨c0, c1, lw⟩ := (boxed hb).2; clear hb) | (go_at_call 45; refine (isFlow_any n A c l C f u _ (by omega) (HU.out.below HB.out)).mono ?_; rintro e w2 ⟨rfl, hb⟩; have HB2 := Lib.hid (below_trans HB.out hb); clear hb))
      go_ret2
      exact ⟨by rw [HR.out]; rfl, HB2.out⟩
  · have ha' : (askedI n l x != 0) = true := by simpa using ha
    have HR := Lib.hid (show bothR n l x u y = (false, askedI n l x) by unfold bothR; rw [if_pos (by simpa using ha)])
    clear ha
    go_enter Tryz.func21, Tryz.ntmps21
    go_wp2_with (go_at_call 36; refine (asked_any n A c l B d x _ (by omega) (by omega) (HA.out.alloc _) (HX.out.alloc _)).mono ?_; rintro e w1 ⟨rfl, hb⟩; have HB := Lib.hid (boxed hb).1; clear hb)
    go_ret2
    exact ⟨by rw [HR.out]; rfl, HB.out⟩

theorem cf95 : ∀ args w, (callFunc 52 args).run Tryz.prog w = .ok (.enter 52 args) w := fun _ _ => by kernel_rfl
set_option maxHeartbeats 400000 in
theorem clash1_any (i : Int) (b : Nat) (A : Option Addr) (m c : Nat) (w : World) (h : w.cell? ⟨b, 1, none⟩ = some (.slice A m c)) (hm : m ≤ 1000000) :
    Calls Tryz.prog 52 #[.int .i64 i, .pointer (some ⟨b, 0, none⟩)] w fun e w' => e = .returned (.bool (!withinB i 0 ((m : Int) - 1))) ∧ Below w.heap.size w w' := by
  have hb := World.block_lt_of_cell? _ _ h
  dsimp only at hb
  go_enter Tryz.func52, Tryz.ntmps52
  go_wp2_with (go_at_call 53; refine (within_any _ _ _ _).mono ?_; rintro e w' ⟨rfl, rfl⟩)
  go_ret
  exact ⟨rfl, bel⟩
def badIdx (m : Nat) (i : Int) : Bool := !withinB i 0 ((m : Int) - 1)
def clashI (n : Int) (l : List Lk) (p : List Int) : Int :=
  if checkL n l ≠ 0 then checkL n l
  else if 50 < p.length then 2
  else if p.any (badIdx l.length) then 1
  else if p.length = 0 then 8
  else match leadsO l (gl l (gi p 0)).a p with
    | none => 8
    | some (t, s) => if t = (gl l (gi p 0)).a ∧ s < 0 then 0 else 8
set_option maxRecDepth 100000 in
set_option maxHeartbeats 4000000 in
theorem clash_any (n : Int) (A : Option Addr) (c : Nat) (l : List Lk) (B : Option Addr) (d : Nat) (p : List Int) (w : World) (hl : l.length ≤ 1000000) (hp : p.length ≤ 1000000) (h : LksAt w A l) (h' : IntsAt w B p) :
    Calls Tryz.prog 24 #[.agg #[.int .i64 n, .slice A l.length c], .slice B p.length d] w fun e w' => e = .returned (.int .i64 (clashI n l p)) ∧ Below w.heap.size w w' := by
  have HA := Lib.hid h
  have HP := Lib.hid h'
  clear h h'
  by_cases hc : checkL n l = 0
  · have hc' : (checkL n l != 0) = false := by simpa using hc
    have HC := Lib.hid hc
    clear hc
    by_cases h50 : 50 < p.length
    · have HR := Lib.hid (show clashI n l p = 2 by unfold clashI; rw [if_neg (by simpa using HC.out), if_pos h50])
      go_enter Tryz.func24, Tryz.ntmps24
      go_wp2_with (go_at_call 25; refine (check_any n A c l _ (by omega) (HA.out.alloc _)).mono ?_; rintro e w1 ⟨rfl, hb⟩; have HB := Lib.hid (boxed hb).1; clear hb)
      go_ret
      exact ⟨by rw [HR.out]; rfl, HB.out⟩
    · cases hbad : p.any (badIdx l.length)
      · have HBAD := Lib.hid hbad
        clear hbad
        by_cases hp0 : p.length = 0
        · have HR := Lib.hid (show clashI n l p = 8 by unfold clashI; rw [if_neg (by simpa using HC.out), if_neg h50, HBAD.out, if_neg (by simp), if_pos hp0])
          obtain rfl := List.length_eq_zero_iff.1 hp0
          simp only [List.length_nil] at *
          go_enter Tryz.func24, Tryz.ntmps24
          go_wp2_with (first | (go_at_call 25; refine (check_any n A c l _ (by omega) (HA.out.alloc _)).mono ?_; rintro e w1 ⟨rfl, hb⟩; have HB := Lib.hid (boxed hb).1; obtain ⟨c0, c1, lw⟩ := (boxed hb).2; clear hb) | (go_at_call 51; refine (containsFunc_int 52 #[.pointer (some ⟨w.heap.size, 0, none⟩)] (badIdx l.length) B d [] _ (by simp) (HP.out.below HB.out) cf95 (fun y W _ hW => clash1_any y _ A l.length c W (cell_below hW c1) hl)).mono ?_; rw [HBAD.out]; rintro e w2 ⟨rfl, hb⟩; have HB2 := Lib.hid (below_trans HB.out hb); clear hb))
          go_ret
          exact ⟨by rw [HR.out]; rfl, HB2.out⟩
        · have hp1 : 0 < p.length := by omega
          have hp2 : (0 : Int) < (p.length : Int) := by omega
          have hmem := gi_mem (l := p) (i := 0) (by omega) (by omega)
          have hin : 0 ≤ gi p 0 ∧ gi p 0 < l.length := by
            have := List.any_eq_false.1 HBAD.out _ hmem
            simp only [badIdx, withinB, Bool.not_eq_true', Bool.not_eq_false', Bool.and_eq_true, decide_eq_true_eq, Bool.not_eq_true] at this
            simp at this
            omega
          obtain ⟨hi0, hi1⟩ := hin
          have HIG := Lib.hid (And.intro hi0 hi1)
          obtain ⟨b2, o2, rfl, g1⟩ := HP.out.nat 0 hp1
          obtain ⟨b3, o3, rfl, g2, g3, g4⟩ := HA.out (gi p 0) hi0 hi1
          simp only [Int.natCast_zero, Nat.add_zero] at g1
          have HR := Lib.hid (show clashI n l p = match leadsO l (gl l (gi p 0)).a p with | none => 8 | some (t, s) => if t = (gl l (gi p 0)).a ∧ s < 0 then 0 else 8 by unfold clashI; rw [if_neg (by simpa using HC.out), if_neg h50, HBAD.out, if_neg (by simp), if_neg hp0])
          have HG := Lib.hid (And.intro g1 g2)
          have b50 : ¬ (50 : Int) < (p.length : Int) := by omega
          have HH := Lib.hid (fun W (hW : Below w.heap.size w W) s => leads_any n (some ⟨b3, o3, none⟩) c l s (some ⟨b2, o2, none⟩) d p W hl (by omega) (HA.out.below hW) (HP.out.below hW))
          clear g1 g2 g3 g4 hmem
          generalize hq : gi p 0 = q at *
          have HQ := Lib.hid hq
          clear hq
          go_enter Tryz.func24, Tryz.ntmps24
          go_upto_region 10 with (first | (go_at_call 25; refine (check_any n (some ⟨b3, o3, none⟩) c l _ (by omega) (HA.out.alloc _)).mono ?_; rintro e w1 ⟨rfl, hb⟩; have HB := Lib.hid (boxed hb).1; obtain ⟨c0, c1, lw⟩ := (boxed hb).2; clear hb) | (go_at_call 51; refine (containsFunc_int 52 #[.pointer (some ⟨w.heap.size, 0, none⟩)] (badIdx l.length) (some ⟨b2, o2, none⟩) d p _ (by omega) (HP.out.below HB.out) cf95 (fun y W _ hW => clash1_any y _ (some ⟨b3, o3, none⟩) l.length c W (cell_below hW c1) hl)).mono ?_; rw [HBAD.out]; rintro e w2 ⟨rfl, hb⟩; have HB2 := Lib.hid (below_trans HB.out hb); have c0 := cell_below hb c0; have c1 := cell_below hb c1; have lw := World.block_lt_of_cell? _ _ c0; clear hb))
          have g1 := cell_below HB2.out HG.out.1
          have g2 := cell_below HB2.out HG.out.2
          have l2 := World.block_lt_of_cell? _ _ g1
          have l3 := World.block_lt_of_cell? _ _ g2
          go_quiet (fail)
          have HB3 := Lib.hid (below_drews HB2.out nq)
          have HLE := Lib.hid (HH.out _ HB3.out (gl l q).a)
          have c0 : (w2.drewN nq).cell? ⟨w.heap.size, 0, none⟩ = some (.int .i64 n) := c0
          have c1 : (w2.drewN nq).cell? ⟨w.heap.size, 1, none⟩ = some (.slice (some ⟨b3, o3, none⟩) l.length c) := c1
          have lw3 : w.heap.size < (w2.drewN nq).heap.size := lw
          clear g1 g2 l2 l3
          have HRR := Lib.hid HR.out
          have HR2 := Lib.hid (show ∀ o, leadsO l (gl l q).a p = o → clashI n l p = match (generalizing := false) o with | none => 8 | some (t, s) => if t = (gl l q).a ∧ s < 0 then 0 else 8 from fun o ho => by rw [HR.out, ho])
          clear HR
          generalize (gl l q).a = a at *
          generalize w2.drewN nq = w3 at *
          cases hle : leadsO l a p with
          | none =>
            have HX := Lib.hid (HR2.out _ hle)
            rw [hle] at HLE
            clear hle
            go_wp2_with (go_at_call 54; refine HLE.out.mono ?_; unfold leadsV; rintro e w4 ⟨rfl, hb⟩; have HB4 := Lib.hid (below_trans HB3.out hb); clear hb)
            go_ret
            exact ⟨by rw [HX.out]; rfl, HB4.out⟩
          | some ts =>
            obtain ⟨t, s⟩ := ts
            have HX := Lib.hid (HR2.out _ hle)
            rw [hle] at HLE
            clear hle
            by_cases hta : t = a
            · subst hta
              by_cases hs : s < 0
              · have HX2 := Lib.hid (show clashI n l p = 0 by rw [HX.out]; simp [hs])
                go_wp2_with (go_at_call 54; refine HLE.out.mono ?_; unfold leadsV; rintro e w4 ⟨rfl, hb⟩; have HB4 := Lib.hid (below_trans HB3.out hb); clear hb)
                go_ret
                exact ⟨by rw [HX2.out]; rfl, HB4.out⟩
              · have HX2 := Lib.hid (show clashI n l p = 8 by rw [HX.out]; simp [hs])
                go_wp2_with (go_at_call 54; refine HLE.out.mono ?_; unfold leadsV; rintro e w4 ⟨rfl, hb⟩; have HB4 := Lib.hid (below_trans HB3.out hb); clear hb)
                go_ret
                exact ⟨by rw [HX2.out]; rfl, HB4.out⟩
            · have hta' : (t != a) = true := by simpa using hta
              have HX2 := Lib.hid (show clashI n l p = 8 by rw [HX.out]; simp [hta])
              clear hta
              go_wp2_with (go_at_call 54; refine HLE.out.mono ?_; unfold leadsV; rintro e w4 ⟨rfl, hb⟩; have HB4 := Lib.hid (below_trans HB3.out hb); clear hb)
              go_ret
              exact ⟨by rw [HX2.out]; rfl, HB4.out⟩
      · have HR := Lib.hid (show clashI n l p = 1 by unfold clashI; rw [if_neg (by simpa using HC.out), if_neg h50, if_pos hbad])
        have HBAD := Lib.hid hbad
        clear hbad
        go_enter Tryz.func24, Tryz.ntmps24
        go_wp2_with (first | (go_at_call 25; refine (check_any n A c l _ (by omega) (HA.out.alloc _)).mono ?_; rintro e w1 ⟨rfl, hb⟩; have HB := Lib.hid (boxed hb).1; obtain ⟨c0, c1, lw⟩ := (boxed hb).2; clear hb) | (go_at_call 51; refine (containsFunc_int 52 #[.pointer (some ⟨w.heap.size, 0, none⟩)] (badIdx l.length) B d p _ (by omega) (HP.out.below HB.out) cf95 (fun y W _ hW => clash1_any y _ A l.length c W (cell_below hW c1) hl)).mono ?_; rw [HBAD.out]; rintro e w2 ⟨rfl, hb⟩; have HB2 := Lib.hid (below_trans HB.out hb); clear hb))
        go_ret
        exact ⟨by rw [HR.out]; rfl, HB2.out⟩
  · have hc' : (checkL n l != 0) = true := by simpa using hc
    have HR := Lib.hid (show clashI n l p = checkL n l by unfold clashI; rw [if_pos (by simpa using hc)])
    clear hc
    go_enter Tryz.func24, Tryz.ntmps24
    go_wp2_with (go_at_call 25; refine (check_any n A c l _ (by omega) (HA.out.alloc _)).mono ?_; rintro e w1 ⟨rfl, hb⟩; have HB := Lib.hid (boxed hb).1; clear hb)
    go_ret
    exact ⟨by rw [HR.out]; rfl, HB.out⟩
end Go.Proofs.YtmhiiomejopaoaaGreatDoor
