/- The flow walks: CheckWeights, CheckFlow, Reach. -/
import Derived.Test.YtmhiiomejopaoaaM9
import Derived.Test.YtmhiiomejopaoaaM4
namespace Go.Proofs.Ytmhiiomejopaoaa
set_option linter.all false
open Go.RowKit
set_option maxRecDepth 100000

set_option maxRecDepth 100000 in
set_option maxHeartbeats 1000000 in
theorem checkW_any (n : Int) (A : Option Addr) (c : Nat) (l : List Lk) (B : Option Addr) (d : Nat) (x : List Int) (w : World) (hl : l.length ≤ 1000000) (hx : x.length ≤ 1000000) (h : LksAt w A l) (h1 : IntsAt w B x) :
    Calls Try.prog 28 #[.agg #[.int .i64 n, .slice A l.length c], .slice B x.length d] w fun e w' => e = .returned (.int .i64 (askedI n l x)) ∧ Below w.heap.size w w' := by
  have HA := Lib.hid h
  have HX := Lib.hid h1
  clear h h1
  go_enter Try.func28, Try.ntmps28
  go_wp2_with (go_at_call 76; refine (asked_any n A c l B d x _ (by omega) (by omega) (HA.out.alloc _) (HX.out.alloc _)).mono ?_; rintro e w1 ⟨rfl, hb⟩; have HB := Lib.hid (boxed hb).1; clear hb)
  go_ret
  exact ⟨rfl, HB.out⟩
def flowR (n : Int) (l : List Lk) (w u : List Int) : Int × Int :=
  if askedI n l w ≠ 0 then (0, askedI n l w) else if isFlowI l u ≠ 0 then (0, isFlowI l u) else if carriesB l w u = false then (0, 8) else (costI l u, 0)
set_option maxRecDepth 100000 in
set_option maxHeartbeats 4000000 in
theorem CheckFlow_any (n : Int) (A : Option Addr) (c : Nat) (l : List Lk) (B : Option Addr) (d : Nat) (x : List Int) (C : Option Addr) (f : Nat) (u : List Int) (w : World) (hl : l.length ≤ 1000000) (hx : x.length ≤ 1000000) (hu : u.length ≤ 1000000) (h : LksAt w A l) (h1 : IntsAt w B x) (h2 : IntsAt w C u) (hB : B = none → x.length = 0 ∧ d = 0) :
    Calls Try.prog 46 #[.agg #[.int .i64 n, .slice A l.length c], .slice B x.length d, .slice C u.length f] w fun e w' => e = .returned (.tuple #[.int .i64 (flowR n l x u).1, .int .i64 (flowR n l x u).2]) ∧ Below w.heap.size w w' := by
  have HA := Lib.hid h
  have HX := Lib.hid h1
  have HU := Lib.hid h2
  have HBN := Lib.hid hB
  clear h h1 h2 hB
  by_cases ha : askedI n l x = 0
  · have ha' : (askedI n l x != 0) = false := by simpa using ha
    have HH := Lib.hid ha
    clear ha
    cases hf0 : (isFlowI l u != 0)
    · have HF0 := Lib.hid (show isFlowI l u = 0 by simpa using hf0)
      have HUL := Lib.hid (isFlow_len (by rw [HF0.out]; decide))
      have hok := check_ok (asked_ok HH.out).1
      have HWL := Lib.hid (weights_len (asked_ok HH.out).2)
      have HIN := Lib.hid (show ∀ k ∈ l, InR x.length k by rw [HWL.out]; exact fun k hk => (hok.lk k hk).1)
      have HX0 := Lib.hid (show 0 < x.length by have := HWL.out; have := hok.n1; omega)
      have HR := Lib.hid (show flowR n l x u = if carriesB l x u = false then (0, 8) else (costI l u, 0) by unfold flowR; rw [if_neg (by simpa using HH.out), if_neg (by simpa using HF0.out)])
      clear hok
      have HHC := Lib.hid (fun W (hW : Below w.heap.size w W) => carries_any n A c l B d x C f u W hl hx HX0.out (by rw [HUL.out]; exact Nat.le_refl _) (HA.out.below hW) (HX.out.below hW) (HU.out.below hW) HBN.out HIN.out)
      have HHK := Lib.hid (fun W (hW : Below w.heap.size w W) => cost_any n A c l C f u W (by omega) HUL.out (HA.out.below hW) (HU.out.below hW))
      generalize hca : carriesB l x u = ca at *
      clear hca
      go_enter Try.func46, Try.ntmps46
      cases ca
      all_goals
        go_wp2_with (first | (go_at_call 76; refine (asked_any n A c l B d x _ (by omega) (by omega) (HA.out.alloc _) (HX.out.alloc _)).mono ?_; rintro e w1 ⟨rfl, hb⟩; have HB := Lib.hid (boxed hb).1; obtain ⟨c0, c1, lw⟩ := (boxed hb).2; clear hb) | (go_at_call 87; refine (isFlow_any n A c l C f u _ (by omega) (HU.out.below HB.out)).mono ?_; rintro e w2 ⟨rfl, hb⟩; have HB2 := Lib.hid (below_trans HB.out hb); have c0 := cell_below hb c0; have c1 := cell_below hb c1; have lw := World.block_lt_of_cell? _ _ c0; clear hb) | (go_at_call 88; refine (HHC.out _ HB2.out).mono ?_; rintro e w4 ⟨rfl, hb⟩; have HB4 := Lib.hid (below_trans HB2.out hb); have c0 := cell_below hb c0; have c1 := cell_below hb c1; have lw := World.block_lt_of_cell? _ _ c0; clear hb) | (go_at_call 70; refine (HHK.out _ HB4.out).mono ?_; rintro e w5 ⟨rfl, hb⟩; have HB5 := Lib.hid (below_trans HB4.out hb); clear hb))
        go_ret2
        first
          | exact ⟨by rw [HR.out]; rfl, HB5.out⟩
          | exact ⟨by rw [HR.out]; rfl, HB4.out⟩
    · have HR := Lib.hid (show flowR n l x u = (0, isFlowI l u) by unfold flowR; rw [if_neg (by simpa using HH.out), if_pos (by simpa using hf0)])
      go_enter Try.func46, Try.ntmps46
      go_wp2_with (first | (go_at_call 76; refine (asked_any n A c l B d x _ (by omega) (by omega) (HA.out.alloc _) (HX.out.alloc _)).mono ?_; rintro e w1 ⟨rfl, hb⟩; have HB := Lib.hid (boxed hb).1; obtain ⟨c0, c1, lw⟩ := (boxed hb).2; clear hb) | (go_at_call 87; refine (isFlow_any n A c l C f u _ (by omega) (HU.out.below HB.out)).mono ?_; rintro e w2 ⟨rfl, hb⟩; have HB2 := Lib.hid (below_trans HB.out hb); clear hb))
      go_ret2
      exact ⟨by rw [HR.out]; rfl, HB2.out⟩
  · have ha' : (askedI n l x != 0) = true := by simpa using ha
    have HR := Lib.hid (show flowR n l x u = (0, askedI n l x) by unfold flowR; rw [if_pos (by simpa using ha)])
    clear ha
    go_enter Try.func46, Try.ntmps46
    go_wp2_with (go_at_call 76; refine (asked_any n A c l B d x _ (by omega) (by omega) (HA.out.alloc _) (HX.out.alloc _)).mono ?_; rintro e w1 ⟨rfl, hb⟩; have HB := Lib.hid (boxed hb).1; clear hb)
    go_ret2
    exact ⟨by rw [HR.out]; rfl, HB.out⟩

/-- The first values of a list, less a number. -/
def redN (s : Int) : Nat → List Int → List Int
  | 0, x => x
  | k + 1, x => (redN s k x).set k (wrap64 (gi x k - s))
theorem redN_length (s : Int) : ∀ (k : Nat) (x : List Int), (redN s k x).length = x.length
  | 0, _ => rfl
  | k + 1, x => by simp [redN, redN_length s k x]
theorem redN_later (s : Int) (j : Nat) (x : List Int) : ∀ (k : Nat), k ≤ j → gi (redN s k x) j = gi x j
  | 0, _ => rfl
  | k + 1, h => by
    have := redN_later s j x k (by omega)
    rw [gi_nat, gi_nat] at this ⊢
    simp only [redN, List.getD_eq_getElem?_getD] at this ⊢
    rw [List.getElem?_set_ne (by omega)]
    exact this
def redL (x : List Int) : List Int := redN (gi x 0) x.length x
def reachL (n : Nat) (l : List Lk) (u : List Int) : List Int := redL (solutionL n (rigidL l u)).1
set_option maxRecDepth 100000 in
set_option maxHeartbeats 4000000 in
theorem reach_no (r : List Int × Int) (n : Int) (A : Option Addr) (c m : Nat) (b : Value) (w : World) (h0 : ¬ r.2 = 0) (HP : Calls Try.prog 45 #[.agg #[.int .i64 n, .slice A m c], b] (w.alloc (.cells #[.int .i64 n, .slice A m c] 24)) fun e w' => ∃ v, e = .returned (.tuple #[v, .int .i64 r.2]) ∧ IntsV w' v r.1 ∧ Below (w.alloc (.cells #[.int .i64 n, .slice A m c] 24)).heap.size (w.alloc (.cells #[.int .i64 n, .slice A m c] 24)) w') :
    Calls Try.prog 44 #[.agg #[.int .i64 n, .slice A m c], b] w fun e w' => e = .returned (.tuple #[.slice none 0 0, .int .i64 r.2]) ∧ Below w.heap.size w w' := by
  have HPP := Lib.hid HP
  have hc' : (r.2 != 0) = true := by simpa using h0
  clear HP h0
  go_enter Try.func44, Try.ntmps44
  go_wp2_with (go_at_call 45; refine HPP.out.mono ?_; rintro e w1 ⟨v, rfl, hv, hb⟩; have HB := Lib.hid (boxed hb).1; clear hb hv)
  go_ret2
  exact ⟨rfl, HB.out⟩
set_option maxRecDepth 100000 in
set_option maxHeartbeats 4000000 in
theorem reach_yes (r : List Int × Int) (n : Nat) (A : Option Addr) (c : Nat) (l : List Lk) (b : Value) (w : World) (hn0 : 0 < n) (hn : n ≤ 1000) (hl : l.length ≤ 1000) (hu : r.1.length = l.length) (hnil : A = none → l.length = 0 ∧ c = 0) (h : LksAt w A l) (hr : ∀ k ∈ l, InR n k) (hsol : (solutionL n (rigidL l r.1)).2 = true)
    (HP : Calls Try.prog 45 #[.agg #[.int .i64 n, .slice A l.length c], b] (w.alloc (.cells #[.int .i64 n, .slice A l.length c] 24)) fun e w' => ∃ v, e = .returned (.tuple #[v, .int .i64 0]) ∧ IntsV w' v r.1 ∧ Below (w.alloc (.cells #[.int .i64 n, .slice A l.length c] 24)).heap.size (w.alloc (.cells #[.int .i64 n, .slice A l.length c] 24)) w') :
    Calls Try.prog 44 #[.agg #[.int .i64 n, .slice A l.length c], b] w fun e w' => ∃ v, e = .returned (.tuple #[v, .int .i64 0]) ∧ IntsV w' v (reachL n l r.1) ∧ Below w.heap.size w w' := by
  have HA := Lib.hid h
  have HN := Lib.hid hnil
  have HU := Lib.hid hu
  have HR := Lib.hid hr
  have HPP := Lib.hid HP
  have HS := Lib.hid hsol
  have HRL := Lib.hid (show (rigidL l r.1).length ≤ 1000000 by unfold rigidL; have := backs_len l r.1; rw [List.length_append]; omega)
  clear h hnil hr HP hu hsol
  go_enter Try.func44, Try.ntmps44
  go_upto_region 4 with (go_at_call 45; refine HPP.out.mono ?_; rintro e w1 ⟨v, rfl, ⟨A3, c3, rfl, hv, _⟩, hb⟩; have HB := Lib.hid (boxed hb).1; obtain ⟨q0, q1, lw⟩ := (boxed hb).2; have HV := Lib.hid hv; clear hb hv)
  have HA1 := Lib.hid (HA.out.below HB.out)
  go_cut [8] from 9 (fun q wx => ∃ g : Nat, q = .slice (some ⟨g, 0, none⟩) n n ∧ Hid (w.heap.size ≤ g) ∧ Hid (RowI wx g (solutionL n (rigidL l r.1)).1) ∧ Hid (Below w.heap.size w wx))
  case first =>
    go_region_held3 (fun w' => w'.cell? ⟨w.heap.size, 0, none⟩ = some (.int .i64 n) ∧ w'.cell? ⟨w.heap.size, 1, none⟩ = some (.slice A l.length c)) (first | exact ⟨q0, q1⟩ | exact ⟨cell_below hb2 q0, cell_below hb2 q1⟩ | exact ⟨cell_below hb3 (cell_below hb2 q0), cell_below hb3 (cell_below hb2 q1)⟩) (first
      | (go_at_call 68; refine (rigid_any n A c l A3 c3 r.1 _ (by omega) HU.out HN.out ?hl ?hv).mono ?_; (case hl => exact HA1.out); (case hv => exact HV.out); rintro e w2 ⟨v, rfl, ho, hb2⟩; obtain ⟨A2, c2, rfl, hv2, _⟩ := own_lksV ho; have HL2 := Lib.hid hv2; clear hv2 ho)
      | (go_at_call 81; refine (solution_yes n A2 c2 (rigidL l r.1) _ (by omega) HRL.out ?hl (rigid_inr HR.out) HS.out).mono ?_; (case hl => exact HL2.out); rintro e w3 ⟨g, rfl, hg, hrow, hb3⟩))
    all_goals
      go_wp2_with fail
      go_meet
      exact ⟨g, rfl, Lib.hid (by have h1 := HB.out.size; have h2 : w1.heap.size ≤ w2.heap.size := hb2.size; omega), Lib.hid hrow, Lib.hid (below_trans (below_trans HB.out (below_undrew hb2)) hb3)⟩
  case rest =>
    obtain ⟨g, rfl, HG, HRW, HBW⟩ := hcut
    have HFIN := Lib.hid (show reachL n l r.1 = redL (solutionL n (rigidL l r.1)).1 from rfl)
    have HXL := Lib.hid (solutionL_length n (rigidL l r.1))
    generalize (solutionL n (rigidL l r.1)).1 = x at HRW HFIN HXL
    have hxl := HXL.out
    subst hxl
    have c0 := HRW.out.cell 0 hn0
    have lg := HRW.out.lt
    have hn0' : (0 : Int) < (x.length : Int) := by omega
    clear q0 q1 lw
    go_wp2
    clear c0 lg
    go_loopw [11, 35] (fun _ i wr => ∃ k : Nat, i = .int .i64 k ∧ k ≤ x.length ∧ Hid (RowI wr g (redN (gi x 0) k x)) ∧ Hid (Below w.heap.size w wr)) (fun _ i _ => x.length - (intOf i).toNat)
    case atStart => exact ⟨0, rfl, by omega, HRW, HBW⟩
    case round =>
      obtain ⟨k, rfl, hk, HRk, HBk⟩ := hrel
      by_cases hlt : k < x.length
      · have ck := HRk.out.cell k (by rw [redN_length]; exact hlt)
        rw [redN_later _ k x k (Nat.le_refl _)] at ck
        have fk := HRk.out.frozen k
        have lg := HRk.out.lt
        go_wp2
        go_roundw
        case rel => exact ⟨k + 1, by go_num, by omega, Lib.hid (by show RowI _ g ((redN (gi x 0) k x).set k (wrap64 (gi x k - gi x 0))); exact HRk.out.set k _), Lib.hid (HBk.out.setCell HG.out _)⟩
        case measure => simp [intOf]; omega
      · obtain rfl : k = x.length := by omega
        have HIV := Lib.hid (show IntsV wr (.slice (some ⟨g, 0, none⟩) x.length x.length) (redL x) by have := HRk.out.intsV (c := x.length); rw [redN_length] at this; exact this)
        clear hlt
        go_wp2
        go_ret2
        exact ⟨_, rfl, by rw [HFIN.out]; exact HIV.out, HBk.out⟩
def reachR (n : Int) (l : List Lk) (r : List Int × Int) : List Int × Int := if r.2 = 0 then (reachL n.toNat l r.1, 0) else ([], r.2)
theorem reach_any (F : Nat) (r : List Int × Int) (n : Int) (A : Option Addr) (c : Nat) (l : List Lk) (B : Option Addr) (d : Nat) (x : List Int) (w : World) (hl : l.length ≤ 1000) (hx : x.length ≤ 1000000) (hnil : A = none → l.length = 0 ∧ c = 0) (h : LksAt w A l) (h' : IntsAt w B x) (hb : proveP F n l x = some r) (hsol : r.2 = 0 → (solutionL n.toNat (rigidL l r.1)).2 = true) :
    Calls Try.prog 44 #[.agg #[.int .i64 n, .slice A l.length c], .slice B x.length d] w fun e w' => ∃ v, e = .returned (.tuple #[v, .int .i64 (reachR n l r).2]) ∧ IntsV w' v (reachR n l r).1 ∧ Below w.heap.size w w' := by
  have hp := prove_any F r n A c l B d x (w.alloc (.cells #[.int .i64 n, .slice A l.length c] 24)) hl hx (h.alloc _) (h'.alloc _) hb
  by_cases h0 : r.2 = 0
  · obtain ⟨hok, _, _, hu⟩ := prove_ok hb h0
    have hcast : ((n.toNat : Nat) : Int) = n := by have := hok.n1; omega
    have hs := hsol h0
    rw [h0] at hp
    have hy := reach_yes r n.toNat A c l (.slice B x.length d) w (by have := hok.n1; omega) (by have := hok.n2; omega) hl hu hnil h (by rw [hcast]; exact fun k hk => (hok.lk k hk).1) hs (by rw [hcast]; exact hp)
    rw [hcast] at hy
    have e : reachR n l r = (reachL n.toNat l r.1, 0) := by unfold reachR; rw [if_pos h0]
    rw [e]
    exact hy
  · have e : reachR n l r = ([], r.2) := by unfold reachR; rw [if_neg h0]
    rw [e]
    exact (reach_no r n A c l.length _ w h0 hp).mono fun e w' he => ⟨_, he.1, IntsV.nil _, he.2⟩
end Go.Proofs.Ytmhiiomejopaoaa
