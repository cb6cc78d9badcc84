/- The flow laws: FlowOrClash, its walk. -/
import Derived.Test.YtmhiiomejopaoaaO7
import Derived.Test.YtmhiiomejopaoaaQ2
namespace Go.Proofs.Ytmhiiomejopaoaa
set_option linter.all false
open Go.RowKit

set_option maxRecDepth 100000 in
set_option maxHeartbeats 4000000 in
theorem or_guard (n : Int) (A : Option Addr) (c : Nat) (l : List Lk) (B : Option Addr) (d : Nat) (x : List Int) (D : Option Addr) (g : Nat) (p : List Int) (w : World)
    (hg : smallB n l.length = false ∨ 60 < x.length ∨ 50 < p.length) :
    Calls Try.prog 12 #[.agg #[.int .i64 n, .slice A l.length c], .slice B x.length d, .slice D p.length g] w fun e w' => e = .returned (.bool true) ∧ Below w.heap.size w w' := by
  cases hs : smallB n l.length
  · go_enter Try.func12, Try.ntmps12
    go_wp2_with (first | (go_at_call 27; refine (small_any _ A c l.length _).mono ?_; rw [hs]; rintro e w1 ⟨rfl, hb⟩; have HB1 := Lib.hid (boxed hb).1; obtain ⟨c0, c1, lw⟩ := (boxed hb).2; clear hb) | (go_at_call 17; refine (sanity_any _).mono ?_; rintro e wz ⟨rfl, hb⟩; have HBz := Lib.hid (below_trans HB1.out hb); clear hb))
    go_ret
    exact ⟨rfl, HBz.out⟩
  · by_cases hx60 : 60 < x.length
    · go_enter Try.func12, Try.ntmps12
      go_wp2_with (first | (go_at_call 27; refine (small_any _ A c l.length _).mono ?_; rw [hs]; rintro e w1 ⟨rfl, hb⟩; have HB1 := Lib.hid (boxed hb).1; obtain ⟨c0, c1, lw⟩ := (boxed hb).2; clear hb) | (go_at_call 17; refine (sanity_any _).mono ?_; rintro e wz ⟨rfl, hb⟩; have HBz := Lib.hid (below_trans HB1.out hb); clear hb))
      go_ret
      exact ⟨rfl, HBz.out⟩
    · have hp50 : 50 < p.length := by
        rcases hg with h | h | h
        · rw [hs] at h; cases h
        · exact absurd h hx60
        · exact h
      go_enter Try.func12, Try.ntmps12
      go_wp2_with (first | (go_at_call 27; refine (small_any _ A c l.length _).mono ?_; rw [hs]; rintro e w1 ⟨rfl, hb⟩; have HB1 := Lib.hid (boxed hb).1; obtain ⟨c0, c1, lw⟩ := (boxed hb).2; clear hb) | (go_at_call 17; refine (sanity_any _).mono ?_; rintro e wz ⟨rfl, hb⟩; have HBz := Lib.hid (below_trans HB1.out hb); clear hb))
      go_ret
      exact ⟨rfl, HBz.out⟩
set_option maxRecDepth 100000 in
set_option maxHeartbeats 4000000 in
theorem or_bad (n : Int) (A : Option Addr) (c : Nat) (l : List Lk) (B : Option Addr) (d : Nat) (x : List Int) (D : Option Addr) (g : Nat) (p : List Int) (w : World)
    (h : LksAt w A l) (hs : smallB n l.length = true) (hx60 : ¬ 60 < x.length) (hp50 : ¬ 50 < p.length) (hck : checkL n l ≠ 0) :
    Calls Try.prog 12 #[.agg #[.int .i64 n, .slice A l.length c], .slice B x.length d, .slice D p.length g] w fun e w' => e = .returned (.bool true) ∧ Below w.heap.size w w' := by
  have HA := Lib.hid h
  have hl2 := small_len hs
  have HC := Lib.hid (fun W h => Consistent_any n A c l W (by omega) h)
  rw [show consR n l = (false, checkL n l) by unfold consR; rw [if_pos hck]] at HC
  have hck2 : (checkL n l != 0) = true := by rw [bne_iff_ne]; exact hck
  generalize checkL n l = ck at *
  clear h hck
  go_enter Try.func12, Try.ntmps12
  go_wp2_with (first | (go_at_call 27; refine (small_any _ A c l.length _).mono ?_; rw [hs]; rintro e w1 ⟨rfl, hb⟩; have HB1 := Lib.hid (boxed hb).1; obtain ⟨c0, c1, lw⟩ := (boxed hb).2; clear hb) | (go_at_call 58; refine (HC.out _ (HA.out.below HB1.out)).mono ?_; rintro e w2 ⟨rfl, hb⟩; have HB2 := Lib.hid (below_trans HB1.out hb); clear hb HC) | (go_at_call 17; refine (sanity_any _).mono ?_; rintro e wz ⟨rfl, hb⟩; have HBz := Lib.hid (below_trans HB2.out hb); clear hb))
  go_ret
  exact ⟨rfl, HBz.out⟩
set_option maxRecDepth 100000 in
set_option maxHeartbeats 8000000 in
theorem or_yes (N : Nat) (A : Option Addr) (c : Nat) (l : List Lk) (B : Option Addr) (d : Nat) (x : List Int) (D : Option Addr) (g : Nat) (p : List Int) (r : List Int × Int) (w : World)
    (h : LksAt w A l) (hn : A = none → l.length = 0 ∧ c = 0) (h1 : IntsAt w B x) (h2 : IntsAt w D p) (hs : smallB N l.length = true) (hx60 : ¬ 60 < x.length) (hp50 : ¬ 50 < p.length) (hO : OrOk N l x p true r) :
    Calls Try.prog 12 #[.agg #[.int .i64 (N : Int), .slice A l.length c], .slice B x.length d, .slice D p.length g] w fun e w' => e = .returned (.bool true) ∧ Below w.heap.size w w' := by
  have HA := Lib.hid h
  have HX := Lib.hid h1
  have HP := Lib.hid h2
  have HN := Lib.hid hn
  clear h hn h1 h2
  have hl2 := small_len hs
  have HLL := Lib.hid (show l.length ≤ 1000 ∧ x.length ≤ 60 ∧ p.length ≤ 50 by omega)
  have HC := Lib.hid (fun W h => Consistent_any N A c l W (by omega) h)
  rw [show consR N l = (true, 0) by unfold consR; rw [if_neg (by simpa using hO.ck), Int.toNat_natCast, hO.hsol]] at HC
  have HCL := Lib.hid (fun W h => Clash_yes N A c l W hO.ok hO.ck hO.hsol h)
  have HF := Lib.hid (fun W h1 h2 => Fits_any N A c l B d x W (by omega) (by omega) h1 h2)
  obtain ⟨fx, hfx⟩ : ∃ fx, fitsR N l x = fx := ⟨_, rfl⟩
  rw [hfx] at HF
  clear hfx
  obtain ⟨f1, f2⟩ := fx
  have HCC := Lib.hid (fun W h1 h2 => clash_any N A c l D g p W (by omega) (by omega) h1 h2)
  have hacc := hO.acc rfl
  obtain ⟨ci, hci⟩ : ∃ ci, clashI N l p = ci := ⟨_, rfl⟩
  rw [hci] at HCC hacc
  clear hci
  have hacc2 : (ci == 0) = false := by simpa using hacc
  clear hacc
  have HR := Lib.hid (show ∀ W (q : Nat), IntsAt W (some ⟨q, 0, none⟩) (List.replicate x.length 0) → LksAt W A l → Calls Try.prog 44 #[.agg #[.int .i64 (N : Int), .slice A l.length c], .slice (some ⟨q, 0, none⟩) x.length x.length] W fun e w' => ∃ v, e = .returned (.tuple #[v, .int .i64 (reachR N l r).2]) ∧ IntsV w' v (reachR N l r).1 ∧ Below W.heap.size W w' from fun W q h1 h2 => by
    have h := reach_any 2000000 r N A c l (some ⟨q, 0, none⟩) x.length (List.replicate x.length 0) W HLL.out.1 (by rw [List.length_replicate]; have := HLL.out; omega) HN.out h2 h1 hO.pr (fun h => by rw [Int.toNat_natCast]; exact hO.rs h)
    rw [List.length_replicate] at h
    exact h)
  have HOW := Lib.hid (show x.length = N → reachR N l r = (reachL N l r.1, 0) ∧ fitsR N l (reachL N l r.1) = (true, 0) ∧ (reachL N l r.1).length ≤ 1000000 from fun hx => by
    obtain ⟨o1, o2, o3⟩ := hO.own hx rfl
    exact ⟨by unfold reachR; rw [if_pos o1, Int.toNat_natCast], o2, o3⟩)
  have hmk := mkInts x.length (by omega)
  have HM := Lib.hid True.intro
  clear hO
  obtain ⟨ro, hro⟩ : ∃ ro, reachR N l r = ro := ⟨_, rfl⟩
  rw [hro] at HR HOW
  clear hro
  obtain ⟨r1, r2⟩ := ro
  go_enter Try.func12, Try.ntmps12
  go_upto_region 9 with (first | (go_at_call 27; refine (small_any _ A c l.length _).mono ?_; rw [hs]; rintro e w1 ⟨rfl, hb⟩; have HB1 := Lib.hid (boxed hb).1; obtain ⟨c0, c1, lw⟩ := (boxed hb).2; clear hb) | (go_at_call 58; refine (HC.out _ (HA.out.below HB1.out)).mono ?_; rintro e w2 ⟨rfl, hb⟩; have HB2 := Lib.hid (below_trans HB1.out hb); have c0 := cell_below hb c0; have c1 := cell_below hb c1; have lw := World.block_lt_of_cell? _ _ c0; clear hb HC) | (go_at_call 59; refine (HCL.out _ (HA.out.below HB2.out)).mono ?_; rintro e w3 ⟨rfl, hb⟩; have HB3 := Lib.hid (below_trans HB2.out hb); have c0 := cell_below hb c0; have c1 := cell_below hb c1; have lw := World.block_lt_of_cell? _ _ c0; clear hb HCL) | (go_at_call 37; refine (HF.out _ (HA.out.below HB3.out) (HX.out.below HB3.out)).mono ?_; rintro e w4 ⟨rfl, hb⟩; have HB4 := Lib.hid (below_trans HB3.out hb); have c0 := cell_below hb c0; have c1 := cell_below hb c1; have lw := World.block_lt_of_cell? _ _ c0; clear hb HF) | (go_at_call 60; refine (HCC.out _ (HA.out.below HB4.out) (HP.out.below HB4.out)).mono ?_; rintro e w5 ⟨rfl, hb⟩; have HB5 := Lib.hid (below_trans HB4.out hb); have c0 := cell_below hb c0; have c1 := cell_below hb c1; have lw := World.block_lt_of_cell? _ _ c0; clear hb HCC))
  go_region_held3 (fun w' => w'.cell? ⟨w.heap.size, 0, none⟩ = some (.int .i64 N) ∧ w'.cell? ⟨w.heap.size, 1, none⟩ = some (.slice A l.length c)) (first | exact ⟨c0, c1⟩ | exact ⟨cell_alloc _ c0, cell_alloc _ c1⟩) (first
    | (go_at_call 44; refine (HR.out _ _ ?h1 ?h2).mono ?_; (case h1 => first | exact (RowI_made _ _).ints | exact (RowI_made _ _).ints.drew); (case h2 => first | exact (HA.out.below HB5.out).alloc _ | exact ((HA.out.below HB5.out).alloc _).drew | exact ((HA.out.below HB5.out).drew).alloc _); rintro e w6 ⟨v6, rfl, ⟨A6, d6, rfl, ho, _⟩, hb⟩; have HV6 := Lib.hid ho; have hbq : Below w5.heap.size w5 w6 := (by first | exact below_trans bel hb | exact below_undrew (below_trans bel hb) | exact below_trans bel (below_undrew hb) | exact below_trans (below_drew bel) hb); have HB6 := Lib.hid (below_trans HB5.out hbq); have c0 := cell_below hbq c0; have c1 := cell_below hbq c1; have lw := World.block_lt_of_cell? _ _ c0; clear hb hbq ho HR))
  all_goals
    by_cases hxN : x.length = N
    · obtain ⟨o1, o2, o3⟩ := HOW.out hxN
      obtain ⟨rfl, rfl⟩ := Prod.mk.inj o1
      have HF2 := Lib.hid (fun W d h1 h2 => Fits_any N A c l A6 d _ W (by have := HLL.out; omega) o3 h1 h2)
      rw [o2] at HF2
      generalize reachL N l r.1 = own at *
      have hxN2 : ((x.length : Int) != (N : Int)) = false := by rw [bne_eq_false_iff_eq]; omega
      clear hxN HOW o1 o2 o3
      cases f2a : (f2 == 0) <;> cases f1
      all_goals
        go_wp2_with (first | (go_at_call 37; refine (HF2.out _ _ (HA.out.below HB6.out) HV6.out).mono ?_; rintro e w7 ⟨rfl, hb⟩; have HB7 := Lib.hid (below_trans HB6.out hb); clear hb HF2) | (go_at_call 17; refine (sanity_any _).mono ?_; rintro e wz ⟨rfl, hb⟩; have HBz := Lib.hid (below_trans HB7.out hb); clear hb))
        go_ret
        exact ⟨rfl, HBz.out⟩
    · have hxN2 : ((x.length : Int) != (N : Int)) = true := by rw [bne_iff_ne]; omega
      clear hxN HOW
      cases f2a : (f2 == 0) <;> cases f1
      all_goals
        go_wp2_with (first | (go_at_call 17; refine (sanity_any _).mono ?_; rintro e wz ⟨rfl, hb⟩; have HBz := Lib.hid (below_trans HB6.out hb); clear hb))
        go_ret
        exact ⟨rfl, HBz.out⟩
set_option maxRecDepth 100000 in
set_option maxHeartbeats 8000000 in
theorem or_no (N : Nat) (A : Option Addr) (c : Nat) (l : List Lk) (B : Option Addr) (d : Nat) (x : List Int) (D : Option Addr) (g : Nat) (p : List Int) (r : List Int × Int) (w : World)
    (h : LksAt w A l) (hn : A = none → l.length = 0 ∧ c = 0) (h1 : IntsAt w B x) (h2 : IntsAt w D p) (hs : smallB N l.length = true) (hx60 : ¬ 60 < x.length) (hp50 : ¬ 50 < p.length) (hO : OrOk N l x p false r) :
    Calls Try.prog 12 #[.agg #[.int .i64 (N : Int), .slice A l.length c], .slice B x.length d, .slice D p.length g] w fun e w' => e = .returned (.bool true) ∧ Below w.heap.size w w' := by
  have HA := Lib.hid h
  have HX := Lib.hid h1
  have HP := Lib.hid h2
  have HN := Lib.hid hn
  clear h hn h1 h2
  have hl2 := small_len hs
  have HLL := Lib.hid (show l.length ≤ 1000 ∧ x.length ≤ 60 ∧ p.length ≤ 50 by omega)
  have HC := Lib.hid (fun W h => Consistent_any N A c l W (by omega) h)
  rw [show consR N l = (false, 0) by unfold consR; rw [if_neg (by simpa using hO.ck), Int.toNat_natCast, hO.hsol]] at HC
  obtain ⟨P, _, hP, hPl, hPc, hPm⟩ := clash_law hO.ck (show (solutionL (N : Int).toNat l).2 = false by rw [Int.toNat_natCast]; exact hO.hsol)
  rw [Int.toNat_natCast] at hP
  have HCL := Lib.hid (fun W h => Clash_go N A c l W hO.ok hO.ck hO.hsol h P hP)
  have HC2 := Lib.hid (fun W Y dy h1 h2 => clash_any N A c l Y dy P W (by omega) (by omega) h1 h2)
  rw [hPc] at HC2
  have HPM := Lib.hid (hPm p)
  clear hP hPl hPc hPm
  have HF := Lib.hid (fun W h1 h2 => Fits_any N A c l B d x W (by omega) (by omega) h1 h2)
  obtain ⟨fx, hfx⟩ : ∃ fx, fitsR N l x = fx := ⟨_, rfl⟩
  have hfit := hO.fit rfl
  rw [hfx] at HF hfit
  clear hfx
  obtain ⟨f1, f2⟩ := fx
  have HFI := Lib.hid (show f2 = 0 → f1 = false from hfit)
  clear hfit
  have HCC := Lib.hid (fun W h1 h2 => clash_any N A c l D g p W (by omega) (by omega) h1 h2)
  obtain ⟨ci, hci⟩ : ∃ ci, clashI N l p = ci := ⟨_, rfl⟩
  rw [hci] at HCC HPM
  clear hci
  have HR := Lib.hid (show ∀ W (q : Nat), IntsAt W (some ⟨q, 0, none⟩) (List.replicate x.length 0) → LksAt W A l → Calls Try.prog 44 #[.agg #[.int .i64 (N : Int), .slice A l.length c], .slice (some ⟨q, 0, none⟩) x.length x.length] W fun e w' => ∃ v, e = .returned (.tuple #[v, .int .i64 (reachR N l r).2]) ∧ IntsV w' v (reachR N l r).1 ∧ Below W.heap.size W w' from fun W q h1 h2 => by
    have h := reach_any 2000000 r N A c l (some ⟨q, 0, none⟩) x.length (List.replicate x.length 0) W HLL.out.1 (by rw [List.length_replicate]; have := HLL.out; omega) HN.out h2 h1 hO.pr (fun h => by rw [Int.toNat_natCast]; exact hO.rs h)
    rw [List.length_replicate] at h
    exact h)
  have hmk := mkInts x.length (by omega)
  have HM := Lib.hid True.intro
  clear hO
  obtain ⟨ro, hro⟩ : ∃ ro, reachR N l r = ro := ⟨_, rfl⟩
  rw [hro] at HR
  clear hro
  obtain ⟨r1, r2⟩ := ro
  go_enter Try.func12, Try.ntmps12
  go_upto_region 9 with (first | (go_at_call 27; refine (small_any _ A c l.length _).mono ?_; rw [hs]; rintro e w1 ⟨rfl, hb⟩; have HB1 := Lib.hid (boxed hb).1; obtain ⟨c0, c1, lw⟩ := (boxed hb).2; clear hb) | (go_at_call 58; refine (HC.out _ (HA.out.below HB1.out)).mono ?_; rintro e w2 ⟨rfl, hb⟩; have HB2 := Lib.hid (below_trans HB1.out hb); have c0 := cell_below hb c0; have c1 := cell_below hb c1; have lw := World.block_lt_of_cell? _ _ c0; clear hb HC) | (go_at_call 59; refine (HCL.out _ (HA.out.below HB2.out)).mono ?_; rintro e w3 ⟨v3, rfl, ⟨A3, d3, rfl, hv3, _⟩, hb⟩; have HV3 := Lib.hid hv3; clear hv3; have HB3 := Lib.hid (below_trans HB2.out hb); have c0 := cell_below hb c0; have c1 := cell_below hb c1; have lw := World.block_lt_of_cell? _ _ c0; clear hb HCL) | (go_at_call 37; refine (HF.out _ (HA.out.below HB3.out) (HX.out.below HB3.out)).mono ?_; rintro e w4 ⟨rfl, hb⟩; have HV3 := Lib.hid (HV3.out.below hb); have HB4 := Lib.hid (below_trans HB3.out hb); have c0 := cell_below hb c0; have c1 := cell_below hb c1; have lw := World.block_lt_of_cell? _ _ c0; clear hb HF) | (go_at_call 60; refine (HCC.out _ (HA.out.below HB4.out) (HP.out.below HB4.out)).mono ?_; rintro e w5 ⟨rfl, hb⟩; have HV3 := Lib.hid (HV3.out.below hb); have HB5 := Lib.hid (below_trans HB4.out hb); have c0 := cell_below hb c0; have c1 := cell_below hb c1; have lw := World.block_lt_of_cell? _ _ c0; clear hb HCC))
  go_region_held3 (fun w' => w'.cell? ⟨w.heap.size, 0, none⟩ = some (.int .i64 N) ∧ w'.cell? ⟨w.heap.size, 1, none⟩ = some (.slice A l.length c)) (first | exact ⟨c0, c1⟩ | exact ⟨cell_alloc _ c0, cell_alloc _ c1⟩) (first
    | (go_at_call 44; refine (HR.out _ _ ?h1 ?h2).mono ?_; (case h1 => first | exact (RowI_made _ _).ints | exact (RowI_made _ _).ints.drew); (case h2 => first | exact (HA.out.below HB5.out).alloc _ | exact ((HA.out.below HB5.out).alloc _).drew | exact ((HA.out.below HB5.out).drew).alloc _); rintro e w6 ⟨v6, rfl, ⟨A6, d6, rfl, ho, _⟩, hb⟩; have HV6 := Lib.hid ho; have hbq : Below w5.heap.size w5 w6 := (by first | exact below_trans bel hb | exact below_undrew (below_trans bel hb) | exact below_trans bel (below_undrew hb) | exact below_trans (below_drew bel) hb); have HB6 := Lib.hid (below_trans HB5.out hbq); have HV3 := Lib.hid (HV3.out.below hbq); have c0 := cell_below hbq c0; have c1 := cell_below hbq c1; have lw := World.block_lt_of_cell? _ _ c0; clear hb hbq ho HR))
  all_goals
    clear hl2 hx60 hp50 hmk
    cases f2a : (f2 == 0)
    all_goals first
      | (have hf1 : f1 = false := HFI.out (by simpa using f2a); subst hf1)
      | skip
    all_goals
      cases ca : (ci == 0)
      · go_wp2_with (first | (go_at_call 17; refine (sanity_any _).mono ?_; rintro e w7 ⟨rfl, hb⟩; have HB7 := Lib.hid (below_trans HB6.out hb); have HV3 := Lib.hid (HV3.out.below hb); have c0 := cell_below hb c0; have c1 := cell_below hb c1; have lw := World.block_lt_of_cell? _ _ c0; clear hb) | (go_at_call 60; refine (HC2.out _ _ _ (HA.out.below HB7.out) HV3.out).mono ?_; rintro e wz ⟨rfl, hb⟩; have HBz := Lib.hid (below_trans HB7.out hb); clear hb HC2))
        go_ret
        exact ⟨rfl, HBz.out⟩
      · have hle := HPM.out (by simpa using ca)
        have HLE := Lib.hid hle
        clear hle
        go_wp2_with (first | (go_at_call 17; refine (sanity_any _).mono ?_; rintro e w7 ⟨rfl, hb⟩; have HB7 := Lib.hid (below_trans HB6.out hb); have HV3 := Lib.hid (HV3.out.below hb); have c0 := cell_below hb c0; have c1 := cell_below hb c1; have lw := World.block_lt_of_cell? _ _ c0; clear hb) | (go_at_call 60; refine (HC2.out _ _ _ (HA.out.below HB7.out) HV3.out).mono ?_; rintro e wz ⟨rfl, hb⟩; have HBz := Lib.hid (below_trans HB7.out hb); clear hb HC2))
        go_ret
        exact ⟨by show Ending.returned (.bool (decide (P.length ≤ p.length))) = _; rw [decide_eq_true HLE.out], HBz.out⟩
theorem orclash_walk (n : Int) (A : Option Addr) (c : Nat) (l : List Lk) (B : Option Addr) (d : Nat) (x : List Int) (D : Option Addr) (g : Nat) (p : List Int) (w : World)
    (h : LksAt w A l) (hn : A = none → l.length = 0 ∧ c = 0) (hl : l.length ≤ 9223372036854775807) (h1 : IntsAt w B x) (_ : B = none → x.length = 0 ∧ d = 0) (hx : x.length ≤ 9223372036854775807) (_ : ∀ v ∈ x, -9223372036854775808 ≤ v ∧ v ≤ 9223372036854775807) (h2 : IntsAt w D p) (_ : D = none → p.length = 0 ∧ g = 0) (hp : p.length ≤ 9223372036854775807) (_ : ∀ v ∈ p, -9223372036854775808 ≤ v ∧ v ≤ 9223372036854775807) :
    Calls Try.prog 12 #[.agg #[.int .i64 n, .slice A l.length c], .slice B x.length d, .slice D p.length g] w fun e w' => e = .returned (.bool true) ∧ Below w.heap.size w w' := by
  cases hs : smallB n l.length
  · exact or_guard n A c l B d x D g p w (.inl hs)
  · by_cases hx60 : 60 < x.length
    · exact or_guard n A c l B d x D g p w (.inr (.inl hx60))
    · by_cases hp50 : 50 < p.length
      · exact or_guard n A c l B d x D g p w (.inr (.inr hp50))
      · by_cases hck : checkL n l = 0
        · obtain ⟨N, sol, r, rfl, hO⟩ := or_ok hck hs x p
          cases sol
          · exact or_no N A c l B d x D g p r w h hn h1 h2 hs hx60 hp50 hO
          · exact or_yes N A c l B d x D g p r w h hn h1 h2 hs hx60 hp50 hO
        · exact or_bad n A c l B d x D g p w h hs hx60 hp50 hck
end Go.Proofs.Ytmhiiomejopaoaa
