/- The flow laws: matters: the reference's Needed, Core, Tight, the plain law, the walk -/
import Derived.Test.YtmhiiomejopaoaaZ2
import Derived.Test.YtmhiiomejopaoaaN2
namespace Go.Proofs.Ytmhiiomejopaoaa
set_option linter.all false
open Go.RowKit
set_option maxRecDepth 100000

theorem one_ints (W : World) (k : Int) : IntsAt (W.alloc (.cells #[.int .i64 k] 3)) (some ⟨W.heap.size, 0, none⟩) [k] := by
  have h := World.ownsRow_lit (base := W.heap.size) (e := 3) (size := 1) W #[.int .i64 k] 1 (Nat.le_refl _) (by unfold maxLen; omega) rfl
  exact own_ints (l := [k]) h
set_option maxRecDepth 100000 in
set_option maxHeartbeats 2000000 in
theorem rneeded_any (F : Nat) (n : Nat) (A : Option Addr) (c : Nat) (l : List Lk) (B : Option Addr) (d : Nat) (x : List Int) (most : Int) (w : World) (hn0 : 0 < n) (hn : n ≤ 1000000) (hl : l.length ≤ 1000) (hF : F ≤ 2000000) (hx : x.length = n) (h : LksAt w A l) (h' : IntsAt w B x) (hr : ∀ k ∈ l, InR n k) (hb : ∀ S : List Int, ∃ r, rmostP F n (keptL l (notIn S)) x = some r) :
    Calls Try.prog 25 #[.agg #[.int .i64 n, .slice A l.length c], .slice B x.length d, .int .i64 most] w fun e w' => ∃ v, e = .returned v ∧ IntsV w' v (ndN (fun k => !sameB F n l x [(k : Int)] most) l.length) ∧ Below w.heap.size w w' := by
  have HA := Lib.hid h
  have HX := Lib.hid h'
  have HS := Lib.hid (fun (k : Int) W C h1 h2 h3 => (show Calls Try.prog 75 #[.agg #[.int .i64 n, .slice A l.length c], .slice B x.length d, .slice C 1 1, .int .i64 most] W fun e w' => e = .returned (.bool (sameB F n l x [k] most)) ∧ Below W.heap.size W w' from by
    obtain ⟨r, hr2⟩ := hb [k]
    exact rsame1_any F r n A c l B d x C 1 [k] most W hn0 hn hl hF hx (by simp) h1 h2 h3 hr hr2))
  clear h h' hr hb hx
  obtain ⟨w0, hw0⟩ : ∃ w0, w0 = w.alloc (.cells #[.int .i64 n, .slice A l.length c] 24) := ⟨_, rfl⟩
  have HB0 := Lib.hid (show Below w.heap.size w w0 by rw [hw0]; exact bel)
  have HQ := Lib.hid (show w0.cell? ⟨w.heap.size, 0, none⟩ = some (.int .i64 n) ∧ w0.cell? ⟨w.heap.size, 1, none⟩ = some (.slice A l.length c) by rw [hw0]; exact ⟨by go_simp, by go_simp⟩)
  have HW0 := Lib.hid hw0
  clear hw0
  go_enter Try.func25, Try.ntmps25
  go_upto_region 3 with fail
  rw [← HW0.out]
  go_loopw [7, 8, 9] (fun v i _ wr => ∃ k : Nat, k ≤ l.length ∧ i = .int .i64 k ∧ Hid (OwnN w0.heap.size w0 wr v (ndN (fun k => !sameB F n l x [(k : Int)] most) k))) (fun _ i _ _ => l.length - (intOf i).toNat)
  case atStart => exact ⟨0, by omega, rfl, Lib.hid ⟨World.ownsRow_nil _ _ _ _, Below.refl _ _, Nat.le_refl _⟩⟩
  case round =>
    obtain ⟨k, hk, rfl, HO⟩ := hrel
    have c0 := cell_below HO.out.below HQ.out.1
    have c1 := cell_below HO.out.below HQ.out.2
    have lw := World.block_lt_of_cell? _ _ c0
    have HB := Lib.hid (below_trans HB0.out HO.out.below)
    by_cases hlt : k < l.length
    · have HND := Lib.hid (ndN_succ (fun k => !sameB F n l x [(k : Int)] most) k)
      have HNL := Lib.hid (ndN_len (fun k => !sameB F n l x [(k : Int)] most) k)
      have HSK := Lib.hid (HS.out (k : Int))
      obtain ⟨nx, hnx⟩ : ∃ nx, ndN (fun k => !sameB F n l x [(k : Int)] most) (k + 1) = nx := ⟨_, rfl⟩
      rw [hnx] at HND
      have HNX := Lib.hid hnx
      clear hnx
      generalize ndN (fun k => !sameB F n l x [(k : Int)] most) k = cur at HO HND HNL
      generalize hsb : sameB F n l x [(k : Int)] most = sb at HSK HND
      have HSB := Lib.hid hsb
      clear hsb
      have HAA := Lib.hid ((HA.out.below HB.out).alloc (.cells #[.int .i64 k] 3))
      have HXX := Lib.hid ((HX.out.below HB.out).alloc (.cells #[.int .i64 k] 3))
      cases sb
      · go_wp2_with (first | (go_at_call 75; refine (HSK.out _ (some ⟨wr.heap.size, 0, none⟩) HAA.out HXX.out (one_ints wr k)).mono ?_; rintro e w2 ⟨rfl, hb⟩; have HO2 := Lib.hid ((HO.out.alloc (.cells #[.int .i64 k] 3)).calls hb); clear hb) | (at_builtin; refine app_one rfl _ _ 25 3 (.int .i64 0) 1 8 rfl Try.underlying25 info3 rfl (by omega) u7 _ _ [.int .i64 k] rfl rfl rfl rfl (one1 _ _) w0.heap.size HO2.out.row HO2.out.hB (by have := HNL.out; omega) (by have := HNL.out; unfold maxLen; omega) ?_; intro v1 w4 ho hg _; have HO4 := Lib.hid (HO2.out.appended ho hg); clear ho hg))
        go_roundw
        case rel => exact ⟨k + 1, by omega, by go_num, Lib.hid (by rw [HNX.out, HND.out]; exact HO4.out)⟩
        case measure => simp [intOf]; omega
      · go_wp2_with (first | (go_at_call 75; refine (HSK.out _ (some ⟨wr.heap.size, 0, none⟩) HAA.out HXX.out (one_ints wr k)).mono ?_; rintro e w2 ⟨rfl, hb⟩; have HO2 := Lib.hid ((HO.out.alloc (.cells #[.int .i64 k] 3)).calls hb); clear hb) | (at_builtin; refine app_one rfl _ _ 25 3 (.int .i64 0) 1 8 rfl Try.underlying25 info3 rfl (by omega) u7 _ _ [.int .i64 k] rfl rfl rfl rfl (one1 _ _) w0.heap.size HO2.out.row HO2.out.hB (by have := HNL.out; omega) (by have := HNL.out; unfold maxLen; omega) ?_; intro v1 w4 ho hg _; have HO4 := Lib.hid (HO2.out.appended ho hg); clear ho hg))
        go_roundw
        case rel => exact ⟨k + 1, by omega, by go_num, Lib.hid (by rw [HNX.out, HND.out]; exact HO2.out)⟩
        case measure => simp [intOf]; omega
    · obtain rfl : k = l.length := by omega
      go_wp2
      go_ret
      exact ⟨_, rfl, own_intsV HO.out.row, HB.out⟩
/-- The reference's Core, plain: links left out, links kept. -/
def rcoreN (P : List Int → Bool) : Nat → List Int → List Int → List Int × List Int
  | 0, g, o => (g, o)
  | k + 1, g, o => if P ((k : Int) :: g) then rcoreN P k ((k : Int) :: g) o else rcoreN P k g ((k : Int) :: o)
theorem rcoreN_succ (P : List Int → Bool) (k : Nat) (g o : List Int) : rcoreN P (k + 1) g o = if P ((k : Int) :: g) then rcoreN P k ((k : Int) :: g) o else rcoreN P k g ((k : Int) :: o) := rfl
theorem grown_fresh {w w' : World} {r : Option Nat} (hg : w.grownBy w' r) (hr : ∀ k, r = some k → w.heap.size ≤ k) : Below w.heap.size w w' := (Below.refl w.heap.size w).grown hg (Nat.le_refl _) hr
set_option maxRecDepth 100000 in
set_option maxHeartbeats 4000000 in
theorem rcore_any (F : Nat) (n : Nat) (A : Option Addr) (c : Nat) (l : List Lk) (B : Option Addr) (d : Nat) (x : List Int) (most : Int) (w : World) (hn0 : 0 < n) (hn : n ≤ 1000000) (hl : l.length ≤ 1000) (hF : F ≤ 2000000) (hx : x.length = n) (h : LksAt w A l) (h' : IntsAt w B x) (hr : ∀ k ∈ l, InR n k) (hb : ∀ S : List Int, ∃ r, rmostP F n (keptL l (notIn S)) x = some r) :
    Calls Try.prog 26 #[.agg #[.int .i64 n, .slice A l.length c], .slice B x.length d, .int .i64 most] w fun e w' => ∃ v, e = .returned v ∧ IntsV w' v (rcoreN (fun S => sameB F n l x S most) l.length [] []).2 ∧ Below w.heap.size w w' := by
  have HA := Lib.hid h
  have HX := Lib.hid h'
  have HS := Lib.hid (fun (S : List Int) (hS : S.length ≤ 1000000) W C f h1 h2 h3 => (show Calls Try.prog 75 #[.agg #[.int .i64 n, .slice A l.length c], .slice B x.length d, .slice C S.length f, .int .i64 most] W fun e w' => e = .returned (.bool (sameB F n l x S most)) ∧ Below W.heap.size W w' from by
    obtain ⟨r, hr2⟩ := hb S
    exact rsame1_any F r n A c l B d x C f S most W hn0 hn hl hF hx hS h1 h2 h3 hr hr2))
  clear h h' hr hb hx
  have HLL := Lib.hid hl
  obtain ⟨P, hP⟩ : ∃ P, (fun S => sameB F n l x S most) = P := ⟨_, rfl⟩
  have HP := Lib.hid (fun S => congrFun hP S)
  rw [hP]
  clear hP
  obtain ⟨w0, hw0⟩ : ∃ w0, w0 = w.alloc (.cells #[.int .i64 n, .slice A l.length c] 24) := ⟨_, rfl⟩
  have HB0 := Lib.hid (show Below w.heap.size w w0 by rw [hw0]; exact bel)
  have HQ := Lib.hid (show w0.cell? ⟨w.heap.size, 0, none⟩ = some (.int .i64 n) ∧ w0.cell? ⟨w.heap.size, 1, none⟩ = some (.slice A l.length c) by rw [hw0]; exact ⟨by go_simp, by go_simp⟩)
  have HW0 := Lib.hid hw0
  clear hw0
  go_enter Try.func26, Try.ntmps26
  go_upto_region 3 with fail
  rw [← HW0.out]
  have c0 := HQ.out.1
  have c1 := HQ.out.2
  have lw := World.block_lt_of_cell? _ _ c0
  go_upto_region 4 with fail
  clear c0 c1 lw
  go_loopw [7, 8, 9, 10] (fun g o i _ wr => ∃ (k : Nat) (gs os : List Int), k ≤ l.length ∧ i = .int .i64 ((k : Int) - 1) ∧ Hid (rcoreN P k gs os = rcoreN P l.length [] []) ∧ Hid (IntsV wr g gs) ∧ Hid (IntsV wr o os) ∧ Hid (gs.length + k ≤ l.length ∧ os.length + k ≤ l.length) ∧ Hid (Below w0.heap.size w0 wr)) (fun _ _ i _ _ => (intOf i + 1).toNat)
  case atStart => exact ⟨l.length, [], [], Nat.le_refl _, by go_num, Lib.hid rfl, Lib.hid (IntsV.nil _), Lib.hid (IntsV.nil _), Lib.hid ⟨by simp, by simp⟩, Lib.hid (Below.refl _ _)⟩
  case round =>
    obtain ⟨k, gs, os, hk, rfl, HR, HG, HO, HL, HB⟩ := hrel
    have c0 := cell_below HB.out HQ.out.1
    have c1 := cell_below HB.out HQ.out.2
    have lw := World.block_lt_of_cell? _ _ c0
    have HBB := Lib.hid (below_trans HB0.out HB.out)
    cases k with
    | zero =>
      have HE := Lib.hid (show (rcoreN P l.length [] []).2 = os by rw [← HR.out]; rfl)
      go_wp2
      go_ret
      exact ⟨_, rfl, by rw [HE.out]; exact HO.out, HBB.out⟩
    | succ k =>
      have e0 : ((k + 1 : Nat) : Int) - 1 = (k : Int) := by omega
      rw [e0]
      clear e0
      have hk2 : (k : Int) ≤ 1000 := by have := HLL.out; omega
      have hk0 : (0 : Int) ≤ (k : Int) := by omega
      obtain ⟨Ag, cg, rfl, hg, hgn⟩ := HG.out
      have HGI := Lib.hid hg
      have HGN := Lib.hid hgn
      clear hg hgn
      obtain ⟨Ao, co, rfl, ho, hon⟩ := HO.out
      have HOI := Lib.hid ho
      have HON := Lib.hid hon
      clear ho hon
      have HGL := Lib.hid (show gs.length ≤ 1000 ∧ os.length ≤ 1000 by have := HLL.out; have := HL.out; omega)
      have HSK := Lib.hid (HS.out ((k : Int) :: gs) (by have := HGL.out; simp; omega))
      have HRS := Lib.hid (rcoreN_succ P k gs os)
      rw [show sameB F n l x ((k : Int) :: gs) most = P ((k : Int) :: gs) from HP.out _] at HSK
      obtain ⟨s, hs⟩ : ∃ s, P ((k : Int) :: gs) = s := ⟨_, rfl⟩
      rw [hs] at HSK HRS
      clear hs
      rw [List.length_cons] at HSK
      have MK1 := Lib.hid True.intro
      cases s
      · go_wp2_with (first | (have hm1 := MK1.out; clear hm1; at_builtin; refine app_many rfl _ _ 25 3 (.int .i64 0) 1 8 rfl Try.underlying25 info3 rfl (by omega) (.slice (some ⟨wr.heap.size, 0, none⟩) 1 1) 1 [.int .i64 k] (ints gs) gs.length cg Ag rfl rfl HGN.out (by simp [ints]) (ints_one gs) (HGI.out.alloc _).cells wr.heap.size (World.ownsRow_lit wr #[.int .i64 k] 1 (Nat.le_refl _) (by unfold maxLen; omega) rfl) (by simp) (by have := HGL.out; omega) (by unfold maxLen; have := HGL.out; omega) ?_; intro v4 w4 ho hg _; have HB4 := Lib.hid (grown_fresh (World.grownBy.trans (World.grownBy_alloc wr _ _) hg) (fun k e => by simp [Value.ownBlock] at e; omega)); have HM4 := Lib.hid (own_intsV (l := (k : Int) :: gs) (by simpa [ints, Nat.add_comm] using ho)); obtain ⟨Am, cm, rfl, hmi, _⟩ := HM4.out; rw [List.length_cons]; replace c0 := cell_below HB4.out c0; replace c1 := cell_below HB4.out c1; replace lw := World.block_lt_of_cell? _ _ c0; have HMI := Lib.hid hmi; clear ho hg hmi MK1) | (go_at_call 75; refine (HSK.out _ Am cm (HA.out.below (below_trans HBB.out HB4.out)) (HX.out.below (below_trans HBB.out HB4.out)) HMI.out).mono ?_; rintro e w5 ⟨rfl, hb⟩; have HB45 := Lib.hid (below_trans HB4.out hb); have HB5 := Lib.hid (below_trans HB.out HB45.out); have HM5 := Lib.hid (HM4.out.below hb); have HO5 := Lib.hid (HO.out.below HB45.out); have HG5 := Lib.hid (HG.out.below HB45.out); clear hb) | (at_builtin; refine app_many rfl _ _ 25 3 (.int .i64 0) 1 8 rfl Try.underlying25 info3 rfl (by omega) (.slice (some ⟨w5.heap.size, 0, none⟩) 1 1) 1 [.int .i64 k] (ints os) os.length co Ao rfl rfl HON.out (by simp [ints]) (ints_one os) ((HOI.out.below HB45.out).alloc _).cells w5.heap.size (World.ownsRow_lit w5 #[.int .i64 k] 1 (Nat.le_refl _) (by unfold maxLen; omega) rfl) (by simp) (by have := HGL.out; omega) (by unfold maxLen; have := HGL.out; omega) ?_; intro v6 w6 ho hg _; have HB56 := Lib.hid (grown_fresh (World.grownBy.trans (World.grownBy_alloc w5 _ _) hg) (fun k e => by simp [Value.ownBlock] at e; omega)); have HB6 := Lib.hid (below_trans HB5.out HB56.out); have HG6 := Lib.hid (HG5.out.below HB56.out); have HO6 := Lib.hid ho; clear ho hg))
        go_roundw
        case rel => exact ⟨k, gs, (k : Int) :: os, by omega, by go_num, Lib.hid (by rw [← HR.out, HRS.out]; rfl), HG6, Lib.hid (own_intsV (l := (k : Int) :: os) (by simpa [ints, Nat.add_comm] using HO6.out)), Lib.hid (by have := HL.out; simp; omega), HB6⟩
        case measure => simp [intOf]
      · go_wp2_with (first | (have hm1 := MK1.out; clear hm1; at_builtin; refine app_many rfl _ _ 25 3 (.int .i64 0) 1 8 rfl Try.underlying25 info3 rfl (by omega) (.slice (some ⟨wr.heap.size, 0, none⟩) 1 1) 1 [.int .i64 k] (ints gs) gs.length cg Ag rfl rfl HGN.out (by simp [ints]) (ints_one gs) (HGI.out.alloc _).cells wr.heap.size (World.ownsRow_lit wr #[.int .i64 k] 1 (Nat.le_refl _) (by unfold maxLen; omega) rfl) (by simp) (by have := HGL.out; omega) (by unfold maxLen; have := HGL.out; omega) ?_; intro v4 w4 ho hg _; have HB4 := Lib.hid (grown_fresh (World.grownBy.trans (World.grownBy_alloc wr _ _) hg) (fun k e => by simp [Value.ownBlock] at e; omega)); have HM4 := Lib.hid (own_intsV (l := (k : Int) :: gs) (by simpa [ints, Nat.add_comm] using ho)); obtain ⟨Am, cm, rfl, hmi, _⟩ := HM4.out; rw [List.length_cons]; replace c0 := cell_below HB4.out c0; replace c1 := cell_below HB4.out c1; replace lw := World.block_lt_of_cell? _ _ c0; have HMI := Lib.hid hmi; clear ho hg hmi MK1) | (go_at_call 75; refine (HSK.out _ Am cm (HA.out.below (below_trans HBB.out HB4.out)) (HX.out.below (below_trans HBB.out HB4.out)) HMI.out).mono ?_; rintro e w5 ⟨rfl, hb⟩; have HB45 := Lib.hid (below_trans HB4.out hb); have HB5 := Lib.hid (below_trans HB.out HB45.out); have HM5 := Lib.hid (HM4.out.below hb); have HO5 := Lib.hid (HO.out.below HB45.out); have HG5 := Lib.hid (HG.out.below HB45.out); clear hb))
        go_roundw
        case rel => exact ⟨k, (k : Int) :: gs, os, by omega, by go_num, Lib.hid (by rw [← HR.out, HRS.out]; rfl), HM5, HO5, Lib.hid (by have := HL.out; simp; omega), HB5⟩
        case measure => simp [intOf]

set_option maxRecDepth 100000 in
set_option maxHeartbeats 4000000 in
theorem rtight_any (F : Nat) (n : Nat) (A : Option Addr) (c : Nat) (l : List Lk) (B : Option Addr) (d : Nat) (x u : List Int) (w : World) (hn0 : 0 < n) (hn : n ≤ 1000000) (hl : l.length ≤ 1000) (hF : F ≤ 2000000) (hx : x.length = n) (hnil : A = none → l.length = 0 ∧ c = 0) (h : LksAt w A l) (h' : IntsAt w B x) (hr : ∀ k ∈ l, InR n k) (hc : carryN F l n F 0 (List.replicate l.length 0) x = some (some u)) :
    Calls Try.prog 24 #[.agg #[.int .i64 n, .slice A l.length c], .slice B x.length d] w fun e w' => ∃ v, e = .returned v ∧ IntsV w' v (ndN (fun k => gi (rboundsL n (rigidL l u) (gl l k).b) (gl l k).a == wrap64 (-(gl l k).m)) l.length) ∧ Below w.heap.size w w' := by
  have HA := Lib.hid h
  have HX := Lib.hid h'
  have HR := Lib.hid hr
  have hul := carryN_len (by simp) hc
  have HC := Lib.hid (fun W h1 h2 => carry_any F (some u) n A c l B d x W hn0 hn hl hF hx hnil h1 h2 hr hc)
  have HRE := Lib.hid (fun Au cu W h1 h2 => rest_any n A c l Au cu u W hl hul hnil h1 h2)
  have HRG := Lib.hid (rigid_len hul)
  have HRI := Lib.hid (rigid_in hul hr)
  have HRB := Lib.hid (fun A2 c2 s W h1 h2 h3 => rbounds_any n A2 c2 (rigidL l u) s W hn (by have := HRG.out; omega) h1 HRI.out h2 h3)
  have HDL0 := Lib.hid (fun s => (show (rboundsL n (rigidL l u) s).length = n by unfold rboundsL; rw [riter_length]; simp [si]))
  clear h h' hr hc hx hnil hul
  generalize rigidL l u = rl at HRE HRG HRI HRB HDL0 ⊢
  obtain ⟨P, hP⟩ : ∃ P : Nat → Bool, (fun k : Nat => gi (rboundsL n rl (gl l k).b) (gl l k).a == wrap64 (-(gl l k).m)) = P := ⟨_, rfl⟩
  have HP := Lib.hid (fun k => congrFun hP k)
  rw [hP]
  clear hP
  go_enter Try.func24, Try.ntmps24
  go_upto_region 5 with (first | (go_at_call 73; refine (HC.out _ (HA.out.alloc _) (HX.out.alloc _)).mono ?_; rintro e w1 ⟨v1, rfl, ⟨Au, cu, rfl, hu, _⟩, hb⟩; have HB1 := Lib.hid (boxed hb).1; obtain ⟨c0, c1, lw⟩ := (boxed hb).2; have HU1 := Lib.hid (show IntsAt w1 Au u from hu); clear hb hu) | (go_at_call 74; refine (HRE.out Au cu _ (HA.out.below HB1.out) HU1.out).mono ?_; rintro e w2 ⟨v2, z2, rfl, ⟨A2, c2, rfl, hl2, _⟩, _, hb⟩; have HB2 := Lib.hid (below_trans HB1.out hb); have c0 := cell_below hb c0; have c1 := cell_below hb c1; have lw := World.block_lt_of_cell? _ _ c0; have HL2 := Lib.hid hl2; clear hb hl2))
  obtain ⟨w3, hw3⟩ : ∃ w3, w3 = w2.alloc (.cells #[.int .i64 n, .slice A2 rl.length c2] 24) := ⟨_, rfl⟩
  rw [← hw3]
  have HB3 := Lib.hid (show Below w.heap.size w w3 by rw [hw3]; exact HB2.out.alloc HB2.out.size _)
  have HQ := Lib.hid (show w3.cell? ⟨w.heap.size, 1, none⟩ = some (.slice A l.length c) by rw [hw3]; exact cell_alloc _ c1)
  have HBX := Lib.hid (show w3.cell? ⟨w2.heap.size, 0, none⟩ = some (.int .i64 n) ∧ w3.cell? ⟨w2.heap.size, 1, none⟩ = some (.slice A2 rl.length c2) by rw [hw3]; exact ⟨by go_simp, by go_simp⟩)
  have HL3 := Lib.hid (show LksAt w3 A2 rl by rw [hw3]; exact HL2.out.alloc _)
  generalize w2.heap.size = bb at HBX ⊢
  have HA3 := Lib.hid (HA.out.below HB3.out)
  replace HRB := Lib.hid (HRB.out A2 c2)
  clear hw3 c0 c1 lw HL2 HB2 HB1 HU1 HC HRE
  go_loopw [9, 10, 11] (fun v i _ wr => ∃ k : Nat, k ≤ l.length ∧ i = .int .i64 k ∧ Hid (OwnN w3.heap.size w3 wr v (ndN P k))) (fun _ i _ _ => l.length - (intOf i).toNat)
  case atStart => exact ⟨0, by omega, rfl, Lib.hid ⟨World.ownsRow_nil _ _ _ _, Below.refl _ _, Nat.le_refl _⟩⟩
  case round =>
    obtain ⟨k, hk, rfl, HZ⟩ := hrel
    have c1 := cell_below HZ.out.below HQ.out
    have lw := World.block_lt_of_cell? _ _ c1
    by_cases hlt : k < l.length
    · obtain ⟨b5, o5, rfl, g1, g2, g3⟩ := (HA3.out.below HZ.out.below).nat k hlt
      have HNL := Lib.hid (ndN_len P k)
      have HIN := Lib.hid (HR.out _ (gl_mem (l := l) (i := (k : Int)) (by omega) (by omega)))
      have HND := Lib.hid (ndN_succ P k)
      have HPK := Lib.hid (show (gi (rboundsL n rl (gl l k).b) (gl l k).a == wrap64 (-(gl l k).m)) = P k from HP.out k)
      generalize hq : gl l k = q at *
      have HQQ := Lib.hid hq
      clear hq
      have HDL := Lib.hid (HDL0.out q.b)
      generalize hy : gi (rboundsL n rl q.b) q.a = y at *
      have HY := Lib.hid hy
      clear hy
      go_upto_region 8 with fail
      obtain ⟨wx, hwx⟩ : ∃ wx, wx = wr.alloc (.cells #[.int .i64 q.a, .int .i64 q.b, .int .i64 q.m] 39) := ⟨_, rfl⟩
      rw [← hwx]
      have e0 : wx.cell? ⟨wr.heap.size, 0, none⟩ = some (.int .i64 q.a) := by rw [hwx]; go_simp
      have e1 : wx.cell? ⟨wr.heap.size, 1, none⟩ = some (.int .i64 q.b) := by rw [hwx]; go_simp
      have e2 : wx.cell? ⟨wr.heap.size, 2, none⟩ = some (.int .i64 q.m) := by rw [hwx]; go_simp
      have HZx := Lib.hid (show OwnN w3.heap.size w3 wx (u9) (ndN P k) by rw [hwx]; exact HZ.out.alloc _)
      have b0 := cell_below HZx.out.below HBX.out.1
      have b1 := cell_below HZx.out.below HBX.out.2
      have lx := World.block_lt_of_cell? _ _ e0
      have lx0 := World.block_lt_of_cell? _ _ b0
      have HLX := Lib.hid (HL3.out.below HZx.out.below)
      have ia0 := HIN.out.1
      have ia1 := HIN.out.2.1
      clear hwx g1 g2 g3 c1 lw
      refine wp_region_held_drew (S := fun w' => w'.cell? ⟨bb, 0, none⟩ = some (.int .i64 n) ∧ w'.cell? ⟨bb, 1, none⟩ = some (.slice A2 rl.length c2) ∧ w'.cell? ⟨wr.heap.size, 0, none⟩ = some (.int .i64 q.a) ∧ w'.cell? ⟨wr.heap.size, 1, none⟩ = some (.int .i64 q.b) ∧ w'.cell? ⟨wr.heap.size, 2, none⟩ = some (.int .i64 q.m)) (by kernel_rfl) ⟨b0, b1, e0, e1, e2⟩ (fun hHeld => ?_)
      refine wpAnyH_take (i := 0) (v := ?_) rfl (by kernel_rfl) (by kernel_rfl) (by kernel_rfl) (fun _ _ _ h => h) (Or.inl ⟨by rfl, ?hyy⟩) (by assumption) ?_
      case hyy => (intro w hSw; (try dsimp only at hSw); go_simp; all_goals (with_reducible rfl))
      simp only [List.getElem_toArray, List.getElem_cons_zero, List.getElem_cons_succ, Act.put, List.setIfInBounds_toArray, List.set_cons_zero, List.set_cons_succ]
      refine wpAnyH_take (i := 1) (v := ?_) rfl (by kernel_rfl) (by kernel_rfl) (by kernel_rfl) (fun _ _ _ h => h) (Or.inl ⟨by rfl, ?hyy⟩) (by assumption) ?_
      case hyy => (intro w hSw; (try dsimp only at hSw); go_simp; all_goals (with_reducible rfl))
      simp only [List.getElem_toArray, List.getElem_cons_zero, List.getElem_cons_succ, Act.put, List.setIfInBounds_toArray, List.set_cons_zero, List.set_cons_succ]
      refine wpAnyH_take (i := 2) (v := ?_) rfl (by kernel_rfl) (by kernel_rfl) (by kernel_rfl) (fun _ _ _ h => h) (Or.inl ⟨by rfl, ?hyy⟩) (by assumption) ?_
      case hyy => (intro w hSw; (try dsimp only at hSw); go_simp; all_goals (with_reducible rfl))
      simp only [List.getElem_toArray, List.getElem_cons_zero, List.getElem_cons_succ, Act.put, List.setIfInBounds_toArray, List.set_cons_zero, List.set_cons_succ]
      refine wpAnyH_take (i := 4) (v := ?_) rfl (by kernel_rfl) (by kernel_rfl) (by kernel_rfl) (fun _ _ _ h => h) (Or.inl ⟨by rfl, ?hyy⟩) (by assumption) ?_
      case hyy => (intro w hSw; (try dsimp only at hSw); go_simp; all_goals (with_reducible rfl))
      simp only [List.getElem_toArray, List.getElem_cons_zero, List.getElem_cons_succ, Act.put, List.setIfInBounds_toArray, List.set_cons_zero, List.set_cons_succ]
      refine wpAnyH_take (i := 5) (v := ?_) rfl (by kernel_rfl) (by kernel_rfl) (by kernel_rfl) (fun _ _ _ h => h) (Or.inl ⟨by rfl, ?hyy⟩) (by assumption) ?_
      case hyy => (intro w hSw; (try dsimp only at hSw); go_simp; all_goals (with_reducible rfl))
      simp only [List.getElem_toArray, List.getElem_cons_zero, List.getElem_cons_succ, Act.put, List.setIfInBounds_toArray, List.set_cons_zero, List.set_cons_succ]
      refine wpAnyH_take (i := 8) (v := ?_) rfl (by kernel_rfl) (by kernel_rfl) (by kernel_rfl) (fun _ _ _ h => h) (Or.inl ⟨by rfl, ?hyy⟩) (by assumption) ?_
      case hyy => (intro w hSw; (try dsimp only at hSw); go_simp; all_goals (with_reducible rfl))
      simp only [List.getElem_toArray, List.getElem_cons_zero, List.getElem_cons_succ, Act.put, List.setIfInBounds_toArray, List.set_cons_zero, List.set_cons_succ]
      refine wpAnyH_take (i := 9) (v := ?_) rfl (by kernel_rfl) (by kernel_rfl) (by kernel_rfl) (fun _ _ _ h => h) (Or.inl ⟨by rfl, ?hyy⟩) (by assumption) ?_
      case hyy => (intro w hSw; (try dsimp only at hSw); go_simp; all_goals (with_reducible rfl))
      simp only [List.getElem_toArray, List.getElem_cons_zero, List.getElem_cons_succ, Act.put, List.setIfInBounds_toArray, List.set_cons_zero, List.set_cons_succ]
      refine wpAnyH_take (i := 10) (v := ?_) rfl (by kernel_rfl) (by kernel_rfl) (by kernel_rfl) (fun _ _ _ h => h) (Or.inl ⟨by rfl, ?hyy⟩) (by assumption) ?_
      case hyy => (intro w hSw; (try dsimp only at hSw); go_simp; all_goals (with_reducible rfl))
      simp only [List.getElem_toArray, List.getElem_cons_zero, List.getElem_cons_succ, Act.put, List.setIfInBounds_toArray, List.set_cons_zero, List.set_cons_succ]
      refine wpAnyH_ready (rs := [3]) (by kernel_rfl) (by simp) ?_
      refine AllReadyH.cons rfl (fun K hK => ?_) AllReadyH.nil
      go_simp
      refine (HRB.out q.b _ HLX.out.drew HIN.out.2.2.1 HIN.out.2.2.2).mono ?_
      rintro e w9 ⟨g, rfl, hg, hrow, hb3⟩
      have ca := hrow.cell q.a.toNat (by rw [HDL.out]; omega)
      rw [tn _ HIN.out.1, HY.out] at ca
      have lg3 := World.block_lt_of_cell? _ _ ca
      refine hK.out _ _ ⟨cell_below hb3 b0, cell_below hb3 b1, cell_below hb3 e0, cell_below hb3 e1, cell_below hb3 e2⟩ (fun hHeld2 => ?_)
      clear hK K hHeld
      try simp only [Act.put, List.setIfInBounds_toArray, List.set_cons_zero, List.set_cons_succ]
      refine wpAnyH_turn (S2 := fun w' => (w'.cell? ⟨bb, 0, none⟩ = some (.int .i64 n) ∧ w'.cell? ⟨bb, 1, none⟩ = some (.slice A2 rl.length c2) ∧ w'.cell? ⟨wr.heap.size, 0, none⟩ = some (.int .i64 q.a) ∧ w'.cell? ⟨wr.heap.size, 1, none⟩ = some (.int .i64 q.b) ∧ w'.cell? ⟨wr.heap.size, 2, none⟩ = some (.int .i64 q.m)) ∧ w'.cell? ⟨g, q.a.toNat, none⟩ = some (.int .i64 y)) (fun w h => h.1) ?_
      have hHeld3 := And.intro hHeld2 ca
      clear hHeld2
      refine wpAnyH_take (i := 6) (v := ?_) rfl (by kernel_rfl) (by kernel_rfl) (by kernel_rfl) (fun _ _ _ h => h) (Or.inl ⟨by rfl, ?hyy⟩) (by assumption) ?_
      case hyy => (intro w hSw; (try dsimp only at hSw); go_simp; all_goals (with_reducible rfl))
      simp only [List.getElem_toArray, List.getElem_cons_zero, List.getElem_cons_succ, Act.put, List.setIfInBounds_toArray, List.set_cons_zero, List.set_cons_succ]
      refine wpAnyH_take (i := 7) (v := ?_) rfl (by kernel_rfl) (by kernel_rfl) (by kernel_rfl) (fun _ _ _ h => h) (Or.inl ⟨by rfl, ?hyy⟩) (by assumption) ?_
      case hyy => (intro w hSw; (try dsimp only at hSw); go_simp; all_goals (with_reducible rfl))
      simp only [List.getElem_toArray, List.getElem_cons_zero, List.getElem_cons_succ, Act.put, List.setIfInBounds_toArray, List.set_cons_zero, List.set_cons_succ]
      refine wpAnyH_take (i := 11) (v := ?_) rfl (by kernel_rfl) (by kernel_rfl) (by kernel_rfl) (fun _ _ _ h => h) (Or.inl ⟨by rfl, ?hyy⟩) (by assumption) ?_
      case hyy => (intro w hSw; (try dsimp only at hSw); go_simp; all_goals (with_reducible rfl))
      simp only [List.getElem_toArray, List.getElem_cons_zero, List.getElem_cons_succ, Act.put, List.setIfInBounds_toArray, List.set_cons_zero, List.set_cons_succ]
      refine wpAnyH_done (by kernel_rfl) ?_ _
      clear hHeld3
      have HZ3 := Lib.hid (HZx.out.calls (below_undrew hb3))
      clear ca e0 e1 e2 b0 b1 hrow hb3 lx lx0
      cases hyq : (y == wrap64 (-q.m))
      · have hyq2 : (y == IntKind.i64.wrap (-q.m)) = false := by rw [IntWalk.i64_left]; exact hyq
        have Hs := Lib.hid (show ndN P (k + 1) = ndN P k by rw [HND.out, ← HPK.out, hyq]; rfl)
        go_wp2
        go_roundw
        case rel => exact ⟨k + 1, by omega, by go_num, Lib.hid (by rw [Hs.out]; exact HZ3.out)⟩
        case measure => simp [intOf]; omega
      · have hyq2 : (y == IntKind.i64.wrap (-q.m)) = true := by rw [IntWalk.i64_left]; exact hyq
        have Hs := Lib.hid (show ndN P (k + 1) = ndN P k ++ [(k : Int)] by rw [HND.out, ← HPK.out, hyq]; rfl)
        go_wp2_with (at_builtin; refine app_one rfl _ _ 25 3 (.int .i64 0) 1 8 rfl Try.underlying25 info3 rfl (by omega) u9 _ _ [.int .i64 k] rfl rfl rfl rfl (one1 _ _) w3.heap.size HZ3.out.row HZ3.out.hB (by have := HNL.out; omega) (by have := HNL.out; unfold maxLen; omega) ?_; intro v1 w4 ho hg _; have HG := Lib.hid hg; have HO3 := Lib.hid ho; clear ho hg)
        go_roundw
        case rel => exact ⟨k + 1, by omega, by go_num, Lib.hid (by rw [Hs.out]; exact HZ3.out.appended HO3.out HG.out)⟩
        case measure => simp [intOf]; omega
    · obtain rfl : k = l.length := by omega
      go_wp2
      go_ret
      exact ⟨_, rfl, own_intsV HZ.out.row, below_trans HB3.out HZ.out.below⟩

/-- The bounds of the net in which units can be taken back, as a solution: far where nothing bounds. -/
theorem ten_far {n : Nat} {l : List Lk} {u : List Int} {s : Int} {d : List Int} (hok : NetOk n l) (hl : l.length ≤ 100) (hu : u.length = l.length) (h : Ten l u) (hd : BndOk n (rigidL l u) s d) : ∃ x : Int → Int, (∀ v : Int, 0 ≤ v → v < n → gi d v ≠ free → x v = gi d v) ∧ (∀ v : Int, gi d v = free → 1000000000000000 ≤ x v) ∧ (∀ k : Nat, k < l.length → x (gl l k).b ≤ x (gl l k).a + (gl l k).m) ∧ ∀ k : Nat, k < l.length → 0 < gi u k → x (gl l k).b = x (gl l k).a + (gl l k).m := by
  obtain ⟨hrk, hsol⟩ := ten_sol hok hl hu h
  have hpot := solution_pot hrk hsol
  have hlo := hpot.lo
  have hfit := hpot.fit
  generalize (solutionL n (rigidL l u)).1 = y at *
  change ∀ k ∈ rigidL l u, gi y k.b ≤ gi y k.a + k.m at hfit
  change ∀ v, -1000000000000000 ≤ gi y v at hlo
  have hx : ∀ q ∈ rigidL l u, (if gi d q.b ≠ free then gi d q.b else gi y q.b + 2000000000000000) ≤ (if gi d q.a ≠ free then gi d q.a else gi y q.a + 2000000000000000) + q.m := by
    intro q hq
    obtain ⟨⟨a0, a1, b0, b1⟩, _, m1, m2⟩ := hrk.lk q hq
    have h1 := hd.fix q hq
    have h2 := hfit q hq
    have h3 := hlo q.a
    have h4 := hd.hi q.b b0 b1
    have h5 := hd.hi q.a a0 a1
    by_cases ha : gi d q.a = free
    · rw [if_neg (show ¬ gi d q.a ≠ free from fun h => h ha)]
      by_cases hb : gi d q.b = free
      · rw [if_neg (show ¬ gi d q.b ≠ free from fun h => h hb)]; omega
      · rw [if_pos hb]
        have := h4.resolve_left hb
        omega
    · rw [if_pos ha]
      have h6 := h1.resolve_left ha
      have h7 := h5.resolve_left ha
      have hb : gi d q.b ≠ free := fun e => by rw [e] at h6; unfold free at h6; omega
      rw [if_pos hb]
      exact h6
  refine ⟨fun v => if gi d v ≠ free then gi d v else gi y v + 2000000000000000, fun v _ _ hne => if_pos hne, fun v hv => ?_, fun k hk => hx _ (List.mem_append.2 (.inl (gl_mem (by omega) (by omega)))), fun k hk h0 => ?_⟩
  · show 1000000000000000 ≤ if gi d v ≠ free then gi d v else gi y v + 2000000000000000
    rw [if_neg (fun h => h hv)]
    have := hlo v
    omega
  have h1 := hx _ (List.mem_append.2 (.inl (gl_mem (l := l) (i := (k : Int)) (by omega) (by omega))))
  have h2 := hx _ (List.mem_append.2 (.inr ((backs_at hu).2 ⟨k, hk, h0, rfl⟩)))
  have h3 := (hok.lk (gl l k) (gl_mem (l := l) (i := (k : Int)) (by omega) (by omega))).2.2
  change (if gi d (gl l k).a ≠ free then gi d (gl l k).a else gi y (gl l k).a + 2000000000000000) ≤ (if gi d (gl l k).b ≠ free then gi d (gl l k).b else gi y (gl l k).b + 2000000000000000) + wrap64 (-(gl l k).m) at h2
  rw [wrap_in (by omega)] at h2
  show (if gi d (gl l k).b ≠ free then gi d (gl l k).b else gi y (gl l k).b + 2000000000000000) = (if gi d (gl l k).a ≠ free then gi d (gl l k).a else gi y (gl l k).a + 2000000000000000) + (gl l k).m
  omega
/-- A solution lies below the bounds where tight links lead. -/
theorem tr_le {rl : List Lk} {d : List Int} {s : Int} {x : Int → Int} (h0 : gi d s = 0) (hf : ∀ q ∈ rl, x q.b ≤ x q.a + q.m) {v : Int} (h : TR rl d s v) : x v - x s ≤ gi d v := by
  induction h with
  | nil => omega
  | snoc h1 h2 h3 h4 ih =>
    have := hf _ h2
    omega
/-- What the one flow makes tight, the other makes tight. -/
theorem tight_turn {n : Nat} {l : List Lk} {w u ur : List Int} (hok : NetOk n l) (hn : n ≤ 12) (hl : l.length ≤ 60) (hF : Fl n l w u) (hT : Ten l u) (hFr : Fl n l w ur) (hTr : Ten l ur) (hc : cst l u = cst l ur) {k : Nat} (hk : k < l.length)
    (h : gi (rboundsL n (rigidL l u) (gl l k).b) (gl l k).a = -(gl l k).m) : gi (rboundsL n (rigidL l ur) (gl l k).b) (gl l k).a = -(gl l k).m := by
  have hS := netOk_lk hok hn
  have hlk : ∀ k : Nat, k < l.length → 0 ≤ (gl l k).a ∧ (gl l k).a < n ∧ 0 ≤ (gl l k).b ∧ (gl l k).b < n := fun k hk => by have := hS.lk k hk; omega
  obtain ⟨a0, a1, b0, b1, m1, m2⟩ := hS.lk k hk
  obtain ⟨hrk, hsol⟩ := ten_sol hok (by omega) hF.len hT
  obtain ⟨hrk2, hsol2⟩ := ten_sol hok (by omega) hFr.len hTr
  have hd := bnd_ok (s := (gl l k).b) hrk hsol b0 b1
  have hd2 := bnd_ok (s := (gl l k).b) hrk2 hsol2 b0 b1
  obtain ⟨x, x1, x2, x3, x4⟩ := ten_far hok (by omega) hFr.len hTr hd2
  generalize rboundsL n (rigidL l u) (gl l k).b = d at *
  generalize rboundsL n (rigidL l ur) (gl l k).b = d2 at *
  have hst := strong hlk (x := x) (fun j hj hne => x4 j hj (by have := hFr.u0 j hj; omega)) hFr.cons
  have ht := slack_zero hlk (x := x) hF x3 (by rw [hst]; exact hc.symm)
  have hfit : ∀ q ∈ rigidL l u, x q.b ≤ x q.a + q.m := by
    intro q hq
    rcases List.mem_append.1 hq with hq | hq
    · obtain ⟨j, hj, e⟩ := List.mem_iff_getElem.1 hq
      have e2 : gl l j = q := by rw [← e]; simp [gl, List.getD_eq_getElem?_getD, hj]
      have := x3 j hj
      rw [e2] at this
      exact this
    · obtain ⟨j, hj, h0, rfl⟩ := (backs_at hF.len).1 hq
      have h1 := ht j hj h0
      have h2 := hS.lk j hj
      show x (gl l j).a ≤ x (gl l j).b + wrap64 (-(gl l j).m)
      rw [wrap_in (by omega)]; omega
  have hne : gi d (gl l k).a ≠ free := by rw [h]; unfold free; omega
  have h1 := tr_le hd.at_ hfit (hd.tr _ a0 a1 hne)
  have h2 := x3 k hk
  have h3 : x (gl l k).b = 0 := by rw [x1 _ b0 b1 (by rw [hd2.at_]; decide), hd2.at_]
  have h4 : x (gl l k).a = -(gl l k).m := by omega
  have hne2 : gi d2 (gl l k).a ≠ free := fun e => by have := x2 _ e; omega
  rw [← x1 _ a0 a1 hne2]
  exact h4
theorem best_ten {n : Nat} {l : List Lk} {w u x : List Int} (hb : Best n l w u x) : Ten l u :=
  ⟨fun v => gi x v, fun k hk => by have := hb.s0 k hk; unfold sl at this; show gi x (gl l k).b ≤ gi x (gl l k).a + (gl l k).m; omega, fun k hk h => by have := hb.tight k hk h; unfold sl at this; show gi x (gl l k).b = gi x (gl l k).a + (gl l k).m; omega⟩
/-- Whether Most without some links is the same: a flow of this cost avoids them. -/
theorem same_spec {n : Nat} {l : List Lk} {w : List Int} {sum : Int} (h : Opt n l w sum) (S : List Int) : (∃ r, rmostP 2000000 n (keptL l (notIn S)) w = some r) ∧ (sameB 2000000 n l w S sum = true ↔ ∃ u, Fl n l w u ∧ (∀ j : Nat, j < l.length → S.contains (j : Int) = true → gi u j = 0) ∧ cst l u = sum) := by
  have hok := kept_ok (S := S) h.ok
  have ha : askedI n (keptL l (notIn S)) w = 0 := asked_of (ok_check hok) h.ws
  obtain ⟨r, r1, r2⟩ := rmost_same ha h.n12 (Nat.le_trans (keptL_len l _) h.l60)
  obtain ⟨q, q1, q2⟩ := lacks_spec h S
  have hr : r = mostV (keptL l (notIn S)) q := by
    unfold MostP at r2
    rw [if_pos ha, Int.toNat_natCast, q1] at r2
    exact (Option.some.inj r2).symm
  refine ⟨⟨r, r1⟩, ?_⟩
  have he : sameB 2000000 n l w S sum = (lacksR l sum S q).2 := by
    unfold sameB
    rw [r1, hr]
    unfold mostV lacksR
    by_cases h0 : q.2 = 0
    · rw [if_pos h0]
      by_cases h1 : costI (keptL l (notIn S)) q.1 = sum
      · rw [if_pos ⟨h0, h1⟩]; simp [h1]
      · rw [if_neg (fun h => h1 h.2)]; simp [h1]
    · rw [if_neg h0, if_neg (fun h => h0 h.1)]; simp [h0]
  rw [he]
  rcases q2 with ⟨h1, h2, h3, h4⟩ | ⟨h1, h2⟩
  · rw [h1]
    exact ⟨fun _ => ⟨_, h2, h4, h3⟩, fun _ => rfl⟩
  · rw [h1]
    exact ⟨fun e => (by cases e), fun ⟨u, hu, h3, h4⟩ => absurd h4 (h2 u hu h3)⟩
theorem ndN_congr {P Q : Nat → Bool} : ∀ m, (∀ k, k < m → P k = Q k) → ndN P m = ndN Q m
  | 0, _ => rfl
  | m + 1, h => by
    rw [ndN_succ, ndN_succ, ndN_congr m (fun k hk => h k (by omega)), h m (by omega)]
theorem contains_cons (g : List Int) (k j : Int) : (k :: g).contains j = (j == k || g.contains j) := by
  rw [Bool.eq_iff_iff]
  simp
/-- The program's Core and the reference's go side by side. -/
theorem core_par {n : Nat} {l : List Lk} {w : List Int} {sum : Int} (h : Opt n l w sum) : ∀ (k : Nat) (u g gs os : List Int), k ≤ l.length → Fl n l w u → cst l u = sum → (∀ j : Nat, j < l.length → g.contains (j : Int) = true → gi u j = 0) → (∀ y ∈ g, (k : Int) ≤ y) → (∀ j : Int, gs.contains j = g.contains j) →
    ∃ fin : List Int × List Int, coreGo 2000000 n l w sum k u g = some fin ∧ (∀ j : Int, (k : Int) ≤ j → fin.2.contains j = g.contains j) ∧ (rcoreN (fun S => sameB 2000000 n l w S sum) k gs os).2 = ndN (fun i => !fin.2.contains (i : Int)) k ++ os
  | 0, u, g, gs, os, _, _, _, _, _, _ => ⟨(u, g), rfl, fun _ _ => rfl, by simp [rcoreN, ndN]⟩
  | k + 1, u, g, gs, os, hk, hf, hc, hav, hg, hsame => by
    have hkg : g.contains (k : Int) = false := by
      cases hq : g.contains (k : Int) with
      | false => rfl
      | true =>
        have := hg k (List.contains_iff_mem.1 hq)
        omega
    have hput := putS_new hkg
    have hg' : ∀ y ∈ g ++ [(k : Int)], (k : Int) ≤ y := by
      intro y hy
      rcases List.mem_append.1 hy with h1 | h1
      · have := hg y h1; omega
      · simp at h1; omega
    have hsame' : ∀ j : Int, ((k : Int) :: gs).contains j = (g ++ [(k : Int)]).contains j := by
      intro j
      rw [contains_cons, contains_app, hsame j, Bool.or_comm]
    have hsp := (same_spec h ((k : Int) :: gs)).2
    rw [rcoreN_succ]
    have hkept : sameB 2000000 n l w ((k : Int) :: gs) sum = true → ∀ fin : List Int × List Int, (∀ j : Int, (k : Int) ≤ j → fin.2.contains j = (g ++ [(k : Int)]).contains j) → (rcoreN (fun S => sameB 2000000 n l w S sum) k ((k : Int) :: gs) os).2 = ndN (fun i => !fin.2.contains (i : Int)) k ++ os →
        (∀ j : Int, ((k + 1 : Nat) : Int) ≤ j → fin.2.contains j = g.contains j) ∧ (if sameB 2000000 n l w ((k : Int) :: gs) sum then rcoreN (fun S => sameB 2000000 n l w S sum) k ((k : Int) :: gs) os else rcoreN (fun S => sameB 2000000 n l w S sum) k gs ((k : Int) :: os)).2 = ndN (fun i => !fin.2.contains (i : Int)) (k + 1) ++ os := by
      intro hb fin hfin hr
      rw [if_pos hb, hr, ndN_succ, hfin k (Int.le_refl _), contains_app]
      refine ⟨fun j hj => ?_, by simp⟩
      rw [hfin j (by omega), contains_app]
      have : (j == (k : Int)) = false := by simp; omega
      rw [this, Bool.or_false]
    unfold coreGo
    by_cases h0 : gi u k = 0
    · rw [if_pos (by simpa using h0), hput]
      have hav' : ∀ j : Nat, j < l.length → (g ++ [(k : Int)]).contains (j : Int) = true → gi u j = 0 := fun j hj hcj => by
        rw [contains_app] at hcj
        simp only [Bool.or_eq_true, beq_iff_eq] at hcj
        rcases hcj with h1 | h1
        · exact hav j hj h1
        · rw [h1]; exact h0
      have hb : sameB 2000000 n l w ((k : Int) :: gs) sum = true := hsp.2 ⟨u, hf, fun j hj hcj => hav' j hj (by rw [← hsame']; exact hcj), hc⟩
      obtain ⟨fin, f1, f2, f3⟩ := core_par h k u (g ++ [(k : Int)]) ((k : Int) :: gs) os (by omega) hf hc hav' hg' hsame'
      exact ⟨fin, f1, hkept hb fin f2 f3⟩
    · rw [if_neg (by simpa using h0)]
      obtain ⟨r, hr, hcase⟩ := lacks_spec h (putS g k)
      rw [hr]
      rcases hcase with ⟨h1, h2, h3, h4⟩ | ⟨h1, h2⟩
      · simp only [h1, if_true]
        rw [hput] at h2 h3 h4 ⊢
        have hb : sameB 2000000 n l w ((k : Int) :: gs) sum = true := hsp.2 ⟨_, h2, fun j hj hcj => h4 j hj (by rw [← hsame']; exact hcj), h3⟩
        obtain ⟨fin, f1, f2, f3⟩ := core_par h k _ (g ++ [(k : Int)]) ((k : Int) :: gs) os (by omega) h2 h3 h4 hg' hsame'
        exact ⟨fin, f1, hkept hb fin f2 f3⟩
      · simp only [h1, Bool.false_eq_true, if_false]
        have he : (putS g k).erase (k : Int) = g := by
          rw [hput, List.erase_append_right _ (fun hm => by rw [List.contains_iff_mem.2 hm] at hkg; cases hkg)]
          simp
        rw [he]
        have hb : sameB 2000000 n l w ((k : Int) :: gs) sum = false := by
          cases e : sameB 2000000 n l w ((k : Int) :: gs) sum with
          | false => rfl
          | true =>
            obtain ⟨u', q1, q2, q3⟩ := hsp.1 e
            exact absurd q3 (h2 u' q1 fun j hj hcj => q2 j hj (by rw [hsame', ← hput]; exact hcj))
        obtain ⟨fin, f1, f2, f3⟩ := core_par h k u g gs ((k : Int) :: os) (by omega) hf hc hav (fun y hy => by have := hg y hy; omega) hsame
        refine ⟨fin, f1, fun j hj => f2 j (by omega), ?_⟩
        rw [if_neg (by rw [hb]; simp), f3, ndN_succ, f2 k (Int.le_refl _), hkg]
        simp
structure MattersOk (n : Int) (l : List Lk) (p : List Int) (N : Nat) (most : Int) (u ur : List Int) : Prop where
  nn : n = N
  n0 : 0 < N
  n1 : N ≤ 1000000
  pl : p.length = N
  inr : ∀ k ∈ l, InR N k
  pr : proveP 2000000 n l p = some (u, 0)
  len : u.length = l.length
  ti : tightR n l (u, 0) = (ndN (fun k => gi (rboundsL N (rigidL l ur) (gl l k).b) (gl l k).a == wrap64 (-(gl l k).m)) l.length, 0)
  ne : neededP 2000000 n l p = some (ndN (fun k => !sameB 2000000 N l p [(k : Int)] most) l.length, 0)
  co : coreP 2000000 n l p = some ((rcoreN (fun S => sameB 2000000 N l p S most) l.length [] []).2, 0)
  rc : carryN 2000000 l N 2000000 0 (List.replicate l.length 0) p = some (some ur)
  sm : ∀ S : List Int, ∃ r, rmostP 2000000 N (keptL l (notIn S)) p = some r
  cl : (rcoreN (fun S => sameB 2000000 N l p S most) l.length [] []).2.length ≤ l.length
theorem matters_law {n : Int} {l : List Lk} {p : List Int} (ha : askedI n l p = 0) (hsm : lightB n l.length = true) : ∃ (N : Nat) (r : Int × Int), n = N ∧ 0 < N ∧ N ≤ 1000000 ∧ p.length = N ∧ (∀ k ∈ l, InR N k) ∧ rmostP 2000000 N l p = some r ∧
    ((r.2 ≠ 0 ∧ proveP 2000000 n l p = some ([], r.2)) ∨ (r.2 = 0 ∧ ∃ u ur, MattersOk n l p N r.1 u ur)) := by
  have hok0 := check_ok (asked_ok ha).1
  have hn1 := hok0.n1
  have hn2 := hok0.n2
  obtain ⟨N, rfl⟩ : ∃ N : Nat, n = N := ⟨n.toNat, by omega⟩
  obtain ⟨hok, hw, hwb, hsum⟩ := asked_facts ha
  have hsm2 : (N : Int) ≤ 8 ∧ l.length ≤ 18 := by simpa [lightB] using hsm
  have hn : N ≤ 12 := by omega
  have hS := netOk_lk hok hn
  have hlk : ∀ k : Nat, k < l.length → 0 ≤ (gl l k).a ∧ (gl l k).a < N ∧ 0 ≤ (gl l k).b ∧ (gl l k).b < N := fun k hk => by have := hS.lk k hk; omega
  obtain ⟨r, r1, r2⟩ := rmost_same ha hn (by omega)
  obtain ⟨q, hq, hc⟩ := best_facts ha hn
  have hm : r = mostV l q := by
    unfold MostP at r2
    rw [if_pos ha, Int.toNat_natCast, hq] at r2
    exact (Option.some.inj r2).symm
  have hp : proveP 2000000 N l p = some q := by unfold proveP; rw [if_pos ha, Int.toNat_natCast]; exact hq
  refine ⟨N, r, rfl, by omega, by omega, hw, fun k hk => (hok.lk k hk).1, r1, ?_⟩
  rcases hc with ⟨rfl, _⟩ | ⟨rfl, _⟩ | ⟨u, x0, rfl, hs, hb⟩
  · left; rw [hm]; exact ⟨by show (9 : Int) ≠ 0; decide, hp⟩
  · left; rw [hm]; exact ⟨by show (5 : Int) ≠ 0; decide, hp⟩
  right
  have hr1 : r.1 = costI l u := by rw [hm]; rfl
  refine ⟨by rw [hm]; rfl, ?_⟩
  rw [hr1]
  obtain ⟨hO, hF, hcu⟩ := opt_of ha hn (by omega) hs hb
  obtain ⟨q2, c1, c2⟩ := carry_ok ha hn (by omega) hs
  rcases c2 with ⟨ur, rfl, hFr, hTr, _⟩ | ⟨rfl, hcut⟩
  case inr => exact absurd (cut_none hlk hcut hF.u0 hF.cons) id
  have hTu := best_ten hb
  have hcc : cst l u = cst l ur := by
    have h1 := carry_best hlk hF hTu ur hFr
    have h2 := carry_best hlk hFr hTr u hF
    omega
  obtain ⟨fin, f1, _, f3⟩ := core_par hO l.length u [] [] [] (Nat.le_refl _) hF hcu (fun j _ h => by simp at h) (fun y h => by simp at h) (fun _ => rfl)
  obtain ⟨Pn, n1, n2⟩ := needed_spec (u := u) hO l.length (Nat.le_refl _)
  refine ⟨u, ur, rfl, by omega, by omega, hw, fun k hk => (hok.lk k hk).1, hp, hb.lu, ?_, ?_, ?_, c1, fun S => (same_spec hO S).1, by rw [f3, List.append_nil]; exact ndN_len _ _⟩
  · unfold tightR
    rw [if_pos rfl, Int.toNat_natCast, tightL_nd]
    refine congrArg (fun z => (z, (0 : Int))) (ndN_congr _ fun k hk => ?_)
    obtain ⟨a0, a1, b0, b1, m1, m2⟩ := hS.lk k hk
    obtain ⟨hrk, hsol⟩ := ten_sol hok (by omega) hF.len hTu
    rw [(bounds_same hrk hsol b0 b1).1, wrap_in (by omega), Bool.eq_iff_iff]
    simp only [beq_iff_eq]
    exact ⟨tight_turn hok hn (by omega) hF hTu hFr hTr hcc hk, tight_turn hok hn (by omega) hFr hTr hF hTu hcc.symm hk⟩
  · unfold neededP
    rw [hp]
    simp only [if_true, Int.toNat_natCast]
    rw [n1]
    refine congrArg (fun z => some (z, (0 : Int))) (ndN_congr _ fun k hk => ?_)
    have h1 := n2 k hk
    have h2 := (same_spec hO [(k : Int)]).2
    have hone : ∀ j : Nat, ([(k : Int)].contains (j : Int) = true ↔ j = k) := by
      intro j
      simp
      omega
    cases hsb : sameB 2000000 N l p [(k : Int)] (costI l u) with
    | true =>
      obtain ⟨u', q1, q2, q3⟩ := h2.1 hsb
      cases hP : Pn k with
      | false => rfl
      | true => exact absurd q3 ((h1.1 hP).2 u' q1 fun j hj e => q2 j hj ((hone j).2 e))
    | false =>
      show Pn k = true
      refine h1.2 ⟨fun h0 => ?_, fun u' q1 q2 q3 => ?_⟩
      · have : sameB 2000000 N l p [(k : Int)] (costI l u) = true := h2.2 ⟨u, hF, fun j hj e => by rw [(hone j).1 e]; exact h0, hcu⟩
        rw [hsb] at this; cases this
      · have : sameB 2000000 N l p [(k : Int)] (costI l u) = true := h2.2 ⟨u', q1, fun j hj e => q2 j hj ((hone j).1 e), q3⟩
        rw [hsb] at this; cases this
  · unfold coreP
    rw [hp]
    simp only [if_true, Int.toNat_natCast]
    rw [f1, f3, List.append_nil]
    show some (idxN fin.2 l.length, (0 : Int)) = _
    rw [idxN_nd]

set_option maxRecDepth 100000 in
set_option maxHeartbeats 20000000 in
theorem matters_guard (n : Int) (A : Option Addr) (c : Nat) (l : List Lk) (C : Option Addr) (f : Nat) (p : List Int) (w : World)
    (h : LksAt w A l) (hn : A = none → l.length = 0 ∧ c = 0) (h1 : IntsAt w C p) (hl : l.length ≤ 9223372036854775807) (hp : p.length ≤ 9223372036854775807) (hg : lightB n l.length = false ∨ 60 < p.length) :
    Calls Try.prog 3 #[.agg #[.int .i64 n, .slice A l.length c], .slice C p.length f] w fun e w' => e = .returned (.bool true) ∧ Below w.heap.size w w' := by
  have HA := Lib.hid h
  have HP := Lib.hid h1
  have HN := Lib.hid hn
  clear h h1 hn
  cases hs : lightB n l.length
  · go_enter Try.func3, Try.ntmps3
    go_wp2_with (first | (go_at_call 16; refine (light_any _ A c l.length _).mono ?_; rw [hs]; rintro e w1 ⟨rfl, hb⟩; have HB1 := Lib.hid (boxed hb).1; obtain ⟨c0, c1, lw⟩ := (boxed hb).2; clear hb) | (go_at_call 17; refine (sanity_any _).mono ?_; rintro e wz ⟨rfl, hb⟩; have HBz := Lib.hid (below_trans HB1.out hb); clear hb))
    go_ret
    exact ⟨rfl, HBz.out⟩
  · have hp60 : 60 < p.length := by
      rcases hg with h | h
      · rw [hs] at h; cases h
      · exact h
    go_enter Try.func3, Try.ntmps3
    go_wp2_with (first | (go_at_call 16; refine (light_any _ A c l.length _).mono ?_; rw [hs]; rintro e w1 ⟨rfl, hb⟩; have HB1 := Lib.hid (boxed hb).1; obtain ⟨c0, c1, lw⟩ := (boxed hb).2; clear hb) | (go_at_call 17; refine (sanity_any _).mono ?_; rintro e wz ⟨rfl, hb⟩; have HBz := Lib.hid (below_trans HB1.out hb); clear hb))
    go_ret
    exact ⟨rfl, HBz.out⟩
theorem light_len {n : Int} {m : Nat} (h : lightB n m = true) : m ≤ 18 := by
  unfold lightB at h
  simp at h
  omega
set_option maxRecDepth 100000 in
set_option maxHeartbeats 20000000 in
theorem matters_bad (n : Int) (A : Option Addr) (c : Nat) (l : List Lk) (C : Option Addr) (f : Nat) (p : List Int) (w : World)
    (h : LksAt w A l) (hn : A = none → l.length = 0 ∧ c = 0) (h1 : IntsAt w C p) (hl : l.length ≤ 9223372036854775807) (hp : p.length ≤ 9223372036854775807) (hs : lightB n l.length = true) (hp60 : ¬ 60 < p.length) (a : Int) (hae : askedI n l p = a) (ha : ¬ a = 0) :
    Calls Try.prog 3 #[.agg #[.int .i64 n, .slice A l.length c], .slice C p.length f] w fun e w' => e = .returned (.bool true) ∧ Below w.heap.size w w' := by
  have HA := Lib.hid h
  have HP := Lib.hid h1
  have HN := Lib.hid hn
  clear h h1 hn
  have hl2 := light_len hs
  have HLL := Lib.hid (show l.length ≤ 1000 ∧ p.length ≤ 1000000 by omega)
  have HE := Lib.hid (fun W h1 h2 => rerror_any n A c l C f p W hl (by omega) h1 h2)
  have hpr : proveP 2000000 n l p = some ([], a) := by unfold proveP; rw [if_neg (by rw [hae]; exact ha), hae]
  have e1 : tightR n l (([], a) : List Int × Int) = ([], a) := by unfold tightR; rw [if_neg ha]
  have e2 : neededP 2000000 n l p = some ([], a) := by unfold neededP; rw [hpr]; exact if_neg ha
  have e3 : coreP 2000000 n l p = some ([], a) := by unfold coreP; rw [hpr]; exact if_neg ha
  have HT := Lib.hid (fun W h1 h2 => tight_any 2000000 ([], a) n A c l C f p W HLL.out.1 HLL.out.2 HN.out h1 h2 hpr)
  rw [e1] at HT
  have HNE := Lib.hid (fun W h1 h2 => needed_any 2000000 ([], a) n A c l C f p W HLL.out.1 HLL.out.2 h1 h2 e2)
  have HCO := Lib.hid (fun W h1 h2 => core_any 2000000 ([], a) n A c l C f p W HLL.out.1 HLL.out.2 h1 h2 e3)
  rw [hae] at HE
  have ha2 : (a == 0) = false := by simpa using ha
  have ha3 : (a != 0) = true := by simpa using ha
  clear hae hpr e1 e2 e3 ha hl hp hl2
  go_enter Try.func3, Try.ntmps3
  go_wp2_with (first | (go_at_call 16; refine (light_any _ A c l.length _).mono ?_; rw [hs]; rintro e w1 ⟨rfl, hb⟩; have HB1 := Lib.hid (boxed hb).1; obtain ⟨c0, c1, lw⟩ := (boxed hb).2; clear hb) | (go_at_call 18; refine (HT.out _ (HA.out.below HB1.out) (HP.out.below HB1.out)).mono ?_; rintro e w2 ⟨v2, rfl, ⟨At, ct, rfl, ht, _⟩, hb⟩; have HIT := Lib.hid ht; clear ht; have HB2 := Lib.hid (below_trans HB1.out hb); have c0 := cell_below hb c0; have c1 := cell_below hb c1; have lw := World.block_lt_of_cell? _ _ c0; clear hb HT) | (go_at_call 19; refine (HNE.out _ (HA.out.below HB2.out) (HP.out.below HB2.out)).mono ?_; rintro e w3 ⟨v3, rfl, ⟨An, cn, rfl, hne, _⟩, hb⟩; have HIT := Lib.hid (HIT.out.below hb); have HIN := Lib.hid hne; clear hne; have HB3 := Lib.hid (below_trans HB2.out hb); have c0 := cell_below hb c0; have c1 := cell_below hb c1; have lw := World.block_lt_of_cell? _ _ c0; clear hb HNE) | (go_at_call 20; refine (HCO.out _ (HA.out.below HB3.out) (HP.out.below HB3.out)).mono ?_; rintro e w4 ⟨v4, rfl, ⟨Ac, cc, rfl, hco, _⟩, hb⟩; have HIT := Lib.hid (HIT.out.below hb); have HIN := Lib.hid (HIN.out.below hb); have HIC := Lib.hid hco; clear hco; have HB4 := Lib.hid (below_trans HB3.out hb); have c0 := cell_below hb c0; have c1 := cell_below hb c1; have lw := World.block_lt_of_cell? _ _ c0; clear hb HCO) | (go_at_call 21; refine (HE.out _ (HA.out.below HB4.out) (HP.out.below HB4.out)).mono ?_; rintro e w5 ⟨rfl, hb⟩; have HIT := Lib.hid (HIT.out.below hb); have HIN := Lib.hid (HIN.out.below hb); have HIC := Lib.hid (HIC.out.below hb); have HB5 := Lib.hid (below_trans HB4.out hb); have c0 := cell_below hb c0; have c1 := cell_below hb c1; have lw := World.block_lt_of_cell? _ _ c0; clear hb HE) | (go_at_call 17; refine (sanity_any _).mono ?_; rintro e wz ⟨rfl, hb⟩; have HBz := Lib.hid (below_trans HB5.out hb); clear hb))
  go_ret
  exact ⟨rfl, HBz.out⟩
set_option maxRecDepth 100000 in
set_option maxHeartbeats 20000000 in
theorem matters_none (n : Int) (A : Option Addr) (c : Nat) (l : List Lk) (C : Option Addr) (f : Nat) (p : List Int) (w : World)
    (h : LksAt w A l) (hn : A = none → l.length = 0 ∧ c = 0) (h1 : IntsAt w C p) (hl : l.length ≤ 9223372036854775807) (hp : p.length ≤ 9223372036854775807) (hs : lightB n l.length = true) (hp60 : ¬ 60 < p.length) (hask : askedI n l p = 0) (N : Nat) (m a : Int) (hnn : n = N) (n0 : 0 < N) (n1 : N ≤ 1000000) (pl : p.length = N) (inr : ∀ k ∈ l, InR N k) (rm : rmostP 2000000 N l p = some (m, a)) (ha : ¬ a = 0) (hpr : proveP 2000000 n l p = some ([], a)) :
    Calls Try.prog 3 #[.agg #[.int .i64 n, .slice A l.length c], .slice C p.length f] w fun e w' => e = .returned (.bool true) ∧ Below w.heap.size w w' := by
  have HA := Lib.hid h
  have HP := Lib.hid h1
  have HN := Lib.hid hn
  clear h h1 hn
  have hl2 := light_len hs
  have HLL := Lib.hid (show l.length ≤ 1000 ∧ p.length ≤ 1000000 by omega)
  have HE := Lib.hid (fun W h1 h2 => rerror_any n A c l C f p W hl (by omega) h1 h2)
  have e1 : tightR n l (([], a) : List Int × Int) = ([], a) := by unfold tightR; rw [if_neg ha]
  have e2 : neededP 2000000 n l p = some ([], a) := by unfold neededP; rw [hpr]; exact if_neg ha
  have e3 : coreP 2000000 n l p = some ([], a) := by unfold coreP; rw [hpr]; exact if_neg ha
  have HT := Lib.hid (fun W h1 h2 => tight_any 2000000 ([], a) n A c l C f p W HLL.out.1 HLL.out.2 HN.out h1 h2 hpr)
  rw [e1] at HT
  have HNE := Lib.hid (fun W h1 h2 => needed_any 2000000 ([], a) n A c l C f p W HLL.out.1 HLL.out.2 h1 h2 e2)
  have HCO := Lib.hid (fun W h1 h2 => core_any 2000000 ([], a) n A c l C f p W HLL.out.1 HLL.out.2 h1 h2 e3)
  subst hnn
  have HRM := Lib.hid (fun W h1 h2 => rmost_any 2000000 (m, a) N A c l C f p W n0 n1 HLL.out.1 (by omega) pl HN.out h1 h2 inr rm)
  rw [hask] at HE
  have ha2 : (a == 0) = false := by simpa using ha
  have ha3 : (a != 0) = true := by simpa using ha
  clear hask hpr e1 e2 e3 ha hl hp hl2 pl inr rm n0 n1
  go_enter Try.func3, Try.ntmps3
  go_wp2_with (first | (go_at_call 16; refine (light_any _ A c l.length _).mono ?_; rw [hs]; rintro e w1 ⟨rfl, hb⟩; have HB1 := Lib.hid (boxed hb).1; obtain ⟨c0, c1, lw⟩ := (boxed hb).2; clear hb) | (go_at_call 18; refine (HT.out _ (HA.out.below HB1.out) (HP.out.below HB1.out)).mono ?_; rintro e w2 ⟨v2, rfl, ⟨At, ct, rfl, ht, _⟩, hb⟩; have HIT := Lib.hid ht; clear ht; have HB2 := Lib.hid (below_trans HB1.out hb); have c0 := cell_below hb c0; have c1 := cell_below hb c1; have lw := World.block_lt_of_cell? _ _ c0; clear hb HT) | (go_at_call 19; refine (HNE.out _ (HA.out.below HB2.out) (HP.out.below HB2.out)).mono ?_; rintro e w3 ⟨v3, rfl, ⟨An, cn, rfl, hne, _⟩, hb⟩; have HIT := Lib.hid (HIT.out.below hb); have HIN := Lib.hid hne; clear hne; have HB3 := Lib.hid (below_trans HB2.out hb); have c0 := cell_below hb c0; have c1 := cell_below hb c1; have lw := World.block_lt_of_cell? _ _ c0; clear hb HNE) | (go_at_call 20; refine (HCO.out _ (HA.out.below HB3.out) (HP.out.below HB3.out)).mono ?_; rintro e w4 ⟨v4, rfl, ⟨Ac, cc, rfl, hco, _⟩, hb⟩; have HIT := Lib.hid (HIT.out.below hb); have HIN := Lib.hid (HIN.out.below hb); have HIC := Lib.hid hco; clear hco; have HB4 := Lib.hid (below_trans HB3.out hb); have c0 := cell_below hb c0; have c1 := cell_below hb c1; have lw := World.block_lt_of_cell? _ _ c0; clear hb HCO) | (go_at_call 21; refine (HE.out _ (HA.out.below HB4.out) (HP.out.below HB4.out)).mono ?_; rintro e w5 ⟨rfl, hb⟩; have HIT := Lib.hid (HIT.out.below hb); have HIN := Lib.hid (HIN.out.below hb); have HIC := Lib.hid (HIC.out.below hb); have HB5 := Lib.hid (below_trans HB4.out hb); have c0 := cell_below hb c0; have c1 := cell_below hb c1; have lw := World.block_lt_of_cell? _ _ c0; clear hb HE) | (go_at_call 22; refine (HRM.out _ (HA.out.below HB5.out) (HP.out.below HB5.out)).mono ?_; rintro e w6 ⟨rfl, hb⟩; have HIT := Lib.hid (HIT.out.below hb); have HIN := Lib.hid (HIN.out.below hb); have HIC := Lib.hid (HIC.out.below hb); have HB6 := Lib.hid (below_trans HB5.out hb); have c0 := cell_below hb c0; have c1 := cell_below hb c1; have lw := World.block_lt_of_cell? _ _ c0; clear hb HRM) | (go_at_call 17; refine (sanity_any _).mono ?_; rintro e wz ⟨rfl, hb⟩; have HBz := Lib.hid (below_trans HB6.out hb); clear hb))
  go_ret
  exact ⟨rfl, HBz.out⟩
set_option maxRecDepth 100000 in
set_option maxHeartbeats 20000000 in
theorem matters_some (n : Int) (A : Option Addr) (c : Nat) (l : List Lk) (C : Option Addr) (f : Nat) (p : List Int) (w : World)
    (h : LksAt w A l) (hn : A = none → l.length = 0 ∧ c = 0) (h1 : IntsAt w C p) (hl : l.length ≤ 9223372036854775807) (hp : p.length ≤ 9223372036854775807) (hs : lightB n l.length = true) (hp60 : ¬ 60 < p.length) (hask : askedI n l p = 0) (N : Nat) (m : Int) (u ur : List Int) (rm : rmostP 2000000 N l p = some (m, 0)) (hM : MattersOk n l p N m u ur) :
    Calls Try.prog 3 #[.agg #[.int .i64 n, .slice A l.length c], .slice C p.length f] w fun e w' => e = .returned (.bool true) ∧ Below w.heap.size w w' := by
  have HA := Lib.hid h
  have HP := Lib.hid h1
  have HN := Lib.hid hn
  clear h h1 hn
  have hl2 := light_len hs
  have HLL := Lib.hid (show l.length ≤ 1000 ∧ p.length ≤ 1000000 by omega)
  have HE := Lib.hid (fun W h1 h2 => rerror_any n A c l C f p W hl (by omega) h1 h2)
  obtain ⟨rfl, n0, n1, pl, inr, pr, len, ti, ne, co, rc, sm, cl⟩ := hM
  have HT := Lib.hid (fun W h1 h2 => tight_any 2000000 (u, 0) N A c l C f p W HLL.out.1 HLL.out.2 HN.out h1 h2 pr)
  rw [ti] at HT
  have HNE := Lib.hid (fun W h1 h2 => needed_any 2000000 _ N A c l C f p W HLL.out.1 HLL.out.2 h1 h2 ne)
  have HCO := Lib.hid (fun W h1 h2 => core_any 2000000 _ N A c l C f p W HLL.out.1 HLL.out.2 h1 h2 co)
  have HRM := Lib.hid (fun W h1 h2 => rmost_any 2000000 (m, 0) N A c l C f p W n0 n1 HLL.out.1 (by omega) pl HN.out h1 h2 inr rm)
  have HRT := Lib.hid (fun W h1 h2 => rtight_any 2000000 N A c l C f p ur W n0 n1 HLL.out.1 (by omega) pl HN.out h1 h2 inr rc)
  have HRN := Lib.hid (fun W h1 h2 => rneeded_any 2000000 N A c l C f p m W n0 n1 HLL.out.1 (by omega) pl h1 h2 inr sm)
  have HRC := Lib.hid (fun W h1 h2 => rcore_any 2000000 N A c l C f p m W n0 n1 HLL.out.1 (by omega) pl h1 h2 inr sm)
  have HL1 := Lib.hid (ndN_len (fun k => gi (rboundsL N (rigidL l ur) (gl l k).b) (gl l k).a == wrap64 (-(gl l k).m)) l.length)
  have HL2 := Lib.hid (ndN_len (fun k => !sameB 2000000 N l p [(k : Int)] m) l.length)
  have HL3 := Lib.hid cl
  clear n0 n1 pl inr pr len ti ne co rc sm cl rm
  generalize ndN (fun k => gi (rboundsL N (rigidL l ur) (gl l k).b) (gl l k).a == wrap64 (-(gl l k).m)) l.length = T1 at HT HRT HL1
  generalize ndN (fun k => !sameB 2000000 N l p [(k : Int)] m) l.length = T2 at HNE HRN HL2
  generalize (rcoreN (fun S => sameB 2000000 N l p S m) l.length [] []).2 = T3 at HCO HRC HL3
  have HS1 := Lib.hid (fun At ct Ar cr W h1 h2 => (show Calls Try.prog 23 #[.slice At T1.length ct, .slice Ar T1.length cr] W fun e w' => e = .returned (.bool true) ∧ Below W.heap.size W w' by
    have h := same_any At ct T1 Ar cr T1 W (by have := HL1.out; have := HLL.out; omega) h1 h2
    rw [show decide (T1 = T1) = true by simp] at h; exact h))
  have HS2 := Lib.hid (fun At ct Ar cr W h1 h2 => (show Calls Try.prog 23 #[.slice At T2.length ct, .slice Ar T2.length cr] W fun e w' => e = .returned (.bool true) ∧ Below W.heap.size W w' by
    have h := same_any At ct T2 Ar cr T2 W (by have := HL2.out; have := HLL.out; omega) h1 h2
    rw [show decide (T2 = T2) = true by simp] at h; exact h))
  have HS3 := Lib.hid (fun At ct Ar cr W h1 h2 => (show Calls Try.prog 23 #[.slice At T3.length ct, .slice Ar T3.length cr] W fun e w' => e = .returned (.bool true) ∧ Below W.heap.size W w' by
    have h := same_any At ct T3 Ar cr T3 W (by have := HL3.out; have := HLL.out; omega) h1 h2
    rw [show decide (T3 = T3) = true by simp] at h; exact h))
  rw [hask] at HE
  clear hask hl hp hl2 HL1 HL2 HL3
  go_enter Try.func3, Try.ntmps3
  go_upto_region 12 with (first | (go_at_call 16; refine (light_any _ A c l.length _).mono ?_; rw [hs]; rintro e w1 ⟨rfl, hb⟩; have HB1 := Lib.hid (boxed hb).1; obtain ⟨c0, c1, lw⟩ := (boxed hb).2; clear hb) | (go_at_call 18; refine (HT.out _ (HA.out.below HB1.out) (HP.out.below HB1.out)).mono ?_; rintro e w2 ⟨v2, rfl, ⟨At, ct, rfl, ht, _⟩, hb⟩; have HIT := Lib.hid ht; clear ht; have HB2 := Lib.hid (below_trans HB1.out hb); have c0 := cell_below hb c0; have c1 := cell_below hb c1; have lw := World.block_lt_of_cell? _ _ c0; clear hb HT) | (go_at_call 19; refine (HNE.out _ (HA.out.below HB2.out) (HP.out.below HB2.out)).mono ?_; rintro e w3 ⟨v3, rfl, ⟨An, cn, rfl, hne, _⟩, hb⟩; have HIT := Lib.hid (HIT.out.below hb); have HIN := Lib.hid hne; clear hne; have HB3 := Lib.hid (below_trans HB2.out hb); have c0 := cell_below hb c0; have c1 := cell_below hb c1; have lw := World.block_lt_of_cell? _ _ c0; clear hb HNE) | (go_at_call 20; refine (HCO.out _ (HA.out.below HB3.out) (HP.out.below HB3.out)).mono ?_; rintro e w4 ⟨v4, rfl, ⟨Ac, cc, rfl, hco, _⟩, hb⟩; have HIT := Lib.hid (HIT.out.below hb); have HIN := Lib.hid (HIN.out.below hb); have HIC := Lib.hid hco; clear hco; have HB4 := Lib.hid (below_trans HB3.out hb); have c0 := cell_below hb c0; have c1 := cell_below hb c1; have lw := World.block_lt_of_cell? _ _ c0; clear hb HCO) | (go_at_call 21; refine (HE.out _ (HA.out.below HB4.out) (HP.out.below HB4.out)).mono ?_; rintro e w5 ⟨rfl, hb⟩; have HIT := Lib.hid (HIT.out.below hb); have HIN := Lib.hid (HIN.out.below hb); have HIC := Lib.hid (HIC.out.below hb); have HB5 := Lib.hid (below_trans HB4.out hb); have c0 := cell_below hb c0; have c1 := cell_below hb c1; have lw := World.block_lt_of_cell? _ _ c0; clear hb HE) | (go_at_call 22; refine (HRM.out _ (HA.out.below HB5.out) (HP.out.below HB5.out)).mono ?_; rintro e w6 ⟨rfl, hb⟩; have HIT := Lib.hid (HIT.out.below hb); have HIN := Lib.hid (HIN.out.below hb); have HIC := Lib.hid (HIC.out.below hb); have HB6 := Lib.hid (below_trans HB5.out hb); have c0 := cell_below hb c0; have c1 := cell_below hb c1; have lw := World.block_lt_of_cell? _ _ c0; clear hb HRM))
  go_wp2_with (first | (go_at_call 17; refine (sanity_any _).mono ?_; rintro e w7 ⟨rfl, hb⟩; have HB7 := Lib.hid (below_trans HB6.out hb); have HIT := Lib.hid (HIT.out.below hb); have HIN := Lib.hid (HIN.out.below hb); have HIC := Lib.hid (HIC.out.below hb); have c0 := cell_below hb c0; have c1 := cell_below hb c1; have lw := World.block_lt_of_cell? _ _ c0; clear hb) | (go_at_call 24; refine (HRT.out _ (HA.out.below HB7.out) (HP.out.below HB7.out)).mono ?_; rintro e w8 ⟨v8, rfl, ⟨A8, c8, rfl, h8, _⟩, hb⟩; have HIT := Lib.hid (HIT.out.below hb); have HIN := Lib.hid (HIN.out.below hb); have HIC := Lib.hid (HIC.out.below hb); have H8 := Lib.hid h8; clear h8; have HB8 := Lib.hid (below_trans HB7.out hb); have c0 := cell_below hb c0; have c1 := cell_below hb c1; have lw := World.block_lt_of_cell? _ _ c0; clear hb HRT) | (go_at_call 23; refine (HS1.out At ct A8 c8 _ HIT.out H8.out).mono ?_; rintro e w9 ⟨rfl, hb⟩; have HB9 := Lib.hid (below_trans HB8.out hb); have HIT := Lib.hid (HIT.out.below hb); have HIN := Lib.hid (HIN.out.below hb); have HIC := Lib.hid (HIC.out.below hb); have c0 := cell_below hb c0; have c1 := cell_below hb c1; have lw := World.block_lt_of_cell? _ _ c0; clear hb HS1 H8) | (go_at_call 25; refine (HRN.out _ (HA.out.below HB9.out) (HP.out.below HB9.out)).mono ?_; rintro e w10 ⟨v10, rfl, ⟨A10, c10, rfl, h10, _⟩, hb⟩; have HIT := Lib.hid (HIT.out.below hb); have HIN := Lib.hid (HIN.out.below hb); have HIC := Lib.hid (HIC.out.below hb); have H10 := Lib.hid h10; clear h10; have HB10 := Lib.hid (below_trans HB9.out hb); have c0 := cell_below hb c0; have c1 := cell_below hb c1; have lw := World.block_lt_of_cell? _ _ c0; clear hb HRN) | (go_at_call 23; refine (HS2.out An cn A10 c10 _ HIN.out H10.out).mono ?_; rintro e w11 ⟨rfl, hb⟩; have HB11 := Lib.hid (below_trans HB10.out hb); have HIT := Lib.hid (HIT.out.below hb); have HIN := Lib.hid (HIN.out.below hb); have HIC := Lib.hid (HIC.out.below hb); have c0 := cell_below hb c0; have c1 := cell_below hb c1; have lw := World.block_lt_of_cell? _ _ c0; clear hb HS2 H10) | (go_at_call 26; refine (HRC.out _ (HA.out.below HB11.out) (HP.out.below HB11.out)).mono ?_; rintro e w12 ⟨v12, rfl, ⟨A12, c12, rfl, h12, _⟩, hb⟩; have HIT := Lib.hid (HIT.out.below hb); have HIN := Lib.hid (HIN.out.below hb); have HIC := Lib.hid (HIC.out.below hb); have H12 := Lib.hid h12; clear h12; have HB12 := Lib.hid (below_trans HB11.out hb); have c0 := cell_below hb c0; have c1 := cell_below hb c1; have lw := World.block_lt_of_cell? _ _ c0; clear hb HRC) | (go_at_call 23; refine (HS3.out Ac cc A12 c12 _ HIC.out H12.out).mono ?_; rintro e w13 ⟨rfl, hb⟩; have HB13 := Lib.hid (below_trans HB12.out hb); clear hb HS3 H12))
  go_ret
  exact ⟨rfl, HB13.out⟩
theorem matters_at (n : Int) (A : Option Addr) (c : Nat) (l : List Lk) (C : Option Addr) (f : Nat) (p : List Int) (w : World)
    (h : LksAt w A l) (hn : A = none → l.length = 0 ∧ c = 0) (hl : l.length ≤ 9223372036854775807) (h1 : IntsAt w C p) (_ : C = none → p.length = 0 ∧ f = 0) (hp : p.length ≤ 9223372036854775807) (_ : ∀ v ∈ p, -9223372036854775808 ≤ v ∧ v ≤ 9223372036854775807) :
    Calls Try.prog 3 #[.agg #[.int .i64 n, .slice A l.length c], .slice C p.length f] w fun e w' => e = .returned (.bool true) ∧ Below w.heap.size w w' := by
  by_cases hg : lightB n l.length = false ∨ 60 < p.length
  · exact matters_guard n A c l C f p w h hn h1 hl hp hg
  · have hs : lightB n l.length = true := by cases e : lightB n l.length; exact absurd (.inl e) hg; rfl
    have g1 : ¬ 60 < p.length := fun e => hg (.inr e)
    by_cases ha : askedI n l p = 0
    · obtain ⟨N, r, h2, h3, h4, h5, h6, h7, h8⟩ := matters_law ha hs
      obtain ⟨m, e⟩ := r
      rcases h8 with ⟨h9, h10⟩ | ⟨h9, u, ur, h10⟩
      · exact matters_none n A c l C f p w h hn h1 hl hp hs g1 ha N m e h2 h3 h4 h5 h6 h7 h9 h10
      · have h11 : e = 0 := h9
        subst h11
        exact matters_some n A c l C f p w h hn h1 hl hp hs g1 ha N m u ur h7 h10
    · exact matters_bad n A c l C f p w h hn h1 hl hp hs g1 _ rfl ha
end Go.Proofs.Ytmhiiomejopaoaa
