/- The flow walks: the law FlowCut. -/
import Derived.Test.YtmhiiomejopaoaaJ8
import Derived.Test.YtmhiiomejopaoaaJB
import Derived.Test.YtmhiiomejopaoaaJF
import Derived.Test.YtmhiiomejopaoaaQ1
namespace Go.Proofs.Ytmhiiomejopaoaa
set_option linter.all false
open Go.RowKit

/-- What the law looks at, of a flow that carries. -/
theorem cut_facts {N : Nat} {l : List Lk} {x u : List Int} {ps : List PV} (hf : (flowR (N : Int) l x u).2 = 0) (h : PsOk N l x u (ps.map (·.1))) :
    checkL (N : Int) l = 0 ∧ joinR (N : Int) l ps = (u, 0) ∧ flowR (N : Int) l x u = (cutS l ps, 0) ∧ joinS ps ≤ 134217728 ∧ (∀ p ∈ ps, PaOk N l p.1) := by
  obtain ⟨hok, hul, hcu⟩ := flow_start hf
  have hg := fun p hp => (ps_goods hok h p hp).1
  unfold flowR at hf ⊢
  by_cases ha : askedI (N : Int) l x = 0
  · rw [if_neg (by simpa using ha)] at hf ⊢
    by_cases hfl : isFlowI l u = 0
    · rw [if_neg (by simpa using hfl)] at hf ⊢
      cases hc : carriesB l x u with
      | false => rw [hc] at hf; simp at hf
      | true =>
        obtain ⟨-, hw, hwb, hsum⟩ := asked_facts ha
        obtain ⟨f1, f2, f3⟩ := (isFlow_facts hok.l1).1 hfl
        have hm : ∀ k : Nat, k < l.length → -17179869184 ≤ (gl l k).m ∧ (gl l k).m ≤ 17179869184 := fun k hk => (hok.lk _ (gl_mem (l := l) (i := (k : Int)) (by omega) (by omega))).2.2
        have hJS : joinS ps ≤ 134217728 := by
          rw [joinS_used hg, sumN_congr (h := fun k : Nat => gi u k) l.length (fun k hk => h.sum k hk)]
          exact f3
        have hcost : costI l u = cutS l ps := by
          rw [costI_eq f1 hm (fun k hk => (f2 k hk).1) (by omega), cutS_cost hg]
          exact sumN_congr _ fun k hk => by rw [h.sum k hk]
        have hmany := h.many
        rw [List.length_map] at hmany
        have hl := hok.l1
        obtain ⟨e1, e2⟩ := sums_eq hok hw f1 h
        refine ⟨(asked_ok ha).1, ?_, by rw [if_neg (by simp), hcost], hJS, hg⟩
        rw [join_end (by omega) fun j hj => good_of hok (hg _ (gp_mem hj)), if_neg (by omega), e1]
    · rw [if_pos (by simpa using hfl)] at hf; exact absurd hf hfl
  · rw [if_pos (by simpa using ha)] at hf; exact absurd hf ha
set_option maxRecDepth 100000 in
set_option maxHeartbeats 4000000 in
theorem cut_guard (n : Int) (A : Option Addr) (c : Nat) (l : List Lk) (B : Option Addr) (d : Nat) (x : List Int) (C : Option Addr) (f : Nat) (u : List Int) (w : World)
    (hg : smallB n l.length = false ∨ 60 < x.length ∨ 300 < u.length) :
    Calls Try.prog 15 #[.agg #[.int .i64 n, .slice A l.length c], .slice B x.length d, .slice C u.length f] w fun e w' => e = .returned (.bool true) ∧ Below w.heap.size w w' := by
  cases hs : smallB n l.length
  · clear hg
    go_enter Try.func15, Try.ntmps15
    go_wp2_with (first | (go_at_call 27; refine (small_any n A c l.length _).mono ?_; rw [hs]; rintro e w1 ⟨rfl, hb⟩; have HB1 := Lib.hid (boxed hb).1; obtain ⟨c0, c1, lw⟩ := (boxed hb).2; clear hb) | (go_at_call 17; refine (sanity_any _).mono ?_; rintro e wz ⟨rfl, hb⟩; have HBz := Lib.hid (below_trans HB1.out hb); clear hb))
    go_ret
    exact ⟨rfl, HBz.out⟩
  · by_cases hx60 : 60 < x.length
    · have t1 : decide ((60 : Int) < (x.length : Int)) = true := decide_eq_true (by omega)
      clear hg
      go_enter Try.func15, Try.ntmps15
      go_wp2_with (first | (go_at_call 27; refine (small_any n A c l.length _).mono ?_; rw [hs]; rintro e w1 ⟨rfl, hb⟩; have HB1 := Lib.hid (boxed hb).1; obtain ⟨c0, c1, lw⟩ := (boxed hb).2; clear hb) | (go_at_call 17; refine (sanity_any _).mono ?_; rintro e wz ⟨rfl, hb⟩; have HBz := Lib.hid (below_trans HB1.out hb); clear hb))
      go_ret
      exact ⟨rfl, HBz.out⟩
    · have t1 : decide ((60 : Int) < (x.length : Int)) = false := decide_eq_false (by omega)
      have hu300 : 300 < u.length := by rcases hg with hg | hg | hg; rw [hs] at hg; cases hg; exact absurd hg hx60; exact hg
      have t2 : decide ((300 : Int) < (u.length : Int)) = true := decide_eq_true (by omega)
      clear hg
      go_enter Try.func15, Try.ntmps15
      go_wp2_with (first | (go_at_call 27; refine (small_any n A c l.length _).mono ?_; rw [hs]; rintro e w1 ⟨rfl, hb⟩; have HB1 := Lib.hid (boxed hb).1; obtain ⟨c0, c1, lw⟩ := (boxed hb).2; clear hb) | (go_at_call 17; refine (sanity_any _).mono ?_; rintro e wz ⟨rfl, hb⟩; have HBz := Lib.hid (below_trans HB1.out hb); clear hb))
      go_ret
      exact ⟨rfl, HBz.out⟩
set_option maxRecDepth 100000 in
set_option maxHeartbeats 4000000 in
theorem cut_bad (n : Int) (A : Option Addr) (c : Nat) (l : List Lk) (B : Option Addr) (d : Nat) (x : List Int) (C : Option Addr) (f : Nat) (u : List Int) (w : World)
    (h : LksAt w A l) (h1 : IntsAt w B x) (hn1 : B = none → x.length = 0 ∧ d = 0) (h2 : IntsAt w C u) (hn2 : C = none → u.length = 0 ∧ f = 0)
    (hs : smallB n l.length = true) (hx60 : x.length ≤ 60) (hu300 : u.length ≤ 300) (hf : (flowR n l x u).2 ≠ 0) :
    Calls Try.prog 15 #[.agg #[.int .i64 n, .slice A l.length c], .slice B x.length d, .slice C u.length f] w fun e w' => e = .returned (.bool true) ∧ Below w.heap.size w w' := by
  have hl2 := small_len hs
  have t1 : decide ((60 : Int) < (x.length : Int)) = false := decide_eq_false (by omega)
  have t2 : decide ((300 : Int) < (u.length : Int)) = false := decide_eq_false (by omega)
  have HPB := Lib.hid (fun W (hW : Below w.heap.size w W) => Paths_bad n A c l B d x C f u W (by omega) (by omega) (by omega) (h.below hW) (h1.below hW) (h2.below hW) hn1 hf)
  have HCF := Lib.hid (fun W (hW : Below w.heap.size w W) => CheckFlow_any n A c l B d x C f u W (by omega) (by omega) (by omega) (h.below hW) (h1.below hW) (h2.below hW) hn1)
  generalize flowR n l x u = r at HPB HCF hf
  have hr : (r.2 != 0) = true := by simpa using hf
  have hr2 : (r.2 != r.2) = false := by simp
  clear h h1 h2 hn1 hn2 hf
  go_enter Try.func15, Try.ntmps15
  go_wp2_with (first | (go_at_call 27; refine (small_any n A c l.length _).mono ?_; rw [hs]; rintro e w1 ⟨rfl, hb⟩; have HB1 := Lib.hid (boxed hb).1; obtain ⟨c0, c1, lw⟩ := (boxed hb).2; clear hb) | (go_at_call 61; refine (HPB.out _ HB1.out).mono ?_; rintro e w2 ⟨rfl, hb⟩; have HB2 := Lib.hid (below_trans HB1.out hb); have c0 := cell_below hb c0; have c1 := cell_below hb c1; have lw := World.block_lt_of_cell? _ _ c0; clear hb) | (go_at_call 46; refine (HCF.out _ HB2.out).mono ?_; rintro e w3 ⟨rfl, hb⟩; have HB3 := Lib.hid (below_trans HB2.out hb); clear hb) | (go_at_call 17; refine (sanity_any _).mono ?_; rintro e wz ⟨rfl, hb⟩; have HBz := Lib.hid (below_trans HB3.out hb); clear hb))
  go_ret
  exact ⟨rfl, HBz.out⟩
set_option maxRecDepth 100000 in
set_option maxHeartbeats 8000000 in
theorem cut_ok (N : Nat) (A : Option Addr) (c : Nat) (l : List Lk) (B : Option Addr) (d : Nat) (x : List Int) (C : Option Addr) (f : Nat) (u : List Int) (w : World)
    (h : LksAt w A l) (h1 : IntsAt w B x) (hn1 : B = none → x.length = 0 ∧ d = 0) (h2 : IntsAt w C u) (hn2 : C = none → u.length = 0 ∧ f = 0)
    (hs : smallB (N : Int) l.length = true) (hx60 : x.length ≤ 60) (hu300 : u.length ≤ 300) (hf : (flowR (N : Int) l x u).2 = 0) :
    Calls Try.prog 15 #[.agg #[.int .i64 (N : Int), .slice A l.length c], .slice B x.length d, .slice C u.length f] w fun e w' => e = .returned (.bool true) ∧ Below w.heap.size w w' := by
  have hl2 := small_len hs
  have t1 : decide ((60 : Int) < (x.length : Int)) = false := decide_eq_false (by omega)
  have t2 : decide ((300 : Int) < (u.length : Int)) = false := decide_eq_false (by omega)
  have HPO := Lib.hid (fun W (hW : Below w.heap.size w W) => Paths_ok N A c l B d x C f u W (by omega) (by omega) (by omega) (h.below hW) (h1.below hW) (h2.below hW) hn1 hn2 hf)
  have HCF := Lib.hid (fun W (hW : Below w.heap.size w W) => CheckFlow_any (N : Int) A c l B d x C f u W (by omega) (by omega) (by omega) (h.below hW) (h1.below hW) (h2.below hW) hn1)
  have HFC := Lib.hid (fun (ps : List PV) hh => cut_facts (ps := ps) hf hh)
  have HOK := Lib.hid (flow_start hf).1
  have HA := Lib.hid h
  have HU := Lib.hid h2
  clear h h1 h2 hn1 hn2 hf
  go_enter Try.func15, Try.ntmps15
  go_upto_region 4 with (first | (go_at_call 27; refine (small_any (N : Int) A c l.length _).mono ?_; rw [hs]; rintro e w1 ⟨rfl, hb⟩; have HB1 := Lib.hid (boxed hb).1; obtain ⟨c0, c1, lw⟩ := (boxed hb).2; clear hb) | (go_at_call 61; refine (HPO.out _ HB1.out).mono ?_; rintro e w2 ⟨hb, LA, cc, ps, rfl, hpa, hps, hpn⟩; have HB2 := Lib.hid (below_trans HB1.out hb); have c0 := cell_below hb c0; have c1 := cell_below hb c1; have lw := World.block_lt_of_cell? _ _ c0; have HPA := Lib.hid hpa; have HPS := Lib.hid hps; clear hb hpa hps hpn))
  obtain ⟨k1, k2, k3, k4, k5⟩ := HFC.out ps HPS.out
  have HK := Lib.hid (And.intro k4 k5)
  have hpl : ps.length ≤ l.length := by have := HPS.out.many; simpa using this
  have hl3 := HOK.out.l1
  have HJN := Lib.hid (fun W (hW : Below w2.heap.size w2 W) => Join_any (N : Int) A c l LA cc ps W (by omega) ((HA.out.below HB2.out).below hW) (by omega) (HPA.out.below hW) (fun _ p hp => by have := (k5 p hp).short; have := HOK.out.n2; omega) k1)
  rw [k2] at HJN
  rw [k3] at HCF
  clear k1 k2 k3 k4 k5 HFC
  have z0 : (((0 : Int) != 0)) = false := by decide
  go_upto_region 10 with (first | (go_at_call 46; refine (HCF.out _ HB2.out).mono ?_; rintro e w3 ⟨rfl, hb⟩; have HB3 := Lib.hid hb; have c0 := cell_below hb c0; have c1 := cell_below hb c1; have lw := World.block_lt_of_cell? _ _ c0; clear hb) | (go_at_call 64; refine (HJN.out _ HB3.out).mono ?_; rintro e w4 ⟨v4, rfl, hv4, hb⟩; have HB4 := Lib.hid (below_trans HB3.out hb); have HV4 := Lib.hid hv4; have c0 := cell_below hb c0; have c1 := cell_below hb c1; have lw := World.block_lt_of_cell? _ _ c0; clear hb hv4))
  have HC4 := Lib.hid (And.intro c0 c1)
  clear c0 c1 lw HJN HCF HPO
  have HM := Lib.hid (show ∀ k : Nat, k < l.length → -17179869184 ≤ (gl l k).m ∧ (gl l k).m ≤ 17179869184 from fun k hk => (HOK.out.lk _ (gl_mem (l := l) (i := (k : Int)) (by omega) (by omega))).2.2)
  go_wp2
  go_loopw [13, 14] (fun s i wr => ∃ k : Nat, k ≤ ps.length ∧ i = .int .i64 (k : Int) ∧ s = .int .i64 (cutS l (ps.take k)) ∧ Hid (Below w4.heap.size w4 wr)) (fun _ i _ => ps.length - (intOf i).toNat)
  case atStart => exact ⟨0, by omega, rfl, rfl, Lib.hid (Below.refl _ _)⟩
  case round =>
    obtain ⟨k, hk, rfl, rfl, HBr⟩ := hrel
    by_cases hlt : k < ps.length
    · have t3 : decide ((k : Int) < (ps.length : Int)) = true := decide_eq_true (by omega)
      have t4 : decide (k < ps.length) = true := decide_eq_true hlt
      have HB5 := Lib.hid (below_trans HB4.out HBr.out)
      obtain ⟨b, o, rfl, p0, p1, p2, p3, LB, cb, hx2, hin⟩ := (HPA.out.below HB5.out) k hlt
      have HCT := Lib.hid (cutS_take l ps k hlt)
      have hpk := HK.out.2 _ (gp_mem hlt)
      have hbd := cutS_bound HM.out HK.out.2 k hk
      have hb2 := hbd.2.2 hlt
      have hj0 := joinS_mono HK.out.2 k hk
      have hj1 := joinS_mono HK.out.2 (k + 1) hlt
      rw [joinS_take ps k hlt] at hj1
      rw [hx2] at p2
      have HSU := Lib.hid (fun W (hW : Below w.heap.size w W) h' => rsum_any (N : Int) A c l LB cb (gp ps k).1.ls W (by omega) (by have := hpk.short; have := HOK.out.n2; omega) hpk.mem (fun i hi => by have := hpk.mem i hi; have := HM.out i.toNat (by omega); rwa [show ((i.toNat : Nat) : Int) = i by omega] at this) (HA.out.below hW) h')
      have HIN := Lib.hid hin
      clear hin hx2 hpk
      generalize gp ps k = pv at *
      obtain ⟨⟨pa, pb, P, pu⟩, pvv⟩ := pv
      simp only at p0 p1 p2 p3 HIN HSU HCT hb2 hj1
      obtain ⟨hb0, hb1, -⟩ := hbd
      obtain ⟨sm, hsm⟩ : ∃ sm, sumM l P = sm := ⟨_, rfl⟩
      rw [hsm] at HSU HCT hb2
      clear hsm
      obtain ⟨pm, hpm⟩ : ∃ pm, pu * sm = pm := ⟨_, rfl⟩
      rw [hpm] at HCT hb2
      have hks := HK.out.1
      have hpm0 : -2305843009213693952 ≤ pm := by omega
      have hpm1 : pm ≤ 2305843009213693952 := by omega
      have hcs0 : -2305843009213693952 ≤ cutS l (ps.take k) := by omega
      have hcs1 : cutS l (ps.take k) ≤ 2305843009213693952 := by omega
      clear hb0 hb1 hb2 hj0 hj1 hks
      generalize cutS l (ps.take k) = s0 at *
      have hw1 : IntKind.i64.wrap (pu * sm) = pm := by rw [hpm, IntKind.wrap_i64]; omega
      have hw2 : IntKind.i64.wrap (s0 + pm) = s0 + pm := by rw [IntKind.wrap_i64]; omega
      clear hpm
      have c0 := cell_below HBr.out HC4.out.1
      have c1 := cell_below HBr.out HC4.out.2
      have lw := World.block_lt_of_cell? _ _ c0
      have lb := World.block_lt_of_cell? _ _ p0
      dsimp only at lw lb
      have i0 : (0 : Int) ≤ (k : Int) := by omega
      have i1 : (k : Int) < (ps.length : Int) := by omega
      have HB6 := Lib.hid (below_trans HB2.out HB5.out)
      go_upto_region 14 with fail
      go_region_held3 (fun w' => w'.cell? ⟨b, o + k * 4 + 3, none⟩ = some (.int .i64 pu) ∧ w'.cell? ⟨w.heap.size, 0, none⟩ = some (.int .i64 (N : Int)) ∧ w'.cell? ⟨w.heap.size, 1, none⟩ = some (.slice A l.length c) ∧ w'.cell? ⟨b, o + k * 4 + 2, none⟩ = some (.slice LB P.length cb)) (refine ⟨?_, ?_, ?_, ?_⟩ <;> (repeat' (first | exact p3 | exact c0 | exact c1 | exact p2 | refine cell_below hb63 ?_))) ((go_at_call 63; refine (HSU.out _ (by first | exact HB6.out | exact HB6.out.drew) (by first | exact HIN.out | exact HIN.out.drew)).mono ?_; rintro e w9 ⟨rfl, hb63⟩; have HB9 := Lib.hid (below_undrew hb63)))
      all_goals
        go_wp2_with fail
        go_roundw
        case rel => exact ⟨k + 1, by omega, by go_num, by rw [HCT.out], Lib.hid (below_trans HBr.out HB9.out)⟩
        case measure => simp [intOf]; omega
    · obtain rfl : k = ps.length := by omega
      have t3 : decide ((ps.length : Int) < (ps.length : Int)) = false := decide_eq_false (by omega)
      have t4 : decide (ps.length < ps.length) = false := decide_eq_false (by omega)
      rw [List.take_length]
      have HBE := Lib.hid (below_trans HB2.out (below_trans HB4.out HBr.out))
      obtain ⟨A4, c4, rfl, hi4, -⟩ := HV4.out
      have HI4 := Lib.hid (hi4.below HBr.out)
      have HS1 := Lib.hid (fun W (hW : Below wr.heap.size wr W) => (show Calls Try.prog 23 #[.slice A4 u.length c4, .slice C u.length f] W fun e w' => e = .returned (.bool true) ∧ Below W.heap.size W w' by
        have h := same_any A4 c4 u C f u W (by omega) (HI4.out.below hW) ((HU.out.below HBE.out).below hW)
        rwa [decide_eq_true (rfl : u = u)] at h))
      clear hi4
      have zc : (cutS l ps == cutS l ps) = true := by simp
      go_wp2_with (first | (go_at_call 17; refine (sanity_any _).mono ?_; rintro e wz ⟨rfl, hb⟩; have HBz := Lib.hid hb; clear hb) | (go_at_call 23; refine (HS1.out _ HBz.out).mono ?_; rintro e wy ⟨rfl, hb⟩; have HBy := Lib.hid (below_trans HBz.out hb); clear hb))
      go_ret
      exact ⟨rfl, below_trans HBE.out HBy.out⟩
theorem cut_walk (n : Int) (A : Option Addr) (c : Nat) (l : List Lk) (B : Option Addr) (d : Nat) (x : List Int) (C : Option Addr) (f : Nat) (u : List Int) (w : World)
    (h : LksAt w A l) (h1 : IntsAt w B x) (hn1 : B = none → x.length = 0 ∧ d = 0) (h2 : IntsAt w C u) (hn2 : C = none → u.length = 0 ∧ f = 0) (hl : l.length ≤ 9223372036854775807) (hx : x.length ≤ 9223372036854775807) (hu : u.length ≤ 9223372036854775807) :
    Calls Try.prog 15 #[.agg #[.int .i64 n, .slice A l.length c], .slice B x.length d, .slice C u.length f] w fun e w' => e = .returned (.bool true) ∧ Below w.heap.size w w' := by
  cases hs : smallB n l.length
  · exact cut_guard n A c l B d x C f u w (.inl hs)
  · by_cases hx60 : 60 < x.length
    · exact cut_guard n A c l B d x C f u w (.inr (.inl hx60))
    · by_cases hu300 : 300 < u.length
      · exact cut_guard n A c l B d x C f u w (.inr (.inr hu300))
      · by_cases hf : (flowR n l x u).2 = 0
        · have hn0 : 0 ≤ n := by
            have h1 : askedI n l x = 0 := Classical.byContradiction fun ha => by
              unfold flowR at hf
              rw [if_pos (by simpa using ha)] at hf
              exact ha hf
            have := (check_ok (asked_ok h1).1).n1
            omega
          obtain ⟨N, rfl⟩ := Int.eq_ofNat_of_zero_le hn0
          exact cut_ok N A c l B d x C f u w h h1 hn1 h2 hn2 hs (by omega) (by omega) hf
        · exact cut_bad n A c l B d x C f u w h h1 hn1 h2 hn2 hs (by omega) (by omega) hf
theorem cut_at (n : Int) (A : Option Addr) (c : Nat) (l : List Lk) (B : Option Addr) (d : Nat) (x : List Int) (C : Option Addr) (f : Nat) (u : List Int) (w : World)
    (h : LksAt w A l) (_ : A = none → l.length = 0 ∧ c = 0) (hl : l.length ≤ 9223372036854775807) (h1 : IntsAt w B x) (hn1 : B = none → x.length = 0 ∧ d = 0) (hx : x.length ≤ 9223372036854775807) (_ : ∀ v ∈ x, -9223372036854775808 ≤ v ∧ v ≤ 9223372036854775807) (h2 : IntsAt w C u) (hn2 : C = none → u.length = 0 ∧ f = 0) (hu : u.length ≤ 9223372036854775807) (_ : ∀ v ∈ u, -9223372036854775808 ≤ v ∧ v ≤ 9223372036854775807) :
    Calls Try.prog 15 #[.agg #[.int .i64 n, .slice A l.length c], .slice B x.length d, .slice C u.length f] w fun e w' => e = .returned (.bool true) ∧ Below w.heap.size w w' := cut_walk n A c l B d x C f u w h h1 hn1 h2 hn2 hl hx hu
end Go.Proofs.Ytmhiiomejopaoaa
