/- The flow laws: reaches, the plain law and its walk -/
import Derived.Test.YtmhiiomejopaoaaZ2
import Derived.Test.YtmhiiomejopaoaaN2
namespace Go.Proofs.Ytmhiiomejopaoaa
set_option linter.all false
open Go.RowKit
set_option maxRecDepth 100000

def pairI (l : List Lk) (n : Int) (q x : List Int) : Int := if isFlowI l q ≠ 1 ∧ areB n x = false then 1 else isFlowI l q
def wantI (l : List Lk) (p q : List Int) : Int := if isFlowI l q = 0 ∧ carriesB l p q = false then 8 else isFlowI l q
def costW (l : List Lk) (p q : List Int) : Int := if wantI l p q = 0 then costI l q else 0
def bothW (l : List Lk) (n : Int) (p q x : List Int) : Bool := (pairI l n q x == 0) && ((isFlowI l q == 0 && carriesB l p q) && (fitsB x l && (valueI p x == costW l p q)))
theorem flow_want {n : Int} {l : List Lk} {p : List Int} (q : List Int) (ha : askedI n l p = 0) : flowR n l p q = (costW l p q, wantI l p q) := by
  unfold flowR costW wantI
  rw [if_neg (show ¬ askedI n l p ≠ 0 by simpa using ha)]
  by_cases h1 : isFlowI l q = 0
  · cases h2 : carriesB l p q <;> simp [h1]
  · simp [h1]
theorem both_want {n : Int} {l : List Lk} {p : List Int} (q x : List Int) (ha : askedI n l p = 0) : bothR n l p q x = (bothW l n p q x, pairI l n q x) := by
  unfold bothR bothW pairI costW wantI
  rw [if_neg (show ¬ askedI n l p ≠ 0 by simpa using ha)]
  have hcm : (costI l q == valueI p x) = (valueI p x == costI l q) := by rw [Bool.eq_iff_iff]; simp; exact eq_comm
  by_cases h1 : isFlowI l q = 1
  · simp [h1]
  · cases h2 : areB n x
    · simp [h1]
    · by_cases h3 : isFlowI l q = 0
      · cases h4 : carriesB l p q <;> simp [h3, hcm]
      · simp [h1, h3]
theorem isFlow_three (l : List Lk) (q : List Int) : isFlowI l q = 0 ∨ isFlowI l q = 1 ∨ isFlowI l q = 3 := by
  unfold isFlowI
  repeat' split
  all_goals simp
structure ReachOk (N : Nat) (l : List Lk) (p u : List Int) : Prop where
  len : u.length = l.length
  sol : (solutionL N (rigidL l u)).2 = true
  own : (reachL N l u).length = N
  are : areB N (reachL N l u) = true
  first : gi (reachL N l u) 0 = 0
  fit : fitsB (reachL N l u) l = true
  val : valueI p (reachL N l u) = costI l u
  flow : isFlowI l u = 0
  car : decide (inOf N l u = p) = true
structure ReachesOk (n : Int) (l : List Lk) (p : List Int) (N : Nat) (r : List Int × Int) : Prop where
  nn : n = N
  n0 : 0 < N
  n1 : N ≤ 1000000
  pl : p.length = N
  inr : ∀ k ∈ l, InR N k
  pr : proveP 2000000 n l p = some r
  rm : rmostP 2000000 N l p = some (mostV l r)
  cs : r = ([], 9) ∨ r = ([], 5) ∨ ∃ u, r = (u, 0) ∧ ReachOk N l p u
  ca : ∀ q, isFlowI l q = 0 → q.length = l.length ∧ decide (inOf N l q = p) = carriesB l p q
theorem reaches_ok {n : Int} {l : List Lk} {p : List Int} (ha : askedI n l p = 0) (hs : smallB n l.length = true) : ∃ N r, ReachesOk n l p N r := by
  have hok0 := check_ok (asked_ok ha).1
  have hn1 := hok0.n1
  have hn2 := hok0.n2
  obtain ⟨N, rfl⟩ : ∃ N : Nat, n = N := ⟨n.toNat, by omega⟩
  have hsm := small_ok hok0 hs
  obtain ⟨hok, hpl, hpb, hps⟩ := asked_facts ha
  have hS := netOk_lk hok (by omega)
  have hlk : ∀ k : Nat, k < l.length → 0 ≤ (gl l k).a ∧ (gl l k).a < N ∧ 0 ≤ (gl l k).b ∧ (gl l k).b < N := fun k hk => by have := hS.lk k hk; omega
  obtain ⟨r, h1, h2, h3⟩ := (dual_law N l p [] [] ha hs).2
  obtain ⟨r2, g1, g2⟩ := rmost_same ha (by omega) (by omega)
  have e : r2 = mostV l r := Option.some.inj (g2.symm.trans h2)
  subst e
  have hca : ∀ q, isFlowI l q = 0 → q.length = l.length ∧ decide (inOf N l q = p) = carriesB l p q := fun q hq => by
    obtain ⟨f1, f2, f3⟩ := (isFlow_facts hS.l1).1 hq
    exact ⟨f1, in_same hlk hpl hpb f1 (fun k hk => (f2 k hk).1) (by omega)⟩
  refine ⟨N, r, rfl, by omega, by omega, hpl, fun k hk => (hok.lk k hk).1, h1, g1, ?_, hca⟩
  rcases h3 with ⟨rfl, _⟩ | ⟨rfl, _⟩ | ⟨u, rfl, hD⟩
  · exact .inl rfl
  · exact .inr (.inl rfl)
  · right; right
    refine ⟨u, rfl, ?_⟩
    have hb := hD.both
    rw [Int.toNat_natCast] at hb
    have hown := hD.own
    have hsol := hD.sol
    rw [Int.toNat_natCast] at hown hsol
    unfold bothR at hb
    rw [if_neg (by simpa using ha)] at hb
    by_cases c1 : isFlowI l u = 1 ∨ areB N (reachL N l u) = false
    · rw [if_pos c1] at hb
      have := congrArg Prod.snd hb
      have : (1 : Int) = 0 := this
      omega
    · rw [if_neg c1] at hb
      by_cases c2 : isFlowI l u = 0
      · rw [if_neg (by simpa using c2)] at hb
        have h4 := congrArg Prod.fst hb
        simp only [Bool.and_eq_true, beq_iff_eq] at h4
        refine ⟨hD.len, hsol, hown, by cases h : areB N (reachL N l u); exact absurd (.inr h) c1; rfl, ?_, h4.2.1, h4.2.2.symm, c2, by rw [(hca u c2).2]; exact h4.1⟩
        obtain ⟨r3, hr3, hc3⟩ := best_facts ha (by omega)
        have h5 : bestP 2000000 N l p = some (u, 0) := by unfold proveP at h1; rw [if_pos ha, Int.toNat_natCast] at h1; exact h1
        rw [h5] at hr3
        have h6 := Option.some.inj hr3
        rcases hc3 with ⟨e, _⟩ | ⟨e, _⟩ | ⟨u3, x3, e, _, hB⟩
        · rw [e] at h6; have : (0 : Int) = 9 := congrArg Prod.snd h6; omega
        · rw [e] at h6; have : (0 : Int) = 5 := congrArg Prod.snd h6; omega
        · rw [e] at h6
          have h7 : u = u3 := congrArg Prod.fst h6
          rw [← h7] at hB
          exact (own_ok hok (by omega) (by omega) hB).2.first
      · rw [if_pos c2] at hb
        exact absurd (congrArg Prod.snd hb) c2

set_option maxRecDepth 100000 in
set_option maxHeartbeats 40000000 in
theorem reaches_guard (n : Int) (A : Option Addr) (c : Nat) (l : List Lk) (C : Option Addr) (f : Nat) (p : List Int) (B : Option Addr) (d : Nat) (q : List Int) (D : Option Addr) (g : Nat) (x : List Int) (w : World)
    (h : LksAt w A l) (hn : A = none → l.length = 0 ∧ c = 0) (h1 : IntsAt w C p) (hn1 : C = none → p.length = 0 ∧ f = 0) (h2 : IntsAt w B q) (h3 : IntsAt w D x) (hl : l.length ≤ 9223372036854775807) (hp : p.length ≤ 9223372036854775807) (hq : q.length ≤ 9223372036854775807) (hx : x.length ≤ 9223372036854775807)
    (hg : smallB n l.length = false ∨ 60 < p.length ∨ 300 < q.length ∨ 60 < x.length) :
    Calls Try.prog 8 #[.agg #[.int .i64 n, .slice A l.length c], .slice C p.length f, .slice B q.length d, .slice D x.length g] w fun e w' => e = .returned (.bool true) ∧ Below w.heap.size w w' := by
  have HA := Lib.hid h
  have HP := Lib.hid h1
  have HQ := Lib.hid h2
  have HX := Lib.hid h3
  have HN := Lib.hid hn
  have HN1 := Lib.hid hn1
  clear h h1 h2 h3 hn hn1
  cases hs : smallB n l.length
  · go_enter Try.func8, Try.ntmps8
    go_wp2_with (first | (go_at_call 27; refine (small_any _ A c l.length _).mono ?_; rw [hs]; rintro e w1 ⟨rfl, hb⟩; have HB1 := Lib.hid (boxed hb).1; obtain ⟨c0, c1, lw⟩ := (boxed hb).2; clear hb) | (go_at_call 17; refine (sanity_any _).mono ?_; rintro e wz ⟨rfl, hb⟩; have HBz := Lib.hid (below_trans HB1.out hb); clear hb))
    go_ret
    exact ⟨rfl, HBz.out⟩
  · have hl2 := small_len hs
    by_cases hp60 : 60 < p.length
    · go_enter Try.func8, Try.ntmps8
      go_wp2_with (first | (go_at_call 27; refine (small_any _ A c l.length _).mono ?_; rw [hs]; rintro e w1 ⟨rfl, hb⟩; have HB1 := Lib.hid (boxed hb).1; obtain ⟨c0, c1, lw⟩ := (boxed hb).2; clear hb) | (go_at_call 17; refine (sanity_any _).mono ?_; rintro e wz ⟨rfl, hb⟩; have HBz := Lib.hid (below_trans HB1.out hb); clear hb))
      go_ret
      exact ⟨rfl, HBz.out⟩
    · by_cases hq300 : 300 < q.length
      · go_enter Try.func8, Try.ntmps8
        go_wp2_with (first | (go_at_call 27; refine (small_any _ A c l.length _).mono ?_; rw [hs]; rintro e w1 ⟨rfl, hb⟩; have HB1 := Lib.hid (boxed hb).1; obtain ⟨c0, c1, lw⟩ := (boxed hb).2; clear hb) | (go_at_call 17; refine (sanity_any _).mono ?_; rintro e wz ⟨rfl, hb⟩; have HBz := Lib.hid (below_trans HB1.out hb); clear hb))
        go_ret
        exact ⟨rfl, HBz.out⟩
      · by_cases hx60 : 60 < x.length
        · go_enter Try.func8, Try.ntmps8
          go_wp2_with (first | (go_at_call 27; refine (small_any _ A c l.length _).mono ?_; rw [hs]; rintro e w1 ⟨rfl, hb⟩; have HB1 := Lib.hid (boxed hb).1; obtain ⟨c0, c1, lw⟩ := (boxed hb).2; clear hb) | (go_at_call 17; refine (sanity_any _).mono ?_; rintro e wz ⟨rfl, hb⟩; have HBz := Lib.hid (below_trans HB1.out hb); clear hb))
          go_ret
          exact ⟨rfl, HBz.out⟩
        · exfalso
          rcases hg with h | h | h | h
          · rw [hs] at h; cases h
          · exact hp60 h
          · exact hq300 h
          · exact hx60 h
set_option maxRecDepth 100000 in
set_option maxHeartbeats 40000000 in
theorem reaches_bad (n : Int) (A : Option Addr) (c : Nat) (l : List Lk) (C : Option Addr) (f : Nat) (p : List Int) (B : Option Addr) (d : Nat) (q : List Int) (D : Option Addr) (g : Nat) (x : List Int) (w : World)
    (h : LksAt w A l) (hn : A = none → l.length = 0 ∧ c = 0) (h1 : IntsAt w C p) (hn1 : C = none → p.length = 0 ∧ f = 0) (h2 : IntsAt w B q) (h3 : IntsAt w D x) (hl : l.length ≤ 9223372036854775807) (hp : p.length ≤ 9223372036854775807) (hq : q.length ≤ 9223372036854775807) (hx : x.length ≤ 9223372036854775807)
    (hs : smallB n l.length = true) (hp60 : ¬ 60 < p.length) (hq300 : ¬ 300 < q.length) (hx60 : ¬ 60 < x.length) (ha : ¬ askedI n l p = 0) :
    Calls Try.prog 8 #[.agg #[.int .i64 n, .slice A l.length c], .slice C p.length f, .slice B q.length d, .slice D x.length g] w fun e w' => e = .returned (.bool true) ∧ Below w.heap.size w w' := by
  have HA := Lib.hid h
  have HP := Lib.hid h1
  have HQ := Lib.hid h2
  have HX := Lib.hid h3
  have HN := Lib.hid hn
  have HN1 := Lib.hid hn1
  clear h h1 h2 h3 hn hn1
  have hl2 := small_len hs
  have HLL := Lib.hid (show l.length ≤ 1000 ∧ p.length ≤ 1000000 ∧ x.length ≤ 1000000 ∧ q.length ≤ 1000000 by omega)
  have HF := Lib.hid (fun W h1 h2 h3 => CheckFlow_any n A c l C f p B d q W (by omega) (by omega) (by omega) h1 h2 h3 HN1.out)
  have HBB := Lib.hid (fun W h1 h2 h3 h4 => both_any n A c l C f p B d q D g x W (by omega) (by omega) (by omega) (by omega) h1 h2 h3 h4 HN1.out)
  have HE := Lib.hid (fun W h1 h2 => rerror_any n A c l C f p W hl (by omega) h1 h2)
  obtain ⟨a, hae⟩ : ∃ a, askedI n l p = a := ⟨_, rfl⟩
  have e1 : proveP 2000000 n l p = some ([], a) := by unfold proveP; rw [if_neg ha, hae]
  have e2 : flowR n l p q = (0, a) := by unfold flowR; rw [if_pos ha, hae]
  have e3 : bothR n l p q x = (false, a) := by unfold bothR; rw [if_pos ha, hae]
  rw [hae] at HE ha
  rw [e2] at HF
  rw [e3] at HBB
  have HR := Lib.hid (fun W h1 h2 => reach_any 2000000 ([], a) n A c l C f p W HLL.out.1 HLL.out.2.1 HN.out h1 h2 e1 (fun h => absurd h ha))
  have e4 : reachR n l (([], a) : List Int × Int) = ([], a) := by unfold reachR; rw [if_neg ha]
  rw [e4] at HR
  have HPR := Lib.hid (fun W h1 h2 => prove_any 2000000 ([], a) n A c l C f p W HLL.out.1 HLL.out.2.1 h1 h2 e1)
  have ha2 : (a != 0) = true := by simpa using ha
  clear hae e1 e2 e3 e4 ha hl hp hq hx hl2
  go_enter Try.func8, Try.ntmps8
  go_wp2_with (first | (go_at_call 27; refine (small_any _ A c l.length _).mono ?_; rw [hs]; rintro e w1 ⟨rfl, hb⟩; have HB1 := Lib.hid (boxed hb).1; obtain ⟨c0, c1, lw⟩ := (boxed hb).2; clear hb) | (go_at_call 44; refine (HR.out _ (HA.out.below HB1.out) (HP.out.below HB1.out)).mono ?_; rintro e w2 ⟨v2, rfl, ⟨Ao, co, rfl, ho, _⟩, hb⟩; have HIO := Lib.hid ho; clear ho; have HB2 := Lib.hid (below_trans HB1.out hb); have c0 := cell_below hb c0; have c1 := cell_below hb c1; have lw := World.block_lt_of_cell? _ _ c0; clear hb HR) | (go_at_call 45; refine (HPR.out _ (HA.out.below HB2.out) (HP.out.below HB2.out)).mono ?_; rintro e w3 ⟨v3, rfl, ⟨Au, cu, rfl, hu, _⟩, hb⟩; have HIO := Lib.hid (HIO.out.below hb); have HIU := Lib.hid hu; clear hu; have HB3 := Lib.hid (below_trans HB2.out hb); have c0 := cell_below hb c0; have c1 := cell_below hb c1; have lw := World.block_lt_of_cell? _ _ c0; clear hb HPR) | (go_at_call 46; refine (HF.out _ (HA.out.below HB3.out) (HP.out.below HB3.out) (HQ.out.below HB3.out)).mono ?_; rintro e w4 ⟨rfl, hb⟩; have HIO := Lib.hid (HIO.out.below hb); have HIU := Lib.hid (HIU.out.below hb); have HB4 := Lib.hid (below_trans HB3.out hb); have c0 := cell_below hb c0; have c1 := cell_below hb c1; have lw := World.block_lt_of_cell? _ _ c0; clear hb HF) | (go_at_call 47; refine (HBB.out _ (HA.out.below HB4.out) (HP.out.below HB4.out) (HQ.out.below HB4.out) (HX.out.below HB4.out)).mono ?_; rintro e w5 ⟨rfl, hb⟩; have HIO := Lib.hid (HIO.out.below hb); have HIU := Lib.hid (HIU.out.below hb); have HB5 := Lib.hid (below_trans HB4.out hb); have c0 := cell_below hb c0; have c1 := cell_below hb c1; have lw := World.block_lt_of_cell? _ _ c0; clear hb HBB) | (go_at_call 21; refine (HE.out _ (HA.out.below HB5.out) (HP.out.below HB5.out)).mono ?_; rintro e w6 ⟨rfl, hb⟩; have HIO := Lib.hid (HIO.out.below hb); have HIU := Lib.hid (HIU.out.below hb); have HB6 := Lib.hid (below_trans HB5.out hb); have c0 := cell_below hb c0; have c1 := cell_below hb c1; have lw := World.block_lt_of_cell? _ _ c0; clear hb HE) | (go_at_call 17; refine (sanity_any _).mono ?_; rintro e wz ⟨rfl, hb⟩; have HBz := Lib.hid (below_trans HB6.out hb); clear hb))
  go_ret
  exact ⟨rfl, HBz.out⟩
set_option maxRecDepth 100000 in
set_option maxHeartbeats 40000000 in
theorem reaches_good (n : Int) (A : Option Addr) (c : Nat) (l : List Lk) (C : Option Addr) (f : Nat) (p : List Int) (B : Option Addr) (d : Nat) (q : List Int) (D : Option Addr) (g : Nat) (x : List Int) (w : World)
    (h : LksAt w A l) (hn : A = none → l.length = 0 ∧ c = 0) (h1 : IntsAt w C p) (hn1 : C = none → p.length = 0 ∧ f = 0) (h2 : IntsAt w B q) (h3 : IntsAt w D x) (hl : l.length ≤ 9223372036854775807) (hp : p.length ≤ 9223372036854775807) (hq : q.length ≤ 9223372036854775807) (hx : x.length ≤ 9223372036854775807)
    (hs : smallB n l.length = true) (hp60 : ¬ 60 < p.length) (hq300 : ¬ 300 < q.length) (hx60 : ¬ 60 < x.length) (ha : askedI n l p = 0) :
    Calls Try.prog 8 #[.agg #[.int .i64 n, .slice A l.length c], .slice C p.length f, .slice B q.length d, .slice D x.length g] w fun e w' => e = .returned (.bool true) ∧ Below w.heap.size w w' := by
  have HA := Lib.hid h
  have HP := Lib.hid h1
  have HQ := Lib.hid h2
  have HX := Lib.hid h3
  have HN := Lib.hid hn
  have HN1 := Lib.hid hn1
  clear h h1 h2 h3 hn hn1
  have hl2 := small_len hs
  have HLL := Lib.hid (show l.length ≤ 1000 ∧ p.length ≤ 1000000 ∧ x.length ≤ 1000000 ∧ q.length ≤ 1000000 by omega)
  have HF := Lib.hid (fun W h1 h2 h3 => CheckFlow_any n A c l C f p B d q W (by omega) (by omega) (by omega) h1 h2 h3 HN1.out)
  have HBB := Lib.hid (fun W h1 h2 h3 h4 => both_any n A c l C f p B d q D g x W (by omega) (by omega) (by omega) (by omega) h1 h2 h3 h4 HN1.out)
  have HE := Lib.hid (fun W h1 h2 => rerror_any n A c l C f p W hl (by omega) h1 h2)
  obtain ⟨N, r, hO⟩ := reaches_ok ha hs
  rw [flow_want q ha] at HF
  rw [both_want q x ha] at HBB
  rw [ha] at HE
  obtain ⟨rfl, n0, n1, pl, inr, pr, rm, cs, ca⟩ := hO
  have HR := Lib.hid (fun W h1 h2 h3 => reach_any 2000000 r N A c l C f p W HLL.out.1 HLL.out.2.1 HN.out h1 h2 pr h3)
  have HPR := Lib.hid (fun W h1 h2 => prove_any 2000000 r N A c l C f p W HLL.out.1 HLL.out.2.1 h1 h2 pr)
  have HSOL := Lib.hid (show r.2 = 0 → (solutionL (N : Int).toNat (rigidL l r.1)).2 = true from fun h => by
    rcases cs with rfl | rfl | ⟨u, rfl, hR⟩
    · cases h
    · cases h
    · rw [Int.toNat_natCast]; exact hR.sol)
  have HRM := Lib.hid (fun W h1 h2 => rmost_any 2000000 (mostV l r) N A c l C f p W n0 n1 HLL.out.1 (by omega) pl HN.out h1 h2 inr rm)
  have HUN := Lib.hid (fun W h1 => runits_any N A c l B d q W (by have := HLL.out; omega) h1)
  have HVA := Lib.hid (fun W h1 => rvalues_any N (.slice A l.length c) D g x W (by have := HLL.out; omega) h1)
  have HCA := Lib.hid (fun (h0 : isFlowI l q = 0) W h1 h2 h3 => (show Calls Try.prog 49 #[.agg #[.int .i64 N, .slice A l.length c], .slice C p.length f, .slice B q.length d] W fun e w' => e = .returned (.bool (carriesB l p q)) ∧ Below W.heap.size W w' by
    have h := rcarries_any N A c l C f p B d q W n1 (by have := HLL.out; omega) HLL.out.2.1 (ca q h0).1 h1 h2 h3 inr
    rw [(ca q h0).2] at h; exact h))
  have HCO := Lib.hid (fun (h0 : isFlowI l q = 0) W h1 h2 => rcost_any N A c l B d q W (by have := HLL.out; omega) (ca q h0).1 h1 h2)
  have HFI := Lib.hid (fun (h0 : areB N x = true) W h1 h2 => rfits_any N A c l D g x W (by have := HLL.out; omega) (by have := HLL.out; omega) h1 h2 (by have := are_len h0; rw [show x.length = N by omega]; exact inr))
  have HVX := Lib.hid (fun (h0 : areB N x = true) W h1 h2 => rvalue_any C f p D g x W (by have := HLL.out; omega) (by have := are_len h0; omega) h1 h2)
  have HPN := Lib.hid (And.intro n0 (And.intro n1 (And.intro pl inr)))
  have HCS := Lib.hid cs
  have HTH := Lib.hid (isFlow_three l q)
  have HPI := Lib.hid (show pairI l N q x = if isFlowI l q ≠ 1 ∧ areB N x = false then 1 else isFlowI l q from rfl)
  have HWI := Lib.hid (show wantI l p q = if isFlowI l q = 0 ∧ carriesB l p q = false then 8 else isFlowI l q from rfl)
  have HCW := Lib.hid (show costW l p q = if wantI l p q = 0 then costI l q else 0 from rfl)
  have HBW := Lib.hid (show bothW l N p q x = ((pairI l N q x == 0) && ((isFlowI l q == 0 && carriesB l p q) && (fitsB x l && (valueI p x == costW l p q)))) from rfl)
  clear ha pl inr pr rm cs ca hl hp hq hx hl2 n0 n1
  obtain ⟨u0, hu0⟩ : ∃ u0, isFlowI l q = u0 := ⟨_, rfl⟩
  obtain ⟨bv, hbv⟩ : ∃ bv, areB N x = bv := ⟨_, rfl⟩
  obtain ⟨cb, hcb⟩ : ∃ cb, carriesB l p q = cb := ⟨_, rfl⟩
  obtain ⟨pi, hpi⟩ : ∃ pi, pairI l N q x = pi := ⟨_, rfl⟩
  obtain ⟨wi, hwi⟩ : ∃ wi, wantI l p q = wi := ⟨_, rfl⟩
  obtain ⟨cw, hcw⟩ : ∃ cw, costW l p q = cw := ⟨_, rfl⟩
  obtain ⟨bw, hbw⟩ : ∃ bw, bothW l N p q x = bw := ⟨_, rfl⟩
  rw [hu0] at HUN HCA HCO HTH HPI HWI HBW
  rw [hbv] at HVA HFI HVX HPI
  rw [hcb] at HCA HWI HBW
  rw [hpi] at HBB HPI HBW
  rw [hwi] at HF HWI HCW
  rw [hcw] at HF HCW HBW
  rw [hbw] at HBB HBW
  clear hu0 hbv hcb hpi hwi hcw hbw
  generalize costI l q = cq at HCO HCW
  generalize valueI p x = vx at HVX HBW
  generalize fitsB x l = fb at HFI HBW
  generalize hrR : reachR N l r = rr at HR
  have HRR := Lib.hid hrR
  obtain ⟨ro, rz⟩ := rr
  obtain ⟨mv, hmv⟩ : ∃ mv, mostV l r = mv := ⟨_, rfl⟩
  rw [hmv] at HRM
  have HMV := Lib.hid hmv
  obtain ⟨r1, r2⟩ := r
  obtain ⟨m1, m2⟩ := mv
  clear hrR hmv
  go_enter Try.func8, Try.ntmps8
  go_upto_region 12 with (first | (go_at_call 27; refine (small_any _ A c l.length _).mono ?_; rw [hs]; rintro e w1 ⟨rfl, hb⟩; have HB1 := Lib.hid (boxed hb).1; obtain ⟨c0, c1, lw⟩ := (boxed hb).2; clear hb) | (go_at_call 44; refine (HR.out _ (HA.out.below HB1.out) (HP.out.below HB1.out) HSOL.out).mono ?_; rintro e w2 ⟨v2, rfl, ⟨Ao, co, rfl, ho, _⟩, hb⟩; have HIO := Lib.hid ho; clear ho; have HB2 := Lib.hid (below_trans HB1.out hb); have c0 := cell_below hb c0; have c1 := cell_below hb c1; have lw := World.block_lt_of_cell? _ _ c0; clear hb HR) | (go_at_call 45; refine (HPR.out _ (HA.out.below HB2.out) (HP.out.below HB2.out)).mono ?_; rintro e w3 ⟨v3, rfl, ⟨Au, cu, rfl, hu, _⟩, hb⟩; have HIO := Lib.hid (HIO.out.below hb); have HIU := Lib.hid hu; clear hu; have HB3 := Lib.hid (below_trans HB2.out hb); have c0 := cell_below hb c0; have c1 := cell_below hb c1; have lw := World.block_lt_of_cell? _ _ c0; clear hb HPR) | (go_at_call 46; refine (HF.out _ (HA.out.below HB3.out) (HP.out.below HB3.out) (HQ.out.below HB3.out)).mono ?_; rintro e w4 ⟨rfl, hb⟩; have HIO := Lib.hid (HIO.out.below hb); have HIU := Lib.hid (HIU.out.below hb); have HB4 := Lib.hid (below_trans HB3.out hb); have c0 := cell_below hb c0; have c1 := cell_below hb c1; have lw := World.block_lt_of_cell? _ _ c0; clear hb HF) | (go_at_call 47; refine (HBB.out _ (HA.out.below HB4.out) (HP.out.below HB4.out) (HQ.out.below HB4.out) (HX.out.below HB4.out)).mono ?_; rintro e w5 ⟨rfl, hb⟩; have HIO := Lib.hid (HIO.out.below hb); have HIU := Lib.hid (HIU.out.below hb); have HB5 := Lib.hid (below_trans HB4.out hb); have c0 := cell_below hb c0; have c1 := cell_below hb c1; have lw := World.block_lt_of_cell? _ _ c0; clear hb HBB) | (go_at_call 21; refine (HE.out _ (HA.out.below HB5.out) (HP.out.below HB5.out)).mono ?_; rintro e w6 ⟨rfl, hb⟩; have HIO := Lib.hid (HIO.out.below hb); have HIU := Lib.hid (HIU.out.below hb); have HB6 := Lib.hid (below_trans HB5.out hb); have c0 := cell_below hb c0; have c1 := cell_below hb c1; have lw := World.block_lt_of_cell? _ _ c0; clear hb HE) | (go_at_call 48; refine (HUN.out _ (HQ.out.below HB6.out)).mono ?_; rintro e w7 ⟨rfl, hb⟩; have HIO := Lib.hid (HIO.out.below hb); have HIU := Lib.hid (HIU.out.below hb); have HB7 := Lib.hid (below_trans HB6.out hb); have c0 := cell_below hb c0; have c1 := cell_below hb c1; have lw := World.block_lt_of_cell? _ _ c0; clear hb HUN))
  have HC7 := Lib.hid (And.intro c0 c1)
  have HBC := Lib.hid (Below.refl w7.heap.size w7)
  obtain ⟨ta, hta⟩ : ∃ ta, ((u0 != 1) && !bv) = ta := ⟨_, rfl⟩
  obtain ⟨tc, htc⟩ : ∃ tc, ((u0 == 0) && cb) = tc := ⟨_, rfl⟩
  obtain ⟨td, htd⟩ : ∃ td, ((u0 == 0) && !cb) = td := ⟨_, rfl⟩
  obtain ⟨te, hte⟩ : ∃ te, (wi == 0) = te := ⟨_, rfl⟩
  have HTE := Lib.hid hte
  clear hte
  have HTA := Lib.hid hta
  have HTC := Lib.hid htc
  have HTD := Lib.hid htd
  clear hta htc htd
  go_cut [123] from 116 to 123 (fun s wx => s = .bool ta ∧ Hid (Below w7.heap.size w7 wx))
  case first =>
    cases e1 : (u0 != 1)
    · go_wp2_with fail
      go_meet
      exact ⟨by rw [← HTA.out, e1]; rfl, HBC⟩
    · cases bv
      all_goals
        go_wp2_with (go_at_call 41; refine (HVA.out _ (HX.out.below HB7.out)).mono ?_; rintro e w8 ⟨rfl, hb⟩; have HB8 := Lib.hid hb; clear hb)
        go_meet
        exact ⟨by rw [← HTA.out, e1]; rfl, HB8⟩
  case rest =>
    obtain ⟨rfl, HBC⟩ := hcut
    replace c0 := cell_below HBC.out HC7.out.1
    replace c1 := cell_below HBC.out HC7.out.2
    replace lw := World.block_lt_of_cell? _ _ c0
    clear HVA
    go_upto_if 123 with fail
    go_cut [19] from 116 to 123 (fun s wx => s = .int .i64 pi ∧ wc = wx)
    case first =>
      cases ta
      · have HE2 := Lib.hid (show u0 = pi by
          rw [HPI.out]
          have h := HTA.out
          by_cases e : u0 = 1
          · rw [if_neg (fun h => h.1 e)]
          · cases bv
            · simp [e] at h
            · rw [if_neg (fun h => by cases h.2)])
        go_wp2_with fail
        go_meet
        exact ⟨by rw [HE2.out], rfl⟩
      · have HE2 := Lib.hid (show pi = 1 by
          have h := HTA.out
          simp only [Bool.and_eq_true, bne_iff_ne, Bool.not_eq_true'] at h
          rw [HPI.out, if_pos h])
        go_wp2_with fail
        go_meet
        exact ⟨by rw [HE2.out], rfl⟩
    case rest =>
      obtain ⟨rfl, rfl⟩ := hcut
      go_upto_region 14 with fail
      go_cut [20] from 124 to 131 (fun s wx => s = .bool tc ∧ Hid (Below w7.heap.size w7 wx))
      case first =>
        cases e1 : (u0 == 0)
        · go_wp2_with fail
          go_meet
          exact ⟨by rw [← HTC.out, e1]; rfl, HBC⟩
        · have HC2 := Lib.hid (HCA.out (by simpa using e1))
          go_wp2_with (go_at_call 49; refine (HC2.out _ (HA.out.below (below_trans HB7.out HBC.out)) (HP.out.below (below_trans HB7.out HBC.out)) (HQ.out.below (below_trans HB7.out HBC.out))).mono ?_; rintro e w9 ⟨rfl, hb⟩; have HB9 := Lib.hid (below_trans HBC.out hb); clear hb)
          go_meet
          exact ⟨by rw [← HTC.out, e1]; rfl, HB9⟩
      case rest =>
        obtain ⟨rfl, HBC⟩ := hcut
        replace c0 := cell_below HBC.out HC7.out.1
        replace c1 := cell_below HBC.out HC7.out.2
        replace lw := World.block_lt_of_cell? _ _ c0
        clear HCA
        go_upto_region 16 with fail
        go_cut [137] from 132 to 137 (fun s wx => s = .bool td ∧ wc = wx)
        case first =>
          cases e1 : (u0 == 0)
          · go_wp2_with fail
            go_meet
            exact ⟨by rw [← HTD.out, e1]; rfl, rfl⟩
          · cases tc
            · have hcb : cb = false := by have h := HTC.out; rw [e1] at h; simpa using h
              subst hcb
              go_wp2_with fail
              go_meet
              exact ⟨by rw [← HTD.out, e1]; rfl, rfl⟩
            · have hcb : cb = true := by have h := HTC.out; rw [e1] at h; simpa using h
              subst hcb
              go_wp2_with fail
              go_meet
              exact ⟨by rw [← HTD.out, e1]; rfl, rfl⟩
        case rest =>
          obtain ⟨rfl, rfl⟩ := hcut
          go_upto_if 137 with fail
          go_cut [18] from 132 to 137 (fun s wx => s = .int .i64 wi ∧ wc = wx)
          case first =>
            cases td
            · have HE2 := Lib.hid (show u0 = wi by
                rw [HWI.out]
                have h := HTD.out
                by_cases e : u0 = 0
                · cases cb
                  · simp [e] at h
                  · rw [if_neg (fun h => by cases h.2)]
                · rw [if_neg (fun h => e h.1)])
              go_wp2_with fail
              go_meet
              exact ⟨by rw [HE2.out], rfl⟩
            · have HE2 := Lib.hid (show wi = 8 by
                have h := HTD.out
                simp only [Bool.and_eq_true, beq_iff_eq, Bool.not_eq_true'] at h
                rw [HWI.out, if_pos h])
              go_wp2_with fail
              go_meet
              exact ⟨by rw [HE2.out], rfl⟩
          case rest =>
            obtain ⟨rfl, rfl⟩ := hcut
            go_upto_region 18 with fail
            go_cut [139] from 138 to 139 (fun s wx => s = .bool te ∧ wc = wx)
            case first =>
              have hte := HTE.out
              go_wp2_with fail
              go_meet
              exact ⟨by first | rfl | rw [HTE.out], rfl⟩
            obtain ⟨rfl, rfl⟩ := hcut
            go_upto_if 139 with fail
            go_cut [21] from 138 to 142 (fun s wx => s = .int .i64 cw ∧ Hid (Below w7.heap.size w7 wx))
            case first =>
              cases te
              · have HE2 := Lib.hid (show cw = 0 by rw [HCW.out, if_neg (by simpa using HTE.out)])
                go_wp2_with fail
                go_meet
                exact ⟨by rw [HE2.out], HBC⟩
              · have hw0 : wi = 0 := by simpa using HTE.out
                have HE2 := Lib.hid (show cq = cw by rw [HCW.out, if_pos hw0])
                have HU0 := Lib.hid (show u0 = 0 by
                  have h := HWI.out
                  rw [hw0] at h
                  split at h
                  · omega
                  · exact h.symm)
                clear hw0
                go_wp2_with (go_at_call 50; refine (HCO.out HU0.out _ (HA.out.below (below_trans HB7.out HBC.out)) (HQ.out.below (below_trans HB7.out HBC.out))).mono ?_; rintro e w9 ⟨rfl, hb⟩; have HB9 := Lib.hid (below_trans HBC.out hb); clear hb)
                go_meet
                exact ⟨by rw [HE2.out], HB9⟩
            case rest =>
              obtain ⟨rfl, HBC⟩ := hcut
              replace c0 := cell_below HBC.out HC7.out.1
              replace c1 := cell_below HBC.out HC7.out.2
              replace lw := World.block_lt_of_cell? _ _ c0
              clear HCO
              go_upto_region 20 with fail
              go_cut [176] from 143 to 176 (fun s wx => s = .bool false ∧ Hid (Below w7.heap.size w7 wx))
              case first =>
                have HBW2 := Lib.hid (show bw = ((pi == 0) && (tc && (fb && (vx == cw)))) by rw [HBW.out, HTC.out])
                cases e1 : (pi == 0)
                · have hb2 : bw = false := by rw [HBW2.out, e1]; rfl
                  subst hb2
                  go_wp2_with fail
                  go_meet
                  exact ⟨rfl, HBC⟩
                · cases tc
                  · have hb2 : bw = false := by rw [HBW2.out, e1]; rfl
                    subst hb2
                    go_wp2_with fail
                    go_meet
                    exact ⟨rfl, HBC⟩
                  · have hpi0 : pi = 0 := by simpa using e1
                    have hu1 : u0 = 0 := by have h := HTC.out; simp only [Bool.and_eq_true, beq_iff_eq] at h; exact h.1
                    have hbv : bv = true := by
                      have h := HPI.out
                      rw [hpi0, hu1] at h
                      cases bv
                      · simp at h
                      · rfl
                    subst hbv
                    have HF2 := Lib.hid (HFI.out rfl)
                    have HV2 := Lib.hid (HVX.out rfl)
                    clear hpi0 hu1
                    cases fb
                    · have hb2 : bw = false := by rw [HBW2.out, e1]; rfl
                      subst hb2
                      go_wp2_with (go_at_call 51; refine (HF2.out _ (HA.out.below (below_trans HB7.out HBC.out)) (HX.out.below (below_trans HB7.out HBC.out))).mono ?_; rintro e w10 ⟨rfl, hb⟩; have HB10 := Lib.hid (below_trans HBC.out hb); clear hb)
                      go_meet
                      exact ⟨rfl, HB10⟩
                    · cases e5 : (vx == cw)
                      · have hb2 : bw = false := by rw [HBW2.out, e1, e5]; rfl
                        subst hb2
                        go_wp2_with (first | (go_at_call 51; refine (HF2.out _ (HA.out.below (below_trans HB7.out HBC.out)) (HX.out.below (below_trans HB7.out HBC.out))).mono ?_; rintro e w10 ⟨rfl, hb⟩; have HB10 := Lib.hid (below_trans HBC.out hb); clear hb) | (go_at_call 42; refine (HV2.out _ (HP.out.below (below_trans HB7.out HB10.out)) (HX.out.below (below_trans HB7.out HB10.out))).mono ?_; rintro e w11 ⟨rfl, hb⟩; have HB11 := Lib.hid (below_trans HB10.out hb); clear hb))
                        go_meet
                        exact ⟨rfl, HB11⟩
                      · have hb2 : bw = true := by rw [HBW2.out, e1, e5]; rfl
                        subst hb2
                        go_wp2_with (first | (go_at_call 51; refine (HF2.out _ (HA.out.below (below_trans HB7.out HBC.out)) (HX.out.below (below_trans HB7.out HBC.out))).mono ?_; rintro e w10 ⟨rfl, hb⟩; have HB10 := Lib.hid (below_trans HBC.out hb); clear hb) | (go_at_call 42; refine (HV2.out _ (HP.out.below (below_trans HB7.out HB10.out)) (HX.out.below (below_trans HB7.out HB10.out))).mono ?_; rintro e w11 ⟨rfl, hb⟩; have HB11 := Lib.hid (below_trans HB10.out hb); clear hb))
                        go_meet
                        exact ⟨rfl, HB11⟩
              case rest =>
                obtain ⟨rfl, HBC⟩ := hcut
                replace c0 := cell_below HBC.out HC7.out.1
                replace c1 := cell_below HBC.out HC7.out.2
                replace lw := World.block_lt_of_cell? _ _ c0
                clear HFI HVX
                have HIO := Lib.hid (HIO.out.below HBC.out)
                have HIU := Lib.hid (HIU.out.below HBC.out)
                have HBK := Lib.hid (below_trans HB7.out HBC.out)
                have hcs2 : (r1 = [] ∧ (r2 != 0) = true) ∨ ∃ u, ((r1, r2) : List Int × Int) = (u, 0) ∧ ReachOk N l p u := by
                  rcases HCS.out with e9 | e9 | h9
                  · cases e9; exact .inl ⟨rfl, rfl⟩
                  · cases e9; exact .inl ⟨rfl, rfl⟩
                  · exact .inr h9
                rcases hcs2 with ⟨e9, e10⟩ | ⟨u, e9, hR⟩
                · subst e9
                  have hr20 : ¬ r2 = 0 := by simpa using e10
                  have hm : ((0 : Int), r2) = (m1, m2) := by rw [← HMV.out]; unfold mostV; rw [if_neg hr20]
                  have hr : (([] : List Int), r2) = (ro, rz) := by rw [← HRR.out]; unfold reachR; rw [if_neg hr20]
                  cases hm
                  cases hr
                  clear hr20
                  go_wp2_with (first | (go_at_call 22; refine (HRM.out _ (HA.out.below HBK.out) (HP.out.below HBK.out)).mono ?_; rintro e w12 ⟨rfl, hb⟩; have HB12 := Lib.hid (below_trans HBK.out hb); clear hb HRM) | (go_at_call 17; refine (sanity_any _).mono ?_; rintro e wz ⟨rfl, hb⟩; have HBz := Lib.hid (below_trans HB12.out hb); clear hb))
                  go_ret
                  exact ⟨rfl, HBz.out⟩
                · have hu1 : r1 = u := congrArg Prod.fst e9
                  have hu2 : r2 = 0 := congrArg Prod.snd e9
                  subst hu1
                  subst hu2
                  have hr : (reachL N l r1, (0 : Int)) = (ro, rz) := by rw [← HRR.out]; unfold reachR; rw [if_pos rfl, Int.toNat_natCast]
                  have hr1 : reachL N l r1 = ro := congrArg Prod.fst hr
                  have hr2 : 0 = rz := congrArg Prod.snd hr
                  subst hr2
                  have hm : (costI l r1, (0 : Int)) = (m1, m2) := by rw [← HMV.out]; unfold mostV; rw [if_pos rfl]
                  have hm1 : costI l r1 = m1 := congrArg Prod.fst hm
                  have hm2 : 0 = m2 := congrArg Prod.snd hm
                  subst hm2
                  have HRO := Lib.hid hR
                  have HR1 := Lib.hid hr1
                  have HM1 := Lib.hid hm1
                  clear hR hr hr1 hm hm1 e9 HRR HMV HCS
                  have HO41 := Lib.hid (fun W h1 => (show Calls Try.prog 41 #[.agg #[.int .i64 N, .slice A l.length c], .slice Ao ro.length co] W fun e w' => e = .returned (.bool true) ∧ Below W.heap.size W w' by
                    have h := rvalues_any N (.slice A l.length c) Ao co ro W (by have := HRO.out.own; rw [HR1.out] at this; have := HPN.out.2.1; omega) h1
                    rw [show areB N ro = true by rw [← HR1.out]; exact HRO.out.are] at h; exact h))
                  have HO51 := Lib.hid (fun W h1 h2 => (show Calls Try.prog 51 #[.agg #[.int .i64 N, .slice A l.length c], .slice Ao ro.length co] W fun e w' => e = .returned (.bool true) ∧ Below W.heap.size W w' by
                    have hl9 : ro.length = N := by have := HRO.out.own; rw [HR1.out] at this; exact this
                    have h := rfits_any N A c l Ao co ro W (by have := HLL.out; omega) (by have := HPN.out.2.1; omega) h1 h2 (by rw [hl9]; exact HPN.out.2.2.2)
                    rw [show fitsB ro l = true by rw [← HR1.out]; exact HRO.out.fit] at h; exact h))
                  have HO42 := Lib.hid (fun W h1 h2 => (show Calls Try.prog 42 #[.slice C p.length f, .slice Ao ro.length co] W fun e w' => e = .returned (.int .i64 m1) ∧ Below W.heap.size W w' by
                    have hl9 : ro.length = N := by have := HRO.out.own; rw [HR1.out] at this; exact this
                    have h := rvalue_any C f p Ao co ro W (by have := HLL.out; omega) (by have := HPN.out.2.2.1; omega) h1 h2
                    rw [show valueI p ro = m1 by rw [← HR1.out, ← HM1.out]; exact HRO.out.val] at h; exact h))
                  have HO48 := Lib.hid (fun W h1 => (show Calls Try.prog 48 #[.agg #[.int .i64 N, .slice A l.length c], .slice Au r1.length cu] W fun e w' => e = .returned (.int .i64 0) ∧ Below W.heap.size W w' by
                    have h := runits_any N A c l Au cu r1 W (by have := HRO.out.len; have := HLL.out; omega) h1
                    rw [HRO.out.flow] at h; exact h))
                  have HO49 := Lib.hid (fun W h1 h2 h3 => (show Calls Try.prog 49 #[.agg #[.int .i64 N, .slice A l.length c], .slice C p.length f, .slice Au r1.length cu] W fun e w' => e = .returned (.bool true) ∧ Below W.heap.size W w' by
                    have h := rcarries_any N A c l C f p Au cu r1 W HPN.out.2.1 (by have := HLL.out; omega) HLL.out.2.1 HRO.out.len h1 h2 h3 HPN.out.2.2.2
                    rw [HRO.out.car] at h; exact h))
                  have HO50 := Lib.hid (fun W h1 h2 => (show Calls Try.prog 50 #[.agg #[.int .i64 N, .slice A l.length c], .slice Au r1.length cu] W fun e w' => e = .returned (.int .i64 m1) ∧ Below W.heap.size W w' by
                    have h := rcost_any N A c l Au cu r1 W (by have := HLL.out; omega) HRO.out.len h1 h2
                    rw [HM1.out] at h; exact h))
                  have HO0 := Lib.hid (show 0 < ro.length by have h := HRO.out.own; rw [HR1.out] at h; have := HPN.out.1; omega)
                  have HFST := Lib.hid (show gi ro 0 = 0 by rw [← HR1.out]; exact HRO.out.first)
                  clear HR1 HM1 HRO
                  have MK := Lib.hid True.intro
                  go_upto_region 25 with (go_at_call 22; refine (HRM.out _ (HA.out.below HBK.out) (HP.out.below HBK.out)).mono ?_; rintro e w12 ⟨rfl, hb⟩; have HB12 := Lib.hid (below_trans HBK.out hb); have HIO := Lib.hid (HIO.out.below hb); have HIU := Lib.hid (HIU.out.below hb); have c0 := cell_below hb c0; have c1 := cell_below hb c1; have lw := World.block_lt_of_cell? _ _ c0; clear hb HRM)
                  obtain ⟨bo, oo, rfl, g0⟩ := HIO.out.nat 0 HO0.out
                  rw [show gi ro ((0 : Nat) : Int) = 0 from HFST.out] at g0
                  simp only [Nat.add_zero] at g0
                  have hol : (0 : Int) < (ro.length : Int) := by have := HO0.out; omega
                  have HG0 := Lib.hid g0
                  go_wp2_with (first | (go_at_call 41; refine (HO41.out _ HIO.out).mono ?_; rintro e w13 ⟨rfl, hb⟩; have HB13 := Lib.hid (below_trans HB12.out hb); have HIO := Lib.hid (HIO.out.below hb); have HIU := Lib.hid (HIU.out.below hb); have c0 := cell_below hb c0; have c1 := cell_below hb c1; have lw := World.block_lt_of_cell? _ _ c0; have g0 := cell_below hb g0; have lg0 := World.block_lt_of_cell? _ _ g0; clear hb HO41) | (go_at_call 51; refine (HO51.out _ (HA.out.below HB13.out) HIO.out).mono ?_; rintro e w14 ⟨rfl, hb⟩; have HB14 := Lib.hid (below_trans HB13.out hb); have HIO := Lib.hid (HIO.out.below hb); have HIU := Lib.hid (HIU.out.below hb); have c0 := cell_below hb c0; have c1 := cell_below hb c1; have lw := World.block_lt_of_cell? _ _ c0; clear hb HO51) | (go_at_call 42; refine (HO42.out _ (HP.out.below HB14.out) HIO.out).mono ?_; rintro e w15 ⟨rfl, hb⟩; have HB15 := Lib.hid (below_trans HB14.out hb); have HIO := Lib.hid (HIO.out.below hb); have HIU := Lib.hid (HIU.out.below hb); have c0 := cell_below hb c0; have c1 := cell_below hb c1; have lw := World.block_lt_of_cell? _ _ c0; clear hb HO42) | (go_at_call 17; have hmk := MK.out; clear hmk; refine (sanity_any _).mono ?_; rintro e w16 ⟨rfl, hb⟩; have HB16 := Lib.hid (below_trans HB15.out hb); have HIO := Lib.hid (HIO.out.below hb); have HIU := Lib.hid (HIU.out.below hb); have c0 := cell_below hb c0; have c1 := cell_below hb c1; have lw := World.block_lt_of_cell? _ _ c0; clear hb MK) | (go_at_call 48; refine (HO48.out _ HIU.out).mono ?_; rintro e w17 ⟨rfl, hb⟩; have HB17 := Lib.hid (below_trans HB16.out hb); have HIO := Lib.hid (HIO.out.below hb); have HIU := Lib.hid (HIU.out.below hb); have c0 := cell_below hb c0; have c1 := cell_below hb c1; have lw := World.block_lt_of_cell? _ _ c0; clear hb HO48) | (go_at_call 49; refine (HO49.out _ (HA.out.below HB17.out) (HP.out.below HB17.out) HIU.out).mono ?_; rintro e w18 ⟨rfl, hb⟩; have HB18 := Lib.hid (below_trans HB17.out hb); have HIO := Lib.hid (HIO.out.below hb); have HIU := Lib.hid (HIU.out.below hb); have c0 := cell_below hb c0; have c1 := cell_below hb c1; have lw := World.block_lt_of_cell? _ _ c0; clear hb HO49) | (go_at_call 50; refine (HO50.out _ (HA.out.below HB18.out) HIU.out).mono ?_; rintro e w19 ⟨rfl, hb⟩; have HB19 := Lib.hid (below_trans HB18.out hb); have HIO := Lib.hid (HIO.out.below hb); have HIU := Lib.hid (HIU.out.below hb); have c0 := cell_below hb c0; have c1 := cell_below hb c1; have lw := World.block_lt_of_cell? _ _ c0; clear hb HO50))
                  go_ret
                  exact ⟨rfl, HB19.out⟩

theorem reaches_walk (n : Int) (A : Option Addr) (c : Nat) (l : List Lk) (C : Option Addr) (f : Nat) (p : List Int) (B : Option Addr) (d : Nat) (q : List Int) (D : Option Addr) (g : Nat) (x : List Int) (w : World)
    (h : LksAt w A l) (hn : A = none → l.length = 0 ∧ c = 0) (h1 : IntsAt w C p) (hn1 : C = none → p.length = 0 ∧ f = 0) (h2 : IntsAt w B q) (h3 : IntsAt w D x) (hl : l.length ≤ 9223372036854775807) (hp : p.length ≤ 9223372036854775807) (hq : q.length ≤ 9223372036854775807) (hx : x.length ≤ 9223372036854775807) :
    Calls Try.prog 8 #[.agg #[.int .i64 n, .slice A l.length c], .slice C p.length f, .slice B q.length d, .slice D x.length g] w fun e w' => e = .returned (.bool true) ∧ Below w.heap.size w w' := by
  by_cases hg : smallB n l.length = false ∨ 60 < p.length ∨ 300 < q.length ∨ 60 < x.length
  · exact reaches_guard n A c l C f p B d q D g x w h hn h1 hn1 h2 h3 hl hp hq hx hg
  · have hs : smallB n l.length = true := by cases e : smallB n l.length; exact absurd (.inl e) hg; rfl
    have g1 : ¬ 60 < p.length := fun e => hg (.inr (.inl e))
    have g2 : ¬ 300 < q.length := fun e => hg (.inr (.inr (.inl e)))
    have g3 : ¬ 60 < x.length := fun e => hg (.inr (.inr (.inr e)))
    by_cases ha : askedI n l p = 0
    · exact reaches_good n A c l C f p B d q D g x w h hn h1 hn1 h2 h3 hl hp hq hx hs g1 g2 g3 ha
    · exact reaches_bad n A c l C f p B d q D g x w h hn h1 hn1 h2 h3 hl hp hq hx hs g1 g2 g3 ha
theorem reaches_at (n : Int) (A : Option Addr) (c : Nat) (l : List Lk) (C : Option Addr) (f : Nat) (p : List Int) (B : Option Addr) (d : Nat) (q : List Int) (D : Option Addr) (g : Nat) (x : List Int) (w : World)
    (h : LksAt w A l) (hn : A = none → l.length = 0 ∧ c = 0) (hl : l.length ≤ 9223372036854775807) (h1 : IntsAt w C p) (hn1 : C = none → p.length = 0 ∧ f = 0) (hp : p.length ≤ 9223372036854775807) (_ : ∀ v ∈ p, -9223372036854775808 ≤ v ∧ v ≤ 9223372036854775807) (h2 : IntsAt w B q) (_ : B = none → q.length = 0 ∧ d = 0) (hq : q.length ≤ 9223372036854775807) (_ : ∀ v ∈ q, -9223372036854775808 ≤ v ∧ v ≤ 9223372036854775807) (h3 : IntsAt w D x) (_ : D = none → x.length = 0 ∧ g = 0) (hx : x.length ≤ 9223372036854775807) (_ : ∀ v ∈ x, -9223372036854775808 ≤ v ∧ v ≤ 9223372036854775807) :
    Calls Try.prog 8 #[.agg #[.int .i64 n, .slice A l.length c], .slice C p.length f, .slice B q.length d, .slice D x.length g] w fun e w' => e = .returned (.bool true) ∧ Below w.heap.size w w' :=
  reaches_walk n A c l C f p B d q D g x w h hn h1 hn1 h2 h3 hl hp hq hx
end Go.Proofs.Ytmhiiomejopaoaa
