/- The reference's Most is Most; its walk, same, Carries; the plain law of sums -/
import Derived.Test.YtmhiiomejopaoaaA4
import Derived.Test.YtmhiiomejopaoaaA0
import Derived.Test.YtmhiiomejopaoaaA7
import Derived.Test.YtmhiiomejopaoaaV4
namespace Go.Proofs.Ytmhiiomejopaoaa
set_option linter.all false
open Go.RowKit
set_option maxRecDepth 100000

/-- The reference's Most, plain. -/
def rmostV (l : List Lk) : Option (List Int) → Int × Int
  | none => (0, 5)
  | some u => (costI l u, 0)
def rmostP (F n : Nat) (l : List Lk) (w : List Int) : Option (Int × Int) :=
  if (solutionL n l).2 = false then some (0, 9) else (carryN F l n F 0 (List.replicate l.length 0) w).map (rmostV l)
theorem costI_cst {n : Nat} {l : List Lk} {u : List Int} (hS : NetS n l) (hl : l.length ≤ 60) (hu : u.length = l.length) (hb : ∀ k : Nat, 0 ≤ gi u k ∧ gi u k ≤ 2000000) : costI l u = cst l u := by
  have h1 := sumN_le (g := fun k : Nat => gi u k) (h := fun _ => 2000000) l.length (fun i _ => (hb i).2)
  rw [sumN_const] at h1
  exact costI_eq hu (fun k hk => by have := hS.lk k hk; omega) (fun k _ => (hb k).1) (by omega)
theorem rmost_same {n : Nat} {l : List Lk} {w : List Int} (ha : askedI n l w = 0) (hn : n ≤ 12) (hl : l.length ≤ 60) : ∃ r, rmostP 2000000 n l w = some r ∧ MostP 2000000 n l w = some r := by
  obtain ⟨hok, hw, hwb, _⟩ := asked_facts ha
  have hS := netOk_lk hok hn
  have hlk : ∀ k : Nat, k < l.length → 0 ≤ (gl l k).a ∧ (gl l k).a < n ∧ 0 ≤ (gl l k).b ∧ (gl l k).b < n := fun k hk => by have := hS.lk k hk; omega
  obtain ⟨r, hr, hc⟩ := best_facts ha hn
  have hM : MostP 2000000 n l w = some (mostV l r) := by unfold MostP; rw [if_pos ha, Int.toNat_natCast, hr]; rfl
  rw [hM]
  by_cases hs : (solutionL n l).2 = true
  · obtain ⟨q, c1, c2⟩ := carry_ok ha hn hl hs
    have hR : rmostP 2000000 n l w = some (rmostV l q) := by unfold rmostP; rw [if_neg (by rw [hs]; simp), c1]; rfl
    rw [hR]
    rcases hc with ⟨rfl, h1⟩ | ⟨rfl, _, h2⟩ | ⟨u0, x, rfl, _, h2⟩
    · rw [hs] at h1; cases h1
    · rcases c2 with ⟨u, rfl, f1, _⟩ | ⟨rfl, _⟩
      · exact absurd (cut_none hlk h2 f1.u0 f1.cons) id
      · exact ⟨_, rfl, rfl⟩
    · obtain ⟨b1, b2, b3⟩ := best_fl hS hl hw hwb h2
      rcases c2 with ⟨u, rfl, f1, f2, f3⟩ | ⟨rfl, f1⟩
      · refine ⟨_, rfl, ?_⟩
        have h3 := carry_best hlk f1 f2 u0 b1
        have h4 := b3 u f1
        have h5 := costI_cst hS hl f1.len f3
        show some (costI l u0, 0) = some (costI l u, 0)
        rw [b2, h5, show cst l u0 = cst l u by omega]
      · exact absurd (cut_none hlk f1 b1.u0 b1.cons) id
  · have hs' : (solutionL n l).2 = false := by simpa using hs
    have hR : rmostP 2000000 n l w = some (0, 9) := by unfold rmostP; rw [if_pos hs']
    rw [hR]
    rcases hc with ⟨rfl, _⟩ | ⟨rfl, h1, _⟩ | ⟨u0, x, rfl, h1, _⟩
    · exact ⟨_, rfl, rfl⟩
    · exact absurd h1 hs
    · exact absurd h1 hs

theorem carryN_len {F n : Nat} {l : List Lk} : ∀ {k v : Nat} {u f r : List Int}, u.length = l.length → carryN F l n k v u f = some (some r) → r.length = l.length := by
  intro k
  induction k with
  | zero => intro v u f r _ h; cases h
  | succ k ih =>
    intro v u f r hu h
    obtain ⟨k', e, hc⟩ := carryN_cases h
    cases e
    rcases hc with ⟨_, h1⟩ | ⟨_, _, h1⟩ | ⟨_, _, _, h1⟩ | ⟨_, _, t, P, m, f1, _, _, _, _, _, h1⟩
    · cases h1; exact hu
    · exact ih hu h1
    · cases h1
    · exact ih (by rw [foldM_len]; exact hu) h1
set_option maxRecDepth 100000 in
set_option maxHeartbeats 1000000 in
theorem rmost_any (F : Nat) (r : Int × Int) (n : Nat) (A : Option Addr) (c : Nat) (l : List Lk) (B : Option Addr) (d : Nat) (x : List Int) (w : World) (hn0 : 0 < n) (hn : n ≤ 1000000) (hl : l.length ≤ 1000) (hF : F ≤ 2000000) (hx : x.length = n) (hnil : A = none → l.length = 0 ∧ c = 0) (h : LksAt w A l) (h' : IntsAt w B x) (hr : ∀ k ∈ l, InR n k) (hb : rmostP F n l x = some r) :
    Calls Try.prog 22 #[.agg #[.int .i64 n, .slice A l.length c], .slice B x.length d] w fun e w' => e = .returned (.tuple #[.int .i64 r.1, .int .i64 r.2]) ∧ Below w.heap.size w w' := by
  have HA := Lib.hid h
  have HX := Lib.hid h'
  have HR := Lib.hid hr
  have HS := Lib.hid (fun W h1 => rsol_any n A c l W hn (by omega) h1 hr)
  by_cases hs : (solutionL n l).2 = false
  · rw [hs] at HS
    have hr2 : r = (0, 9) := by unfold rmostP at hb; rw [if_pos hs] at hb; exact (Option.some.inj hb).symm
    subst hr2
    clear h h' hr hb hs hx hnil
    go_enter Try.func22, Try.ntmps22
    go_wp2_with (go_at_call 35; refine (HS.out _ (HA.out.alloc _)).mono ?_; rintro e w1 ⟨v1, rfl, hb⟩; have HB := Lib.hid (boxed hb).1; clear hb)
    go_ret2
    exact ⟨rfl, HB.out⟩
  · have hs2 : (solutionL n l).2 = true := by simpa using hs
    rw [hs2] at HS
    unfold rmostP at hb
    rw [if_neg hs] at hb
    obtain ⟨q, hq, rfl⟩ := Option.map_eq_some_iff.1 hb
    have HC := Lib.hid (fun W h1 h2 => carry_any F q n A c l B d x W hn0 hn hl hF hx hnil h1 h2 hr hq)
    have HQ := Lib.hid hq
    clear h h' hr hb hs hx hnil hs2 hq
    cases q with
    | none =>
      go_enter Try.func22, Try.ntmps22
      go_wp2_with (first | (go_at_call 35; refine (HS.out _ (HA.out.alloc _)).mono ?_; rintro e w1 ⟨v1, rfl, hb⟩; have HB := Lib.hid (boxed hb).1; obtain ⟨c0, c1, lw⟩ := (boxed hb).2; clear hb) | (go_at_call 73; refine (HC.out _ (HA.out.below HB.out) (HX.out.below HB.out)).mono ?_; rintro e w2 ⟨v2, rfl, _, hb⟩; have HB2 := Lib.hid (below_trans HB.out hb); clear hb))
      go_ret2
      exact ⟨rfl, HB2.out⟩
    | some u =>
      have HU := Lib.hid (carryN_len (by simp) HQ.out)
      go_enter Try.func22, Try.ntmps22
      go_wp2_with (first | (go_at_call 35; refine (HS.out _ (HA.out.alloc _)).mono ?_; rintro e w1 ⟨v1, rfl, hb⟩; have HB := Lib.hid (boxed hb).1; obtain ⟨c0, c1, lw⟩ := (boxed hb).2; clear hb) | (go_at_call 73; refine (HC.out _ (HA.out.below HB.out) (HX.out.below HB.out)).mono ?_; rintro e w2 ⟨v2, rfl, ⟨Au, cu, rfl, hu, _⟩, hb⟩; have HB2 := Lib.hid (below_trans HB.out hb); have c0 := cell_below hb c0; have c1 := cell_below hb c1; have lw := World.block_lt_of_cell? _ _ c0; have HIU := Lib.hid (show IntsAt w2 Au u from hu); clear hb hu) | (go_at_call 50; refine (rcost_any n A c l Au cu u _ (by omega) HU.out (HA.out.below HB2.out) HIU.out).mono ?_; rintro e w3 ⟨rfl, hb⟩; have HB3 := Lib.hid (below_trans HB2.out hb); clear hb))
      go_ret2
      exact ⟨rfl, HB3.out⟩
/-- Whether Most without some links is a number. -/
def sameB (F n : Nat) (l : List Lk) (x S : List Int) (most : Int) : Bool := match rmostP F n (keptL l (notIn S)) x with
  | none => false
  | some r => r.2 == 0 && r.1 == most
set_option maxRecDepth 100000 in
set_option maxHeartbeats 4000000 in
theorem rsame1_any (F : Nat) (r : Int × Int) (n : Nat) (A : Option Addr) (c : Nat) (l : List Lk) (B : Option Addr) (d : Nat) (x : List Int) (C : Option Addr) (f : Nat) (S : List Int) (most : Int) (w : World) (hn0 : 0 < n) (hn : n ≤ 1000000) (hl : l.length ≤ 1000) (hF : F ≤ 2000000) (hx : x.length = n) (hS : S.length ≤ 1000000) (h : LksAt w A l) (h' : IntsAt w B x) (h2 : IntsAt w C S) (hr : ∀ k ∈ l, InR n k) (hb : rmostP F n (keptL l (notIn S)) x = some r) :
    Calls Try.prog 75 #[.agg #[.int .i64 n, .slice A l.length c], .slice B x.length d, .slice C S.length f, .int .i64 most] w fun e w' => e = .returned (.bool (sameB F n l x S most)) ∧ Below w.heap.size w w' := by
  have HA := Lib.hid h
  have HX := Lib.hid h'
  have HS := Lib.hid h2
  have HW := Lib.hid (fun W h1 h2 => rwithout_any n A c l C f S W (by omega) hS h1 h2)
  have HM := Lib.hid (fun A2 c2 W h3 h1 h2 => rmost_any F r n A2 c2 (keptL l (notIn S)) B d x W hn0 hn (Nat.le_trans (keptL_len l _) hl) hF hx h3 h1 h2 (fun k hk => hr k (keptL_mem hk)) hb)
  have HE := Lib.hid (show sameB F n l x S most = (r.2 == 0 && r.1 == most) by unfold sameB; rw [hb])
  obtain ⟨r1, r2⟩ := r
  generalize keptL l (notIn S) = kl at HW HM
  clear h h' h2 hr hb hx
  cases t1 : (r2 == 0)
  · have HE2 := Lib.hid (show sameB F n l x S most = false by rw [HE.out]; simp only [t1]; rfl)
    go_enter Try.func75, Try.ntmps75
    go_wp2_with (first | (go_at_call 56; refine (HW.out _ (HA.out.alloc _) (HS.out.alloc _)).mono ?_; rintro e w1 ⟨v1, rfl, ⟨A2, c2, rfl, hv, hn2⟩, hb⟩; have HB := Lib.hid (boxed hb).1; have HL2 := Lib.hid hv; have HN2 := Lib.hid hn2; clear hb hv hn2) | (go_at_call 22; refine (HM.out A2 c2 _ HN2.out HL2.out (HX.out.below HB.out)).mono ?_; rintro e w2 ⟨rfl, hb⟩; have HB2 := Lib.hid (below_trans HB.out hb); clear hb))
    go_ret
    exact ⟨by rw [HE2.out]; rfl, HB2.out⟩
  · cases t2 : (r1 == most)
    · have HE2 := Lib.hid (show sameB F n l x S most = false by rw [HE.out]; simp only [t1, t2]; rfl)
      have HT1 := Lib.hid t1
      have HT2 := Lib.hid t2
      clear t1 t2 HE
      go_enter Try.func75, Try.ntmps75
      go_upto_region 2 with (first | (go_at_call 56; refine (HW.out _ (HA.out.alloc _) (HS.out.alloc _)).mono ?_; rintro e w1 ⟨v1, rfl, ⟨A2, c2, rfl, hv, hn2⟩, hb⟩; have HB := Lib.hid (boxed hb).1; have HL2 := Lib.hid hv; have HN2 := Lib.hid hn2; clear hb hv hn2 HW) | (go_at_call 22; refine (HM.out A2 c2 _ HN2.out HL2.out (HX.out.below HB.out)).mono ?_; rintro e w2 ⟨rfl, hb⟩; have HB2 := Lib.hid (below_trans HB.out hb); clear hb HM))
      have t1 := HT1.out
      have t2 := HT2.out
      go_wp2
      go_ret
      exact ⟨by rw [HE2.out]; rfl, HB2.out⟩
    · have HE2 := Lib.hid (show sameB F n l x S most = true by rw [HE.out]; simp only [t1, t2]; rfl)
      have HT1 := Lib.hid t1
      have HT2 := Lib.hid t2
      clear t1 t2 HE
      go_enter Try.func75, Try.ntmps75
      go_upto_region 2 with (first | (go_at_call 56; refine (HW.out _ (HA.out.alloc _) (HS.out.alloc _)).mono ?_; rintro e w1 ⟨v1, rfl, ⟨A2, c2, rfl, hv, hn2⟩, hb⟩; have HB := Lib.hid (boxed hb).1; have HL2 := Lib.hid hv; have HN2 := Lib.hid hn2; clear hb hv hn2 HW) | (go_at_call 22; refine (HM.out A2 c2 _ HN2.out HL2.out (HX.out.below HB.out)).mono ?_; rintro e w2 ⟨rfl, hb⟩; have HB2 := Lib.hid (below_trans HB.out hb); clear hb HM))
      have t1 := HT1.out
      have t2 := HT2.out
      go_wp2
      go_ret
      exact ⟨by rw [HE2.out]; rfl, HB2.out⟩
def moveI (left : List Int) (p : Lk × Int) : List Int :=
  si (si left p.1.b (wrap64 (gi left p.1.b + p.2))) p.1.a (wrap64 (gi (si left p.1.b (wrap64 (gi left p.1.b + p.2))) p.1.a - p.2))
def inOf (n : Nat) (l : List Lk) (u : List Int) : List Int := (l.zip u).foldl moveI (List.replicate n 0)
theorem moveI_length (s : List Int) (p : Lk × Int) : (moveI s p).length = s.length := by simp [moveI, si]
theorem foldl_moveI_length (l : List (Lk × Int)) : ∀ s : List Int, (l.foldl moveI s).length = s.length := by
  induction l with
  | nil => intro s; rfl
  | cons k l ih => intro s; rw [List.foldl_cons, ih, moveI_length]
theorem inP {n : Nat} {l : List Lk} {u : List Int} (hlk : ∀ k : Nat, k < l.length → 0 ≤ (gl l k).a ∧ (gl l k).a < n ∧ 0 ≤ (gl l k).b ∧ (gl l k).b < n) (hu : u.length = l.length) (h0 : ∀ k : Nat, k < l.length → 0 ≤ gi u k) (hB : 2 * sumN (fun k => gi u k) l.length ≤ 4611686018427387904) :
    ∀ m, m ≤ l.length → (((l.zip u).take m).foldl moveI (List.replicate n 0)).length = n ∧ ∀ v : Int, 0 ≤ v → v < n → gi (((l.zip u).take m).foldl moveI (List.replicate n 0)) v = netP l u v m ∧ -(2 * sumN (fun k => gi u k) m) ≤ gi (((l.zip u).take m).foldl moveI (List.replicate n 0)) v ∧ gi (((l.zip u).take m).foldl moveI (List.replicate n 0)) v ≤ 2 * sumN (fun k => gi u k) m
  | 0, _ => ⟨by simp, fun v v0 v1 => by
    simp only [List.take_zero, List.foldl_nil, netP, sumN]
    rw [gi_repm n 0 v v0 v1]
    omega⟩
  | m + 1, hm => by
    obtain ⟨i1, i2⟩ := inP hlk hu h0 hB m (by omega)
    rw [zipl_take l u m (by omega) (by omega), List.foldl_append]
    obtain ⟨L, hL⟩ : ∃ L, L = ((l.zip u).take m).foldl moveI (List.replicate n 0) := ⟨_, rfl⟩
    rw [← hL] at i1 i2 ⊢
    obtain ⟨a0, a1, b0, b1⟩ := hlk m (by omega)
    have hu0 := h0 m (by omega)
    have hs := sumN_le_total (g := fun k : Nat => gi u k) (m := l.length) (k := m + 1) h0 (by omega)
    have e : sumN (fun k : Nat => gi u k) (m + 1) = sumN (fun k : Nat => gi u k) m + gi u m := rfl
    have hb := i2 _ b0 b1
    have ha := i2 _ a0 a1
    show (moveI L (gl l m, gi u m)).length = n ∧ ∀ v : Int, 0 ≤ v → v < n → gi (moveI L (gl l m, gi u m)) v = _ ∧ _ ≤ gi (moveI L (gl l m, gi u m)) v ∧ gi (moveI L (gl l m, gi u m)) v ≤ _
    refine ⟨by rw [moveI_length]; exact i1, fun v v0 v1 => ?_⟩
    have e1 : wrap64 (gi L (gl l m).b + gi u m) = gi L (gl l m).b + gi u m := wrap_in (by omega)
    have h1 : ∀ v : Int, 0 ≤ v → gi (si L (gl l m).b (gi L (gl l m).b + gi u m)) v = if v = (gl l m).b then gi L (gl l m).b + gi u m else gi L v := fun v hv => gi_set_eq b0 (by omega) hv
    have h2 : gi (moveI L (gl l m, gi u m)) v = if v = (gl l m).a then gi (si L (gl l m).b (gi L (gl l m).b + gi u m)) (gl l m).a - gi u m else gi (si L (gl l m).b (gi L (gl l m).b + gi u m)) v := by
      have h3 := h1 _ a0
      show gi (si (si L (gl l m).b (wrap64 (gi L (gl l m).b + gi u m))) (gl l m).a (wrap64 (gi (si L (gl l m).b (wrap64 (gi L (gl l m).b + gi u m))) (gl l m).a - gi u m))) v = _
      rw [e1, gi_set_eq a0 (by rw [si_len]; omega) v0, wrap_in]
      split at h3 <;> omega
    have hv := i2 v v0 v1
    have hn : netP l u v (m + 1) = netP l u v m + gi u m * (ind (gl l m).b v - ind (gl l m).a v) := rfl
    rw [h2, h1 _ a0, h1 v v0, hn, e]
    unfold ind
    have s1 : ((gl l m).a = v) = (v = (gl l m).a) := propext ⟨Eq.symm, Eq.symm⟩
    have s2 : ((gl l m).b = v) = (v = (gl l m).b) := propext ⟨Eq.symm, Eq.symm⟩
    simp only [s1, s2]
    by_cases q1 : v = (gl l m).a
    · simp only [if_pos q1]
      by_cases q2 : v = (gl l m).b
      · simp only [if_pos q2, ← q1]
        refine ⟨by grind, by omega, by omega⟩
      · simp only [if_neg q2, ← q1]
        refine ⟨by grind, by omega, by omega⟩
    · simp only [if_neg q1]
      by_cases q2 : v = (gl l m).b
      · simp only [if_pos q2, ← q2]
        refine ⟨by grind, by omega, by omega⟩
      · simp only [if_neg q2]
        refine ⟨by grind, by omega, by omega⟩
/-- The reference's Carries is the program's carries. -/
theorem in_same {n : Nat} {l : List Lk} {w u : List Int} (hlk : ∀ k : Nat, k < l.length → 0 ≤ (gl l k).a ∧ (gl l k).a < n ∧ 0 ≤ (gl l k).b ∧ (gl l k).b < n) (hw : w.length = n) (hwb : ∀ i : Nat, i < n → -100000 ≤ gi w i ∧ gi w i ≤ 100000) (hu : u.length = l.length) (h0 : ∀ k : Nat, k < l.length → 0 ≤ gi u k) (hs : sumN (fun k => gi u k) l.length ≤ 268435456) :
    decide (inOf n l u = w) = carriesB l w u := by
  obtain ⟨h1, h2⟩ := inP hlk hu h0 (by omega) l.length (Nat.le_refl _)
  rw [List.take_of_length_le (by simp; omega)] at h1 h2
  rw [Bool.eq_iff_iff, carries_iff hlk hw hwb hu h0 hs, decide_eq_true_eq]
  constructor
  · intro h v hv
    have h3 := (h2 v (by omega) (by omega)).1
    unfold inOf at h
    rw [h] at h3
    exact h3.symm
  · intro h
    refine List.ext_getElem (by rw [hw]; exact h1) fun i q1 q2 => ?_
    have h3 := (h2 i (by omega) (by omega)).1
    have h4 := h i (by omega)
    have e1 : gi (inOf n l u) i = (inOf n l u)[i] := by simp [gi, List.getD_eq_getElem?_getD, q1]
    have e2 : gi w i = w[i] := by simp [gi, List.getD_eq_getElem?_getD, q2]
    rw [← e1, ← e2, ← h4]
    exact h3
set_option maxRecDepth 100000 in
set_option maxHeartbeats 2000000 in
theorem rcarries_any (n : Nat) (A : Option Addr) (c : Nat) (l : List Lk) (C : Option Addr) (f : Nat) (x : List Int) (B : Option Addr) (d : Nat) (u : List Int) (w : World) (hn : n ≤ 1000000) (hl : l.length ≤ 1000000) (hx : x.length ≤ 1000000) (hu : u.length = l.length)
    (h : LksAt w A l) (h1 : IntsAt w C x) (h2 : IntsAt w B u) (hr : ∀ k ∈ l, InR n k) :
    Calls Try.prog 49 #[.agg #[.int .i64 n, .slice A l.length c], .slice C x.length f, .slice B u.length d] w fun e w' => e = .returned (.bool (decide (inOf n l u = x))) ∧ Below w.heap.size w w' := by
  have hmk := mkInts n hn
  have HA := Lib.hid h
  have HX := Lib.hid h1
  have HU := Lib.hid h2
  have HR := Lib.hid hr
  have HUL := Lib.hid hu
  have HN := Lib.hid hn
  clear h h1 h2 hr
  obtain ⟨W1, hW1⟩ : ∃ W1, W1 = (w.alloc (.cells #[.int .i64 n, .slice A l.length c] 24)).alloc (.cells (madeCells #[.int .i64 0] n) 3) := ⟨_, rfl⟩
  have HB1 := Lib.hid (show Below w.heap.size w W1 by rw [hW1]; exact bel)
  have HQ := Lib.hid (show W1.cell? ⟨w.heap.size, 1, none⟩ = some (.slice A l.length c) by rw [hW1]; exact cell_alloc _ (by go_simp))
  have HG1 := Lib.hid (show RowI W1 (w.heap.size + 1) (List.replicate n 0) by rw [hW1]; have := RowI_made (w.alloc (.cells #[.int .i64 n, .slice A l.length c] 24)) n; simpa using this)
  have HNB := Lib.hid (show some (⟨w.heap.size, 1, none⟩ : Addr).block ≠ some (w.heap.size + 1) by simp)
  have HAA := Lib.hid (HA.out.below HB1.out)
  have HUU := Lib.hid (HU.out.below HB1.out)
  have HNA := Lib.hid (HA.out.apart (g := w.heap.size + 1) (by omega))
  have HNU := Lib.hid (HU.out.apart (g := w.heap.size + 1) (by omega))
  have HW1 := Lib.hid hW1
  clear hW1 hu hn
  go_enter Try.func49, Try.ntmps49
  go_upto_region 3 with fail
  rw [← HW1.out]
  clear HW1 hmk
  go_loopw [8, 9] (fun i _ wr => ∃ k : Nat, k ≤ u.length ∧ i = .int .i64 k ∧ Hid (RowI wr (w.heap.size + 1) (((l.zip u).take k).foldl moveI (List.replicate n 0))) ∧ Hid (W1.grownBy wr (some (w.heap.size + 1)))) (fun i _ _ => u.length - (intOf i).toNat)
  case atStart => exact ⟨0, by omega, rfl, HG1, Lib.hid (grown_refl _ _)⟩
  case round =>
    obtain ⟨k, hk, rfl, HZ, HG⟩ := hrel
    have Hlen := Lib.hid (show (((l.zip u).take k).foldl moveI (List.replicate n 0)).length = n by rw [foldl_moveI_length]; simp)
    generalize hz : ((l.zip u).take k).foldl moveI (List.replicate n 0) = z at HZ Hlen
    have HZE := Lib.hid hz
    clear hz
    have q1 := HG.out.cell HQ.out HNB.out
    have lq := World.block_lt_of_cell? _ _ q1
    have hub : u.length ≤ 1000000 := by have := HUL.out; omega
    by_cases hlt : k < u.length
    · have hlt2 : k < l.length := by have := HUL.out; omega
      obtain ⟨b, o, rfl, g1, g2, g3⟩ := (HAA.out.grown HG.out HNA.out).nat k hlt2
      obtain ⟨b', o', rfl, g4⟩ := (HUU.out.grown HG.out HNU.out).nat k hlt
      have hbl := World.block_lt_of_cell? _ _ g4
      have hbl2 := World.block_lt_of_cell? _ _ g1
      have hnb' : b' ≠ w.heap.size + 1 := fun e => HNU.out _ rfl (by omega) (by simp [e])
      dsimp only at hbl hbl2
      have hzz := HZ.out.lt
      obtain ⟨i1, i2, i3, i4⟩ := HR.out _ (gl_mem (l := l) (i := k) (by omega) (by omega))
      have Hf := Lib.hid (show ((l.zip u).take (k + 1)).foldl moveI (List.replicate n 0) = moveI z (gl l k, gi u k) by rw [zipl_take l u k hlt2 hlt, List.foldl_append, HZE.out]; rfl)
      generalize hq : gl l k = q at *
      generalize hy : gi u k = y at *
      have HQ2 := Lib.hid hq
      have HY := Lib.hid hy
      clear hq hy
      obtain ⟨w2, hw2⟩ : ∃ w2, w2 = wr.alloc (.cells #[.int .i64 q.a, .int .i64 q.b, .int .i64 q.m] 39) := ⟨_, rfl⟩
      have d0 : w2.cell? ⟨wr.heap.size, 0, none⟩ = some (.int .i64 q.a) := by rw [hw2]; go_simp
      have d1 : w2.cell? ⟨wr.heap.size, 1, none⟩ = some (.int .i64 q.b) := by rw [hw2]; go_simp
      have d3 : w2.cell? ⟨b', o' + k, none⟩ = some (.int .i64 y) := by rw [hw2]; exact cell_alloc _ g4
      have R2 := Lib.hid (show RowI w2 (w.heap.size + 1) z by rw [hw2]; exact HZ.out.alloc _)
      have G2 := Lib.hid (show W1.grownBy w2 (some (w.heap.size + 1)) by rw [hw2]; exact grown_alloc HG.out _)
      have c2 := R2.out.cell q.b.toNat (by have := Hlen.out; omega)
      have f2 := R2.out.frozen q.b.toNat
      have l2 := R2.out.lt
      rw [tn _ i3] at c2
      go_upto_region 6 with fail
      rw [← hw2]
      have hgs : wr.heap.size ≠ w.heap.size + 1 := by omega
      have hbl3 := World.block_lt_of_cell? _ _ d3
      have hbl4 := World.block_lt_of_cell? _ _ d0
      clear hw2 g1 g2 g3 g4 q1 lq hbl hbl2
      go_still_tail 14, (by kernel_rfl)
      go_wp2
      obtain ⟨w3, hw3⟩ : ∃ w3, w3 = (w2.setCell ⟨w.heap.size + 1, q.b.toNat, none⟩ (.int .i64 (wrap64 (gi z q.b + y)))).drew := ⟨_, rfl⟩
      rw [← hw3]
      have e0 : w3.cell? ⟨wr.heap.size, 0, none⟩ = some (.int .i64 q.a) := by rw [hw3]; exact cell_otherd d0 (by simp only; omega)
      have e3 : w3.cell? ⟨b', o' + k, none⟩ = some (.int .i64 y) := by rw [hw3]; exact cell_otherd d3 (by simp only; omega)
      have R3 := Lib.hid (show RowI w3 (w.heap.size + 1) (si z q.b (wrap64 (gi z q.b + y))) by rw [hw3]; exact R2.out.set _ _)
      have G3 := Lib.hid (show W1.grownBy w3 (some (w.heap.size + 1)) by rw [hw3]; exact grown_drew (grown_set G2.out _ _ (.inl rfl)))
      generalize hzz' : si z q.b (wrap64 (gi z q.b + y)) = z' at R3
      have HZ' := Lib.hid hzz'
      clear hzz' hw3
      have c3 := R3.out.cell q.a.toNat (by rw [← HZ'.out]; have := Hlen.out; simp [si]; omega)
      have f3 := R3.out.frozen q.a.toNat
      have l3 := R3.out.lt
      have hbl5 := World.block_lt_of_cell? _ _ e3
      have hbl6 := World.block_lt_of_cell? _ _ e0
      rw [tn _ i1] at c3
      clear c2 f2 d0 d1 d3 hbl3 hbl4 l2
      go_still_tail 14, (by kernel_rfl)
      go_wp2
      go_roundw
      case rel => exact ⟨k + 1, by omega, by go_num, Lib.hid (by rw [Hf.out]; unfold moveI; rw [HZ'.out]; exact R3.out.set _ _), Lib.hid (grown_drew (grown_set G3.out _ _ (.inl rfl)))⟩
      case measure => simp [intOf]; omega
    · obtain rfl : k = u.length := by omega
      have HZZ := Lib.hid (show inOf n l u = z by rw [← HZE.out, List.take_of_length_le (by simp; omega)]; rfl)
      have hcall := same_any (some ⟨w.heap.size + 1, 0, none⟩) n z C f x wr (by have := Hlen.out; have := HN.out; omega) HZ.out.ints ((HX.out.below HB1.out).grown HG.out (HX.out.apart (g := w.heap.size + 1) (by omega)))
      rw [Hlen.out] at hcall
      have HC := Lib.hid hcall
      clear hcall
      go_wp2_with (go_at_call 23; refine HC.out.mono ?_; rintro e w2 ⟨rfl, hb⟩)
      go_ret
      exact ⟨by rw [HZZ.out]; rfl, (below_of_grown HB1.out HG.out HB1.out.size (by omega)).trans (hb.mono (below_of_grown HB1.out HG.out HB1.out.size (by omega)).size)⟩

theorem turned_gi {p : List Int} {i : Nat} (hi : i < p.length) : gi (turnedL p) i = wrap64 (-(gi p i)) := by
  have h3 := gi_get hi
  simp only [turnedL, gi_nat, List.getD_eq_getElem?_getD, List.getElem?_map]
  rw [h3]
  simp [gi_nat, List.getD_eq_getElem?_getD]
theorem asked_turned {n : Int} {l : List Lk} {p : List Int} (hw : ∀ v ∈ p, -9223372036854775808 ≤ v ∧ v ≤ 9223372036854775807) : askedI n l (turnedL p) = askedI n l p := by
  by_cases hc : checkL n l = 0
  · have hn1 := (check_ok hc).n1
    obtain ⟨N, rfl⟩ : ∃ N : Nat, n = N := ⟨n.toNat, by omega⟩
    have hn2 := (check_ok hc).n2
    have key : ∀ q r : List Int, r.length = q.length → (∀ i : Nat, i < q.length → -100000 ≤ gi q i ∧ gi q i ≤ 100000 → gi r i = -(gi q i)) → weightsB N q = true → weightsB N r = true := by
      intro q r hl hr hq
      obtain ⟨hok, h1, h2, h3⟩ := asked_facts (asked_of hc hq)
      refine weights_of (by omega) (by omega) (fun i hi => ?_) ?_
      · have := h2 i hi
        rw [hr i (by omega) this]; omega
      · rw [sumN_congr (h := fun i : Nat => (-1) * gi q i) N (fun i hi => by rw [hr i (by omega) (h2 i hi)]; omega), sumN_mul, h3, Int.mul_zero]
    have hb : weightsB N (turnedL p) = weightsB N p := by
      rw [Bool.eq_iff_iff]
      constructor
      · refine key _ _ (by rw [turned_length]) fun i hi hb => ?_
        rw [turned_length] at hi
        rw [turned_gi hi] at hb ⊢
        have h1 := hw (gi p i) (gi_mem (by omega) (by omega))
        by_cases e : gi p i = -9223372036854775808
        · rw [e] at hb
          exact absurd hb (by decide +kernel)
        · rw [wrap_in (by omega)]; omega
      · refine key _ _ (by rw [turned_length]) fun i hi hb => ?_
        rw [turned_gi hi, wrap_in (by omega)]
    unfold askedI
    rw [hb]
  · unfold askedI
    rw [if_pos hc, if_pos hc]
theorem asked_not5 {n : Int} {l : List Lk} {p : List Int} : askedI n l p ≠ 5 := by
  unfold askedI checkL
  repeat' split
  all_goals decide
/-- What FlowSums compares. -/
structure SumsOk (n : Int) (l : List Lk) (p x : List Int) (N : Nat) (r s : Int × Int) : Prop where
  nn : n = N
  n0 : 0 < N
  n1 : N ≤ 1000000
  pl : p.length = N
  inr : ∀ k ∈ l, InR N k
  rm : rmostP 2000000 N l p = some r
  pm : MostP 2000000 n l p = some r
  rl : rmostP 2000000 N l (turnedL p) = some s
  pl2 : LeastP 2000000 n l p = some (wrap64 (-s.1), s.2)
  e3 : r.2 = 0 ∨ r.2 = 5 ∨ r.2 = 9
theorem sums_ok {n : Int} {l : List Lk} {p : List Int} (x : List Int) (hw : ∀ v ∈ p, -9223372036854775808 ≤ v ∧ v ≤ 9223372036854775807) (ha : askedI n l p = 0) (hs : smallB n l.length = true) : ∃ N r s, SumsOk n l p x N r s := by
  have hok0 := check_ok (asked_ok ha).1
  have hn1 := hok0.n1
  have hn2 := hok0.n2
  obtain ⟨N, rfl⟩ : ∃ N : Nat, n = N := ⟨n.toNat, by omega⟩
  have hsm := small_ok hok0 hs
  obtain ⟨hok, hpl, hpb, hps⟩ := asked_facts ha
  have ht : askedI N l (turnedL p) = 0 := by rw [asked_turned hw]; exact ha
  obtain ⟨r, r1, r2⟩ := rmost_same ha (by omega) (by omega)
  obtain ⟨s, s1, s2⟩ := rmost_same ht (by omega) (by omega)
  refine ⟨N, r, s, rfl, by omega, by omega, hpl, fun k hk => (hok.lk k hk).1, r1, r2, s1, by unfold LeastP; rw [s2]; rfl, ?_⟩
  unfold rmostP at r1
  split at r1
  · cases r1; exact .inr (.inr rfl)
  · obtain ⟨q, _, rfl⟩ := Option.map_eq_some_iff.1 r1
    cases q with
    | none => exact .inr (.inl rfl)
    | some u => exact .inl rfl
theorem sums_bad {n : Int} {l : List Lk} {p : List Int} (x : List Int) (hw : ∀ v ∈ p, -9223372036854775808 ≤ v ∧ v ≤ 9223372036854775807) {a : Int} (ha : askedI n l p = a) (h0 : a ≠ 0) : valueR n l p x = (0, a) ∧ MostP 2000000 n l p = some (0, a) ∧ LeastP 2000000 n l p = some (0, a) ∧ fixedR (0, a) (0, a) = (false, a) := by
  have h5 : a ≠ 5 := by rw [← ha]; exact asked_not5
  refine ⟨by unfold valueR; rw [if_pos (by rw [ha]; exact h0), ha], by unfold MostP; rw [if_neg (by rw [ha]; exact h0), ha], ?_, by unfold fixedR; rw [if_pos ⟨h0, h5⟩]⟩
  unfold LeastP MostP
  rw [asked_turned hw, if_neg (by rw [ha]; exact h0), ha]
  show some (wrap64 (-0), a) = some (0, a)
  rw [show wrap64 (-0) = 0 by decide +kernel]
end Go.Proofs.Ytmhiiomejopaoaa
