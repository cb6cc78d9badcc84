/- The plain law of FlowDuality. -/
import Derived.Test.YtmhiiomejopaoaaW7
import Derived.Test.YtmhiiomejopaoaaX2
namespace Go.Proofs.Ytmhiiomejopaoaa
set_option linter.all false
open Go.RowKit
set_option maxRecDepth 100000

theorem backs_at {l : List Lk} {u : List Int} (hu : u.length = l.length) {k : Lk} : k ∈ backs l u ↔ ∃ j : Nat, j < l.length ∧ 0 < gi u j ∧ k = ⟨(gl l j).b, (gl l j).a, wrap64 (-(gl l j).m)⟩ := by
  unfold backs
  rw [List.mem_filterMap]
  constructor
  · rintro ⟨p, hp, h2⟩
    obtain ⟨j, hj, e⟩ := List.mem_iff_getElem.1 hp
    have hj0 := hj
    rw [List.length_zip] at hj0
    have hj1 : j < l.length := by omega
    have hj2 : j < u.length := by omega
    have e1 : p.1 = gl l j := by rw [← e]; simp [gl, List.getD_eq_getElem?_getD, hj1]
    have e2 : p.2 = gi u j := by rw [← e]; simp [gi, List.getD_eq_getElem?_getD, hj2]
    rw [e1, e2] at h2
    split at h2
    · exact ⟨j, by omega, by assumption, (Option.some.inj h2).symm⟩
    · cases h2
  · rintro ⟨j, hj, h0, rfl⟩
    refine ⟨(gl l j, gi u j), List.mem_iff_getElem.2 ⟨j, by simp; omega, ?_⟩, by simp [h0]⟩
    have h3 := gl_get hj
    have h4 := gi_get (l := u) (j := j) (by omega)
    rw [List.getElem?_eq_some_iff] at h3 h4
    obtain ⟨q1, e1⟩ := h3
    obtain ⟨q2, e2⟩ := h4
    simp [e1, e2]
theorem redN_gi (s : Int) (x : List Int) : ∀ (k : Nat), k ≤ x.length → ∀ j : Nat, j < k → gi (redN s k x) j = wrap64 (gi x j - s)
  | 0, _, j, h => absurd h (by omega)
  | k + 1, hk, j, h => by
    have e : redN s (k + 1) x = si (redN s k x) k (wrap64 (gi x k - s)) := by simp [redN, si]
    rw [e, gi_si (by omega) (by rw [redN_length]; omega)]
    by_cases hj : j = k
    · subst hj; rw [if_pos rfl]
    · rw [if_neg (by omega), redN_gi s x k (by omega) j (by omega)]
/-- What Reach returns, of a flow that is best. -/
structure OwnOk (n : Nat) (l : List Lk) (u y : List Int) : Prop where
  len : y.length = n
  val : ∀ v : Int, 0 ≤ v → v < n → -206158430208 ≤ gi y v ∧ gi y v ≤ 206158430208
  fit : ∀ k : Nat, k < l.length → gi y (gl l k).b ≤ gi y (gl l k).a + (gl l k).m
  tight : ∀ k : Nat, k < l.length → 0 < gi u k → gi y (gl l k).b = gi y (gl l k).a + (gl l k).m
  first : gi y 0 = 0
theorem rigid_ok {n : Nat} {l : List Lk} {u : List Int} (hok : NetOk n l) (hl : l.length ≤ 100) : NetOk n (rigidL l u) := by
  refine ⟨hok.n1, hok.n2, ?_, fun k hk => ?_⟩
  · unfold rigidL
    rw [List.length_append]
    have := backs_len l u
    omega
  · rcases List.mem_append.1 hk with hk | hk
    · exact hok.lk k hk
    · obtain ⟨q, hq, rfl⟩ := backs_mem hk
      obtain ⟨⟨a0, a1, b0, b1⟩, h2, m1, m2⟩ := hok.lk q hq
      refine ⟨⟨b0, b1, a0, a1⟩, fun e => h2 e.symm, ?_⟩
      show -17179869184 ≤ wrap64 (-q.m) ∧ wrap64 (-q.m) ≤ 17179869184
      rw [wrap_in (by omega)]; omega
theorem own_ok {n : Nat} {l : List Lk} {w u x0 : List Int} (hok : NetOk n l) (hl : l.length ≤ 100) (hn : n ≤ 12) (hb : Best n l w u x0) : (solutionL n (rigidL l u)).2 = true ∧ OwnOk n l u (reachL n l u) := by
  have hrk := rigid_ok (u := u) hok hl
  have hS := netOk_lk hok hn
  have hn1 := hok.n1
  have hsol : (solutionL n (rigidL l u)).2 = true := by
    refine sol_any hrk (x := fun v => gi x0 v) fun k hk => ?_
    rcases List.mem_append.1 hk with hk | hk
    · obtain ⟨j, hj, e⟩ := List.mem_iff_getElem.1 hk
      have h1 := hb.s0 j hj
      have e2 : gl l j = k := by rw [← e]; simp [gl, List.getD_eq_getElem?_getD, hj]
      rw [e2] at h1
      unfold sl at h1
      show gi x0 k.b ≤ gi x0 k.a + k.m
      omega
    · obtain ⟨j, hj, h0, rfl⟩ := (backs_at hb.lu).1 hk
      have h1 := hb.tight j hj h0
      have h2 := hS.lk j hj
      unfold sl at h1
      show gi x0 (gl l j).a ≤ gi x0 (gl l j).b + wrap64 (-(gl l j).m)
      rw [wrap_in (by omega)]; omega
  refine ⟨hsol, ?_⟩
  have hpot := solution_pot hrk hsol
  have hlow := solution_low hrk hsol
  have hlen := solutionL_length n (rigidL l u)
  have hfit := hpot.fit
  have hhi := hpot.hi
  unfold reachL
  generalize (solutionL n (rigidL l u)).1 = y at *
  change ∀ k ∈ rigidL l u, gi y k.b ≤ gi y k.a + k.m at hfit
  change ∀ v, gi y v ≤ 0 at hhi
  have hval : ∀ v : Int, 0 ≤ v → v < n → gi (redL y) v = gi y v - gi y 0 := by
    intro v v0 v1
    have h1 := redN_gi (gi y 0) y y.length (Nat.le_refl _) v.toNat (by omega)
    rw [show ((v.toNat : Nat) : Int) = v by omega] at h1
    unfold redL
    rw [h1]
    have h2 := hlow v v0 v1
    have h3 := hlow 0 (by omega) (by omega)
    have h4 := hhi v
    have h5 := hhi 0
    exact wrap_in (by omega)
  have hfit2 : ∀ k : Nat, k < l.length → gi y (gl l k).b ≤ gi y (gl l k).a + (gl l k).m := fun k hk => hfit _ (List.mem_append.2 (.inl (gl_mem (by omega) (by omega))))
  refine ⟨by unfold redL; rw [redN_length]; exact hlen, fun v v0 v1 => ?_, fun k hk => ?_, fun k hk h0 => ?_, ?_⟩
  · rw [hval v v0 v1]
    have h2 := hlow v v0 v1
    have h3 := hlow 0 (by omega) (by omega)
    have h4 := hhi v
    have h5 := hhi 0
    omega
  · obtain ⟨a0, a1, b0, b1, _⟩ := hS.lk k hk
    rw [hval _ a0 a1, hval _ b0 b1]
    have := hfit2 k hk
    omega
  · obtain ⟨a0, a1, b0, b1, m1, m2⟩ := hS.lk k hk
    rw [hval _ a0 a1, hval _ b0 b1]
    have h1 := hfit2 k hk
    have h2 := hfit _ (List.mem_append.2 (.inr ((backs_at hb.lu).2 ⟨k, hk, h0, rfl⟩)))
    change gi y (gl l k).a ≤ gi y (gl l k).b + wrap64 (-(gl l k).m) at h2
    rw [wrap_in (by omega)] at h2
    omega
  · rw [hval 0 (by omega) (by omega)]; omega
def solvedB (n : Int) (l : List Lk) (w x : List Int) : Bool := (fitsR n l x).2 == 0 && ((valueR n l w x).2 == 0 && (fitsR n l x).1)
structure DualOk (n : Int) (l : List Lk) (w u x u0 : List Int) : Prop where
  len : u0.length = l.length
  sol : (solutionL n.toNat (rigidL l u0)).2 = true
  own : (reachL n.toNat l u0).length = n.toNat
  both : bothR n l w u0 (reachL n.toNat l u0) = (true, 0)
  vm : solvedB n l w x = true → (valueR n l w x).1 ≤ costI l u0
  cm : (flowR n l w u).2 = 0 → costI l u0 ≤ (flowR n l w u).1
  eq : bothR n l w u x = (true, 0) → (valueR n l w x).1 = costI l u0 ∧ (flowR n l w u).1 = costI l u0
def DualLaw (n : Int) (l : List Lk) (w u x : List Int) : Prop :=
  (solvedB n l w x = true → (flowR n l w u).2 = 0 → (valueR n l w x).1 ≤ (flowR n l w u).1) ∧
  ∃ r, proveP 2000000 n l w = some r ∧ MostP 2000000 n l w = some (mostV l r) ∧ ((r = ([], 9) ∧ solvedB n l w x = false) ∨ (r = ([], 5) ∧ (flowR n l w u).2 ≠ 0) ∨ ∃ u0, r = (u0, 0) ∧ DualOk n l w u x u0)
theorem small_ok {n : Int} {l : List Lk} (hok : NetOk n l) (h : smallB n l.length = true) : n ≤ 12 ∧ l.length ≤ 36 := by
  have h1 := hok.l1
  simp only [smallB, Bool.or_eq_true, Bool.and_eq_true, decide_eq_true_eq] at h
  omega
theorem are_at {n : Nat} {x : List Int} (h : areB n x = true) : x.length = n ∧ ∀ v : Int, 0 ≤ v → v < n → -1099511627776 ≤ gi x v ∧ gi x v ≤ 1099511627776 := by
  obtain ⟨h1, h2⟩ := areB_iff.1 h
  exact ⟨by omega, fun v v0 v1 => h2 _ (gi_mem v0 (by omega))⟩
theorem at_are {n : Nat} {x : List Int} (h1 : x.length = n) (h2 : ∀ v : Int, 0 ≤ v → v < n → -1099511627776 ≤ gi x v ∧ gi x v ≤ 1099511627776) : areB n x = true := by
  refine areB_iff.2 ⟨by omega, fun v hv => ?_⟩
  obtain ⟨i, hi, e⟩ := List.mem_iff_getElem.1 hv
  have e2 : gi x i = v := by simp [gi, List.getD_eq_getElem?_getD, hi, e]
  rw [← e2]
  exact h2 i (by omega) (by omega)
/-- Values that fit, as whole numbers. -/
theorem fits_at {n : Nat} {l : List Lk} {x : List Int} (hS : NetS n l) (hv : ∀ v : Int, 0 ≤ v → v < n → -1099511627776 ≤ gi x v ∧ gi x v ≤ 1099511627776) : fitsB x l = true ↔ ∀ k : Nat, k < l.length → gi x (gl l k).b ≤ gi x (gl l k).a + (gl l k).m := by
  rw [fitsB_iff]
  constructor
  · intro h k hk
    obtain ⟨a0, a1, b0, b1, m1, m2⟩ := hS.lk k hk
    have h1 := h (gl l k) (gl_mem (by omega) (by omega))
    have h2 := hv _ a0 a1
    rw [wrap_in (by omega)] at h1
    exact h1
  · intro h q hq
    obtain ⟨k, hk, e⟩ := List.mem_iff_getElem.1 hq
    have e2 : gl l k = q := by rw [← e]; simp [gl, List.getD_eq_getElem?_getD, hk]
    obtain ⟨a0, a1, b0, b1, m1, m2⟩ := hS.lk k hk
    have h1 := h k hk
    rw [e2] at h1 a0 a1 b0 b1 m1 m2
    have h2 := hv _ a0 a1
    rw [wrap_in (by omega)]
    exact h1
theorem value_sum {n : Nat} {w x : List Int} (hn : n ≤ 12) (hw : w.length = n) (hwb : ∀ i : Nat, i < n → -100000 ≤ gi w i ∧ gi w i ≤ 100000) (hx : x.length = n) (hv : ∀ v : Int, 0 ≤ v → v < n → -1099511627776 ≤ gi x v ∧ gi x v ≤ 1099511627776) : valueI w x = sumN (fun v : Nat => gi w v * gi x v) n := by
  rw [valueI_eq (b := fun _ => 100000 * 1099511627776) (by omega) (fun i hi => mul_abs (hwb i (by omega)) (hv i (by omega) (by omega))) (by rw [sumN_const]; omega), hw]
theorem asked_facts {n : Nat} {l : List Lk} {w : List Int} (ha : askedI n l w = 0) : NetOk n l ∧ w.length = n ∧ (∀ i : Nat, i < n → -100000 ≤ gi w i ∧ gi w i ≤ 100000) ∧ sumN (fun v => gi w v) n = 0 := by
  have hok := check_ok (asked_ok ha).1
  have := weights_facts (by have := hok.n2; omega) (asked_ok ha).2
  exact ⟨hok, this⟩
/-- What best returns, of a net that is asked. -/
theorem best_facts {n : Nat} {l : List Lk} {w : List Int} (ha : askedI n l w = 0) (hn : n ≤ 12) : ∃ r, bestP 2000000 n l w = some r ∧
    ((r = ([], 9) ∧ (solutionL n l).2 = false) ∨ (r = ([], 5) ∧ (solutionL n l).2 = true ∧ Cut n l w) ∨ ∃ u x, r = (u, 0) ∧ (solutionL n l).2 = true ∧ Best n l w u x) := by
  obtain ⟨hok, hw, hwb, hsum⟩ := asked_facts ha
  unfold bestP
  by_cases hs : (solutionL n l).2 = true
  · rw [if_pos hs]
    obtain ⟨r, h1, h2⟩ := best_ok hok hn hw hwb hsum hs 2000000 (Nat.le_refl _)
    rw [h1]
    rcases h2 with ⟨x, u, f, rfl, hb⟩ | ⟨rfl, hc⟩
    · exact ⟨_, rfl, .inr (.inr ⟨u, x, rfl, hs, hb⟩)⟩
    · exact ⟨_, rfl, .inr (.inl ⟨rfl, hs, hc⟩)⟩
  · rw [if_neg hs]
    exact ⟨_, rfl, .inl ⟨rfl, by simpa using hs⟩⟩
structure FlowAt (n : Nat) (l : List Lk) (w u : List Int) : Prop where
  len : u.length = l.length
  u0 : ∀ k : Nat, k < l.length → 0 ≤ gi u k
  cost : costI l u = sumN (fun k => gi u k * (gl l k).m) l.length
  cons : ∀ v : Nat, v < n → net l u v = gi w v
theorem flow_at {n : Nat} {l : List Lk} {w u : List Int} (hS : NetS n l) (hw : w.length = n) (hwb : ∀ i : Nat, i < n → -100000 ≤ gi w i ∧ gi w i ≤ 100000) (h1 : isFlowI l u = 0) (h2 : carriesB l w u = true) : FlowAt n l w u := by
  obtain ⟨f1, f2, f3⟩ := (isFlow_facts hS.l1).1 h1
  have hlk : ∀ k : Nat, k < l.length → 0 ≤ (gl l k).a ∧ (gl l k).a < n ∧ 0 ≤ (gl l k).b ∧ (gl l k).b < n := fun k hk => by have := hS.lk k hk; omega
  exact ⟨f1, fun k hk => (f2 k hk).1, costI_eq f1 (fun k hk => by have := hS.lk k hk; omega) (fun k hk => (f2 k hk).1) (by omega), (carries_iff hlk hw hwb f1 (fun k hk => (f2 k hk).1) (by omega)).1 h2⟩
theorem best_flow {n : Nat} {l : List Lk} {w u x : List Int} (hS : NetS n l) (hl : l.length ≤ 60) (hw : w.length = n) (hwb : ∀ i : Nat, i < n → -100000 ≤ gi w i ∧ gi w i ≤ 100000) (hb : Best n l w u x) : isFlowI l u = 0 ∧ carriesB l w u = true := by
  have hlk : ∀ k : Nat, k < l.length → 0 ≤ (gl l k).a ∧ (gl l k).a < n ∧ 0 ≤ (gl l k).b ∧ (gl l k).b < n := fun k hk => by have := hS.lk k hk; omega
  have hsum : sumN (fun k : Nat => gi u k) l.length ≤ 120000000 := by
    have h1 := sumN_le (g := fun k : Nat => gi u k) (h := fun _ => 2000000) l.length (fun i _ => hb.ub i)
    rw [sumN_const] at h1
    omega
  exact ⟨(isFlow_facts hS.l1).2 ⟨hb.lu, fun k _ => ⟨hb.u0 k, by have := hb.ub k; omega⟩, by omega⟩, (carries_iff hlk hw hwb hb.lu (fun k _ => hb.u0 k) (by omega)).2 hb.cons⟩
theorem dual_law (n : Int) (l : List Lk) (w u x : List Int) (ha : askedI n l w = 0) (hsm : smallB n l.length = true) : DualLaw n l w u x := by
  have hn1 := (check_ok (asked_ok ha).1).n1
  obtain ⟨N, rfl⟩ : ∃ N : Nat, n = N := ⟨n.toNat, by omega⟩
  obtain ⟨hok, hw, hwb, hsum⟩ := asked_facts ha
  obtain ⟨hn, hl⟩ := small_ok hok hsm
  have hn : N ≤ 12 := by omega
  have hS := netOk_lk hok hn
  have hlk : ∀ k : Nat, k < l.length → 0 ≤ (gl l k).a ∧ (gl l k).a < N ∧ 0 ≤ (gl l k).b ∧ (gl l k).b < N := fun k hk => by have := hS.lk k hk; omega
  have hck : checkL N l = 0 := (asked_ok ha).1
  have hfR : fitsR N l x = if areB N x = false then (false, 1) else (fitsB x l, 0) := by unfold fitsR; rw [if_neg (by simpa using hck)]
  have hvR : valueR N l w x = if areB N x = false then (0, 1) else (valueI w x, 0) := by unfold valueR; rw [if_neg (by simpa using ha)]
  have hlR : flowR N l w u = if isFlowI l u ≠ 0 then (0, isFlowI l u) else if carriesB l w u = false then (0, 8) else (costI l u, 0) := by unfold flowR; rw [if_neg (by simpa using ha)]
  -- values that solve
  have hso : solvedB N l w x = true → x.length = N ∧ (∀ v : Int, 0 ≤ v → v < N → -1099511627776 ≤ gi x v ∧ gi x v ≤ 1099511627776) ∧ (∀ k : Nat, k < l.length → gi x (gl l k).b ≤ gi x (gl l k).a + (gl l k).m) ∧ (valueR N l w x).1 = sumN (fun v : Nat => gi w v * gi x v) N := by
    intro h
    unfold solvedB at h
    rw [hfR, hvR] at h
    cases hq : areB N x with
    | false => rw [hq] at h; simp at h
    | true =>
      rw [hq] at h
      have h3 : fitsB x l = true := by simpa using h
      obtain ⟨h1, h2⟩ := are_at hq
      refine ⟨h1, h2, (fits_at hS h2).1 h3, ?_⟩
      rw [hvR, hq, ← value_sum hn hw hwb h1 h2]
      rfl
  -- units that carry
  have hfl : (flowR N l w u).2 = 0 → FlowAt N l w u ∧ (flowR N l w u).1 = costI l u := by
    intro h
    rw [hlR] at h ⊢
    by_cases h1 : isFlowI l u = 0
    · rw [if_neg (by simpa using h1)] at h ⊢
      cases h2 : carriesB l w u with
      | false => rw [h2] at h; simp at h
      | true => exact ⟨flow_at hS hw hwb h1 h2, by simp⟩
    · rw [if_pos h1] at h
      exact absurd h h1
  refine ⟨fun h1 h2 => ?_, ?_⟩
  · obtain ⟨_, _, a3, a4⟩ := hso h1
    obtain ⟨b1, b2⟩ := hfl h2
    rw [a4, b2, b1.cost]
    exact weak hlk (x := fun v => gi x v) a3 b1.u0 b1.cons
  · obtain ⟨r, hr, hc⟩ := best_facts ha hn
    have hp : proveP 2000000 N l w = some r := by unfold proveP; rw [if_pos ha, Int.toNat_natCast]; exact hr
    have hm : MostP 2000000 N l w = some (mostV l r) := by unfold MostP; rw [if_pos ha, Int.toNat_natCast, hr]; rfl
    refine ⟨r, hp, hm, ?_⟩
    rcases hc with ⟨rfl, hs⟩ | ⟨rfl, hs, hcut⟩ | ⟨u0, x0, rfl, hs, hb⟩
    · left
      refine ⟨rfl, ?_⟩
      cases hq : solvedB N l w x with
      | false => rfl
      | true =>
        obtain ⟨_, _, a3, _⟩ := hso hq
        have := sol_any hok (x := fun v => gi x v) fun k hk => by
          obtain ⟨j, hj, e⟩ := List.mem_iff_getElem.1 hk
          have e2 : gl l j = k := by rw [← e]; simp [gl, List.getD_eq_getElem?_getD, hj]
          have := a3 j hj
          rw [e2] at this
          exact this
        rw [hs] at this
        cases this
    · right; left
      refine ⟨rfl, fun h => ?_⟩
      obtain ⟨b1, b2⟩ := hfl h
      exact cut_none hlk hcut b1.u0 b1.cons
    · right; right
      refine ⟨u0, rfl, ?_⟩
      obtain ⟨f1, f2⟩ := best_flow hS (by omega) hw hwb hb
      have hF := flow_at hS hw hwb f1 f2
      obtain ⟨hsol, hown⟩ := own_ok hok (by omega) hn hb
      have hown40 : ∀ v : Int, 0 ≤ v → v < N → -1099511627776 ≤ gi (reachL N l u0) v ∧ gi (reachL N l u0) v ≤ 1099511627776 := fun v v0 v1 => by have := hown.val v v0 v1; omega
      have hst : sumN (fun v : Nat => gi w v * gi (reachL N l u0) v) N = costI l u0 := by
        rw [hF.cost]
        exact strong hlk (x := fun v => gi (reachL N l u0) v) (fun k hk h => hown.tight k hk (by have := hF.u0 k hk; omega)) hF.cons
      have hvm : solvedB N l w x = true → (valueR N l w x).1 ≤ costI l u0 := by
        intro h
        obtain ⟨_, _, a3, a4⟩ := hso h
        rw [a4, hF.cost]
        exact weak hlk (x := fun v => gi x v) a3 hF.u0 hF.cons
      have hcm : (flowR N l w u).2 = 0 → costI l u0 ≤ (flowR N l w u).1 := by
        intro h
        obtain ⟨b1, b2⟩ := hfl h
        rw [b2, b1.cost, ← hst]
        exact weak hlk (x := fun v => gi (reachL N l u0) v) hown.fit b1.u0 b1.cons
      refine ⟨hF.len, by rw [Int.toNat_natCast]; exact hsol, by rw [Int.toNat_natCast]; exact hown.len, ?_, hvm, hcm, fun h => ?_⟩
      · rw [Int.toNat_natCast]
        unfold bothR
        rw [if_neg (by simpa using ha), if_neg (by rw [at_are hown.len hown40, f1]; simp), if_neg (by simpa using f1)]
        rw [f2, (fits_at hS hown40).2 hown.fit, value_sum hn hw hwb hown.len hown40, hst]
        simp
      · unfold bothR at h
        rw [if_neg (by simpa using ha)] at h
        by_cases h1 : isFlowI l u = 1 ∨ areB N x = false
        · rw [if_pos h1] at h; cases h
        · rw [if_neg h1] at h
          have har : areB N x = true := by
            cases hq : areB N x with
            | true => rfl
            | false => exact absurd (.inr hq) h1
          by_cases h2 : isFlowI l u = 0
          · rw [if_neg (by simpa using h2)] at h
            have h3 : (carriesB l w u && (fitsB x l && (costI l u == valueI w x))) = true := congrArg Prod.fst h
            simp only [Bool.and_eq_true, beq_iff_eq] at h3
            obtain ⟨c1, c2, c3⟩ := h3
            have g0 : flowR N l w u = (costI l u, 0) := by rw [hlR, if_neg (by simpa using h2), c1]; rfl
            have v0 : valueR N l w x = (valueI w x, 0) := by rw [hvR, har]; rfl
            have s0 : solvedB N l w x = true := by unfold solvedB; rw [v0, hfR, har, c2]; rfl
            have q1 := hvm s0
            have q2 := hcm (by rw [g0])
            rw [v0] at q1 ⊢
            rw [g0] at q2 ⊢
            simp only at q1 q2 ⊢
            omega
          · rw [if_pos h2] at h
            have : (isFlowI l u) = 0 := congrArg Prod.snd h
            exact absurd this h2
end Go.Proofs.Ytmhiiomejopaoaa
