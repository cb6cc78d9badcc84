/- The plain laws of FlowDuality and FlowWeights. -/
import Derived.Test.YtmhiiomejopaoaaW7
import Derived.Test.YtmhiiomejopaoaaX2
namespace Go.Proofs.Ytmhiiomejopaoaa
set_option linter.all false
open Go.RowKit
set_option maxRecDepth 100000

theorem backs_at {l : List Lk} {u : List Int} (hu : u.length = l.length) {k : Lk} : k ∈ backs l u ↔ ∃ j : Nat, j < l.length ∧ 0 < gi u j ∧ k = ⟨(gl l j).b, (gl l j).a, wrap64 (-(gl l j).m)⟩ := by
  unfold backs
  rw [List.mem_filterMap]
  constructor
  · rintro ⟨p, hp, h2⟩
    obtain ⟨j, hj, e⟩ := List.mem_iff_getElem.1 hp
    have hj0 := hj
    rw [List.length_zip] at hj0
    have hj1 : j < l.length := by omega
    have hj2 : j < u.length := by omega
    have e1 : p.1 = gl l j := by rw [← e]; simp [gl, List.getD_eq_getElem?_getD, hj1]
    have e2 : p.2 = gi u j := by rw [← e]; simp [gi, List.getD_eq_getElem?_getD, hj2]
    rw [e1, e2] at h2
    split at h2
    · exact ⟨j, by omega, by assumption, (Option.some.inj h2).symm⟩
    · cases h2
  · rintro ⟨j, hj, h0, rfl⟩
    refine ⟨(gl l j, gi u j), List.mem_iff_getElem.2 ⟨j, by simp; omega, ?_⟩, by simp [h0]⟩
    have h3 := gl_get hj
    have h4 := gi_get (l := u) (j := j) (by omega)
    rw [List.getElem?_eq_some_iff] at h3 h4
    obtain ⟨q1, e1⟩ := h3
    obtain ⟨q2, e2⟩ := h4
    simp [e1, e2]
theorem redN_gi (s : Int) (x : List Int) : ∀ (k : Nat), k ≤ x.length → ∀ j : Nat, j < k → gi (redN s k x) j = wrap64 (gi x j - s)
  | 0, _, j, h => absurd h (by omega)
  | k + 1, hk, j, h => by
    have e : redN s (k + 1) x = si (redN s k x) k (wrap64 (gi x k - s)) := by simp [redN, si]
    rw [e, gi_si (by omega) (by rw [redN_length]; omega)]
    by_cases hj : j = k
    · subst hj; rw [if_pos rfl]
    · rw [if_neg (by omega), redN_gi s x k (by omega) j (by omega)]
/-- What Reach returns, of a flow that is best. -/
structure OwnOk (n : Nat) (l : List Lk) (u y : List Int) : Prop where
  len : y.length = n
  val : ∀ v : Int, 0 ≤ v → v < n → -206158430208 ≤ gi y v ∧ gi y v ≤ 206158430208
  fit : ∀ k : Nat, k < l.length → gi y (gl l k).b ≤ gi y (gl l k).a + (gl l k).m
  tight : ∀ k : Nat, k < l.length → 0 < gi u k → gi y (gl l k).b = gi y (gl l k).a + (gl l k).m
  first : gi y 0 = 0
theorem rigid_ok {n : Nat} {l : List Lk} {u : List Int} (hok : NetOk n l) (hl : l.length ≤ 100) : NetOk n (rigidL l u) := by
  refine ⟨hok.n1, hok.n2, ?_, fun k hk => ?_⟩
  · unfold rigidL
    rw [List.length_append]
    have := backs_len l u
    omega
  · rcases List.mem_append.1 hk with hk | hk
    · exact hok.lk k hk
    · obtain ⟨q, hq, rfl⟩ := backs_mem hk
      obtain ⟨⟨a0, a1, b0, b1⟩, h2, m1, m2⟩ := hok.lk q hq
      refine ⟨⟨b0, b1, a0, a1⟩, fun e => h2 e.symm, ?_⟩
      show -17179869184 ≤ wrap64 (-q.m) ∧ wrap64 (-q.m) ≤ 17179869184
      rw [wrap_in (by omega)]; omega
theorem own_ok {n : Nat} {l : List Lk} {w u x0 : List Int} (hok : NetOk n l) (hl : l.length ≤ 100) (hn : n ≤ 12) (hb : Best n l w u x0) : (solutionL n (rigidL l u)).2 = true ∧ OwnOk n l u (reachL n l u) := by
  have hrk := rigid_ok (u := u) hok hl
  have hS := netOk_lk hok hn
  have hn1 := hok.n1
  have hsol : (solutionL n (rigidL l u)).2 = true := by
    refine sol_any hrk (x := fun v => gi x0 v) fun k hk => ?_
    rcases List.mem_append.1 hk with hk | hk
    · obtain ⟨j, hj, e⟩ := List.mem_iff_getElem.1 hk
      have h1 := hb.s0 j hj
      have e2 : gl l j = k := by rw [← e]; simp [gl, List.getD_eq_getElem?_getD, hj]
      rw [e2] at h1
      unfold sl at h1
      show gi x0 k.b ≤ gi x0 k.a + k.m
      omega
    · obtain ⟨j, hj, h0, rfl⟩ := (backs_at hb.lu).1 hk
      have h1 := hb.tight j hj h0
      have h2 := hS.lk j hj
      unfold sl at h1
      show gi x0 (gl l j).a ≤ gi x0 (gl l j).b + wrap64 (-(gl l j).m)
      rw [wrap_in (by omega)]; omega
  refine ⟨hsol, ?_⟩
  have hpot := solution_pot hrk hsol
  have hlow := solution_low hrk hsol
  have hlen := solutionL_length n (rigidL l u)
  have hfit := hpot.fit
  have hhi := hpot.hi
  unfold reachL
  generalize (solutionL n (rigidL l u)).1 = y at *
  change ∀ k ∈ rigidL l u, gi y k.b ≤ gi y k.a + k.m at hfit
  change ∀ v, gi y v ≤ 0 at hhi
  have hval : ∀ v : Int, 0 ≤ v → v < n → gi (redL y) v = gi y v - gi y 0 := by
    intro v v0 v1
    have h1 := redN_gi (gi y 0) y y.length (Nat.le_refl _) v.toNat (by omega)
    rw [show ((v.toNat : Nat) : Int) = v by omega] at h1
    unfold redL
    rw [h1]
    have h2 := hlow v v0 v1
    have h3 := hlow 0 (by omega) (by omega)
    have h4 := hhi v
    have h5 := hhi 0
    exact wrap_in (by omega)
  have hfit2 : ∀ k : Nat, k < l.length → gi y (gl l k).b ≤ gi y (gl l k).a + (gl l k).m := fun k hk => hfit _ (List.mem_append.2 (.inl (gl_mem (by omega) (by omega))))
  refine ⟨by unfold redL; rw [redN_length]; exact hlen, fun v v0 v1 => ?_, fun k hk => ?_, fun k hk h0 => ?_, ?_⟩
  · rw [hval v v0 v1]
    have h2 := hlow v v0 v1
    have h3 := hlow 0 (by omega) (by omega)
    have h4 := hhi v
    have h5 := hhi 0
    omega
  · obtain ⟨a0, a1, b0, b1, _⟩ := hS.lk k hk
    rw [hval _ a0 a1, hval _ b0 b1]
    have := hfit2 k hk
    omega
  · obtain ⟨a0, a1, b0, b1, m1, m2⟩ := hS.lk k hk
    rw [hval _ a0 a1, hval _ b0 b1]
    have h1 := hfit2 k hk
    have h2 := hfit _ (List.mem_append.2 (.inr ((backs_at hb.lu).2 ⟨k, hk, h0, rfl⟩)))
    change gi y (gl l k).a ≤ gi y (gl l k).b + wrap64 (-(gl l k).m) at h2
    rw [wrap_in (by omega)] at h2
    omega
  · rw [hval 0 (by omega) (by omega)]; omega
def solvedB (n : Int) (l : List Lk) (w x : List Int) : Bool := (fitsR n l x).2 == 0 && ((valueR n l w x).2 == 0 && (fitsR n l x).1)
structure DualOk (n : Int) (l : List Lk) (w u x u0 : List Int) : Prop where
  len : u0.length = l.length
  sol : (solutionL n.toNat (rigidL l u0)).2 = true
  own : (reachL n.toNat l u0).length = n.toNat
  both : bothR n l w u0 (reachL n.toNat l u0) = (true, 0)
  vm : solvedB n l w x = true → (valueR n l w x).1 ≤ costI l u0
  cm : (flowR n l w u).2 = 0 → costI l u0 ≤ (flowR n l w u).1
  eq : bothR n l w u x = (true, 0) → (valueR n l w x).1 = costI l u0 ∧ (flowR n l w u).1 = costI l u0
def DualLaw (n : Int) (l : List Lk) (w u x : List Int) : Prop :=
  (solvedB n l w x = true → (flowR n l w u).2 = 0 → (valueR n l w x).1 ≤ (flowR n l w u).1) ∧
  ∃ r, proveP 2000000 n l w = some r ∧ MostP 2000000 n l w = some (mostV l r) ∧ ((r = ([], 9) ∧ solvedB n l w x = false) ∨ (r = ([], 5) ∧ (flowR n l w u).2 ≠ 0) ∨ ∃ u0, r = (u0, 0) ∧ DualOk n l w u x u0)
theorem small_ok {n : Int} {l : List Lk} (hok : NetOk n l) (h : smallB n l.length = true) : n ≤ 12 ∧ l.length ≤ 36 := by
  have h1 := hok.l1
  simp only [smallB, Bool.or_eq_true, Bool.and_eq_true, decide_eq_true_eq] at h
  omega
theorem are_at {n : Nat} {x : List Int} (h : areB n x = true) : x.length = n ∧ ∀ v : Int, 0 ≤ v → v < n → -1099511627776 ≤ gi x v ∧ gi x v ≤ 1099511627776 := by
  obtain ⟨h1, h2⟩ := areB_iff.1 h
  exact ⟨by omega, fun v v0 v1 => h2 _ (gi_mem v0 (by omega))⟩
theorem at_are {n : Nat} {x : List Int} (h1 : x.length = n) (h2 : ∀ v : Int, 0 ≤ v → v < n → -1099511627776 ≤ gi x v ∧ gi x v ≤ 1099511627776) : areB n x = true := by
  refine areB_iff.2 ⟨by omega, fun v hv => ?_⟩
  obtain ⟨i, hi, e⟩ := List.mem_iff_getElem.1 hv
  have e2 : gi x i = v := by simp [gi, List.getD_eq_getElem?_getD, hi, e]
  rw [← e2]
  exact h2 i (by omega) (by omega)
/-- Values that fit, as whole numbers. -/
theorem fits_at {n : Nat} {l : List Lk} {x : List Int} (hS : NetS n l) (hv : ∀ v : Int, 0 ≤ v → v < n → -1099511627776 ≤ gi x v ∧ gi x v ≤ 1099511627776) : fitsB x l = true ↔ ∀ k : Nat, k < l.length → gi x (gl l k).b ≤ gi x (gl l k).a + (gl l k).m := by
  rw [fitsB_iff]
  constructor
  · intro h k hk
    obtain ⟨a0, a1, b0, b1, m1, m2⟩ := hS.lk k hk
    have h1 := h (gl l k) (gl_mem (by omega) (by omega))
    have h2 := hv _ a0 a1
    rw [wrap_in (by omega)] at h1
    exact h1
  · intro h q hq
    obtain ⟨k, hk, e⟩ := List.mem_iff_getElem.1 hq
    have e2 : gl l k = q := by rw [← e]; simp [gl, List.getD_eq_getElem?_getD, hk]
    obtain ⟨a0, a1, b0, b1, m1, m2⟩ := hS.lk k hk
    have h1 := h k hk
    rw [e2] at h1 a0 a1 b0 b1 m1 m2
    have h2 := hv _ a0 a1
    rw [wrap_in (by omega)]
    exact h1
theorem value_sum {n : Nat} {w x : List Int} (hn : n ≤ 12) (hw : w.length = n) (hwb : ∀ i : Nat, i < n → -100000 ≤ gi w i ∧ gi w i ≤ 100000) (hx : x.length = n) (hv : ∀ v : Int, 0 ≤ v → v < n → -1099511627776 ≤ gi x v ∧ gi x v ≤ 1099511627776) : valueI w x = sumN (fun v : Nat => gi w v * gi x v) n := by
  rw [valueI_eq (b := fun _ => 100000 * 1099511627776) (by omega) (fun i hi => mul_abs (hwb i (by omega)) (hv i (by omega) (by omega))) (by rw [sumN_const]; omega), hw]
theorem asked_facts {n : Nat} {l : List Lk} {w : List Int} (ha : askedI n l w = 0) : NetOk n l ∧ w.length = n ∧ (∀ i : Nat, i < n → -100000 ≤ gi w i ∧ gi w i ≤ 100000) ∧ sumN (fun v => gi w v) n = 0 := by
  have hok := check_ok (asked_ok ha).1
  have := weights_facts (by have := hok.n2; omega) (asked_ok ha).2
  exact ⟨hok, this⟩
/-- What best returns, of a net that is asked. -/
theorem best_facts {n : Nat} {l : List Lk} {w : List Int} (ha : askedI n l w = 0) (hn : n ≤ 12) : ∃ r, bestP 2000000 n l w = some r ∧
    ((r = ([], 9) ∧ (solutionL n l).2 = false) ∨ (r = ([], 5) ∧ (solutionL n l).2 = true ∧ Cut n l w) ∨ ∃ u x, r = (u, 0) ∧ (solutionL n l).2 = true ∧ Best n l w u x) := by
  obtain ⟨hok, hw, hwb, hsum⟩ := asked_facts ha
  unfold bestP
  by_cases hs : (solutionL n l).2 = true
  · rw [if_pos hs]
    obtain ⟨r, h1, h2⟩ := best_ok hok hn hw hwb hsum hs 2000000 (Nat.le_refl _)
    rw [h1]
    rcases h2 with ⟨x, u, f, rfl, hb⟩ | ⟨rfl, hc⟩
    · exact ⟨_, rfl, .inr (.inr ⟨u, x, rfl, hs, hb⟩)⟩
    · exact ⟨_, rfl, .inr (.inl ⟨rfl, hs, hc⟩)⟩
  · rw [if_neg hs]
    exact ⟨_, rfl, .inl ⟨rfl, by simpa using hs⟩⟩
structure FlowAt (n : Nat) (l : List Lk) (w u : List Int) : Prop where
  len : u.length = l.length
  u0 : ∀ k : Nat, k < l.length → 0 ≤ gi u k
  cost : costI l u = sumN (fun k => gi u k * (gl l k).m) l.length
  cons : ∀ v : Nat, v < n → net l u v = gi w v
theorem flow_at {n : Nat} {l : List Lk} {w u : List Int} (hS : NetS n l) (hw : w.length = n) (hwb : ∀ i : Nat, i < n → -100000 ≤ gi w i ∧ gi w i ≤ 100000) (h1 : isFlowI l u = 0) (h2 : carriesB l w u = true) : FlowAt n l w u := by
  obtain ⟨f1, f2, f3⟩ := (isFlow_facts hS.l1).1 h1
  have hlk : ∀ k : Nat, k < l.length → 0 ≤ (gl l k).a ∧ (gl l k).a < n ∧ 0 ≤ (gl l k).b ∧ (gl l k).b < n := fun k hk => by have := hS.lk k hk; omega
  exact ⟨f1, fun k hk => (f2 k hk).1, costI_eq f1 (fun k hk => by have := hS.lk k hk; omega) (fun k hk => (f2 k hk).1) (by omega), (carries_iff hlk hw hwb f1 (fun k hk => (f2 k hk).1) (by omega)).1 h2⟩
theorem best_flow {n : Nat} {l : List Lk} {w u x : List Int} (hS : NetS n l) (hl : l.length ≤ 60) (hw : w.length = n) (hwb : ∀ i : Nat, i < n → -100000 ≤ gi w i ∧ gi w i ≤ 100000) (hb : Best n l w u x) : isFlowI l u = 0 ∧ carriesB l w u = true := by
  have hlk : ∀ k : Nat, k < l.length → 0 ≤ (gl l k).a ∧ (gl l k).a < n ∧ 0 ≤ (gl l k).b ∧ (gl l k).b < n := fun k hk => by have := hS.lk k hk; omega
  have hsum : sumN (fun k : Nat => gi u k) l.length ≤ 120000000 := by
    have h1 := sumN_le (g := fun k : Nat => gi u k) (h := fun _ => 2000000) l.length (fun i _ => hb.ub i)
    rw [sumN_const] at h1
    omega
  exact ⟨(isFlow_facts hS.l1).2 ⟨hb.lu, fun k _ => ⟨hb.u0 k, by have := hb.ub k; omega⟩, by omega⟩, (carries_iff hlk hw hwb hb.lu (fun k _ => hb.u0 k) (by omega)).2 hb.cons⟩
theorem dual_law (n : Int) (l : List Lk) (w u x : List Int) (ha : askedI n l w = 0) (hsm : smallB n l.length = true) : DualLaw n l w u x := by
  have hn1 := (check_ok (asked_ok ha).1).n1
  obtain ⟨N, rfl⟩ : ∃ N : Nat, n = N := ⟨n.toNat, by omega⟩
  obtain ⟨hok, hw, hwb, hsum⟩ := asked_facts ha
  obtain ⟨hn, hl⟩ := small_ok hok hsm
  have hn : N ≤ 12 := by omega
  have hS := netOk_lk hok hn
  have hlk : ∀ k : Nat, k < l.length → 0 ≤ (gl l k).a ∧ (gl l k).a < N ∧ 0 ≤ (gl l k).b ∧ (gl l k).b < N := fun k hk => by have := hS.lk k hk; omega
  have hck : checkL N l = 0 := (asked_ok ha).1
  have hfR : fitsR N l x = if areB N x = false then (false, 1) else (fitsB x l, 0) := by unfold fitsR; rw [if_neg (by simpa using hck)]
  have hvR : valueR N l w x = if areB N x = false then (0, 1) else (valueI w x, 0) := by unfold valueR; rw [if_neg (by simpa using ha)]
  have hlR : flowR N l w u = if isFlowI l u ≠ 0 then (0, isFlowI l u) else if carriesB l w u = false then (0, 8) else (costI l u, 0) := by unfold flowR; rw [if_neg (by simpa using ha)]
  -- values that solve
  have hso : solvedB N l w x = true → x.length = N ∧ (∀ v : Int, 0 ≤ v → v < N → -1099511627776 ≤ gi x v ∧ gi x v ≤ 1099511627776) ∧ (∀ k : Nat, k < l.length → gi x (gl l k).b ≤ gi x (gl l k).a + (gl l k).m) ∧ (valueR N l w x).1 = sumN (fun v : Nat => gi w v * gi x v) N := by
    intro h
    unfold solvedB at h
    rw [hfR, hvR] at h
    cases hq : areB N x with
    | false => rw [hq] at h; simp at h
    | true =>
      rw [hq] at h
      have h3 : fitsB x l = true := by simpa using h
      obtain ⟨h1, h2⟩ := are_at hq
      refine ⟨h1, h2, (fits_at hS h2).1 h3, ?_⟩
      rw [hvR, hq, ← value_sum hn hw hwb h1 h2]
      rfl
  -- units that carry
  have hfl : (flowR N l w u).2 = 0 → FlowAt N l w u ∧ (flowR N l w u).1 = costI l u := by
    intro h
    rw [hlR] at h ⊢
    by_cases h1 : isFlowI l u = 0
    · rw [if_neg (by simpa using h1)] at h ⊢
      cases h2 : carriesB l w u with
      | false => rw [h2] at h; simp at h
      | true => exact ⟨flow_at hS hw hwb h1 h2, by simp⟩
    · rw [if_pos h1] at h
      exact absurd h h1
  refine ⟨fun h1 h2 => ?_, ?_⟩
  · obtain ⟨_, _, a3, a4⟩ := hso h1
    obtain ⟨b1, b2⟩ := hfl h2
    rw [a4, b2, b1.cost]
    exact weak hlk (x := fun v => gi x v) a3 b1.u0 b1.cons
  · obtain ⟨r, hr, hc⟩ := best_facts ha hn
    have hp : proveP 2000000 N l w = some r := by unfold proveP; rw [if_pos ha, Int.toNat_natCast]; exact hr
    have hm : MostP 2000000 N l w = some (mostV l r) := by unfold MostP; rw [if_pos ha, Int.toNat_natCast, hr]; rfl
    refine ⟨r, hp, hm, ?_⟩
    rcases hc with ⟨rfl, hs⟩ | ⟨rfl, hs, hcut⟩ | ⟨u0, x0, rfl, hs, hb⟩
    · left
      refine ⟨rfl, ?_⟩
      cases hq : solvedB N l w x with
      | false => rfl
      | true =>
        obtain ⟨_, _, a3, _⟩ := hso hq
        have := sol_any hok (x := fun v => gi x v) fun k hk => by
          obtain ⟨j, hj, e⟩ := List.mem_iff_getElem.1 hk
          have e2 : gl l j = k := by rw [← e]; simp [gl, List.getD_eq_getElem?_getD, hj]
          have := a3 j hj
          rw [e2] at this
          exact this
        rw [hs] at this
        cases this
    · right; left
      refine ⟨rfl, fun h => ?_⟩
      obtain ⟨b1, b2⟩ := hfl h
      exact cut_none hlk hcut b1.u0 b1.cons
    · right; right
      refine ⟨u0, rfl, ?_⟩
      obtain ⟨f1, f2⟩ := best_flow hS (by omega) hw hwb hb
      have hF := flow_at hS hw hwb f1 f2
      obtain ⟨hsol, hown⟩ := own_ok hok (by omega) hn hb
      have hown40 : ∀ v : Int, 0 ≤ v → v < N → -1099511627776 ≤ gi (reachL N l u0) v ∧ gi (reachL N l u0) v ≤ 1099511627776 := fun v v0 v1 => by have := hown.val v v0 v1; omega
      have hst : sumN (fun v : Nat => gi w v * gi (reachL N l u0) v) N = costI l u0 := by
        rw [hF.cost]
        exact strong hlk (x := fun v => gi (reachL N l u0) v) (fun k hk h => hown.tight k hk (by have := hF.u0 k hk; omega)) hF.cons
      have hvm : solvedB N l w x = true → (valueR N l w x).1 ≤ costI l u0 := by
        intro h
        obtain ⟨_, _, a3, a4⟩ := hso h
        rw [a4, hF.cost]
        exact weak hlk (x := fun v => gi x v) a3 hF.u0 hF.cons
      have hcm : (flowR N l w u).2 = 0 → costI l u0 ≤ (flowR N l w u).1 := by
        intro h
        obtain ⟨b1, b2⟩ := hfl h
        rw [b2, b1.cost, ← hst]
        exact weak hlk (x := fun v => gi (reachL N l u0) v) hown.fit b1.u0 b1.cons
      refine ⟨hF.len, by rw [Int.toNat_natCast]; exact hsol, by rw [Int.toNat_natCast]; exact hown.len, ?_, hvm, hcm, fun h => ?_⟩
      · rw [Int.toNat_natCast]
        unfold bothR
        rw [if_neg (by simpa using ha), if_neg (by rw [at_are hown.len hown40, f1]; simp), if_neg (by simpa using f1)]
        rw [f2, (fits_at hS hown40).2 hown.fit, value_sum hn hw hwb hown.len hown40, hst]
        simp
      · unfold bothR at h
        rw [if_neg (by simpa using ha)] at h
        by_cases h1 : isFlowI l u = 1 ∨ areB N x = false
        · rw [if_pos h1] at h; cases h
        · rw [if_neg h1] at h
          have har : areB N x = true := by
            cases hq : areB N x with
            | true => rfl
            | false => exact absurd (.inr hq) h1
          by_cases h2 : isFlowI l u = 0
          · rw [if_neg (by simpa using h2)] at h
            have h3 : (carriesB l w u && (fitsB x l && (costI l u == valueI w x))) = true := congrArg Prod.fst h
            simp only [Bool.and_eq_true, beq_iff_eq] at h3
            obtain ⟨c1, c2, c3⟩ := h3
            have g0 : flowR N l w u = (costI l u, 0) := by rw [hlR, if_neg (by simpa using h2), c1]; rfl
            have v0 : valueR N l w x = (valueI w x, 0) := by rw [hvR, har]; rfl
            have s0 : solvedB N l w x = true := by unfold solvedB; rw [v0, hfR, har, c2]; rfl
            have q1 := hvm s0
            have q2 := hcm (by rw [g0])
            rw [v0] at q1 ⊢
            rw [g0] at q2 ⊢
            simp only at q1 q2 ⊢
            omega
          · rw [if_pos h2] at h
            have : (isFlowI l u) = 0 := congrArg Prod.snd h
            exact absurd this h2

def mkN (f : Nat → Int) : Nat → List Int
  | 0 => []
  | k + 1 => mkN f k ++ [f k]
theorem mkN_len (f : Nat → Int) : ∀ k, (mkN f k).length = k
  | 0 => rfl
  | k + 1 => by simp [mkN, mkN_len f k]
theorem mkN_gi (f : Nat → Int) : ∀ (k j : Nat), j < k → gi (mkN f k) j = f j
  | 0, j, h => absurd h (by omega)
  | k + 1, j, h => by
    unfold mkN
    by_cases e : j = k
    · subst e
      rw [gi_append_last _ _ _ (mkN_len f j).symm]
    · rw [gi_append_left _ _ _ (by rw [mkN_len]; omega), mkN_gi f k j (by omega)]
theorem weights_of {n : Nat} {w : List Int} (hn : n ≤ 50) (h1 : w.length = n) (h2 : ∀ i : Nat, i < n → -100000 ≤ gi w i ∧ gi w i ≤ 100000) (h3 : sumN (fun v => gi w v) n = 0) : weightsB n w = true := by
  have hs := sumW_eq (u := w) (b := fun _ => 100000) (fun i hi => h2 i (by omega)) (by rw [sumN_const]; omega)
  rw [h1, h3] at hs
  simp only [weightsB, Bool.and_eq_true, Bool.not_eq_true', decide_eq_true_eq, beq_iff_eq]
  refine ⟨List.any_eq_false.2 fun v hv => ?_, by omega, hs⟩
  obtain ⟨i, hi, e⟩ := List.mem_iff_getElem.1 hv
  have e2 : gi w i = v := by simp [gi, List.getD_eq_getElem?_getD, hi, e]
  have := h2 i (by omega)
  rw [e2] at this
  simpa [withinB] using this
theorem asked_of {n : Int} {l : List Lk} {w : List Int} (h1 : checkL n l = 0) (h2 : weightsB n w = true) : askedI n l w = 0 := by
  unfold askedI
  rw [if_neg (by simpa using h1), if_pos h2]
/-- The greatest weighted sum of a solution. -/
structure MaxAt (n : Nat) (l : List Lk) (w : List Int) (a : Int) : Prop where
  at_ : ∃ x : Int → Int, (∀ k : Nat, k < l.length → x (gl l k).b ≤ x (gl l k).a + (gl l k).m) ∧ sumN (fun v : Nat => gi w v * x v) n = a
  le : ∀ x : Int → Int, (∀ k : Nat, k < l.length → x (gl l k).b ≤ x (gl l k).a + (gl l k).m) → sumN (fun v : Nat => gi w v * x v) n ≤ a
theorem best_max {n : Nat} {l : List Lk} {w u x : List Int} (hS : NetS n l) (hl : l.length ≤ 60) (hw : w.length = n) (hwb : ∀ i : Nat, i < n → -100000 ≤ gi w i ∧ gi w i ≤ 100000) (hb : Best n l w u x) : MaxAt n l w (costI l u) ∧ -4000000000000000000 ≤ costI l u ∧ costI l u ≤ 4000000000000000000 := by
  have hlk : ∀ k : Nat, k < l.length → 0 ≤ (gl l k).a ∧ (gl l k).a < n ∧ 0 ≤ (gl l k).b ∧ (gl l k).b < n := fun k hk => by have := hS.lk k hk; omega
  obtain ⟨f1, f2⟩ := best_flow hS hl hw hwb hb
  have hF := flow_at hS hw hwb f1 f2
  have hc := sumN_abs (g := fun k : Nat => gi u k * (gl l k).m) (b := fun _ => 2000000 * 17179869184) l.length (fun k hk => mul_abs (by have := hb.u0 k; have := hb.ub k; omega) (by have := hS.lk k hk; omega))
  rw [sumN_const] at hc
  refine ⟨⟨⟨fun v => gi x v, fun k hk => ?_, ?_⟩, fun y hy => ?_⟩, ?_⟩
  · have := hb.s0 k hk
    unfold sl at this
    show gi x (gl l k).b ≤ gi x (gl l k).a + (gl l k).m
    omega
  · rw [hF.cost]
    refine strong hlk (x := fun v => gi x v) (fun k hk h => ?_) hF.cons
    have h1 := hb.tight k hk (by have := hb.u0 k; omega)
    unfold sl at h1
    show gi x (gl l k).b = gi x (gl l k).a + (gl l k).m
    omega
  · rw [hF.cost]
    exact weak hlk hy hF.u0 hF.cons
  · rw [hF.cost]; omega
/-- What Most returns, of a net that is asked. -/
theorem most_facts {n : Nat} {l : List Lk} {w : List Int} (ha : askedI n l w = 0) (hn : n ≤ 12) (hl : l.length ≤ 60) : ∃ r, MostP 2000000 n l w = some r ∧
    ((r = (0, 9) ∧ (solutionL n l).2 = false) ∨ (r = (0, 5) ∧ (solutionL n l).2 = true ∧ Cut n l w) ∨
     ∃ a u, r = (a, 0) ∧ (solutionL n l).2 = true ∧ (∀ k : Nat, k < l.length → 0 ≤ gi u k) ∧ (∀ v : Nat, v < n → net l u v = gi w v) ∧ MaxAt n l w a ∧ -4000000000000000000 ≤ a ∧ a ≤ 4000000000000000000) := by
  obtain ⟨hok, hw, hwb, hsum⟩ := asked_facts ha
  have hS := netOk_lk hok hn
  obtain ⟨r, hr, hc⟩ := best_facts ha hn
  refine ⟨mostV l r, by unfold MostP; rw [if_pos ha, Int.toNat_natCast, hr]; rfl, ?_⟩
  rcases hc with ⟨rfl, h1⟩ | ⟨rfl, h1, h2⟩ | ⟨u, x, rfl, h1, h2⟩
  · exact .inl ⟨rfl, h1⟩
  · exact .inr (.inl ⟨rfl, h1, h2⟩)
  · obtain ⟨m1, m2⟩ := best_max hS hl hw hwb h2
    exact .inr (.inr ⟨costI l u, u, rfl, h1, fun k _ => h2.u0 k, h2.cons, m1, m2⟩)
structure WeightsOk (n : Int) (l : List Lk) (p v : List Int) (kk : Int) (more : Lk) (rp rv rt rs rn : Int × Int) : Prop where
  mp : MostP 2000000 n l p = some rp
  mv : MostP 2000000 n l v = some rv
  mt : MostP 2000000 n l (mkN (fun j => wrap64 (kk * gi p j)) p.length) = some rt
  ms : MostP 2000000 n l (mkN (fun j => wrap64 (gi p j + gi v j)) p.length) = some rs
  mn : MostP 2000000 n l (mkN (fun j => wrap64 (0 - gi p j)) p.length) = some rn
  least : LeastP 2000000 n l p = some (wrap64 (-rn.1), rn.2)
  no : rp.2 ≠ 0 → kk = 0 ∨ rp.2 = rt.2
  t2 : rp.2 = 0 → rt.2 = 0
  t1 : rp.2 = 0 → rt.1 = wrap64 (kk * rp.1)
  s2 : rp.2 = 0 → rv.2 = 0 → rs.2 = 0
  s1 : rp.2 = 0 → rv.2 = 0 → rs.1 ≤ wrap64 (rp.1 + rv.1)
  w : rp.2 = 0 → (withR n l [more]).2 = 0 → ∃ ry, MostP 2000000 (withR n l [more]).1.1 (withR n l [more]).1.2 p = some ry ∧ (ry.2 = 9 ∨ (ry.2 = 0 ∧ ry.1 ≤ rp.1))
theorem gl_app_left (l m : List Lk) (i : Nat) (h : i < l.length) : gl (l ++ m) i = gl l i := by
  simp [gl, List.getD_eq_getElem?_getD, List.getElem?_append_left h]
theorem net_mk {l : List Lk} {g : Nat → Int} {v : Int} : net l (mkN g l.length) v = sumN (fun k => g k * (ind (gl l k).b v - ind (gl l k).a v)) l.length := by
  unfold net netP
  exact sumN_congr _ fun k hk => by rw [mkN_gi _ _ _ hk]
theorem weights_law (n : Int) (l : List Lk) (p v : List Int) (kk : Int) (more : Lk) (hp : askedI n l p = 0) (hv : askedI n l v = 0) (hsm : smallB n l.length = true) (hk0 : 0 ≤ kk) (hk5 : kk ≤ 5)
    (hr : ∀ j : Nat, j < p.length → (-9000 ≤ gi p j ∧ gi p j ≤ 9000) ∧ -9000 ≤ gi v j ∧ gi v j ≤ 9000) : ∃ rp rv rt rs rn, WeightsOk n l p v kk more rp rv rt rs rn := by
  have hn1 := (check_ok (asked_ok hp).1).n1
  obtain ⟨N, rfl⟩ : ∃ N : Nat, n = N := ⟨n.toNat, by omega⟩
  obtain ⟨hok, hpl, hpb, hps⟩ := asked_facts hp
  obtain ⟨_, hvl, hvb, hvs⟩ := asked_facts hv
  obtain ⟨hn, hl⟩ := small_ok hok hsm
  have hn : N ≤ 12 := by omega
  have hS := netOk_lk hok hn
  have hlk : ∀ k : Nat, k < l.length → 0 ≤ (gl l k).a ∧ (gl l k).a < N ∧ 0 ≤ (gl l k).b ∧ (gl l k).b < N := fun k hk => by have := hS.lk k hk; omega
  have hck : checkL N l = 0 := (asked_ok hp).1
  -- the three lists
  have et : ∀ j : Nat, j < N → gi (mkN (fun j => wrap64 (kk * gi p j)) p.length) j = kk * gi p j := by
    intro j hj
    rw [mkN_gi _ _ _ (by omega)]
    have h1 := (hr j (by omega)).1
    have h2 := mul_abs (a := kk) (b := gi p j) (A := 5) (B := 9000) (by omega) h1
    exact wrap_in (by omega)
  have es : ∀ j : Nat, j < N → gi (mkN (fun j => wrap64 (gi p j + gi v j)) p.length) j = gi p j + gi v j := by
    intro j hj
    rw [mkN_gi _ _ _ (by omega)]
    have h1 := hr j (by omega)
    exact wrap_in (by omega)
  have en : ∀ j : Nat, j < N → gi (mkN (fun j => wrap64 (0 - gi p j)) p.length) j = -1 * gi p j := by
    intro j hj
    rw [mkN_gi _ _ _ (by omega)]
    have h1 := hr j (by omega)
    rw [wrap_in (by omega)]; omega
  have ht : askedI N l (mkN (fun j => wrap64 (kk * gi p j)) p.length) = 0 := by
    refine asked_of hck (weights_of (by omega) (by rw [mkN_len]; exact hpl) (fun i hi => ?_) ?_)
    · rw [et i hi]
      have h1 := (hr i (by omega)).1
      have h2 := mul_abs (a := kk) (b := gi p i) (A := 5) (B := 9000) (by omega) h1
      omega
    · rw [sumN_congr N et, sumN_mul, hps, Int.mul_zero]
  have hs : askedI N l (mkN (fun j => wrap64 (gi p j + gi v j)) p.length) = 0 := by
    refine asked_of hck (weights_of (by omega) (by rw [mkN_len]; exact hpl) (fun i hi => ?_) ?_)
    · rw [es i hi]
      have h1 := hr i (by omega)
      omega
    · rw [sumN_congr N es, sumN_add, hps, hvs]; rfl
  have hnn : askedI N l (mkN (fun j => wrap64 (0 - gi p j)) p.length) = 0 := by
    refine asked_of hck (weights_of (by omega) (by rw [mkN_len]; exact hpl) (fun i hi => ?_) ?_)
    · rw [en i hi]
      have h1 := hr i (by omega)
      omega
    · rw [sumN_congr N en, sumN_mul, hps, Int.mul_zero]
  obtain ⟨rp, mp, cp⟩ := most_facts hp hn (by omega)
  obtain ⟨rv, mv, cv⟩ := most_facts hv hn (by omega)
  obtain ⟨rt, mt, ct⟩ := most_facts ht hn (by omega)
  obtain ⟨rs, ms, cs⟩ := most_facts hs hn (by omega)
  obtain ⟨rn, mn', cn⟩ := most_facts hnn hn (by omega)
  have htl : turnedL p = mkN (fun j => wrap64 (0 - gi p j)) p.length := by
    apply List.ext_getElem?
    intro i
    by_cases hi : i < p.length
    · rw [gi_get (l := turnedL p) (by rw [turned_length]; exact hi), gi_get (l := mkN (fun j => wrap64 (0 - gi p j)) p.length) (by rw [mkN_len]; exact hi), mkN_gi _ _ _ hi]
      have h3 := gi_get hi
      congr 1
      simp only [turnedL, gi_nat, List.getD_eq_getElem?_getD, List.getElem?_map]
      rw [h3]
      simp [gi_nat, List.getD_eq_getElem?_getD]
    · rw [List.getElem?_eq_none (by rw [turned_length]; omega), List.getElem?_eq_none (by rw [mkN_len]; omega)]
  refine ⟨rp, rv, rt, rs, rn, mp, mv, mt, ms, mn', ?_, ?_, ?_, ?_, ?_, ?_, ?_⟩
  · unfold LeastP
    rw [htl, mn']
    rfl
  · intro h0
    rcases cp with ⟨rfl, q1⟩ | ⟨rfl, q1, q2⟩ | ⟨a, u, rfl, _⟩
    · right
      rcases ct with ⟨rfl, _⟩ | ⟨rfl, t1, _⟩ | ⟨a, u, rfl, t1, _⟩
      · rfl
      · rw [q1] at t1; cases t1
      · rw [q1] at t1; cases t1
    · by_cases hk : kk = 0
      · exact .inl hk
      · right
        rcases ct with ⟨rfl, t1⟩ | ⟨rfl, t1, _⟩ | ⟨a, u, rfl, t1, t2, t3, _⟩
        · rw [q1] at t1; cases t1
        · rfl
        · exfalso
          obtain ⟨P, p1, p2⟩ := q2
          refine cut_none hlk (w := mkN (fun j => wrap64 (kk * gi p j)) p.length) ⟨P, p1, ?_⟩ t2 t3
          rw [sumN_congr (h := fun i : Nat => kk * (if P i = true then gi p i else 0)) N (fun i hi => by
            rw [et i hi]
            split
            · rfl
            · omega), sumN_mul]
          exact Int.mul_neg_of_pos_of_neg (by omega) p2
    · exact absurd rfl h0
  · intro h0
    rcases cp with ⟨rfl, _⟩ | ⟨rfl, _⟩ | ⟨a, u, rfl, q1, q2, q3, _⟩
    · cases h0
    · cases h0
    · rcases ct with ⟨rfl, t1⟩ | ⟨rfl, t1, t2⟩ | ⟨a, u, rfl, _⟩
      · rw [q1] at t1; cases t1
      · exfalso
        refine cut_none hlk t2 (u := mkN (fun k => kk * gi u k) l.length) (fun k hk => ?_) (fun i hi => ?_)
        · rw [mkN_gi _ _ _ hk]; exact Int.mul_nonneg hk0 (q2 k hk)
        · rw [net_mk, et i hi, ← q3 i hi]
          unfold net netP
          rw [← sumN_mul]
          exact sumN_congr _ fun k _ => Int.mul_assoc _ _ _
      · rfl
  · intro h0
    rcases cp with ⟨rfl, _⟩ | ⟨rfl, _⟩ | ⟨a, u, rfl, q1, q2, q3, q4, q5, q6⟩
    · cases h0
    · cases h0
    · rcases ct with ⟨rfl, t1⟩ | ⟨rfl, t1, t2⟩ | ⟨b, u', rfl, _, _, _, t4, t5, t6⟩
      · rw [q1] at t1; cases t1
      · exfalso
        refine cut_none hlk t2 (u := mkN (fun k => kk * gi u k) l.length) (fun k hk => ?_) (fun i hi => ?_)
        · rw [mkN_gi _ _ _ hk]; exact Int.mul_nonneg hk0 (q2 k hk)
        · rw [net_mk, et i hi, ← q3 i hi]
          unfold net netP
          rw [← sumN_mul]
          exact sumN_congr _ fun k _ => Int.mul_assoc _ _ _
      · have hsc : ∀ x : Int → Int, sumN (fun i : Nat => gi (mkN (fun j => wrap64 (kk * gi p j)) p.length) i * x i) N = kk * sumN (fun i : Nat => gi p i * x i) N := by
          intro x
          rw [← sumN_mul]
          exact sumN_congr _ fun i hi => by rw [et i hi, Int.mul_assoc]
        have e : b = kk * a := by
          obtain ⟨x, x1, x2⟩ := q4.at_
          obtain ⟨y, y1, y2⟩ := t4.at_
          have h1 := t4.le x x1
          rw [hsc, x2] at h1
          have h2 := q4.le y y1
          rw [hsc] at y2
          have h3 := Int.mul_le_mul_of_nonneg_left h2 hk0
          omega
        show b = wrap64 (kk * a)
        rw [← e]
        exact (wrap_in (by omega)).symm
  · intro h0 h1
    rcases cp with ⟨rfl, _⟩ | ⟨rfl, _⟩ | ⟨a, u, rfl, q1, q2, q3, _⟩
    · cases h0
    · cases h0
    · rcases cv with ⟨rfl, _⟩ | ⟨rfl, _⟩ | ⟨b, u', rfl, _, v2, v3, _⟩
      · cases h1
      · cases h1
      · rcases cs with ⟨rfl, t1⟩ | ⟨rfl, t1, t2⟩ | ⟨a, u, rfl, _⟩
        · rw [q1] at t1; cases t1
        · exfalso
          refine cut_none hlk t2 (u := mkN (fun k => gi u k + gi u' k) l.length) (fun k hk => ?_) (fun i hi => ?_)
          · rw [mkN_gi _ _ _ hk]
            have := q2 k hk
            have := v2 k hk
            omega
          · rw [net_mk, es i hi, ← q3 i hi, ← v3 i hi]
            unfold net netP
            rw [← sumN_add]
            exact sumN_congr _ fun k _ => Int.add_mul _ _ _
        · rfl
  · intro h0 h1
    rcases cp with ⟨rfl, _⟩ | ⟨rfl, _⟩ | ⟨a, u, rfl, q1, q2, q3, q4, q5, q6⟩
    · cases h0
    · cases h0
    · rcases cv with ⟨rfl, _⟩ | ⟨rfl, _⟩ | ⟨b, u', rfl, _, v2, v3, v4, v5, v6⟩
      · cases h1
      · cases h1
      · show rs.1 ≤ wrap64 (a + b)
        rw [wrap_in (by omega)]
        rcases cs with ⟨rfl, t1⟩ | ⟨rfl, t1, t2⟩ | ⟨c, u2, rfl, _, _, _, t4, _⟩
        · rw [q1] at t1; cases t1
        · exfalso
          refine cut_none hlk t2 (u := mkN (fun k => gi u k + gi u' k) l.length) (fun k hk => ?_) (fun i hi => ?_)
          · rw [mkN_gi _ _ _ hk]
            have := q2 k hk
            have := v2 k hk
            omega
          · rw [net_mk, es i hi, ← q3 i hi, ← v3 i hi]
            unfold net netP
            rw [← sumN_add]
            exact sumN_congr _ fun k _ => Int.add_mul _ _ _
        · obtain ⟨x, x1, x2⟩ := t4.at_
          have h2 := q4.le x x1
          have h3 := v4.le x x1
          rw [sumN_congr (h := fun i : Nat => gi p i * x i + gi v i * x i) N (fun i hi => by rw [es i hi, Int.add_mul]), sumN_add] at x2
          show c ≤ a + b
          omega
  · intro h0 h1
    rcases cp with ⟨rfl, _⟩ | ⟨rfl, _⟩ | ⟨a, u, rfl, q1, q2, q3, q4, q5, q6⟩
    · cases h0
    · cases h0
    · have hw : withR N l [more] = if checkL N (l ++ [more]) ≠ 0 then ((0, []), checkL N (l ++ [more])) else (((N : Int), l ++ [more]), 0) := by
        unfold withR; rw [if_neg (by simpa using hck)]
      rw [hw] at h1 ⊢
      by_cases hc2 : checkL N (l ++ [more]) = 0
      · rw [if_neg (by simpa using hc2)] at h1 ⊢
        show ∃ ry, MostP 2000000 N (l ++ [more]) p = some ry ∧ _
        have ha2 : askedI N (l ++ [more]) p = 0 := asked_of hc2 (asked_ok hp).2
        have hok2 := check_ok hc2
        have hS2 := netOk_lk hok2 hn
        have hll : (l ++ [more]).length = l.length + 1 := by simp
        have hlk2 : ∀ k : Nat, k < (l ++ [more]).length → 0 ≤ (gl (l ++ [more]) k).a ∧ (gl (l ++ [more]) k).a < N ∧ 0 ≤ (gl (l ++ [more]) k).b ∧ (gl (l ++ [more]) k).b < N := fun k hk => by have := hS2.lk k hk; omega
        obtain ⟨ry, my, cy⟩ := most_facts ha2 hn (by omega)
        refine ⟨ry, my, ?_⟩
        rcases cy with ⟨rfl, _⟩ | ⟨rfl, t1, t2⟩ | ⟨c, u2, rfl, _, _, _, t4, _⟩
        · exact .inl rfl
        · exfalso
          refine cut_none hlk2 t2 (u := mkN (fun k => if k < l.length then gi u k else 0) (l ++ [more]).length) (fun k hk => ?_) (fun i hi => ?_)
          · rw [mkN_gi _ _ _ hk]
            split
            · exact q2 k (by assumption)
            · omega
          · rw [net_mk, ← q3 i hi, hll]
            show sumN _ l.length + _ = net l u i
            unfold net netP
            simp only [Nat.lt_irrefl, if_false, Int.zero_mul, Int.add_zero]
            exact sumN_congr _ fun k hk => by rw [if_pos hk, gl_app_left _ _ _ hk]
        · right
          refine ⟨rfl, ?_⟩
          obtain ⟨x, x1, x2⟩ := t4.at_
          have h2 := q4.le x fun k hk => by
            have := x1 k (by omega)
            rw [gl_app_left _ _ _ hk] at this
            exact this
          show c ≤ a
          omega
      · rw [if_pos (by simpa using hc2)] at h1
        exact absurd h1 hc2
end Go.Proofs.Ytmhiiomejopaoaa
