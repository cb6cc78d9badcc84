/- The plain law of FlowWeights. -/
import Derived.Test.YtmhiiomejopaoaaD1
namespace Go.Proofs.Ytmhiiomejopaoaa
set_option linter.all false
open Go.RowKit
set_option maxRecDepth 100000

def mkN (f : Nat → Int) : Nat → List Int
  | 0 => []
  | k + 1 => mkN f k ++ [f k]
theorem mkN_len (f : Nat → Int) : ∀ k, (mkN f k).length = k
  | 0 => rfl
  | k + 1 => by simp [mkN, mkN_len f k]
theorem mkN_gi (f : Nat → Int) : ∀ (k j : Nat), j < k → gi (mkN f k) j = f j
  | 0, j, h => absurd h (by omega)
  | k + 1, j, h => by
    unfold mkN
    by_cases e : j = k
    · subst e
      rw [gi_append_last _ _ _ (mkN_len f j).symm]
    · rw [gi_append_left _ _ _ (by rw [mkN_len]; omega), mkN_gi f k j (by omega)]
theorem weights_of {n : Nat} {w : List Int} (hn : n ≤ 50) (h1 : w.length = n) (h2 : ∀ i : Nat, i < n → -100000 ≤ gi w i ∧ gi w i ≤ 100000) (h3 : sumN (fun v => gi w v) n = 0) : weightsB n w = true := by
  have hs := sumW_eq (u := w) (b := fun _ => 100000) (fun i hi => h2 i (by omega)) (by rw [sumN_const]; omega)
  rw [h1, h3] at hs
  simp only [weightsB, Bool.and_eq_true, Bool.not_eq_true', decide_eq_true_eq, beq_iff_eq]
  refine ⟨List.any_eq_false.2 fun v hv => ?_, by omega, hs⟩
  obtain ⟨i, hi, e⟩ := List.mem_iff_getElem.1 hv
  have e2 : gi w i = v := by simp [gi, List.getD_eq_getElem?_getD, hi, e]
  have := h2 i (by omega)
  rw [e2] at this
  simpa [withinB] using this
theorem asked_of {n : Int} {l : List Lk} {w : List Int} (h1 : checkL n l = 0) (h2 : weightsB n w = true) : askedI n l w = 0 := by
  unfold askedI
  rw [if_neg (by simpa using h1), if_pos h2]
/-- The greatest weighted sum of a solution. -/
structure MaxAt (n : Nat) (l : List Lk) (w : List Int) (a : Int) : Prop where
  at_ : ∃ x : Int → Int, (∀ k : Nat, k < l.length → x (gl l k).b ≤ x (gl l k).a + (gl l k).m) ∧ sumN (fun v : Nat => gi w v * x v) n = a
  le : ∀ x : Int → Int, (∀ k : Nat, k < l.length → x (gl l k).b ≤ x (gl l k).a + (gl l k).m) → sumN (fun v : Nat => gi w v * x v) n ≤ a
theorem best_max {n : Nat} {l : List Lk} {w u x : List Int} (hS : NetS n l) (hl : l.length ≤ 60) (hw : w.length = n) (hwb : ∀ i : Nat, i < n → -100000 ≤ gi w i ∧ gi w i ≤ 100000) (hb : Best n l w u x) : MaxAt n l w (costI l u) ∧ -4000000000000000000 ≤ costI l u ∧ costI l u ≤ 4000000000000000000 := by
  have hlk : ∀ k : Nat, k < l.length → 0 ≤ (gl l k).a ∧ (gl l k).a < n ∧ 0 ≤ (gl l k).b ∧ (gl l k).b < n := fun k hk => by have := hS.lk k hk; omega
  obtain ⟨f1, f2⟩ := best_flow hS hl hw hwb hb
  have hF := flow_at hS hw hwb f1 f2
  have hc := sumN_abs (g := fun k : Nat => gi u k * (gl l k).m) (b := fun _ => 2000000 * 17179869184) l.length (fun k hk => mul_abs (by have := hb.u0 k; have := hb.ub k; omega) (by have := hS.lk k hk; omega))
  rw [sumN_const] at hc
  refine ⟨⟨⟨fun v => gi x v, fun k hk => ?_, ?_⟩, fun y hy => ?_⟩, ?_⟩
  · have := hb.s0 k hk
    unfold sl at this
    show gi x (gl l k).b ≤ gi x (gl l k).a + (gl l k).m
    omega
  · rw [hF.cost]
    refine strong hlk (x := fun v => gi x v) (fun k hk h => ?_) hF.cons
    have h1 := hb.tight k hk (by have := hb.u0 k; omega)
    unfold sl at h1
    show gi x (gl l k).b = gi x (gl l k).a + (gl l k).m
    omega
  · rw [hF.cost]
    exact weak hlk hy hF.u0 hF.cons
  · rw [hF.cost]; omega
/-- What Most returns, of a net that is asked. -/
theorem most_facts {n : Nat} {l : List Lk} {w : List Int} (ha : askedI n l w = 0) (hn : n ≤ 12) (hl : l.length ≤ 60) : ∃ r, MostP 2000000 n l w = some r ∧
    ((r = (0, 9) ∧ (solutionL n l).2 = false) ∨ (r = (0, 5) ∧ (solutionL n l).2 = true ∧ Cut n l w) ∨
     ∃ a u, r = (a, 0) ∧ (solutionL n l).2 = true ∧ (∀ k : Nat, k < l.length → 0 ≤ gi u k) ∧ (∀ v : Nat, v < n → net l u v = gi w v) ∧ MaxAt n l w a ∧ -4000000000000000000 ≤ a ∧ a ≤ 4000000000000000000) := by
  obtain ⟨hok, hw, hwb, hsum⟩ := asked_facts ha
  have hS := netOk_lk hok hn
  obtain ⟨r, hr, hc⟩ := best_facts ha hn
  refine ⟨mostV l r, by unfold MostP; rw [if_pos ha, Int.toNat_natCast, hr]; rfl, ?_⟩
  rcases hc with ⟨rfl, h1⟩ | ⟨rfl, h1, h2⟩ | ⟨u, x, rfl, h1, h2⟩
  · exact .inl ⟨rfl, h1⟩
  · exact .inr (.inl ⟨rfl, h1, h2⟩)
  · obtain ⟨m1, m2⟩ := best_max hS hl hw hwb h2
    exact .inr (.inr ⟨costI l u, u, rfl, h1, fun k _ => h2.u0 k, h2.cons, m1, m2⟩)
structure WeightsOk (n : Int) (l : List Lk) (p v : List Int) (kk : Int) (more : Lk) (rp rv rt rs rn : Int × Int) : Prop where
  mp : MostP 2000000 n l p = some rp
  mv : MostP 2000000 n l v = some rv
  mt : MostP 2000000 n l (mkN (fun j => wrap64 (kk * gi p j)) p.length) = some rt
  ms : MostP 2000000 n l (mkN (fun j => wrap64 (gi p j + gi v j)) p.length) = some rs
  mn : MostP 2000000 n l (mkN (fun j => wrap64 (0 - gi p j)) p.length) = some rn
  least : LeastP 2000000 n l p = some (wrap64 (-rn.1), rn.2)
  no : rp.2 ≠ 0 → kk = 0 ∨ rp.2 = rt.2
  t2 : rp.2 = 0 → rt.2 = 0
  t1 : rp.2 = 0 → rt.1 = wrap64 (kk * rp.1)
  s2 : rp.2 = 0 → rv.2 = 0 → rs.2 = 0
  s1 : rp.2 = 0 → rv.2 = 0 → rs.1 ≤ wrap64 (rp.1 + rv.1)
  w : rp.2 = 0 → (withR n l [more]).2 = 0 → ∃ ry, MostP 2000000 (withR n l [more]).1.1 (withR n l [more]).1.2 p = some ry ∧ (ry.2 = 9 ∨ (ry.2 = 0 ∧ ry.1 ≤ rp.1))
theorem gl_app_left (l m : List Lk) (i : Nat) (h : i < l.length) : gl (l ++ m) i = gl l i := by
  simp [gl, List.getD_eq_getElem?_getD, List.getElem?_append_left h]
theorem net_mk {l : List Lk} {g : Nat → Int} {v : Int} : net l (mkN g l.length) v = sumN (fun k => g k * (ind (gl l k).b v - ind (gl l k).a v)) l.length := by
  unfold net netP
  exact sumN_congr _ fun k hk => by rw [mkN_gi _ _ _ hk]
theorem weights_law (n : Int) (l : List Lk) (p v : List Int) (kk : Int) (more : Lk) (hp : askedI n l p = 0) (hv : askedI n l v = 0) (hsm : smallB n l.length = true) (hk0 : 0 ≤ kk) (hk5 : kk ≤ 5)
    (hr : ∀ j : Nat, j < p.length → (-9000 ≤ gi p j ∧ gi p j ≤ 9000) ∧ -9000 ≤ gi v j ∧ gi v j ≤ 9000) : ∃ rp rv rt rs rn, WeightsOk n l p v kk more rp rv rt rs rn := by
  have hn1 := (check_ok (asked_ok hp).1).n1
  obtain ⟨N, rfl⟩ : ∃ N : Nat, n = N := ⟨n.toNat, by omega⟩
  obtain ⟨hok, hpl, hpb, hps⟩ := asked_facts hp
  obtain ⟨_, hvl, hvb, hvs⟩ := asked_facts hv
  obtain ⟨hn, hl⟩ := small_ok hok hsm
  have hn : N ≤ 12 := by omega
  have hS := netOk_lk hok hn
  have hlk : ∀ k : Nat, k < l.length → 0 ≤ (gl l k).a ∧ (gl l k).a < N ∧ 0 ≤ (gl l k).b ∧ (gl l k).b < N := fun k hk => by have := hS.lk k hk; omega
  have hck : checkL N l = 0 := (asked_ok hp).1
  -- the three lists
  have et : ∀ j : Nat, j < N → gi (mkN (fun j => wrap64 (kk * gi p j)) p.length) j = kk * gi p j := by
    intro j hj
    rw [mkN_gi _ _ _ (by omega)]
    have h1 := (hr j (by omega)).1
    have h2 := mul_abs (a := kk) (b := gi p j) (A := 5) (B := 9000) (by omega) h1
    exact wrap_in (by omega)
  have es : ∀ j : Nat, j < N → gi (mkN (fun j => wrap64 (gi p j + gi v j)) p.length) j = gi p j + gi v j := by
    intro j hj
    rw [mkN_gi _ _ _ (by omega)]
    have h1 := hr j (by omega)
    exact wrap_in (by omega)
  have en : ∀ j : Nat, j < N → gi (mkN (fun j => wrap64 (0 - gi p j)) p.length) j = -1 * gi p j := by
    intro j hj
    rw [mkN_gi _ _ _ (by omega)]
    have h1 := hr j (by omega)
    rw [wrap_in (by omega)]; omega
  have ht : askedI N l (mkN (fun j => wrap64 (kk * gi p j)) p.length) = 0 := by
    refine asked_of hck (weights_of (by omega) (by rw [mkN_len]; exact hpl) (fun i hi => ?_) ?_)
    · rw [et i hi]
      have h1 := (hr i (by omega)).1
      have h2 := mul_abs (a := kk) (b := gi p i) (A := 5) (B := 9000) (by omega) h1
      omega
    · rw [sumN_congr N et, sumN_mul, hps, Int.mul_zero]
  have hs : askedI N l (mkN (fun j => wrap64 (gi p j + gi v j)) p.length) = 0 := by
    refine asked_of hck (weights_of (by omega) (by rw [mkN_len]; exact hpl) (fun i hi => ?_) ?_)
    · rw [es i hi]
      have h1 := hr i (by omega)
      omega
    · rw [sumN_congr N es, sumN_add, hps, hvs]; rfl
  have hnn : askedI N l (mkN (fun j => wrap64 (0 - gi p j)) p.length) = 0 := by
    refine asked_of hck (weights_of (by omega) (by rw [mkN_len]; exact hpl) (fun i hi => ?_) ?_)
    · rw [en i hi]
      have h1 := hr i (by omega)
      omega
    · rw [sumN_congr N en, sumN_mul, hps, Int.mul_zero]
  obtain ⟨rp, mp, cp⟩ := most_facts hp hn (by omega)
  obtain ⟨rv, mv, cv⟩ := most_facts hv hn (by omega)
  obtain ⟨rt, mt, ct⟩ := most_facts ht hn (by omega)
  obtain ⟨rs, ms, cs⟩ := most_facts hs hn (by omega)
  obtain ⟨rn, mn', cn⟩ := most_facts hnn hn (by omega)
  have htl : turnedL p = mkN (fun j => wrap64 (0 - gi p j)) p.length := by
    apply List.ext_getElem?
    intro i
    by_cases hi : i < p.length
    · rw [gi_get (l := turnedL p) (by rw [turned_length]; exact hi), gi_get (l := mkN (fun j => wrap64 (0 - gi p j)) p.length) (by rw [mkN_len]; exact hi), mkN_gi _ _ _ hi]
      have h3 := gi_get hi
      congr 1
      simp only [turnedL, gi_nat, List.getD_eq_getElem?_getD, List.getElem?_map]
      rw [h3]
      simp [gi_nat, List.getD_eq_getElem?_getD]
    · rw [List.getElem?_eq_none (by rw [turned_length]; omega), List.getElem?_eq_none (by rw [mkN_len]; omega)]
  refine ⟨rp, rv, rt, rs, rn, mp, mv, mt, ms, mn', ?_, ?_, ?_, ?_, ?_, ?_, ?_⟩
  · unfold LeastP
    rw [htl, mn']
    rfl
  · intro h0
    rcases cp with ⟨rfl, q1⟩ | ⟨rfl, q1, q2⟩ | ⟨a, u, rfl, _⟩
    · right
      rcases ct with ⟨rfl, _⟩ | ⟨rfl, t1, _⟩ | ⟨a, u, rfl, t1, _⟩
      · rfl
      · rw [q1] at t1; cases t1
      · rw [q1] at t1; cases t1
    · by_cases hk : kk = 0
      · exact .inl hk
      · right
        rcases ct with ⟨rfl, t1⟩ | ⟨rfl, t1, _⟩ | ⟨a, u, rfl, t1, t2, t3, _⟩
        · rw [q1] at t1; cases t1
        · rfl
        · exfalso
          obtain ⟨P, p1, p2⟩ := q2
          refine cut_none hlk (w := mkN (fun j => wrap64 (kk * gi p j)) p.length) ⟨P, p1, ?_⟩ t2 t3
          rw [sumN_congr (h := fun i : Nat => kk * (if P i = true then gi p i else 0)) N (fun i hi => by
            rw [et i hi]
            split
            · rfl
            · omega), sumN_mul]
          exact Int.mul_neg_of_pos_of_neg (by omega) p2
    · exact absurd rfl h0
  · intro h0
    rcases cp with ⟨rfl, _⟩ | ⟨rfl, _⟩ | ⟨a, u, rfl, q1, q2, q3, _⟩
    · cases h0
    · cases h0
    · rcases ct with ⟨rfl, t1⟩ | ⟨rfl, t1, t2⟩ | ⟨a, u, rfl, _⟩
      · rw [q1] at t1; cases t1
      · exfalso
        refine cut_none hlk t2 (u := mkN (fun k => kk * gi u k) l.length) (fun k hk => ?_) (fun i hi => ?_)
        · rw [mkN_gi _ _ _ hk]; exact Int.mul_nonneg hk0 (q2 k hk)
        · rw [net_mk, et i hi, ← q3 i hi]
          unfold net netP
          rw [← sumN_mul]
          exact sumN_congr _ fun k _ => Int.mul_assoc _ _ _
      · rfl
  · intro h0
    rcases cp with ⟨rfl, _⟩ | ⟨rfl, _⟩ | ⟨a, u, rfl, q1, q2, q3, q4, q5, q6⟩
    · cases h0
    · cases h0
    · rcases ct with ⟨rfl, t1⟩ | ⟨rfl, t1, t2⟩ | ⟨b, u', rfl, _, _, _, t4, t5, t6⟩
      · rw [q1] at t1; cases t1
      · exfalso
        refine cut_none hlk t2 (u := mkN (fun k => kk * gi u k) l.length) (fun k hk => ?_) (fun i hi => ?_)
        · rw [mkN_gi _ _ _ hk]; exact Int.mul_nonneg hk0 (q2 k hk)
        · rw [net_mk, et i hi, ← q3 i hi]
          unfold net netP
          rw [← sumN_mul]
          exact sumN_congr _ fun k _ => Int.mul_assoc _ _ _
      · have hsc : ∀ x : Int → Int, sumN (fun i : Nat => gi (mkN (fun j => wrap64 (kk * gi p j)) p.length) i * x i) N = kk * sumN (fun i : Nat => gi p i * x i) N := by
          intro x
          rw [← sumN_mul]
          exact sumN_congr _ fun i hi => by rw [et i hi, Int.mul_assoc]
        have e : b = kk * a := by
          obtain ⟨x, x1, x2⟩ := q4.at_
          obtain ⟨y, y1, y2⟩ := t4.at_
          have h1 := t4.le x x1
          rw [hsc, x2] at h1
          have h2 := q4.le y y1
          rw [hsc] at y2
          have h3 := Int.mul_le_mul_of_nonneg_left h2 hk0
          omega
        show b = wrap64 (kk * a)
        rw [← e]
        exact (wrap_in (by omega)).symm
  · intro h0 h1
    rcases cp with ⟨rfl, _⟩ | ⟨rfl, _⟩ | ⟨a, u, rfl, q1, q2, q3, _⟩
    · cases h0
    · cases h0
    · rcases cv with ⟨rfl, _⟩ | ⟨rfl, _⟩ | ⟨b, u', rfl, _, v2, v3, _⟩
      · cases h1
      · cases h1
      · rcases cs with ⟨rfl, t1⟩ | ⟨rfl, t1, t2⟩ | ⟨a, u, rfl, _⟩
        · rw [q1] at t1; cases t1
        · exfalso
          refine cut_none hlk t2 (u := mkN (fun k => gi u k + gi u' k) l.length) (fun k hk => ?_) (fun i hi => ?_)
          · rw [mkN_gi _ _ _ hk]
            have := q2 k hk
            have := v2 k hk
            omega
          · rw [net_mk, es i hi, ← q3 i hi, ← v3 i hi]
            unfold net netP
            rw [← sumN_add]
            exact sumN_congr _ fun k _ => Int.add_mul _ _ _
        · rfl
  · intro h0 h1
    rcases cp with ⟨rfl, _⟩ | ⟨rfl, _⟩ | ⟨a, u, rfl, q1, q2, q3, q4, q5, q6⟩
    · cases h0
    · cases h0
    · rcases cv with ⟨rfl, _⟩ | ⟨rfl, _⟩ | ⟨b, u', rfl, _, v2, v3, v4, v5, v6⟩
      · cases h1
      · cases h1
      · show rs.1 ≤ wrap64 (a + b)
        rw [wrap_in (by omega)]
        rcases cs with ⟨rfl, t1⟩ | ⟨rfl, t1, t2⟩ | ⟨c, u2, rfl, _, _, _, t4, _⟩
        · rw [q1] at t1; cases t1
        · exfalso
          refine cut_none hlk t2 (u := mkN (fun k => gi u k + gi u' k) l.length) (fun k hk => ?_) (fun i hi => ?_)
          · rw [mkN_gi _ _ _ hk]
            have := q2 k hk
            have := v2 k hk
            omega
          · rw [net_mk, es i hi, ← q3 i hi, ← v3 i hi]
            unfold net netP
            rw [← sumN_add]
            exact sumN_congr _ fun k _ => Int.add_mul _ _ _
        · obtain ⟨x, x1, x2⟩ := t4.at_
          have h2 := q4.le x x1
          have h3 := v4.le x x1
          rw [sumN_congr (h := fun i : Nat => gi p i * x i + gi v i * x i) N (fun i hi => by rw [es i hi, Int.add_mul]), sumN_add] at x2
          show c ≤ a + b
          omega
  · intro h0 h1
    rcases cp with ⟨rfl, _⟩ | ⟨rfl, _⟩ | ⟨a, u, rfl, q1, q2, q3, q4, q5, q6⟩
    · cases h0
    · cases h0
    · have hw : withR N l [more] = if checkL N (l ++ [more]) ≠ 0 then ((0, []), checkL N (l ++ [more])) else (((N : Int), l ++ [more]), 0) := by
        unfold withR; rw [if_neg (by simpa using hck)]
      rw [hw] at h1 ⊢
      by_cases hc2 : checkL N (l ++ [more]) = 0
      · rw [if_neg (by simpa using hc2)] at h1 ⊢
        show ∃ ry, MostP 2000000 N (l ++ [more]) p = some ry ∧ _
        have ha2 : askedI N (l ++ [more]) p = 0 := asked_of hc2 (asked_ok hp).2
        have hok2 := check_ok hc2
        have hS2 := netOk_lk hok2 hn
        have hll : (l ++ [more]).length = l.length + 1 := by simp
        have hlk2 : ∀ k : Nat, k < (l ++ [more]).length → 0 ≤ (gl (l ++ [more]) k).a ∧ (gl (l ++ [more]) k).a < N ∧ 0 ≤ (gl (l ++ [more]) k).b ∧ (gl (l ++ [more]) k).b < N := fun k hk => by have := hS2.lk k hk; omega
        obtain ⟨ry, my, cy⟩ := most_facts ha2 hn (by omega)
        refine ⟨ry, my, ?_⟩
        rcases cy with ⟨rfl, _⟩ | ⟨rfl, t1, t2⟩ | ⟨c, u2, rfl, _, _, _, t4, _⟩
        · exact .inl rfl
        · exfalso
          refine cut_none hlk2 t2 (u := mkN (fun k => if k < l.length then gi u k else 0) (l ++ [more]).length) (fun k hk => ?_) (fun i hi => ?_)
          · rw [mkN_gi _ _ _ hk]
            split
            · exact q2 k (by assumption)
            · omega
          · rw [net_mk, ← q3 i hi, hll]
            show sumN _ l.length + _ = net l u i
            unfold net netP
            simp only [Nat.lt_irrefl, if_false, Int.zero_mul, Int.add_zero]
            exact sumN_congr _ fun k hk => by rw [if_pos hk, gl_app_left _ _ _ hk]
        · right
          refine ⟨rfl, ?_⟩
          obtain ⟨x, x1, x2⟩ := t4.at_
          have h2 := q4.le x fun k hk => by
            have := x1 k (by omega)
            rw [gl_app_left _ _ _ hk] at this
            exact this
          show c ≤ a
          omega
      · rw [if_pos (by simpa using hc2)] at h1
        exact absurd h1 hc2
end Go.Proofs.Ytmhiiomejopaoaa
