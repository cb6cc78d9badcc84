/- The flow laws: a net without a solution has a short closed walk below 0; the rows of the search. -/
import Derived.Test.YtmhiiomejopaoaaW7
namespace Go.Proofs.Ytmhiiomejopaoaa
set_option linter.all false
open Go.RowKit
set_option maxRecDepth 100000

/-- A walk from s by indices of links, its end and its sum. -/
inductive WI (l : List Lk) (s : Int) : List Int → Int → Int → Prop
  | nil : WI l s [] s 0
  | snoc {P : List Int} {v c i : Int} : WI l s P v c → 0 ≤ i → i < l.length → (gl l i).a = v → WI l s (P ++ [i]) (gl l i).b (c + (gl l i).m)
def endW (l : List Lk) (s : Int) (P : List Int) : Int := P.foldl (fun _ i => (gl l i).b) s
section
variable {n : Nat} {l : List Lk} {s : Int}
theorem WI.end_ {P : List Int} {v c : Int} (h : WI l s P v c) : v = endW l s P := by
  cases h with
  | nil => rfl
  | snoc h1 h2 h3 h4 => unfold endW; rw [List.foldl_append]; rfl
theorem WI.app {P Q : List Int} {u v c d : Int} (h : WI l s P u c) (k : WI l u Q v d) : WI l s (P ++ Q) v (c + d) := by
  induction k with
  | nil => simpa using h
  | snoc k1 k2 k3 k4 ih =>
    rw [← List.append_assoc, ← Int.add_assoc]
    exact .snoc ih k2 k3 k4
theorem WI.split {R : List Int} {v c : Int} (h : WI l s R v c) : ∀ P Q, R = P ++ Q → ∃ u c1 c2, WI l s P u c1 ∧ WI l u Q v c2 ∧ c = c1 + c2 := by
  induction h with
  | nil =>
    intro P Q e
    obtain ⟨rfl, rfl⟩ := List.append_eq_nil_iff.1 e.symm
    exact ⟨s, 0, 0, .nil, .nil, rfl⟩
  | snoc h1 h2 h3 h4 ih =>
    rename_i P0 v0 c0 i
    intro P Q e
    rcases List.eq_nil_or_concat Q with rfl | ⟨Q', i', rfl⟩
    · rw [List.append_nil] at e
      subst e
      exact ⟨_, _, 0, .snoc h1 h2 h3 h4, .nil, by omega⟩
    · rw [List.concat_eq_append, ← List.append_assoc] at e
      obtain ⟨e1, e2⟩ := List.append_inj' e rfl
      have e3 : i = i' := by simpa using e2
      subst e3
      obtain ⟨u, c1, c2, q1, q2, q3⟩ := ih P Q' e1
      refine ⟨u, c1, c2 + (gl l i).m, q1, ?_, by omega⟩
      rw [List.concat_eq_append]
      exact .snoc q2 h2 h3 h4
theorem WI.le {P : List Int} {v c : Int} {x : Int → Int} (hf : ∀ k : Nat, k < l.length → x (gl l k).b ≤ x (gl l k).a + (gl l k).m) (h : WI l s P v c) : x v ≤ x s + c := by
  induction h with
  | nil => omega
  | snoc h1 h2 h3 h4 ih =>
    rename_i P0 v0 c0 i
    have := hf i.toNat (by omega)
    rw [show ((i.toNat : Nat) : Int) = i by omega] at this
    rw [← h4] at ih
    omega
theorem WI.in_ (hin : ∀ k : Nat, k < l.length → InR n (gl l k)) (h0 : 0 ≤ s) (h1 : s < n) {P : List Int} {v c : Int} (h : WI l s P v c) : 0 ≤ v ∧ v < n := by
  cases h with
  | nil => exact ⟨h0, h1⟩
  | snoc q1 q2 q3 q4 =>
    rename_i P0 v0 c0 i
    have := hin i.toNat (by omega)
    rw [show ((i.toNat : Nat) : Int) = i by omega] at this
    exact ⟨this.2.2.1, this.2.2.2⟩
theorem WI.bound {C : Int} (hm : ∀ k : Nat, k < l.length → -C ≤ (gl l k).m ∧ (gl l k).m ≤ C) {P : List Int} {v c : Int} (h : WI l s P v c) : -(P.length * C) ≤ c ∧ c ≤ P.length * C := by
  induction h with
  | nil => simp
  | snoc h1 h2 h3 h4 ih =>
    rename_i P0 v0 c0 i
    have := hm i.toNat (by omega)
    rw [show ((i.toNat : Nat) : Int) = i by omega] at this
    have e : (((P0 ++ [i]).length : Nat) : Int) * C = (P0.length : Int) * C + C := by
      rw [List.length_append, List.length_singleton, show ((P0.length + 1 : Nat) : Int) = (P0.length : Int) + 1 by omega, Int.add_mul, Int.one_mul]
    rw [e]
    omega
end
theorem pigeon : ∀ (n : Nat) (N : Nat → Nat), (∀ j, j ≤ n → N j < n) → ∃ i j, i < j ∧ j ≤ n ∧ N i = N j
  | 0, N, h => absurd (h 0 (Nat.le_refl _)) (by omega)
  | n + 1, N, h => by
    by_cases hex : ∃ i, i ≤ n ∧ N i = N (n + 1)
    · obtain ⟨i, hi, e⟩ := hex
      exact ⟨i, n + 1, by omega, Nat.le_refl _, e⟩
    · have hno : ∀ i, i ≤ n → N i ≠ N (n + 1) := fun i hi e => hex ⟨i, hi, e⟩
      obtain ⟨i, j, h1, h2, h3⟩ := pigeon n (fun i => if N i = n then N (n + 1) else N i) (fun j hj => by
        have q1 := h j (by omega)
        have q2 := h (n + 1) (Nat.le_refl _)
        have q3 := hno j hj
        show (if N j = n then N (n + 1) else N j) < n
        split <;> omega)
      refine ⟨i, j, h1, by omega, ?_⟩
      have q1 := hno i (by omega)
      have q2 := hno j (by omega)
      change (if N i = n then N (n + 1) else N i) = (if N j = n then N (n + 1) else N j) at h3
      split at h3 <;> split at h3 <;> omega
/-- A least element of a set of whole numbers that is bounded below. -/
theorem least_int {S : Int → Prop} {B : Int} (hB : ∀ c, S c → B ≤ c) (hne : ∃ c, S c) : ∃ c, S c ∧ ∀ d, S d → c ≤ d := by
  have key : ∀ k : Nat, ∀ c, S c → c - B ≤ k → ∃ c, S c ∧ ∀ d, S d → c ≤ d := by
    intro k
    induction k with
    | zero =>
      intro c hc hk
      exact ⟨c, hc, fun d hd => by have := hB d hd; omega⟩
    | succ k ih =>
      intro c hc hk
      by_cases hex : ∃ d, S d ∧ d < c
      · obtain ⟨d, hd, hlt⟩ := hex
        exact ih d hd (by omega)
      · exact ⟨c, hc, fun d hd => Classical.byContradiction fun h => hex ⟨d, hd, by omega⟩⟩
  obtain ⟨c, hc⟩ := hne
  exact key (c - B).toNat c hc (by have := hB c hc; omega)
/-- A net without a solution has a closed walk below 0 of at most as many links as nodes. -/
theorem neg_walk {n : Nat} {l : List Lk} (hok : NetOk n l) (hno : (solutionL n l).2 = false) : ∃ (s : Int) (P : List Int) (c : Int), 0 ≤ s ∧ s < n ∧ WI l s P s c ∧ c < 0 ∧ 1 ≤ P.length ∧ P.length ≤ n := by
  refine Classical.byContradiction fun hneg => ?_
  have hin : ∀ k : Nat, k < l.length → InR n (gl l k) := fun k hk => (hok.lk (gl l k) (gl_mem (l := l) (i := (k : Int)) (by omega) (by omega))).1
  have hmb : ∀ k : Nat, k < l.length → -17179869184 ≤ (gl l k).m ∧ (gl l k).m ≤ 17179869184 := fun k hk => (hok.lk (gl l k) (gl_mem (l := l) (i := (k : Int)) (by omega) (by omega))).2.2
  have hn1 := hok.n1
  have hn2 := hok.n2
  have hcl : ∀ (s : Int) (P : List Int) (c : Int), 0 ≤ s → s < n → WI l s P s c → 1 ≤ P.length → P.length ≤ n → 0 ≤ c := fun s P c h0 h1 h2 h3 h4 => Classical.byContradiction fun h => hneg ⟨s, P, c, h0, h1, h2, by omega, h3, h4⟩
  have hmin : ∀ v : Int, 0 ≤ v → v < n → ∃ c, (∃ (s : Int) (P : List Int), 0 ≤ s ∧ s < n ∧ WI l s P v c ∧ P.length + 1 ≤ n) ∧ ∀ d, (∃ (s : Int) (P : List Int), 0 ≤ s ∧ s < n ∧ WI l s P v d ∧ P.length + 1 ≤ n) → c ≤ d := by
    intro v v0 v1
    refine least_int (B := -(858993459200 : Int)) (fun c hc => ?_) ⟨0, v, [], v0, v1, .nil, by simp; omega⟩
    obtain ⟨s, P, _, _, hw, hP⟩ := hc
    have := (hw.bound hmb).1
    have h2 : (P.length : Int) * 17179869184 ≤ 50 * 17179869184 := Int.mul_le_mul_of_nonneg_right (by omega) (by omega)
    omega
  have hpot : ∃ p : Int → Int, ∀ v : Int, 0 ≤ v → v < n → (∃ (s : Int) (P : List Int), 0 ≤ s ∧ s < n ∧ WI l s P v (p v) ∧ P.length + 1 ≤ n) ∧ ∀ d, (∃ (s : Int) (P : List Int), 0 ≤ s ∧ s < n ∧ WI l s P v d ∧ P.length + 1 ≤ n) → p v ≤ d := by
    refine ⟨fun v => if h : 0 ≤ v ∧ v < n then (hmin v h.1 h.2).choose else 0, fun v v0 v1 => ?_⟩
    have := (hmin v v0 v1).choose_spec
    simp only [show (0 ≤ v ∧ v < (n : Int)) from ⟨v0, v1⟩, and_self, dite_true]
    exact this
  obtain ⟨p, hp⟩ := hpot
  have hfeas : ∀ k : Nat, k < l.length → p (gl l k).b ≤ p (gl l k).a + (gl l k).m := by
    intro k hk
    obtain ⟨a0, a1, b0, b1⟩ := hin k hk
    obtain ⟨⟨s, P, s0, s1, hw, hP⟩, _⟩ := hp _ a0 a1
    have hw2 : WI l s (P ++ [(k : Int)]) (gl l k).b (p (gl l k).a + (gl l k).m) := .snoc hw (by omega) (by omega) rfl
    by_cases hlen : P.length + 2 ≤ n
    · exact (hp _ b0 b1).2 _ ⟨s, _, s0, s1, hw2, by simp; omega⟩
    · have hl : (P ++ [(k : Int)]).length = n := by simp; omega
      generalize P ++ [(k : Int)] = R at hw2 hl
      obtain ⟨i, j, hij, hjn, he⟩ := pigeon n (fun j => (endW l s (R.take j)).toNat) (fun j hj => by
        obtain ⟨u, c1, c2, q1, _, _⟩ := hw2.split (R.take j) (R.drop j) (by simp)
        have h1 := q1.in_ hin s0 s1
        rw [q1.end_] at h1
        show (endW l s (R.take j)).toNat < n
        omega)
      obtain ⟨u, c1, c2, q1, q2, q3⟩ := hw2.split (R.take i) (R.drop i) (by simp)
      obtain ⟨u', d1, d2, r1, r2, r3⟩ := q2.split ((R.drop i).take (j - i)) ((R.drop i).drop (j - i)) (List.take_append_drop _ _).symm
      have hu := q1.in_ hin s0 s1
      have hu' := r1.in_ hin hu.1 hu.2
      have hw3 := q1.app r1
      have ht : R.take i ++ (R.drop i).take (j - i) = R.take j := by
        rw [← List.take_add, show i + (j - i) = j by omega]
      rw [ht] at hw3
      have e1 : u = endW l s (R.take i) := q1.end_
      have e2 : u' = endW l s (R.take j) := hw3.end_
      have e3 : (endW l s (R.take i)).toNat = (endW l s (R.take j)).toNat := he
      have e4 : u = u' := by
        rw [e1] at hu
        rw [e2] at hu'
        rw [e1, e2]
        omega
      subst e4
      have h0 := hcl u _ d1 hu.1 hu.2 r1 (by simp; omega) (by simp; omega)
      have h5 := (hp _ b0 b1).2 (c1 + d2) ⟨s, _, s0, s1, q1.app r2, by simp; omega⟩
      omega
  have := sol_any hok (x := p) fun k hk => by
    obtain ⟨j, hj, e⟩ := mem_gl hk
    rw [← e]
    exact hfeas j hj
  rw [hno] at this
  cases this
end Go.Proofs.Ytmhiiomejopaoaa
