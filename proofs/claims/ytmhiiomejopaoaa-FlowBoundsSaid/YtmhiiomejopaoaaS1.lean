/- Plain facts on systems of differences: solutions, and bounds. -/
import Derived.Test.YtmhiiomejopaoaaR3
import Derived.Test.YtmhiiomejopaoaaR2
import Derived.Test.YtmhiiomejopaoaaR4
namespace Go.Proofs.Ytmhiiomejopaoaa
set_option linter.all false
open Go.RowKit
set_option maxRecDepth 100000

theorem wrap_in {a : Int} (h : -9223372036854775808 ≤ a ∧ a ≤ 9223372036854775807) : wrap64 a = a := IntWalk.wrap64_in _ h
theorem gi_set_eq {z : List Int} {b v x : Int} (hb0 : 0 ≤ b) (hb : b < z.length) (hv : 0 ≤ v) : gi (si z b x) v = if v = b then x else gi z v := by
  simp only [gi, si, List.getD_eq_getElem?_getD, List.getElem?_set]
  by_cases e : v = b
  · subst e
    rw [if_pos rfl, if_pos rfl, if_pos (by omega)]
    rfl
  · rw [if_neg (by omega), if_neg e]
theorem si_same {z : List Int} {b : Int} (hb0 : 0 ≤ b) (hb : b < z.length) : si z b (gi z b) = z := by
  apply List.ext_getElem?
  intro i
  simp only [gi, si, List.getElem?_set, List.getD_eq_getElem?_getD]
  by_cases e : b.toNat = i
  · subst e
    rw [if_pos rfl, if_pos (by omega)]
    have : b.toNat < z.length := by omega
    simp [this]
  · rw [if_neg e]
/-! Rounds of settled. -/
theorem relax_flag (s : List Int × Bool) (k : Lk) (h : s.2 = true) : (relax s k).2 = true := by
  unfold relax; split
  · rfl
  · exact h
theorem fold_flag (l : List Lk) : ∀ s : List Int × Bool, s.2 = true → (l.foldl relax s).2 = true := by
  induction l with
  | nil => intro s h; exact h
  | cons k l ih => intro s h; rw [List.foldl_cons]; exact ih _ (relax_flag s k h)
/-- A round that turned nothing: nothing was to be turned. -/
theorem fold_still (l : List Lk) : ∀ s : List Int × Bool, (l.foldl relax s).2 = false → l.foldl relax s = s ∧ ∀ k ∈ l, gi s.1 k.a = free ∨ overB s.1 k = false := by
  induction l with
  | nil => intro s _; exact ⟨rfl, by simp⟩
  | cons k l ih =>
    intro s h
    rw [List.foldl_cons] at h ⊢
    have h2 : (relax s k).2 = false := by
      cases hq : (relax s k).2
      · rfl
      · rw [fold_flag l _ hq] at h; cases h
    have h3 : relax s k = s ∧ (gi s.1 k.a = free ∨ overB s.1 k = false) := by
      unfold relax at h2 ⊢
      split at h2
      · cases h2
      · rename_i hc
        rw [if_neg hc]
        refine ⟨rfl, ?_⟩
        by_cases e : gi s.1 k.a = free
        · exact .inl e
        · right
          cases ho : overB s.1 k
          · rfl
          · exact absurd ⟨e, ho⟩ hc
    rw [h3.1] at h ⊢
    obtain ⟨h4, h5⟩ := ih s h
    refine ⟨h4, fun q hq => ?_⟩
    rcases List.mem_cons.1 hq with rfl | hq
    · exact h3.2
    · exact h5 q hq
theorem settledN_true (l : List Lk) : ∀ (r : Nat) (x : List Int), (settledN l r x).2 = true → ∀ k ∈ l, gi (settledN l r x).1 k.a = free ∨ overB (settledN l r x).1 k = false
  | 0, x, h => by simp [settledN] at h
  | r + 1, x, h => by
    unfold settledN at h ⊢
    by_cases hq : (roundOf l x).2 = true
    · rw [if_pos hq] at h ⊢
      exact settledN_true l r _ h
    · rw [if_neg hq] at h ⊢
      have h1 : (l.foldl relax (x, false)).2 = false := by simpa [roundOf] using hq
      obtain ⟨h2, h3⟩ := fold_still l (x, false) h1
      show ∀ k ∈ l, gi (roundOf l x).1 k.a = free ∨ overB (roundOf l x).1 k = false
      unfold roundOf
      rw [h2]
      exact h3
theorem nonpos_settled (l : List Lk) : ∀ (r : Nat) (x : List Int), NonPos x → NonPos (settledN l r x).1
  | 0, x, h => h
  | r + 1, x, h => by
    have h1 : NonPos (roundOf l x).1 := nonpos_fold (s := (x, false)) h
    unfold settledN
    split
    · exact nonpos_settled l r _ h1
    · exact h1
/-- Not less than j steps below 0. -/
def LowB (j : Nat) (z : List Int) : Prop := ∀ i : Int, -((j : Int) * 17179869184) ≤ gi z i
theorem low_mono {i j : Nat} {z : List Int} (h : LowB i z) (hij : i ≤ j) : LowB j z := fun v => by have := h v; omega
theorem low_si {j : Nat} {z : List Int} {b v : Int} (h : LowB j z) (hv : -((j : Int) * 17179869184) ≤ v) : LowB j (si z b v) := by
  intro i
  have := h i
  simp only [gi, si, List.getD_eq_getElem?_getD, List.getElem?_set] at this ⊢
  split
  · split
    · simpa using hv
    · simp; omega
  · exact this
theorem low_relax {j : Nat} {s : List Int × Bool} {k : Lk} (h : LowB j s.1) (hn : NonPos s.1) (hj : j ≤ 100000) (hm : -17179869184 ≤ k.m ∧ k.m ≤ 17179869184) : LowB (j + 1) (relax s k).1 := by
  unfold relax
  split
  · refine low_si (low_mono h (by omega)) ?_
    have h1 := h k.a
    have h2 := hn k.a
    rw [wrap_in (by omega)]
    omega
  · exact low_mono h (by omega)
theorem low_fold (l : List Lk) : ∀ (j : Nat) (s : List Int × Bool), LowB j s.1 → NonPos s.1 → j + l.length ≤ 100000 → (∀ k ∈ l, -17179869184 ≤ k.m ∧ k.m ≤ 17179869184) → LowB (j + l.length) (l.foldl relax s).1 := by
  induction l with
  | nil => intro j s h _ _ _; exact h
  | cons k l ih =>
    intro j s h hn hj hm
    simp only [List.length_cons] at hj ⊢
    have h1 := low_relax (k := k) h hn (by omega) (hm k (by simp))
    have := ih (j + 1) _ h1 (nonpos_relax hn) (by omega) (fun q hq => hm q (by simp [hq]))
    rw [List.foldl_cons]
    exact low_mono this (by omega)
theorem low_settled (l : List Lk) (hm : ∀ k ∈ l, -17179869184 ≤ k.m ∧ k.m ≤ 17179869184) (r : Nat) : ∀ (j : Nat) (x : List Int), LowB j x → NonPos x → j + r * l.length ≤ 100000 → LowB (j + r * l.length) (settledN l r x).1 := by
  induction r with
  | zero => intro j x h _ _; simpa [settledN] using h
  | succ r ih =>
    intro j x h hn hj
    rw [Nat.add_mul, Nat.one_mul] at hj ⊢
    have h1 : LowB (j + l.length) (roundOf l x).1 := low_fold l j (x, false) h hn (by omega) hm
    have h2 : NonPos (roundOf l x).1 := nonpos_fold (s := (x, false)) hn
    unfold settledN
    split
    · exact low_mono (ih (j + l.length) _ h1 h2 (by omega)) (by omega)
    · exact low_mono h1 (by omega)
/-- A solution: a potential. -/
structure Pot (n : Nat) (l : List Lk) (p : Int → Int) : Prop where
  fit : ∀ k ∈ l, p k.b ≤ p k.a + k.m
  lo : ∀ v, -1000000000000000 ≤ p v
  hi : ∀ v, p v ≤ 0
theorem solution_pot {n : Nat} {l : List Lk} (hok : NetOk n l) (h : (solutionL n l).2 = true) : Pot n l (fun v => gi (solutionL n l).1 v) := by
  have hm : ∀ k ∈ l, -17179869184 ≤ k.m ∧ k.m ≤ 17179869184 := fun k hk => (hok.lk k hk).2.2
  have hn := nonpos_settled l (n + 1) (List.replicate n 0) (nonpos_rep n)
  have h0 : LowB 0 (List.replicate n 0) := by
    intro i
    simp only [gi, List.getD_eq_getElem?_getD, List.getElem?_replicate]
    split <;> simp
  have hn2 := hok.n2
  have hl1 := hok.l1
  have hb : (n + 1) * l.length ≤ 51 * 260 := Nat.mul_le_mul (by omega) hl1
  have hlo := low_settled l hm (n + 1) 0 _ h0 (nonpos_rep n) (by omega)
  have e : solutionL n l = settledN l (n + 1) (List.replicate n 0) := by unfold solutionL settled; simp
  rw [e] at h
  have hf := settledN_true l _ _ h
  refine ⟨fun k hk => ?_, fun v => ?_, fun v => ?_⟩
  · show gi (solutionL n l).1 k.b ≤ gi (solutionL n l).1 k.a + k.m
    rw [e]
    have h1 := hlo k.a
    have h2 := hn k.a
    have h3 := hm k hk
    rcases hf k hk with h4 | h4
    · unfold free at h4; omega
    · unfold overB at h4
      rw [wrap_in (by omega)] at h4
      simpa using h4
  · show -1000000000000000 ≤ gi (solutionL n l).1 v
    rw [e]; have := hlo v; omega
  · show gi (solutionL n l).1 v ≤ 0
    rw [e]; exact hn v
end Go.Proofs.Ytmhiiomejopaoaa
