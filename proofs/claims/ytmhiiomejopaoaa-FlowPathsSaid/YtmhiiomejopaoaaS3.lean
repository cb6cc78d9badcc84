/- Plain facts on systems of differences: the program's and the reference's bounds come to the same rest. -/
import Derived.Test.YtmhiiomejopaoaaR4
namespace Go.Proofs.Ytmhiiomejopaoaa
set_option linter.all false
open Go.RowKit
set_option maxRecDepth 100000

theorem wrap_in {a : Int} (h : -9223372036854775808 ≤ a ∧ a ≤ 9223372036854775807) : wrap64 a = a := IntWalk.wrap64_in _ h
theorem gi_set_eq {z : List Int} {b v x : Int} (hb0 : 0 ≤ b) (hb : b < z.length) (hv : 0 ≤ v) : gi (si z b x) v = if v = b then x else gi z v := by
  simp only [gi, si, List.getD_eq_getElem?_getD, List.getElem?_set]
  by_cases e : v = b
  · subst e
    rw [if_pos rfl, if_pos rfl, if_pos (by omega)]
    rfl
  · rw [if_neg (by omega), if_neg e]
theorem si_same {z : List Int} {b : Int} (hb0 : 0 ≤ b) (hb : b < z.length) : si z b (gi z b) = z := by
  apply List.ext_getElem?
  intro i
  simp only [gi, si, List.getElem?_set, List.getD_eq_getElem?_getD]
  by_cases e : b.toNat = i
  · subst e
    rw [if_pos rfl, if_pos (by omega)]
    have : b.toNat < z.length := by omega
    simp [this]
  · rw [if_neg e]
/-! Rounds of settled. -/
theorem relax_flag (s : List Int × Bool) (k : Lk) (h : s.2 = true) : (relax s k).2 = true := by
  unfold relax; split
  · rfl
  · exact h
theorem fold_flag (l : List Lk) : ∀ s : List Int × Bool, s.2 = true → (l.foldl relax s).2 = true := by
  induction l with
  | nil => intro s h; exact h
  | cons k l ih => intro s h; rw [List.foldl_cons]; exact ih _ (relax_flag s k h)
/-- A round that turned nothing: nothing was to be turned. -/
theorem fold_still (l : List Lk) : ∀ s : List Int × Bool, (l.foldl relax s).2 = false → l.foldl relax s = s ∧ ∀ k ∈ l, gi s.1 k.a = free ∨ overB s.1 k = false := by
  induction l with
  | nil => intro s _; exact ⟨rfl, by simp⟩
  | cons k l ih =>
    intro s h
    rw [List.foldl_cons] at h ⊢
    have h2 : (relax s k).2 = false := by
      cases hq : (relax s k).2
      · rfl
      · rw [fold_flag l _ hq] at h; cases h
    have h3 : relax s k = s ∧ (gi s.1 k.a = free ∨ overB s.1 k = false) := by
      unfold relax at h2 ⊢
      split at h2
      · cases h2
      · rename_i hc
        rw [if_neg hc]
        refine ⟨rfl, ?_⟩
        by_cases e : gi s.1 k.a = free
        · exact .inl e
        · right
          cases ho : overB s.1 k
          · rfl
          · exact absurd ⟨e, ho⟩ hc
    rw [h3.1] at h ⊢
    obtain ⟨h4, h5⟩ := ih s h
    refine ⟨h4, fun q hq => ?_⟩
    rcases List.mem_cons.1 hq with rfl | hq
    · exact h3.2
    · exact h5 q hq
theorem settledN_true (l : List Lk) : ∀ (r : Nat) (x : List Int), (settledN l r x).2 = true → ∀ k ∈ l, gi (settledN l r x).1 k.a = free ∨ overB (settledN l r x).1 k = false
  | 0, x, h => by simp [settledN] at h
  | r + 1, x, h => by
    unfold settledN at h ⊢
    by_cases hq : (roundOf l x).2 = true
    · rw [if_pos hq] at h ⊢
      exact settledN_true l r _ h
    · rw [if_neg hq] at h ⊢
      have h1 : (l.foldl relax (x, false)).2 = false := by simpa [roundOf] using hq
      obtain ⟨h2, h3⟩ := fold_still l (x, false) h1
      show ∀ k ∈ l, gi (roundOf l x).1 k.a = free ∨ overB (roundOf l x).1 k = false
      unfold roundOf
      rw [h2]
      exact h3
theorem nonpos_settled (l : List Lk) : ∀ (r : Nat) (x : List Int), NonPos x → NonPos (settledN l r x).1
  | 0, x, h => h
  | r + 1, x, h => by
    have h1 : NonPos (roundOf l x).1 := nonpos_fold (s := (x, false)) h
    unfold settledN
    split
    · exact nonpos_settled l r _ h1
    · exact h1
/-- Not less than j steps below 0. -/
def LowB (j : Nat) (z : List Int) : Prop := ∀ i : Int, -((j : Int) * 17179869184) ≤ gi z i
theorem low_mono {i j : Nat} {z : List Int} (h : LowB i z) (hij : i ≤ j) : LowB j z := fun v => by have := h v; omega
theorem low_si {j : Nat} {z : List Int} {b v : Int} (h : LowB j z) (hv : -((j : Int) * 17179869184) ≤ v) : LowB j (si z b v) := by
  intro i
  have := h i
  simp only [gi, si, List.getD_eq_getElem?_getD, List.getElem?_set] at this ⊢
  split
  · split
    · simpa using hv
    · simp; omega
  · exact this
theorem low_relax {j : Nat} {s : List Int × Bool} {k : Lk} (h : LowB j s.1) (hn : NonPos s.1) (hj : j ≤ 100000) (hm : -17179869184 ≤ k.m ∧ k.m ≤ 17179869184) : LowB (j + 1) (relax s k).1 := by
  unfold relax
  split
  · refine low_si (low_mono h (by omega)) ?_
    have h1 := h k.a
    have h2 := hn k.a
    rw [wrap_in (by omega)]
    omega
  · exact low_mono h (by omega)
theorem low_fold (l : List Lk) : ∀ (j : Nat) (s : List Int × Bool), LowB j s.1 → NonPos s.1 → j + l.length ≤ 100000 → (∀ k ∈ l, -17179869184 ≤ k.m ∧ k.m ≤ 17179869184) → LowB (j + l.length) (l.foldl relax s).1 := by
  induction l with
  | nil => intro j s h _ _ _; exact h
  | cons k l ih =>
    intro j s h hn hj hm
    simp only [List.length_cons] at hj ⊢
    have h1 := low_relax (k := k) h hn (by omega) (hm k (by simp))
    have := ih (j + 1) _ h1 (nonpos_relax hn) (by omega) (fun q hq => hm q (by simp [hq]))
    rw [List.foldl_cons]
    exact low_mono this (by omega)
theorem low_settled (l : List Lk) (hm : ∀ k ∈ l, -17179869184 ≤ k.m ∧ k.m ≤ 17179869184) (r : Nat) : ∀ (j : Nat) (x : List Int), LowB j x → NonPos x → j + r * l.length ≤ 100000 → LowB (j + r * l.length) (settledN l r x).1 := by
  induction r with
  | zero => intro j x h _ _; simpa [settledN] using h
  | succ r ih =>
    intro j x h hn hj
    rw [Nat.add_mul, Nat.one_mul] at hj ⊢
    have h1 : LowB (j + l.length) (roundOf l x).1 := low_fold l j (x, false) h hn (by omega) hm
    have h2 : NonPos (roundOf l x).1 := nonpos_fold (s := (x, false)) hn
    unfold settledN
    split
    · exact low_mono (ih (j + l.length) _ h1 h2 (by omega)) (by omega)
    · exact low_mono h1 (by omega)
/-- A solution: a potential. -/
structure Pot (n : Nat) (l : List Lk) (p : Int → Int) : Prop where
  fit : ∀ k ∈ l, p k.b ≤ p k.a + k.m
  lo : ∀ v, -1000000000000000 ≤ p v
  hi : ∀ v, p v ≤ 0
theorem solution_pot {n : Nat} {l : List Lk} (hok : NetOk n l) (h : (solutionL n l).2 = true) : Pot n l (fun v => gi (solutionL n l).1 v) := by
  have hm : ∀ k ∈ l, -17179869184 ≤ k.m ∧ k.m ≤ 17179869184 := fun k hk => (hok.lk k hk).2.2
  have hn := nonpos_settled l (n + 1) (List.replicate n 0) (nonpos_rep n)
  have h0 : LowB 0 (List.replicate n 0) := by
    intro i
    simp only [gi, List.getD_eq_getElem?_getD, List.getElem?_replicate]
    split <;> simp
  have hn2 := hok.n2
  have hl1 := hok.l1
  have hb : (n + 1) * l.length ≤ 51 * 260 := Nat.mul_le_mul (by omega) hl1
  have hlo := low_settled l hm (n + 1) 0 _ h0 (nonpos_rep n) (by omega)
  have e : solutionL n l = settledN l (n + 1) (List.replicate n 0) := by unfold solutionL settled; simp
  rw [e] at h
  have hf := settledN_true l _ _ h
  refine ⟨fun k hk => ?_, fun v => ?_, fun v => ?_⟩
  · show gi (solutionL n l).1 k.b ≤ gi (solutionL n l).1 k.a + k.m
    rw [e]
    have h1 := hlo k.a
    have h2 := hn k.a
    have h3 := hm k hk
    rcases hf k hk with h4 | h4
    · unfold free at h4; omega
    · unfold overB at h4
      rw [wrap_in (by omega)] at h4
      simpa using h4
  · show -1000000000000000 ≤ gi (solutionL n l).1 v
    rw [e]; have := hlo v; omega
  · show gi (solutionL n l).1 v ≤ 0
    rw [e]; exact hn v

/-- Values that bounds pass through, behind j steps. -/
structure Gd (n : Nat) (p : Int → Int) (c : Int) (j : Nat) (d : List Int) : Prop where
  len : d.length = n
  val : ∀ v : Int, 0 ≤ v → v < n → gi d v = free ∨ (p v + c ≤ gi d v ∧ gi d v ≤ (j : Int) * 17179869184)
section
variable {n : Nat} {l : List Lk} {p : Int → Int} {c : Int}
theorem Gd.mono {i j : Nat} {d : List Int} (h : Gd n p c i d) (hij : i ≤ j) : Gd n p c j d :=
  ⟨h.len, fun v h0 h1 => by rcases h.val v h0 h1 with e | e; exact .inl e; exact .inr ⟨e.1, by omega⟩⟩
theorem rrelax_gi {j : Nat} {d : List Int} {k : Lk} (hp : ∀ v, -1000000000000000 ≤ p v) (hc : -1000000000000000 ≤ c) (h : Gd n p c j d) (hj : j ≤ 20000) (hk : InR n k) (hm : -17179869184 ≤ k.m ∧ k.m ≤ 17179869184) :
    ∀ v : Int, 0 ≤ v → gi (rrelax d k) v = if v = k.b ∧ gi d k.a ≠ free ∧ gi d k.a + k.m < gi d k.b then gi d k.a + k.m else gi d v := by
  intro v hv
  obtain ⟨a0, a1, b0, b1⟩ := hk
  have hp1 := hp k.a
  rcases h.val k.a a0 a1 with e | ⟨e1, e2⟩
  · rw [rrelax_no (by rw [e]; unfold free; omega)]
    simp [e]
  · have hne : gi d k.a ≠ free := by unfold free; omega
    rw [rrelax_yes (by omega), wrap_in (by omega)]
    have hlen := h.len
    have := gi_set_eq (z := d) (b := k.b) (v := v) (x := if gi d k.a + k.m < gi d k.b then gi d k.a + k.m else gi d k.b) b0 (by omega) hv
    unfold si at this
    rw [this]
    by_cases e : v = k.b
    · subst e
      by_cases e2 : gi d k.a + k.m < gi d k.b
      · simp [e2, hne]
      · simp [e2]
    · simp [e]
theorem rrelax_gd {j : Nat} {d : List Int} {k : Lk} (hp : ∀ v, -1000000000000000 ≤ p v) (hc : -1000000000000000 ≤ c) (h : Gd n p c j d) (hj : j ≤ 20000) (hk : InR n k) (hm : -17179869184 ≤ k.m ∧ k.m ≤ 17179869184) (hf : p k.b ≤ p k.a + k.m) : Gd n p c (j + 1) (rrelax d k) := by
  refine ⟨by rw [rrelax_length]; exact h.len, fun v h0 h1 => ?_⟩
  rw [rrelax_gi hp hc h hj hk hm v h0]
  split
  · rename_i hh
    obtain ⟨rfl, h2, h3⟩ := hh
    obtain ⟨a0, a1, b0, b1⟩ := hk
    rcases h.val k.a a0 a1 with e | ⟨e1, e2⟩
    · exact absurd e h2
    · right
      constructor <;> omega
  · rcases h.val v h0 h1 with e | e
    · exact .inl e
    · exact .inr ⟨e.1, by omega⟩
/-- The two ways to lower a value are one. -/
theorem relax_rrelax {j : Nat} {d : List Int} {k : Lk} {ch : Bool} (hp : ∀ v, -1000000000000000 ≤ p v) (hc : -1000000000000000 ≤ c) (h : Gd n p c j d) (hj : j ≤ 20000) (hk : InR n k) (hm : -17179869184 ≤ k.m ∧ k.m ≤ 17179869184) : (relax (d, ch) k).1 = rrelax d k := by
  obtain ⟨a0, a1, b0, b1⟩ := hk
  have hp1 := hp k.a
  rcases h.val k.a a0 a1 with e | ⟨e1, e2⟩
  · rw [rrelax_no (by rw [e]; unfold free; omega)]
    simp [relax, e]
  · have hne : gi d k.a ≠ free := by unfold free; omega
    rw [rrelax_yes (by omega)]
    by_cases e3 : wrap64 (gi d k.a + k.m) < gi d k.b
    · simp [relax, overB, hne, e3, si]
    · have hs := si_same (z := d) (b := k.b) b0 (by rw [h.len]; exact b1)
      unfold si at hs
      simp [relax, overB, hne, e3, hs]
theorem fold_rrelax (hp : ∀ v, -1000000000000000 ≤ p v) (hc : -1000000000000000 ≤ c) : ∀ (l : List Lk) (j : Nat) (d : List Int) (ch : Bool), Gd n p c j d → j + l.length ≤ 20000 → (∀ k ∈ l, InR n k ∧ (-17179869184 ≤ k.m ∧ k.m ≤ 17179869184) ∧ p k.b ≤ p k.a + k.m) →
    (l.foldl relax (d, ch)).1 = l.foldl rrelax d ∧ Gd n p c (j + l.length) (l.foldl rrelax d)
  | [], j, d, ch, h, _, _ => ⟨rfl, h⟩
  | k :: l, j, d, ch, h, hj, hk => by
    simp only [List.length_cons] at hj
    obtain ⟨k1, k2, k3⟩ := hk k (by simp)
    have h1 := relax_rrelax (ch := ch) hp hc h (by omega) k1 k2
    have h2 := rrelax_gd hp hc h (by omega) k1 k2 k3
    have ih := fold_rrelax hp hc l (j + 1) (rrelax d k) (relax (d, ch) k).2 h2 (by omega) (fun q hq => hk q (by simp [hq]))
    rw [List.foldl_cons, List.foldl_cons]
    have e : relax (d, ch) k = (rrelax d k, (relax (d, ch) k).2) := by rw [← h1]
    rw [e]
    refine ⟨ih.1, ih.2.mono (by simp; omega)⟩
theorem riter_succ (l : List Lk) (j : Nat) : ∀ (d : List Int), riter l (j + 1) d = l.foldl rrelax (riter l j d) := by
  induction j with
  | zero => intro d; rfl
  | succ j ih => intro d; rw [riter, ih]; rfl
theorem riter_gd (hp : ∀ v, -1000000000000000 ≤ p v) (hc : -1000000000000000 ≤ c) (hl : l.length ≤ 260) (hk : ∀ k ∈ l, InR n k ∧ (-17179869184 ≤ k.m ∧ k.m ≤ 17179869184) ∧ p k.b ≤ p k.a + k.m) {d : List Int} (h : Gd n p c 0 d) : ∀ (r : Nat), r ≤ 60 → Gd n p c (r * 260) (riter l r d)
  | 0, _ => by simpa [riter] using h
  | r + 1, hr => by
    rw [riter_succ]
    have ih := riter_gd hp hc hl hk h r (by omega)
    exact (fold_rrelax hp hc l (r * 260) _ false ih (by omega) hk).2.mono (by omega)
/-- What settled does is a number of rounds. -/
theorem settledN_riter (hp : ∀ v, -1000000000000000 ≤ p v) (hc : -1000000000000000 ≤ c) (hl : l.length ≤ 260) (hk : ∀ k ∈ l, InR n k ∧ (-17179869184 ≤ k.m ∧ k.m ≤ 17179869184) ∧ p k.b ≤ p k.a + k.m) : ∀ (r i : Nat) (d : List Int), Gd n p c (i * 260) d → i + r ≤ 60 →
    ∃ j, j ≤ r ∧ (settledN l r d).1 = riter l j d ∧ (j = r ∨ l.foldl rrelax (riter l j d) = riter l j d)
  | 0, i, d, _, _ => ⟨0, Nat.le_refl _, rfl, .inl rfl⟩
  | r + 1, i, d, h, hi => by
    obtain ⟨h1, h2⟩ := fold_rrelax hp hc l (i * 260) d false h (by omega) hk
    unfold settledN
    by_cases hq : (roundOf l d).2 = true
    · rw [if_pos hq]
      have e : (roundOf l d).1 = l.foldl rrelax d := h1
      rw [e]
      obtain ⟨j, j1, j2, j3⟩ := settledN_riter hp hc hl hk r (i + 1) (l.foldl rrelax d) (h2.mono (by omega)) (by omega)
      refine ⟨j + 1, by omega, j2, ?_⟩
      rcases j3 with e | e
      · exact .inl (by omega)
      · exact .inr e
    · rw [if_neg hq]
      have h3 : (l.foldl relax (d, false)).2 = false := by simpa [roundOf] using hq
      have h4 := (fold_still l (d, false) h3).1
      have e : l.foldl rrelax d = d := by rw [← h1, h4]
      refine ⟨0, by omega, ?_, .inr e⟩
      show (roundOf l d).1 = d
      unfold roundOf
      rw [h4]

/-! How many of the first n numbers a test takes. -/
def cnt (P : Nat → Bool) : Nat → Nat
  | 0 => 0
  | k + 1 => cnt P k + if P k then 1 else 0
theorem cnt_le (P : Nat → Bool) : ∀ k, cnt P k ≤ k
  | 0 => Nat.le_refl _
  | k + 1 => by
    have := cnt_le P k
    unfold cnt
    split <;> omega
theorem cnt_full (P : Nat → Bool) : ∀ k, k ≤ cnt P k → ∀ i, i < k → P i = true
  | 0, _, i, h => by omega
  | k + 1, hk, i, h => by
    have h1 := cnt_le P k
    unfold cnt at hk
    cases hp : P k
    · rw [hp] at hk; simp at hk; omega
    · rw [hp] at hk
      simp only [if_true] at hk
      by_cases e : i = k
      · subst e; exact hp
      · exact cnt_full P k (by omega) i (by omega)
theorem cnt_mono {P Q : Nat → Bool} (h : ∀ i, P i = true → Q i = true) : ∀ k, cnt P k ≤ cnt Q k
  | 0 => Nat.le_refl _
  | k + 1 => by
    have := cnt_mono h k
    unfold cnt
    cases hp : P k
    · simp only [Bool.false_eq_true, if_false]; omega
    · rw [h k hp]; simp only [if_true]; omega
theorem cnt_more {P Q : Nat → Bool} (h : ∀ i, P i = true → Q i = true) {v : Nat} (hv : P v = false) (hq : Q v = true) : ∀ k, v < k → cnt P k + 1 ≤ cnt Q k
  | 0, hk => by omega
  | k + 1, hk => by
    unfold cnt
    by_cases e : v = k
    · subst e
      rw [hv, hq]
      have := cnt_mono h v
      simp; omega
    · have := cnt_more h hv hq k (by omega)
      cases hp : P k
      · simp only [Bool.false_eq_true, if_false]; omega
      · rw [h k hp]; simp only [if_true]; omega
/-- A least one among those that a test takes. -/
theorem least_of (P : Nat → Prop) (e : Nat → Int) : ∀ k, (∃ i, i < k ∧ P i) → ∃ i, i < k ∧ P i ∧ ∀ j, j < k → P j → e i ≤ e j
  | 0, h => by obtain ⟨i, hi, _⟩ := h; omega
  | k + 1, h => by
    by_cases h1 : ∃ i, i < k ∧ P i
    · obtain ⟨i, hi, hp, hm⟩ := least_of P e k h1
      by_cases h2 : P k ∧ e k < e i
      · refine ⟨k, by omega, h2.1, fun j hj hpj => ?_⟩
        by_cases e1 : j = k
        · subst e1; omega
        · have := hm j (by omega) hpj; omega
      · refine ⟨i, by omega, hp, fun j hj hpj => ?_⟩
        by_cases e1 : j = k
        · subst e1
          by_cases e2 : e j < e i
          · exact absurd ⟨hpj, e2⟩ h2
          · omega
        · exact hm j (by omega) hpj
    · obtain ⟨i, hi, hp⟩ := h
      have : i = k := by
        by_cases e1 : i = k
        · exact e1
        · exact absurd ⟨i, by omega, hp⟩ h1
      subst this
      refine ⟨i, by omega, hp, fun j hj hpj => ?_⟩
      by_cases e1 : j = i
      · subst e1; omega
      · exact absurd ⟨j, by omega, hpj⟩ h1
/-- S is final: its values are the least, and its links hold. -/
structure Fin_ (n : Nat) (l : List Lk) (p : Int → Int) (S : Nat → Bool) (d : List Int) : Prop where
  one : ∀ v u : Nat, v < n → u < n → S v = true → S u = false → gi d v ≠ free ∧ (gi d u = free ∨ gi d v - p v ≤ gi d u - p u)
  fin : ∀ v : Nat, v < n → S v = true → gi d v ≠ free
  two : ∀ k ∈ l, S k.a.toNat = true → gi d k.b ≤ gi d k.a + k.m ∧ gi d k.b ≠ free
/-- One step within a round: S stays final, and the least of the others stays. -/
structure Mid (n : Nat) (l : List Lk) (p : Int → Int) (S : Nat → Bool) (t : Nat) (e : Int) (d : List Int) : Prop where
  f : Fin_ n l p S d
  low : ∀ u : Nat, u < n → S u = false → gi d u = free ∨ e ≤ gi d u - p u
  at_ : gi d t ≠ free ∧ gi d t - p t = e
theorem mid_step {S : Nat → Bool} {t : Nat} {e : Int} {j : Nat} {d : List Int} {k : Lk} (hp : ∀ v, -1000000000000000 ≤ p v) (hc : -1000000000000000 ≤ c) (hg : Gd n p c j d) (hj : j ≤ 20000) (hk : InR n k) (hm : -17179869184 ≤ k.m ∧ k.m ≤ 17179869184) (hf : p k.b ≤ p k.a + k.m) (hl : ∀ q ∈ l, InR n q) (ht : t < n) (hS : S t = false) (hmem : k ∈ l) (h : Mid n l p S t e d) :
    Mid n l p S t e (rrelax d k) ∧ (k.a = t → gi (rrelax d k) k.b ≤ gi (rrelax d k) t + k.m ∧ gi (rrelax d k) k.b ≠ free) ∧ (∀ v : Int, 0 ≤ v → gi (rrelax d k) v ≤ gi d v) := by
  have hgi := rrelax_gi hp hc hg hj hk hm
  have hin := hk
  obtain ⟨a0, a1, b0, b1⟩ := hk
  have ea : ((k.a.toNat : Nat) : Int) = k.a := by omega
  have eb : ((k.b.toNat : Nat) : Int) = k.b := by omega
  have hval := hg.val
  have hfree : ∀ v : Int, 0 ≤ v → v < n → gi d v ≠ free → gi d v < 1000000000000000 := fun v h0 h1 h2 => by
    rcases hval v h0 h1 with e | e
    · exact absurd e h2
    · omega
  have hle : ∀ v : Int, 0 ≤ v → gi (rrelax d k) v ≤ gi d v := by
    intro v h0
    rw [hgi v h0]
    split
    · rename_i hh; obtain ⟨rfl, _, h3⟩ := hh; omega
    · omega
  -- what turns is no final node, and not t
  have key : gi d k.a ≠ free → gi d k.a + k.m < gi d k.b → S k.a.toNat = false ∧ S k.b.toNat = false ∧ k.b ≠ t ∧ e ≤ gi d k.a + k.m - p k.b := by
    intro h1 h2
    have hsa : S k.a.toNat = false := by
      cases hq : S k.a.toNat
      · rfl
      · have := (h.f.two k hmem hq).1; omega
    have hea : e ≤ gi d k.a - p k.a := by
      rcases h.low k.a.toNat (by omega) hsa with e1 | e1
      · rw [ea] at e1; exact absurd e1 h1
      · rw [ea] at e1; exact e1
    have hsb : S k.b.toNat = false := by
      cases hq : S k.b.toNat
      · rfl
      · have := h.f.one k.b.toNat k.a.toNat (by omega) (by omega) hq hsa
        rw [ea, eb] at this
        rcases this.2 with e1 | e1
        · exact absurd e1 h1
        · omega
    refine ⟨hsa, hsb, ?_, by omega⟩
    intro e1
    have := h.at_.2
    rw [← e1] at this
    omega
  refine ⟨⟨⟨?_, ?_, ?_⟩, ?_, ?_⟩, ?_, hle⟩
  · intro v u hv hu hsv hsu
    have h1 := h.f.one v u hv hu hsv hsu
    rw [hgi v (by omega), hgi u (by omega)]
    have nv : ¬ ((v : Int) = k.b ∧ gi d k.a ≠ free ∧ gi d k.a + k.m < gi d k.b) := by
      rintro ⟨e1, e2, e3⟩
      have := (key e2 e3).2.1
      rw [← e1] at this
      simp at this
      rw [this] at hsv; cases hsv
    rw [if_neg nv]
    refine ⟨h1.1, ?_⟩
    split
    · rename_i hh
      obtain ⟨e1, e2, e3⟩ := hh
      obtain ⟨k1, k2, k3, k4⟩ := key e2 e3
      right
      have h2 := h.f.one v k.a.toNat hv (by omega) hsv k1
      rw [ea] at h2
      rcases h2.2 with e4 | e4
      · exact absurd e4 e2
      · rw [e1]; omega
    · exact h1.2
  · intro v hv hsv
    rw [hgi v (by omega)]
    split
    · rename_i hh
      obtain ⟨e1, e2, e3⟩ := hh
      have := (key e2 e3).2.1
      rw [← e1] at this
      simp at this
      rw [this] at hsv; cases hsv
    · exact h.f.fin v hv hsv
  · intro q hq hsq
    obtain ⟨qa0, qa1, qb0, qb1⟩ := hl q hq
    obtain ⟨h1, h2⟩ := h.f.two q hq hsq
    have na : gi (rrelax d k) q.a = gi d q.a := by
      rw [hgi q.a qa0]
      split
      · rename_i hh
        obtain ⟨e1, e2, e3⟩ := hh
        have := (key e2 e3).2.1
        rw [← e1] at this
        rw [this] at hsq; cases hsq
      · rfl
    have := hle q.b qb0
    rw [na]
    refine ⟨by omega, ?_⟩
    have := hfree q.b qb0 qb1 h2
    unfold free
    omega
  · intro u hu hsu
    rw [hgi u (by omega)]
    split
    · rename_i hh
      obtain ⟨e1, e2, e3⟩ := hh
      right
      have := (key e2 e3).2.2.2
      rw [e1]
      exact this
    · exact h.low u hu hsu
  · rw [hgi t (by omega)]
    split
    · rename_i hh
      obtain ⟨e1, e2, e3⟩ := hh
      exact absurd e1.symm (key e2 e3).2.2.1
    · exact h.at_
  · intro e1
    have hta : gi d k.a ≠ free := by rw [e1]; exact h.at_.1
    have hlt := hfree k.a a0 a1 hta
    have hm1 : gi (rrelax d k) k.b ≤ gi d k.a + k.m := by
      rw [hgi k.b b0]
      split
      · omega
      · rename_i hh
        by_cases h3 : gi d k.a + k.m < gi d k.b
        · exact absurd ⟨rfl, hta, h3⟩ hh
        · omega
    have hm2 : gi (rrelax d k) t = gi d t := by
      rw [hgi t (by omega)]
      split
      · rename_i hh
        obtain ⟨e2, e3, e4⟩ := hh
        exact absurd e2.symm (key e3 e4).2.2.1
      · rfl
    rw [hm2, ← e1]
    refine ⟨hm1, ?_⟩
    unfold free
    omega
end

section
variable {n : Nat} {l : List Lk} {p : Int → Int} {c : Int}
theorem mid_fold {S : Nat → Bool} {t : Nat} {e : Int} (hp : ∀ v, -1000000000000000 ≤ p v) (hc : -1000000000000000 ≤ c) (hl : ∀ q ∈ l, InR n q) (ht : t < n) (hS : S t = false) :
    ∀ (r : List Lk) (j : Nat) (d : List Int) (dn : List Lk), (∀ k ∈ r, k ∈ l ∧ (-17179869184 ≤ k.m ∧ k.m ≤ 17179869184) ∧ p k.b ≤ p k.a + k.m) → Gd n p c j d → j + r.length ≤ 20000 → Mid n l p S t e d →
      (∀ q ∈ dn, InR n q ∧ (q.a = t → gi d q.b ≤ gi d t + q.m ∧ gi d q.b ≠ free)) →
      Mid n l p S t e (r.foldl rrelax d) ∧ ∀ q ∈ dn ++ r, q.a = t → gi (r.foldl rrelax d) q.b ≤ gi (r.foldl rrelax d) t + q.m ∧ gi (r.foldl rrelax d) q.b ≠ free
  | [], j, d, dn, _, _, _, h, hd => ⟨h, fun q hq => (hd q (by simpa using hq)).2⟩
  | k :: r, j, d, dn, hk, hg, hj, h, hd => by
    simp only [List.length_cons] at hj
    obtain ⟨k1, k2, k3⟩ := hk k (by simp)
    have hin := hl k k1
    obtain ⟨s1, s2, s3⟩ := mid_step hp hc hg (by omega) hin k2 k3 hl ht hS k1 h
    have hg2 := rrelax_gd hp hc hg (by omega) hin k2 k3
    have ih := mid_fold hp hc hl ht hS r (j + 1) (rrelax d k) (dn ++ [k]) (fun q hq => hk q (by simp [hq])) hg2 (by omega) s1 (fun q hq => by
      rcases List.mem_append.1 hq with hq | hq
      · obtain ⟨q1, q2⟩ := hd q hq
        refine ⟨q1, fun e1 => ?_⟩
        obtain ⟨q3, q4⟩ := q2 e1
        obtain ⟨a0, a1, b0, b1⟩ := q1
        have h1 := s3 q.b b0
        have h2 : gi (rrelax d k) t = gi d t := by have := h.at_.2; have := s1.at_.2; omega
        rw [h2]
        refine ⟨by omega, ?_⟩
        rcases hg.val q.b b0 b1 with e2 | e2
        · exact absurd e2 q4
        · unfold free; omega
      · obtain rfl := List.mem_singleton.1 hq
        exact ⟨hin, s2⟩)
    rw [List.foldl_cons]
    refine ⟨ih.1, fun q hq => ih.2 q ?_⟩
    simp only [List.mem_append, List.mem_cons, List.append_assoc, List.mem_singleton, List.cons_append, List.nil_append] at hq ⊢
    exact hq
theorem fold_fix : ∀ (r : List Lk) (d : List Int), (∀ k ∈ r, rrelax d k = d) → r.foldl rrelax d = d
  | [], _, _ => rfl
  | k :: r, d, h => by rw [List.foldl_cons, h k (by simp)]; exact fold_fix r d (fun q hq => h q (by simp [hq]))
theorem fin_fix {S : Nat → Bool} {j : Nat} {d : List Int} (hp : ∀ v, -1000000000000000 ≤ p v) (hc : -1000000000000000 ≤ c) (hg : Gd n p c j d) (hj : j ≤ 20000) (hk : ∀ k ∈ l, InR n k ∧ (-17179869184 ≤ k.m ∧ k.m ≤ 17179869184) ∧ p k.b ≤ p k.a + k.m)
    (h : Fin_ n l p S d) (hno : ∀ u : Nat, u < n → S u = false → gi d u = free) : l.foldl rrelax d = d := by
  refine fold_fix l d fun k hkl => ?_
  obtain ⟨⟨a0, a1, b0, b1⟩, k2, k3⟩ := hk k hkl
  have ea : ((k.a.toNat : Nat) : Int) = k.a := by omega
  have hpa := hp k.a
  cases hs : S k.a.toNat
  · have := hno k.a.toNat (by omega) hs
    rw [ea] at this
    exact rrelax_no (by rw [this]; unfold free; omega)
  · obtain ⟨t1, t2⟩ := h.two k hkl hs
    have hf := h.fin k.a.toNat (by omega) hs
    rw [ea] at hf
    rcases hg.val k.a a0 a1 with e | e
    · exact absurd e hf
    · rw [rrelax_yes (by omega), wrap_in (by omega)]
      rw [if_neg (by omega)]
      exact si_same b0 (by rw [hg.len]; exact b1)
theorem round_fin {S : Nat → Bool} {j : Nat} {d : List Int} (hp : ∀ v, -1000000000000000 ≤ p v) (hc : -1000000000000000 ≤ c) (hg : Gd n p c j d) (hj : j + l.length ≤ 20000) (hk : ∀ k ∈ l, InR n k ∧ (-17179869184 ≤ k.m ∧ k.m ≤ 17179869184) ∧ p k.b ≤ p k.a + k.m)
    (h : Fin_ n l p S d) : l.foldl rrelax d = d ∨ ∃ S', Fin_ n l p S' (l.foldl rrelax d) ∧ cnt S n + 1 ≤ cnt S' n := by
  by_cases hex : ∃ u : Nat, u < n ∧ (S u = false ∧ gi d u ≠ free)
  · right
    obtain ⟨t, ht, ⟨hS, hf⟩, hmin⟩ := least_of (fun u => S u = false ∧ gi d u ≠ free) (fun u => gi d u - p u) n hex
    have hmid : Mid n l p S t (gi d t - p t) d := ⟨h, fun u hu hsu => by
      by_cases e : gi d u = free
      · exact .inl e
      · exact .inr (hmin u hu ⟨hsu, e⟩), hf, rfl⟩
    obtain ⟨m1, m2⟩ := mid_fold hp hc (fun q hq => (hk q hq).1) ht hS l j d [] (fun k hkl => ⟨hkl, (hk k hkl).2⟩) hg hj hmid (by simp)
    refine ⟨fun v => S v || v == t, ⟨?_, ?_, ?_⟩, ?_⟩
    · intro v u hv hu hsv hsu
      simp only [Bool.or_eq_false_iff, beq_eq_false_iff_ne, ne_eq] at hsu
      simp only [Bool.or_eq_true, beq_iff_eq] at hsv
      rcases hsv with hsv | rfl
      · exact m1.f.one v u hv hu hsv hsu.1
      · refine ⟨m1.at_.1, ?_⟩
        rcases m1.low u hu hsu.1 with e | e
        · exact .inl e
        · have := m1.at_.2
          exact .inr (by omega)
    · intro v hv hsv
      simp only [Bool.or_eq_true, beq_iff_eq] at hsv
      rcases hsv with hsv | rfl
      · exact m1.f.fin v hv hsv
      · exact m1.at_.1
    · intro q hq hsq
      simp only [Bool.or_eq_true, beq_iff_eq] at hsq
      obtain ⟨⟨a0, a1, b0, b1⟩, _⟩ := hk q hq
      rcases hsq with hsq | e1
      · exact m1.f.two q hq hsq
      · have e2 : q.a = t := by omega
        have := m2 q (by simpa using hq) e2
        rw [e2]
        exact this
    · exact cnt_more (fun i hi => by simp [hi]) hS (by simp) n ht
  · left
    refine fin_fix hp hc hg (by omega) hk h fun u hu hsu => ?_
    by_cases e : gi d u = free
    · exact e
    · exact absurd ⟨u, hu, hsu, e⟩ hex
theorem riter_fix {j : Nat} {d : List Int} (h : l.foldl rrelax (riter l j d) = riter l j d) : ∀ i, j ≤ i → riter l i d = riter l j d := by
  intro i
  induction i with
  | zero => intro hi; rw [show j = 0 by omega]
  | succ i ih =>
    intro hi
    by_cases e : j = i + 1
    · rw [e]
    · rw [riter_succ, ih (by omega), h]
theorem riter_settles (hp : ∀ v, -1000000000000000 ≤ p v) (hc : -1000000000000000 ≤ c) (hl : l.length ≤ 260) (hn : n ≤ 50) (hk : ∀ k ∈ l, InR n k ∧ (-17179869184 ≤ k.m ∧ k.m ≤ 17179869184) ∧ p k.b ≤ p k.a + k.m) {d : List Int} (h : Gd n p c 0 d) :
    ∀ r, r ≤ n → l.foldl rrelax (riter l r d) = riter l r d ∨ ∃ S, Fin_ n l p S (riter l r d) ∧ r ≤ cnt S n
  | 0, _ => .inr ⟨fun _ => false, ⟨fun v u _ _ h => by (cases h), fun v _ h => by (cases h), fun k _ h => by (cases h)⟩, Nat.zero_le _⟩
  | r + 1, hr => by
    rcases riter_settles hp hc hl hn hk h r (by omega) with e | ⟨S, hS, hcnt⟩
    · left
      have := riter_fix e (r + 1) (by omega)
      rw [this, e]
    · have hg := riter_gd hp hc hl hk h r (by omega)
      rcases round_fin hp hc hg (by omega) hk hS with e | ⟨S', h1, h2⟩
      · left
        have := riter_fix e (r + 1) (by omega)
        rw [this, e]
      · right
        exact ⟨S', by rw [riter_succ]; exact h1, by omega⟩
theorem riter_fixed (hp : ∀ v, -1000000000000000 ≤ p v) (hc : -1000000000000000 ≤ c) (hl : l.length ≤ 260) (hn : n ≤ 50) (hk : ∀ k ∈ l, InR n k ∧ (-17179869184 ≤ k.m ∧ k.m ≤ 17179869184) ∧ p k.b ≤ p k.a + k.m) {d : List Int} (h : Gd n p c 0 d) : l.foldl rrelax (riter l n d) = riter l n d := by
  rcases riter_settles hp hc hl hn hk h n (Nat.le_refl _) with e | ⟨S, hS, hcnt⟩
  · exact e
  · refine fin_fix hp hc (riter_gd hp hc hl hk h n (by omega)) (by omega) hk hS fun u hu hsu => ?_
    have := cnt_full S n hcnt u hu
    rw [hsu] at this
    cases this
theorem start_gi {n : Nat} {s : Int} (hs0 : 0 ≤ s) (hs1 : s < n) : ∀ v : Int, 0 ≤ v → v < n → gi (si (List.replicate n free) s 0) v = if v = s then 0 else free := by
  intro v h0 h1
  rw [gi_set_eq hs0 (by simpa using hs1) h0]
  split
  · rfl
  · simp only [gi, List.getD_eq_getElem?_getD, List.getElem?_replicate]
    rw [if_pos (by omega)]
    rfl
theorem bounds_riter {s : Int} (hp : ∀ v, -1000000000000000 ≤ p v) (hp0 : ∀ v, p v ≤ 0) (hl : l.length ≤ 260) (hn : n ≤ 50) (hk : ∀ k ∈ l, InR n k ∧ (-17179869184 ≤ k.m ∧ k.m ≤ 17179869184) ∧ p k.b ≤ p k.a + k.m) (hs0 : 0 ≤ s) (hs1 : s < n) :
    boundsL n l s = rboundsL n l s ∧ l.foldl rrelax (boundsL n l s) = boundsL n l s ∧ Gd n p (-(p s)) 20000 (boundsL n l s) := by
  have h0 : Gd n p (-(p s)) 0 (si (List.replicate n free) s 0) := by
    refine ⟨by simp [si], fun v v0 v1 => ?_⟩
    rw [start_gi hs0 hs1 v v0 v1]
    split
    · rename_i e
      subst e
      right; omega
    · exact .inl rfl
  have hc : -1000000000000000 ≤ -(p s) := by have := hp0 s; omega
  have hfix := riter_fixed hp hc hl hn hk h0
  obtain ⟨j, j1, j2, j3⟩ := settledN_riter hp hc hl hk (n + 1) 0 (si (List.replicate n free) s 0) (by simpa using h0) (by omega)
  have e : boundsL n l s = riter l j (si (List.replicate n free) s 0) := by
    unfold boundsL settled
    rw [show (si (List.replicate n free) s 0).length = n by simp [si]]
    exact j2
  have e2 : riter l j (si (List.replicate n free) s 0) = riter l n (si (List.replicate n free) s 0) := by
    by_cases hjn : n ≤ j
    · exact riter_fix hfix j hjn
    · rcases j3 with e3 | e3
      · omega
      · exact (riter_fix e3 n (by omega)).symm
  have e3 : boundsL n l s = riter l n (si (List.replicate n free) s 0) := e.trans e2
  refine ⟨e3, by rw [e3]; exact hfix, ?_⟩
  rw [e3]
  exact (riter_gd hp hc hl hk h0 n (by omega)).mono (by omega)
end
theorem bounds_same {n : Nat} {l : List Lk} {s : Int} (hok : NetOk n l) (h : (solutionL n l).2 = true) (hs0 : 0 ≤ s) (hs1 : s < n) :
    boundsL n l s = rboundsL n l s ∧ ∀ v : Int, 0 ≤ v → v < n → gi (boundsL n l s) v = free ∨ gi (boundsL n l s) v < free := by
  have hpot := solution_pot hok h
  have hk : ∀ k ∈ l, InR n k ∧ (-17179869184 ≤ k.m ∧ k.m ≤ 17179869184) ∧ gi (solutionL n l).1 k.b ≤ gi (solutionL n l).1 k.a + k.m := fun k hk => ⟨(hok.lk k hk).1, (hok.lk k hk).2.2, hpot.fit k hk⟩
  obtain ⟨h1, _, h3⟩ := bounds_riter (p := fun v => gi (solutionL n l).1 v) hpot.lo hpot.hi hok.l1 (by have := hok.n2; omega) hk hs0 hs1
  refine ⟨h1, fun v v0 v1 => ?_⟩
  rcases h3.val v v0 v1 with e | e
  · exact .inl e
  · right; unfold free; omega
end Go.Proofs.Ytmhiiomejopaoaa
