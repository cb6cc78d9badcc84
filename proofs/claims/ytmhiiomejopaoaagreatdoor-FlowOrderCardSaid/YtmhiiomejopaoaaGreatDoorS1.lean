/- Picked plain parts of the flow texts K7 K9 M1 Q1 R4 S3 Q3 W7 X2 E1 C3 A4 O5. -/
import Derived.Test.YtmhiiomejopaoaaGreatDoorR4
import Derived.Test.YtmhiiomejopaoaaGreatDoorW4
import Derived.Test.YtmhiiomejopaoaaGreatDoorM9
import Derived.Test.YtmhiiomejopaoaaGreatDoorN2
import Derived.Test.YtmhiiomejopaoaaGreatDoorK9
namespace Go.Proofs.YtmhiiomejopaoaaGreatDoor
set_option linter.all false
set_option maxRecDepth 100000
open Go.RowKit

theorem wrap_in {a : Int} (h : -9223372036854775808 ≤ a ∧ a ≤ 9223372036854775807) : wrap64 a = a := IntWalk.wrap64_in _ h
theorem gi_set_eq {z : List Int} {b v x : Int} (hb0 : 0 ≤ b) (hb : b < z.length) (hv : 0 ≤ v) : gi (si z b x) v = if v = b then x else gi z v := by
  simp only [gi, si, List.getD_eq_getElem?_getD, List.getElem?_set]
  by_cases e : v = b
  · subst e
    rw [if_pos rfl, if_pos rfl, if_pos (by omega)]
    rfl
  · rw [if_neg (by omega), if_neg e]
theorem si_same {z : List Int} {b : Int} (hb0 : 0 ≤ b) (hb : b < z.length) : si z b (gi z b) = z := by
  apply List.ext_getElem?
  intro i
  simp only [gi, si, List.getElem?_set, List.getD_eq_getElem?_getD]
  by_cases e : b.toNat = i
  · subst e
    rw [if_pos rfl, if_pos (by omega)]
    have : b.toNat < z.length := by omega
    simp [this]
  · rw [if_neg e]
theorem relax_flag (s : List Int × Bool) (k : Lk) (h : s.2 = true) : (relax s k).2 = true := by
  unfold relax; split
  · rfl
  · exact h
theorem fold_flag (l : List Lk) : ∀ s : List Int × Bool, s.2 = true → (l.foldl relax s).2 = true := by
  induction l with
  | nil => intro s h; exact h
  | cons k l ih => intro s h; rw [List.foldl_cons]; exact ih _ (relax_flag s k h)
/-- A round that turned nothing: nothing was to be turned. -/
theorem fold_still (l : List Lk) : ∀ s : List Int × Bool, (l.foldl relax s).2 = false → l.foldl relax s = s ∧ ∀ k ∈ l, gi s.1 k.a = free ∨ overB s.1 k = false := by
  induction l with
  | nil => intro s _; exact ⟨rfl, by simp⟩
  | cons k l ih =>
    intro s h
    rw [List.foldl_cons] at h ⊢
    have h2 : (relax s k).2 = false := by
      cases hq : (relax s k).2
      · rfl
      · rw [fold_flag l _ hq] at h; cases h
    have h3 : relax s k = s ∧ (gi s.1 k.a = free ∨ overB s.1 k = false) := by
      unfold relax at h2 ⊢
      split at h2
      · cases h2
      · rename_i hc
        rw [if_neg hc]
        refine ⟨rfl, ?_⟩
        by_cases e : gi s.1 k.a = free
        · exact .inl e
        · right
          cases ho : overB s.1 k
          · rfl
          · exact absurd ⟨e, ho⟩ hc
    rw [h3.1] at h ⊢
    obtain ⟨h4, h5⟩ := ih s h
    refine ⟨h4, fun q hq => ?_⟩
    rcases List.mem_cons.1 hq with rfl | hq
    · exact h3.2
    · exact h5 q hq
theorem settledN_true (l : List Lk) : ∀ (r : Nat) (x : List Int), (settledN l r x).2 = true → ∀ k ∈ l, gi (settledN l r x).1 k.a = free ∨ overB (settledN l r x).1 k = false
  | 0, x, h => by simp [settledN] at h
  | r + 1, x, h => by
    unfold settledN at h ⊢
    by_cases hq : (roundOf l x).2 = true
    · rw [if_pos hq] at h ⊢
      exact settledN_true l r _ h
    · rw [if_neg hq] at h ⊢
      have h1 : (l.foldl relax (x, false)).2 = false := by simpa [roundOf] using hq
      obtain ⟨h2, h3⟩ := fold_still l (x, false) h1
      show ∀ k ∈ l, gi (roundOf l x).1 k.a = free ∨ overB (roundOf l x).1 k = false
      unfold roundOf
      rw [h2]
      exact h3
theorem nonpos_settled (l : List Lk) : ∀ (r : Nat) (x : List Int), NonPos x → NonPos (settledN l r x).1
  | 0, x, h => h
  | r + 1, x, h => by
    have h1 : NonPos (roundOf l x).1 := nonpos_fold (s := (x, false)) h
    unfold settledN
    split
    · exact nonpos_settled l r _ h1
    · exact h1
/-- Not less than j steps below 0. -/
def LowB (j : Nat) (z : List Int) : Prop := ∀ i : Int, -((j : Int) * 17179869184) ≤ gi z i
theorem low_mono {i j : Nat} {z : List Int} (h : LowB i z) (hij : i ≤ j) : LowB j z := fun v => by have := h v; omega
theorem low_si {j : Nat} {z : List Int} {b v : Int} (h : LowB j z) (hv : -((j : Int) * 17179869184) ≤ v) : LowB j (si z b v) := by
  intro i
  have := h i
  simp only [gi, si, List.getD_eq_getElem?_getD, List.getElem?_set] at this ⊢
  split
  · split
    · simpa using hv
    · simp; omega
  · exact this
theorem low_relax {j : Nat} {s : List Int × Bool} {k : Lk} (h : LowB j s.1) (hn : NonPos s.1) (hj : j ≤ 100000) (hm : -17179869184 ≤ k.m ∧ k.m ≤ 17179869184) : LowB (j + 1) (relax s k).1 := by
  unfold relax
  split
  · refine low_si (low_mono h (by omega)) ?_
    have h1 := h k.a
    have h2 := hn k.a
    rw [wrap_in (by omega)]
    omega
  · exact low_mono h (by omega)
theorem low_fold (l : List Lk) : ∀ (j : Nat) (s : List Int × Bool), LowB j s.1 → NonPos s.1 → j + l.length ≤ 100000 → (∀ k ∈ l, -17179869184 ≤ k.m ∧ k.m ≤ 17179869184) → LowB (j + l.length) (l.foldl relax s).1 := by
  induction l with
  | nil => intro j s h _ _ _; exact h
  | cons k l ih =>
    intro j s h hn hj hm
    simp only [List.length_cons] at hj ⊢
    have h1 := low_relax (k := k) h hn (by omega) (hm k (by simp))
    have := ih (j + 1) _ h1 (nonpos_relax hn) (by omega) (fun q hq => hm q (by simp [hq]))
    rw [List.foldl_cons]
    exact low_mono this (by omega)
theorem low_settled (l : List Lk) (hm : ∀ k ∈ l, -17179869184 ≤ k.m ∧ k.m ≤ 17179869184) (r : Nat) : ∀ (j : Nat) (x : List Int), LowB j x → NonPos x → j + r * l.length ≤ 100000 → LowB (j + r * l.length) (settledN l r x).1 := by
  induction r with
  | zero => intro j x h _ _; simpa [settledN] using h
  | succ r ih =>
    intro j x h hn hj
    rw [Nat.add_mul, Nat.one_mul] at hj ⊢
    have h1 : LowB (j + l.length) (roundOf l x).1 := low_fold l j (x, false) h hn (by omega) hm
    have h2 : NonPos (roundOf l x).1 := nonpos_fold (s := (x, false)) hn
    unfold settledN
    split
    · exact low_mono (ih (j + l.length) _ h1 h2 (by omega)) (by omega)
    · exact low_mono h1 (by omega)
/-- A solution: a potential. -/
structure Pot (n : Nat) (l : List Lk) (p : Int → Int) : Prop where
  fit : ∀ k ∈ l, p k.b ≤ p k.a + k.m
  lo : ∀ v, -1000000000000000 ≤ p v
  hi : ∀ v, p v ≤ 0
theorem solution_pot {n : Nat} {l : List Lk} (hok : NetOk n l) (h : (solutionL n l).2 = true) : Pot n l (fun v => gi (solutionL n l).1 v) := by
  have hm : ∀ k ∈ l, -17179869184 ≤ k.m ∧ k.m ≤ 17179869184 := fun k hk => (hok.lk k hk).2.2
  have hn := nonpos_settled l (n + 1) (List.replicate n 0) (nonpos_rep n)
  have h0 : LowB 0 (List.replicate n 0) := by
    intro i
    simp only [gi, List.getD_eq_getElem?_getD, List.getElem?_replicate]
    split <;> simp
  have hn2 := hok.n2
  have hl1 := hok.l1
  have hb : (n + 1) * l.length ≤ 51 * 260 := Nat.mul_le_mul (by omega) hl1
  have hlo := low_settled l hm (n + 1) 0 _ h0 (nonpos_rep n) (by omega)
  have e : solutionL n l = settledN l (n + 1) (List.replicate n 0) := by unfold solutionL settled; simp
  rw [e] at h
  have hf := settledN_true l _ _ h
  refine ⟨fun k hk => ?_, fun v => ?_, fun v => ?_⟩
  · show gi (solutionL n l).1 k.b ≤ gi (solutionL n l).1 k.a + k.m
    rw [e]
    have h1 := hlo k.a
    have h2 := hn k.a
    have h3 := hm k hk
    rcases hf k hk with h4 | h4
    · unfold free at h4; omega
    · unfold overB at h4
      rw [wrap_in (by omega)] at h4
      simpa using h4
  · show -1000000000000000 ≤ gi (solutionL n l).1 v
    rw [e]; have := hlo v; omega
  · show gi (solutionL n l).1 v ≤ 0
    rw [e]; exact hn v

/-- Values that bounds pass through, behind j steps. -/
structure Gd (n : Nat) (p : Int → Int) (c : Int) (j : Nat) (d : List Int) : Prop where
  len : d.length = n
  val : ∀ v : Int, 0 ≤ v → v < n → gi d v = free ∨ (p v + c ≤ gi d v ∧ gi d v ≤ (j : Int) * 17179869184)
section
variable {n : Nat} {l : List Lk} {p : Int → Int} {c : Int}
theorem Gd.mono {i j : Nat} {d : List Int} (h : Gd n p c i d) (hij : i ≤ j) : Gd n p c j d :=
  ⟨h.len, fun v h0 h1 => by rcases h.val v h0 h1 with e | e; exact .inl e; exact .inr ⟨e.1, by omega⟩⟩
theorem rrelax_gi {j : Nat} {d : List Int} {k : Lk} (hp : ∀ v, -1000000000000000 ≤ p v) (hc : -1000000000000000 ≤ c) (h : Gd n p c j d) (hj : j ≤ 20000) (hk : InR n k) (hm : -17179869184 ≤ k.m ∧ k.m ≤ 17179869184) :
    ∀ v : Int, 0 ≤ v → gi (rrelax d k) v = if v = k.b ∧ gi d k.a ≠ free ∧ gi d k.a + k.m < gi d k.b then gi d k.a + k.m else gi d v := by
  intro v hv
  obtain ⟨a0, a1, b0, b1⟩ := hk
  have hp1 := hp k.a
  rcases h.val k.a a0 a1 with e | ⟨e1, e2⟩
  · rw [rrelax_no (by rw [e]; unfold free; omega)]
    simp [e]
  · have hne : gi d k.a ≠ free := by unfold free; omega
    rw [rrelax_yes (by omega), wrap_in (by omega)]
    have hlen := h.len
    have := gi_set_eq (z := d) (b := k.b) (v := v) (x := if gi d k.a + k.m < gi d k.b then gi d k.a + k.m else gi d k.b) b0 (by omega) hv
    unfold si at this
    rw [this]
    by_cases e : v = k.b
    · subst e
      by_cases e2 : gi d k.a + k.m < gi d k.b
      · simp [e2, hne]
      · simp [e2]
    · simp [e]
theorem rrelax_gd {j : Nat} {d : List Int} {k : Lk} (hp : ∀ v, -1000000000000000 ≤ p v) (hc : -1000000000000000 ≤ c) (h : Gd n p c j d) (hj : j ≤ 20000) (hk : InR n k) (hm : -17179869184 ≤ k.m ∧ k.m ≤ 17179869184) (hf : p k.b ≤ p k.a + k.m) : Gd n p c (j + 1) (rrelax d k) := by
  refine ⟨by rw [rrelax_length]; exact h.len, fun v h0 h1 => ?_⟩
  rw [rrelax_gi hp hc h hj hk hm v h0]
  split
  · rename_i hh
    obtain ⟨rfl, h2, h3⟩ := hh
    obtain ⟨a0, a1, b0, b1⟩ := hk
    rcases h.val k.a a0 a1 with e | ⟨e1, e2⟩
    · exact absurd e h2
    · right
      constructor <;> omega
  · rcases h.val v h0 h1 with e | e
    · exact .inl e
    · exact .inr ⟨e.1, by omega⟩
/-- The two ways to lower a value are one. -/
theorem relax_rrelax {j : Nat} {d : List Int} {k : Lk} {ch : Bool} (hp : ∀ v, -1000000000000000 ≤ p v) (hc : -1000000000000000 ≤ c) (h : Gd n p c j d) (hj : j ≤ 20000) (hk : InR n k) (hm : -17179869184 ≤ k.m ∧ k.m ≤ 17179869184) : (relax (d, ch) k).1 = rrelax d k := by
  obtain ⟨a0, a1, b0, b1⟩ := hk
  have hp1 := hp k.a
  rcases h.val k.a a0 a1 with e | ⟨e1, e2⟩
  · rw [rrelax_no (by rw [e]; unfold free; omega)]
    simp [relax, e]
  · have hne : gi d k.a ≠ free := by unfold free; omega
    rw [rrelax_yes (by omega)]
    by_cases e3 : wrap64 (gi d k.a + k.m) < gi d k.b
    · simp [relax, overB, hne, e3, si]
    · have hs := si_same (z := d) (b := k.b) b0 (by rw [h.len]; exact b1)
      unfold si at hs
      simp [relax, overB, hne, e3, hs]
theorem fold_rrelax (hp : ∀ v, -1000000000000000 ≤ p v) (hc : -1000000000000000 ≤ c) : ∀ (l : List Lk) (j : Nat) (d : List Int) (ch : Bool), Gd n p c j d → j + l.length ≤ 20000 → (∀ k ∈ l, InR n k ∧ (-17179869184 ≤ k.m ∧ k.m ≤ 17179869184) ∧ p k.b ≤ p k.a + k.m) →
    (l.foldl relax (d, ch)).1 = l.foldl rrelax d ∧ Gd n p c (j + l.length) (l.foldl rrelax d)
  | [], j, d, ch, h, _, _ => ⟨rfl, h⟩
  | k :: l, j, d, ch, h, hj, hk => by
    simp only [List.length_cons] at hj
    obtain ⟨k1, k2, k3⟩ := hk k (by simp)
    have h1 := relax_rrelax (ch := ch) hp hc h (by omega) k1 k2
    have h2 := rrelax_gd hp hc h (by omega) k1 k2 k3
    have ih := fold_rrelax hp hc l (j + 1) (rrelax d k) (relax (d, ch) k).2 h2 (by omega) (fun q hq => hk q (by simp [hq]))
    rw [List.foldl_cons, List.foldl_cons]
    have e : relax (d, ch) k = (rrelax d k, (relax (d, ch) k).2) := by rw [← h1]
    rw [e]
    refine ⟨ih.1, ih.2.mono (by simp; omega)⟩
theorem riter_succ (l : List Lk) (j : Nat) : ∀ (d : List Int), riter l (j + 1) d = l.foldl rrelax (riter l j d) := by
  induction j with
  | zero => intro d; rfl
  | succ j ih => intro d; rw [riter, ih]; rfl
theorem riter_gd (hp : ∀ v, -1000000000000000 ≤ p v) (hc : -1000000000000000 ≤ c) (hl : l.length ≤ 260) (hk : ∀ k ∈ l, InR n k ∧ (-17179869184 ≤ k.m ∧ k.m ≤ 17179869184) ∧ p k.b ≤ p k.a + k.m) {d : List Int} (h : Gd n p c 0 d) : ∀ (r : Nat), r ≤ 60 → Gd n p c (r * 260) (riter l r d)
  | 0, _ => by simpa [riter] using h
  | r + 1, hr => by
    rw [riter_succ]
    have ih := riter_gd hp hc hl hk h r (by omega)
    exact (fold_rrelax hp hc l (r * 260) _ false ih (by omega) hk).2.mono (by omega)
/-- What settled does is a number of rounds. -/
theorem settledN_riter (hp : ∀ v, -1000000000000000 ≤ p v) (hc : -1000000000000000 ≤ c) (hl : l.length ≤ 260) (hk : ∀ k ∈ l, InR n k ∧ (-17179869184 ≤ k.m ∧ k.m ≤ 17179869184) ∧ p k.b ≤ p k.a + k.m) : ∀ (r i : Nat) (d : List Int), Gd n p c (i * 260) d → i + r ≤ 60 →
    ∃ j, j ≤ r ∧ (settledN l r d).1 = riter l j d ∧ (j = r ∨ l.foldl rrelax (riter l j d) = riter l j d)
  | 0, i, d, _, _ => ⟨0, Nat.le_refl _, rfl, .inl rfl⟩
  | r + 1, i, d, h, hi => by
    obtain ⟨h1, h2⟩ := fold_rrelax hp hc l (i * 260) d false h (by omega) hk
    unfold settledN
    by_cases hq : (roundOf l d).2 = true
    · rw [if_pos hq]
      have e : (roundOf l d).1 = l.foldl rrelax d := h1
      rw [e]
      obtain ⟨j, j1, j2, j3⟩ := settledN_riter hp hc hl hk r (i + 1) (l.foldl rrelax d) (h2.mono (by omega)) (by omega)
      refine ⟨j + 1, by omega, j2, ?_⟩
      rcases j3 with e | e
      · exact .inl (by omega)
      · exact .inr e
    · rw [if_neg hq]
      have h3 : (l.foldl relax (d, false)).2 = false := by simpa [roundOf] using hq
      have h4 := (fold_still l (d, false) h3).1
      have e : l.foldl rrelax d = d := by rw [← h1, h4]
      refine ⟨0, by omega, ?_, .inr e⟩
      show (roundOf l d).1 = d
      unfold roundOf
      rw [h4]

def cnt (P : Nat → Bool) : Nat → Nat
  | 0 => 0
  | k + 1 => cnt P k + if P k then 1 else 0
theorem cnt_le (P : Nat → Bool) : ∀ k, cnt P k ≤ k
  | 0 => Nat.le_refl _
  | k + 1 => by
    have := cnt_le P k
    unfold cnt
    split <;> omega
theorem cnt_full (P : Nat → Bool) : ∀ k, k ≤ cnt P k → ∀ i, i < k → P i = true
  | 0, _, i, h => by omega
  | k + 1, hk, i, h => by
    have h1 := cnt_le P k
    unfold cnt at hk
    cases hp : P k
    · rw [hp] at hk; simp at hk; omega
    · rw [hp] at hk
      simp only [if_true] at hk
      by_cases e : i = k
      · subst e; exact hp
      · exact cnt_full P k (by omega) i (by omega)
theorem cnt_mono {P Q : Nat → Bool} (h : ∀ i, P i = true → Q i = true) : ∀ k, cnt P k ≤ cnt Q k
  | 0 => Nat.le_refl _
  | k + 1 => by
    have := cnt_mono h k
    unfold cnt
    cases hp : P k
    · simp only [Bool.false_eq_true, if_false]; omega
    · rw [h k hp]; simp only [if_true]; omega
theorem cnt_more {P Q : Nat → Bool} (h : ∀ i, P i = true → Q i = true) {v : Nat} (hv : P v = false) (hq : Q v = true) : ∀ k, v < k → cnt P k + 1 ≤ cnt Q k
  | 0, hk => by omega
  | k + 1, hk => by
    unfold cnt
    by_cases e : v = k
    · subst e
      rw [hv, hq]
      have := cnt_mono h v
      simp; omega
    · have := cnt_more h hv hq k (by omega)
      cases hp : P k
      · simp only [Bool.false_eq_true, if_false]; omega
      · rw [h k hp]; simp only [if_true]; omega
/-- A least one among those that a test takes. -/
theorem least_of (P : Nat → Prop) (e : Nat → Int) : ∀ k, (∃ i, i < k ∧ P i) → ∃ i, i < k ∧ P i ∧ ∀ j, j < k → P j → e i ≤ e j
  | 0, h => by obtain ⟨i, hi, _⟩ := h; omega
  | k + 1, h => by
    by_cases h1 : ∃ i, i < k ∧ P i
    · obtain ⟨i, hi, hp, hm⟩ := least_of P e k h1
      by_cases h2 : P k ∧ e k < e i
      · refine ⟨k, by omega, h2.1, fun j hj hpj => ?_⟩
        by_cases e1 : j = k
        · subst e1; omega
        · have := hm j (by omega) hpj; omega
      · refine ⟨i, by omega, hp, fun j hj hpj => ?_⟩
        by_cases e1 : j = k
        · subst e1
          by_cases e2 : e j < e i
          · exact absurd ⟨hpj, e2⟩ h2
          · omega
        · exact hm j (by omega) hpj
    · obtain ⟨i, hi, hp⟩ := h
      have : i = k := by
        by_cases e1 : i = k
        · exact e1
        · exact absurd ⟨i, by omega, hp⟩ h1
      subst this
      refine ⟨i, by omega, hp, fun j hj hpj => ?_⟩
      by_cases e1 : j = i
      · subst e1; omega
      · exact absurd ⟨j, by omega, hpj⟩ h1
/-- S is final: its values are the least, and its links hold. -/
structure Fin_ (n : Nat) (l : List Lk) (p : Int → Int) (S : Nat → Bool) (d : List Int) : Prop where
  one : ∀ v u : Nat, v < n → u < n → S v = true → S u = false → gi d v ≠ free ∧ (gi d u = free ∨ gi d v - p v ≤ gi d u - p u)
  fin : ∀ v : Nat, v < n → S v = true → gi d v ≠ free
  two : ∀ k ∈ l, S k.a.toNat = true → gi d k.b ≤ gi d k.a + k.m ∧ gi d k.b ≠ free
/-- One step within a round: S stays final, and the least of the others stays. -/
structure Mid (n : Nat) (l : List Lk) (p : Int → Int) (S : Nat → Bool) (t : Nat) (e : Int) (d : List Int) : Prop where
  f : Fin_ n l p S d
  low : ∀ u : Nat, u < n → S u = false → gi d u = free ∨ e ≤ gi d u - p u
  at_ : gi d t ≠ free ∧ gi d t - p t = e
theorem mid_step {S : Nat → Bool} {t : Nat} {e : Int} {j : Nat} {d : List Int} {k : Lk} (hp : ∀ v, -1000000000000000 ≤ p v) (hc : -1000000000000000 ≤ c) (hg : Gd n p c j d) (hj : j ≤ 20000) (hk : InR n k) (hm : -17179869184 ≤ k.m ∧ k.m ≤ 17179869184) (hf : p k.b ≤ p k.a + k.m) (hl : ∀ q ∈ l, InR n q) (ht : t < n) (hS : S t = false) (hmem : k ∈ l) (h : Mid n l p S t e d) :
    Mid n l p S t e (rrelax d k) ∧ (k.a = t → gi (rrelax d k) k.b ≤ gi (rrelax d k) t + k.m ∧ gi (rrelax d k) k.b ≠ free) ∧ (∀ v : Int, 0 ≤ v → gi (rrelax d k) v ≤ gi d v) := by
  have hgi := rrelax_gi hp hc hg hj hk hm
  have hin := hk
  obtain ⟨a0, a1, b0, b1⟩ := hk
  have ea : ((k.a.toNat : Nat) : Int) = k.a := by omega
  have eb : ((k.b.toNat : Nat) : Int) = k.b := by omega
  have hval := hg.val
  have hfree : ∀ v : Int, 0 ≤ v → v < n → gi d v ≠ free → gi d v < 1000000000000000 := fun v h0 h1 h2 => by
    rcases hval v h0 h1 with e | e
    · exact absurd e h2
    · omega
  have hle : ∀ v : Int, 0 ≤ v → gi (rrelax d k) v ≤ gi d v := by
    intro v h0
    rw [hgi v h0]
    split
    · rename_i hh; obtain ⟨rfl, _, h3⟩ := hh; omega
    · omega
  -- what turns is no final node, and not t
  have key : gi d k.a ≠ free → gi d k.a + k.m < gi d k.b → S k.a.toNat = false ∧ S k.b.toNat = false ∧ k.b ≠ t ∧ e ≤ gi d k.a + k.m - p k.b := by
    intro h1 h2
    have hsa : S k.a.toNat = false := by
      cases hq : S k.a.toNat
      · rfl
      · have := (h.f.two k hmem hq).1; omega
    have hea : e ≤ gi d k.a - p k.a := by
      rcases h.low k.a.toNat (by omega) hsa with e1 | e1
      · rw [ea] at e1; exact absurd e1 h1
      · rw [ea] at e1; exact e1
    have hsb : S k.b.toNat = false := by
      cases hq : S k.b.toNat
      · rfl
      · have := h.f.one k.b.toNat k.a.toNat (by omega) (by omega) hq hsa
        rw [ea, eb] at this
        rcases this.2 with e1 | e1
        · exact absurd e1 h1
        · omega
    refine ⟨hsa, hsb, ?_, by omega⟩
    intro e1
    have := h.at_.2
    rw [← e1] at this
    omega
  refine ⟨⟨⟨?_, ?_, ?_⟩, ?_, ?_⟩, ?_, hle⟩
  · intro v u hv hu hsv hsu
    have h1 := h.f.one v u hv hu hsv hsu
    rw [hgi v (by omega), hgi u (by omega)]
    have nv : ¬ ((v : Int) = k.b ∧ gi d k.a ≠ free ∧ gi d k.a + k.m < gi d k.b) := by
      rintro ⟨e1, e2, e3⟩
      have := (key e2 e3).2.1
      rw [← e1] at this
      simp at this
      rw [this] at hsv; cases hsv
    rw [if_neg nv]
    refine ⟨h1.1, ?_⟩
    split
    · rename_i hh
      obtain ⟨e1, e2, e3⟩ := hh
      obtain ⟨k1, k2, k3, k4⟩ := key e2 e3
      right
      have h2 := h.f.one v k.a.toNat hv (by omega) hsv k1
      rw [ea] at h2
      rcases h2.2 with e4 | e4
      · exact absurd e4 e2
      · rw [e1]; omega
    · exact h1.2
  · intro v hv hsv
    rw [hgi v (by omega)]
    split
    · rename_i hh
      obtain ⟨e1, e2, e3⟩ := hh
      have := (key e2 e3).2.1
      rw [← e1] at this
      simp at this
      rw [this] at hsv; cases hsv
    · exact h.f.fin v hv hsv
  · intro q hq hsq
    obtain ⟨qa0, qa1, qb0, qb1⟩ := hl q hq
    obtain ⟨h1, h2⟩ := h.f.two q hq hsq
    have na : gi (rrelax d k) q.a = gi d q.a := by
      rw [hgi q.a qa0]
      split
      · rename_i hh
        obtain ⟨e1, e2, e3⟩ := hh
        have := (key e2 e3).2.1
        rw [← e1] at this
        rw [this] at hsq; cases hsq
      · rfl
    have := hle q.b qb0
    rw [na]
    refine ⟨by omega, ?_⟩
    have := hfree q.b qb0 qb1 h2
    unfold free
    omega
  · intro u hu hsu
    rw [hgi u (by omega)]
    split
    · rename_i hh
      obtain ⟨e1, e2, e3⟩ := hh
      right
      have := (key e2 e3).2.2.2
      rw [e1]
      exact this
    · exact h.low u hu hsu
  · rw [hgi t (by omega)]
    split
    · rename_i hh
      obtain ⟨e1, e2, e3⟩ := hh
      exact absurd e1.symm (key e2 e3).2.2.1
    · exact h.at_
  · intro e1
    have hta : gi d k.a ≠ free := by rw [e1]; exact h.at_.1
    have hlt := hfree k.a a0 a1 hta
    have hm1 : gi (rrelax d k) k.b ≤ gi d k.a + k.m := by
      rw [hgi k.b b0]
      split
      · omega
      · rename_i hh
        by_cases h3 : gi d k.a + k.m < gi d k.b
        · exact absurd ⟨rfl, hta, h3⟩ hh
        · omega
    have hm2 : gi (rrelax d k) t = gi d t := by
      rw [hgi t (by omega)]
      split
      · rename_i hh
        obtain ⟨e2, e3, e4⟩ := hh
        exact absurd e2.symm (key e3 e4).2.2.1
      · rfl
    rw [hm2, ← e1]
    refine ⟨hm1, ?_⟩
    unfold free
    omega
end
section
variable {n : Nat} {l : List Lk} {p : Int → Int} {c : Int}
theorem mid_fold {S : Nat → Bool} {t : Nat} {e : Int} (hp : ∀ v, -1000000000000000 ≤ p v) (hc : -1000000000000000 ≤ c) (hl : ∀ q ∈ l, InR n q) (ht : t < n) (hS : S t = false) :
    ∀ (r : List Lk) (j : Nat) (d : List Int) (dn : List Lk), (∀ k ∈ r, k ∈ l ∧ (-17179869184 ≤ k.m ∧ k.m ≤ 17179869184) ∧ p k.b ≤ p k.a + k.m) → Gd n p c j d → j + r.length ≤ 20000 → Mid n l p S t e d →
      (∀ q ∈ dn, InR n q ∧ (q.a = t → gi d q.b ≤ gi d t + q.m ∧ gi d q.b ≠ free)) →
      Mid n l p S t e (r.foldl rrelax d) ∧ ∀ q ∈ dn ++ r, q.a = t → gi (r.foldl rrelax d) q.b ≤ gi (r.foldl rrelax d) t + q.m ∧ gi (r.foldl rrelax d) q.b ≠ free
  | [], j, d, dn, _, _, _, h, hd => ⟨h, fun q hq => (hd q (by simpa using hq)).2⟩
  | k :: r, j, d, dn, hk, hg, hj, h, hd => by
    simp only [List.length_cons] at hj
    obtain ⟨k1, k2, k3⟩ := hk k (by simp)
    have hin := hl k k1
    obtain ⟨s1, s2, s3⟩ := mid_step hp hc hg (by omega) hin k2 k3 hl ht hS k1 h
    have hg2 := rrelax_gd hp hc hg (by omega) hin k2 k3
    have ih := mid_fold hp hc hl ht hS r (j + 1) (rrelax d k) (dn ++ [k]) (fun q hq => hk q (by simp [hq])) hg2 (by omega) s1 (fun q hq => by
      rcases List.mem_append.1 hq with hq | hq
      · obtain ⟨q1, q2⟩ := hd q hq
        refine ⟨q1, fun e1 => ?_⟩
        obtain ⟨q3, q4⟩ := q2 e1
        obtain ⟨a0, a1, b0, b1⟩ := q1
        have h1 := s3 q.b b0
        have h2 : gi (rrelax d k) t = gi d t := by have := h.at_.2; have := s1.at_.2; omega
        rw [h2]
        refine ⟨by omega, ?_⟩
        rcases hg.val q.b b0 b1 with e2 | e2
        · exact absurd e2 q4
        · unfold free; omega
      · obtain rfl := List.mem_singleton.1 hq
        exact ⟨hin, s2⟩)
    rw [List.foldl_cons]
    refine ⟨ih.1, fun q hq => ih.2 q ?_⟩
    simp only [List.mem_append, List.mem_cons, List.append_assoc, List.mem_singleton, List.cons_append, List.nil_append] at hq ⊢
    exact hq
theorem fold_fix : ∀ (r : List Lk) (d : List Int), (∀ k ∈ r, rrelax d k = d) → r.foldl rrelax d = d
  | [], _, _ => rfl
  | k :: r, d, h => by rw [List.foldl_cons, h k (by simp)]; exact fold_fix r d (fun q hq => h q (by simp [hq]))
theorem fin_fix {S : Nat → Bool} {j : Nat} {d : List Int} (hp : ∀ v, -1000000000000000 ≤ p v) (hc : -1000000000000000 ≤ c) (hg : Gd n p c j d) (hj : j ≤ 20000) (hk : ∀ k ∈ l, InR n k ∧ (-17179869184 ≤ k.m ∧ k.m ≤ 17179869184) ∧ p k.b ≤ p k.a + k.m)
    (h : Fin_ n l p S d) (hno : ∀ u : Nat, u < n → S u = false → gi d u = free) : l.foldl rrelax d = d := by
  refine fold_fix l d fun k hkl => ?_
  obtain ⟨⟨a0, a1, b0, b1⟩, k2, k3⟩ := hk k hkl
  have ea : ((k.a.toNat : Nat) : Int) = k.a := by omega
  have hpa := hp k.a
  cases hs : S k.a.toNat
  · have := hno k.a.toNat (by omega) hs
    rw [ea] at this
    exact rrelax_no (by rw [this]; unfold free; omega)
  · obtain ⟨t1, t2⟩ := h.two k hkl hs
    have hf := h.fin k.a.toNat (by omega) hs
    rw [ea] at hf
    rcases hg.val k.a a0 a1 with e | e
    · exact absurd e hf
    · rw [rrelax_yes (by omega), wrap_in (by omega)]
      rw [if_neg (by omega)]
      exact si_same b0 (by rw [hg.len]; exact b1)
theorem round_fin {S : Nat → Bool} {j : Nat} {d : List Int} (hp : ∀ v, -1000000000000000 ≤ p v) (hc : -1000000000000000 ≤ c) (hg : Gd n p c j d) (hj : j + l.length ≤ 20000) (hk : ∀ k ∈ l, InR n k ∧ (-17179869184 ≤ k.m ∧ k.m ≤ 17179869184) ∧ p k.b ≤ p k.a + k.m)
    (h : Fin_ n l p S d) : l.foldl rrelax d = d ∨ ∃ S', Fin_ n l p S' (l.foldl rrelax d) ∧ cnt S n + 1 ≤ cnt S' n := by
  by_cases hex : ∃ u : Nat, u < n ∧ (S u = false ∧ gi d u ≠ free)
  · right
    obtain ⟨t, ht, ⟨hS, hf⟩, hmin⟩ := least_of (fun u => S u = false ∧ gi d u ≠ free) (fun u => gi d u - p u) n hex
    have hmid : Mid n l p S t (gi d t - p t) d := ⟨h, fun u hu hsu => by
      by_cases e : gi d u = free
      · exact .inl e
      · exact .inr (hmin u hu ⟨hsu, e⟩), hf, rfl⟩
    obtain ⟨m1, m2⟩ := mid_fold hp hc (fun q hq => (hk q hq).1) ht hS l j d [] (fun k hkl => ⟨hkl, (hk k hkl).2⟩) hg hj hmid (by simp)
    refine ⟨fun v => S v || v == t, ⟨?_, ?_, ?_⟩, ?_⟩
    · intro v u hv hu hsv hsu
      simp only [Bool.or_eq_false_iff, beq_eq_false_iff_ne, ne_eq] at hsu
      simp only [Bool.or_eq_true, beq_iff_eq] at hsv
      rcases hsv with hsv | rfl
      · exact m1.f.one v u hv hu hsv hsu.1
      · refine ⟨m1.at_.1, ?_⟩
        rcases m1.low u hu hsu.1 with e | e
        · exact .inl e
        · have := m1.at_.2
          exact .inr (by omega)
    · intro v hv hsv
      simp only [Bool.or_eq_true, beq_iff_eq] at hsv
      rcases hsv with hsv | rfl
      · exact m1.f.fin v hv hsv
      · exact m1.at_.1
    · intro q hq hsq
      simp only [Bool.or_eq_true, beq_iff_eq] at hsq
      obtain ⟨⟨a0, a1, b0, b1⟩, _⟩ := hk q hq
      rcases hsq with hsq | e1
      · exact m1.f.two q hq hsq
      · have e2 : q.a = t := by omega
        have := m2 q (by simpa using hq) e2
        rw [e2]
        exact this
    · exact cnt_more (fun i hi => by simp [hi]) hS (by simp) n ht
  · left
    refine fin_fix hp hc hg (by omega) hk h fun u hu hsu => ?_
    by_cases e : gi d u = free
    · exact e
    · exact absurd ⟨u, hu, hsu, e⟩ hex
theorem riter_fix {j : Nat} {d : List Int} (h : l.foldl rrelax (riter l j d) = riter l j d) : ∀ i, j ≤ i → riter l i d = riter l j d := by
  intro i
  induction i with
  | zero => intro hi; rw [show j = 0 by omega]
  | succ i ih =>
    intro hi
    by_cases e : j = i + 1
    · rw [e]
    · rw [riter_succ, ih (by omega), h]
theorem riter_settles (hp : ∀ v, -1000000000000000 ≤ p v) (hc : -1000000000000000 ≤ c) (hl : l.length ≤ 260) (hn : n ≤ 50) (hk : ∀ k ∈ l, InR n k ∧ (-17179869184 ≤ k.m ∧ k.m ≤ 17179869184) ∧ p k.b ≤ p k.a + k.m) {d : List Int} (h : Gd n p c 0 d) :
    ∀ r, r ≤ n → l.foldl rrelax (riter l r d) = riter l r d ∨ ∃ S, Fin_ n l p S (riter l r d) ∧ r ≤ cnt S n
  | 0, _ => .inr ⟨fun _ => false, ⟨fun v u _ _ h => by (cases h), fun v _ h => by (cases h), fun k _ h => by (cases h)⟩, Nat.zero_le _⟩
  | r + 1, hr => by
    rcases riter_settles hp hc hl hn hk h r (by omega) with e | ⟨S, hS, hcnt⟩
    · left
      have := riter_fix e (r + 1) (by omega)
      rw [this, e]
    · have hg := riter_gd hp hc hl hk h r (by omega)
      rcases round_fin hp hc hg (by omega) hk hS with e | ⟨S', h1, h2⟩
      · left
        have := riter_fix e (r + 1) (by omega)
        rw [this, e]
      · right
        exact ⟨S', by rw [riter_succ]; exact h1, by omega⟩
theorem riter_fixed (hp : ∀ v, -1000000000000000 ≤ p v) (hc : -1000000000000000 ≤ c) (hl : l.length ≤ 260) (hn : n ≤ 50) (hk : ∀ k ∈ l, InR n k ∧ (-17179869184 ≤ k.m ∧ k.m ≤ 17179869184) ∧ p k.b ≤ p k.a + k.m) {d : List Int} (h : Gd n p c 0 d) : l.foldl rrelax (riter l n d) = riter l n d := by
  rcases riter_settles hp hc hl hn hk h n (Nat.le_refl _) with e | ⟨S, hS, hcnt⟩
  · exact e
  · refine fin_fix hp hc (riter_gd hp hc hl hk h n (by omega)) (by omega) hk hS fun u hu hsu => ?_
    have := cnt_full S n hcnt u hu
    rw [hsu] at this
    cases this
theorem start_gi {n : Nat} {s : Int} (hs0 : 0 ≤ s) (hs1 : s < n) : ∀ v : Int, 0 ≤ v → v < n → gi (si (List.replicate n free) s 0) v = if v = s then 0 else free := by
  intro v h0 h1
  rw [gi_set_eq hs0 (by simpa using hs1) h0]
  split
  · rfl
  · simp only [gi, List.getD_eq_getElem?_getD, List.getElem?_replicate]
    rw [if_pos (by omega)]
    rfl
theorem bounds_riter {s : Int} (hp : ∀ v, -1000000000000000 ≤ p v) (hp0 : ∀ v, p v ≤ 0) (hl : l.length ≤ 260) (hn : n ≤ 50) (hk : ∀ k ∈ l, InR n k ∧ (-17179869184 ≤ k.m ∧ k.m ≤ 17179869184) ∧ p k.b ≤ p k.a + k.m) (hs0 : 0 ≤ s) (hs1 : s < n) :
    boundsL n l s = rboundsL n l s ∧ l.foldl rrelax (boundsL n l s) = boundsL n l s ∧ Gd n p (-(p s)) 20000 (boundsL n l s) := by
  have h0 : Gd n p (-(p s)) 0 (si (List.replicate n free) s 0) := by
    refine ⟨by simp [si], fun v v0 v1 => ?_⟩
    rw [start_gi hs0 hs1 v v0 v1]
    split
    · rename_i e
      subst e
      right; omega
    · exact .inl rfl
  have hc : -1000000000000000 ≤ -(p s) := by have := hp0 s; omega
  have hfix := riter_fixed hp hc hl hn hk h0
  obtain ⟨j, j1, j2, j3⟩ := settledN_riter hp hc hl hk (n + 1) 0 (si (List.replicate n free) s 0) (by simpa using h0) (by omega)
  have e : boundsL n l s = riter l j (si (List.replicate n free) s 0) := by
    unfold boundsL settled
    rw [show (si (List.replicate n free) s 0).length = n by simp [si]]
    exact j2
  have e2 : riter l j (si (List.replicate n free) s 0) = riter l n (si (List.replicate n free) s 0) := by
    by_cases hjn : n ≤ j
    · exact riter_fix hfix j hjn
    · rcases j3 with e3 | e3
      · omega
      · exact (riter_fix e3 n (by omega)).symm
  have e3 : boundsL n l s = riter l n (si (List.replicate n free) s 0) := e.trans e2
  refine ⟨e3, by rw [e3]; exact hfix, ?_⟩
  rw [e3]
  exact (riter_gd hp hc hl hk h0 n (by omega)).mono (by omega)
end
theorem bounds_same {n : Nat} {l : List Lk} {s : Int} (hok : NetOk n l) (h : (solutionL n l).2 = true) (hs0 : 0 ≤ s) (hs1 : s < n) :
    boundsL n l s = rboundsL n l s ∧ ∀ v : Int, 0 ≤ v → v < n → gi (boundsL n l s) v = free ∨ gi (boundsL n l s) v < free := by
  have hpot := solution_pot hok h
  have hk : ∀ k ∈ l, InR n k ∧ (-17179869184 ≤ k.m ∧ k.m ≤ 17179869184) ∧ gi (solutionL n l).1 k.b ≤ gi (solutionL n l).1 k.a + k.m := fun k hk => ⟨(hok.lk k hk).1, (hok.lk k hk).2.2, hpot.fit k hk⟩
  obtain ⟨h1, _, h3⟩ := bounds_riter (p := fun v => gi (solutionL n l).1 v) hpot.lo hpot.hi hok.l1 (by have := hok.n2; omega) hk hs0 hs1
  refine ⟨h1, fun v v0 v1 => ?_⟩
  rcases h3.val v v0 v1 with e | e
  · exact .inl e
  · right; unfold free; omega
def partV (u z : List Int) (k : Nat) : Int := ((u.zip z).take k).foldl mulAdd 0
theorem partV_succ (u z : List Int) (k : Nat) (h1 : k < u.length) (h2 : k < z.length) : partV u z (k + 1) = wrap64 (partV u z k + wrap64 (gi u k * gi z k)) := by
  unfold partV
  rw [zip_take u z k h1 h2, List.foldl_append]
  rfl
theorem partV_full (u z : List Int) (h : u.length ≤ z.length) : partV u z u.length = valueI u z := by
  unfold partV valueI
  rw [List.take_of_length_le (by simp; omega)]
theorem gw_swap {l : List Wy} {i j : Nat} (hi : i < l.length) (hj : j < l.length) (k : Nat) : gw (swapW l i j) k = if k = j then gw l i else if k = i then gw l j else gw l k := by
  unfold swapW
  simp only [gw, List.getD_eq_getElem?_getD, List.getElem?_set, List.length_set]
  by_cases h1 : k = j
  · subst h1; simp [hj]
  · by_cases h2 : k = i
    · subst h2
      rw [if_neg (fun e => h1 e.symm), if_neg h1, if_pos rfl, if_pos hi, if_pos rfl]
      rfl
    · rw [if_neg (fun e => h1 e.symm), if_neg h1, if_neg (fun e => h2 e.symm), if_neg h2]
theorem mem_gw {l : List Wy} {y : Wy} : y ∈ l ↔ ∃ k, k < l.length ∧ gw l k = y := by
  constructor
  · intro h
    obtain ⟨k, hk, e⟩ := List.mem_iff_getElem.1 h
    exact ⟨k, hk, by simp [gw, List.getD_eq_getElem?_getD, hk, e]⟩
  · rintro ⟨k, hk, e⟩
    refine List.mem_iff_getElem.2 ⟨k, hk, ?_⟩
    simpa [gw, List.getD_eq_getElem?_getD, hk] using e
theorem swap_mem {l : List Wy} {i j : Nat} (hi : i < l.length) (hj : j < l.length) (y : Wy) : y ∈ swapW l i j ↔ y ∈ l := by
  rw [mem_gw, mem_gw]
  constructor
  · rintro ⟨k, hk, e⟩
    rw [swapW_length] at hk
    rw [gw_swap hi hj] at e
    split at e
    · exact ⟨i, hi, e⟩
    · split at e
      · exact ⟨j, hj, e⟩
      · exact ⟨k, hk, e⟩
  · rintro ⟨k, hk, e⟩
    by_cases h1 : k = i
    · subst h1
      exact ⟨j, by rw [swapW_length]; exact hj, by rw [gw_swap hi hj, if_pos rfl]; exact e⟩
    · by_cases h2 : k = j
      · subst h2
        refine ⟨i, by rw [swapW_length]; exact hi, ?_⟩
        rw [gw_swap hi hj, if_neg (fun e => h1 e.symm), if_pos rfl]; exact e
      · exact ⟨k, by rw [swapW_length]; exact hk, by rw [gw_swap hi hj, if_neg h2, if_neg h1]; exact e⟩
/-- The heap's order. -/
def HOk (l : List Wy) : Prop := ∀ i, 0 < i → i < l.length → (gw l ((i - 1) / 2)).far ≤ (gw l i).far
/-- The order, but between one place and its parent. -/
structure UpOk (l : List Wy) (j : Nat) : Prop where
  ok : ∀ i, 0 < i → i < l.length → i ≠ j → (gw l ((i - 1) / 2)).far ≤ (gw l i).far
  over : 0 < j → ∀ c, 0 < c → c < l.length → (c - 1) / 2 = j → (gw l ((j - 1) / 2)).far ≤ (gw l c).far
theorem siftUp_ok : ∀ (f : Nat) (l : List Wy) (j : Nat), j < f → j < l.length → UpOk l j → HOk (siftUp f l j) ∧ ∀ y, y ∈ siftUp f l j ↔ y ∈ l
  | 0, _, _, h, _, _ => absurd h (by omega)
  | f + 1, l, j, hf, hj, h => by
    unfold siftUp
    by_cases h0 : j = 0
    · rw [if_pos h0]
      exact ⟨fun i hi hl => h.ok i hi hl (by omega), fun _ => Iff.rfl⟩
    · rw [if_neg h0]
      have hp : (j - 1) / 2 < l.length := by omega
      by_cases hlt : lessB (gw l j) (gw l ((j - 1) / 2)) = true
      · rw [if_pos hlt]
        have hlt' : (gw l j).far < (gw l ((j - 1) / 2)).far := by simpa [lessB] using hlt
        obtain ⟨p, hpe⟩ : ∃ p, p = (j - 1) / 2 := ⟨_, rfl⟩
        rw [← hpe] at hp hlt' ⊢
        have hpj : p ≠ j := by omega
        have key : UpOk (swapW l j p) p := by
          constructor
          · intro i hi hil hip
            rw [swapW_length] at hil
            rw [gw_swap hj hp, gw_swap hj hp, if_neg hip]
            by_cases hij : i = j
            · subst hij
              rw [if_pos hpe.symm, if_pos rfl]; omega
            · rw [if_neg hij]
              have := h.ok i hi hil hij
              by_cases hq : (i - 1) / 2 = p
              · rw [if_pos hq]; rw [hq] at this; omega
              · rw [if_neg hq]
                by_cases hq2 : (i - 1) / 2 = j
                · rw [if_pos hq2]
                  have := h.over (by omega) i hi hil hq2
                  rw [← hpe] at this; exact this
                · rw [if_neg hq2]; exact this
          · intro hp0 c hc hcl hcp
            rw [swapW_length] at hcl
            have h1 := h.ok p hp0 hp hpj
            rw [gw_swap hj hp, gw_swap hj hp, if_neg (show (p - 1) / 2 ≠ p by omega), if_neg (show (p - 1) / 2 ≠ j by omega), if_neg (show c ≠ p by omega)]
            by_cases hcj : c = j
            · rw [if_pos hcj]; exact h1
            · rw [if_neg hcj]
              have := h.ok c hc hcl hcj
              rw [hcp] at this; omega
        obtain ⟨k1, k2⟩ := siftUp_ok f (swapW l j p) p (by omega) (by rw [swapW_length]; exact hp) key
        exact ⟨k1, fun y => (k2 y).trans (swap_mem hj hp y)⟩
      · rw [if_neg hlt]
        have hlt' : ¬ (gw l j).far < (gw l ((j - 1) / 2)).far := by simpa [lessB] using hlt
        refine ⟨fun i hi hl => ?_, fun _ => Iff.rfl⟩
        by_cases hij : i = j
        · subst hij; omega
        · exact h.ok i hi hl hij
theorem gw_app_left {l : List Wy} {x : Wy} {i : Nat} (h : i < l.length) : gw (l ++ [x]) i = gw l i := by
  simp [gw, List.getD_eq_getElem?_getD, List.getElem?_append_left h]
theorem putW_ok {l : List Wy} {x : Wy} (h : HOk l) : HOk (putW l x) ∧ ∀ y, y ∈ putW l x ↔ y ∈ l ∨ y = x := by
  have := siftUp_ok (l.length + 1) (l ++ [x]) l.length (by omega) (by simp) ⟨fun i hi hl hne => by
    have hi2 : i < l.length := by simp at hl; omega
    rw [gw_app_left hi2, gw_app_left (by omega)]
    exact h i hi hi2, fun h0 c hc hcl he => by simp at hcl; omega⟩
  exact ⟨this.1, fun y => (this.2 y).trans (by simp)⟩
/-- The order, but between one place and its children. -/
structure DownOk (l : List Wy) (j : Nat) : Prop where
  ok : ∀ i, 0 < i → i < l.length → (i - 1) / 2 ≠ j → (gw l ((i - 1) / 2)).far ≤ (gw l i).far
  over : 0 < j → ∀ c, 0 < c → c < l.length → (c - 1) / 2 = j → (gw l ((j - 1) / 2)).far ≤ (gw l c).far
theorem downOf_spec (l : List Wy) (j : Nat) (h : 2 * j + 1 < l.length) : downOf l j < l.length ∧ 0 < downOf l j ∧ (downOf l j - 1) / 2 = j ∧ ∀ i, 0 < i → i < l.length → (i - 1) / 2 = j → (gw l (downOf l j)).far ≤ (gw l i).far := by
  unfold downOf
  split
  · rename_i hc
    have hlt : (gw l (2 * j + 2)).far < (gw l (2 * j + 1)).far := by simpa [lessB] using hc.2
    refine ⟨hc.1, by omega, by omega, fun i hi hl he => ?_⟩
    rcases (by omega : i = 2 * j + 1 ∨ i = 2 * j + 2) with rfl | rfl
    · omega
    · omega
  · rename_i hc
    refine ⟨h, by omega, by omega, fun i hi hl he => ?_⟩
    rcases (by omega : i = 2 * j + 1 ∨ i = 2 * j + 2) with rfl | rfl
    · omega
    · have : ¬ (gw l (2 * j + 2)).far < (gw l (2 * j + 1)).far := fun hx => hc ⟨hl, by simpa [lessB] using hx⟩
      omega
theorem siftDown_ok : ∀ (f : Nat) (l : List Wy) (j : Nat), l.length ≤ f + j → DownOk l j → HOk (siftDown f l j) ∧ ∀ y, y ∈ siftDown f l j ↔ y ∈ l
  | 0, l, j, hf, h => by
    unfold siftDown
    refine ⟨fun i hi hl => h.ok i hi hl (by omega), fun _ => Iff.rfl⟩
  | f + 1, l, j, hf, h => by
    unfold siftDown
    by_cases hc : 2 * j + 1 < l.length ∧ lessB (gw l (downOf l j)) (gw l j) = true
    · rw [if_pos hc]
      obtain ⟨c1, c2, c3, c4⟩ := downOf_spec l j hc.1
      have hlt : (gw l (downOf l j)).far < (gw l j).far := by simpa [lessB] using hc.2
      obtain ⟨c, hce⟩ : ∃ c, c = downOf l j := ⟨_, rfl⟩
      rw [← hce] at c1 c2 c3 c4 hlt ⊢
      have hj : j < l.length := by omega
      have key : DownOk (swapW l j c) c := by
        constructor
        · intro i hi hil hic
          rw [swapW_length] at hil
          rw [gw_swap hj c1, gw_swap hj c1, if_neg hic]
          by_cases hq : (i - 1) / 2 = j
          · rw [if_pos hq]
            by_cases hi2 : i = c
            · rw [if_pos hi2]; omega
            · rw [if_neg hi2, if_neg (show i ≠ j by omega)]
              exact c4 i hi hil hq
          · rw [if_neg hq, if_neg (show i ≠ c by rintro rfl; exact hq c3)]
            by_cases hij : i = j
            · rw [if_pos hij]
              have := h.over (by omega) c c2 c1 c3
              rw [hij]; exact this
            · rw [if_neg hij]
              exact h.ok i hi hil hq
        · intro _ d hd hdl hdc
          rw [swapW_length] at hdl
          rw [gw_swap hj c1, gw_swap hj c1, c3, if_neg (show j ≠ c by omega), if_pos rfl, if_neg (show d ≠ c by omega), if_neg (show d ≠ j by omega)]
          have := h.ok d hd hdl (by omega)
          rw [hdc] at this; exact this
      obtain ⟨k1, k2⟩ := siftDown_ok f (swapW l j c) c (by rw [swapW_length]; omega) key
      exact ⟨k1, fun y => (k2 y).trans (swap_mem hj c1 y)⟩
    · rw [if_neg hc]
      refine ⟨fun i hi hl => ?_, fun _ => Iff.rfl⟩
      by_cases hq : (i - 1) / 2 = j
      · have h2 : 2 * j + 1 < l.length := by omega
        obtain ⟨c1, c2, c3, c4⟩ := downOf_spec l j h2
        have h3 : ¬ (gw l (downOf l j)).far < (gw l j).far := fun hx => hc ⟨h2, by simpa [lessB] using hx⟩
        have := c4 i hi hl hq
        rw [hq]; omega
      · exact h.ok i hi hl hq
theorem gw_cut {l : List Wy} {x : Wy} {m k : Nat} (h : k < m) (hm : m ≤ l.length) : gw ((l.set 0 x).take m) k = if k = 0 then x else gw l k := by
  simp only [gw, List.getD_eq_getElem?_getD, List.getElem?_take, if_pos h, List.getElem?_set]
  by_cases h0 : k = 0
  · subst h0; rw [if_pos rfl, if_pos rfl, if_pos (by omega)]; rfl
  · rw [if_neg (fun e => h0 e.symm), if_neg h0]
theorem takeL_ok {l : List Wy} (h : HOk l) (h0 : 0 < l.length) : HOk (takeL l) ∧ (∀ y, y ∈ takeL l → y ∈ l) ∧ ∀ y, y ∈ l → y = gw l 0 ∨ y ∈ takeL l := by
  have hlen : ((l.set 0 (gw l (l.length - 1))).take (l.length - 1)).length = l.length - 1 := by simp
  have hd : DownOk ((l.set 0 (gw l (l.length - 1))).take (l.length - 1)) 0 := by
    refine ⟨fun i hi hil hne => ?_, fun hx => absurd hx (by omega)⟩
    rw [hlen] at hil
    rw [gw_cut (by omega) (by omega), gw_cut (by omega) (by omega), if_neg hne, if_neg (by omega)]
    exact h i hi (by omega)
  obtain ⟨k1, k2⟩ := siftDown_ok l.length _ 0 (by rw [hlen]; omega) hd
  refine ⟨k1, fun y hy => ?_, fun y hy => ?_⟩
  · have hy := (k2 y).1 hy
    rw [mem_gw] at hy
    obtain ⟨k, hk, e⟩ := hy
    rw [hlen] at hk
    rw [gw_cut hk (by omega)] at e
    split at e
    · exact mem_gw.2 ⟨_, by omega, e⟩
    · exact mem_gw.2 ⟨k, by omega, e⟩
  · obtain ⟨k, hk, e⟩ := mem_gw.1 hy
    by_cases hk0 : k = 0
    · left; rw [← e, hk0]
    · right
      refine (k2 y).2 (mem_gw.2 ?_)
      by_cases hkl : k = l.length - 1
      · exact ⟨0, by rw [hlen]; omega, by rw [gw_cut (by omega) (by omega), if_pos rfl, ← e, hkl]⟩
      · exact ⟨k, by rw [hlen]; omega, by rw [gw_cut (by omega) (by omega), if_neg hk0]; exact e⟩
theorem root_le {l : List Wy} (h : HOk l) : ∀ i, i < l.length → (gw l 0).far ≤ (gw l i).far := by
  intro i
  induction i using Nat.strongRecOn with
  | _ i ih =>
    intro hi
    by_cases h0 : i = 0
    · rw [h0]; exact Int.le_refl _
    · have := ih ((i - 1) / 2) (by omega) (by omega)
      have := h i (by omega) hi
      omega
theorem root_mem {l : List Wy} (h : HOk l) {y : Wy} (hy : y ∈ l) : (gw l 0).far ≤ y.far := by
  obtain ⟨k, hk, e⟩ := mem_gw.1 hy
  rw [← e]; exact root_le h k hk

/-- The slack of a link, as a whole number. -/
def sl (x : List Int) (k : Lk) : Int := gi x k.a + k.m - gi x k.b
structure Fld (n : Nat) (l : List Lk) (x u f : List Int) : Prop where
  n1 : n ≤ 12
  l1 : l.length ≤ 260
  lk : ∀ k : Nat, k < l.length → 0 ≤ (gl l k).a ∧ (gl l k).a < n ∧ 0 ≤ (gl l k).b ∧ (gl l k).b < n ∧ -17179869184 ≤ (gl l k).m ∧ (gl l k).m ≤ 17179869184
  xb : ∀ v : Int, -1000000000000000 ≤ gi x v ∧ gi x v ≤ 4600000000000000000
  lf : f.length = n
  s0 : ∀ k : Nat, k < l.length → 0 ≤ sl x (gl l k)
  tight : ∀ k : Nat, k < l.length → 0 < gi u k → sl x (gl l k) = 0

theorem lookW_app (v : Int) (y : Wy) (k : Int) : ∀ d : List (Int × Wy), lookW (d ++ [(v, y)]) k = (lookW d k).or (if v == k then some y else none)
  | [] => by simp only [List.nil_append, lookW]; split <;> rfl
  | (a, z) :: d => by
    simp only [List.cons_append, lookW]
    split
    · rfl
    · exact lookW_app v y k d
theorem lookW_old {d : List (Int × Wy)} {k : Int} {z : Wy} (v : Int) (y : Wy) (h : lookW d k = some z) : lookW (d ++ [(v, y)]) k = some z := by
  rw [lookW_app, h]; rfl
theorem lookW_new {d : List (Int × Wy)} {v : Int} (y : Wy) (h : lookW d v = none) : lookW (d ++ [(v, y)]) v = some y := by
  rw [lookW_app, h]; simp
theorem lookW_inv {d : List (Int × Wy)} {v k : Int} {y z : Wy} (h : lookW (d ++ [(v, y)]) k = some z) : lookW d k = some z ∨ (k = v ∧ z = y) := by
  rw [lookW_app] at h
  cases hq : lookW d k with
  | some a => rw [hq] at h; left; simpa using h
  | none =>
    rw [hq] at h
    right
    by_cases e : v = k
    · subst e; simp at h; exact ⟨rfl, h.symm⟩
    · simp [e] at h
/-- How many nodes are settled. -/
def cd (n : Nat) (d : List (Int × Wy)) : Nat := cnt (fun i => (lookW d i).isSome) n
theorem cd_le (n : Nat) (d : List (Int × Wy)) : cd n d ≤ n := cnt_le _ _
theorem cd_more {n : Nat} {d : List (Int × Wy)} {v : Int} (y : Wy) (h : lookW d v = none) (h0 : 0 ≤ v) (h1 : v < n) : cd n d + 1 ≤ cd n (d ++ [(v, y)]) := by
  have hv : ((v.toNat : Nat) : Int) = v := by omega
  refine cnt_more (v := v.toNat) (fun i hi => ?_) ?_ ?_ n (by omega)
  · obtain ⟨z, hz⟩ := Option.isSome_iff_exists.1 hi
    simp only [lookW_old v y hz, Option.isSome_some]
  · simp only [hv, h]; rfl
  · simp only [hv, lookW_new y h]; rfl

def predW (l : List Lk) (y : Wy) : Int := if y.back then (gl l y.link).b else (gl l y.link).a
/-- y is reached from z by its link. -/
structure Arc (l : List Lk) (x u : List Int) (y z : Wy) : Prop where
  l0 : 0 ≤ y.link
  l1 : y.link < l.length
  fw : y.back = false → (gl l y.link).b = y.node ∧ (gl l y.link).a = z.node ∧ y.far = z.far + sl x (gl l y.link)
  bw : y.back = true → (gl l y.link).a = y.node ∧ (gl l y.link).b = z.node ∧ 0 < gi u y.link ∧ y.far = z.far
inductive Chain (l : List Lk) (x u : List Int) (s : Int) (d : List (Int × Wy)) : Wy → List Wy → Prop
  | nil {y : Wy} : y.link = -1 → y.node = s → y.far = 0 → Chain l x u s d y []
  | cons {y z : Wy} {ys : List Wy} : Arc l x u y z → lookW d (predW l y) = some z → Chain l x u s d z ys → Chain l x u s d y (y :: ys)
theorem Chain.mono {l : List Lk} {x u : List Int} {s : Int} {d d' : List (Int × Wy)} (hm : ∀ k z, lookW d k = some z → lookW d' k = some z) {y : Wy} {ys : List Wy} (h : Chain l x u s d y ys) : Chain l x u s d' y ys := by
  induction h with
  | nil h1 h2 h3 => exact .nil h1 h2 h3
  | cons h1 h2 _ ih => exact .cons h1 (hm _ _ h2) ih
theorem Chain.path {l : List Lk} {x u : List Int} {s : Int} {d : List (Int × Wy)} {y : Wy} {ys : List Wy} (h : Chain l x u s d y ys) : ∀ fuel, ys.length < fuel → pathN d l fuel y = some ys := by
  induction h with
  | nil h1 h2 h3 =>
    intro fuel hf
    obtain ⟨k, rfl⟩ : ∃ k, fuel = k + 1 := ⟨fuel - 1, by omega⟩
    unfold pathN
    rw [if_pos (by omega)]
  | cons h1 h2 _ ih =>
    intro fuel hf
    obtain ⟨k, rfl⟩ : ∃ k, fuel = k + 1 := ⟨fuel - 1, by omega⟩
    have a0 := h1.l0
    have a1 := h1.l1
    unfold pathN
    rw [if_neg (by omega), if_neg (by omega)]
    simp only [nextW]
    unfold predW at h2
    rw [h2]
    simp only [Option.getD_some]
    rw [ih k (by simp at hf; omega)]
    rfl
/-- A node is settled within c, or waits within c. -/
def To (d : List (Int × Wy)) (h : List Wy) (w c : Int) : Prop := (∃ z, lookW d w = some z ∧ z.far ≤ c) ∨ ∃ e ∈ h, e.node = w ∧ e.far ≤ c
structure Dj (n : Nat) (l : List Lk) (x u f : List Int) (s : Int) (d : List (Int × Wy)) (h : List Wy) : Prop where
  node : ∀ v y, lookW d v = some y → y.node = v ∧ 0 ≤ v ∧ v < n ∧ gi f v ≤ 0 ∧ 0 ≤ y.far ∧ gi x v + y.far ≤ gi x s + cd n d * 17179869184
  chain : ∀ v y, lookW d v = some y → ∃ ys, Chain l x u s d y ys ∧ (ys.map (·.node)).Nodup ∧ ys.length + 1 ≤ cd n d ∧ ∀ q ∈ ys, lookW d q.node = some q
  ent : ∀ e ∈ h, 0 ≤ e.node ∧ e.node < n ∧ 0 ≤ e.far ∧ gi x e.node + e.far ≤ gi x s + cd n d * 17179869184 ∧ ((e.link = -1 ∧ e.node = s ∧ e.far = 0) ∨ ∃ z, lookW d (predW l e) = some z ∧ Arc l x u e z)
  le : ∀ v y, lookW d v = some y → ∀ e ∈ h, y.far ≤ e.far
  fw : ∀ v y, lookW d v = some y → ∀ k : Nat, k < l.length → (gl l k).a = v → To d h (gl l k).b (y.far + sl x (gl l k))
  bw : ∀ v y, lookW d v = some y → ∀ k : Nat, k < l.length → (gl l k).b = v → 0 < gi u k → To d h (gl l k).a y.far
  start : To d h s 0
  ok : HOk h
section
variable {n : Nat} {l : List Lk} {x u f : List Int} {s : Int}
/-- What a settled node puts into the heap. -/
def Push (l : List Lk) (x u : List Int) (y : Wy) (j : Nat) (e : Wy) : Prop :=
  ((gl l j).a = y.node ∧ e = ⟨(gl l j).b, y.far + sl x (gl l j), j, false⟩) ∨ ((gl l j).b = y.node ∧ 0 < gi u j ∧ e = ⟨(gl l j).a, y.far, j, true⟩)
theorem slackI_eq (hF : Fld n l x u f) (k : Nat) (hk : k < l.length) : slackI x (gl l k) = sl x (gl l k) := by
  have h1 := hF.xb (gl l k).a
  have h2 := hF.xb (gl l k).b
  have h3 := hF.lk k hk
  unfold slackI sl
  rw [wrap_in (a := gi x (gl l k).a + (gl l k).m) (by omega), wrap_in (by omega)]
theorem pushL_spec (hF : Fld n l x u f) {y : Wy} (hy0 : 0 ≤ y.far) (hy1 : gi x y.node + y.far ≤ 4600000500000000000) {h : List Wy} (hh : HOk h) (k : Nat) (hk : k < l.length) :
    HOk (pushL x u y l h k) ∧ ∀ e, e ∈ pushL x u y l h k ↔ e ∈ h ∨ Push l x u y k e := by
  have h2 := hF.xb (gl l k).b
  have h2' := hF.xb y.node
  have h3 := hF.lk k hk
  have h4 := hF.s0 k hk
  have e1 : (gl l k).a = y.node → wrap64 (y.far + slackI x (gl l k)) = y.far + sl x (gl l k) := by
    intro ha
    rw [slackI_eq hF k hk]
    refine wrap_in ?_
    unfold sl at h4 ⊢
    rw [ha] at h4 ⊢
    omega
  have e2 : 0 < gi u k → wrap64 (y.far - slackI x (gl l k)) = y.far := by
    intro hu
    rw [slackI_eq hF k hk, hF.tight k hk hu]
    rw [wrap_in (by omega)]; omega
  have inner : HOk (if (gl l k).a = y.node then putW h ⟨(gl l k).b, wrap64 (y.far + slackI x (gl l k)), k, false⟩ else h) ∧ ∀ e, e ∈ (if (gl l k).a = y.node then putW h ⟨(gl l k).b, wrap64 (y.far + slackI x (gl l k)), k, false⟩ else h) ↔ e ∈ h ∨ ((gl l k).a = y.node ∧ e = ⟨(gl l k).b, y.far + sl x (gl l k), k, false⟩) := by
    by_cases ha : (gl l k).a = y.node
    · rw [if_pos ha, e1 ha]
      exact ⟨(putW_ok hh).1, fun e => ((putW_ok hh).2 e).trans (by simp [ha])⟩
    · rw [if_neg ha]
      exact ⟨hh, fun e => by simp [ha]⟩
  unfold pushL Push
  by_cases hb : (gl l k).b = y.node ∧ 0 < gi u k
  · rw [if_pos hb, e2 hb.2]
    refine ⟨(putW_ok inner.1).1, fun e => ((putW_ok inner.1).2 e).trans ?_⟩
    rw [inner.2 e]
    simp only [hb.1, hb.2, true_and, or_assoc]
  · rw [if_neg hb]
    refine ⟨inner.1, fun e => (inner.2 e).trans ?_⟩
    constructor
    · rintro (h | h)
      · exact .inl h
      · exact .inr (.inl h)
    · rintro (h | h | ⟨h, h', _⟩)
      · exact .inl h
      · exact .inr h
      · exact absurd ⟨h, h'⟩ hb
theorem pushN_spec (hF : Fld n l x u f) {y : Wy} (hy0 : 0 ≤ y.far) (hy1 : gi x y.node + y.far ≤ 4600000500000000000) {h : List Wy} (hh : HOk h) : ∀ (k : Nat), k ≤ l.length →
    HOk (pushN x u y l k h) ∧ ∀ e, e ∈ pushN x u y l k h ↔ e ∈ h ∨ ∃ j : Nat, j < k ∧ Push l x u y j e
  | 0, _ => ⟨hh, fun e => by simp [pushN]⟩
  | k + 1, hk => by
    obtain ⟨i1, i2⟩ := pushN_spec hF hy0 hy1 hh k (by omega)
    obtain ⟨j1, j2⟩ := pushL_spec hF hy0 hy1 i1 k (by omega)
    refine ⟨j1, fun e => (j2 e).trans ?_⟩
    rw [i2 e]
    constructor
    · rintro ((h | ⟨j, hj, h⟩) | h)
      · exact .inl h
      · exact .inr ⟨j, by omega, h⟩
      · exact .inr ⟨k, by omega, h⟩
    · rintro (h | ⟨j, hj, h⟩)
      · exact .inl (.inl h)
      · by_cases e : j = k
        · subst e; exact .inr h
        · exact .inl (.inr ⟨j, by omega, h⟩)
theorem dj_start (hs0 : 0 ≤ s) (hs1 : s < n) : Dj n l x u f s [] (putW [] ⟨s, 0, -1, false⟩) := by
  have hok : HOk ([] : List Wy) := fun i _ h => by simp at h
  obtain ⟨h1, h2⟩ := putW_ok (x := ⟨s, 0, -1, false⟩) hok
  have h3 : ∀ e ∈ putW [] ⟨s, 0, -1, false⟩, e = (⟨s, 0, -1, false⟩ : Wy) := fun e he => by simpa using (h2 e).1 he
  refine ⟨fun v y h => by simp [lookW] at h, fun v y h => by simp [lookW] at h, fun e he => ?_, fun v y h => by simp [lookW] at h, fun v y h => by simp [lookW] at h, fun v y h => by simp [lookW] at h, ?_, h1⟩
  · rw [h3 e he]
    refine ⟨hs0, hs1, Int.le_refl _, ?_, .inl ⟨rfl, rfl, rfl⟩⟩
    show gi x s + 0 ≤ _
    omega
  · exact .inr ⟨⟨s, 0, -1, false⟩, (h2 _).2 (.inr rfl), rfl, Int.le_refl _⟩
theorem dj_skip {d : List (Int × Wy)} {h : List Wy} (hd : Dj n l x u f s d h) (h0 : 0 < h.length) (hs : (lookW d (gw h 0).node).isSome = true) : Dj n l x u f s d (takeL h) := by
  obtain ⟨t1, t2, t3⟩ := takeL_ok hd.ok h0
  have hr : gw h 0 ∈ h := mem_gw.2 ⟨0, h0, rfl⟩
  have hto : ∀ w c, To d h w c → To d (takeL h) w c := by
    rintro w c (h1 | ⟨e, he, e1, e2⟩)
    · exact .inl h1
    · rcases t3 e he with rfl | h3
      · obtain ⟨z, hz⟩ := Option.isSome_iff_exists.1 hs
        rw [e1] at hz
        exact .inl ⟨z, hz, Int.le_trans (hd.le _ z hz _ hr) e2⟩
      · exact .inr ⟨e, h3, e1, e2⟩
  exact ⟨hd.node, hd.chain, fun e he => hd.ent e (t2 e he), fun v y hv e he => hd.le v y hv e (t2 e he), fun v y hv k hk ha => hto _ _ (hd.fw v y hv k hk ha), fun v y hv k hk hb hu => hto _ _ (hd.bw v y hv k hk hb hu), hto _ _ hd.start, t1⟩
theorem chain_new {d : List (Int × Wy)} {h : List Wy} (hd : Dj n l x u f s d h) {y : Wy} (hy : y ∈ h) (hn : lookW d y.node = none) :
    ∃ ys, Chain l x u s (d ++ [(y.node, y)]) y ys ∧ (ys.map (·.node)).Nodup ∧ ys.length + 1 ≤ cd n (d ++ [(y.node, y)]) ∧ ∀ q ∈ ys, lookW (d ++ [(y.node, y)]) q.node = some q := by
  obtain ⟨a0, a1, a2, a3, a4⟩ := hd.ent y hy
  have hc := cd_more (n := n) y hn a0 a1
  rcases a4 with ⟨b1, b2, b3⟩ | ⟨z, b1, b2⟩
  · exact ⟨[], .nil b1 b2 b3, List.nodup_nil, by simp; omega, by simp⟩
  · obtain ⟨ys, c1, c2, c3, c4⟩ := hd.chain _ z b1
    refine ⟨y :: ys, .cons b2 (lookW_old _ _ b1) (c1.mono fun k z hz => lookW_old _ _ hz), ?_, by simp; omega, ?_⟩
    · rw [List.map_cons, List.nodup_cons]
      refine ⟨fun hm => ?_, c2⟩
      obtain ⟨q, hq, e⟩ := List.mem_map.1 hm
      have := c4 q hq
      rw [e, hn] at this
      cases this
    · intro q hq
      rcases List.mem_cons.1 hq with rfl | hq
      · exact lookW_new _ hn
      · exact lookW_old _ _ (c4 q hq)
theorem dj_settle (hF : Fld n l x u f) {d : List (Int × Wy)} {h : List Wy} (hd : Dj n l x u f s d h) (h0 : 0 < h.length) (hn : lookW d (gw h 0).node = none) (hf : ¬ 0 < gi f (gw h 0).node) :
    Dj n l x u f s (d ++ [((gw h 0).node, gw h 0)]) (pushN x u (gw h 0) l l.length (takeL h)) := by
  obtain ⟨t1, t2, t3⟩ := takeL_ok hd.ok h0
  have hr : gw h 0 ∈ h := mem_gw.2 ⟨0, h0, rfl⟩
  have hmin : ∀ e ∈ h, (gw h 0).far ≤ e.far := fun e he => root_mem hd.ok he
  obtain ⟨y, hye⟩ : ∃ y, y = gw h 0 := ⟨_, rfl⟩
  rw [← hye] at hn hf hr hmin t3 ⊢
  obtain ⟨a0, a1, a2, a3, a4⟩ := hd.ent y hr
  have hcn : cd n d ≤ n := cd_le _ _
  have hn12 := hF.n1
  have hxs := hF.xb s
  have hyb : gi x y.node + y.far ≤ 4600000500000000000 := by omega
  obtain ⟨p1, p2⟩ := pushN_spec hF a2 hyb t1 l.length (Nat.le_refl _)
  have hc := cd_more (n := n) y hn a0 a1
  have hto : ∀ w c, To d h w c → To (d ++ [(y.node, y)]) (pushN x u y l l.length (takeL h)) w c := by
    rintro w c (⟨z, hz, e2⟩ | ⟨e, he, e1, e2⟩)
    · exact .inl ⟨z, lookW_old _ _ hz, e2⟩
    · rcases t3 e he with rfl | h3
      · exact .inl ⟨e, by rw [← e1]; exact lookW_new _ hn, e2⟩
      · exact .inr ⟨e, (p2 e).2 (.inl h3), e1, e2⟩
  refine ⟨?_, ?_, ?_, ?_, ?_, ?_, hto _ _ hd.start, p1⟩
  · intro v z hz
    rcases lookW_inv hz with h1 | ⟨rfl, rfl⟩
    · obtain ⟨b1, b2, b3, b4, b5, b6⟩ := hd.node v z h1
      exact ⟨b1, b2, b3, b4, b5, by omega⟩
    · exact ⟨rfl, a0, a1, by omega, a2, by omega⟩
  · intro v z hz
    rcases lookW_inv hz with h1 | ⟨rfl, rfl⟩
    · obtain ⟨ys, c1, c2, c3, c4⟩ := hd.chain v z h1
      exact ⟨ys, c1.mono fun k z hz => lookW_old _ _ hz, c2, by omega, fun q hq => lookW_old _ _ (c4 q hq)⟩
    · exact chain_new hd hr hn
  · intro e he
    rcases (p2 e).1 he with h1 | ⟨j, hj, ⟨h1, rfl⟩ | ⟨h1, h2, rfl⟩⟩
    · obtain ⟨b1, b2, b3, b4, b5⟩ := hd.ent e (t2 e h1)
      refine ⟨b1, b2, b3, by omega, ?_⟩
      rcases b5 with b5 | ⟨z, b5, b6⟩
      · exact .inl b5
      · exact .inr ⟨z, lookW_old _ _ b5, b6⟩
    · have h3 := hF.lk j hj
      have h4 := hF.s0 j hj
      refine ⟨h3.2.2.1, h3.2.2.2.1, ?_, ?_, .inr ⟨y, ?_, ?_⟩⟩
      · show 0 ≤ y.far + sl x (gl l j); omega
      · show gi x (gl l j).b + (y.far + sl x (gl l j)) ≤ _
        unfold sl
        rw [h1]; omega
      · simp only [predW, Bool.false_eq_true, if_false, h1]
        exact lookW_new _ hn
      · exact ⟨by simp, by simpa using hj, fun _ => ⟨rfl, h1, rfl⟩, fun hx => by cases hx⟩
    · have h3 := hF.lk j hj
      have h4 := hF.tight j hj h2
      refine ⟨h3.1, h3.2.1, a2, ?_, .inr ⟨y, ?_, ?_⟩⟩
      · show gi x (gl l j).a + y.far ≤ _
        unfold sl at h4
        rw [h1] at h4; omega
      · simp only [predW, if_true, h1]
        exact lookW_new _ hn
      · exact ⟨by simp, by simpa using hj, fun hx => (by cases hx), fun _ => ⟨rfl, h1, h2, rfl⟩⟩
  · intro v z hz e he
    have hzy : z.far ≤ y.far := by
      rcases lookW_inv hz with h1 | ⟨rfl, rfl⟩
      · exact hd.le v z h1 y hr
      · exact Int.le_refl _
    rcases (p2 e).1 he with h1 | ⟨j, hj, ⟨h1, rfl⟩ | ⟨h1, h2, rfl⟩⟩
    · exact Int.le_trans hzy (hmin e (t2 e h1))
    · have h4 := hF.s0 j hj
      show z.far ≤ y.far + sl x (gl l j); omega
    · exact hzy
  · intro v z hz k hk ha
    rcases lookW_inv hz with h1 | ⟨rfl, rfl⟩
    · exact hto _ _ (hd.fw v z h1 k hk ha)
    · exact .inr ⟨_, (p2 _).2 (.inr ⟨k, hk, .inl ⟨ha, rfl⟩⟩), rfl, Int.le_refl _⟩
  · intro v z hz k hk hb hu
    rcases lookW_inv hz with h1 | ⟨rfl, rfl⟩
    · exact hto _ _ (hd.bw v z h1 k hk hb hu)
    · exact .inr ⟨_, (p2 _).2 (.inr ⟨k, hk, .inr ⟨hb, hu, rfl⟩⟩), rfl, Int.le_refl _⟩
/-- What nearest finds. -/
def Found (n : Nat) (l : List Lk) (x u f : List Int) (s : Int) (r : List (Int × Wy) × Int × Bool) : Prop :=
  (∃ d, r = (d, 0, false) ∧ Dj n l x u f s d []) ∨
  ∃ d h y, r = (d ++ [(y.node, y)], y.node, true) ∧ Dj n l x u f s d h ∧ y ∈ h ∧ lookW d y.node = none ∧ 0 < gi f y.node ∧ ∀ e ∈ h, y.far ≤ e.far
theorem near_ok (hF : Fld n l x u f) : ∀ (fuel : Nat) (d : List (Int × Wy)) (h : List Wy), Dj n l x u f s d h → (n - cd n d) * (2 * l.length + 1) + h.length < fuel → (n - cd n d) * (2 * l.length + 1) + h.length ≤ 400000 →
    ∃ r, nearN l x u f fuel d h = some r ∧ Found n l x u f s r
  | 0, _, _, _, hm, _ => absurd hm (by omega)
  | fuel + 1, d, h, hd, hm, hm2 => by
    unfold nearN
    rw [if_neg (by omega)]
    by_cases h0 : h.length = 0
    · rw [if_pos h0]
      have : h = [] := List.length_eq_zero_iff.1 h0
      subst this
      exact ⟨_, rfl, .inl ⟨d, rfl, hd⟩⟩
    · rw [if_neg h0]
      have hr : gw h 0 ∈ h := mem_gw.2 ⟨0, by omega, rfl⟩
      by_cases hs : (lookW d (gw h 0).node).isSome = true
      · rw [if_pos hs]
        refine near_ok hF fuel d (takeL h) (dj_skip hd (by omega) hs) ?_ ?_ <;> rw [takeL_length] <;> omega
      · rw [if_neg hs]
        have hn : lookW d (gw h 0).node = none := by simpa using hs
        obtain ⟨a0, a1, a2, a3, a4⟩ := hd.ent _ hr
        rw [if_neg (by rw [hF.lf]; omega)]
        by_cases hf : 0 < gi f (gw h 0).node
        · rw [if_pos hf]
          exact ⟨_, rfl, .inr ⟨d, h, gw h 0, rfl, hd, hr, hn, hf, fun e he => root_mem hd.ok he⟩⟩
        · rw [if_neg hf]
          have hc := cd_more (n := n) (gw h 0) hn a0 a1
          have hcn := cd_le n (d ++ [((gw h 0).node, gw h 0)])
          have hp := pushN_length x u (gw h 0) l (takeL h) l.length
          rw [takeL_length] at hp
          have hmul : (n - cd n (d ++ [((gw h 0).node, gw h 0)])) * (2 * l.length + 1) + (2 * l.length + 1) ≤ (n - cd n d) * (2 * l.length + 1) := by
            have := Nat.mul_le_mul_right (2 * l.length + 1) (show n - cd n (d ++ [((gw h 0).node, gw h 0)]) + 1 ≤ n - cd n d by omega)
            rw [Nat.add_mul, Nat.one_mul] at this
            exact this
          exact near_ok hF fuel _ _ (dj_settle hF hd (by omega) hn hf) (by omega) (by omega)
end
def sumN (g : Nat → Int) : Nat → Int
  | 0 => 0
  | k + 1 => sumN g k + g k
theorem sumN_congr {g h : Nat → Int} : ∀ k, (∀ i, i < k → g i = h i) → sumN g k = sumN h k
  | 0, _ => rfl
  | k + 1, hi => by
    unfold sumN
    rw [sumN_congr k fun i h => hi i (by omega), hi k (by omega)]
theorem sumN_add (g h : Nat → Int) : ∀ k, sumN (fun i => g i + h i) k = sumN g k + sumN h k
  | 0 => rfl
  | k + 1 => by
    unfold sumN
    rw [sumN_add g h k]; omega
theorem sumN_mul (c : Int) (g : Nat → Int) : ∀ k, sumN (fun i => c * g i) k = c * sumN g k
  | 0 => by simp [sumN]
  | k + 1 => by
    unfold sumN
    rw [sumN_mul c g k, Int.mul_add]
theorem sumN_zero : ∀ k, sumN (fun _ => 0) k = 0
  | 0 => rfl
  | k + 1 => by unfold sumN; rw [sumN_zero k]; rfl
theorem sumN_le {g h : Nat → Int} : ∀ k, (∀ i, i < k → g i ≤ h i) → sumN g k ≤ sumN h k
  | 0, _ => Int.le_refl _
  | k + 1, hi => by
    unfold sumN
    have := sumN_le k fun i h => hi i (by omega)
    have := hi k (by omega)
    omega
theorem sumN_const (c : Int) : ∀ k : Nat, sumN (fun _ => c) k = k * c
  | 0 => by simp [sumN]
  | k + 1 => by
    unfold sumN
    rw [sumN_const c k]
    have : ((k + 1 : Nat) : Int) = (k : Int) + 1 := by omega
    rw [this, Int.add_mul, Int.one_mul]
theorem sumN_upd {g h : Nat → Int} {j : Nat} : ∀ k, (∀ i, i < k → i ≠ j → g i = h i) → sumN g k = sumN h k + if j < k then g j - h j else 0
  | 0, _ => by simp [sumN]
  | k + 1, hi => by
    unfold sumN
    rw [sumN_upd k fun i h => hi i (by omega)]
    by_cases e : j = k
    · subst e
      rw [if_neg (by omega), if_pos (by omega)]; omega
    · rw [hi k (by omega) (fun h => e h.symm)]
      by_cases h2 : j < k
      · rw [if_pos h2, if_pos (by omega)]; omega
      · rw [if_neg h2, if_neg (by omega)]; omega
def ind (a b : Int) : Int := if a = b then 1 else 0
theorem sumN_ind (y : Int → Int) {a : Int} {n : Nat} (h0 : 0 ≤ a) (h1 : a < n) : sumN (fun v => y v * ind a v) n = y a := by
  have h := sumN_upd (g := fun v : Nat => y v * ind a v) (h := fun _ => 0) (j := a.toNat) n (fun i hi hne => by
    unfold ind; rw [if_neg (by omega), Int.mul_zero])
  rw [h, sumN_zero, if_pos (by omega)]
  unfold ind
  rw [show ((a.toNat : Nat) : Int) = a by omega, if_pos rfl]
  omega
/-- What comes to a node by units, less what leaves it. -/
def netP (l : List Lk) (u : List Int) (v : Int) (m : Nat) : Int := sumN (fun k => gi u k * (ind (gl l k).b v - ind (gl l k).a v)) m
def net (l : List Lk) (u : List Int) (v : Int) : Int := netP l u v l.length
theorem dualP {n : Nat} {l : List Lk} (u : List Int) (y : Int → Int) (hlk : ∀ k : Nat, k < l.length → 0 ≤ (gl l k).a ∧ (gl l k).a < n ∧ 0 ≤ (gl l k).b ∧ (gl l k).b < n) : ∀ m, m ≤ l.length →
    sumN (fun v : Nat => y v * netP l u v m) n = sumN (fun k => gi u k * (y (gl l k).b - y (gl l k).a)) m
  | 0, _ => by
    rw [sumN_congr (h := fun _ => 0) n (fun i _ => by simp [netP, sumN]), sumN_zero]; rfl
  | m + 1, hm => by
    have ih := dualP u y hlk m (by omega)
    obtain ⟨a0, a1, b0, b1⟩ := hlk m (by omega)
    have e : ∀ i, i < n → y (i : Nat) * netP l u (i : Nat) (m + 1) = y (i : Nat) * netP l u (i : Nat) m + (gi u m * (y (i : Nat) * ind (gl l m).b i) + -(gi u m) * (y (i : Nat) * ind (gl l m).a i)) := by
      intro i _
      show y (i : Nat) * (netP l u (i : Nat) m + gi u m * (ind (gl l m).b i - ind (gl l m).a i)) = _
      grind
    rw [sumN_congr n e, sumN_add, ih, sumN_add, sumN_mul, sumN_mul, sumN_ind y b0 b1, sumN_ind y a0 a1]
    show _ = sumN _ m + gi u m * (y (gl l m).b - y (gl l m).a)
    grind
theorem dual_sum {n : Nat} {l : List Lk} (u : List Int) (y : Int → Int) (hlk : ∀ k : Nat, k < l.length → 0 ≤ (gl l k).a ∧ (gl l k).a < n ∧ 0 ≤ (gl l k).b ∧ (gl l k).b < n) :
    sumN (fun v : Nat => y v * net l u v) n = sumN (fun k => gi u k * (y (gl l k).b - y (gl l k).a)) l.length := dualP u y hlk _ (Nat.le_refl _)
theorem gi_si {z : List Int} {b : Int} (hb0 : 0 ≤ b) (hb : b < z.length) (x : Int) (k : Nat) : gi (si z b x) k = if (k : Int) = b then x else gi z k := gi_set_eq hb0 hb (by omega)
theorem net_si {l : List Lk} {u : List Int} {j : Int} (hu : u.length = l.length) (h0 : 0 ≤ j) (h1 : j < l.length) (x : Int) (v : Int) :
    net l (si u j x) v = net l u v + (x - gi u j) * (ind (gl l j).b v - ind (gl l j).a v) := by
  unfold net netP
  rw [sumN_upd (h := fun k => gi u k * (ind (gl l k).b v - ind (gl l k).a v)) (j := j.toNat) l.length (fun i hi hne => by
    rw [gi_si h0 (by omega), if_neg (by omega)]), if_pos (by omega), gi_si h0 (by omega), show ((j.toNat : Nat) : Int) = j by omega, if_pos rfl]
  grind
theorem si_len (u : List Int) (j x : Int) : (si u j x).length = u.length := by simp [si]
/-- A way's step moves units to its node. -/
theorem net_move {l : List Lk} {x u u' : List Int} {y z : Wy} {m C : Int} (hu : u'.length = l.length) (ha : Arc l x u y z) (hC : ∀ k : Nat, -C ≤ gi u' k ∧ gi u' k ≤ C) (hm0 : 0 ≤ m) (hm : C + m ≤ 4611686018427387904) (v : Int) :
    net l (moveN m u' y) v = net l u' v + m * (ind y.node v - ind z.node v) ∧ (∀ k : Nat, -(C + m) ≤ gi (moveN m u' y) k ∧ gi (moveN m u' y) k ≤ C + m) := by
  have a0 := ha.l0
  have a1 := ha.l1
  have hj := hC y.link.toNat
  rw [show ((y.link.toNat : Nat) : Int) = y.link by omega] at hj
  unfold moveN
  cases hb : y.back with
  | false =>
    obtain ⟨f1, f2, f3⟩ := ha.fw hb
    rw [if_neg (by simp), wrap_in (by omega)]
    constructor
    · rw [net_si hu a0 a1, f1, f2]; grind
    · intro k
      rw [gi_si a0 (by omega)]
      have := hC k
      split <;> omega
  | true =>
    obtain ⟨f1, f2, f3, f4⟩ := ha.bw hb
    rw [if_pos (by simp), wrap_in (by omega)]
    constructor
    · rw [net_si hu a0 a1, f1, f2]; grind
    · intro k
      rw [gi_si a0 (by omega)]
      have := hC k
      split <;> omega
theorem Arc.pred {l : List Lk} {x u : List Int} {y z : Wy} (ha : Arc l x u y z) : predW l y = z.node := by
  unfold predW
  cases hb : y.back with
  | false => rw [if_neg (by simp)]; exact (ha.fw hb).2.1
  | true => rw [if_pos (by simp)]; exact (ha.bw hb).2.1
theorem chain_net {l : List Lk} {x u : List Int} {s : Int} {d : List (Int × Wy)} {m : Int} (hm0 : 0 ≤ m) {y : Wy} {ys : List Wy} (h : Chain l x u s d y ys) : ∀ (u' : List Int) (C : Int), u'.length = l.length → (∀ k : Nat, -C ≤ gi u' k ∧ gi u' k ≤ C) → C + ys.length * m ≤ 4611686018427387904 →
    ∀ v, net l (ys.foldl (moveN m) u') v = net l u' v + m * (ind y.node v - ind s v) := by
  induction h with
  | nil h1 h2 h3 =>
    intro u' C _ _ _ v
    rw [h2]
    simp only [List.foldl_nil]
    grind
  | cons h1 h2 h3 ih =>
    rename_i y z ys
    intro u' C hu hC hb v
    have hlen : (((y :: ys).length : Nat) : Int) * m = m + (ys.length : Int) * m := by
      rw [List.length_cons, show ((ys.length + 1 : Nat) : Int) = (ys.length : Int) + 1 by omega, Int.add_mul, Int.one_mul]; omega
    rw [hlen] at hb
    have hp : 0 ≤ (ys.length : Int) * m := Int.mul_nonneg (by omega) hm0
    obtain ⟨n1, n2⟩ := net_move hu h1 hC hm0 (by omega) v
    rw [List.foldl_cons, ih _ (C + m) (by rw [moveN_length]; exact hu) n2 (by omega) v, n1]
    grind
/-- What a way's steps leave of units. -/
theorem fold_units {l : List Lk} {m : Int} {u0 : List Int} (hm0 : 0 ≤ m) : ∀ (ys : List Wy) (u' : List Int), u'.length = l.length → (ys.map (·.node)).Nodup →
    (∀ q ∈ ys, 0 ≤ q.link ∧ q.link < l.length ∧ (q.back = false → (gl l q.link).b = q.node) ∧ (q.back = true → (gl l q.link).a = q.node ∧ m ≤ gi u' q.link)) →
    (∀ k : Nat, 0 ≤ gi u' k ∧ gi u' k ≤ gi u0 k + m) → (∀ q ∈ ys, q.back = false → gi u' q.link ≤ gi u0 q.link) → (∀ k : Nat, gi u0 k + m ≤ 4611686018427387904) →
    ∀ k : Nat, (0 ≤ gi (ys.foldl (moveN m) u') k ∧ gi (ys.foldl (moveN m) u') k ≤ gi u0 k + m) ∧ (gi (ys.foldl (moveN m) u') k = gi u' k ∨ ∃ q ∈ ys, q.link = k)
  | [], u', _, _, _, h1, _, _, k => ⟨h1 k, .inl rfl⟩
  | y :: ys, u', hl, hnd, hq, h1, h2, h3, k => by
    rw [List.map_cons, List.nodup_cons] at hnd
    obtain ⟨q0, q1, q2, q3⟩ := hq y (by simp)
    have hj := h1 y.link.toNat
    have hj3 := h3 y.link.toNat
    rw [show ((y.link.toNat : Nat) : Int) = y.link by omega] at hj hj3
    have hne : ∀ q ∈ ys, q.node ≠ y.node := fun q hm e => hnd.1 (List.mem_map.2 ⟨q, hm, e⟩)
    have hval : ∀ i : Int, 0 ≤ i → gi (moveN m u' y) i = if i = y.link then (if y.back then gi u' y.link - m else gi u' y.link + m) else gi u' i := by
      intro i hi
      unfold moveN
      cases hb : y.back with
      | false =>
        have := h2 y (by simp) hb
        rw [if_neg (by simp), wrap_in (by omega), gi_set_eq q0 (by omega) hi]
        rfl
      | true =>
        have := (q3 hb).2
        rw [if_pos (by simp), wrap_in (by omega), gi_set_eq q0 (by omega) hi]
        rfl
    have hk1 : ∀ k : Nat, 0 ≤ gi (moveN m u' y) k ∧ gi (moveN m u' y) k ≤ gi u0 k + m := by
      intro k
      have := h1 k
      rw [hval k (by omega)]
      by_cases e : (k : Int) = y.link
      · rw [if_pos e, e]
        cases hb : y.back with
        | false =>
          have := h2 y (by simp) hb
          simp only [Bool.false_eq_true, if_false]; omega
        | true =>
          have := (q3 hb).2
          simp only [if_true]; omega
      · rw [if_neg e]; exact this
    obtain ⟨r1, r2⟩ := fold_units hm0 ys (moveN m u' y) (by rw [moveN_length]; exact hl) hnd.2 (fun q hm => by
      obtain ⟨p0, p1, p2, p3⟩ := hq q (by simp [hm])
      refine ⟨p0, p1, p2, fun hb => ⟨(p3 hb).1, ?_⟩⟩
      rw [hval _ p0]
      by_cases e : q.link = y.link
      · rw [if_pos e]
        cases hb2 : y.back with
        | false => simp only [Bool.false_eq_true, if_false]; omega
        | true =>
          exfalso
          have e1 := (q3 hb2).1
          have e2 := (p3 hb).1
          rw [e] at e2
          exact hne q hm (e2.symm.trans e1)
      · rw [if_neg e]; exact (p3 hb).2) hk1 (fun q hm hb => by
      obtain ⟨p0, p1, p2, p3⟩ := hq q (by simp [hm])
      rw [hval _ p0]
      by_cases e : q.link = y.link
      · rw [if_pos e]
        cases hb2 : y.back with
        | false =>
          exfalso
          have e1 := q2 hb2
          have e2 := p2 hb
          rw [e] at e2
          exact hne q hm (e2.symm.trans e1)
        | true =>
          have := h2 q (by simp [hm]) hb
          rw [e] at this
          simp only [if_true]
          rw [e]; omega
      · rw [if_neg e]; exact h2 q (by simp [hm]) hb) h3 k
    refine ⟨r1, ?_⟩
    rcases r2 with r2 | ⟨q, hm, r2⟩
    · by_cases e : y.link = k
      · exact .inr ⟨y, by simp, e⟩
      · left
        rw [List.foldl_cons, r2, hval k (by omega), if_neg (fun h => e h.symm)]
    · exact .inr ⟨q, by simp [hm], r2⟩
theorem mn_le (a b : Int) : mn a b ≤ a ∧ mn a b ≤ b ∧ (mn a b = a ∨ mn a b = b) := by
  unfold mn; split <;> omega
theorem cap_fold (u : List Int) : ∀ (ys : List Wy) (c : Int), ys.foldl (capN u) c ≤ c ∧ (∀ q ∈ ys, q.back = true → ys.foldl (capN u) c ≤ gi u q.link) ∧ (1 ≤ c → (∀ q ∈ ys, q.back = true → 1 ≤ gi u q.link) → 1 ≤ ys.foldl (capN u) c)
  | [], c => ⟨Int.le_refl _, by simp, fun h _ => h⟩
  | y :: ys, c => by
    obtain ⟨i1, i2, i3⟩ := cap_fold u ys (capN u c y)
    have hc : capN u c y ≤ c ∧ (y.back = true → capN u c y ≤ gi u y.link) ∧ (1 ≤ c → (y.back = true → 1 ≤ gi u y.link) → 1 ≤ capN u c y) := by
      unfold capN
      have := mn_le c (gi u y.link)
      cases y.back with
      | false => simp
      | true => simp only [if_true]; refine ⟨by omega, fun _ => by omega, fun h1 h2 => ?_⟩; have := h2 (by first | rfl | trivial); omega
    rw [List.foldl_cons]
    refine ⟨by omega, fun q hq hb => ?_, fun h1 h2 => ?_⟩
    · rcases List.mem_cons.1 hq with rfl | hq
      · have := hc.2.1 hb; omega
      · exact i2 q hq hb
    · exact i3 (hc.2.2 h1 (h2 y (by simp))) fun q hq hb => h2 q (by simp [hq]) hb

def lamV (d : List (Int × Wy)) (most v : Int) : Int := match lookW d v with | some z => mn z.far most | none => most
theorem liftX_gi (d : List (Int × Wy)) (most : Int) (x : List Int) : ∀ (k : Nat), k ≤ x.length → ∀ j : Nat, j < k → gi (liftX d most k x) j = liftV d most j (gi x j)
  | 0, _, j, h => absurd h (by omega)
  | k + 1, hk, j, h => by
    show gi ((liftX d most k x).set k (liftV d most k (gi x k))) j = _
    have e : (liftX d most k x).set k (liftV d most k (gi x k)) = si (liftX d most k x) k (liftV d most k (gi x k)) := by simp [si]
    rw [e, gi_si (by omega) (by rw [liftX_length]; omega)]
    by_cases hj : j = k
    · subst hj; rw [if_pos rfl]
    · rw [if_neg (by omega), liftX_gi d most x k (by omega) j (by omega)]
theorem liftV_eq (d : List (Int × Wy)) (most v xv : Int) : liftV d most v.toNat xv = wrap64 (xv + lamV d most v.toNat) := by
  unfold liftV lamV
  cases lookW d v.toNat <;> rfl
section
variable {n : Nat} {l : List Lk} {x u f : List Int} {s : Int}
structure Lam (n : Nat) (l : List Lk) (x u f : List Int) (s : Int) (d : List (Int × Wy)) (most : Int) : Prop where
  lo : ∀ v, 0 ≤ lamV d most v
  hi : ∀ v, lamV d most v ≤ most
  at_ : ∀ v z, lookW d v = some z → lamV d most v = z.far
  fw : ∀ k : Nat, k < l.length → lamV d most (gl l k).b ≤ lamV d most (gl l k).a + sl x (gl l k)
  bw : ∀ k : Nat, k < l.length → 0 < gi u k → lamV d most (gl l k).a ≤ lamV d most (gl l k).b
  st : lamV d most s = 0
  pos : ∀ v, 0 < gi f v → lamV d most v = most
theorem lam_ok (hF : Fld n l x u f) {d : List (Int × Wy)} {h : List Wy} (hd : Dj n l x u f s d h) {y : Wy} (hy : y ∈ h) (hn : lookW d y.node = none) (hmin : ∀ e ∈ h, y.far ≤ e.far) : Lam n l x u f s (d ++ [(y.node, y)]) y.far := by
  have hy0 := (hd.ent y hy).2.2.1
  have hat : ∀ v z, lookW (d ++ [(y.node, y)]) v = some z → z.far ≤ y.far ∧ 0 ≤ z.far := by
    intro v z hz
    rcases lookW_inv hz with h1 | ⟨_, rfl⟩
    · exact ⟨hd.le v z h1 y hy, (hd.node v z h1).2.2.2.2.1⟩
    · exact ⟨Int.le_refl _, hy0⟩
  have hA : ∀ v z, lookW (d ++ [(y.node, y)]) v = some z → lamV (d ++ [(y.node, y)]) y.far v = z.far := by
    intro v z hz
    have := hat v z hz
    unfold lamV
    rw [hz]
    show mn z.far y.far = z.far
    unfold mn; split <;> omega
  have hB : ∀ v, 0 ≤ lamV (d ++ [(y.node, y)]) y.far v ∧ lamV (d ++ [(y.node, y)]) y.far v ≤ y.far := by
    intro v
    cases hq : lookW (d ++ [(y.node, y)]) v with
    | some z => rw [hA v z hq]; have := hat v z hq; omega
    | none => unfold lamV; rw [hq]; exact ⟨hy0, Int.le_refl _⟩
  have hN : ∀ v, lookW d v = none → lamV (d ++ [(y.node, y)]) y.far v = y.far := by
    intro v hv
    cases hq : lookW (d ++ [(y.node, y)]) v with
    | some z =>
      rw [hA v z hq]
      rcases lookW_inv hq with h1 | ⟨_, rfl⟩
      · rw [hv] at h1; cases h1
      · rfl
    | none => unfold lamV; rw [hq]
  have hT : ∀ w c, To d h w c → lamV (d ++ [(y.node, y)]) y.far w ≤ c := by
    rintro w c (⟨z, hz, e⟩ | ⟨e, he, e1, e2⟩)
    · rw [hA w z (lookW_old _ _ hz)]; exact e
    · have := hB w
      have := hmin e he
      omega
  refine ⟨fun v => (hB v).1, fun v => (hB v).2, hA, fun k hk => ?_, fun k hk hu => ?_, ?_, fun v hv => ?_⟩
  · cases hq : lookW d (gl l k).a with
    | some z =>
      have := hT _ _ (hd.fw _ z hq k hk rfl)
      rw [hA _ z (lookW_old _ _ hq)]; exact this
    | none =>
      have := hB (gl l k).b
      have := hF.s0 k hk
      rw [hN _ hq]; omega
  · cases hq : lookW d (gl l k).b with
    | some z =>
      have := hT _ _ (hd.bw _ z hq k hk rfl hu)
      rw [hA _ z (lookW_old _ _ hq)]; exact this
    | none =>
      have := hB (gl l k).a
      rw [hN _ hq]; omega
  · have := hT _ _ hd.start
    have := hB s
    omega
  · refine hN v ?_
    cases hq : lookW d v with
    | none => rfl
    | some z => have := (hd.node v z hq).2.2.2.1; omega
theorem chain_arcs {d : List (Int × Wy)} {y : Wy} {ys : List Wy} (h : Chain l x u s d y ys) : ∀ q ∈ ys, ∃ z, Arc l x u q z ∧ lookW d z.node = some z := by
  induction h with
  | nil => intro q hq; simp at hq
  | cons h1 h2 h3 ih =>
    rename_i y z ys
    intro q hq
    rcases List.mem_cons.1 hq with rfl | hq
    · exact ⟨z, h1, by rw [← h1.pred]; exact h2⟩
    · exact ih q hq
end
def negs (f : List Int) (n : Nat) : Int := sumN (fun v => if gi f v < 0 then -(gi f v) else 0) n
theorem negs_nonneg (f : List Int) (n : Nat) : 0 ≤ negs f n := by
  have := sumN_le (g := fun _ => 0) (h := fun v : Nat => if gi f v < 0 then -(gi f v) else 0) n (fun i _ => by
    show 0 ≤ _
    split <;> omega)
  rw [sumN_zero] at this
  exact this
theorem negs_ge (f : List Int) {n i : Nat} (hi : i < n) : -(gi f i) ≤ negs f n := by
  have h := sumN_le (g := fun v : Nat => if v = i then -(gi f i) else 0) (h := fun v : Nat => if gi f v < 0 ∨ v = i then -(gi f v) else 0) n (fun j _ => by
    show (if j = i then -(gi f i) else 0) ≤ (if gi f j < 0 ∨ j = i then -(gi f j) else 0)
    by_cases e : j = i
    · subst e; simp
    · rw [if_neg e]; split <;> omega)
  by_cases hn : gi f i < 0
  · have e : sumN (fun v : Nat => if gi f v < 0 ∨ v = i then -(gi f v) else 0) n = negs f n := sumN_congr n fun j _ => by
      by_cases e : j = i
      · subst e; simp [hn]
      · simp [e]
    have h2 := sumN_upd (g := fun v : Nat => if v = i then -(gi f i) else 0) (h := fun _ => 0) (j := i) n (fun j _ hne => if_neg hne)
    rw [sumN_zero, if_pos hi, if_pos rfl] at h2
    rw [h2, e] at h
    omega
  · have := negs_nonneg f n
    omega
structure Inv (n : Nat) (l : List Lk) (w0 : List Int) (N0 : Int) (x u f : List Int) : Prop where
  lx : x.length = n
  lu : u.length = l.length
  lf : f.length = n
  s0 : ∀ k : Nat, k < l.length → 0 ≤ sl x (gl l k)
  u0 : ∀ k : Nat, 0 ≤ gi u k
  tight : ∀ k : Nat, k < l.length → 0 < gi u k → sl x (gl l k) = 0
  cons : ∀ v : Nat, v < n → gi f v + net l u v = gi w0 v
  ub : ∀ k : Nat, gi u k + negs f n ≤ N0
  fb : ∀ v : Nat, gi f v ≤ 2000000
structure Ph (n : Nat) (x0 x f : List Int) (s L U : Int) : Prop where
  L0 : 0 ≤ L
  LU : L ≤ U + 1000300000000000
  b0 : ∀ i : Nat, i < n → -1000000000000000 ≤ gi x0 i ∧ gi x0 i ≤ U
  lo : ∀ i : Nat, i < n → gi x0 i ≤ gi x i
  hi : ∀ i : Nat, i < n → gi x i ≤ gi x0 i + L
  fx : gi x s = gi x0 s
  pos : ∀ i : Nat, i < n → 0 < gi f i → gi x i = gi x0 i + L
structure NetS (n : Nat) (l : List Lk) : Prop where
  n1 : n ≤ 12
  l1 : l.length ≤ 260
  lk : ∀ k : Nat, k < l.length → 0 ≤ (gl l k).a ∧ (gl l k).a < n ∧ 0 ≤ (gl l k).b ∧ (gl l k).b < n ∧ -17179869184 ≤ (gl l k).m ∧ (gl l k).m ≤ 17179869184
theorem gi_toNat (x : List Int) (v : Int) : gi x v = gi x (v.toNat : Nat) := by unfold gi; rw [Int.toNat_natCast]
theorem gi_out {x : List Int} {v : Nat} (h : x.length ≤ v) : gi x v = 0 := by simp [gi, List.getD_eq_getElem?_getD, h]
theorem inv_fld {n : Nat} {l : List Lk} {w0 : List Int} {N0 : Int} {x u f x0 : List Int} {s L U : Int} (hS : NetS n l) (hI : Inv n l w0 N0 x u f) (hP : Ph n x0 x f s L U) (hU : U ≤ 2250000000000000000) : Fld n l x u f := by
  refine ⟨hS.n1, hS.l1, hS.lk, fun v => ?_, hI.lf, hI.s0, hI.tight⟩
  rw [gi_toNat]
  by_cases h : v.toNat < n
  · have h1 := hP.b0 _ h
    have h2 := hP.lo _ h
    have h3 := hP.hi _ h
    have h4 := hP.LU
    omega
  · rw [gi_out (by rw [hI.lx]; omega)]; omega
theorem send_ok {n : Nat} {l : List Lk} {w0 : List Int} {N0 : Int} {x u f x0 : List Int} {s : Nat} {L U : Int} (hS : NetS n l) (hN : N0 ≤ 2000000) (hI : Inv n l w0 N0 x u f) (hP : Ph n x0 x f s L U) (hU : U ≤ 2250000000000000000) (hs : s < n) (hf : gi f s < 0) (fuel : Nat) (hfu : 10000 ≤ fuel) :
    ∃ r, sendN fuel l x u f s = some r ∧
      ((r = none ∧ ∃ d, Dj n l x u f s d []) ∨ ∃ x' u' f' L', r = some (x', u', f') ∧ Inv n l w0 N0 x' u' f' ∧ Ph n x0 x' f' s L' U ∧ negs f' n + 1 ≤ negs f n ∧ ∀ i : Nat, 0 ≤ gi f i → 0 ≤ gi f' i) := by
  have hF := inv_fld hS hI hP hU
  have hmeas : (n - cd n []) * (2 * l.length + 1) + (putW [] (⟨s, 0, -1, false⟩ : Wy)).length ≤ 6253 := by
    have h1 : (n - cd n []) * (2 * l.length + 1) ≤ 12 * 521 := Nat.mul_le_mul (by have := hS.n1; omega) (by have := hS.l1; omega)
    rw [putW_length]
    simp only [List.length_nil]
    omega
  obtain ⟨r, hr, hfound⟩ := near_ok hF fuel [] (putW [] ⟨s, 0, -1, false⟩) (dj_start (by omega) (by omega)) (by omega) (by omega)
  rcases hfound with ⟨d, rfl, hd⟩ | ⟨d, h, y, rfl, hd, hy, hn, hfy, hmin⟩
  · refine ⟨none, ?_, .inl ⟨rfl, d, hd⟩⟩
    unfold sendN
    rw [hr]
  · obtain ⟨ys, hc, hnd, hlen, hmem⟩ := chain_new hd hy hn
    have hlam := lam_ok hF hd hy hn hmin
    obtain ⟨a0, a1, a2, a3, a4⟩ := hd.ent y hy
    have hcd := cd_le n (d ++ [(y.node, y)])
    have hn12 := hS.n1
    have hcdd := cd_le n d
    obtain ⟨d', hd'⟩ : ∃ d', d' = d ++ [(y.node, y)] := ⟨_, rfl⟩
    have hlook : lookW d' y.node = some y := by rw [hd']; exact lookW_new _ hn
    rw [← hd'] at hr hc hlen hmem hlam hcd
    have hpath := hc.path fuel (by omega)
    have harcs := chain_arcs hc
    -- what is sent
    have hns := negs_ge f hs
    have hnn := negs_nonneg f n
    have hub := hI.ub
    have hfb := hI.fb
    have hu0 := hI.u0
    have hub0 := hub 0
    have hu00 := hu0 0
    have hft : gi f y.node ≤ 2000000 := by rw [gi_toNat]; exact hfb _
    have hw1 : wrap64 (-(gi f s)) = -(gi f s) := wrap_in (by omega)
    obtain ⟨m, hm⟩ : ∃ m, m = ys.foldl (capN u) (mn (wrap64 (-(gi f s))) (gi f y.node)) := ⟨_, rfl⟩
    obtain ⟨c1, c2, c3⟩ := cap_fold u ys (mn (wrap64 (-(gi f s))) (gi f y.node))
    rw [← hm] at c1 c2 c3
    have hmn := mn_le (wrap64 (-(gi f s))) (gi f y.node)
    rw [hw1] at hmn c1 c3
    have hm1 : 1 ≤ m := c3 (by omega) fun q hq hb => by
      obtain ⟨z, hz, _⟩ := harcs q hq
      have := (hz.bw hb).2.2.1
      omega
    have hms : m ≤ -(gi f s) := by omega
    have hmt : m ≤ gi f y.node := by omega
    have hst : (s : Int) ≠ y.node := by intro e; rw [← e] at hfy; omega
    have hw2 : wrap64 (gi f s + m) = gi f s + m := wrap_in (by omega)
    have hset : f.set s (wrap64 (gi f s + m)) = si f s (gi f s + m) := by rw [hw2]; simp [si]
    have hg1 : ∀ v : Int, 0 ≤ v → gi (si f s (gi f s + m)) v = if v = s then gi f s + m else gi f v := fun v hv => gi_set_eq (by omega) (by rw [hI.lf]; omega) hv
    have hg1t : gi (si f s (gi f s + m)) y.node = gi f y.node := by rw [hg1 _ a0, if_neg (fun e => hst e.symm)]
    have hw3 : wrap64 (gi (si f s (gi f s + m)) y.node - m) = gi f y.node - m := by rw [hg1t]; exact wrap_in (by omega)
    have hg2 : ∀ v : Nat, gi (si (si f s (gi f s + m)) y.node (gi f y.node - m)) v = if (v : Int) = y.node then gi f y.node - m else if (v : Int) = s then gi f s + m else gi f v := by
      intro v
      rw [gi_si a0 (by rw [si_len, hI.lf]; exact a1), hg1 v (by omega)]
    refine ⟨some (liftX d' y.far x.length x, ys.foldl (moveN m) u, si (si f s (gi f s + m)) y.node (gi f y.node - m)), ?_, .inr ⟨_, _, _, L + y.far, rfl, ?_⟩⟩
    · unfold sendN
      rw [hr]
      simp only [hlook, Option.getD_some, hpath]
      rw [← hm, hset, hw3]
    obtain ⟨x', hx'⟩ : ∃ x', x' = liftX d' y.far x.length x := ⟨_, rfl⟩
    obtain ⟨u', hu'⟩ : ∃ u', u' = ys.foldl (moveN m) u := ⟨_, rfl⟩
    obtain ⟨f', hf'⟩ : ∃ f', f' = si (si f s (gi f s + m)) y.node (gi f y.node - m) := ⟨_, rfl⟩
    rw [← hf'] at hg2
    rw [← hx', ← hu', ← hf']
    -- the lifted values
    have hxv : ∀ v : Int, 0 ≤ v → v < n → gi x' v = gi x v + lamV d' y.far v := by
      intro v h0 h1
      have e : ((v.toNat : Nat) : Int) = v := by omega
      have h2 := hF.xb v
      have h3 := hlam.lo v
      have h4 := hlam.hi v
      have h5 := hF.xb s
      have h6 := hF.xb y.node
      have h7 := liftX_gi d' y.far x x.length (Nat.le_refl _) v.toNat (by rw [hI.lx]; omega)
      have h8 := liftV_eq d' y.far v (gi x v)
      rw [e] at h7 h8
      rw [hx', h7, h8]
      exact wrap_in (by omega)
    have hslk : ∀ k : Nat, k < l.length → sl x' (gl l k) = sl x (gl l k) + lamV d' y.far (gl l k).a - lamV d' y.far (gl l k).b := by
      intro k hk
      obtain ⟨k1, k2, k3, k4, _⟩ := hS.lk k hk
      unfold sl
      rw [hxv _ k1 k2, hxv _ k3 k4]; omega
    -- the units
    have hfu := fold_units (l := l) (m := m) (u0 := u) (by omega) ys u hI.lu hnd (fun q hq => by
      obtain ⟨z, hz, _⟩ := harcs q hq
      exact ⟨hz.l0, hz.l1, fun hb => (hz.fw hb).1, fun hb => ⟨(hz.bw hb).1, c2 q hq hb⟩⟩) (fun k => ⟨hu0 k, by omega⟩) (fun q _ _ => Int.le_refl _) (fun k => by have := hub k; omega)
    rw [← hu'] at hfu
    have hnet := chain_net (m := m) (by omega) hc u N0 hI.lu (fun k => by have := hub k; have := hu0 k; omega) (by
      have h1 : (ys.length : Int) * m ≤ 12 * 2000000 := Int.mul_le_mul (by omega) (by omega) (by omega) (by omega)
      omega)
    rw [← hu'] at hnet
    -- what lacks
    have hneg : negs f' n = negs f n - m := by
      have e1 : negs (si f s (gi f s + m)) n = negs f n - m := by
        unfold negs
        rw [sumN_upd (h := fun v : Nat => if gi f v < 0 then -(gi f v) else 0) (j := s) n (fun i hi hne => by
          have e : gi (si f s (gi f s + m)) i = gi f i := by rw [hg1 i (by omega), if_neg (by omega)]
          rw [e]), if_pos hs, show gi (si f s (gi f s + m)) s = gi f s + m by rw [hg1 s (by omega), if_pos rfl], if_pos hf]
        split <;> omega
      have e2 : negs f' n = negs (si f s (gi f s + m)) n := by
        unfold negs
        refine sumN_congr n fun i hi => ?_
        have e1 := hg2 i
        have e2 := hg1 i (by omega)
        by_cases e : (i : Int) = y.node
        · rw [if_pos e] at e1
          rw [if_neg (by omega)] at e2
          rw [e1, e2, e, if_neg (by omega), if_neg (by omega)]
        · rw [if_neg e] at e1
          rw [e1, e2]
      rw [e2, e1]
    have hfle : ∀ v : Nat, v ≠ s → gi f' v ≤ gi f v := by
      intro v hv
      rw [hg2 v]
      by_cases e : (v : Int) = y.node
      · rw [if_pos e, e]; omega
      · rw [if_neg e, if_neg (by omega)]; exact Int.le_refl _
    have hfs : gi f' s ≤ 0 := by rw [hg2 s, if_neg hst, if_pos rfl]; omega
    have htt : ((y.node.toNat : Nat) : Int) = y.node := by omega
    refine ⟨⟨?_, ?_, ?_, ?_, ?_, ?_, ?_, ?_, ?_⟩, ⟨?_, ?_, hP.b0, ?_, ?_, ?_, ?_⟩, by omega, ?_⟩
    · rw [hx', liftX_length]; exact hI.lx
    · rw [hu', foldl_moveN_length]; exact hI.lu
    · rw [hf', si_len, si_len]; exact hI.lf
    · intro k hk
      have := hlam.fw k hk
      rw [hslk k hk]; omega
    · exact fun k => (hfu k).1.1
    · intro k hk hp
      rw [hslk k hk]
      rcases (hfu k).2 with e | ⟨q, hq, e⟩
      · rw [e] at hp
        have h1 := hI.tight k hk hp
        have h2 := hlam.fw k hk
        have h3 := hlam.bw k hk hp
        omega
      · obtain ⟨z, hz, hz2⟩ := harcs q hq
        have l1 := hlam.at_ _ _ (hmem q hq)
        have l2 := hlam.at_ _ _ hz2
        cases hb : q.back with
        | false =>
          obtain ⟨b1, b2, b3⟩ := hz.fw hb
          rw [e] at b1 b2 b3
          rw [b1, b2, l1, l2]; omega
        | true =>
          obtain ⟨b1, b2, b3, b4⟩ := hz.bw hb
          rw [e] at b1 b2 b3
          have h1 := hI.tight k hk b3
          rw [b1, b2, l1, l2, h1]; omega
    · intro v hv
      rw [hnet v, hg2 v]
      have hcv := hI.cons v hv
      unfold ind
      by_cases e : y.node = (v : Int)
      · rw [if_pos e.symm, if_pos e, if_neg (by omega), e]; omega
      · rw [if_neg (fun h => e h.symm), if_neg e]
        by_cases e2 : (s : Int) = v
        · rw [if_pos e2.symm, if_pos e2, e2]; omega
        · rw [if_neg (fun h => e2 h.symm), if_neg e2]; omega
    · intro k
      have := (hfu k).1.2
      have := hub k
      omega
    · intro v
      by_cases e : v = s
      · rw [e]; omega
      · exact Int.le_trans (hfle v e) (hfb v)
    · have := hP.L0; omega
    · have h1 := hP.pos y.node.toNat (by omega) (by rw [htt]; exact hfy)
      have h2 := hP.b0 y.node.toNat (by omega)
      have h3 := hP.fx
      have h4 := hP.b0 s hs
      rw [htt] at h1 h2
      omega
    · intro i hi
      rw [hxv i (by omega) (by omega)]
      have := hlam.lo i
      have := hP.lo i hi
      omega
    · intro i hi
      rw [hxv i (by omega) (by omega)]
      have := hlam.hi i
      have := hP.hi i hi
      omega
    · rw [hxv s (by omega) (by omega), hlam.st]
      have := hP.fx
      omega
    · intro i hi hp
      have hne : i ≠ s := by rintro rfl; omega
      have hp2 : 0 < gi f i := by have := hfle i hne; omega
      rw [hxv i (by omega) (by omega), hlam.pos _ hp2, hP.pos i hi hp2]; omega
    · intro i hi
      rw [hg2 i]
      by_cases e : (i : Int) = y.node
      · rw [if_pos e]; omega
      · rw [if_neg e]
        by_cases e2 : (i : Int) = s
        · have : i = s := by omega
          subst this; omega
        · rw [if_neg e2]; exact hi

/-- The greatest value before the sends from a node. -/
def ubd : Nat → Int
  | 0 => 0
  | k + 1 => 2 * ubd k + 1000300000000000
theorem ubd_nonneg : ∀ k, 0 ≤ ubd k
  | 0 => Int.le_refl _
  | k + 1 => by have := ubd_nonneg k; unfold ubd; omega
theorem ubd_mono : ∀ (j k : Nat), ubd k ≤ ubd (k + j)
  | 0, _ => Int.le_refl _
  | j + 1, k => by
    have h1 := ubd_mono j k
    have h2 := ubd_nonneg (k + j)
    have h3 : ubd (k + (j + 1)) = 2 * ubd (k + j) + 1000300000000000 := rfl
    omega
theorem ubd_le {k : Nat} (h : k < 12) : ubd k ≤ 2250000000000000000 := by
  have h1 := ubd_mono (11 - k) k
  rw [show k + (11 - k) = 11 by omega] at h1
  exact Int.le_trans h1 (by decide)
/-- A part of the nodes that no link leaves, and that has to give more than it gets. -/
def Cut (n : Nat) (l : List Lk) (w : List Int) : Prop :=
  ∃ P : Int → Bool, (∀ k : Nat, k < l.length → P (gl l k).a = true → P (gl l k).b = true) ∧ sumN (fun v : Nat => if P v = true then gi w v else 0) n < 0
theorem cut_of {n : Nat} {l : List Lk} {w0 : List Int} {N0 : Int} {x u f : List Int} {s : Nat} {d : List (Int × Wy)} (hS : NetS n l) (hI : Inv n l w0 N0 x u f) (hd : Dj n l x u f s d []) (hs : s < n) (hf : gi f s < 0) : Cut n l w0 := by
  have hto : ∀ w c, To d [] w c → (lookW d w).isSome = true := by
    rintro w c (⟨z, hz, _⟩ | ⟨e, he, _⟩)
    · rw [hz]; rfl
    · simp at he
  have hfw : ∀ k : Nat, k < l.length → (lookW d (gl l k).a).isSome = true → (lookW d (gl l k).b).isSome = true := by
    intro k hk ha
    obtain ⟨z, hz⟩ := Option.isSome_iff_exists.1 ha
    exact hto _ _ (hd.fw _ z hz k hk rfl)
  have hbw : ∀ k : Nat, k < l.length → 0 < gi u k → (lookW d (gl l k).b).isSome = true → (lookW d (gl l k).a).isSome = true := by
    intro k hk hu ha
    obtain ⟨z, hz⟩ := Option.isSome_iff_exists.1 ha
    exact hto _ _ (hd.bw _ z hz k hk rfl hu)
  refine ⟨fun v => (lookW d v).isSome, hfw, ?_⟩
  have hds := dual_sum (n := n) (l := l) u (fun v => if (lookW d v).isSome = true then 1 else 0) (fun k hk => by have := hS.lk k hk; omega)
  have hz : sumN (fun k => gi u k * ((if (lookW d (gl l k).b).isSome = true then 1 else 0) - (if (lookW d (gl l k).a).isSome = true then 1 else 0))) l.length = 0 := by
    rw [sumN_congr (h := fun _ => 0) l.length (fun k hk => ?_), sumN_zero]
    have h0 := hI.u0 k
    have h1 := hfw k hk
    by_cases hu : gi u k = 0
    · rw [hu, Int.zero_mul]
    · have h2 := hbw k hk (by omega)
      by_cases ha : (lookW d (gl l k).a).isSome = true
      · rw [if_pos ha, if_pos (h1 ha)]; omega
      · rw [if_neg ha, if_neg (fun hb => ha (h2 hb))]; omega
  rw [hz] at hds
  have e : sumN (fun v : Nat => if (lookW d v).isSome = true then gi w0 v else 0) n = sumN (fun v : Nat => if (lookW d v).isSome = true then gi f v else 0) n := by
    have e2 : sumN (fun v : Nat => if (lookW d v).isSome = true then gi w0 v else 0) n = sumN (fun v : Nat => (if (lookW d v).isSome = true then gi f v else 0) + (if (lookW d v).isSome = true then 1 else 0) * net l u v) n := by
      refine sumN_congr n fun i hi => ?_
      have := hI.cons i hi
      split <;> omega
    rw [e2, sumN_add, hds]; omega
  rw [e]
  have h1 := sumN_le (g := fun v : Nat => if (lookW d v).isSome = true then gi f v else 0) (h := fun v : Nat => if v = s then gi f s else 0) n (fun i hi => by
    show (if (lookW d i).isSome = true then gi f i else 0) ≤ (if i = s then gi f s else 0)
    by_cases e : i = s
    · subst e
      rw [if_pos rfl, if_pos (hto _ _ hd.start)]; exact Int.le_refl _
    · rw [if_neg e]
      split
      · rename_i hq
        obtain ⟨z, hz⟩ := Option.isSome_iff_exists.1 hq
        exact (hd.node _ z hz).2.2.2.1
      · exact Int.le_refl _)
  have h2 := sumN_upd (g := fun v : Nat => if v = s then gi f s else 0) (h := fun _ => 0) (j := s) n (fun i _ hne => if_neg hne)
  rw [sumN_zero, if_pos hs, if_pos rfl] at h2
  omega
/-- What goN ends with. -/
def GoRes (n : Nat) (l : List Lk) (w0 : List Int) (N0 : Int) (r : Option St) : Prop :=
  (∃ x u f, r = some (x, u, f) ∧ Inv n l w0 N0 x u f ∧ ∀ i : Nat, i < n → 0 ≤ gi f i) ∨ (r = none ∧ Cut n l w0)
theorem go_ok {n : Nat} {l : List Lk} {w0 : List Int} {N0 : Int} (hS : NetS n l) (hN : N0 ≤ 2000000) (F : Nat) (hF : 10000 ≤ F) : ∀ (k v : Nat) (x u f x0 : List Int) (L : Int), v ≤ n → Inv n l w0 N0 x u f → (∀ i : Nat, i < v → 0 ≤ gi f i) → Ph n x0 x f v L (ubd v) → ((n : Int) - v) + negs f n < k →
    ∃ r, goN F l n k v (x, u, f) = some r ∧ GoRes n l w0 N0 r
  | 0, v, x, u, f, x0, L, hvn, hI, h1, hP, hk => by
    have h2 := negs_nonneg f n
    exact absurd hk (by omega)
  | k + 1, v, x, u, f, x0, L, hvn, hI, h1, hP, hk => by
    have h2 := negs_nonneg f n
    have hn12 := hS.n1
    unfold goN
    by_cases hv : v < n
    · rw [if_pos hv]
      by_cases hf : gi f v < 0
      · rw [if_pos hf]
        obtain ⟨r, hr, hc⟩ := send_ok hS hN hI hP (ubd_le (by omega)) hv hf F hF
        rw [hr]
        rcases hc with ⟨rfl, d, hd⟩ | ⟨x', u', f', L', rfl, hI', hP', hneg, hpos⟩
        · exact ⟨none, rfl, .inr ⟨rfl, cut_of hS hI hd hv hf⟩⟩
        · exact go_ok hS hN F hF k v x' u' f' x0 L' hvn hI' (fun i hi => hpos i (h1 i hi)) hP' (by omega)
      · rw [if_neg hf]
        refine go_ok hS hN F hF k (v + 1) x u f x 0 (by omega) hI (fun i hi => ?_) ⟨by omega, ?_, fun i hi => ?_, fun i hi => Int.le_refl _, fun i hi => by omega, rfl, fun i hi _ => by omega⟩ (by omega)
        · by_cases e : i = v
          · rw [e]; omega
          · exact h1 i (by omega)
        · have := ubd_nonneg (v + 1); omega
        · have h3 := hP.b0 i hi
          have h4 := hP.lo i hi
          have h5 := hP.hi i hi
          have h6 := hP.LU
          have h7 := ubd_nonneg v
          show -1000000000000000 ≤ gi x i ∧ gi x i ≤ 2 * ubd v + 1000300000000000
          omega
    · rw [if_neg hv]
      exact ⟨_, rfl, .inl ⟨x, u, f, rfl, hI, fun i hi => h1 i (by omega)⟩⟩
/-- A flow, and a solution that proves it to be best. -/
structure Best (n : Nat) (l : List Lk) (w u x : List Int) : Prop where
  lx : x.length = n
  lu : u.length = l.length
  s0 : ∀ k : Nat, k < l.length → 0 ≤ sl x (gl l k)
  u0 : ∀ k : Nat, 0 ≤ gi u k
  tight : ∀ k : Nat, k < l.length → 0 < gi u k → sl x (gl l k) = 0
  cons : ∀ v : Nat, v < n → net l u v = gi w v
  ub : ∀ k : Nat, gi u k ≤ 2000000
theorem netOk_lk {n : Nat} {l : List Lk} (hok : NetOk n l) (hn : n ≤ 12) : NetS n l := by
  refine ⟨hn, hok.l1, fun k hk => ?_⟩
  have h := hok.lk (gl l k) (gl_mem (by omega) (by omega))
  obtain ⟨⟨a1, a2, a3, a4⟩, _, m1, m2⟩ := h
  exact ⟨a1, a2, a3, a4, m1, m2⟩
theorem net_zero (l : List Lk) (m : Nat) (v : Int) : net l (List.replicate m 0) v = 0 := by
  unfold net netP
  rw [sumN_congr (h := fun _ => 0) l.length (fun k _ => ?_), sumN_zero]
  have : gi (List.replicate m 0) k = 0 := by
    simp only [gi, List.getD_eq_getElem?_getD, List.getElem?_replicate]
    split <;> rfl
  rw [this, Int.zero_mul]
theorem best_ok {n : Nat} {l : List Lk} {w : List Int} (hok : NetOk n l) (hn : n ≤ 12) (hw : w.length = n) (hwb : ∀ i : Nat, i < n → -100000 ≤ gi w i ∧ gi w i ≤ 100000) (hsum : sumN (fun v : Nat => gi w v) n = 0) (hcons : (solutionL n l).2 = true) (F : Nat) (hF : 2000000 ≤ F) :
    ∃ r, goN F l n F 0 ((solutionL n l).1, List.replicate l.length 0, w) = some r ∧ ((∃ x u f, r = some (x, u, f) ∧ Best n l w u x) ∨ (r = none ∧ Cut n l w)) := by
  have hS := netOk_lk hok hn
  have hpot := solution_pot hok hcons
  have hrep : ∀ k : Nat, gi (List.replicate l.length 0) k = 0 := by
    intro k
    simp only [gi, List.getD_eq_getElem?_getD, List.getElem?_replicate]
    split <;> rfl
  have hnb : negs w n ≤ 1200000 := by
    have h1 := sumN_le (g := fun v : Nat => if gi w v < 0 then -(gi w v) else 0) (h := fun _ => 100000) n (fun i hi => by
      have := hwb i hi
      show (if gi w i < 0 then -(gi w i) else 0) ≤ 100000
      split <;> omega)
    rw [sumN_const] at h1
    unfold negs; omega
  have hI : Inv n l w 1200000 (solutionL n l).1 (List.replicate l.length 0) w := by
    refine ⟨solutionL_length n l, by simp, hw, fun k hk => ?_, fun k => by rw [hrep]; omega, fun k hk hp => by rw [hrep] at hp; omega, fun v hv => by rw [net_zero]; omega, fun k => by rw [hrep]; omega, fun v => ?_⟩
    · have := hpot.fit (gl l k) (gl_mem (by omega) (by omega))
      unfold sl; omega
    · by_cases h : v < n
      · have := hwb v h; omega
      · rw [gi_out (by omega)]; omega
  have hP : Ph n (solutionL n l).1 (solutionL n l).1 w (0 : Nat) 0 (ubd 0) :=
    ⟨by omega, by unfold ubd; omega, fun i hi => ⟨hpot.lo i, hpot.hi i⟩, fun i hi => Int.le_refl _, fun i hi => by omega, rfl, fun i hi _ => by omega⟩
  obtain ⟨r, hr, hc⟩ := go_ok hS (by omega) F (by omega) F 0 _ _ _ _ 0 (by omega) hI (fun i hi => by omega) hP (by omega)
  refine ⟨r, hr, ?_⟩
  rcases hc with ⟨x, u, f, rfl, hI', hpos⟩ | hc
  · refine .inl ⟨x, u, f, rfl, hI'.lx, hI'.lu, hI'.s0, hI'.u0, hI'.tight, fun v hv => ?_, fun k => ?_⟩
    · -- all that lacks is none
      have hds := dual_sum (n := n) (l := l) u (fun _ => 1) (fun k hk => by have := hS.lk k hk; omega)
      rw [sumN_congr (g := fun k => gi u k * (1 - 1)) (h := fun _ => 0) l.length (fun k _ => by omega), sumN_zero] at hds
      have hsf : sumN (fun v : Nat => gi f v) n = 0 := by
        have e : sumN (fun v : Nat => gi w v) n = sumN (fun v : Nat => gi f v + 1 * net l u v) n := sumN_congr n fun i hi => by have := hI'.cons i hi; omega
        rw [hsum, sumN_add, hds] at e
        omega
      have hfv : gi f v ≤ 0 := by
        have h1 := sumN_le (g := fun i : Nat => if i = v then gi f v else 0) (h := fun i : Nat => gi f i) n (fun i hi => by
          show (if i = v then gi f v else 0) ≤ gi f i
          by_cases e : i = v
          · subst e; rw [if_pos rfl]; exact Int.le_refl _
          · rw [if_neg e]; exact hpos i hi)
        have h2 := sumN_upd (g := fun i : Nat => if i = v then gi f v else 0) (h := fun _ => 0) (j := v) n (fun i _ hne => if_neg hne)
        rw [sumN_zero, if_pos hv, if_pos rfl] at h2
        omega
      have h3 := hI'.cons v hv
      have h4 := hpos v hv
      omega
    · have := hI'.ub k
      have := negs_nonneg f n
      omega
  · exact .inr hc

/-- A round that turned something made something less. -/
theorem fold_less {n : Nat} : ∀ (l : List Lk) (s : List Int × Bool), s.1.length = n → (∀ k ∈ l, InR n k) →
    (∀ v : Int, 0 ≤ v → gi (l.foldl relax s).1 v ≤ gi s.1 v) ∧ ((l.foldl relax s).2 = true → s.2 = true ∨ ∃ v : Int, 0 ≤ v ∧ gi (l.foldl relax s).1 v < gi s.1 v)
  | [], s, _, _ => ⟨fun v _ => Int.le_refl _, fun h => .inl h⟩
  | k :: l, s, hl, hr => by
    obtain ⟨a0, a1, b0, b1⟩ := hr k (by simp)
    have h1 : (∀ v : Int, 0 ≤ v → gi (relax s k).1 v ≤ gi s.1 v) ∧ ((relax s k).2 = true → s.2 = true ∨ ∃ v : Int, 0 ≤ v ∧ gi (relax s k).1 v < gi s.1 v) := by
      unfold relax
      split
      · rename_i hc
        have ho : wrap64 (gi s.1 k.a + k.m) < gi s.1 k.b := by simpa [overB] using hc.2
        refine ⟨fun v hv => ?_, fun _ => .inr ⟨k.b, b0, ?_⟩⟩
        · show gi (si s.1 k.b _) v ≤ _
          rw [gi_set_eq b0 (by omega) hv]
          split
          · rename_i e; rw [e]; omega
          · exact Int.le_refl _
        · show gi (si s.1 k.b _) k.b < _
          rw [gi_set_eq b0 (by omega) b0, if_pos rfl]; exact ho
      · exact ⟨fun v _ => Int.le_refl _, fun h => .inl h⟩
    obtain ⟨i1, i2⟩ := fold_less l (relax s k) (by rw [relax_length]; exact hl) (fun q hq => hr q (by simp [hq]))
    rw [List.foldl_cons]
    refine ⟨fun v hv => Int.le_trans (i1 v hv) (h1.1 v hv), fun h => ?_⟩
    rcases i2 h with h2 | ⟨v, hv, h2⟩
    · rcases h1.2 h2 with h3 | ⟨v, hv, h3⟩
      · exact .inl h3
      · exact .inr ⟨v, hv, Int.lt_of_le_of_lt (i1 v hv) h3⟩
    · exact .inr ⟨v, hv, Int.lt_of_lt_of_le h2 (h1.1 v hv)⟩
section
variable {n : Nat} {l : List Lk} {p : Int → Int} {c : Int}
theorem settled_flag (hp : ∀ v, -1000000000000000 ≤ p v) (hc : -1000000000000000 ≤ c) (hl : l.length ≤ 260) (hk : ∀ k ∈ l, InR n k ∧ (-17179869184 ≤ k.m ∧ k.m ≤ 17179869184) ∧ p k.b ≤ p k.a + k.m) : ∀ (r i : Nat) (d : List Int), Gd n p c (i * 260) d → i + r ≤ 60 →
    (∃ j, j < r ∧ l.foldl rrelax (riter l j d) = riter l j d) → (settledN l r d).2 = true
  | 0, _, _, _, _, ⟨j, hj, _⟩ => absurd hj (by omega)
  | r + 1, i, d, h, hi, ⟨j, hj, hfix⟩ => by
    obtain ⟨h1, h2⟩ := fold_rrelax hp hc l (i * 260) d false h (by omega) hk
    unfold settledN
    by_cases hq : (roundOf l d).2 = true
    · rw [if_pos hq]
      have e : (roundOf l d).1 = l.foldl rrelax d := h1
      rw [e]
      cases j with
      | zero =>
        exfalso
        rcases (fold_less l (d, false) h.len (fun k hm => (hk k hm).1)).2 hq with h3 | ⟨v, hv, h3⟩
        · cases h3
        · rw [h1] at h3
          have hf : l.foldl rrelax d = d := hfix
          rw [hf] at h3
          exact absurd h3 (Int.lt_irrefl _)
      | succ j => exact settled_flag hp hc hl hk r (i + 1) _ (h2.mono (by omega)) (by omega) ⟨j, by omega, hfix⟩
    · rw [if_neg hq]
end
theorem gi_rep0 (m : Nat) (k : Int) : gi (List.replicate m 0) k = 0 := by
  simp only [gi, List.getD_eq_getElem?_getD, List.getElem?_replicate]
  split <;> rfl
/-- Any solution below 0 shows that one is found, which is not less. -/
theorem bf_complete {n : Nat} {l : List Lk} (hok : NetOk n l) {y : Int → Int} (hf : ∀ k ∈ l, y k.b ≤ y k.a + k.m) (hlo : ∀ v, -1000000000000000 ≤ y v) (hhi : ∀ v, y v ≤ 0) :
    (solutionL n l).2 = true ∧ ∀ v : Int, 0 ≤ v → v < n → y v ≤ gi (solutionL n l).1 v := by
  have hk : ∀ k ∈ l, InR n k ∧ (-17179869184 ≤ k.m ∧ k.m ≤ 17179869184) ∧ y k.b ≤ y k.a + k.m := fun k hk => ⟨(hok.lk k hk).1, (hok.lk k hk).2.2, hf k hk⟩
  have hn2 := hok.n2
  have h0 : Gd n y 0 0 (List.replicate n 0) := ⟨by simp, fun v v0 v1 => by
    rw [gi_rep0]
    have := hhi v
    right; omega⟩
  have hfix := riter_fixed hlo (by omega) hok.l1 (by omega) hk h0
  have e : solutionL n l = settledN l (n + 1) (List.replicate n 0) := by unfold solutionL settled; simp
  rw [e]
  refine ⟨settled_flag hlo (c := 0) (by omega) hok.l1 hk (n + 1) 0 _ (by simpa using h0) (by omega) ⟨n, by omega, hfix⟩, fun v v0 v1 => ?_⟩
  obtain ⟨j, j1, j2, _⟩ := settledN_riter hlo (c := 0) (by omega) hok.l1 hk (n + 1) 0 (List.replicate n 0) (by simpa using h0) (by omega)
  rw [j2]
  rcases (riter_gd hlo (c := 0) (by omega) hok.l1 hk h0 j (by omega)).val v v0 v1 with h | h
  · rw [h]; have := hhi v; unfold free; omega
  · omega
/-- Values that lie far below 0 can be lifted in part. -/
theorem raise {n : Nat} {l : List Lk} (hl : ∀ k ∈ l, InR n k ∧ -17179869184 ≤ k.m ∧ k.m ≤ 17179869184) {y : Int → Int} (hfit : ∀ k ∈ l, y k.b ≤ y k.a + k.m) (hhi : ∀ v : Int, 0 ≤ v → v < n → y v ≤ 0) (hlow : ∃ v : Nat, v < n ∧ y v < -((n : Int) * 17179869184)) :
    ∃ S : Int → Bool, (∃ v : Nat, v < n ∧ S v = true) ∧ (∀ k ∈ l, y k.b + (if S k.b = true then 1 else 0) ≤ y k.a + (if S k.a = true then 1 else 0) + k.m) ∧ ∀ v : Int, S v = true → 0 ≤ v ∧ v < n ∧ y v < 0 := by
  refine Classical.byContradiction fun hmax => ?_
  have hgap : ∀ j : Nat, (∃ v : Nat, v < n ∧ y v < -(((j : Int) + 1) * 17179869184)) → ∃ v : Nat, v < n ∧ y v < -((j : Int) * 17179869184) ∧ -(((j : Int) + 1) * 17179869184) ≤ y v := by
    rintro j ⟨v, hv, hlt⟩
    refine Classical.byContradiction fun hno => ?_
    have hno2 : ∀ u : Int, 0 ≤ u → u < n → y u < -((j : Int) * 17179869184) → y u < -(((j : Int) + 1) * 17179869184) := by
      intro u u0 u1 hu
      refine Classical.byContradiction fun hc => hno ⟨u.toNat, by omega, ?_, ?_⟩
      · rw [show ((u.toNat : Nat) : Int) = u by omega]; exact hu
      · rw [show ((u.toNat : Nat) : Int) = u by omega]; omega
    refine hmax ⟨fun u => decide (0 ≤ u ∧ u < n ∧ y u < -(((j : Int) + 1) * 17179869184)), ⟨v, hv, by simp; omega⟩, fun k hk => ?_, fun u hu => ?_⟩
    · have h1 := hfit k hk
      obtain ⟨⟨a0, a1, b0, b1⟩, m1, m2⟩ := hl k hk
      have h2 := hno2 k.a a0 a1
      simp only [decide_eq_true_eq, a0, a1, b0, b1, true_and]
      split <;> split <;> omega
    · simp only [decide_eq_true_eq] at hu
      omega
  have htop : ∃ v : Nat, v < n ∧ y v = 0 := by
    refine Classical.byContradiction fun hno => ?_
    have hneg : ∀ u : Int, 0 ≤ u → u < n → y u < 0 := by
      intro u u0 u1
      have h1 := hhi u u0 u1
      refine Classical.byContradiction fun hc => hno ⟨u.toNat, by omega, ?_⟩
      rw [show ((u.toNat : Nat) : Int) = u by omega]; omega
    obtain ⟨v, hv, _⟩ := hlow
    refine hmax ⟨fun u => decide (0 ≤ u ∧ u < n), ⟨v, hv, by simp; omega⟩, fun k hk => ?_, fun u hu => ?_⟩
    · have h1 := hfit k hk
      obtain ⟨⟨a0, a1, b0, b1⟩, _⟩ := hl k hk
      simp only [decide_eq_true_eq, a0, a1, b0, b1, and_self, if_true]
      omega
    · simp only [decide_eq_true_eq] at hu
      exact ⟨hu.1, hu.2, hneg u hu.1 hu.2⟩
  have hcount : ∀ j : Nat, (∃ v : Nat, v < n ∧ y v < -((j : Int) * 17179869184)) → cnt (fun v : Nat => decide (y v < -((j : Int) * 17179869184))) n + j + 1 ≤ n := by
    intro j
    induction j with
    | zero =>
      intro _
      obtain ⟨v, hv, e⟩ := htop
      obtain ⟨P, hP⟩ : ∃ P, P = fun v : Nat => decide (y v < -(((0 : Nat) : Int) * 17179869184)) := ⟨_, rfl⟩
      have hPv : P v = false := by
        rw [hP]
        exact decide_eq_false (by rw [e]; decide)
      have h1 := cnt_more (P := P) (Q := fun _ => true) (v := v) (fun _ _ => rfl) hPv rfl n hv
      rw [← hP]
      exact Nat.le_trans h1 (cnt_le (fun _ => true) n)
    | succ j ih =>
      rintro ⟨v, hv, hlt⟩
      have e1 : ((j + 1 : Nat) : Int) = (j : Int) + 1 := by omega
      rw [e1] at hlt ⊢
      have h1 := ih ⟨v, hv, by omega⟩
      obtain ⟨u, hu, u1, u2⟩ := hgap j ⟨v, hv, hlt⟩
      have h2 := cnt_more (P := fun v : Nat => decide (y v < -(((j : Int) + 1) * 17179869184))) (Q := fun v : Nat => decide (y v < -((j : Int) * 17179869184))) (v := u) (fun i hi => by simp at hi ⊢; omega) (by simp; omega) (by simp; omega) n hu
      omega
  have := hcount n hlow
  omega
theorem netOk_m {n : Int} {l : List Lk} (hok : NetOk n l) : ∀ k ∈ l, InR n k ∧ -17179869184 ≤ k.m ∧ k.m ≤ 17179869184 := fun k hk => ⟨(hok.lk k hk).1, (hok.lk k hk).2.2⟩
/-- The found solution does not lie far below 0. -/
theorem solution_low {n : Nat} {l : List Lk} (hok : NetOk n l) (h : (solutionL n l).2 = true) : ∀ v : Int, 0 ≤ v → v < n → -((n : Int) * 17179869184) ≤ gi (solutionL n l).1 v := by
  have hpot := solution_pot hok h
  have hbf : ∀ y : Int → Int, (∀ k ∈ l, y k.b ≤ y k.a + k.m) → (∀ v, -1000000000000000 ≤ y v) → (∀ v, y v ≤ 0) → ∀ v : Int, 0 ≤ v → v < n → y v ≤ gi (solutionL n l).1 v := fun y h1 h2 h3 => (bf_complete hok h1 h2 h3).2
  have hfit := hpot.fit
  have hlo := hpot.lo
  have hhi := hpot.hi
  clear hpot
  generalize (solutionL n l).1 = x at *
  change ∀ k ∈ l, gi x k.b ≤ gi x k.a + k.m at hfit
  change ∀ v, -1000000000000000 ≤ gi x v at hlo
  change ∀ v, gi x v ≤ 0 at hhi
  intro v v0 v1
  refine Classical.byContradiction fun hc => ?_
  obtain ⟨S, ⟨u, hu, hS⟩, h2, h3⟩ := raise (y := fun v => gi x v) (netOk_m hok) hfit (fun v _ _ => hhi v) ⟨v.toNat, by omega, by
    rw [show ((v.toNat : Nat) : Int) = v by omega]
    show gi x v < _
    omega⟩
  have h4 := hbf (fun v => gi x v + if S v = true then 1 else 0) h2 (fun v => by
    have := hlo v
    show -1000000000000000 ≤ gi x v + if S v = true then 1 else 0
    split <;> omega) (fun v => by
    have h5 := hhi v
    have h6 := h3 v
    show gi x v + (if S v = true then 1 else 0) ≤ 0
    split
    · rename_i e
      have h7 : gi x v < 0 := (h6 e).2.2
      omega
    · omega) u (by omega) (by omega)
  rw [hS] at h4
  simp only [if_true] at h4
  omega
def sumQ (g : Nat → Int) : Nat → Int
  | 0 => 0
  | k + 1 => sumQ g k + g k
theorem sumQ_le {g h : Nat → Int} : ∀ k, (∀ i, i < k → g i ≤ h i) → sumQ g k ≤ sumQ h k
  | 0, _ => Int.le_refl _
  | k + 1, hi => by
    unfold sumQ
    have := sumQ_le k fun i h => hi i (by omega)
    have := hi k (by omega)
    omega
theorem sumQ_lt {g h : Nat → Int} : ∀ k, (∀ i, i < k → g i ≤ h i) → (∃ i, i < k ∧ g i < h i) → sumQ g k < sumQ h k
  | 0, _, ⟨i, hi, _⟩ => absurd hi (by omega)
  | k + 1, hi, ⟨i, h1, h2⟩ => by
    unfold sumQ
    by_cases e : i = k
    · subst e
      have := sumQ_le i fun j h => hi j (by omega)
      omega
    · have := sumQ_lt k (fun j h => hi j (by omega)) ⟨i, by omega, h2⟩
      have := hi k (by omega)
      omega
theorem sumQ_nonneg {g : Nat → Int} : ∀ k, (∀ i, i < k → 0 ≤ g i) → 0 ≤ sumQ g k
  | 0, _ => Int.le_refl _
  | k + 1, hi => by
    unfold sumQ
    have := sumQ_nonneg k fun i h => hi i (by omega)
    have := hi k (by omega)
    omega
theorem sumQ_ge {g : Nat → Int} : ∀ k, (∀ i, i < k → 0 ≤ g i) → ∀ i, i < k → g i ≤ sumQ g k
  | 0, _, i, h => absurd h (by omega)
  | k + 1, hi, i, h => by
    unfold sumQ
    by_cases e : i = k
    · subst e
      have := sumQ_nonneg i fun j h => hi j (by omega)
      omega
    · have := sumQ_ge k (fun j h => hi j (by omega)) i (by omega)
      have := hi k (by omega)
      omega
/-- A solution below 0 can be lifted until it does not lie far below. -/
theorem compress {n : Nat} {l : List Lk} (hl : ∀ k ∈ l, InR n k ∧ -17179869184 ≤ k.m ∧ k.m ≤ 17179869184) : ∀ (N : Nat) (y : Int → Int), (∀ k ∈ l, y k.b ≤ y k.a + k.m) → (∀ v : Int, 0 ≤ v → v < n → y v ≤ 0) → sumQ (fun v : Nat => -(y v)) n ≤ N →
    ∃ y' : Int → Int, (∀ k ∈ l, y' k.b ≤ y' k.a + k.m) ∧ ∀ v : Int, 0 ≤ v → v < n → -((n : Int) * 17179869184) ≤ y' v ∧ y' v ≤ 0 := by
  intro N
  induction N with
  | zero =>
    intro y hf hhi hs
    refine ⟨y, hf, fun v v0 v1 => ⟨?_, hhi v v0 v1⟩⟩
    have h1 := sumQ_ge (g := fun v : Nat => -(y v)) n (fun i hi => by have := hhi i (by omega) (by omega); show 0 ≤ -(y i); omega) v.toNat (by omega)
    have h2 : -(y (v.toNat : Nat)) ≤ sumQ (fun v : Nat => -(y v)) n := h1
    rw [show ((v.toNat : Nat) : Int) = v by omega] at h2
    omega
  | succ N ih =>
    intro y hf hhi hs
    by_cases hlow : ∃ v : Nat, v < n ∧ y v < -((n : Int) * 17179869184)
    · obtain ⟨S, ⟨u, hu, hS⟩, h2, h3⟩ := raise hl hf hhi hlow
      refine ih (fun v => y v + if S v = true then 1 else 0) h2 (fun v v0 v1 => ?_) ?_
      · have h5 := hhi v v0 v1
        have h6 := h3 v
        show y v + (if S v = true then 1 else 0) ≤ 0
        split
        · rename_i e; have := (h6 e).2.2; omega
        · omega
      · have h4 := sumQ_lt (g := fun v : Nat => -(y v + if S v = true then 1 else 0)) (h := fun v : Nat => -(y v)) n (fun i hi => by
          show -(y i + if S i = true then 1 else 0) ≤ -(y i)
          split <;> omega) ⟨u, hu, by
          show -(y u + if S u = true then 1 else 0) < -(y u)
          rw [if_pos hS]; omega⟩
        omega
    · refine ⟨y, hf, fun v v0 v1 => ⟨?_, hhi v v0 v1⟩⟩
      refine Classical.byContradiction fun hc => hlow ⟨v.toNat, by omega, ?_⟩
      rw [show ((v.toNat : Nat) : Int) = v by omega]; omega
/-- A net that has a solution is found to have one. -/
theorem sol_any {n : Nat} {l : List Lk} (hok : NetOk n l) {x : Int → Int} (hf : ∀ k ∈ l, x k.b ≤ x k.a + k.m) : (solutionL n l).2 = true := by
  have hn2 := hok.n2
  obtain ⟨M, hM⟩ : ∃ M, ∀ v : Nat, v < n → x v ≤ M := ⟨sumQ (fun v : Nat => if 0 ≤ x v then x v else 0) n, fun v hv => by
    have h1 := sumQ_ge (g := fun v : Nat => if 0 ≤ x v then x v else 0) n (fun i _ => by show 0 ≤ (if 0 ≤ x i then x i else 0); split <;> omega) v hv
    have h2 : (if 0 ≤ x v then x v else 0) ≤ sumQ (fun v : Nat => if 0 ≤ x v then x v else 0) n := h1
    split at h2 <;> omega⟩
  obtain ⟨y, h1, h2⟩ := compress (netOk_m hok) (sumQ (fun v : Nat => -(x v - M)) n).toNat (fun v => x v - M) (fun k hk => by have := hf k hk; show x k.b - M ≤ x k.a - M + k.m; omega) (fun v v0 v1 => by
    have := hM v.toNat (by omega)
    rw [show ((v.toNat : Nat) : Int) = v by omega] at this
    show x v - M ≤ 0; omega) (by omega)
  refine (bf_complete hok (y := fun v => if 0 ≤ v ∧ v < n then y v else 0) (fun k hk => ?_) (fun v => ?_) (fun v => ?_)).1
  · obtain ⟨⟨a0, a1, b0, b1⟩, _⟩ := hok.lk k hk
    show (if 0 ≤ k.b ∧ k.b < n then y k.b else 0) ≤ (if 0 ≤ k.a ∧ k.a < n then y k.a else 0) + k.m
    rw [if_pos ⟨b0, b1⟩, if_pos ⟨a0, a1⟩]
    exact h1 k hk
  · show -1000000000000000 ≤ (if 0 ≤ v ∧ v < n then y v else 0)
    split
    · rename_i e; have := h2 v e.1 e.2; omega
    · omega
  · show (if 0 ≤ v ∧ v < n then y v else 0) ≤ 0
    split
    · rename_i e; exact (h2 v e.1 e.2).2
    · omega

theorem take_gi2 (u : List Int) (k : Nat) (h : k < u.length) : u.take (k + 1) = u.take k ++ [gi u k] := by
  rw [List.take_add_one, gi_get h]; rfl
theorem sumN_mono {g : Nat → Int} {m : Nat} (h0 : ∀ i, i < m → 0 ≤ g i) : ∀ (j k : Nat), k + j ≤ m → sumN g k ≤ sumN g (k + j)
  | 0, _, _ => Int.le_refl _
  | j + 1, k, h => by
    have h1 := sumN_mono h0 j k (by omega)
    have h2 := h0 (k + j) (by omega)
    have e : sumN g (k + (j + 1)) = sumN g (k + j) + g (k + j) := rfl
    omega
theorem sumN_le_total {g : Nat → Int} {m k : Nat} (h0 : ∀ i, i < m → 0 ≤ g i) (h : k ≤ m) : sumN g k ≤ sumN g m := by
  have := sumN_mono h0 (m - k) k (by omega)
  rw [show k + (m - k) = m by omega] at this
  exact this
theorem sumN_nonneg {g : Nat → Int} (k : Nat) (h0 : ∀ i, i < k → 0 ≤ g i) : 0 ≤ sumN g k := by
  have := sumN_le (g := fun _ => 0) (h := g) k h0
  rw [sumN_zero] at this
  exact this
theorem sumN_abs {g b : Nat → Int} : ∀ (k : Nat), (∀ i, i < k → -(b i) ≤ g i ∧ g i ≤ b i) → -(sumN b k) ≤ sumN g k ∧ sumN g k ≤ sumN b k
  | 0, _ => by simp [sumN]
  | k + 1, h => by
    have h1 := sumN_abs k fun i hi => h i (by omega)
    have h2 := h k (by omega)
    unfold sumN; omega
theorem sumW_eq {u : List Int} {b : Nat → Int} (hb : ∀ i, i < u.length → -(b i) ≤ gi u i ∧ gi u i ≤ b i) (hB : sumN b u.length ≤ 4611686018427387904) : sumW u = sumN (fun i => gi u i) u.length := by
  have key : ∀ k, k ≤ u.length → (u.take k).foldl addW 0 = sumN (fun i => gi u i) k := by
    intro k
    induction k with
    | zero => intro _; rfl
    | succ k ih =>
      intro hk
      rw [take_gi2 u k (by omega), List.foldl_append, ih (by omega)]
      have h1 := sumN_abs (g := fun i => gi u i) (b := b) (k + 1) fun i hi => hb i (by omega)
      have h2 := sumN_le_total (g := b) (m := u.length) (k := k + 1) (fun i hi => by have := hb i hi; omega) (by omega)
      show wrap64 (sumN (fun i => gi u i) k + gi u k) = sumN (fun i => gi u i) k + gi u k
      have h3 : sumN (fun i : Nat => gi u i) (k + 1) = sumN (fun i : Nat => gi u i) k + gi u k := rfl
      exact wrap_in (by omega)
  have := key u.length (Nat.le_refl _)
  rw [List.take_length] at this
  exact this
theorem valueI_eq {u z : List Int} {b : Nat → Int} (hl : u.length ≤ z.length) (hb : ∀ i, i < u.length → -(b i) ≤ gi u i * gi z i ∧ gi u i * gi z i ≤ b i) (hB : sumN b u.length ≤ 4611686018427387904) : valueI u z = sumN (fun i => gi u i * gi z i) u.length := by
  have key : ∀ k, k ≤ u.length → partV u z k = sumN (fun i => gi u i * gi z i) k := by
    intro k
    induction k with
    | zero => intro _; rfl
    | succ k ih =>
      intro hk
      rw [partV_succ u z k (by omega) (by omega), ih (by omega)]
      have h1 := sumN_abs (g := fun i => gi u i * gi z i) (b := b) (k + 1) fun i hi => hb i (by omega)
      have h0 := sumN_abs (g := fun i => gi u i * gi z i) (b := b) k fun i hi => hb i (by omega)
      have h2 := sumN_le_total (g := b) (m := u.length) (k := k + 1) (fun i hi => by have := hb i hi; omega) (by omega)
      have h4 := sumN_le_total (g := b) (m := u.length) (k := k) (fun i hi => by have := hb i hi; omega) (by omega)
      have h3 : sumN (fun i : Nat => gi u i * gi z i) (k + 1) = sumN (fun i : Nat => gi u i * gi z i) k + gi u k * gi z k := rfl
      have h5 := hb k (by omega)
      have h6 := sumN_nonneg (g := b) k (fun i hi => by have := hb i (by omega); omega)
      have h7 : sumN b (k + 1) = sumN b k + b k := rfl
      rw [wrap_in (a := gi u k * gi z k) (by omega), h3]
      exact wrap_in (by omega)
  rw [← partV_full u z hl]
  exact key _ (Nat.le_refl _)
theorem sumN_cadd (c : Int) (g : Nat → Int) (k : Nat) : sumN (fun i => g i * c) k = sumN g k * c := by
  rw [sumN_congr (h := fun i => c * g i) k (fun i _ => Int.mul_comm _ _), sumN_mul, Int.mul_comm]
theorem mul_abs {a b A B : Int} (h1 : -A ≤ a ∧ a ≤ A) (h2 : -B ≤ b ∧ b ≤ B) : -(A * B) ≤ a * b ∧ a * b ≤ A * B := by
  have e1 : 0 ≤ (A - a) * (B + b) := Int.mul_nonneg (by omega) (by omega)
  have e2 : 0 ≤ (A + a) * (B - b) := Int.mul_nonneg (by omega) (by omega)
  have e3 : 0 ≤ (A - a) * (B - b) := Int.mul_nonneg (by omega) (by omega)
  have e4 : 0 ≤ (A + a) * (B + b) := Int.mul_nonneg (by omega) (by omega)
  constructor <;> grind
/-- The cost of units that are not too many. -/
theorem costI_eq {l : List Lk} {u : List Int} (hu : u.length = l.length) (hm : ∀ k : Nat, k < l.length → -17179869184 ≤ (gl l k).m ∧ (gl l k).m ≤ 17179869184) (h0 : ∀ k : Nat, k < l.length → 0 ≤ gi u k) (hs : sumN (fun k => gi u k) l.length ≤ 268435456) :
    costI l u = sumN (fun k => gi u k * (gl l k).m) l.length := by
  have e := valueI_eq (u := u) (z := l.map (·.m)) (b := fun k => gi u k * 17179869184) (by simp; omega) (fun i hi => by
    rw [gi_map_m l i (by omega)]
    have := h0 i (by omega)
    exact mul_abs (by omega) (hm i (by omega))) (by rw [sumN_cadd, hu]; omega)
  unfold costI
  rw [e, hu]
  exact sumN_congr _ fun i hi => by rw [gi_map_m l i hi]
theorem weights_facts {n : Nat} {w : List Int} (hn : n ≤ 50) (h : weightsB n w = true) : w.length = n ∧ (∀ i : Nat, i < n → -100000 ≤ gi w i ∧ gi w i ≤ 100000) ∧ sumN (fun v => gi w v) n = 0 := by
  simp only [weightsB, Bool.and_eq_true, Bool.not_eq_true', decide_eq_true_eq, beq_iff_eq] at h
  obtain ⟨h1, h2, h3⟩ := h
  have hl : w.length = n := by omega
  have hb : ∀ i : Nat, i < n → -100000 ≤ gi w i ∧ gi w i ≤ 100000 := by
    intro i hi
    have := List.any_eq_false.1 h1 (gi w i) (gi_mem (by omega) (by omega))
    simpa [withinB] using this
  refine ⟨hl, hb, ?_⟩
  have := sumW_eq (u := w) (b := fun _ => 100000) (fun i hi => hb i (by omega)) (by rw [sumN_const]; omega)
  rw [← hl, ← this]; exact h3
theorem isFlow_facts {l : List Lk} {u : List Int} (hl : l.length ≤ 260) : isFlowI l u = 0 ↔ u.length = l.length ∧ (∀ k : Nat, k < l.length → 0 ≤ gi u k ∧ gi u k ≤ 134217728) ∧ sumN (fun k => gi u k) l.length ≤ 134217728 := by
  have hsum : u.length = l.length → (∀ k : Nat, k < l.length → 0 ≤ gi u k ∧ gi u k ≤ 134217728) → sumW u = sumN (fun k => gi u k) l.length := by
    intro h1 h2
    have := sumW_eq (u := u) (b := fun _ => 134217728) (fun i hi => by have := h2 i (by omega); omega) (by rw [sumN_const]; omega)
    rw [this, h1]
  have hany : u.length = l.length → (u.any badU = false ↔ ∀ k : Nat, k < l.length → 0 ≤ gi u k ∧ gi u k ≤ 134217728) := by
    intro h1
    constructor
    · intro h k hk
      have := List.any_eq_false.1 h (gi u k) (gi_mem (by omega) (by omega))
      simpa [badU, withinB] using this
    · intro h
      refine List.any_eq_false.2 fun v hv => ?_
      obtain ⟨i, hi, e⟩ := List.mem_iff_getElem.1 hv
      have := h i (by omega)
      have e2 : gi u i = v := by simp [gi, List.getD_eq_getElem?_getD, hi, e]
      rw [e2] at this
      simpa [badU, withinB] using this
  unfold isFlowI
  constructor
  · intro h
    by_cases h1 : u.length = l.length
    · by_cases h2 : u.any badU = false
      · have h3 := (hany h1).1 h2
        refine ⟨h1, h3, ?_⟩
        rw [← hsum h1 h3]
        rw [if_neg (by simp [h1, h2])] at h
        refine Classical.byContradiction fun hc => ?_
        rw [if_pos (by omega)] at h
        omega
      · rw [if_pos (by simp at h2 ⊢; exact .inr h2)] at h; omega
    · rw [if_pos (by simp [h1])] at h; omega
  · rintro ⟨h1, h2, h3⟩
    rw [if_neg (by simp [h1, (hany h1).2 h2]), if_neg (by rw [hsum h1 h2]; omega)]
/-- What is left of weights behind the first links. -/
theorem leftP {n : Nat} {l : List Lk} {w u : List Int} {C : Int} (hlk : ∀ k : Nat, k < l.length → 0 ≤ (gl l k).a ∧ (gl l k).a < n ∧ 0 ≤ (gl l k).b ∧ (gl l k).b < n) (hw : w.length = n) (hwb : ∀ v : Int, 0 ≤ v → v < n → -C ≤ gi w v ∧ gi w v ≤ C) (hu : u.length = l.length) (h0 : ∀ k : Nat, k < l.length → 0 ≤ gi u k) (hB : C + 2 * sumN (fun k => gi u k) l.length ≤ 4611686018427387904) :
    ∀ m, m ≤ l.length → (((l.zip u).take m).foldl moveU w).length = n ∧ ∀ v : Int, 0 ≤ v → v < n → gi (((l.zip u).take m).foldl moveU w) v = gi w v - netP l u v m ∧ -(C + 2 * sumN (fun k => gi u k) m) ≤ gi (((l.zip u).take m).foldl moveU w) v ∧ gi (((l.zip u).take m).foldl moveU w) v ≤ C + 2 * sumN (fun k => gi u k) m
  | 0, _ => ⟨hw, fun v v0 v1 => by
    have := hwb v v0 v1
    simp only [List.take_zero, List.foldl_nil, netP, sumN]
    omega⟩
  | m + 1, hm => by
    obtain ⟨i1, i2⟩ := leftP hlk hw hwb hu h0 hB m (by omega)
    rw [zipl_take l u m (by omega) (by omega), List.foldl_append]
    obtain ⟨L, hL⟩ : ∃ L, L = ((l.zip u).take m).foldl moveU w := ⟨_, rfl⟩
    rw [← hL] at i1 i2 ⊢
    obtain ⟨a0, a1, b0, b1⟩ := hlk m (by omega)
    have hu0 := h0 m (by omega)
    have hs := sumN_le_total (g := fun k : Nat => gi u k) (m := l.length) (k := m + 1) h0 (by omega)
    have e : sumN (fun k : Nat => gi u k) (m + 1) = sumN (fun k : Nat => gi u k) m + gi u m := rfl
    have hb := i2 _ b0 b1
    have ha := i2 _ a0 a1
    show (moveU L (gl l m, gi u m)).length = n ∧ ∀ v : Int, 0 ≤ v → v < n → gi (moveU L (gl l m, gi u m)) v = _ ∧ _ ≤ gi (moveU L (gl l m, gi u m)) v ∧ gi (moveU L (gl l m, gi u m)) v ≤ _
    refine ⟨by rw [moveU_length]; exact i1, fun v v0 v1 => ?_⟩
    have e1 : wrap64 (gi L (gl l m).b - gi u m) = gi L (gl l m).b - gi u m := wrap_in (by omega)
    have h1 : ∀ v : Int, 0 ≤ v → gi (si L (gl l m).b (gi L (gl l m).b - gi u m)) v = if v = (gl l m).b then gi L (gl l m).b - gi u m else gi L v := fun v hv => gi_set_eq b0 (by omega) hv
    have h2 : gi (moveU L (gl l m, gi u m)) v = if v = (gl l m).a then gi (si L (gl l m).b (gi L (gl l m).b - gi u m)) (gl l m).a + gi u m else gi (si L (gl l m).b (gi L (gl l m).b - gi u m)) v := by
      have h3 := h1 _ a0
      show gi (si (si L (gl l m).b (wrap64 (gi L (gl l m).b - gi u m))) (gl l m).a (wrap64 (gi (si L (gl l m).b (wrap64 (gi L (gl l m).b - gi u m))) (gl l m).a + gi u m))) v = _
      rw [e1, gi_set_eq a0 (by rw [si_len]; omega) v0, wrap_in]
      split at h3 <;> omega
    have hv := i2 v v0 v1
    have hn : netP l u v (m + 1) = netP l u v m + gi u m * (ind (gl l m).b v - ind (gl l m).a v) := rfl
    rw [h2, h1 _ a0, h1 v v0, hn, e]
    unfold ind
    have s1 : ((gl l m).a = v) = (v = (gl l m).a) := propext ⟨Eq.symm, Eq.symm⟩
    have s2 : ((gl l m).b = v) = (v = (gl l m).b) := propext ⟨Eq.symm, Eq.symm⟩
    simp only [s1, s2]
    by_cases q1 : v = (gl l m).a
    · simp only [if_pos q1]
      by_cases q2 : v = (gl l m).b
      · simp only [if_pos q2, ← q1]
        refine ⟨by grind, by omega, by omega⟩
      · simp only [if_neg q2, ← q1]
        refine ⟨by grind, by omega, by omega⟩
    · simp only [if_neg q1]
      by_cases q2 : v = (gl l m).b
      · simp only [if_pos q2, ← q2]
        refine ⟨by grind, by omega, by omega⟩
      · simp only [if_neg q2]
        refine ⟨by grind, by omega, by omega⟩
theorem carries_iff {n : Nat} {l : List Lk} {w u : List Int} (hlk : ∀ k : Nat, k < l.length → 0 ≤ (gl l k).a ∧ (gl l k).a < n ∧ 0 ≤ (gl l k).b ∧ (gl l k).b < n) (hw : w.length = n) (hwb : ∀ i : Nat, i < n → -100000 ≤ gi w i ∧ gi w i ≤ 100000) (hu : u.length = l.length) (h0 : ∀ k : Nat, k < l.length → 0 ≤ gi u k) (hs : sumN (fun k => gi u k) l.length ≤ 268435456) :
    carriesB l w u = true ↔ ∀ v : Nat, v < n → net l u v = gi w v := by
  obtain ⟨h1, h2⟩ := leftP (C := 100000) hlk hw (fun v v0 v1 => by have := hwb v.toNat (by omega); rw [show ((v.toNat : Nat) : Int) = v by omega] at this; exact this) hu h0 (by omega) l.length (Nat.le_refl _)
  rw [List.take_of_length_le (by simp; omega)] at h1 h2
  have e : carriesB l w u = true ↔ ∀ v ∈ leftOf l w u, v = 0 := by
    unfold carriesB
    simp
  rw [e]
  unfold leftOf
  constructor
  · intro h v hv
    have h3 := (h2 v (by omega) (by omega)).1
    have h4 := h (gi ((l.zip u).foldl moveU w) v) (gi_mem (by omega) (by omega))
    unfold net; omega
  · intro h v hv
    obtain ⟨i, hi, e⟩ := List.mem_iff_getElem.1 hv
    have h3 := (h2 i (by omega) (by omega)).1
    have h4 := h i (by omega)
    have e2 : gi ((l.zip u).foldl moveU w) i = v := by simp [gi, List.getD_eq_getElem?_getD, hi, e]
    unfold net at h4; omega
/-- Weak duality. -/
theorem weak {n : Nat} {l : List Lk} {w u : List Int} {x : Int → Int} (hlk : ∀ k : Nat, k < l.length → 0 ≤ (gl l k).a ∧ (gl l k).a < n ∧ 0 ≤ (gl l k).b ∧ (gl l k).b < n) (hf : ∀ k : Nat, k < l.length → x (gl l k).b ≤ x (gl l k).a + (gl l k).m) (h0 : ∀ k : Nat, k < l.length → 0 ≤ gi u k) (hc : ∀ v : Nat, v < n → net l u v = gi w v) :
    sumN (fun v : Nat => gi w v * x v) n ≤ sumN (fun k => gi u k * (gl l k).m) l.length := by
  have h := dual_sum u x hlk
  rw [sumN_congr (h := fun v : Nat => gi w v * x v) n (fun i hi => by rw [hc i hi, Int.mul_comm])] at h
  rw [h]
  exact sumN_le _ fun k hk => Int.mul_le_mul_of_nonneg_left (by have := hf k hk; omega) (h0 k hk)
theorem strong {n : Nat} {l : List Lk} {w u : List Int} {x : Int → Int} (hlk : ∀ k : Nat, k < l.length → 0 ≤ (gl l k).a ∧ (gl l k).a < n ∧ 0 ≤ (gl l k).b ∧ (gl l k).b < n) (ht : ∀ k : Nat, k < l.length → gi u k ≠ 0 → x (gl l k).b = x (gl l k).a + (gl l k).m) (hc : ∀ v : Nat, v < n → net l u v = gi w v) :
    sumN (fun v : Nat => gi w v * x v) n = sumN (fun k => gi u k * (gl l k).m) l.length := by
  have h := dual_sum u x hlk
  rw [sumN_congr (h := fun v : Nat => gi w v * x v) n (fun i hi => by rw [hc i hi, Int.mul_comm])] at h
  rw [h]
  refine sumN_congr _ fun k hk => ?_
  by_cases e : gi u k = 0
  · rw [e, Int.zero_mul, Int.zero_mul]
  · have := ht k hk e
    rw [show x (gl l k).b - x (gl l k).a = (gl l k).m by omega]
/-- No flow passes a cut. -/
theorem cut_none {n : Nat} {l : List Lk} {w u : List Int} (hlk : ∀ k : Nat, k < l.length → 0 ≤ (gl l k).a ∧ (gl l k).a < n ∧ 0 ≤ (gl l k).b ∧ (gl l k).b < n) (hcut : Cut n l w) (h0 : ∀ k : Nat, k < l.length → 0 ≤ gi u k) (hc : ∀ v : Nat, v < n → net l u v = gi w v) : False := by
  obtain ⟨P, h1, h2⟩ := hcut
  have h := dual_sum u (fun v => if P v = true then 1 else 0) hlk
  have h3 := sumN_nonneg (g := fun k : Nat => gi u k * ((if P (gl l k).b = true then 1 else 0) - (if P (gl l k).a = true then 1 else 0))) l.length (fun k hk => by
    have := h0 k hk
    have := h1 k hk
    refine Int.mul_nonneg (by omega) ?_
    split <;> split <;> simp_all)
  rw [← h, sumN_congr (h := fun v : Nat => if P v = true then gi w v else 0) n (fun i hi => by
    rw [hc i hi]
    split <;> omega)] at h3
  omega
theorem asked_facts {n : Nat} {l : List Lk} {w : List Int} (ha : askedI n l w = 0) : NetOk n l ∧ w.length = n ∧ (∀ i : Nat, i < n → -100000 ≤ gi w i ∧ gi w i ≤ 100000) ∧ sumN (fun v => gi w v) n = 0 := by
  have hok := check_ok (asked_ok ha).1
  have := weights_facts (by have := hok.n2; omega) (asked_ok ha).2
  exact ⟨hok, this⟩
/-- What best returns, of a net that is asked. -/
theorem best_facts {n : Nat} {l : List Lk} {w : List Int} (ha : askedI n l w = 0) (hn : n ≤ 12) : ∃ r, bestP 2000000 n l w = some r ∧
    ((r = ([], 9) ∧ (solutionL n l).2 = false) ∨ (r = ([], 5) ∧ (solutionL n l).2 = true ∧ Cut n l w) ∨ ∃ u x, r = (u, 0) ∧ (solutionL n l).2 = true ∧ Best n l w u x) := by
  obtain ⟨hok, hw, hwb, hsum⟩ := asked_facts ha
  unfold bestP
  by_cases hs : (solutionL n l).2 = true
  · rw [if_pos hs]
    obtain ⟨r, h1, h2⟩ := best_ok hok hn hw hwb hsum hs 2000000 (Nat.le_refl _)
    rw [h1]
    rcases h2 with ⟨x, u, f, rfl, hb⟩ | ⟨rfl, hc⟩
    · exact ⟨_, rfl, .inr (.inr ⟨u, x, rfl, hs, hb⟩)⟩
    · exact ⟨_, rfl, .inr (.inl ⟨rfl, hs, hc⟩)⟩
  · rw [if_neg hs]
    exact ⟨_, rfl, .inl ⟨rfl, by simpa using hs⟩⟩
structure FlowAt (n : Nat) (l : List Lk) (w u : List Int) : Prop where
  len : u.length = l.length
  u0 : ∀ k : Nat, k < l.length → 0 ≤ gi u k
  cost : costI l u = sumN (fun k => gi u k * (gl l k).m) l.length
  cons : ∀ v : Nat, v < n → net l u v = gi w v
theorem flow_at {n : Nat} {l : List Lk} {w u : List Int} (hS : NetS n l) (hw : w.length = n) (hwb : ∀ i : Nat, i < n → -100000 ≤ gi w i ∧ gi w i ≤ 100000) (h1 : isFlowI l u = 0) (h2 : carriesB l w u = true) : FlowAt n l w u := by
  obtain ⟨f1, f2, f3⟩ := (isFlow_facts hS.l1).1 h1
  have hlk : ∀ k : Nat, k < l.length → 0 ≤ (gl l k).a ∧ (gl l k).a < n ∧ 0 ≤ (gl l k).b ∧ (gl l k).b < n := fun k hk => by have := hS.lk k hk; omega
  exact ⟨f1, fun k hk => (f2 k hk).1, costI_eq f1 (fun k hk => by have := hS.lk k hk; omega) (fun k hk => (f2 k hk).1) (by omega), (carries_iff hlk hw hwb f1 (fun k hk => (f2 k hk).1) (by omega)).1 h2⟩
theorem best_flow {n : Nat} {l : List Lk} {w u x : List Int} (hS : NetS n l) (hl : l.length ≤ 60) (hw : w.length = n) (hwb : ∀ i : Nat, i < n → -100000 ≤ gi w i ∧ gi w i ≤ 100000) (hb : Best n l w u x) : isFlowI l u = 0 ∧ carriesB l w u = true := by
  have hlk : ∀ k : Nat, k < l.length → 0 ≤ (gl l k).a ∧ (gl l k).a < n ∧ 0 ≤ (gl l k).b ∧ (gl l k).b < n := fun k hk => by have := hS.lk k hk; omega
  have hsum : sumN (fun k : Nat => gi u k) l.length ≤ 120000000 := by
    have h1 := sumN_le (g := fun k : Nat => gi u k) (h := fun _ => 2000000) l.length (fun i _ => hb.ub i)
    rw [sumN_const] at h1
    omega
  exact ⟨(isFlow_facts hS.l1).2 ⟨hb.lu, fun k _ => ⟨hb.u0 k, by have := hb.ub k; omega⟩, by omega⟩, (carries_iff hlk hw hwb hb.lu (fun k _ => hb.u0 k) (by omega)).2 hb.cons⟩
/-- The greatest weighted sum of a solution. -/
structure MaxAt (n : Nat) (l : List Lk) (w : List Int) (a : Int) : Prop where
  at_ : ∃ x : Int → Int, (∀ k : Nat, k < l.length → x (gl l k).b ≤ x (gl l k).a + (gl l k).m) ∧ sumN (fun v : Nat => gi w v * x v) n = a
  le : ∀ x : Int → Int, (∀ k : Nat, k < l.length → x (gl l k).b ≤ x (gl l k).a + (gl l k).m) → sumN (fun v : Nat => gi w v * x v) n ≤ a
theorem best_max {n : Nat} {l : List Lk} {w u x : List Int} (hS : NetS n l) (hl : l.length ≤ 60) (hw : w.length = n) (hwb : ∀ i : Nat, i < n → -100000 ≤ gi w i ∧ gi w i ≤ 100000) (hb : Best n l w u x) : MaxAt n l w (costI l u) ∧ -4000000000000000000 ≤ costI l u ∧ costI l u ≤ 4000000000000000000 := by
  have hlk : ∀ k : Nat, k < l.length → 0 ≤ (gl l k).a ∧ (gl l k).a < n ∧ 0 ≤ (gl l k).b ∧ (gl l k).b < n := fun k hk => by have := hS.lk k hk; omega
  obtain ⟨f1, f2⟩ := best_flow hS hl hw hwb hb
  have hF := flow_at hS hw hwb f1 f2
  have hc := sumN_abs (g := fun k : Nat => gi u k * (gl l k).m) (b := fun _ => 2000000 * 17179869184) l.length (fun k hk => mul_abs (by have := hb.u0 k; have := hb.ub k; omega) (by have := hS.lk k hk; omega))
  rw [sumN_const] at hc
  refine ⟨⟨⟨fun v => gi x v, fun k hk => ?_, ?_⟩, fun y hy => ?_⟩, ?_⟩
  · have := hb.s0 k hk
    unfold sl at this
    show gi x (gl l k).b ≤ gi x (gl l k).a + (gl l k).m
    omega
  · rw [hF.cost]
    refine strong hlk (x := fun v => gi x v) (fun k hk h => ?_) hF.cons
    have h1 := hb.tight k hk (by have := hb.u0 k; omega)
    unfold sl at h1
    show gi x (gl l k).b = gi x (gl l k).a + (gl l k).m
    omega
  · rw [hF.cost]
    exact weak hlk hy hF.u0 hF.cons
  · rw [hF.cost]; omega
/-- What Most returns, of a net that is asked. -/
theorem most_facts {n : Nat} {l : List Lk} {w : List Int} (ha : askedI n l w = 0) (hn : n ≤ 12) (hl : l.length ≤ 60) : ∃ r, MostP 2000000 n l w = some r ∧
    ((r = (0, 9) ∧ (solutionL n l).2 = false) ∨ (r = (0, 5) ∧ (solutionL n l).2 = true ∧ Cut n l w) ∨
     ∃ a u, r = (a, 0) ∧ (solutionL n l).2 = true ∧ (∀ k : Nat, k < l.length → 0 ≤ gi u k) ∧ (∀ v : Nat, v < n → net l u v = gi w v) ∧ MaxAt n l w a ∧ -4000000000000000000 ≤ a ∧ a ≤ 4000000000000000000) := by
  obtain ⟨hok, hw, hwb, hsum⟩ := asked_facts ha
  have hS := netOk_lk hok hn
  obtain ⟨r, hr, hc⟩ := best_facts ha hn
  refine ⟨mostV l r, by unfold MostP; rw [if_pos ha, Int.toNat_natCast, hr]; rfl, ?_⟩
  rcases hc with ⟨rfl, h1⟩ | ⟨rfl, h1, h2⟩ | ⟨u, x, rfl, h1, h2⟩
  · exact .inl ⟨rfl, h1⟩
  · exact .inr (.inl ⟨rfl, h1, h2⟩)
  · obtain ⟨m1, m2⟩ := best_max hS hl hw hwb h2
    exact .inr (.inr ⟨costI l u, u, rfl, h1, fun k _ => h2.u0 k, h2.cons, m1, m2⟩)
def pos (S : List Int) (j : Nat) : Nat := (idxN S j).length
theorem settled_less {n : Nat} {l : List Lk} (hr : ∀ k ∈ l, InR n k) : ∀ (r : Nat) (x : List Int), x.length = n → ∀ v : Int, 0 ≤ v → gi (settledN l r x).1 v ≤ gi x v
  | 0, x, _, v, _ => Int.le_refl _
  | r + 1, x, hx, v, hv => by
    have h1 := (fold_less l (x, false) hx hr).1 v hv
    have hlen : (roundOf l x).1.length = n := by unfold roundOf; rw [foldl_relax_length]; exact hx
    unfold settledN
    split
    · exact Int.le_trans (settled_less hr r _ hlen v hv) h1
    · exact h1
/-- The bounds from a node, of a net with a solution. -/
theorem bounds_facts {n : Nat} {l : List Lk} {s : Int} (hok : NetOk n l) {p : Int → Int} (hp : ∀ v, -1000000000000000 ≤ p v) (hp0 : ∀ v, p v ≤ 0) (hf : ∀ k ∈ l, p k.b ≤ p k.a + k.m) (hs0 : 0 ≤ s) (hs1 : s < n) :
    gi (boundsL n l s) s = 0 ∧ (∀ v : Int, 0 ≤ v → v < n → gi (boundsL n l s) v = free ∨ (p v - p s ≤ gi (boundsL n l s) v ∧ gi (boundsL n l s) v ≤ 343597383680000)) ∧
    ∀ k ∈ l, gi (boundsL n l s) k.a = free ∨ gi (boundsL n l s) k.b ≤ gi (boundsL n l s) k.a + k.m := by
  have hk : ∀ k ∈ l, InR n k ∧ (-17179869184 ≤ k.m ∧ k.m ≤ 17179869184) ∧ p k.b ≤ p k.a + k.m := fun k hk => ⟨(hok.lk k hk).1, (hok.lk k hk).2.2, hf k hk⟩
  have hn2 := hok.n2
  obtain ⟨_, _, h3⟩ := bounds_riter (l := l) hp hp0 hok.l1 (by omega) hk hs0 hs1
  have hc : -1000000000000000 ≤ -(p s) := by have := hp0 s; omega
  have h0 : Gd n p (-(p s)) 0 (si (List.replicate n free) s 0) := by
    refine ⟨by simp [si], fun v v0 v1 => ?_⟩
    rw [start_gi hs0 hs1 v v0 v1]
    split
    · rename_i e; subst e; right; omega
    · exact .inl rfl
  have hfix := riter_fixed hp hc hok.l1 (by omega) hk h0
  have hflag := settled_flag hp hc hok.l1 hk (n + 1) 0 _ (by simpa using h0) (by omega) ⟨n, by omega, hfix⟩
  have e : boundsL n l s = (settledN l (n + 1) (si (List.replicate n free) s 0)).1 := by
    unfold boundsL settled
    rw [show (si (List.replicate n free) s 0).length = n by simp [si]]
  have hle := settled_less (n := n) (fun k hk2 => (hok.lk k hk2).1) (n + 1) (si (List.replicate n free) s 0) (by simp [si]) s hs0
  rw [start_gi hs0 hs1 s hs0 hs1, if_pos rfl, ← e] at hle
  have hval : ∀ v : Int, 0 ≤ v → v < n → gi (boundsL n l s) v = free ∨ (p v - p s ≤ gi (boundsL n l s) v ∧ gi (boundsL n l s) v ≤ 343597383680000) := by
    intro v v0 v1
    rcases h3.val v v0 v1 with h | h
    · exact .inl h
    · right; omega
  refine ⟨?_, hval, fun k hk2 => ?_⟩
  · rcases hval s hs0 hs1 with h | h
    · rw [h] at hle; unfold free at hle; omega
    · omega
  · have h4 := settledN_true l _ _ hflag k hk2
    rw [← e] at h4
    rcases h4 with h4 | h4
    · exact .inl h4
    · obtain ⟨⟨a0, a1, b0, b1⟩, _, m1, m2⟩ := hok.lk k hk2
      rcases hval k.a a0 a1 with h5 | h5
      · exact .inl h5
      · right
        have q1 := hp k.a
        have q2 := hp0 s
        have q3 := hp0 k.a
        have q4 := hp s
        unfold overB at h4
        rw [wrap_in (by omega)] at h4
        simpa using h4
/-- A walk from s, and its sum. -/
inductive Wk (l : List Lk) (s : Int) : Int → Int → Prop
  | nil : Wk l s s 0
  | snoc {k : Lk} {c : Int} : Wk l s k.a c → k ∈ l → Wk l s k.b (c + k.m)
/-- A node is reached by tight links. -/
inductive TR (l : List Lk) (d : List Int) (s : Int) : Int → Prop
  | nil : TR l d s s
  | snoc {k : Lk} : TR l d s k.a → k ∈ l → gi d k.a ≠ free → gi d k.b = gi d k.a + k.m → TR l d s k.b
section
variable {n : Nat} {l : List Lk} {p : Int → Int} {c s : Int}
def WkOk (n : Nat) (l : List Lk) (s : Int) (d : List Int) : Prop := ∀ v : Int, 0 ≤ v → v < n → gi d v = free ∨ Wk l s v (gi d v)
theorem fold_wk (hp : ∀ v, -1000000000000000 ≤ p v) (hc : -1000000000000000 ≤ c) : ∀ (r : List Lk) (j : Nat) (d : List Int), Gd n p c j d → j + r.length ≤ 20000 → (∀ k ∈ r, k ∈ l ∧ InR n k ∧ (-17179869184 ≤ k.m ∧ k.m ≤ 17179869184) ∧ p k.b ≤ p k.a + k.m) → WkOk n l s d → WkOk n l s (r.foldl rrelax d)
  | [], _, _, _, _, _, h => h
  | k :: r, j, d, hg, hj, hk, h => by
    simp only [List.length_cons] at hj
    obtain ⟨k1, k2, k3, k4⟩ := hk k (by simp)
    have h1 := rrelax_gd hp hc hg (by omega) k2 k3 k4
    rw [List.foldl_cons]
    refine fold_wk hp hc r (j + 1) _ h1 (by omega) (fun q hq => hk q (by simp [hq])) fun v v0 v1 => ?_
    rw [rrelax_gi hp hc hg (by omega) k2 k3 v v0]
    by_cases e : v = k.b ∧ gi d k.a ≠ free ∧ gi d k.a + k.m < gi d k.b
    · rw [if_pos e, e.1]
      right
      rcases h k.a k2.1 k2.2.1 with h2 | h2
      · exact absurd h2 e.2.1
      · exact .snoc h2 k1
    · rw [if_neg e]
      exact h v v0 v1
theorem riter_wk (hp : ∀ v, -1000000000000000 ≤ p v) (hc : -1000000000000000 ≤ c) (hl : l.length ≤ 260) (hk : ∀ k ∈ l, InR n k ∧ (-17179869184 ≤ k.m ∧ k.m ≤ 17179869184) ∧ p k.b ≤ p k.a + k.m) {d : List Int} (h : Gd n p c 0 d) (hw : WkOk n l s d) : ∀ (r : Nat), r ≤ 60 → WkOk n l s (riter l r d)
  | 0, _ => hw
  | r + 1, hr => by
    rw [riter_succ]
    exact fold_wk hp hc l (r * 260) _ (riter_gd hp hc hl hk h r (by omega)) (by omega) (fun k hm => ⟨hm, hk k hm⟩) (riter_wk hp hc hl hk h hw r (by omega))
end
/-- The bounds from a node of a net with a solution. -/
structure BndOk (n : Nat) (l : List Lk) (s : Int) (d : List Int) : Prop where
  at_ : gi d s = 0
  len : d.length = n
  hi : ∀ v : Int, 0 ≤ v → v < n → gi d v = free ∨ (-1000000000000000 ≤ gi d v ∧ gi d v ≤ 343597383680000)
  fix : ∀ k ∈ l, gi d k.a = free ∨ gi d k.b ≤ gi d k.a + k.m
  tr : ∀ v : Int, 0 ≤ v → v < n → gi d v ≠ free → TR l d s v
theorem wk_le {n : Nat} {l : List Lk} {s : Int} {d : List Int} (hin : ∀ k ∈ l, InR n k ∧ -17179869184 ≤ k.m ∧ k.m ≤ 17179869184) (h0 : gi d s = 0) (hhi : ∀ v : Int, 0 ≤ v → v < n → gi d v = free ∨ gi d v ≤ 343597383680000) (hfix : ∀ k ∈ l, gi d k.a = free ∨ gi d k.b ≤ gi d k.a + k.m) {v c : Int} (h : Wk l s v c) : (gi d v ≠ free ∧ gi d v ≤ c) ∧ (c = gi d v → TR l d s v) := by
  induction h with
  | nil => exact ⟨⟨by rw [h0]; decide, by rw [h0]; exact Int.le_refl _⟩, fun _ => .nil⟩
  | snoc hw hk ih =>
    rename_i k c
    obtain ⟨⟨i1, i2⟩, i3⟩ := ih
    obtain ⟨⟨a0, a1, b0, b1⟩, m1, m2⟩ := hin k hk
    have h1 : gi d k.b ≤ gi d k.a + k.m := (hfix k hk).resolve_left i1
    have h2 := (hhi k.a a0 a1).resolve_left i1
    refine ⟨⟨fun e => by rw [e] at h1; unfold free at h1; omega, by omega⟩, fun e => .snoc (i3 (by omega)) hk i1 (by omega)⟩
theorem bnd_ok {n : Nat} {l : List Lk} {s : Int} (hok : NetOk n l) (hsol : (solutionL n l).2 = true) (hs0 : 0 ≤ s) (hs1 : s < n) : BndOk n l s (rboundsL n l s) := by
  have hpot := solution_pot hok hsol
  have hlow := solution_low hok hsol
  obtain ⟨e1, _⟩ := bounds_same hok hsol hs0 hs1
  obtain ⟨q1, q2, q3⟩ := bounds_facts (s := s) hok hpot.lo hpot.hi hpot.fit hs0 hs1
  rw [e1] at q1 q2 q3
  have hn2 := hok.n2
  have hk : ∀ k ∈ l, InR n k ∧ (-17179869184 ≤ k.m ∧ k.m ≤ 17179869184) ∧ gi (solutionL n l).1 k.b ≤ gi (solutionL n l).1 k.a + k.m := fun k hk => ⟨(hok.lk k hk).1, (hok.lk k hk).2.2, hpot.fit k hk⟩
  have hhs := hpot.hi s
  have hls := hlow s hs0 hs1
  have h0 : Gd n (fun v => gi (solutionL n l).1 v) (-(gi (solutionL n l).1 s)) 0 (si (List.replicate n free) s 0) := by
    refine ⟨by simp [si], fun v v0 v1 => ?_⟩
    rw [start_gi hs0 hs1 v v0 v1]
    split
    · rename_i e; subst e; right; omega
    · exact .inl rfl
  have hw : WkOk n l s (rboundsL n l s) := by
    refine riter_wk (p := fun v => gi (solutionL n l).1 v) hpot.lo (c := -(gi (solutionL n l).1 s)) (by change gi (solutionL n l).1 s ≤ 0 at hhs; omega) hok.l1 hk h0 (fun v v0 v1 => ?_) n (by omega)
    rw [start_gi hs0 hs1 v v0 v1]
    split
    · rename_i e; subst e; exact .inr .nil
    · exact .inl rfl
  have hle : ∀ v : Int, 0 ≤ v → v < n → gi (rboundsL n l s) v = free ∨ gi (rboundsL n l s) v ≤ 343597383680000 := fun v v0 v1 => (q2 v v0 v1).imp id (fun h => h.2)
  refine ⟨q1, ?_, fun v v0 v1 => (q2 v v0 v1).imp id (fun h => ⟨?_, h.2⟩), q3, fun v v0 v1 hne => ?_⟩
  · rw [← e1]; exact boundsL_length n l s
  · have h1 := h.1
    have h2 := hlow v v0 v1
    change gi (solutionL n l).1 v - gi (solutionL n l).1 s ≤ _ at h1
    change gi (solutionL n l).1 s ≤ 0 at hhs
    omega
  · have hin : ∀ k ∈ l, InR n k ∧ -17179869184 ≤ k.m ∧ k.m ≤ 17179869184 := fun k hk => ⟨(hok.lk k hk).1, (hok.lk k hk).2.2⟩
    exact (wk_le hin q1 hle q3 ((hw v v0 v1).resolve_left hne)).2 rfl
section
variable {n : Nat} {rl : List Lk} {d : List Int} {s : Int}
end
theorem lnew {w w' : World} {o : Obj} (hb : Below (w.alloc o).heap.size (w.alloc o) w') : w'.heap[w.heap.size]? = some o := lift0 hb (heap_alloc_new w o)
theorem two {w : World} {p : Nat} {a b : Value} {t : TypeId} (h : w.heap[p]? = some (.cells #[a, b] t (0, 0))) : w.cell? ⟨p, 0, none⟩ = some a ∧ w.cell? ⟨p, 1, none⟩ = some b ∧ p < w.heap.size :=
  ⟨by unfold World.cell?; simp [h], by unfold World.cell?; simp [h], (Array.getElem?_eq_some_iff.1 h).1⟩
def consR (n : Int) (l : List Lk) : Bool × Int := if checkL n l ≠ 0 then (false, checkL n l) else ((solutionL n.toNat l).2, 0)
set_option maxRecDepth 100000 in
set_option maxHeartbeats 1000000 in
theorem Consistent_any (n : Int) (A : Option Addr) (c : Nat) (l : List Lk) (w : World) (hl : l.length ≤ 9223372036854775807) (h : LksAt w A l) :
    Calls Tryz.prog 13 #[.agg #[.int .i64 n, .slice A l.length c]] w fun e w' => e = .returned (.tuple #[.bool (consR n l).1, .int .i64 (consR n l).2]) ∧ Below w.heap.size w w' := by
  have H := Lib.hid h
  have HK := Lib.hid (check_any n A c l _ hl (h.alloc (.cells #[.int .i64 n, .slice A l.length c] 24)))
  by_cases hc : checkL n l = 0
  · have HE := Lib.hid (show consR n l = ((solutionL n.toNat l).2, 0) by unfold consR; rw [if_neg (by simpa using hc)])
    have hok := check_ok hc
    obtain ⟨N, rfl⟩ : ∃ N : Nat, n = N := ⟨n.toNat, by have := hok.n1; omega⟩
    rw [hc] at HK
    rw [Int.toNat_natCast] at HE
    have hr : ∀ k ∈ l, InR N k := fun k hk => (hok.lk k hk).1
    have hn := hok.n2
    have hl1 := hok.l1
    have HS := Lib.hid (show ∀ W, Below w.heap.size w W → Calls Tryz.prog 35 #[.int .i64 (N : Int), .slice A l.length c] W fun e w' => (∃ v, e = .returned (.tuple #[v, .bool (solutionL N l).2])) ∧ Below W.heap.size W w' from fun W hW => by
      cases hy : (solutionL N l).2
      · exact (solution_no N A c l W (by omega) (by omega) (h.below hW) hr hy).mono fun e w' ⟨h1, h2⟩ => ⟨⟨_, h1⟩, h2⟩
      · exact (solution_yes N A c l W (by omega) (by omega) (h.below hW) hr hy).mono fun e w' ⟨g, h1, _, _, h2⟩ => ⟨⟨_, h1⟩, h2⟩)
    clear h hc hok hr
    generalize (solutionL N l).2 = y at *
    go_enter Tryz.func13, Tryz.ntmps13
    go_wp2_with (first | (go_at_call 25; refine HK.out.mono ?_; rintro e w1 ⟨rfl, hb⟩; have HB1 := Lib.hid (below_trans (bel : Below w.heap.size w (w.alloc _)) hb); obtain ⟨c0, c1, lc⟩ := two (lnew hb); clear hb) | (go_at_call 35; refine (HS.out _ HB1.out).mono ?_; rintro e w2 ⟨⟨v, rfl⟩, hb⟩; have HB2 := Lib.hid (below_trans HB1.out hb); clear hb))
    go_ret2
    exact ⟨by rw [HE.out]; rfl, HB2.out⟩
  · have HE := Lib.hid (show consR n l = (false, checkL n l) by unfold consR; rw [if_pos hc])
    have t : (checkL n l != 0) = true := by rw [bne_iff_ne]; exact hc
    generalize checkL n l = ck at *
    clear h hc
    go_enter Tryz.func13, Tryz.ntmps13
    go_wp2_with (first | (go_at_call 25; refine HK.out.mono ?_; rintro e w1 ⟨rfl, hb⟩; have HB1 := Lib.hid (below_trans (bel : Below w.heap.size w (w.alloc _)) hb); clear hb))
    go_ret2
    exact ⟨by rw [HE.out]; rfl, HB1.out⟩
end Go.Proofs.YtmhiiomejopaoaaGreatDoor
