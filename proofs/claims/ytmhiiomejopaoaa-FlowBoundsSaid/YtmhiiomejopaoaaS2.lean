/- Plain facts on systems of differences: bounds settle. -/
import Derived.Test.YtmhiiomejopaoaaS1
namespace Go.Proofs.Ytmhiiomejopaoaa
set_option linter.all false
open Go.RowKit
set_option maxRecDepth 100000

/-- Values that bounds pass through, behind j steps. -/
structure Gd (n : Nat) (p : Int → Int) (c : Int) (j : Nat) (d : List Int) : Prop where
  len : d.length = n
  val : ∀ v : Int, 0 ≤ v → v < n → gi d v = free ∨ (p v + c ≤ gi d v ∧ gi d v ≤ (j : Int) * 17179869184)
section
variable {n : Nat} {l : List Lk} {p : Int → Int} {c : Int}
theorem Gd.mono {i j : Nat} {d : List Int} (h : Gd n p c i d) (hij : i ≤ j) : Gd n p c j d :=
  ⟨h.len, fun v h0 h1 => by rcases h.val v h0 h1 with e | e; exact .inl e; exact .inr ⟨e.1, by omega⟩⟩
theorem rrelax_gi {j : Nat} {d : List Int} {k : Lk} (hp : ∀ v, -1000000000000000 ≤ p v) (hc : -1000000000000000 ≤ c) (h : Gd n p c j d) (hj : j ≤ 20000) (hk : InR n k) (hm : -17179869184 ≤ k.m ∧ k.m ≤ 17179869184) :
    ∀ v : Int, 0 ≤ v → gi (rrelax d k) v = if v = k.b ∧ gi d k.a ≠ free ∧ gi d k.a + k.m < gi d k.b then gi d k.a + k.m else gi d v := by
  intro v hv
  obtain ⟨a0, a1, b0, b1⟩ := hk
  have hp1 := hp k.a
  rcases h.val k.a a0 a1 with e | ⟨e1, e2⟩
  · rw [rrelax_no (by rw [e]; unfold free; omega)]
    simp [e]
  · have hne : gi d k.a ≠ free := by unfold free; omega
    rw [rrelax_yes (by omega), wrap_in (by omega)]
    have hlen := h.len
    have := gi_set_eq (z := d) (b := k.b) (v := v) (x := if gi d k.a + k.m < gi d k.b then gi d k.a + k.m else gi d k.b) b0 (by omega) hv
    unfold si at this
    rw [this]
    by_cases e : v = k.b
    · subst e
      by_cases e2 : gi d k.a + k.m < gi d k.b
      · simp [e2, hne]
      · simp [e2]
    · simp [e]
theorem rrelax_gd {j : Nat} {d : List Int} {k : Lk} (hp : ∀ v, -1000000000000000 ≤ p v) (hc : -1000000000000000 ≤ c) (h : Gd n p c j d) (hj : j ≤ 20000) (hk : InR n k) (hm : -17179869184 ≤ k.m ∧ k.m ≤ 17179869184) (hf : p k.b ≤ p k.a + k.m) : Gd n p c (j + 1) (rrelax d k) := by
  refine ⟨by rw [rrelax_length]; exact h.len, fun v h0 h1 => ?_⟩
  rw [rrelax_gi hp hc h hj hk hm v h0]
  split
  · rename_i hh
    obtain ⟨rfl, h2, h3⟩ := hh
    obtain ⟨a0, a1, b0, b1⟩ := hk
    rcases h.val k.a a0 a1 with e | ⟨e1, e2⟩
    · exact absurd e h2
    · right
      constructor <;> omega
  · rcases h.val v h0 h1 with e | e
    · exact .inl e
    · exact .inr ⟨e.1, by omega⟩
/-- The two ways to lower a value are one. -/
theorem relax_rrelax {j : Nat} {d : List Int} {k : Lk} {ch : Bool} (hp : ∀ v, -1000000000000000 ≤ p v) (hc : -1000000000000000 ≤ c) (h : Gd n p c j d) (hj : j ≤ 20000) (hk : InR n k) (hm : -17179869184 ≤ k.m ∧ k.m ≤ 17179869184) : (relax (d, ch) k).1 = rrelax d k := by
  obtain ⟨a0, a1, b0, b1⟩ := hk
  have hp1 := hp k.a
  rcases h.val k.a a0 a1 with e | ⟨e1, e2⟩
  · rw [rrelax_no (by rw [e]; unfold free; omega)]
    simp [relax, e]
  · have hne : gi d k.a ≠ free := by unfold free; omega
    rw [rrelax_yes (by omega)]
    by_cases e3 : wrap64 (gi d k.a + k.m) < gi d k.b
    · simp [relax, overB, hne, e3, si]
    · have hs := si_same (z := d) (b := k.b) b0 (by rw [h.len]; exact b1)
      unfold si at hs
      simp [relax, overB, hne, e3, hs]
theorem fold_rrelax (hp : ∀ v, -1000000000000000 ≤ p v) (hc : -1000000000000000 ≤ c) : ∀ (l : List Lk) (j : Nat) (d : List Int) (ch : Bool), Gd n p c j d → j + l.length ≤ 20000 → (∀ k ∈ l, InR n k ∧ (-17179869184 ≤ k.m ∧ k.m ≤ 17179869184) ∧ p k.b ≤ p k.a + k.m) →
    (l.foldl relax (d, ch)).1 = l.foldl rrelax d ∧ Gd n p c (j + l.length) (l.foldl rrelax d)
  | [], j, d, ch, h, _, _ => ⟨rfl, h⟩
  | k :: l, j, d, ch, h, hj, hk => by
    simp only [List.length_cons] at hj
    obtain ⟨k1, k2, k3⟩ := hk k (by simp)
    have h1 := relax_rrelax (ch := ch) hp hc h (by omega) k1 k2
    have h2 := rrelax_gd hp hc h (by omega) k1 k2 k3
    have ih := fold_rrelax hp hc l (j + 1) (rrelax d k) (relax (d, ch) k).2 h2 (by omega) (fun q hq => hk q (by simp [hq]))
    rw [List.foldl_cons, List.foldl_cons]
    have e : relax (d, ch) k = (rrelax d k, (relax (d, ch) k).2) := by rw [← h1]
    rw [e]
    refine ⟨ih.1, ih.2.mono (by simp; omega)⟩
theorem riter_succ (l : List Lk) (j : Nat) : ∀ (d : List Int), riter l (j + 1) d = l.foldl rrelax (riter l j d) := by
  induction j with
  | zero => intro d; rfl
  | succ j ih => intro d; rw [riter, ih]; rfl
theorem riter_gd (hp : ∀ v, -1000000000000000 ≤ p v) (hc : -1000000000000000 ≤ c) (hl : l.length ≤ 260) (hk : ∀ k ∈ l, InR n k ∧ (-17179869184 ≤ k.m ∧ k.m ≤ 17179869184) ∧ p k.b ≤ p k.a + k.m) {d : List Int} (h : Gd n p c 0 d) : ∀ (r : Nat), r ≤ 60 → Gd n p c (r * 260) (riter l r d)
  | 0, _ => by simpa [riter] using h
  | r + 1, hr => by
    rw [riter_succ]
    have ih := riter_gd hp hc hl hk h r (by omega)
    exact (fold_rrelax hp hc l (r * 260) _ false ih (by omega) hk).2.mono (by omega)
/-- What settled does is a number of rounds. -/
theorem settledN_riter (hp : ∀ v, -1000000000000000 ≤ p v) (hc : -1000000000000000 ≤ c) (hl : l.length ≤ 260) (hk : ∀ k ∈ l, InR n k ∧ (-17179869184 ≤ k.m ∧ k.m ≤ 17179869184) ∧ p k.b ≤ p k.a + k.m) : ∀ (r i : Nat) (d : List Int), Gd n p c (i * 260) d → i + r ≤ 60 →
    ∃ j, j ≤ r ∧ (settledN l r d).1 = riter l j d ∧ (j = r ∨ l.foldl rrelax (riter l j d) = riter l j d)
  | 0, i, d, _, _ => ⟨0, Nat.le_refl _, rfl, .inl rfl⟩
  | r + 1, i, d, h, hi => by
    obtain ⟨h1, h2⟩ := fold_rrelax hp hc l (i * 260) d false h (by omega) hk
    unfold settledN
    by_cases hq : (roundOf l d).2 = true
    · rw [if_pos hq]
      have e : (roundOf l d).1 = l.foldl rrelax d := h1
      rw [e]
      obtain ⟨j, j1, j2, j3⟩ := settledN_riter hp hc hl hk r (i + 1) (l.foldl rrelax d) (h2.mono (by omega)) (by omega)
      refine ⟨j + 1, by omega, j2, ?_⟩
      rcases j3 with e | e
      · exact .inl (by omega)
      · exact .inr e
    · rw [if_neg hq]
      have h3 : (l.foldl relax (d, false)).2 = false := by simpa [roundOf] using hq
      have h4 := (fold_still l (d, false) h3).1
      have e : l.foldl rrelax d = d := by rw [← h1, h4]
      refine ⟨0, by omega, ?_, .inr e⟩
      show (roundOf l d).1 = d
      unfold roundOf
      rw [h4]

/-! How many of the first n numbers a test takes. -/
def cnt (P : Nat → Bool) : Nat → Nat
  | 0 => 0
  | k + 1 => cnt P k + if P k then 1 else 0
theorem cnt_le (P : Nat → Bool) : ∀ k, cnt P k ≤ k
  | 0 => Nat.le_refl _
  | k + 1 => by
    have := cnt_le P k
    unfold cnt
    split <;> omega
theorem cnt_full (P : Nat → Bool) : ∀ k, k ≤ cnt P k → ∀ i, i < k → P i = true
  | 0, _, i, h => by omega
  | k + 1, hk, i, h => by
    have h1 := cnt_le P k
    unfold cnt at hk
    cases hp : P k
    · rw [hp] at hk; simp at hk; omega
    · rw [hp] at hk
      simp only [if_true] at hk
      by_cases e : i = k
      · subst e; exact hp
      · exact cnt_full P k (by omega) i (by omega)
theorem cnt_mono {P Q : Nat → Bool} (h : ∀ i, P i = true → Q i = true) : ∀ k, cnt P k ≤ cnt Q k
  | 0 => Nat.le_refl _
  | k + 1 => by
    have := cnt_mono h k
    unfold cnt
    cases hp : P k
    · simp only [Bool.false_eq_true, if_false]; omega
    · rw [h k hp]; simp only [if_true]; omega
theorem cnt_more {P Q : Nat → Bool} (h : ∀ i, P i = true → Q i = true) {v : Nat} (hv : P v = false) (hq : Q v = true) : ∀ k, v < k → cnt P k + 1 ≤ cnt Q k
  | 0, hk => by omega
  | k + 1, hk => by
    unfold cnt
    by_cases e : v = k
    · subst e
      rw [hv, hq]
      have := cnt_mono h v
      simp; omega
    · have := cnt_more h hv hq k (by omega)
      cases hp : P k
      · simp only [Bool.false_eq_true, if_false]; omega
      · rw [h k hp]; simp only [if_true]; omega
/-- A least one among those that a test takes. -/
theorem least_of (P : Nat → Prop) (e : Nat → Int) : ∀ k, (∃ i, i < k ∧ P i) → ∃ i, i < k ∧ P i ∧ ∀ j, j < k → P j → e i ≤ e j
  | 0, h => by obtain ⟨i, hi, _⟩ := h; omega
  | k + 1, h => by
    by_cases h1 : ∃ i, i < k ∧ P i
    · obtain ⟨i, hi, hp, hm⟩ := least_of P e k h1
      by_cases h2 : P k ∧ e k < e i
      · refine ⟨k, by omega, h2.1, fun j hj hpj => ?_⟩
        by_cases e1 : j = k
        · subst e1; omega
        · have := hm j (by omega) hpj; omega
      · refine ⟨i, by omega, hp, fun j hj hpj => ?_⟩
        by_cases e1 : j = k
        · subst e1
          by_cases e2 : e j < e i
          · exact absurd ⟨hpj, e2⟩ h2
          · omega
        · exact hm j (by omega) hpj
    · obtain ⟨i, hi, hp⟩ := h
      have : i = k := by
        by_cases e1 : i = k
        · exact e1
        · exact absurd ⟨i, by omega, hp⟩ h1
      subst this
      refine ⟨i, by omega, hp, fun j hj hpj => ?_⟩
      by_cases e1 : j = i
      · subst e1; omega
      · exact absurd ⟨j, by omega, hpj⟩ h1
/-- S is final: its values are the least, and its links hold. -/
structure Fin_ (n : Nat) (l : List Lk) (p : Int → Int) (S : Nat → Bool) (d : List Int) : Prop where
  one : ∀ v u : Nat, v < n → u < n → S v = true → S u = false → gi d v ≠ free ∧ (gi d u = free ∨ gi d v - p v ≤ gi d u - p u)
  fin : ∀ v : Nat, v < n → S v = true → gi d v ≠ free
  two : ∀ k ∈ l, S k.a.toNat = true → gi d k.b ≤ gi d k.a + k.m ∧ gi d k.b ≠ free
/-- One step within a round: S stays final, and the least of the others stays. -/
structure Mid (n : Nat) (l : List Lk) (p : Int → Int) (S : Nat → Bool) (t : Nat) (e : Int) (d : List Int) : Prop where
  f : Fin_ n l p S d
  low : ∀ u : Nat, u < n → S u = false → gi d u = free ∨ e ≤ gi d u - p u
  at_ : gi d t ≠ free ∧ gi d t - p t = e
theorem mid_step {S : Nat → Bool} {t : Nat} {e : Int} {j : Nat} {d : List Int} {k : Lk} (hp : ∀ v, -1000000000000000 ≤ p v) (hc : -1000000000000000 ≤ c) (hg : Gd n p c j d) (hj : j ≤ 20000) (hk : InR n k) (hm : -17179869184 ≤ k.m ∧ k.m ≤ 17179869184) (hf : p k.b ≤ p k.a + k.m) (hl : ∀ q ∈ l, InR n q) (ht : t < n) (hS : S t = false) (hmem : k ∈ l) (h : Mid n l p S t e d) :
    Mid n l p S t e (rrelax d k) ∧ (k.a = t → gi (rrelax d k) k.b ≤ gi (rrelax d k) t + k.m ∧ gi (rrelax d k) k.b ≠ free) ∧ (∀ v : Int, 0 ≤ v → gi (rrelax d k) v ≤ gi d v) := by
  have hgi := rrelax_gi hp hc hg hj hk hm
  have hin := hk
  obtain ⟨a0, a1, b0, b1⟩ := hk
  have ea : ((k.a.toNat : Nat) : Int) = k.a := by omega
  have eb : ((k.b.toNat : Nat) : Int) = k.b := by omega
  have hval := hg.val
  have hfree : ∀ v : Int, 0 ≤ v → v < n → gi d v ≠ free → gi d v < 1000000000000000 := fun v h0 h1 h2 => by
    rcases hval v h0 h1 with e | e
    · exact absurd e h2
    · omega
  have hle : ∀ v : Int, 0 ≤ v → gi (rrelax d k) v ≤ gi d v := by
    intro v h0
    rw [hgi v h0]
    split
    · rename_i hh; obtain ⟨rfl, _, h3⟩ := hh; omega
    · omega
  -- what turns is no final node, and not t
  have key : gi d k.a ≠ free → gi d k.a + k.m < gi d k.b → S k.a.toNat = false ∧ S k.b.toNat = false ∧ k.b ≠ t ∧ e ≤ gi d k.a + k.m - p k.b := by
    intro h1 h2
    have hsa : S k.a.toNat = false := by
      cases hq : S k.a.toNat
      · rfl
      · have := (h.f.two k hmem hq).1; omega
    have hea : e ≤ gi d k.a - p k.a := by
      rcases h.low k.a.toNat (by omega) hsa with e1 | e1
      · rw [ea] at e1; exact absurd e1 h1
      · rw [ea] at e1; exact e1
    have hsb : S k.b.toNat = false := by
      cases hq : S k.b.toNat
      · rfl
      · have := h.f.one k.b.toNat k.a.toNat (by omega) (by omega) hq hsa
        rw [ea, eb] at this
        rcases this.2 with e1 | e1
        · exact absurd e1 h1
        · omega
    refine ⟨hsa, hsb, ?_, by omega⟩
    intro e1
    have := h.at_.2
    rw [← e1] at this
    omega
  refine ⟨⟨⟨?_, ?_, ?_⟩, ?_, ?_⟩, ?_, hle⟩
  · intro v u hv hu hsv hsu
    have h1 := h.f.one v u hv hu hsv hsu
    rw [hgi v (by omega), hgi u (by omega)]
    have nv : ¬ ((v : Int) = k.b ∧ gi d k.a ≠ free ∧ gi d k.a + k.m < gi d k.b) := by
      rintro ⟨e1, e2, e3⟩
      have := (key e2 e3).2.1
      rw [← e1] at this
      simp at this
      rw [this] at hsv; cases hsv
    rw [if_neg nv]
    refine ⟨h1.1, ?_⟩
    split
    · rename_i hh
      obtain ⟨e1, e2, e3⟩ := hh
      obtain ⟨k1, k2, k3, k4⟩ := key e2 e3
      right
      have h2 := h.f.one v k.a.toNat hv (by omega) hsv k1
      rw [ea] at h2
      rcases h2.2 with e4 | e4
      · exact absurd e4 e2
      · rw [e1]; omega
    · exact h1.2
  · intro v hv hsv
    rw [hgi v (by omega)]
    split
    · rename_i hh
      obtain ⟨e1, e2, e3⟩ := hh
      have := (key e2 e3).2.1
      rw [← e1] at this
      simp at this
      rw [this] at hsv; cases hsv
    · exact h.f.fin v hv hsv
  · intro q hq hsq
    obtain ⟨qa0, qa1, qb0, qb1⟩ := hl q hq
    obtain ⟨h1, h2⟩ := h.f.two q hq hsq
    have na : gi (rrelax d k) q.a = gi d q.a := by
      rw [hgi q.a qa0]
      split
      · rename_i hh
        obtain ⟨e1, e2, e3⟩ := hh
        have := (key e2 e3).2.1
        rw [← e1] at this
        rw [this] at hsq; cases hsq
      · rfl
    have := hle q.b qb0
    rw [na]
    refine ⟨by omega, ?_⟩
    have := hfree q.b qb0 qb1 h2
    unfold free
    omega
  · intro u hu hsu
    rw [hgi u (by omega)]
    split
    · rename_i hh
      obtain ⟨e1, e2, e3⟩ := hh
      right
      have := (key e2 e3).2.2.2
      rw [e1]
      exact this
    · exact h.low u hu hsu
  · rw [hgi t (by omega)]
    split
    · rename_i hh
      obtain ⟨e1, e2, e3⟩ := hh
      exact absurd e1.symm (key e2 e3).2.2.1
    · exact h.at_
  · intro e1
    have hta : gi d k.a ≠ free := by rw [e1]; exact h.at_.1
    have hlt := hfree k.a a0 a1 hta
    have hm1 : gi (rrelax d k) k.b ≤ gi d k.a + k.m := by
      rw [hgi k.b b0]
      split
      · omega
      · rename_i hh
        by_cases h3 : gi d k.a + k.m < gi d k.b
        · exact absurd ⟨rfl, hta, h3⟩ hh
        · omega
    have hm2 : gi (rrelax d k) t = gi d t := by
      rw [hgi t (by omega)]
      split
      · rename_i hh
        obtain ⟨e2, e3, e4⟩ := hh
        exact absurd e2.symm (key e3 e4).2.2.1
      · rfl
    rw [hm2, ← e1]
    refine ⟨hm1, ?_⟩
    unfold free
    omega
end
end Go.Proofs.Ytmhiiomejopaoaa
