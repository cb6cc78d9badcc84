/- Plain facts on systems of differences: bounds and the reference's bounds are one. -/
import Derived.Test.YtmhiiomejopaoaaS2
namespace Go.Proofs.Ytmhiiomejopaoaa
set_option linter.all false
open Go.RowKit
set_option maxRecDepth 100000

section
variable {n : Nat} {l : List Lk} {p : Int → Int} {c : Int}
theorem mid_fold {S : Nat → Bool} {t : Nat} {e : Int} (hp : ∀ v, -1000000000000000 ≤ p v) (hc : -1000000000000000 ≤ c) (hl : ∀ q ∈ l, InR n q) (ht : t < n) (hS : S t = false) :
    ∀ (r : List Lk) (j : Nat) (d : List Int) (dn : List Lk), (∀ k ∈ r, k ∈ l ∧ (-17179869184 ≤ k.m ∧ k.m ≤ 17179869184) ∧ p k.b ≤ p k.a + k.m) → Gd n p c j d → j + r.length ≤ 20000 → Mid n l p S t e d →
      (∀ q ∈ dn, InR n q ∧ (q.a = t → gi d q.b ≤ gi d t + q.m ∧ gi d q.b ≠ free)) →
      Mid n l p S t e (r.foldl rrelax d) ∧ ∀ q ∈ dn ++ r, q.a = t → gi (r.foldl rrelax d) q.b ≤ gi (r.foldl rrelax d) t + q.m ∧ gi (r.foldl rrelax d) q.b ≠ free
  | [], j, d, dn, _, _, _, h, hd => ⟨h, fun q hq => (hd q (by simpa using hq)).2⟩
  | k :: r, j, d, dn, hk, hg, hj, h, hd => by
    simp only [List.length_cons] at hj
    obtain ⟨k1, k2, k3⟩ := hk k (by simp)
    have hin := hl k k1
    obtain ⟨s1, s2, s3⟩ := mid_step hp hc hg (by omega) hin k2 k3 hl ht hS k1 h
    have hg2 := rrelax_gd hp hc hg (by omega) hin k2 k3
    have ih := mid_fold hp hc hl ht hS r (j + 1) (rrelax d k) (dn ++ [k]) (fun q hq => hk q (by simp [hq])) hg2 (by omega) s1 (fun q hq => by
      rcases List.mem_append.1 hq with hq | hq
      · obtain ⟨q1, q2⟩ := hd q hq
        refine ⟨q1, fun e1 => ?_⟩
        obtain ⟨q3, q4⟩ := q2 e1
        obtain ⟨a0, a1, b0, b1⟩ := q1
        have h1 := s3 q.b b0
        have h2 : gi (rrelax d k) t = gi d t := by have := h.at_.2; have := s1.at_.2; omega
        rw [h2]
        refine ⟨by omega, ?_⟩
        rcases hg.val q.b b0 b1 with e2 | e2
        · exact absurd e2 q4
        · unfold free; omega
      · obtain rfl := List.mem_singleton.1 hq
        exact ⟨hin, s2⟩)
    rw [List.foldl_cons]
    refine ⟨ih.1, fun q hq => ih.2 q ?_⟩
    simp only [List.mem_append, List.mem_cons, List.append_assoc, List.mem_singleton, List.cons_append, List.nil_append] at hq ⊢
    exact hq
theorem fold_fix : ∀ (r : List Lk) (d : List Int), (∀ k ∈ r, rrelax d k = d) → r.foldl rrelax d = d
  | [], _, _ => rfl
  | k :: r, d, h => by rw [List.foldl_cons, h k (by simp)]; exact fold_fix r d (fun q hq => h q (by simp [hq]))
theorem fin_fix {S : Nat → Bool} {j : Nat} {d : List Int} (hp : ∀ v, -1000000000000000 ≤ p v) (hc : -1000000000000000 ≤ c) (hg : Gd n p c j d) (hj : j ≤ 20000) (hk : ∀ k ∈ l, InR n k ∧ (-17179869184 ≤ k.m ∧ k.m ≤ 17179869184) ∧ p k.b ≤ p k.a + k.m)
    (h : Fin_ n l p S d) (hno : ∀ u : Nat, u < n → S u = false → gi d u = free) : l.foldl rrelax d = d := by
  refine fold_fix l d fun k hkl => ?_
  obtain ⟨⟨a0, a1, b0, b1⟩, k2, k3⟩ := hk k hkl
  have ea : ((k.a.toNat : Nat) : Int) = k.a := by omega
  have hpa := hp k.a
  cases hs : S k.a.toNat
  · have := hno k.a.toNat (by omega) hs
    rw [ea] at this
    exact rrelax_no (by rw [this]; unfold free; omega)
  · obtain ⟨t1, t2⟩ := h.two k hkl hs
    have hf := h.fin k.a.toNat (by omega) hs
    rw [ea] at hf
    rcases hg.val k.a a0 a1 with e | e
    · exact absurd e hf
    · rw [rrelax_yes (by omega), wrap_in (by omega)]
      rw [if_neg (by omega)]
      exact si_same b0 (by rw [hg.len]; exact b1)
theorem round_fin {S : Nat → Bool} {j : Nat} {d : List Int} (hp : ∀ v, -1000000000000000 ≤ p v) (hc : -1000000000000000 ≤ c) (hg : Gd n p c j d) (hj : j + l.length ≤ 20000) (hk : ∀ k ∈ l, InR n k ∧ (-17179869184 ≤ k.m ∧ k.m ≤ 17179869184) ∧ p k.b ≤ p k.a + k.m)
    (h : Fin_ n l p S d) : l.foldl rrelax d = d ∨ ∃ S', Fin_ n l p S' (l.foldl rrelax d) ∧ cnt S n + 1 ≤ cnt S' n := by
  by_cases hex : ∃ u : Nat, u < n ∧ (S u = false ∧ gi d u ≠ free)
  · right
    obtain ⟨t, ht, ⟨hS, hf⟩, hmin⟩ := least_of (fun u => S u = false ∧ gi d u ≠ free) (fun u => gi d u - p u) n hex
    have hmid : Mid n l p S t (gi d t - p t) d := ⟨h, fun u hu hsu => by
      by_cases e : gi d u = free
      · exact .inl e
      · exact .inr (hmin u hu ⟨hsu, e⟩), hf, rfl⟩
    obtain ⟨m1, m2⟩ := mid_fold hp hc (fun q hq => (hk q hq).1) ht hS l j d [] (fun k hkl => ⟨hkl, (hk k hkl).2⟩) hg hj hmid (by simp)
    refine ⟨fun v => S v || v == t, ⟨?_, ?_, ?_⟩, ?_⟩
    · intro v u hv hu hsv hsu
      simp only [Bool.or_eq_false_iff, beq_eq_false_iff_ne, ne_eq] at hsu
      simp only [Bool.or_eq_true, beq_iff_eq] at hsv
      rcases hsv with hsv | rfl
      · exact m1.f.one v u hv hu hsv hsu.1
      · refine ⟨m1.at_.1, ?_⟩
        rcases m1.low u hu hsu.1 with e | e
        · exact .inl e
        · have := m1.at_.2
          exact .inr (by omega)
    · intro v hv hsv
      simp only [Bool.or_eq_true, beq_iff_eq] at hsv
      rcases hsv with hsv | rfl
      · exact m1.f.fin v hv hsv
      · exact m1.at_.1
    · intro q hq hsq
      simp only [Bool.or_eq_true, beq_iff_eq] at hsq
      obtain ⟨⟨a0, a1, b0, b1⟩, _⟩ := hk q hq
      rcases hsq with hsq | e1
      · exact m1.f.two q hq hsq
      · have e2 : q.a = t := by omega
        have := m2 q (by simpa using hq) e2
        rw [e2]
        exact this
    · exact cnt_more (fun i hi => by simp [hi]) hS (by simp) n ht
  · left
    refine fin_fix hp hc hg (by omega) hk h fun u hu hsu => ?_
    by_cases e : gi d u = free
    · exact e
    · exact absurd ⟨u, hu, hsu, e⟩ hex
theorem riter_fix {j : Nat} {d : List Int} (h : l.foldl rrelax (riter l j d) = riter l j d) : ∀ i, j ≤ i → riter l i d = riter l j d := by
  intro i
  induction i with
  | zero => intro hi; rw [show j = 0 by omega]
  | succ i ih =>
    intro hi
    by_cases e : j = i + 1
    · rw [e]
    · rw [riter_succ, ih (by omega), h]
theorem riter_settles (hp : ∀ v, -1000000000000000 ≤ p v) (hc : -1000000000000000 ≤ c) (hl : l.length ≤ 260) (hn : n ≤ 50) (hk : ∀ k ∈ l, InR n k ∧ (-17179869184 ≤ k.m ∧ k.m ≤ 17179869184) ∧ p k.b ≤ p k.a + k.m) {d : List Int} (h : Gd n p c 0 d) :
    ∀ r, r ≤ n → l.foldl rrelax (riter l r d) = riter l r d ∨ ∃ S, Fin_ n l p S (riter l r d) ∧ r ≤ cnt S n
  | 0, _ => .inr ⟨fun _ => false, ⟨fun v u _ _ h => by (cases h), fun v _ h => by (cases h), fun k _ h => by (cases h)⟩, Nat.zero_le _⟩
  | r + 1, hr => by
    rcases riter_settles hp hc hl hn hk h r (by omega) with e | ⟨S, hS, hcnt⟩
    · left
      have := riter_fix e (r + 1) (by omega)
      rw [this, e]
    · have hg := riter_gd hp hc hl hk h r (by omega)
      rcases round_fin hp hc hg (by omega) hk hS with e | ⟨S', h1, h2⟩
      · left
        have := riter_fix e (r + 1) (by omega)
        rw [this, e]
      · right
        exact ⟨S', by rw [riter_succ]; exact h1, by omega⟩
theorem riter_fixed (hp : ∀ v, -1000000000000000 ≤ p v) (hc : -1000000000000000 ≤ c) (hl : l.length ≤ 260) (hn : n ≤ 50) (hk : ∀ k ∈ l, InR n k ∧ (-17179869184 ≤ k.m ∧ k.m ≤ 17179869184) ∧ p k.b ≤ p k.a + k.m) {d : List Int} (h : Gd n p c 0 d) : l.foldl rrelax (riter l n d) = riter l n d := by
  rcases riter_settles hp hc hl hn hk h n (Nat.le_refl _) with e | ⟨S, hS, hcnt⟩
  · exact e
  · refine fin_fix hp hc (riter_gd hp hc hl hk h n (by omega)) (by omega) hk hS fun u hu hsu => ?_
    have := cnt_full S n hcnt u hu
    rw [hsu] at this
    cases this
theorem start_gi {n : Nat} {s : Int} (hs0 : 0 ≤ s) (hs1 : s < n) : ∀ v : Int, 0 ≤ v → v < n → gi (si (List.replicate n free) s 0) v = if v = s then 0 else free := by
  intro v h0 h1
  rw [gi_set_eq hs0 (by simpa using hs1) h0]
  split
  · rfl
  · simp only [gi, List.getD_eq_getElem?_getD, List.getElem?_replicate]
    rw [if_pos (by omega)]
    rfl
theorem bounds_riter {s : Int} (hp : ∀ v, -1000000000000000 ≤ p v) (hp0 : ∀ v, p v ≤ 0) (hl : l.length ≤ 260) (hn : n ≤ 50) (hk : ∀ k ∈ l, InR n k ∧ (-17179869184 ≤ k.m ∧ k.m ≤ 17179869184) ∧ p k.b ≤ p k.a + k.m) (hs0 : 0 ≤ s) (hs1 : s < n) :
    boundsL n l s = rboundsL n l s ∧ l.foldl rrelax (boundsL n l s) = boundsL n l s ∧ Gd n p (-(p s)) 20000 (boundsL n l s) := by
  have h0 : Gd n p (-(p s)) 0 (si (List.replicate n free) s 0) := by
    refine ⟨by simp [si], fun v v0 v1 => ?_⟩
    rw [start_gi hs0 hs1 v v0 v1]
    split
    · rename_i e
      subst e
      right; omega
    · exact .inl rfl
  have hc : -1000000000000000 ≤ -(p s) := by have := hp0 s; omega
  have hfix := riter_fixed hp hc hl hn hk h0
  obtain ⟨j, j1, j2, j3⟩ := settledN_riter hp hc hl hk (n + 1) 0 (si (List.replicate n free) s 0) (by simpa using h0) (by omega)
  have e : boundsL n l s = riter l j (si (List.replicate n free) s 0) := by
    unfold boundsL settled
    rw [show (si (List.replicate n free) s 0).length = n by simp [si]]
    exact j2
  have e2 : riter l j (si (List.replicate n free) s 0) = riter l n (si (List.replicate n free) s 0) := by
    by_cases hjn : n ≤ j
    · exact riter_fix hfix j hjn
    · rcases j3 with e3 | e3
      · omega
      · exact (riter_fix e3 n (by omega)).symm
  have e3 : boundsL n l s = riter l n (si (List.replicate n free) s 0) := e.trans e2
  refine ⟨e3, by rw [e3]; exact hfix, ?_⟩
  rw [e3]
  exact (riter_gd hp hc hl hk h0 n (by omega)).mono (by omega)
end
theorem bounds_same {n : Nat} {l : List Lk} {s : Int} (hok : NetOk n l) (h : (solutionL n l).2 = true) (hs0 : 0 ≤ s) (hs1 : s < n) :
    boundsL n l s = rboundsL n l s ∧ ∀ v : Int, 0 ≤ v → v < n → gi (boundsL n l s) v = free ∨ gi (boundsL n l s) v < free := by
  have hpot := solution_pot hok h
  have hk : ∀ k ∈ l, InR n k ∧ (-17179869184 ≤ k.m ∧ k.m ≤ 17179869184) ∧ gi (solutionL n l).1 k.b ≤ gi (solutionL n l).1 k.a + k.m := fun k hk => ⟨(hok.lk k hk).1, (hok.lk k hk).2.2, hpot.fit k hk⟩
  obtain ⟨h1, _, h3⟩ := bounds_riter (p := fun v => gi (solutionL n l).1 v) hpot.lo hpot.hi hok.l1 (by have := hok.n2; omega) hk hs0 hs1
  refine ⟨h1, fun v v0 v1 => ?_⟩
  rcases h3.val v v0 v1 with e | e
  · exact .inl e
  · right; unfold free; omega
end Go.Proofs.Ytmhiiomejopaoaa
