/- The flow laws: a flow cut into paths, plain; the words of the cutter; next, take, root; the words of rings. -/
import Derived.Test.YtmhiiomejopaoaaO2
import Derived.Test.YtmhiiomejopaoaaK9
import Derived.Test.YtmhiiomejopaoaaO3
import Derived.Test.YtmhiiomejopaoaaM3
namespace Go.Proofs.Ytmhiiomejopaoaa
set_option linter.all false
open Go.RowKit
set_option maxRecDepth 100000

structure Pa where
  a : Int
  b : Int
  ls : List Int
  u : Int
deriving Inhabited
/-- How many numbers below n are told. -/
def cntB (f : Nat → Bool) : Nat → Nat
  | 0 => 0
  | n + 1 => cntB f n + if f n = true then 1 else 0
theorem cntB_le {f g : Nat → Bool} : ∀ n, (∀ i, i < n → f i = true → g i = true) → cntB f n ≤ cntB g n
  | 0, _ => Nat.le_refl _
  | n + 1, h => by
    have := cntB_le n fun i hi => h i (by omega)
    have h2 := h n (by omega)
    unfold cntB
    by_cases e : f n = true
    · rw [if_pos e, if_pos (h2 e)]; omega
    · rw [if_neg e]; omega
theorem cntB_lt {f g : Nat → Bool} {j : Nat} (hj : f j = false) (hg : g j = true) : ∀ n, j < n → (∀ i, i < n → f i = true → g i = true) → cntB f n < cntB g n
  | 0, h, _ => absurd h (by omega)
  | n + 1, h0, h => by
    unfold cntB
    by_cases e : j = n
    · subst e
      have := cntB_le j fun i hi => h i (by omega)
      rw [hj, if_neg (by simp), if_pos hg]; omega
    · have := cntB_lt hj hg n (by omega) fun i hi => h i (by omega)
      have h2 := h n (by omega)
      by_cases e : f n = true
      · rw [if_pos e, if_pos (h2 e)]; omega
      · rw [if_neg e]; omega
theorem cntB_max (f : Nat → Bool) : ∀ n, cntB f n ≤ n
  | 0 => Nat.le_refl _
  | n + 1 => by
    have := cntB_max f n
    unfold cntB
    split <;> omega
theorem cntB_all {f : Nat → Bool} : ∀ n, cntB f n = n → ∀ i, i < n → f i = true
  | 0, _, i, hi => absurd hi (by omega)
  | n + 1, h, i, hi => by
    have := cntB_max f n
    unfold cntB at h
    by_cases e : f n = true
    · rw [if_pos e] at h
      by_cases e2 : i = n
      · subst e2; exact e
      · exact cntB_all n (by omega) i (by omega)
    · rw [if_neg e] at h; omega
/-- The links of a path are given u units more each. -/
def addP (P : List Int) (u : Int) (s : List Int) : List Int := P.foldl (fun s i => si s i (gi s i + u)) s
theorem addP_len (P : List Int) (u : Int) : ∀ s, (addP P u s).length = s.length := by
  induction P with
  | nil => intro s; rfl
  | cons i P ih => intro s; show (addP P u _).length = _; rw [ih]; simp [si]
theorem addP_snoc (P : List Int) (i u : Int) (s : List Int) : addP (P ++ [i]) u s = si (addP P u s) i (gi (addP P u s) i + u) := by
  unfold addP; rw [List.foldl_append]; rfl
theorem addP_gi {P : List Int} {u : Int} : ∀ {s : List Int}, P.Nodup → (∀ i ∈ P, 0 ≤ i ∧ i < s.length) → ∀ k : Nat, gi (addP P u s) k = gi s k + if (k : Int) ∈ P then u else 0 := by
  induction P with
  | nil => intro s _ _ k; simp [addP]
  | cons i P ih =>
    intro s hn hr k
    obtain ⟨h1, h2⟩ := List.nodup_cons.1 hn
    have hi := hr i (by simp)
    have := ih (s := si s i (gi s i + u)) h2 (fun j hj => by simpa [si] using hr j (by simp [hj])) k
    show gi (addP P u (si s i (gi s i + u))) k = _
    rw [this, gi_set_eq hi.1 hi.2 (by omega)]
    by_cases e : (k : Int) = i
    · subst e
      rw [if_pos rfl, if_neg h1, if_pos (by simp)]
      omega
    · rw [if_neg e]
      by_cases e2 : (k : Int) ∈ P
      · rw [if_pos e2, if_pos (by simp [e2])]
      · rw [if_neg e2, if_neg (by simp [e, e2])]
theorem addP_net {l : List Lk} {s : Int} {P : List Int} {t c u : Int} (h : WI l s P t c) {us : List Int} (hu : us.length = l.length) (v : Int) : net l (addP P u us) v = net l us v + u * (ind t v - ind s v) := by
  induction h with
  | nil => show net l us v = _; rw [Int.sub_self, Int.mul_zero]; omega
  | snoc h1 h2 h3 h4 ih =>
    rename_i P0 v0 c0 i
    rw [addP_snoc, net_si (by rw [addP_len]; exact hu) h2 h3, ih, h4]
    have e : gi (addP P0 u us) i + u - gi (addP P0 u us) i = u := by omega
    rw [e, Int.mul_sub, Int.mul_sub, Int.mul_sub]
    omega
def minU (us : List Int) (P : List Int) : Int := P.foldl (fun n i => if gi us i < n then gi us i else n) 134217728
theorem minU_fold (us : List Int) : ∀ (P : List Int) (n : Int), (P.foldl (fun n i => if gi us i < n then gi us i else n) n ≤ n) ∧ (∀ i ∈ P, P.foldl (fun n i => if gi us i < n then gi us i else n) n ≤ gi us i) ∧ (P.foldl (fun n i => if gi us i < n then gi us i else n) n = n ∨ ∃ i ∈ P, P.foldl (fun n i => if gi us i < n then gi us i else n) n = gi us i)
  | [], n => ⟨Int.le_refl _, fun i hi => by simp at hi, .inl rfl⟩
  | i :: P, n => by
    obtain ⟨h1, h2, h3⟩ := minU_fold us P (if gi us i < n then gi us i else n)
    have e : (i :: P).foldl (fun n i => if gi us i < n then gi us i else n) n = P.foldl (fun n i => if gi us i < n then gi us i else n) (if gi us i < n then gi us i else n) := rfl
    rw [e]
    have hm : (if gi us i < n then gi us i else n) ≤ n ∧ (if gi us i < n then gi us i else n) ≤ gi us i ∧ ((if gi us i < n then gi us i else n) = n ∨ (if gi us i < n then gi us i else n) = gi us i) := by
      split
      · exact ⟨by omega, Int.le_refl _, .inr rfl⟩
      · exact ⟨Int.le_refl _, by omega, .inl rfl⟩
    refine ⟨by omega, fun j hj => ?_, ?_⟩
    · rcases List.mem_cons.1 hj with rfl | hj
      · omega
      · exact h2 j hj
    · rcases h3 with h3 | ⟨j, hj, h3⟩
      · rcases hm.2.2 with hm2 | hm2
        · left; omega
        · right; exact ⟨i, by simp, by omega⟩
      · right; exact ⟨j, by simp [hj], h3⟩
theorem minU_spec {us P : List Int} (hne : P ≠ []) (hp : ∀ i ∈ P, 0 < gi us i ∧ gi us i ≤ 134217728) : 1 ≤ minU us P ∧ minU us P ≤ 134217728 ∧ (∀ i ∈ P, minU us P ≤ gi us i) ∧ ∃ i ∈ P, minU us P = gi us i := by
  obtain ⟨h1, h2, h3⟩ := minU_fold us P 134217728
  have h4 : ∃ i ∈ P, minU us P = gi us i := by
    rcases h3 with h3 | h3
    · obtain ⟨i, hi⟩ := List.exists_mem_of_ne_nil P hne
      refine ⟨i, hi, ?_⟩
      have q1 := h2 i hi
      have q2 := hp i hi
      show P.foldl _ _ = _
      omega
    · exact h3
  obtain ⟨i, hi, e⟩ := h4
  exact ⟨by have := hp i hi; omega, h1, h2, i, hi, e⟩
/-- The nodes of a walk. -/
def nd (l : List Lk) (s : Int) (P : List Int) (j : Nat) : Int := if j = 0 then s else (gl l (gi P ((j - 1 : Nat) : Int))).b
theorem gi_app_left {P Q : List Int} {j : Nat} (h : j < P.length) : gi (P ++ Q) j = gi P j := by
  simp only [gi, List.getD_eq_getElem?_getD, Int.toNat_natCast]
  rw [List.getElem?_append_left h]
theorem gi_app_right {P Q : List Int} (j : Nat) : gi (P ++ Q) ((P.length + j : Nat) : Int) = gi Q j := by
  simp only [gi, List.getD_eq_getElem?_getD, Int.toNat_natCast]
  rw [List.getElem?_append_right (by omega), Nat.add_sub_cancel_left]
theorem nd_app {l : List Lk} {s : Int} {P Q : List Int} {j : Nat} (h : j ≤ P.length) : nd l s (P ++ Q) j = nd l s P j := by
  unfold nd
  by_cases e : j = 0
  · rw [if_pos e, if_pos e]
  · rw [if_neg e, if_neg e, gi_app_left (by omega)]
theorem nd_app_right {l : List Lk} {s t : Int} {P Q : List Int} (ht : nd l s P P.length = t) (j : Nat) : nd l s (P ++ Q) (P.length + j) = nd l t Q j := by
  by_cases e : j = 0
  · subst e
    rw [Nat.add_zero, nd_app (Nat.le_refl _), ht]
    rfl
  · unfold nd
    rw [if_neg (by omega), if_neg e, show P.length + j - 1 = P.length + (j - 1) by omega, gi_app_right]
theorem WI.nodes {l : List Lk} {s : Int} {P : List Int} {t c : Int} (h : WI l s P t c) : nd l s P P.length = t ∧ ∀ j : Nat, j < P.length → (gl l (gi P j)).a = nd l s P j ∧ 0 ≤ gi P j ∧ gi P j < l.length := by
  induction h with
  | nil => exact ⟨rfl, fun j hj => by simp at hj⟩
  | snoc h1 h2 h3 h4 ih =>
    rename_i P0 v0 c0 i
    have hg : gi (P0 ++ [i]) ((P0.length : Nat) : Int) = i := by
      have := gi_app_right (P := P0) (Q := [i]) 0
      rw [Nat.add_zero] at this
      rw [this]; rfl
    refine ⟨?_, fun j hj => ?_⟩
    · unfold nd
      rw [List.length_append, List.length_singleton, if_neg (by omega), Nat.add_sub_cancel, hg]
    · rw [List.length_append, List.length_singleton] at hj
      rw [nd_app (by omega)]
      by_cases e : j = P0.length
      · subst e
        rw [hg, h4, ih.1]
        exact ⟨rfl, h2, h3⟩
      · rw [gi_app_left (by omega)]
        exact ih.2 j (by omega)
/-- No two links begin, or end, at one node. -/
def Once (l : List Lk) (P : List Int) : Prop := ∀ i j : Nat, i < j → j < P.length → (gl l (gi P i)).a ≠ (gl l (gi P j)).a ∧ (gl l (gi P i)).b ≠ (gl l (gi P j)).b
theorem Once.nodup {l : List Lk} {P : List Int} (h : Once l P) : P.Nodup := by
  unfold List.Nodup
  rw [List.pairwise_iff_getElem]
  intro i j hi hj hij e
  have e2 : gi P i = gi P j := by
    simp only [gi, List.getD_eq_getElem?_getD, Int.toNat_natCast, List.getElem?_eq_getElem hi, List.getElem?_eq_getElem hj, Option.getD_some]
    exact e
  exact absurd (by rw [e2]) (h i j hij hj).1
theorem Once.short {N : Nat} {l : List Lk} {P : List Int} (h : Once l P) (hin : ∀ j : Nat, j < P.length → 0 ≤ (gl l (gi P j)).a ∧ (gl l (gi P j)).a < N) : P.length ≤ N := by
  refine Classical.byContradiction fun hn => ?_
  obtain ⟨i, j, h1, h2, h3⟩ := pigeon N (fun j => (gl l (gi P j)).a.toNat) (fun j hj => by have := hin j (by omega); omega)
  have q1 := hin i (by omega)
  have q2 := hin j (by omega)
  exact (h i j h1 (by omega)).1 (by have : (gl l (gi P i)).a.toNat = (gl l (gi P j)).a.toNat := h3; omega)
/-- A walk whose nodes differ, but that the last one may be the first. -/
theorem once_of {l : List Lk} {s t c : Int} {P : List Int} (h : WI l s P t c) (hd : ∀ i j : Nat, i < j → j < P.length → nd l s P i ≠ nd l s P j) (he : ∀ i : Nat, 0 < i → i < P.length → nd l s P i ≠ t) : Once l P := by
  obtain ⟨h1, h2⟩ := h.nodes
  intro i j hij hj
  refine ⟨?_, ?_⟩
  · rw [(h2 i (by omega)).1, (h2 j hj).1]
    exact hd i j hij hj
  · have e : ∀ k : Nat, (gl l (gi P k)).b = nd l s P (k + 1) := fun k => by unfold nd; rw [if_neg (by omega), Nat.add_sub_cancel]
    rw [e, e]
    by_cases ej : j + 1 = P.length
    · rw [ej, h1]
      exact he (i + 1) (by omega) (by omega)
    · exact hd (i + 1) (j + 1) (by omega) (by omega)
structure PaOk (N : Nat) (l : List Lk) (p : Pa) : Prop where
  walk : ∃ c, WI l p.a p.ls p.b c
  u : 1 ≤ p.u ∧ p.u ≤ 134217728
  ne : p.ls ≠ []
  short : p.ls.length ≤ N
  once : Once l p.ls
  from_ : 0 ≤ p.a ∧ p.a < N
  to_ : 0 ≤ p.b ∧ p.b < N
def used (ps : List Pa) (k : Nat) : Int := (ps.map fun p => if (k : Int) ∈ p.ls then p.u else 0).sum
def ends (ps : List Pa) (v : Int) : Int := (ps.map fun p => p.u * (ind p.b v - ind p.a v)).sum
def posB (us : List Int) (k : Nat) : Bool := decide (0 < gi us k)
/-- The state of the cutter: the units left, the paths taken, what both are together. -/
structure Cu (N : Nat) (l : List Lk) (W u0 us : List Int) (ps : List Pa) : Prop where
  len : us.length = l.length
  lo : ∀ k : Nat, k < l.length → 0 ≤ gi us k
  hi : ∀ k : Nat, k < l.length → gi us k ≤ 134217728
  ok : ∀ p ∈ ps, PaOk N l p ∧ (p.a ≠ p.b → gi W p.a < 0 ∧ 0 < gi W p.b)
  sum : ∀ k : Nat, k < l.length → gi us k + used ps k = gi u0 k
  nets : ∀ v : Nat, v < N → net l us v + ends ps v = gi W v
  sgn : ∀ v : Nat, v < N → (gi W v ≤ 0 → net l us v ≤ 0) ∧ (0 ≤ gi W v → 0 ≤ net l us v)
  many : ps.length + cntB (posB us) l.length ≤ l.length
theorem ind_self (a : Int) : ind a a = 1 := if_pos rfl
theorem ind_ne {a b : Int} (h : a ≠ b) : ind a b = 0 := if_neg h
/-- What take does to the state. -/
theorem Cu.take {N : Nat} {l : List Lk} {W u0 us : List Int} {ps : List Pa} (h : Cu N l W u0 us ps) (hlk : ∀ k : Nat, k < l.length → 0 ≤ (gl l k).a ∧ (gl l k).a < N ∧ 0 ≤ (gl l k).b ∧ (gl l k).b < N) {s t c : Int} {P : List Int} (hw : WI l s P t c) (hne : P ≠ []) (ho : Once l P) (hp : ∀ i ∈ P, 0 < gi us i)
    (hst : s ≠ t → (∀ k : Nat, k < l.length → 0 < gi us k → (gl l k).b ≠ s) ∧ (∀ k : Nat, k < l.length → 0 < gi us k → (gl l k).a ≠ t)) :
    Cu N l W u0 (addP P (-(minU us P)) us) (ps ++ [⟨s, t, P, minU us P⟩]) ∧ cntB (posB (addP P (-(minU us P)) us)) l.length < cntB (posB us) l.length ∧ (∀ k : Nat, k < l.length → 0 < gi (addP P (-(minU us P)) us) k → 0 < gi us k) ∧ 1 ≤ minU us P := by
  have hmem := hw.mem
  have hlen : 0 < P.length := by cases P with | nil => exact absurd rfl hne | cons _ _ => simp
  obtain ⟨m1, m2, m3, im, him, me⟩ := minU_spec hne (us := us) fun i hi => ⟨hp i hi, by have := hmem i hi; have := h.hi i.toNat (by omega); rwa [show ((i.toNat : Nat) : Int) = i by omega] at this⟩
  obtain ⟨m, hm⟩ : ∃ m, minU us P = m := ⟨_, rfl⟩
  rw [hm] at m1 m2 m3 me ⊢
  have hg := addP_gi (u := -m) (s := us) ho.nodup fun i hi => by rw [h.len]; exact hmem i hi
  have hlow : ∀ k : Nat, (k : Int) ∈ P → m ≤ gi us k := fun k hk => m3 k hk
  obtain ⟨n1, n2⟩ := hw.nodes
  have hlast : 0 < P.length → (gl l (gi P ((P.length - 1 : Nat) : Int))).b = t := fun h0 => by
    rw [← n1]; unfold nd; rw [if_neg (by omega)]
  have hin : ∀ j : Nat, j < P.length → 0 ≤ (gl l (gi P j)).a ∧ (gl l (gi P j)).a < N ∧ 0 ≤ (gl l (gi P j)).b ∧ (gl l (gi P j)).b < N := fun j hj => by
    have q := (n2 j hj).2
    have := hlk (gi P j).toNat (by omega)
    rwa [show (((gi P j).toNat : Nat) : Int) = gi P j by omega] at this
  have hs0 : 0 ≤ s ∧ s < N := by
    have q := (n2 0 hlen).1
    have q2 := hin 0 hlen
    rw [q] at q2
    exact ⟨q2.1, q2.2.1⟩
  have ht0 : 0 ≤ t ∧ t < N := by
    have q2 := hin (P.length - 1) (by omega)
    rw [hlast hlen] at q2
    exact ⟨q2.2.2.1, q2.2.2.2⟩
  have hnet : ∀ v, net l (addP P (-m) us) v = net l us v + -m * (ind t v - ind s v) := addP_net hw h.len
  have hmono : ∀ k : Nat, k < l.length → 0 < gi (addP P (-m) us) k → 0 < gi us k := fun k hk hp2 => by
    have := hg k
    split at this <;> omega
  have hdec : cntB (posB (addP P (-m) us)) l.length < cntB (posB us) l.length := by
    have hir := hmem im him
    have e : ((im.toNat : Nat) : Int) = im := by omega
    refine cntB_lt (j := im.toNat) ?_ ?_ l.length (by omega) fun i hi hb => ?_
    · unfold posB
      rw [hg, e, if_pos him, ← me]
      exact decide_eq_false (by omega)
    · unfold posB
      rw [e]
      exact decide_eq_true (hp im him)
    · unfold posB at hb ⊢
      exact decide_eq_true (hmono i hi (of_decide_eq_true hb))
  -- the signs at the ends of an open path
  have hout : s ≠ t → net l us s ≤ -m := fun hne2 => by
    obtain ⟨r1, _⟩ := hst hne2
    have q := n2 0 hlen
    have hj0 : (gl l (gi P ((0 : Nat) : Int))).a = s := q.1
    have e0 : (((gi P ((0 : Nat) : Int)).toNat : Nat) : Int) = gi P ((0 : Nat) : Int) := by omega
    have h1 : net l us s ≤ sumN (fun k => if k = (gi P ((0 : Nat) : Int)).toNat then -m else 0) l.length := by
      refine sumN_le l.length fun k hk => ?_
      have u0 := h.lo k hk
      by_cases hb : 0 < gi us k
      · have hb2 := r1 k hk hb
        rw [ind_ne hb2]
        by_cases e : k = (gi P ((0 : Nat) : Int)).toNat
        · rw [if_pos e]
          subst e
          rw [e0, hj0, ind_self]
          have := m3 (gi P ((0 : Nat) : Int)) (gi_mem (by omega) (by omega))
          omega
        · rw [if_neg e]
          unfold ind
          split <;> omega
      · have hz : gi us k = 0 := by omega
        rw [hz, Int.zero_mul]
        by_cases e : k = (gi P ((0 : Nat) : Int)).toNat
        · exfalso
          subst e
          rw [e0] at hz
          have := hp (gi P ((0 : Nat) : Int)) (gi_mem (by omega) (by omega))
          omega
        · rw [if_neg e]; exact Int.le_refl _
    have h2 := sumN_upd (g := fun k => if k = (gi P ((0 : Nat) : Int)).toNat then -m else 0) (h := fun _ => 0) (j := (gi P ((0 : Nat) : Int)).toNat) l.length (fun i hi hne3 => if_neg hne3)
    rw [h2, sumN_zero, if_pos (by omega), if_pos rfl] at h1
    omega
  have hinn : s ≠ t → m ≤ net l us t := fun hne2 => by
    obtain ⟨_, r2⟩ := hst hne2
    have q := n2 (P.length - 1) (by omega)
    have hj0 := hlast hlen
    obtain ⟨x, hx⟩ : ∃ x, gi P ((P.length - 1 : Nat) : Int) = x := ⟨_, rfl⟩
    rw [hx] at q hj0
    have hxm : x ∈ P := by rw [← hx]; exact gi_mem (by omega) (by omega)
    have e0 : ((x.toNat : Nat) : Int) = x := by omega
    have h1 : sumN (fun k => if k = x.toNat then m else 0) l.length ≤ net l us t := by
      refine sumN_le l.length fun k hk => ?_
      have u0 := h.lo k hk
      by_cases hb : 0 < gi us k
      · have hb2 := r2 k hk hb
        rw [ind_ne hb2]
        by_cases e : k = x.toNat
        · rw [if_pos e]
          subst e
          rw [e0, hj0, ind_self]
          have := m3 x hxm
          omega
        · rw [if_neg e]
          unfold ind
          split <;> omega
      · have hz : gi us k = 0 := by omega
        rw [hz, Int.zero_mul]
        by_cases e : k = x.toNat
        · exfalso
          subst e
          rw [e0] at hz
          have := hp x hxm
          omega
        · rw [if_neg e]; exact Int.le_refl _
    have h2 := sumN_upd (g := fun k => if k = x.toNat then m else 0) (h := fun _ => 0) (j := x.toNat) l.length (fun i hi hne3 => if_neg hne3)
    rw [h2, sumN_zero, if_pos (by omega), if_pos rfl] at h1
    omega
  refine ⟨⟨by rw [addP_len]; exact h.len, fun k hk => ?_, fun k hk => ?_, fun p hpm => ?_, fun k hk => ?_, fun v hv => ?_, fun v hv => ?_, ?_⟩, hdec, hmono, m1⟩
  · have := hg k
    have u0 := h.lo k hk
    by_cases e : (k : Int) ∈ P
    · rw [if_pos e] at this
      have := hlow k e
      omega
    · rw [if_neg e] at this; omega
  · have := hg k
    have u1 := h.hi k hk
    split at this <;> omega
  · rcases List.mem_append.1 hpm with hpm | hpm
    · exact h.ok p hpm
    · simp at hpm
      subst hpm
      refine ⟨⟨⟨c, hw⟩, ⟨m1, m2⟩, hne, ho.short fun j hj => ⟨(hin j hj).1, (hin j hj).2.1⟩, ho, hs0, ht0⟩, fun hne2 => ?_⟩
      have q1 := hout hne2
      have q2 := hinn hne2
      have g1 := h.sgn s.toNat (by omega)
      have g2 := h.sgn t.toNat (by omega)
      rw [show ((s.toNat : Nat) : Int) = s by omega] at g1
      rw [show ((t.toNat : Nat) : Int) = t by omega] at g2
      show gi W s < 0 ∧ 0 < gi W t
      refine ⟨Classical.byContradiction fun hc => ?_, Classical.byContradiction fun hc => ?_⟩
      · have := g1.2 (by omega); omega
      · have := g2.1 (by omega); omega
  · have := hg k
    have h0 := h.sum k hk
    unfold used at h0 ⊢
    rw [List.map_append, List.sum_append, List.map_singleton, List.sum_singleton]
    show gi (addP P (-m) us) k + (_ + if (k : Int) ∈ P then m else 0) = _
    by_cases e : (k : Int) ∈ P
    · rw [if_pos e] at this ⊢; omega
    · rw [if_neg e] at this ⊢; omega
  · have h0 := h.nets v hv
    rw [hnet]
    unfold ends at h0 ⊢
    rw [List.map_append, List.sum_append, List.map_singleton, List.sum_singleton, Int.neg_mul]
    show net l us v + -(m * (ind t v - ind s v)) + (_ + m * (ind t v - ind s v)) = _
    omega
  · have h0 := h.sgn v hv
    rw [hnet]
    by_cases e : s = t
    · subst e
      rw [Int.sub_self, Int.mul_zero]
      exact ⟨fun q => by have := h0.1 q; omega, fun q => by have := h0.2 q; omega⟩
    · have q1 := hout e
      have q2 := hinn e
      by_cases es : s = v
      · subst es
        rw [ind_ne (fun h => e h.symm), ind_self]
        refine ⟨fun q => by omega, fun q => ?_⟩
        have := h0.2 q
        omega
      · by_cases et : t = v
        · subst et
          rw [ind_ne es, ind_self]
          refine ⟨fun q => ?_, fun q => by omega⟩
          have := h0.1 q
          omega
        · rw [ind_ne es, ind_ne et]
          exact ⟨fun q => by have := h0.1 q; omega, fun q => by have := h0.2 q; omega⟩
  · have := h.many
    rw [List.length_append, List.length_singleton]
    omega
/-- The nodes that are done: no walk leads round through them. -/
def DoneOk (l : List Lk) (us : List Int) (D : Int → Bool) (r : Int → Nat) (K : Nat) : Prop :=
  (∀ v, D v = true → r v < K) ∧ ∀ k : Nat, k < l.length → 0 < gi us k → D (gl l k).a = true → D (gl l k).b = true ∧ r (gl l k).b < r (gl l k).a
theorem DoneOk.less {l : List Lk} {us us' : List Int} {D : Int → Bool} {r : Int → Nat} {K : Nat} (h : DoneOk l us D r K) (hp : ∀ k : Nat, k < l.length → 0 < gi us' k → 0 < gi us k) : DoneOk l us' D r K :=
  ⟨h.1, fun k hk hpk => h.2 k hk (hp k hk hpk)⟩
def setD (D : Int → Bool) (v : Int) : Int → Bool := fun x => if x = v then true else D x
theorem DoneOk.mark {l : List Lk} {us : List Int} {D : Int → Bool} {r : Int → Nat} {K : Nat} (h : DoneOk l us D r K) {v : Int} (hv : D v = false) (hn : ∀ k : Nat, k < l.length → (gl l k).a = v → 0 < gi us k → D (gl l k).b = true) : DoneOk l us (setD D v) (fun x => if x = v then K else r x) (K + 1) := by
  refine ⟨fun x hx => ?_, fun k hk hp hd => ?_⟩
  · unfold setD at hx
    by_cases e : x = v
    · simp only [if_pos e]; omega
    · simp only [if_neg e] at hx ⊢
      have := h.1 x hx; omega
  · unfold setD at hd ⊢
    by_cases e : (gl l k).a = v
    · have hb := hn k hk e hp
      have hne : (gl l k).b ≠ v := fun e2 => by rw [e2, hv] at hb; cases hb
      simp only [if_neg hne, if_pos e]
      exact ⟨hb, h.1 _ hb⟩
    · simp only [if_neg e] at hd ⊢
      obtain ⟨q1, q2⟩ := h.2 k hk hp hd
      have hne : (gl l k).b ≠ v := fun e2 => by rw [e2, hv] at q1; cases q1
      simp only [if_neg hne]
      exact ⟨q1, q2⟩
/-- Without a root no units are left. -/
theorem no_units {N : Nat} {l : List Lk} {us : List Int} {r : Int → Nat} {K : Nat} (hlk : ∀ k : Nat, k < l.length → 0 ≤ (gl l k).a ∧ (gl l k).a < N ∧ 0 ≤ (gl l k).b ∧ (gl l k).b < N) (hr : ∀ v : Int, 0 ≤ v → v < N → r v < K) (hd : ∀ k : Nat, k < l.length → 0 < gi us k → r (gl l k).b < r (gl l k).a)
    (hroot : ∀ v : Int, 0 ≤ v → v < N → (∃ k : Nat, k < l.length ∧ 0 < gi us k ∧ (gl l k).a = v) → ∃ k : Nat, k < l.length ∧ 0 < gi us k ∧ (gl l k).b = v) : ∀ k : Nat, k < l.length → ¬ 0 < gi us k := by
  have key : ∀ (d k : Nat), k < l.length → 0 < gi us k → K - r (gl l k).a ≤ d → False := by
    intro d
    induction d with
    | zero =>
      intro k hk hp hle
      have q := hlk k hk
      have := hr _ q.1 q.2.1
      omega
    | succ d ih =>
      intro k hk hp hle
      have q := hlk k hk
      obtain ⟨j, hj, hpj, e⟩ := hroot _ q.1 q.2.1 ⟨k, hk, hp, rfl⟩
      have q2 := hd j hj hpj
      have q3 := hlk j hj
      have := hr _ q3.1 q3.2.1
      rw [e] at q2
      exact ih j hj hpj (by omega)
  exact fun k hk hp => key _ k hk hp (Nat.le_refl _)
/-- What the paths are, where no units are left. -/
structure PsOk (N : Nat) (l : List Lk) (W u0 : List Int) (ps : List Pa) : Prop where
  ok : ∀ p ∈ ps, PaOk N l p ∧ (p.a ≠ p.b → gi W p.a < 0 ∧ 0 < gi W p.b)
  sum : ∀ k : Nat, k < l.length → used ps k = gi u0 k
  ends_ : ∀ v : Nat, v < N → ends ps v = gi W v
  many : ps.length ≤ l.length
theorem Cu.done {N : Nat} {l : List Lk} {W u0 us : List Int} {ps : List Pa} (h : Cu N l W u0 us ps) (h0 : ∀ k : Nat, k < l.length → ¬ 0 < gi us k) : PsOk N l W u0 ps := by
  have hz : ∀ k : Nat, k < l.length → gi us k = 0 := fun k hk => by have := h.lo k hk; have := h0 k hk; omega
  refine ⟨h.ok, fun k hk => ?_, fun v hv => ?_, ?_⟩
  · have := h.sum k hk
    rw [hz k hk] at this
    omega
  · have := h.nets v hv
    have hn : net l us v = 0 := by
      unfold net netP
      rw [sumN_congr (h := fun _ => 0) l.length (fun k hk => by rw [hz k hk, Int.zero_mul]), sumN_zero]
    rw [hn] at this
    omega
  · have := h.many
    omega

abbrev PV := Pa × Value
def pcv (p : PV) : List Value := [.int .i64 p.1.a, .int .i64 p.1.b, p.2, .int .i64 p.1.u]
def pcs (l : List PV) : List Value := l.flatMap pcv
def gp (l : List PV) (i : Nat) : PV := l.getD i default
theorem gp_get {l : List PV} {j : Nat} (h : j < l.length) : l[j]? = some (gp l j) := by simp [gp, List.getD_eq_getElem?_getD, h]
theorem gp_mem {l : List PV} {i : Nat} (h : i < l.length) : gp l i ∈ l := by simp [gp, List.getD_eq_getElem?_getD, h]
theorem pcs_length (l : List PV) : (pcs l).length = l.length * 4 := by
  induction l with
  | nil => rfl
  | cons x l ih =>
    have : pcs (x :: l) = pcv x ++ pcs l := rfl
    rw [this, List.length_append, ih]
    simp [pcv]; omega
theorem pcs_get (l : List PV) : ∀ (i j : Nat), i < l.length → j < 4 → (pcs l)[i * 4 + j]? = (pcv (gp l i))[j]? := by
  induction l with
  | nil => intro i j h; simp at h
  | cons x l ih =>
    intro i j hi hj
    have e : pcs (x :: l) = pcv x ++ pcs l := rfl
    rw [e]
    cases i with
    | zero =>
      rw [List.getElem?_append_left (by simp [pcv]; omega)]
      simp [gp]
    | succ i =>
      rw [List.getElem?_append_right (by simp [pcv]; omega)]
      have : (i + 1) * 4 + j - (pcv x).length = i * 4 + j := by simp [pcv]; omega
      rw [this, ih i j (by simpa using hi) hj]
      simp [gp]
theorem info72 : (Try.prog.info? 72).map (fun i => (i.zero, i.size, i.bytes)) = some (some (.agg #[.int .i64 0, .int .i64 0, .slice none 0 0, .int .i64 0]), 4, 48) := by kernel_rfl
/-- A path's list of links lies where nothing of R lies. -/
def LinksOf (w : World) (R : Nat → Prop) (x : PV) : Prop := ∃ A c, x.2 = .slice A x.1.ls.length c ∧ IntsAt w A x.1.ls ∧ ∀ k, R k → Apart A x.1.ls.length (some k)
theorem Apart.mono {A : Option Addr} {n m k : Nat} (h : Apart A n (some k)) (hm : 0 < m → 0 < n) : Apart A m (some k) := fun ad e h0 => h ad e (hm h0)
theorem IntsAt.fr {w w' : World} {A : Option Addr} {l : List Int} {S : Nat → Prop} (h : IntsAt w A l) (f : Fr w w' S) (hA : ∀ k, S k → Apart A l.length (some k)) : IntsAt w' A l := by
  intro i h0 hi
  obtain ⟨b, o, e, h1⟩ := h i h0 hi
  refine ⟨b, o, e, f.cell h1 fun hs => hA b hs ⟨b, o, none⟩ e (by omega) rfl⟩
theorem LksAt.fr {w w' : World} {A : Option Addr} {l : List Lk} {S : Nat → Prop} (h : LksAt w A l) (f : Fr w w' S) (hA : ∀ k, S k → Apart A l.length (some k)) : LksAt w' A l := by
  intro i h0 hi
  obtain ⟨b, o, e, h1, h2, h3⟩ := h i h0 hi
  have hn : ¬ S b := fun hs => hA b hs ⟨b, o, none⟩ e (by omega) rfl
  exact ⟨b, o, e, f.cell h1 hn, f.cell h2 hn, f.cell h3 hn⟩
/-- The cutter: its box q, its units at g, its paths; nothing of it lies in R. -/
structure CutW (w : World) (R : Nat → Prop) (B q g : Nat) (N : Int) (A : Option Addr) (c : Nat) (l : List Lk) (us : List Int) (cap : Nat) (ov : Value) (ps : List PV) : Prop where
  box : ∃ G, w.heap[q]? = some (.cells #[.int .i64 N, .slice A l.length c, .slice G us.length cap, ov] 95 (0, 0)) ∧ (0 < us.length → G = some ⟨g, 0, none⟩)
  row : 0 < us.length → RowI w g us
  lg : g < w.heap.size
  lks : LksAt w A l
  own : w.ownsRow B 72 4 ov ps.length (pcs ps)
  nqg : q ≠ g
  oq : ov.ownBlock ≠ some q
  og : ov.ownBlock ≠ some g
  apl : ∀ k, k = q ∨ k = g ∨ ov.ownBlock = some k → Apart A l.length (some k)
  rows : ∀ x ∈ ps, LinksOf w (fun k => k = q ∨ k = g ∨ ov.ownBlock = some k ∨ R k) x
  rq : ¬ R q
  rg : ¬ R g
  ro : ∀ k, ov.ownBlock = some k → ¬ R k
  rl : ∀ k, R k → Apart A l.length (some k)
  Bq : B ≤ q
  Bg : B ≤ g
section
variable {w w' : World} {R : Nat → Prop} {B q g : Nat} {N : Int} {A : Option Addr} {c : Nat} {l : List Lk} {us : List Int} {cap : Nat} {ov : Value} {ps : List PV}
theorem CutW.lq (h : CutW w R B q g N A c l us cap ov ps) : q < w.heap.size := by obtain ⟨G, h1, -⟩ := h.box; exact (Array.getElem?_eq_some_iff.1 h1).1
theorem CutW.box1 (h : CutW w R B q g N A c l us cap ov ps) (h0 : 0 < us.length) : w.heap[q]? = some (.cells #[.int .i64 N, .slice A l.length c, .slice (some ⟨g, 0, none⟩) us.length cap, ov] 95 (0, 0)) := by
  obtain ⟨G, h1, h2⟩ := h.box
  rw [h1, h2 h0]
theorem CutW.lo (h : CutW w R B q g N A c l us cap ov ps) {k : Nat} (hk : ov.ownBlock = some k) : k < w.heap.size := by
  obtain ⟨A0, c0, e, _, _, h4⟩ := own_slice h.own
  cases A0 with
  | none => subst e; cases hk
  | some ad =>
    obtain ⟨e1, _, e3⟩ := h4 ad rfl
    rw [e1] at hk
    cases hk
    exact e3
theorem apart_new {A : Option Addr} {n X : Nat} {w : World} (h : ∀ ad, A = some ad → 0 < n → ad.block < w.heap.size) (hX : w.heap.size ≤ X) : Apart A n (some X) := fun ad e h0 e2 => by
  have := h ad e h0
  cases e2
  omega
/-- The cutter is not touched where only blocks of R were written. -/
theorem CutW.fr (h : CutW w R B q g N A c l us cap ov ps) (f : Fr w w' R) : CutW w' R B q g N A c l us cap ov ps := by
  obtain ⟨G, hb1, hb2⟩ := h.box
  refine ⟨⟨G, (f.block q h.lq h.rq).trans hb1, hb2⟩, fun h0 => (h.row h0).same (f.block g h.lg h.rg), Nat.lt_of_lt_of_le h.lg f.size, h.lks.fr f h.rl, ?_, h.nqg, h.oq, h.og, h.apl, fun x hx => ?_, h.rq, h.rg, h.ro, h.rl, h.Bq, h.Bg⟩
  · refine ⟨h.own.1, ?_⟩
    rcases h.own.2 with h2 | ⟨o, cp, cur, e, hb, hh, h3⟩
    · exact .inl h2
    · exact .inr ⟨o, cp, cur, e, hb, (f.block o (Array.getElem?_eq_some_iff.1 hh).1 (h.ro o (by rw [e]; rfl))).trans hh, h3⟩
  · obtain ⟨A1, c1, e, h1, h2⟩ := h.rows x hx
    exact ⟨A1, c1, e, h1.fr f fun k hk => h2 k (.inr (.inr (.inr hk))), h2⟩
theorem CutW.below (h : CutW w R B q g N A c l us cap ov ps) (hb : Below w.heap.size w w') : CutW w' R B q g N A c l us cap ov ps :=
  h.fr ((Fr.refl w R).below hb)
theorem CutW.grown {k : Nat} (h : CutW w R B q g N A c l us cap ov ps) (hg : w.grownBy w' (some k)) (hk : R k) : CutW w' R B q g N A c l us cap ov ps :=
  h.fr ((Fr.refl w R).grown hg fun i e => .inl (by cases e; exact hk))
/-- A new block is set apart. -/
theorem CutW.keep (h : CutW w R B q g N A c l us cap ov ps) {X : Nat} (hX : w.heap.size ≤ X) : CutW w (fun k => R k ∨ k = X) B q g N A c l us cap ov ps := by
  have hap : ∀ {A : Option Addr} {n : Nat}, (0 < n → ∃ b o v, A = some ⟨b, o, none⟩ ∧ ∃ j, w.cell? ⟨b, j, none⟩ = some v) → Apart A n (some X) := by
    intro A n hh ad e h0 e2
    obtain ⟨b, o, v, e3, j, h4⟩ := hh h0
    have := World.block_lt_of_cell? _ _ h4
    rw [e] at e3
    cases e3
    cases e2
    simp only at this hX
    omega
  refine ⟨h.box, h.row, h.lg, h.lks, h.own, h.nqg, h.oq, h.og, h.apl, fun x hx => ?_, ?_, ?_, fun k hk => ?_, fun k hk => ?_, h.Bq, h.Bg⟩
  · obtain ⟨A1, c1, e, h1, h2⟩ := h.rows x hx
    refine ⟨A1, c1, e, h1, fun k hk => ?_⟩
    rcases hk with hk | hk | hk | hk | rfl
    · exact h2 k (.inl hk)
    · exact h2 k (.inr (.inl hk))
    · exact h2 k (.inr (.inr (.inl hk)))
    · exact h2 k (.inr (.inr (.inr hk)))
    · exact h1.apart hX
  · rintro (hr | rfl)
    · exact h.rq hr
    · have := h.lq; omega
  · rintro (hr | rfl)
    · exact h.rg hr
    · have := h.lg; omega
  · rintro (hr | rfl)
    · exact h.ro k hk hr
    · have := h.lo hk; omega
  · rcases hk with hk | rfl
    · exact h.rl k hk
    · exact h.lks.apart hX
theorem CutW.less {R' : Nat → Prop} (h : CutW w R B q g N A c l us cap ov ps) (hR : ∀ k, R' k → R k) : CutW w R' B q g N A c l us cap ov ps :=
  ⟨h.box, h.row, h.lg, h.lks, h.own, h.nqg, h.oq, h.og, h.apl, fun x hx => by
    obtain ⟨A1, c1, e, h1, h2⟩ := h.rows x hx
    exact ⟨A1, c1, e, h1, fun k hk => h2 k (by rcases hk with hk | hk | hk | hk; exact .inl hk; exact .inr (.inl hk); exact .inr (.inr (.inl hk)); exact .inr (.inr (.inr (hR k hk))))⟩,
   fun hr => h.rq (hR _ hr), fun hr => h.rg (hR _ hr), fun k hk hr => h.ro k hk (hR _ hr), fun k hk => h.rl k (hR k hk), h.Bq, h.Bg⟩
theorem CutW.cells (h : CutW w R B q g N A c l us cap ov ps) : w.cell? ⟨q, 0, none⟩ = some (.int .i64 N) ∧ w.cell? ⟨q, 1, none⟩ = some (.slice A l.length c) ∧ (0 < us.length → w.cell? ⟨q, 2, none⟩ = some (.slice (some ⟨g, 0, none⟩) us.length cap)) ∧ w.cell? ⟨q, 3, none⟩ = some ov := by
  obtain ⟨G, hb1, hb2⟩ := h.box
  refine ⟨?_, ?_, fun h0 => ?_, ?_⟩
  · unfold World.cell?; simp [hb1]
  · unfold World.cell?; simp [hb1]
  · rw [hb2 h0] at hb1; unfold World.cell?; simp [hb1]
  · unfold World.cell?; simp [hb1]
end
/-- Rows of maps of ints to bools, as what is looked up. -/
def LooksB (w : World) (M : Value) (D : Int → Bool) : Prop := ∀ W, Below w.heap.size w W → ∀ k : Int, (Instr.lookup 80 M (.int .i64 k) false).run Try.prog W = .ok (.bool (D k)) W
theorem LooksB.none (w : World) : LooksB w (.map none) (fun _ => false) := fun W _ k => by kernel_rfl
def NextB (l : List Lk) (us : List Int) (v : Int) (D : Int → Bool) (k : Nat) : Prop := (gl l k).a = v ∧ 0 < gi us k ∧ D (gl l k).b = false
def NextIs (l : List Lk) (us : List Int) (v : Int) (D : Int → Bool) (r : Int) : Prop := (r = -1 ∧ ∀ k : Nat, k < l.length → ¬ NextB l us v D k) ∨ ∃ k : Nat, k < l.length ∧ r = k ∧ NextB l us v D k
set_option maxRecDepth 100000 in
set_option maxHeartbeats 2000000 in
theorem next_any {w : World} {R : Nat → Prop} {B q g : Nat} {N : Int} {A : Option Addr} {c : Nat} {l : List Lk} {us : List Int} {cap : Nat} {ov : Value} {ps : List PV} (h : CutW w R B q g N A c l us cap ov ps) (M : Value) (D : Int → Bool) (hM : LooksB w M D) (v : Int) (hl : l.length ≤ 1000) (hu : us.length = l.length) :
    Calls Try.prog 100 #[.pointer (some ⟨q, 0, none⟩), .int .i64 v, M] w fun e w' => (∃ r, e = .returned (.int .i64 r) ∧ NextIs l us v D r) ∧ Below w.heap.size w w' := by
  have HC := Lib.hid h
  have HM := Lib.hid hM
  obtain ⟨c0, c1, c2, c3⟩ := h.cells
  have lq := h.lq
  clear h hM
  go_enter Try.func100, Try.ntmps100
  go_wp2
  clear c0 c1 c2 c3 lq
  go_loopw [15] (fun s wr => ∃ k : Nat, k ≤ l.length ∧ s = .int .i64 (k : Int) ∧ Hid (∀ j : Nat, j < k → ¬ NextB l us v D j) ∧ Hid (Below w.heap.size w wr)) (fun s _ => l.length - (intOf s).toNat)
  case atStart => exact ⟨0, by omega, rfl, Lib.hid (fun j hj => by omega), Lib.hid (Below.refl _ _)⟩
  case round =>
    obtain ⟨k, hk, rfl, HJ, HB⟩ := hrel
    by_cases hkl : k < l.length
    · have t1 : decide ((k : Int) < (l.length : Int)) = true := decide_eq_true (by omega)
      have HC2 := Lib.hid (HC.out.below HB.out)
      obtain ⟨c0, c1, c2', c3⟩ := HC2.out.cells
      have c2 := c2' (by omega)
      clear c2'
      have lq := HC2.out.lq
      obtain ⟨b, o, rfl, g1, g2, g3⟩ := HC2.out.lks.nat k hkl
      obtain ⟨x, hx⟩ : ∃ x, gl l (k : Int) = x := ⟨_, rfl⟩
      rw [hx] at g1 g2 g3
      have HX := Lib.hid hx
      clear hx
      obtain ⟨xa, xb, xm⟩ := x
      simp only at g1 g2 g3
      have gu := (HC2.out.row (by omega)).cell k (by omega)
      have lg := HC2.out.lg
      have lb := World.block_lt_of_cell? _ _ g1
      dsimp only at lb
      obtain ⟨uk, huk⟩ : ∃ uk, gi us (k : Int) = uk := ⟨_, rfl⟩
      rw [huk] at gu
      have HU := Lib.hid huk
      clear huk
      have i0 : (0 : Int) ≤ (k : Int) := by omega
      have i1 : (k : Int) < (l.length : Int) := by omega
      have i2 : (k : Int) < (us.length : Int) := by omega
      have i3 : (k : Int) < (l.length : Int) + 1 := by omega
      have HBX := Lib.hid (fun W (hW : Below w.heap.size w W) => HM.out W hW xb)
      have HNB := Lib.hid (show NextB l us v D k ↔ xa = v ∧ 0 < uk ∧ D xb = false by unfold NextB; rw [HX.out, HU.out])
      clear hu
      have HBA := Lib.hid (show Below w.heap.size w (wr.alloc (.cells #[.int .i64 xa, .int .i64 xb, .int .i64 xm] 39)) from below_trans HB.out bel)
      have hlk := HBX.out _ HBA.out
      obtain ⟨db, hdb⟩ : ∃ db, D xb = db := ⟨_, rfl⟩
      rw [hdb] at hlk HNB
      clear hdb
      by_cases ha : xa = v
      · subst ha
        have ha2 : (xa == xa) = true := by simp
        by_cases hup : 0 < uk
        · have hup2 : decide (0 < uk) = true := decide_eq_true hup
          cases db with
          | false =>
            have HY := Lib.hid (HNB.out.2 ⟨rfl, hup, rfl⟩)
            go_wp2
            go_ret
            exact ⟨⟨_, rfl, .inr ⟨k, hkl, rfl, HY.out⟩⟩, HBA.out⟩
          | true =>
            have HJ2 := Lib.hid (show ∀ j : Nat, j < k + 1 → ¬ NextB l us xa D j from fun j hj hn => by
              by_cases e : j = k
              · subst e; have := (HNB.out.1 hn).2.2; cases this
              · exact HJ.out j (by omega) hn)
            go_wp2
            go_roundw
            case rel => exact ⟨k + 1, by omega, by go_num, HJ2, HBA⟩
            case measure => simp [intOf]; omega
        · have hup2 : decide (0 < uk) = false := decide_eq_false hup
          have HJ2 := Lib.hid (show ∀ j : Nat, j < k + 1 → ¬ NextB l us xa D j from fun j hj hn => by
            by_cases e : j = k
            · subst e; exact hup (HNB.out.1 hn).2.1
            · exact HJ.out j (by omega) hn)
          go_wp2
          go_roundw
          case rel => exact ⟨k + 1, by omega, by go_num, HJ2, HBA⟩
          case measure => simp [intOf]; omega
      · have ha2 : (xa == v) = false := by simpa using ha
        have HJ2 := Lib.hid (show ∀ j : Nat, j < k + 1 → ¬ NextB l us v D j from fun j hj hn => by
          by_cases e : j = k
          · subst e; exact ha (HNB.out.1 hn).1
          · exact HJ.out j (by omega) hn)
        go_wp2
        go_roundw
        case rel => exact ⟨k + 1, by omega, by go_num, HJ2, HBA⟩
        case measure => simp [intOf]; omega
    · have t1 : decide ((k : Int) < (l.length : Int)) = false := decide_eq_false (by omega)
      have HJ2 := Lib.hid (show ∀ j : Nat, j < l.length → ¬ NextB l us v D j from fun j hj => HJ.out j (by omega))
      go_wp2
      go_ret
      exact ⟨⟨_, rfl, .inl ⟨rfl, HJ2.out⟩⟩, HB.out⟩

section
variable {w w' : World} {R : Nat → Prop} {B q g : Nat} {N : Int} {A : Option Addr} {c : Nat} {l : List Lk} {us us' : List Int} {cap : Nat} {ov ov' : Value} {ps : List PV} {x : PV}
theorem CutW.units (h : CutW w R B q g N A c l us cap ov ps) (f : Fr w w' (fun k => k = g)) (hr : RowI w' g us') (hl : us'.length = us.length) : CutW w' R B q g N A c l us' cap ov ps := by
  obtain ⟨G, hb1, hb2⟩ := h.box
  refine ⟨⟨G, ?_, fun h0 => hb2 (by omega)⟩, fun _ => hr, Nat.lt_of_lt_of_le h.lg f.size, h.lks.fr f fun k hk => h.apl k (.inr (.inl hk)), ⟨h.own.1, ?_⟩, h.nqg, h.oq, h.og, h.apl, fun x hx => ?_, h.rq, h.rg, h.ro, h.rl, h.Bq, h.Bg⟩
  · rw [f.block q h.lq h.nqg, hb1, hl]
  · rcases h.own.2 with h2 | ⟨o, cp, cur, e, hb, hh, h3⟩
    · exact .inl h2
    · exact .inr ⟨o, cp, cur, e, hb, (f.block o (Array.getElem?_eq_some_iff.1 hh).1 (fun e2 => h.og (by rw [e, ← e2]; rfl))).trans hh, h3⟩
  · obtain ⟨A1, c1, e, h1, h2⟩ := h.rows x hx
    exact ⟨A1, c1, e, h1.fr f fun k hk => h2 k (.inr (.inl hk)), h2⟩
theorem CutW.push (h : CutW w R B q g N A c l us cap ov ps) (f : Fr w w' (fun k => k = q ∨ ov.ownBlock = some k)) (h0 : 0 < us.length) (hbox : w'.heap[q]? = some (.cells #[.int .i64 N, .slice A l.length c, .slice (some ⟨g, 0, none⟩) us.length cap, ov'] 95 (0, 0)))
    (hown : w'.ownsRow B 72 4 ov' (ps.length + 1) (pcs ps ++ pcv x)) (hat : ∀ k, ov'.ownBlock = some k → ov.ownBlock = some k ∨ w.heap.size ≤ k) (hq : ov'.ownBlock ≠ some q) (hg : ov'.ownBlock ≠ some g)
    (hx : LinksOf w' (fun k => k = q ∨ k = g ∨ ov'.ownBlock = some k ∨ R k) x) (hR : ∀ k, R k → k < w.heap.size) : CutW w' R B q g N A c l us cap ov' (ps ++ [x]) := by
  refine ⟨⟨_, hbox, fun _ => rfl⟩, fun h0 => (h.row h0).same (f.block g h.lg (by rintro (e | e); exact h.nqg e.symm; exact h.og e)), Nat.lt_of_lt_of_le h.lg f.size, h.lks.fr f fun k hk => h.apl k (by rcases hk with hk | hk; exact .inl hk; exact .inr (.inr hk)), ?_, h.nqg, hq, hg, fun k hk => ?_, fun y hy => ?_, h.rq, h.rg, fun k hk hr => ?_, h.rl, h.Bq, h.Bg⟩
  · have e : pcs (ps ++ [x]) = pcs ps ++ pcv x := by simp [pcs]
    rw [List.length_append, List.length_singleton, e]; exact hown
  · rcases hk with hk | hk | hk
    · exact h.apl k (.inl hk)
    · exact h.apl k (.inr (.inl hk))
    · rcases hat k hk with h2 | h2
      · exact h.apl k (.inr (.inr h2))
      · exact h.lks.apart h2
  · rcases List.mem_append.1 hy with hy | hy
    · obtain ⟨A1, c1, e, h1, h2⟩ := h.rows y hy
      refine ⟨A1, c1, e, h1.fr f fun k hk => h2 k (by rcases hk with hk | hk; exact .inl hk; exact .inr (.inr (.inl hk))), fun k hk => ?_⟩
      rcases hk with hk | hk | hk | hk
      · exact h2 k (.inl hk)
      · exact h2 k (.inr (.inl hk))
      · rcases hat k hk with h3 | h3
        · exact h2 k (.inr (.inr (.inl h3)))
        · exact h1.apart h3
      · exact h2 k (.inr (.inr (.inr hk)))
    · simp at hy; subst hy; exact hx
  · rcases hat k hk with h2 | h2
    · exact h.ro k h2 hr
    · have := hR k hr; omega
end
theorem pcv_one (x : PV) (h : x.2.oneCell' = true) : ∀ u ∈ pcv x, u.oneCell' = true := by
  intro u hu
  simp [pcv] at hu
  rcases hu with rfl | rfl | rfl | rfl <;> first | rfl | exact h
/-- The paths are full: the first k links of a path. -/
def minK (us P : List Int) (k : Nat) : Int := (P.take k).foldl (fun n i => if gi us i < n then gi us i else n) 134217728
theorem minK_succ (us P : List Int) (k : Nat) (h : k < P.length) : minK us P (k + 1) = if gi us (gi P k) < minK us P k then gi us (gi P k) else minK us P k := by
  unfold minK; rw [fold_gi _ _ P k h]
theorem minK_all (us P : List Int) : minK us P P.length = minU us P := by unfold minK minU; rw [List.take_length]
theorem addP_take (P : List Int) (u : Int) (s : List Int) (k : Nat) (h : k < P.length) : addP (P.take (k + 1)) u s = si (addP (P.take k) u s) (gi P k) (gi (addP (P.take k) u s) (gi P k) + u) := by
  unfold addP; rw [fold_gi _ _ P k h]
theorem addP_bound {P : List Int} {u : Int} {s : List Int} (hu : 0 ≤ u ∧ u ≤ 134217728) (hP : ∀ i ∈ P, 0 ≤ i ∧ i < s.length) {C : Int} (hs : ∀ k : Nat, k < s.length → -C ≤ gi s k ∧ gi s k ≤ 134217728) : ∀ k : Nat, k < s.length → -(C + P.length * 134217728) ≤ gi (addP P (-u) s) k ∧ gi (addP P (-u) s) k ≤ 134217728 := by
  induction P generalizing s C with
  | nil => intro k hk; have := hs k hk; simp [addP]; omega
  | cons i P ih =>
    intro k hk
    have hi := hP i (by simp)
    have h1 := hs i.toNat (by omega)
    rw [show ((i.toNat : Nat) : Int) = i by omega] at h1
    have := ih (s := si s i (gi s i + -u)) (C := C + 134217728) (fun j hj => by simpa [si] using hP j (by simp [hj])) (fun j hj => by
      simp [si] at hj
      rw [gi_set_eq hi.1 hi.2 (by omega)]
      split
      · omega
      · have := hs j hj; omega) k (by simpa [si] using hk)
    show -(C + ((i :: P).length : Nat) * 134217728) ≤ gi (addP P (-u) (si s i (gi s i + -u))) k ∧ _ ≤ _
    have e : (((i :: P).length : Nat) : Int) = (P.length : Int) + 1 := by simp
    rw [e]
    constructor
    · have := this.1; omega
    · exact this.2
theorem apartV {w : World} {A2 : Option Addr} {b n : Nat} (h : ∀ ad, A2 = some ad → ad.block = b) {k : Nat} (hk : k ≠ b) : Apart A2 n (some k) := fun ad e _ e2 => by have := h ad e; cases e2; exact hk this
theorem grown_news2 {w w' : World} {o : Obj} {r : Option Nat} (h : (w.alloc o).grownBy w' r) : w.grownBy w' r := World.grownBy.trans (grown_alloc (grown_refl w r) o) h
theorem cell_grown {w w' : World} {r : Option Nat} {a : Addr} {v : Value} (hg : w.grownBy w' r) (hne : some a.block ≠ r) (h : w.cell? a = some v) : w'.cell? a = some v := hg.cell h hne
/-- The end of take: the path is appended, the field is stored. -/
theorem CutW.finish {w0 wa w5 : World} {R : Nat → Prop} {B q g : Nat} {N : Int} {A : Option Addr} {c : Nat} {l : List Lk} {us : List Int} {cap : Nat} {ov : Value} {ps : List PV} (h : CutW w0 R B q g N A c l us cap ov ps) (h0 : 0 < us.length) (hb : Below w0.heap.size w0 wa)
    {p : Pa} {A2 : Option Addr} {c2 : Nat} (hv : IntsAt wa A2 p.ls) (hv2 : ∀ ad, A2 = some ad → w0.heap.size ≤ ad.block ∧ ad.block < wa.heap.size)
    {g5 cap5 : Nat} (hown : w5.ownsRow B 72 4 (.slice (some ⟨g5, 0, none⟩) (ps.length + 1) cap5) (ps.length + 1) (pcs ps ++ pcv (p, .slice A2 p.ls.length c2))) (hg : wa.grownBy w5 ov.ownBlock) (hat : ov.ownBlock = some g5 ∨ wa.heap.size ≤ g5) (hR : ∀ k, R k → k < w0.heap.size) :
    CutW (w5.setCell ⟨q, 3, none⟩ (.slice (some ⟨g5, 0, none⟩) (ps.length + 1) cap5)) R B q g N A c l us cap (.slice (some ⟨g5, 0, none⟩) (ps.length + 1) cap5) (ps ++ [(p, .slice A2 p.ls.length c2)]) ∧
    Fr w0 (w5.setCell ⟨q, 3, none⟩ (.slice (some ⟨g5, 0, none⟩) (ps.length + 1) cap5)) (fun k => k = q ∨ ov.ownBlock = some k) ∧ ∀ k, (Value.slice (some ⟨g5, 0, none⟩) (ps.length + 1) cap5).ownBlock = some k → ov.ownBlock = some k ∨ w0.heap.size ≤ k := by
  have lq := h.lq
  have lqa : q < wa.heap.size := Nat.lt_of_lt_of_le lq hb.size
  have hq5 : w5.heap[q]? = some (.cells #[.int .i64 N, .slice A l.length c, .slice (some ⟨g, 0, none⟩) us.length cap, ov] 95 (0, 0)) :=
    (hg.block q lqa (fun e => h.oq e.symm)).trans ((hb.block q lq).trans (h.box1 h0))
  have hne : g5 ≠ q := by
    rcases hat with h2 | h2
    · intro e; exact h.oq (by rw [h2, e])
    · omega
  have hng : g5 ≠ g := by
    have := h.lg
    have := hb.size
    rcases hat with h2 | h2
    · intro e; exact h.og (by rw [h2, e])
    · omega
  have hat2 : ∀ k, (Value.slice (some ⟨g5, 0, none⟩) (ps.length + 1) cap5).ownBlock = some k → ov.ownBlock = some k ∨ w0.heap.size ≤ k := by
    intro k hk
    have e : g5 = k := Option.some.inj hk
    subst e
    rcases hat with h2 | h2
    · exact .inl h2
    · exact .inr (Nat.le_trans hb.size h2)
  have fr5 : Fr w0 w5 (fun k => k = q ∨ ov.ownBlock = some k) := ((Fr.refl w0 _).below hb).grown hg fun i e => .inl (.inr e)
  have fr6 := fr5.set ⟨q, 3, none⟩ (.slice (some ⟨g5, 0, none⟩) (ps.length + 1) cap5) (.inl (.inl rfl))
  refine ⟨h.push fr6 h0 ?_ ?_ hat2 ?_ ?_ ⟨A2, c2, rfl, ?_, fun k hk => ?_⟩ hR, fr6, hat2⟩
  · simp [World.setCell, Array.getElem?_modify, hq5]
  · exact hown.kept (grown_set (grown_refl w5 _) _ _ (.inl rfl)) (.inr (by simpa [Value.ownBlock] using hne))
  · simpa [Value.ownBlock] using hne
  · simpa [Value.ownBlock] using hng
  · have h1 : IntsAt w5 A2 p.ls := hv.grown hg fun ad e h0 e2 => by
      have q1 := (hv2 ad e).1
      have q2 := h.lo e2.symm
      omega
    exact h1.fr ((Fr.refl w5 (fun k => k = q)).set _ _ (.inl rfl)) fun k hk ad e h0 e2 => by
      subst hk
      have q1 := (hv2 ad e).1
      cases e2
      omega
  · intro ad e h0 e2
    have q1 := (hv2 ad e).1
    have q3 := (hv2 ad e).2
    have e3 : ad.block = k := Option.some.inj e2
    rcases hk with hk | hk | hk | hk
    · omega
    · have := h.lg; omega
    · have e4 : g5 = k := Option.some.inj hk
      rcases hat with h2 | h2
      · have := h.lo h2; omega
      · omega
    · have := hR k hk; omega
set_option maxRecDepth 100000 in
set_option maxHeartbeats 4000000 in
theorem take_any {w : World} {R : Nat → Prop} {B q g : Nat} {N : Int} {A : Option Addr} {c : Nat} {l : List Lk} {us : List Int} {cap : Nat} {ov : Value} {ps : List PV} (h : CutW w R B q g N A c l us cap ov ps) (PA : Option Addr) (pc : Nat) (P : List Int) (hP : IntsAt w PA P)
    (hPA : ∀ k, k = q ∨ k = g ∨ ov.ownBlock = some k → Apart PA P.length (some k)) (hnil : PA = none → P.length = 0 ∧ pc = 0) (hne : 0 < P.length) (hlen : P.length ≤ 1000) (hin : ∀ i ∈ P, 0 ≤ i ∧ i < l.length) (hl : l.length ≤ 1000) (hu : us.length = l.length) (hus : ∀ k : Nat, k < us.length → 0 ≤ gi us k ∧ gi us k ≤ 134217728) (hps : ps.length ≤ 1000) (hR : ∀ k, R k → k < w.heap.size) (hB : B ≤ w.heap.size) :
    Calls Try.prog 101 #[.pointer (some ⟨q, 0, none⟩), .slice PA P.length pc] w fun e w' => e = .returned (.tuple #[]) ∧ ∃ ov' v, CutW w' R B q g N A c l (addP P (-(minU us P)) us) cap ov' (ps ++ [(⟨(gl l (gi P 0)).a, (gl l (gi P ((P.length - 1 : Nat) : Int))).b, P, minU us P⟩, v)]) ∧ Fr w w' (fun k => k = q ∨ k = g ∨ ov.ownBlock = some k) ∧ ∀ k, ov'.ownBlock = some k → ov.ownBlock = some k ∨ w.heap.size ≤ k := by
  obtain ⟨i0, hi, hzz⟩ := Option.map_eq_some_iff.1 info72
  simp only [Prod.mk.injEq] at hzz
  obtain ⟨hz0, hz1, hz2⟩ := hzz
  have HI := Lib.hid hi
  have Hz0 := Lib.hid hz0
  have Hz1 := Lib.hid hz1
  have Hz2 := Lib.hid hz2
  have HC := Lib.hid h
  have HP := Lib.hid hP
  have HPA := Lib.hid hPA
  have HN := Lib.hid hnil
  have HIN := Lib.hid hin
  have HU := Lib.hid hu
  have HUS := Lib.hid hus
  have HR := Lib.hid hR
  have HB := Lib.hid hB
  have hM : ∀ k, k ≤ P.length → 0 ≤ minK us P k ∧ minK us P k ≤ 134217728 := by
    intro k
    induction k with
    | zero => intro _; unfold minK; simp
    | succ k ih =>
      intro hk
      have h1 := ih (by omega)
      have h2 := hin _ (gi_mem (l := P) (i := (k : Int)) (by omega) (by omega))
      have h3 := hus (gi P k).toNat (by omega)
      rw [show (((gi P k).toNat : Nat) : Int) = gi P k by omega] at h3
      rw [minK_succ us P k (by omega)]
      split <;> omega
  have HM := Lib.hid hM
  have HU0 := Lib.hid (show 0 < us.length by have := hin _ (gi_mem (l := P) (i := 0) (by omega) (by omega)); omega)
  obtain ⟨m, hm⟩ : ∃ m, minU us P = m := ⟨_, rfl⟩
  rw [hm]
  have HMm := Lib.hid hm
  clear hm
  clear h hP hPA hnil hin hu hus hR hB hi hz0 hz1 hz2 hM
  go_enter Try.func101, Try.ntmps101
  go_wp2
  go_loopw [4, 13] (fun n i wr => ∃ k : Nat, k ≤ P.length ∧ i = .int .i64 (k : Int) ∧ n = .int .i64 (minK us P k) ∧ Hid (Below w.heap.size w wr)) (fun _ i _ => P.length - (intOf i).toNat)
  case atStart => exact ⟨0, by omega, rfl, rfl, Lib.hid (Below.refl _ _)⟩
  case round =>
    obtain ⟨k, hk, rfl, rfl, HBr⟩ := hrel
    by_cases hkl : k < P.length
    · have t1 : decide ((k : Int) < (P.length : Int)) = true := decide_eq_true (by omega)
      have HC2 := Lib.hid (HC.out.below HBr.out)
      obtain ⟨c0, c1, c2', c3⟩ := HC2.out.cells
      have c2 := c2' HU0.out
      clear c2'
      have lq := HC2.out.lq
      obtain ⟨b, o, rfl, g1⟩ := (HP.out.below HBr.out).nat k hkl
      have hx := HIN.out _ (gi_mem (l := P) (i := (k : Int)) (by omega) (by omega))
      have HMS := Lib.hid (minK_succ us P k hkl)
      generalize gi P k = x at g1 hx HMS
      obtain ⟨hx0, hx1⟩ := hx
      have gu := (HC2.out.row HU0.out).cell x.toNat (by have := HU.out; omega)
      rw [show ((x.toNat : Nat) : Int) = x by omega] at gu
      have lg := HC2.out.lg
      have hxu : x < (us.length : Int) := by have := HU.out; omega
      generalize gi us x = y at gu HMS
      generalize minK us P k = mk at HMS ⊢
      obtain ⟨m2, hm2⟩ : ∃ m2, (if y < mk then y else mk) = m2 := ⟨_, rfl⟩
      have HMS2 := Lib.hid (show minK us P (k + 1) = m2 by rw [HMS.out, hm2])
      go_wp2
      go_roundw
      case rel => exact ⟨k + 1, by omega, by go_num, by rw [HMS2.out], HBr⟩
      case measure => simp [intOf]; omega
    · obtain rfl : k = P.length := by omega
      have t1 : decide ((P.length : Int) < (P.length : Int)) = false := decide_eq_false (by omega)
      have HMP := Lib.hid (HM.out _ (Nat.le_refl _))
      rw [minK_all, HMm.out] at HMP ⊢
      have HBR := Lib.hid HBr.out
      clear HBr HM
      go_wp2
      go_loopw [29] (fun i w2 => ∃ k : Nat, k ≤ P.length ∧ i = .int .i64 (k : Int) ∧ Hid (CutW w2 R B q g N A c l (addP (P.take k) (-m) us) cap ov ps) ∧ Hid (Fr w w2 (fun k => k = g))) (fun i _ => P.length - (intOf i).toNat)
      case atStart => exact ⟨0, by omega, rfl, Lib.hid (HC.out.below HBR.out), Lib.hid ((Fr.refl w _).below HBR.out)⟩
      case round =>
        obtain ⟨k, hk, rfl, HC2, HF⟩ := hrel
        by_cases hkl : k < P.length
        · have t1 : decide ((k : Int) < (P.length : Int)) = true := decide_eq_true (by omega)
          have HL2 := Lib.hid (addP_len (P.take k) (-m) us)
          have HU2 := Lib.hid (show 0 < (addP (P.take k) (-m) us).length by rw [HL2.out]; exact HU0.out)
          obtain ⟨c0, c1, c2', c3⟩ := HC2.out.cells
          have c2 := c2' HU2.out
          clear c2'
          have lq := HC2.out.lq
          obtain ⟨b, o, rfl, g1⟩ := (HP.out.fr HF.out fun k hk => HPA.out k (.inr (.inl hk))).nat k hkl
          have hx := HIN.out _ (gi_mem (l := P) (i := (k : Int)) (by omega) (by omega))
          have HAS := Lib.hid (addP_take P (-m) us k hkl)
          have HBD := Lib.hid (addP_bound (P := P.take k) (u := m) (s := us) (C := 0) HMP.out (fun i hi => by have := HIN.out i (List.mem_of_mem_take hi); have := HU.out; omega) (fun k hk => by have := HUS.out k hk; omega))
          generalize gi P k = x at g1 hx HAS
          obtain ⟨hx0, hx1⟩ := hx
          have hbx := HBD.out x.toNat (by have := HU.out; omega)
          rw [show ((x.toNat : Nat) : Int) = x by omega] at hbx
          have gu := (HC2.out.row HU2.out).cell x.toNat (by have := HU.out; have := HL2.out; omega)
          rw [show ((x.toNat : Nat) : Int) = x by omega] at gu
          have lg := HC2.out.lg
          have fg := (HC2.out.row HU2.out).frozen x.toNat
          have hxu : x < ((addP (P.take k) (-m) us).length : Int) := by have := HU.out; have := HL2.out; omega
          generalize addP (P.take k) (-m) us = ua at HC2 HL2 HU2 HAS hbx gu hxu c2
          clear HBD
          generalize hy : gi ua x = y at gu HAS hbx
          clear hy
          have hlt2 : (P.take k).length ≤ 1000 := by simp; omega
          have hmm := HMP.out
          obtain ⟨hm0, hm1⟩ := hmm
          have hy0 : -134217728000 ≤ y := by have := hbx.1; omega
          have hy1 : y ≤ 134217728 := hbx.2
          clear hbx hlt2
          have HC3 := Lib.hid (show CutW (wr.setCell ⟨g, x.toNat, none⟩ (.int .i64 (y - m))) R B q g N A c l (si ua x (y + -m)) cap ov ps from HC2.out.units ((Fr.refl wr _).set _ _ (.inl rfl)) (by have := (HC2.out.row HU2.out).set x.toNat (y - m); rw [show y + -m = y - m by omega]; exact this) (by simp [si]))
          have HF3 := Lib.hid (show Fr w (wr.setCell ⟨g, x.toNat, none⟩ (.int .i64 (y - m))) (fun k => k = g) from HF.out.set _ _ (.inl rfl))
          go_wp2
          go_roundw
          case rel => exact ⟨k + 1, by omega, by go_num, Lib.hid (by rw [HAS.out]; exact HC3.out), HF3⟩
          case measure => simp [intOf]; omega
        · obtain rfl : k = P.length := by omega
          have t2 : decide ((P.length : Int) < (P.length : Int)) = false := decide_eq_false (by omega)
          rw [List.take_length] at HC2
          have HL2 := Lib.hid (addP_len P (-m) us)
          obtain ⟨ua, hua⟩ : ∃ ua, addP P (-m) us = ua := ⟨_, rfl⟩
          rw [hua] at HC2 HL2
          have HUA := Lib.hid hua
          clear hua
          have HU2 := Lib.hid (show 0 < ua.length by rw [HL2.out]; exact HU0.out)
          obtain ⟨c0, c1, c2', c3⟩ := HC2.out.cells
          have c2 := c2' HU2.out
          clear c2'
          have lq := HC2.out.lq
          have HP2 := Lib.hid (HP.out.fr HF.out fun k hk => HPA.out k (.inr (.inl hk)))
          obtain ⟨b, o, rfl, g0⟩ := HP2.out 0 (by omega) (by omega)
          obtain ⟨n1, hn1⟩ : ∃ n1 : Nat, (P.length : Int) - 1 = (n1 : Int) := ⟨P.length - 1, by omega⟩
          have HN1 := Lib.hid hn1
          obtain ⟨b', o', e', g1⟩ := HP2.out (n1 : Int) (by omega) (by omega)
          cases e'
          have hx := HIN.out _ (gi_mem (l := P) (i := 0) (by omega) (by omega))
          have hz := HIN.out _ (gi_mem (l := P) (i := (n1 : Int)) (by omega) (by omega))
          obtain ⟨x, hgx⟩ : ∃ x, gi P 0 = x := ⟨_, rfl⟩
          obtain ⟨z, hgz⟩ : ∃ z, gi P (n1 : Int) = z := ⟨_, rfl⟩
          rw [hgx] at g0 hx
          rw [hgz] at g1 hz
          have HGX := Lib.hid hgx
          have HGZ := Lib.hid (show gi P ((P.length - 1 : Nat) : Int) = z by rw [show ((P.length - 1 : Nat) : Int) = (n1 : Int) by omega]; exact hgz)
          clear hgx hgz
          obtain ⟨hx0, hx1⟩ := hx
          obtain ⟨hz0, hz1⟩ := hz
          obtain ⟨ba, oa, rfl, a1, a2, a3⟩ := HC2.out.lks x hx0 hx1
          obtain ⟨bb, ob, e2, b1, b2, b3⟩ := HC2.out.lks z hz0 hz1
          cases e2
          obtain ⟨lx, hlx⟩ : ∃ lx, gl l x = lx := ⟨_, rfl⟩
          obtain ⟨lz, hlz⟩ : ∃ lz, gl l z = lz := ⟨_, rfl⟩
          rw [hlx] at a1 a2 a3
          rw [hlz] at b1 b2 b3
          have HLX := Lib.hid hlx
          have HLZ := Lib.hid hlz
          clear hlx hlz
          obtain ⟨xa, xb, xm⟩ := lx
          obtain ⟨za, zb, zm⟩ := lz
          simp only at a1 a2 a3 b1 b2 b3
          have lb := World.block_lt_of_cell? _ _ g0
          have la := World.block_lt_of_cell? _ _ a1
          dsimp only at lb la
          rw [show (0 : Int).toNat = 0 from rfl, Nat.add_zero] at g0
          have hw1 : IntKind.i64.wrap ((P.length : Int) - 1) = (n1 : Int) := by rw [IntKind.wrap_i64]; omega
          have i1 : 0 ≤ (n1 : Int) := by omega
          have i2 : (n1 : Int) < (P.length : Int) := by omega
          rw [Int.toNat_natCast] at g1
          clear hn1
          have i3 : 0 < (P.length : Int) := by omega
          go_upto_region 11 with fail
          have HQR := Lib.hid lq
          go_cut [9, 10] from 44 to 66 (fun p9 p10 wx => ∃ b9 b10 : Nat, p9 = .pointer (some ⟨b9, 0, none⟩) ∧ p10 = .pointer (some ⟨b10, 0, none⟩) ∧ Hid (wx.cell? ⟨b9, 0, none⟩ = some (.int .i64 xa) ∧ wx.cell? ⟨b10, 1, none⟩ = some (.int .i64 zb) ∧ wr.heap.size ≤ b9 ∧ wr.heap.size ≤ b10 ∧ b9 < wx.heap.size ∧ b10 < wx.heap.size ∧ Below wr.heap.size wr wx))
          case first =>
            go_region_held3 (fun w' => w'.cell? ⟨q, 1, none⟩ = some (.slice (some ⟨ba, oa, none⟩) l.length c) ∧ w'.cell? ⟨b, o, none⟩ = some (.int .i64 x) ∧ w'.cell? ⟨b, o + n1, none⟩ = some (.int .i64 z) ∧ w'.cell? ⟨ba, oa + x.toNat * 3, none⟩ = some (.int .i64 xa) ∧ w'.cell? ⟨ba, oa + x.toNat * 3 + 1, none⟩ = some (.int .i64 xb) ∧ w'.cell? ⟨ba, oa + x.toNat * 3 + 2, none⟩ = some (.int .i64 xm) ∧ w'.cell? ⟨ba, oa + z.toNat * 3, none⟩ = some (.int .i64 za) ∧ w'.cell? ⟨ba, oa + z.toNat * 3 + 1, none⟩ = some (.int .i64 zb) ∧ w'.cell? ⟨ba, oa + z.toNat * 3 + 2, none⟩ = some (.int .i64 zm)) (refine ⟨?_, ?_, ?_, ?_, ?_, ?_, ?_, ?_, ?_⟩ <;> (repeat' (first | assumption | refine cell_alloc _ ?_ | (refine cell_other ?_ (by first | (simp; done) | (simp; omega)))))) (fail)
            all_goals
              go_wp2_with fail
              go_meet
              exact ⟨_, _, rfl, rfl, Lib.hid ⟨by go_simp, by go_simp, by simp, by simp, by first | (simp [World.setCell]; done) | (simp [World.setCell]; omega), by first | (simp [World.setCell]; done) | (simp [World.setCell]; omega), bel⟩⟩
          case rest =>
            obtain ⟨b9, b10, rfl, rfl, HD⟩ := hcut
            rename World => wx
            obtain ⟨d9, d10, l9, l10, e9, e10, hbx⟩ := HD.out
            have HBX := Lib.hid hbx
            have HLQ := Lib.hid (show q < b9 ∧ q < b10 from ⟨Nat.lt_of_lt_of_le HQR.out l9, Nat.lt_of_lt_of_le HQR.out l10⟩)
            have HC3 := Lib.hid (HC2.out.below hbx)
            have HP3 := Lib.hid (HP2.out.below hbx)
            have HOV := Lib.hid (show ∀ k, ov.ownBlock = some k → k < b9 ∧ k < b10 from fun k hk => by have := HC2.out.lo hk; omega)
            have HSZ := Lib.hid hbx.size
            clear hbx l9 l10 c0 c1 c2 c3 lq HQR a1 a2 a3 b1 b2 b3 g0 g1 hw1 i1 i2 i3 la lb hx0 hx1 hz0 hz1 HD
            obtain ⟨c0, c1, c2', c3⟩ := HC3.out.cells
            have f3 : wx.frozen? ⟨q, 3, none⟩ = false := by simp [World.frozen?, HC3.out.box1 HU2.out]
            clear c2'
            have lq := HC3.out.lq
            go_upto_region 12 with fail
            have HW5 := Lib.hid (show w.heap.size ≤ wx.heap.size from Nat.le_trans HF.out.size HSZ.out)
            refine wp_region_held_drew (S := fun w' => w'.cell? ⟨b9, 0, none⟩ = some (.int .i64 xa) ∧ w'.cell? ⟨b10, 1, none⟩ = some (.int .i64 zb)) (by kernel_rfl) ⟨d9, d10⟩ (fun hHeld => ?_)
            refine wpAnyH_take (i := 0) (v := ?_) rfl (by kernel_rfl) (by kernel_rfl) (by kernel_rfl) (fun _ _ _ h => h) (Or.inl ⟨by rfl, ?hyy⟩) (by assumption) ?_
            case hyy => (intro w hSw; (try dsimp only at hSw); go_simp; all_goals (with_reducible rfl))
            try simp only [List.getElem_toArray, List.getElem_cons_zero, List.getElem_cons_succ, Act.put, List.setIfInBounds_toArray, List.set_cons_zero, List.set_cons_succ]
            refine wpAnyH_take (i := 1) (v := ?_) rfl (by kernel_rfl) (by kernel_rfl) (by kernel_rfl) (fun _ _ _ h => h) (Or.inl ⟨by rfl, ?hyy⟩) (by assumption) ?_
            case hyy => (intro w hSw; (try dsimp only at hSw); go_simp; all_goals (with_reducible rfl))
            try simp only [List.getElem_toArray, List.getElem_cons_zero, List.getElem_cons_succ, Act.put, List.setIfInBounds_toArray, List.set_cons_zero, List.set_cons_succ]
            refine wpAnyH_take (i := 2) (v := ?_) rfl (by kernel_rfl) (by kernel_rfl) (by kernel_rfl) (fun _ _ _ h => h) (Or.inl ⟨by rfl, ?hyy⟩) (by assumption) ?_
            case hyy => (intro w hSw; (try dsimp only at hSw); go_simp; all_goals (with_reducible rfl))
            try simp only [List.getElem_toArray, List.getElem_cons_zero, List.getElem_cons_succ, Act.put, List.setIfInBounds_toArray, List.set_cons_zero, List.set_cons_succ]
            refine wpAnyH_take (i := 3) (v := ?_) rfl (by kernel_rfl) (by kernel_rfl) (by kernel_rfl) (fun _ _ _ h => h) (Or.inl ⟨by rfl, ?hyy⟩) (by assumption) ?_
            case hyy => (intro w hSw; (try dsimp only at hSw); go_simp; all_goals (with_reducible rfl))
            try simp only [List.getElem_toArray, List.getElem_cons_zero, List.getElem_cons_succ, Act.put, List.setIfInBounds_toArray, List.set_cons_zero, List.set_cons_succ]
            refine wpAnyH_take (i := 5) (v := ?_) rfl (by kernel_rfl) (by kernel_rfl) (by kernel_rfl) (fun _ _ _ h => h) (Or.inl ⟨by rfl, ?hyy⟩) (by assumption) ?_
            case hyy => (intro w hSw; (try dsimp only at hSw); go_simp; all_goals (with_reducible rfl))
            try simp only [List.getElem_toArray, List.getElem_cons_zero, List.getElem_cons_succ, Act.put, List.setIfInBounds_toArray, List.set_cons_zero, List.set_cons_succ]
            refine wpAnyH_take (i := 6) (v := ?_) rfl (by kernel_rfl) (by kernel_rfl) (by kernel_rfl) (fun _ _ _ h => h) (Or.inl ⟨by rfl, ?hyy⟩) (by assumption) ?_
            case hyy => (intro w hSw; (try dsimp only at hSw); go_simp; all_goals (with_reducible rfl))
            try simp only [List.getElem_toArray, List.getElem_cons_zero, List.getElem_cons_succ, Act.put, List.setIfInBounds_toArray, List.set_cons_zero, List.set_cons_succ]
            refine wpAnyH_take (i := 7) (v := ?_) rfl (by kernel_rfl) (by kernel_rfl) (by kernel_rfl) (fun _ _ _ h => h) (Or.inl ⟨by rfl, ?hyy⟩) (by assumption) ?_
            case hyy => (intro w hSw; (try dsimp only at hSw); go_simp; all_goals (with_reducible rfl))
            try simp only [List.getElem_toArray, List.getElem_cons_zero, List.getElem_cons_succ, Act.put, List.setIfInBounds_toArray, List.set_cons_zero, List.set_cons_succ]
            refine wpAnyH_take (i := 8) (v := ?_) rfl (by kernel_rfl) (by kernel_rfl) (by kernel_rfl) (fun _ _ _ h => h) (Or.inl ⟨by rfl, ?hyy⟩) (by assumption) ?_
            case hyy => (intro w hSw; (try dsimp only at hSw); go_simp; all_goals (with_reducible rfl))
            try simp only [List.getElem_toArray, List.getElem_cons_zero, List.getElem_cons_succ, Act.put, List.setIfInBounds_toArray, List.set_cons_zero, List.set_cons_succ]
            refine wpAnyH_take (i := 9) (v := ?_) rfl (by kernel_rfl) (by kernel_rfl) (by kernel_rfl) (fun _ _ _ h => h) (Or.inl ⟨by rfl, ?hyy⟩) (by assumption) ?_
            case hyy => (intro w hSw; (try dsimp only at hSw); go_simp; all_goals (with_reducible rfl))
            try simp only [List.getElem_toArray, List.getElem_cons_zero, List.getElem_cons_succ, Act.put, List.setIfInBounds_toArray, List.set_cons_zero, List.set_cons_succ]
            refine wpAnyH_take (i := 11) (v := ?_) rfl (by kernel_rfl) (by kernel_rfl) (by kernel_rfl) (fun _ _ _ h => h) (Or.inl ⟨by rfl, ?hyy⟩) (by assumption) ?_
            case hyy => (intro w hSw; (try dsimp only at hSw); go_simp; all_goals (with_reducible rfl))
            try simp only [List.getElem_toArray, List.getElem_cons_zero, List.getElem_cons_succ, Act.put, List.setIfInBounds_toArray, List.set_cons_zero, List.set_cons_succ]
            refine wpAnyH_ready (rs := [4, 10]) (by kernel_rfl) (by simp) ?_
            refine AllReadyH.cons rfl (fun K hK => ?h4) (AllReadyH.cons rfl (fun K hK => ?h10) AllReadyH.nil)
            case h4 =>
              try (have c3a := cell_alloc (Obj.cells #[.int .i64 xa, .int .i64 zb, .slice A2 P.length c2, .int .i64 m] 72) c3)
              go_simp
              refine hK.out _ _ (by refine ⟨?_, ?_⟩ <;> (repeat' (first | exact d9 | exact d10 | refine cell_alloc _ ?_ | refine cell_grown hg7 ?_ ?_ | (intro e; have hzz := HOV.out _ e.symm; dsimp only at hzz; omega) | refine cell_below hb6' ?_ | (refine cell_other ?_ (by have := HLQ.out; simp; omega))))) (fun hHeldN1 => ?_)
              clear hK K
              try simp only [List.getElem_toArray, List.getElem_cons_zero, List.getElem_cons_succ, Act.put, List.setIfInBounds_toArray, List.set_cons_zero, List.set_cons_succ]
              refine wpAnyH_ready (rs := [10]) (by kernel_rfl) (by simp) ?_
              refine AllReadyH.cons rfl (fun K hK => ?_) AllReadyH.nil
              go_simp
              go_at_call 97
              refine (clone_ints _ pc P _ (by omega) (fun e => by cases e) (by first | exact HP3.out | exact HP3.out.drew)).mono ?_
              rintro e w6 ⟨v6, rfl, ho6, hb6'⟩
              obtain ⟨A2, c2, rfl, _, _, hA2⟩ := own_slice ho6
              have HV6 := Lib.hid (own_ints ho6)
              have HA6 := Lib.hid (show ∀ ad, A2 = some ad → wx.heap.size ≤ ad.block ∧ ad.block < w6.heap.size from fun ad e => (hA2 ad e).2)
              have HB6 := Lib.hid (below_undrew hb6')
              have HC6 := Lib.hid (HC3.out.below HB6.out)
              clear c3
              obtain ⟨-, -, -, c3⟩ := HC6.out.cells
              clear ho6 hA2
              refine hK.out _ _ (by refine ⟨?_, ?_⟩ <;> (repeat' (first | exact d9 | exact d10 | refine cell_alloc _ ?_ | refine cell_grown hg7 ?_ ?_ | (intro e; have hzz := HOV.out _ e.symm; dsimp only at hzz; omega) | refine cell_below hb6' ?_ | (refine cell_other ?_ (by have := HLQ.out; simp; omega))))) (fun hHeldN2 => ?_)
              clear hK K
              try simp only [List.getElem_toArray, List.getElem_cons_zero, List.getElem_cons_succ, Act.put, List.setIfInBounds_toArray, List.set_cons_zero, List.set_cons_succ]
              refine wpAnyH_take (i := 12) (v := ?_) rfl (by kernel_rfl) (by kernel_rfl) (by kernel_rfl) (fun _ _ _ h => h) (Or.inl ⟨by rfl, ?hyy⟩) (by assumption) ?_
              case hyy => (intro w hSw; (try dsimp only at hSw); go_simp; all_goals (with_reducible rfl))
              try simp only [List.getElem_toArray, List.getElem_cons_zero, List.getElem_cons_succ, Act.put, List.setIfInBounds_toArray, List.set_cons_zero, List.set_cons_succ]
              refine wpAnyH_ready (rs := [13]) (by kernel_rfl) (by simp) ?_
              refine AllReadyH.cons rfl (fun K hK => ?_) AllReadyH.nil
              go_simp
              refine hK.out _ _ (by refine ⟨?_, ?_⟩ <;> (repeat' (first | exact d9 | exact d10 | refine cell_alloc _ ?_ | refine cell_grown hg7 ?_ ?_ | (intro e; have hzz := HOV.out _ e.symm; dsimp only at hzz; omega) | refine cell_below hb6' ?_ | (refine cell_other ?_ (by have := HLQ.out; simp; omega))))) (fun hHeldN3 => ?_)
              clear hK K
              try simp only [List.getElem_toArray, List.getElem_cons_zero, List.getElem_cons_succ, Act.put, List.setIfInBounds_toArray, List.set_cons_zero, List.set_cons_succ]
              refine wpAnyH_ready (rs := [14]) (by kernel_rfl) (by simp) ?_
              refine AllReadyH.cons rfl (fun K hK => ?_) AllReadyH.nil
              refine step_append_lies _ rfl (.tmp 71) (.tmp 80) 68 rfl B 72 i0 (.agg #[.int .i64 0, .int .i64 0, .slice none 0 0, .int .i64 0]) 4 48 Try.underlying68 HI.out Hz0.out Hz1.out Hz2.out rfl (by omega) ov ps.length (pcs ps) (by simp [Act.eval, Act.put]) (HC6.out.own.alloc _) ⟨w6.heap.size, 0, none⟩ 1 1 (pcv (⟨xa, zb, P, m⟩, .slice A2 P.length c2)) (by simp [Act.eval, Act.put]) rfl (news_new _ (pcv (⟨xa, zb, P, m⟩, .slice A2 P.length c2)) 72 _ (by simp)) (pcv_one _ rfl) (by omega) (by unfold maxLen; omega) (by omega) (by have := HB.out; have := HW5.out; have := HB6.out.size; simp; omega) (w6.heap.size + 1) (by simp) ?_
              intro g5 cap5 w7 hown5 hgrow5 hat5 hlt5
              have hg7 := (show w6.grownBy w7 ov.ownBlock by first | exact grown_news hgrow5 | exact grown_news2 hgrow5)
              have hcp := grown_heap hg7 (HC6.out.box1 HU2.out) HC6.out.lq HC6.out.oq
              have e0 := cell_of_heap hcp 3
              have f0 := frozen_of_heap hcp 3
              have le0 := (Array.getElem?_eq_some_iff.1 hcp).1
              refine hK.out _ _ (by refine ⟨?_, ?_⟩ <;> (repeat' (first | exact d9 | exact d10 | refine cell_alloc _ ?_ | refine cell_grown hg7 ?_ ?_ | (intro e; have hzz := HOV.out _ e.symm; dsimp only at hzz; omega) | refine cell_below hb6' ?_ | (refine cell_other ?_ (by have := HLQ.out; simp; omega))))) (fun hHeldN4 => ?_)
              clear hK K
              try simp only [List.getElem_toArray, List.getElem_cons_zero, List.getElem_cons_succ, Act.put, List.setIfInBounds_toArray, List.set_cons_zero, List.set_cons_succ]
              refine wpAnyH_take (i := 15) (v := ?_) rfl (by kernel_rfl) (by kernel_rfl) (by kernel_rfl) (fun _ _ _ h => h) (Or.inl ⟨by rfl, ?hyy⟩) (by assumption) ?_
              case hyy => (intro w hSw; (try dsimp only at hSw); go_simp; all_goals (with_reducible rfl))
              try simp only [List.getElem_toArray, List.getElem_cons_zero, List.getElem_cons_succ, Act.put, List.setIfInBounds_toArray, List.set_cons_zero, List.set_cons_succ]
              refine wpAnyH_take (i := 16) (v := ?_) rfl (by kernel_rfl) (by kernel_rfl) (by kernel_rfl) (fun _ _ _ h => h) (Or.inl ⟨by rfl, ?hyy⟩) (by assumption) ?_
              case hyy => (intro w hSw; (try dsimp only at hSw); go_simp; all_goals (with_reducible rfl))
              try simp only [List.getElem_toArray, List.getElem_cons_zero, List.getElem_cons_succ, Act.put, List.setIfInBounds_toArray, List.set_cons_zero, List.set_cons_succ]
              refine wpAnyH_ready (rs := [17]) (by kernel_rfl) (by simp) ?_
              refine AllReadyH.cons rfl (fun K hK => ?_) AllReadyH.nil
              go_simp
              refine hK.out _ _ (by refine ⟨?_, ?_⟩ <;> (repeat' (first | exact d9 | exact d10 | refine cell_alloc _ ?_ | refine cell_grown hg7 ?_ ?_ | (intro e; have hzz := HOV.out _ e.symm; dsimp only at hzz; omega) | refine cell_below hb6' ?_ | (refine cell_other ?_ (by have := HLQ.out; simp; omega))))) (fun hHeldN5 => ?_)
              clear hK K
              try simp only [List.getElem_toArray, List.getElem_cons_zero, List.getElem_cons_succ, Act.put, List.setIfInBounds_toArray, List.set_cons_zero, List.set_cons_succ]
              refine wpAnyH_done (by kernel_rfl) ?_ _
              have HFIN := Lib.hid (HC3.out.finish HU2.out (p := ⟨xa, zb, P, m⟩) (c2 := c2) HB6.out HV6.out HA6.out hown5 hg7 (hat5.imp id (fun e => by omega)) (fun k hk => by have := HR.out k hk; have := HW5.out; omega))
              have HFR := Lib.hid ((HF.out.below HBX.out).mono (T := fun k => k = q ∨ k = g ∨ ov.ownBlock = some k) (fun i e => .inr (.inl e)))
              clear hown5 hgrow5 hat5 hlt5 hcp e0 f0 le0 hg7 d9 d10 c0 c1 c3 lq f3
              go_wp2_with fail
              go_end0
              refine ⟨rfl, Value.slice (some ⟨g5, 0, none⟩) (ps.length + 1) cap5, ⟨Value.slice A2 P.length c2, ?_⟩, ?_, ?_⟩
              · rw [HUA.out, HGX.out, HGZ.out, HLX.out, HLZ.out]
                exact HFIN.out.1
              · exact HFR.out.trans HFIN.out.2.1 (fun i hi => by rcases hi with hi | hi; exact .inl (.inl hi); exact .inl (.inr (.inr hi)))
              · intro k hk
                rcases HFIN.out.2.2 k hk with h | h
                · exact .inl h
                · exact .inr (Nat.le_trans HW5.out h)
            case h10 =>
              go_simp
              go_at_call 97
              refine (clone_ints _ pc P _ (by omega) (fun e => by cases e) (by first | exact HP3.out | exact HP3.out.drew)).mono ?_
              rintro e w6 ⟨v6, rfl, ho6, hb6'⟩
              obtain ⟨A2, c2, rfl, _, _, hA2⟩ := own_slice ho6
              have HV6 := Lib.hid (own_ints ho6)
              have HA6 := Lib.hid (show ∀ ad, A2 = some ad → wx.heap.size ≤ ad.block ∧ ad.block < w6.heap.size from fun ad e => (hA2 ad e).2)
              have HB6 := Lib.hid (below_undrew hb6')
              have HC6 := Lib.hid (HC3.out.below HB6.out)
              clear c3
              obtain ⟨-, -, -, c3⟩ := HC6.out.cells
              clear ho6 hA2
              refine hK.out _ _ (by refine ⟨?_, ?_⟩ <;> (repeat' (first | exact d9 | exact d10 | refine cell_alloc _ ?_ | refine cell_grown hg7 ?_ ?_ | (intro e; have hzz := HOV.out _ e.symm; dsimp only at hzz; omega) | refine cell_below hb6' ?_ | (refine cell_other ?_ (by have := HLQ.out; simp; omega))))) (fun hHeldN6 => ?_)
              clear hK K
              try simp only [List.getElem_toArray, List.getElem_cons_zero, List.getElem_cons_succ, Act.put, List.setIfInBounds_toArray, List.set_cons_zero, List.set_cons_succ]
              refine wpAnyH_take (i := 12) (v := ?_) rfl (by kernel_rfl) (by kernel_rfl) (by kernel_rfl) (fun _ _ _ h => h) (Or.inl ⟨by rfl, ?hyy⟩) (by assumption) ?_
              case hyy => (intro w hSw; (try dsimp only at hSw); go_simp; all_goals (with_reducible rfl))
              try simp only [List.getElem_toArray, List.getElem_cons_zero, List.getElem_cons_succ, Act.put, List.setIfInBounds_toArray, List.set_cons_zero, List.set_cons_succ]
              refine wpAnyH_ready (rs := [4, 13]) (by kernel_rfl) (by simp) ?_
              refine AllReadyH.cons rfl (fun K hK => ?h4) (AllReadyH.cons rfl (fun K hK => ?h13) AllReadyH.nil)
              case h4 =>
                try (have c3a := cell_alloc (Obj.cells #[.int .i64 xa, .int .i64 zb, .slice A2 P.length c2, .int .i64 m] 72) c3)
                go_simp
                refine hK.out _ _ (by refine ⟨?_, ?_⟩ <;> (repeat' (first | exact d9 | exact d10 | refine cell_alloc _ ?_ | refine cell_grown hg7 ?_ ?_ | (intro e; have hzz := HOV.out _ e.symm; dsimp only at hzz; omega) | refine cell_below hb6' ?_ | (refine cell_other ?_ (by have := HLQ.out; simp; omega))))) (fun hHeldN7 => ?_)
                clear hK K
                try simp only [List.getElem_toArray, List.getElem_cons_zero, List.getElem_cons_succ, Act.put, List.setIfInBounds_toArray, List.set_cons_zero, List.set_cons_succ]
                refine wpAnyH_ready (rs := [13]) (by kernel_rfl) (by simp) ?_
                refine AllReadyH.cons rfl (fun K hK => ?_) AllReadyH.nil
                go_simp
                refine hK.out _ _ (by refine ⟨?_, ?_⟩ <;> (repeat' (first | exact d9 | exact d10 | refine cell_alloc _ ?_ | refine cell_grown hg7 ?_ ?_ | (intro e; have hzz := HOV.out _ e.symm; dsimp only at hzz; omega) | refine cell_below hb6' ?_ | (refine cell_other ?_ (by have := HLQ.out; simp; omega))))) (fun hHeldN8 => ?_)
                clear hK K
                try simp only [List.getElem_toArray, List.getElem_cons_zero, List.getElem_cons_succ, Act.put, List.setIfInBounds_toArray, List.set_cons_zero, List.set_cons_succ]
                refine wpAnyH_ready (rs := [14]) (by kernel_rfl) (by simp) ?_
                refine AllReadyH.cons rfl (fun K hK => ?_) AllReadyH.nil
                refine step_append_lies _ rfl (.tmp 71) (.tmp 80) 68 rfl B 72 i0 (.agg #[.int .i64 0, .int .i64 0, .slice none 0 0, .int .i64 0]) 4 48 Try.underlying68 HI.out Hz0.out Hz1.out Hz2.out rfl (by omega) ov ps.length (pcs ps) (by simp [Act.eval, Act.put]) (HC6.out.own.alloc _) ⟨w6.heap.size, 0, none⟩ 1 1 (pcv (⟨xa, zb, P, m⟩, .slice A2 P.length c2)) (by simp [Act.eval, Act.put]) rfl (news_new _ (pcv (⟨xa, zb, P, m⟩, .slice A2 P.length c2)) 72 _ (by simp)) (pcv_one _ rfl) (by omega) (by unfold maxLen; omega) (by omega) (by have := HB.out; have := HW5.out; have := HB6.out.size; simp; omega) (w6.heap.size + 1) (by simp) ?_
                intro g5 cap5 w7 hown5 hgrow5 hat5 hlt5
                have hg7 := (show w6.grownBy w7 ov.ownBlock by first | exact grown_news hgrow5 | exact grown_news2 hgrow5)
                have hcp := grown_heap hg7 (HC6.out.box1 HU2.out) HC6.out.lq HC6.out.oq
                have e0 := cell_of_heap hcp 3
                have f0 := frozen_of_heap hcp 3
                have le0 := (Array.getElem?_eq_some_iff.1 hcp).1
                refine hK.out _ _ (by refine ⟨?_, ?_⟩ <;> (repeat' (first | exact d9 | exact d10 | refine cell_alloc _ ?_ | refine cell_grown hg7 ?_ ?_ | (intro e; have hzz := HOV.out _ e.symm; dsimp only at hzz; omega) | refine cell_below hb6' ?_ | (refine cell_other ?_ (by have := HLQ.out; simp; omega))))) (fun hHeldN9 => ?_)
                clear hK K
                try simp only [List.getElem_toArray, List.getElem_cons_zero, List.getElem_cons_succ, Act.put, List.setIfInBounds_toArray, List.set_cons_zero, List.set_cons_succ]
                refine wpAnyH_take (i := 15) (v := ?_) rfl (by kernel_rfl) (by kernel_rfl) (by kernel_rfl) (fun _ _ _ h => h) (Or.inl ⟨by rfl, ?hyy⟩) (by assumption) ?_
                case hyy => (intro w hSw; (try dsimp only at hSw); go_simp; all_goals (with_reducible rfl))
                try simp only [List.getElem_toArray, List.getElem_cons_zero, List.getElem_cons_succ, Act.put, List.setIfInBounds_toArray, List.set_cons_zero, List.set_cons_succ]
                refine wpAnyH_take (i := 16) (v := ?_) rfl (by kernel_rfl) (by kernel_rfl) (by kernel_rfl) (fun _ _ _ h => h) (Or.inl ⟨by rfl, ?hyy⟩) (by assumption) ?_
                case hyy => (intro w hSw; (try dsimp only at hSw); go_simp; all_goals (with_reducible rfl))
                try simp only [List.getElem_toArray, List.getElem_cons_zero, List.getElem_cons_succ, Act.put, List.setIfInBounds_toArray, List.set_cons_zero, List.set_cons_succ]
                refine wpAnyH_ready (rs := [17]) (by kernel_rfl) (by simp) ?_
                refine AllReadyH.cons rfl (fun K hK => ?_) AllReadyH.nil
                go_simp
                refine hK.out _ _ (by refine ⟨?_, ?_⟩ <;> (repeat' (first | exact d9 | exact d10 | refine cell_alloc _ ?_ | refine cell_grown hg7 ?_ ?_ | (intro e; have hzz := HOV.out _ e.symm; dsimp only at hzz; omega) | refine cell_below hb6' ?_ | (refine cell_other ?_ (by have := HLQ.out; simp; omega))))) (fun hHeldN10 => ?_)
                clear hK K
                try simp only [List.getElem_toArray, List.getElem_cons_zero, List.getElem_cons_succ, Act.put, List.setIfInBounds_toArray, List.set_cons_zero, List.set_cons_succ]
                refine wpAnyH_done (by kernel_rfl) ?_ _
                have HFIN := Lib.hid (HC3.out.finish HU2.out (p := ⟨xa, zb, P, m⟩) (c2 := c2) HB6.out HV6.out HA6.out hown5 hg7 (hat5.imp id (fun e => by omega)) (fun k hk => by have := HR.out k hk; have := HW5.out; omega))
                have HFR := Lib.hid ((HF.out.below HBX.out).mono (T := fun k => k = q ∨ k = g ∨ ov.ownBlock = some k) (fun i e => .inr (.inl e)))
                clear hown5 hgrow5 hat5 hlt5 hcp e0 f0 le0 hg7 d9 d10 c0 c1 c3 lq f3
                go_wp2_with fail
                go_end0
                refine ⟨rfl, Value.slice (some ⟨g5, 0, none⟩) (ps.length + 1) cap5, ⟨Value.slice A2 P.length c2, ?_⟩, ?_, ?_⟩
                · rw [HUA.out, HGX.out, HGZ.out, HLX.out, HLZ.out]
                  exact HFIN.out.1
                · exact HFR.out.trans HFIN.out.2.1 (fun i hi => by rcases hi with hi | hi; exact .inl (.inl hi); exact .inl (.inr (.inr hi)))
                · intro k hk
                  rcases HFIN.out.2.2 k hk with h | h
                  · exact .inl h
                  · exact .inr (Nat.le_trans HW5.out h)
              case h13 =>
                go_simp
                refine hK.out _ _ (by refine ⟨?_, ?_⟩ <;> (repeat' (first | exact d9 | exact d10 | refine cell_alloc _ ?_ | refine cell_grown hg7 ?_ ?_ | (intro e; have hzz := HOV.out _ e.symm; dsimp only at hzz; omega) | refine cell_below hb6' ?_ | (refine cell_other ?_ (by have := HLQ.out; simp; omega))))) (fun hHeldN11 => ?_)
                clear hK K
                try simp only [List.getElem_toArray, List.getElem_cons_zero, List.getElem_cons_succ, Act.put, List.setIfInBounds_toArray, List.set_cons_zero, List.set_cons_succ]
                refine wpAnyH_ready (rs := [4]) (by kernel_rfl) (by simp) ?_
                refine AllReadyH.cons rfl (fun K hK => ?_) AllReadyH.nil
                try (have c3a := cell_alloc (Obj.cells #[.int .i64 xa, .int .i64 zb, .slice A2 P.length c2, .int .i64 m] 72) c3)
                go_simp
                refine hK.out _ _ (by refine ⟨?_, ?_⟩ <;> (repeat' (first | exact d9 | exact d10 | refine cell_alloc _ ?_ | refine cell_grown hg7 ?_ ?_ | (intro e; have hzz := HOV.out _ e.symm; dsimp only at hzz; omega) | refine cell_below hb6' ?_ | (refine cell_other ?_ (by have := HLQ.out; simp; omega))))) (fun hHeldN12 => ?_)
                clear hK K
                try simp only [List.getElem_toArray, List.getElem_cons_zero, List.getElem_cons_succ, Act.put, List.setIfInBounds_toArray, List.set_cons_zero, List.set_cons_succ]
                refine wpAnyH_ready (rs := [14]) (by kernel_rfl) (by simp) ?_
                refine AllReadyH.cons rfl (fun K hK => ?_) AllReadyH.nil
                refine step_append_lies _ rfl (.tmp 71) (.tmp 80) 68 rfl B 72 i0 (.agg #[.int .i64 0, .int .i64 0, .slice none 0 0, .int .i64 0]) 4 48 Try.underlying68 HI.out Hz0.out Hz1.out Hz2.out rfl (by omega) ov ps.length (pcs ps) (by simp [Act.eval, Act.put]) (HC6.out.own.alloc _) ⟨w6.heap.size, 0, none⟩ 1 1 (pcv (⟨xa, zb, P, m⟩, .slice A2 P.length c2)) (by simp [Act.eval, Act.put]) rfl (news_new _ (pcv (⟨xa, zb, P, m⟩, .slice A2 P.length c2)) 72 _ (by simp)) (pcv_one _ rfl) (by omega) (by unfold maxLen; omega) (by omega) (by have := HB.out; have := HW5.out; have := HB6.out.size; simp; omega) (w6.heap.size + 1) (by simp) ?_
                intro g5 cap5 w7 hown5 hgrow5 hat5 hlt5
                have hg7 := (show w6.grownBy w7 ov.ownBlock by first | exact grown_news hgrow5 | exact grown_news2 hgrow5)
                have hcp := grown_heap hg7 (HC6.out.box1 HU2.out) HC6.out.lq HC6.out.oq
                have e0 := cell_of_heap hcp 3
                have f0 := frozen_of_heap hcp 3
                have le0 := (Array.getElem?_eq_some_iff.1 hcp).1
                refine hK.out _ _ (by refine ⟨?_, ?_⟩ <;> (repeat' (first | exact d9 | exact d10 | refine cell_alloc _ ?_ | refine cell_grown hg7 ?_ ?_ | (intro e; have hzz := HOV.out _ e.symm; dsimp only at hzz; omega) | refine cell_below hb6' ?_ | (refine cell_other ?_ (by have := HLQ.out; simp; omega))))) (fun hHeldN13 => ?_)
                clear hK K
                try simp only [List.getElem_toArray, List.getElem_cons_zero, List.getElem_cons_succ, Act.put, List.setIfInBounds_toArray, List.set_cons_zero, List.set_cons_succ]
                refine wpAnyH_take (i := 15) (v := ?_) rfl (by kernel_rfl) (by kernel_rfl) (by kernel_rfl) (fun _ _ _ h => h) (Or.inl ⟨by rfl, ?hyy⟩) (by assumption) ?_
                case hyy => (intro w hSw; (try dsimp only at hSw); go_simp; all_goals (with_reducible rfl))
                try simp only [List.getElem_toArray, List.getElem_cons_zero, List.getElem_cons_succ, Act.put, List.setIfInBounds_toArray, List.set_cons_zero, List.set_cons_succ]
                refine wpAnyH_take (i := 16) (v := ?_) rfl (by kernel_rfl) (by kernel_rfl) (by kernel_rfl) (fun _ _ _ h => h) (Or.inl ⟨by rfl, ?hyy⟩) (by assumption) ?_
                case hyy => (intro w hSw; (try dsimp only at hSw); go_simp; all_goals (with_reducible rfl))
                try simp only [List.getElem_toArray, List.getElem_cons_zero, List.getElem_cons_succ, Act.put, List.setIfInBounds_toArray, List.set_cons_zero, List.set_cons_succ]
                refine wpAnyH_ready (rs := [17]) (by kernel_rfl) (by simp) ?_
                refine AllReadyH.cons rfl (fun K hK => ?_) AllReadyH.nil
                go_simp
                refine hK.out _ _ (by refine ⟨?_, ?_⟩ <;> (repeat' (first | exact d9 | exact d10 | refine cell_alloc _ ?_ | refine cell_grown hg7 ?_ ?_ | (intro e; have hzz := HOV.out _ e.symm; dsimp only at hzz; omega) | refine cell_below hb6' ?_ | (refine cell_other ?_ (by have := HLQ.out; simp; omega))))) (fun hHeldN14 => ?_)
                clear hK K
                try simp only [List.getElem_toArray, List.getElem_cons_zero, List.getElem_cons_succ, Act.put, List.setIfInBounds_toArray, List.set_cons_zero, List.set_cons_succ]
                refine wpAnyH_done (by kernel_rfl) ?_ _
                have HFIN := Lib.hid (HC3.out.finish HU2.out (p := ⟨xa, zb, P, m⟩) (c2 := c2) HB6.out HV6.out HA6.out hown5 hg7 (hat5.imp id (fun e => by omega)) (fun k hk => by have := HR.out k hk; have := HW5.out; omega))
                have HFR := Lib.hid ((HF.out.below HBX.out).mono (T := fun k => k = q ∨ k = g ∨ ov.ownBlock = some k) (fun i e => .inr (.inl e)))
                clear hown5 hgrow5 hat5 hlt5 hcp e0 f0 le0 hg7 d9 d10 c0 c1 c3 lq f3
                go_wp2_with fail
                go_end0
                refine ⟨rfl, Value.slice (some ⟨g5, 0, none⟩) (ps.length + 1) cap5, ⟨Value.slice A2 P.length c2, ?_⟩, ?_, ?_⟩
                · rw [HUA.out, HGX.out, HGZ.out, HLX.out, HLZ.out]
                  exact HFIN.out.1
                · exact HFR.out.trans HFIN.out.2.1 (fun i hi => by rcases hi with hi | hi; exact .inl (.inl hi); exact .inl (.inr (.inr hi)))
                · intro k hk
                  rcases HFIN.out.2.2 k hk with h | h
                  · exact .inl h
                  · exact .inr (Nat.le_trans HW5.out h)

theorem look_del : ∀ (m : List (Int × Value)) (k j : Int), (m.map (·.1)).Nodup → lookI (delI m k) j = if j = k then none else lookI m j
  | [], k, j, _ => by simp [delI, lookI]
  | (k', v') :: m, k, j, h => by
    have h2 : (m.map (·.1)).Nodup := (List.nodup_cons.1 (by simpa using h)).2
    have h3 : k' ∉ m.map (·.1) := (List.nodup_cons.1 (by simpa using h)).1
    have hno : ∀ m : List (Int × Value), k' ∉ m.map (·.1) → lookI m k' = none := by
      intro m
      induction m with
      | nil => intro _; rfl
      | cons p m ih =>
        obtain ⟨a, b⟩ := p
        intro h
        simp only [List.map_cons, List.mem_cons, not_or] at h
        unfold lookI
        have : (a == k') = false := by simpa using fun e => h.1 e.symm
        rw [this]
        exact ih h.2
    unfold delI
    by_cases e : k' = k
    · subst e
      rw [if_pos (by simp)]
      by_cases e2 : j = k'
      · subst e2; rw [if_pos rfl]; exact hno m h3
      · rw [if_neg e2]
        conv => rhs; unfold lookI
        have : (k' == j) = false := by simpa using fun e => e2 e.symm
        rw [this]; rfl
    · have e1 : (k' == k) = false := by simpa using e
      rw [e1]
      simp only [Bool.false_eq_true, if_false, lookI]
      rw [look_del m k j h2]
      by_cases e2 : k' = j
      · subst e2; simp [e]
      · have e3 : (k' == j) = false := by simpa using e2
        simp [e3]
theorem keys_put : ∀ (m : List (Int × Value)) (k : Int) (v : Value), (putI m k v).map (·.1) = if k ∈ m.map (·.1) then m.map (·.1) else m.map (·.1) ++ [k]
  | [], k, v => by simp [putI]
  | (k', v') :: m, k, v => by
    unfold putI
    by_cases e : k' = k
    · subst e; simp
    · have e1 : (k' == k) = false := by simpa using e
      rw [e1]
      simp only [Bool.false_eq_true, if_false, List.map_cons, List.mem_cons]
      rw [keys_put m k v]
      by_cases e2 : k ∈ m.map (·.1)
      · rw [if_pos e2, if_pos (.inr e2)]
      · rw [if_neg e2, if_neg (by rintro (h | h); exact e h.symm; exact e2 h)]
        rfl
theorem put_nodup {m : List (Int × Value)} (k : Int) (v : Value) (h : (m.map (·.1)).Nodup) : ((putI m k v).map (·.1)).Nodup := by
  rw [keys_put]
  split
  · exact h
  · rename_i hn
    rw [List.nodup_append]
    exact ⟨h, by simp, fun a ha b hb => by simp at hb; subst hb; exact fun e => hn (e ▸ ha)⟩
theorem del_sub : ∀ (m : List (Int × Value)) (k : Int), ((delI m k).map (·.1)).Sublist (m.map (·.1))
  | [], _ => by simp [delI]
  | (k', v') :: m, k => by
    unfold delI
    split
    · simp
    · simpa using del_sub m k
theorem del_nodup {m : List (Int × Value)} (k : Int) (h : (m.map (·.1)).Nodup) : ((delI m k).map (·.1)).Nodup := (del_sub m k).nodup h

/-- The walk of a search for rings: its nodes differ, none is done, its links bear units. -/
structure Rg (N : Nat) (l : List Lk) (us : List Int) (D : Int → Bool) (s : Int) (P : List Int) (t : Int) : Prop where
  walk : ∃ c, WI l s P t c
  dif : ∀ i j : Nat, i < j → j ≤ P.length → nd l s P i ≠ nd l s P j
  nod : ∀ j : Nat, j ≤ P.length → D (nd l s P j) = false
  pos : ∀ i ∈ P, 0 < gi us i
  in_ : ∀ j : Nat, j ≤ P.length → 0 ≤ nd l s P j ∧ nd l s P j < N
/-- The map of the places of a walk's nodes. -/
structure Plc (l : List Lk) (s : Int) (P : List Int) (m : List (Int × Value)) : Prop where
  nodup : (m.map (·.1)).Nodup
  here : ∀ j : Nat, j ≤ P.length → lookI m (nd l s P j) = some (.int .i64 j)
  not : ∀ v, (∀ j : Nat, j ≤ P.length → nd l s P j ≠ v) → lookI m v = none
section
variable {N : Nat} {l : List Lk} {us : List Int} {D : Int → Bool} {s t : Int} {P : List Int} {m : List (Int × Value)}
theorem Rg.last (h : Rg N l us D s P t) : nd l s P P.length = t := by obtain ⟨c, hc⟩ := h.walk; exact hc.nodes.1
theorem Rg.short (h : Rg N l us D s P t) : P.length < N := by
  refine Classical.byContradiction fun hn => ?_
  obtain ⟨i, j, h1, h2, h3⟩ := pigeon N (fun j => (nd l s P j).toNat) (fun j hj => by have := h.in_ j (by omega); omega)
  have q1 := h.in_ i (by omega)
  have q2 := h.in_ j (by omega)
  exact h.dif i j h1 (by omega) (by have : (nd l s P i).toNat = (nd l s P j).toNat := h3; omega)
theorem Rg.nil (hs : 0 ≤ s ∧ s < N) (hd : D s = false) : Rg N l us D s [] s :=
  ⟨⟨0, .nil⟩, fun i j h1 h2 => by simp at h2; omega, fun j hj => by simp at hj; subst hj; exact hd, fun i hi => by simp at hi, fun j hj => by simp at hj; subst hj; exact hs⟩
theorem nd_last (i : Int) : nd l s (P ++ [i]) (P.length + 1) = (gl l i).b := by
  unfold nd
  rw [if_neg (by omega), Nat.add_sub_cancel]
  have := gi_app_right (P := P) (Q := [i]) 0
  rw [Nat.add_zero] at this
  rw [this]; rfl
theorem Rg.snoc (h : Rg N l us D s P t) {k : Nat} (hk : k < l.length) (hn : NextB l us t D k) (hb : 0 ≤ (gl l k).b ∧ (gl l k).b < N) (hne : ∀ j : Nat, j ≤ P.length → nd l s P j ≠ (gl l k).b) : Rg N l us D s (P ++ [(k : Int)]) (gl l k).b := by
  obtain ⟨c, hc⟩ := h.walk
  refine ⟨⟨_, .snoc hc (by omega) (by omega) hn.1⟩, fun i j h1 h2 => ?_, fun j hj => ?_, fun i hi => ?_, fun j hj => ?_⟩
  · simp at h2
    rw [nd_app (by omega)]
    by_cases e : j = P.length + 1
    · subst e; rw [nd_last]; exact hne i (by omega)
    · rw [nd_app (by omega)]; exact h.dif i j h1 (by omega)
  · simp at hj
    by_cases e : j = P.length + 1
    · subst e; rw [nd_last]; exact hn.2.2
    · rw [nd_app (by omega)]; exact h.nod j (by omega)
  · rcases List.mem_append.1 hi with hi | hi
    · exact h.pos i hi
    · simp at hi; subst hi; exact hn.2.1
  · simp at hj
    by_cases e : j = P.length + 1
    · subst e; rw [nd_last]; exact hb
    · rw [nd_app (by omega)]; exact h.in_ j (by omega)
theorem Plc.nil (s : Int) : Plc l s [] (putI [] s (.int .i64 0)) :=
  ⟨by simp [putI], fun j hj => by simp at hj; subst hj; simp [putI, lookI, nd], fun v hv => by
    have := hv 0 (by simp)
    have e : (s == v) = false := by simpa [nd] using this
    simp [putI, lookI, e]⟩
theorem Plc.snoc (h : Plc l s P m) {k : Nat} (hne : ∀ j : Nat, j ≤ P.length → nd l s P j ≠ (gl l k).b) : Plc l s (P ++ [(k : Int)]) (putI m (gl l k).b (.int .i64 ((P.length + 1 : Nat) : Int))) := by
  refine ⟨put_nodup _ _ h.nodup, fun j hj => ?_, fun v hv => ?_⟩
  · simp at hj
    rw [look_put]
    by_cases e : j = P.length + 1
    · subst e; rw [nd_last, if_pos rfl]
    · rw [nd_app (by omega), if_neg (hne j (by omega))]; exact h.here j (by omega)
  · rw [look_put]
    have h1 := hv (P.length + 1) (by simp)
    rw [nd_last] at h1
    rw [if_neg (fun e => h1 e.symm)]
    refine h.not v fun j hj => ?_
    have := hv j (by simp; omega)
    rwa [nd_app hj] at this
/-- The walk without its last link. -/
theorem Rg.pop {i : Int} (h : Rg N l us D s (P ++ [i]) t) (D' : Int → Bool) (hD : ∀ v, v ≠ t → D' v = D v) : Rg N l us D' s P (gl l i).a ∧ (gl l i).b = t ∧ 0 ≤ i ∧ i < l.length := by
  obtain ⟨c, hc⟩ := h.walk
  obtain ⟨u, c1, c2, w1, w2, -⟩ := hc.split P [i] rfl
  have hlast := h.last
  simp only [List.length_append, List.length_singleton] at hlast
  rw [nd_last] at hlast
  obtain ⟨n1, n2⟩ := hc.nodes
  have hg : gi (P ++ [i]) ((P.length : Nat) : Int) = i := by
    have := gi_app_right (P := P) (Q := [i]) 0
    rw [Nat.add_zero] at this
    rw [this]; rfl
  have q := n2 P.length (by simp)
  rw [hg, nd_app (Nat.le_refl _), w1.nodes.1] at q
  refine ⟨⟨⟨c1, by rw [q.1]; exact w1⟩, fun a b h1 h2 => ?_, fun j hj => ?_, fun a ha => h.pos a (by simp [ha]), fun j hj => ?_⟩, hlast, q.2.1, q.2.2⟩
  · have := h.dif a b h1 (by simp; omega)
    rwa [nd_app (by omega), nd_app (by omega)] at this
  · have q1 := h.nod j (by simp; omega)
    have q2 := h.dif j (P.length + 1) (by omega) (by simp)
    rw [nd_app hj] at q1 q2
    rw [nd_last, hlast] at q2
    rw [hD _ q2]; exact q1
  · have := h.in_ j (by simp; omega)
    rwa [nd_app hj] at this
theorem Plc.pop {i : Int} (h : Plc l s (P ++ [i]) m) (hd : ∀ j : Nat, j ≤ P.length → nd l s P j ≠ t) (ht : (gl l i).b = t) : Plc l s P (delI m t) := by
  refine ⟨del_nodup _ h.nodup, fun j hj => ?_, fun v hv => ?_⟩
  · rw [look_del _ _ _ h.nodup, if_neg (hd j hj)]
    have := h.here j (by simp; omega)
    rwa [nd_app hj] at this
  · rw [look_del _ _ _ h.nodup]
    by_cases e : v = t
    · rw [if_pos e]
    · rw [if_neg e]
      refine h.not v fun j hj => ?_
      simp at hj
      by_cases e2 : j = P.length + 1
      · subst e2; rw [nd_last, ht]; exact fun h => e h.symm
      · rw [nd_app (by omega)]; exact hv j (by omega)
theorem Rg.dif_last {i : Int} (h : Rg N l us D s (P ++ [i]) t) : ∀ j : Nat, j ≤ P.length → nd l s P j ≠ t := fun j hj => by
  have q := h.dif j (P.length + 1) (by omega) (by simp)
  rw [nd_app hj, nd_last] at q
  have e := h.last
  simp only [List.length_append, List.length_singleton] at e
  rw [nd_last] at e
  rwa [e] at q
theorem nd_drop {k : Nat} (hk : k ≤ P.length) (j : Nat) : nd l (nd l s P k) (P.drop k) j = nd l s P (k + j) := by
  have h1 : nd l s (P.take k) (P.take k).length = nd l s P k := by
    have := nd_app (l := l) (s := s) (P := P.take k) (Q := P.drop k) (j := k) (by simp; omega)
    rw [List.take_append_drop] at this
    rw [this, List.length_take, Nat.min_eq_left hk]
  have := nd_app_right (l := l) (s := s) (P := P.take k) (Q := P.drop k) h1 j
  rw [List.take_append_drop, List.length_take, Nat.min_eq_left hk] at this
  exact this.symm
/-- A link back to a node of the walk closes a ring. -/
theorem Rg.ring (h : Rg N l us D s P t) {k a : Nat} (hk : k < l.length) (hn : NextB l us t D k) (ha : a ≤ P.length) (he : nd l s P a = (gl l k).b) :
    ∃ c, WI l (gl l k).b ((P ++ [(k : Int)]).drop a) (gl l k).b c ∧ (P ++ [(k : Int)]).drop a ≠ [] ∧ Once l ((P ++ [(k : Int)]).drop a) ∧ ∀ i ∈ (P ++ [(k : Int)]).drop a, 0 < gi us i := by
  obtain ⟨c, hc⟩ := h.walk
  obtain ⟨u, c1, c2, w1, w2, -⟩ := hc.split (P.take a) (P.drop a) (List.take_append_drop a P).symm
  have hu : u = nd l s P a := by
    rw [← w1.nodes.1]
    have := nd_app (l := l) (s := s) (P := P.take a) (Q := P.drop a) (j := a) (by simp; omega)
    rw [List.take_append_drop] at this
    rw [this, List.length_take, Nat.min_eq_left ha]
  rw [hu] at w2
  have hd : (P ++ [(k : Int)]).drop a = P.drop a ++ [(k : Int)] := by rw [List.drop_append_of_le_length ha]
  have w3 : WI l (gl l k).b (P.drop a ++ [(k : Int)]) (gl l k).b (c2 + (gl l k).m) := by
    have := WI.snoc w2 (i := (k : Int)) (by omega) (by omega) hn.1
    rw [he] at this
    exact this
  have hnd : ∀ j : Nat, j ≤ (P.drop a).length → nd l (gl l k).b (P.drop a ++ [(k : Int)]) j = nd l s P (a + j) := fun j hj => by
    rw [nd_app hj, ← he, nd_drop ha]
  have hlen : (P.drop a).length = P.length - a := List.length_drop
  refine ⟨_, by rw [hd]; exact w3, by rw [hd]; simp, ?_, fun i hi => ?_⟩
  · rw [hd]
    refine once_of w3 (fun i j h1 h2 => ?_) fun i h1 h2 => ?_
    · simp only [List.length_append, List.length_singleton] at h2
      rw [hnd i (by omega), hnd j (by omega)]
      exact h.dif _ _ (by omega) (by omega)
    · simp only [List.length_append, List.length_singleton] at h2
      rw [hnd i (by omega), ← he]
      exact fun e => h.dif a (a + i) (by omega) (by omega) e.symm
  · rw [hd] at hi
    rcases List.mem_append.1 hi with hi | hi
    · exact h.pos i (List.mem_of_mem_drop hi)
    · simp at hi; subst hi; exact hn.2.1
/-- A walk that goes down. -/
structure Dn (l : List Lk) (us : List Int) (r : Int → Nat) (s : Int) (P : List Int) (t : Int) : Prop where
  walk : ∃ c, WI l s P t c
  pos : ∀ i ∈ P, 0 < gi us i
  dn : ∀ i j : Nat, i < j → j ≤ P.length → r (nd l s P j) < r (nd l s P i)
variable {r : Int → Nat}
theorem Dn.nil : Dn l us r s [] s := ⟨⟨0, .nil⟩, fun i hi => by simp at hi, fun i j h1 h2 => by simp at h2; omega⟩
theorem Dn.snoc (h : Dn l us r s P t) {k : Nat} (hk : k < l.length) (h1 : (gl l k).a = t) (h2 : 0 < gi us k) (hr : r (gl l k).b < r (gl l k).a) : Dn l us r s (P ++ [(k : Int)]) (gl l k).b := by
  obtain ⟨c, hc⟩ := h.walk
  refine ⟨⟨_, .snoc hc (by omega) (by omega) h1⟩, fun i hi => ?_, fun i j h3 h4 => ?_⟩
  · rcases List.mem_append.1 hi with hi | hi
    · exact h.pos i hi
    · simp at hi; subst hi; exact h2
  · simp at h4
    rw [nd_app (by omega : i ≤ P.length)]
    by_cases e : j = P.length + 1
    · subst e
      rw [nd_last]
      have e2 := hc.nodes.1
      rw [h1, ← e2] at hr
      by_cases e3 : i = P.length
      · rw [e3]; exact hr
      · have := h.dn i P.length (by omega) (Nat.le_refl _); omega
    · rw [nd_app (by omega)]; exact h.dn i j h3 (by omega)
theorem Dn.once (h : Dn l us r s P t) : Once l P ∧ (P ≠ [] → s ≠ t) := by
  obtain ⟨c, hc⟩ := h.walk
  have e2 := hc.nodes.1
  refine ⟨once_of hc (fun i j h1 h2 e => ?_) fun i h1 h2 e => ?_, fun hne e => ?_⟩
  · have := h.dn i j h1 (by omega); rw [e] at this; omega
  · have := h.dn i P.length h2 (Nat.le_refl _); rw [e, e2] at this; omega
  · have h0 : 0 < P.length := by cases P with | nil => exact absurd rfl hne | cons _ _ => simp
    have := h.dn 0 P.length h0 (Nat.le_refl _)
    rw [e2, ← e] at this
    have h3 : nd l s P 0 = s := rfl
    rw [h3] at this
    omega
end
/-- A node at which units begin and none end. -/
def RootIs (N : Nat) (l : List Lk) (us : List Int) (v : Int) : Prop :=
  (v = -1 ∧ ∀ x : Nat, x < N → (∃ k : Nat, k < l.length ∧ 0 < gi us k ∧ (gl l k).a = x) → ∃ k : Nat, k < l.length ∧ 0 < gi us k ∧ (gl l k).b = x) ∨
  (0 ≤ v ∧ v < N ∧ (∃ k : Nat, k < l.length ∧ 0 < gi us k ∧ (gl l k).a = v) ∧ ∀ k : Nat, k < l.length → 0 < gi us k → (gl l k).b ≠ v)

theorem put_has (S : List Int) (k x : Int) : (putS S k).contains x = true ↔ S.contains x = true ∨ x = k := by
  unfold putS
  by_cases e : S.contains k = true
  · rw [if_pos e]
    constructor
    · exact .inl
    · rintro (h | rfl)
      · exact h
      · exact e
  · rw [if_neg e]; simp
/-- The two sets of root: where the first k links with units begin and end. -/
structure RtW (w : World) (b1 b2 : Nat) (l : List Lk) (us : List Int) (k : Nat) : Prop where
  m1 : ∃ S, MapI w b1 (setI S) ∧ ∀ x, S.contains x = true ↔ ∃ j : Nat, j < k ∧ 0 < gi us j ∧ (gl l j).a = x
  m2 : ∃ S, MapI w b2 (setI S) ∧ ∀ x, S.contains x = true ↔ ∃ j : Nat, j < k ∧ 0 < gi us j ∧ (gl l j).b = x
section
variable {w w' : World} {b1 b2 : Nat} {l : List Lk} {us : List Int} {k : Nat}
theorem RtW.start (w : World) : RtW ((w.alloc (.map #[] 0)).alloc (.map #[] 0)) w.heap.size (w.heap.size + 1) l us 0 := by
  refine ⟨⟨[], (MapI.made w).alloc _, fun x => ?_⟩, ⟨[], ?_, fun x => ?_⟩⟩
  · simp
  · have := MapI.made (w.alloc (.map #[] 0))
    have e : (w.alloc (.map #[] 0)).heap.size = w.heap.size + 1 := by simp
    rw [e] at this
    exact this
  · simp
theorem RtW.below (h : RtW w b1 b2 l us k) (hb : Below w.heap.size w w') : RtW w' b1 b2 l us k := by
  obtain ⟨⟨S, h1, h2⟩, ⟨T, h3, h4⟩⟩ := h
  exact ⟨⟨S, h1.below hb, h2⟩, ⟨T, h3.below hb, h4⟩⟩
theorem RtW.skip (h : RtW w b1 b2 l us k) (hn : ¬ 0 < gi us k) : RtW w b1 b2 l us (k + 1) := by
  obtain ⟨⟨S, h1, h2⟩, ⟨T, h3, h4⟩⟩ := h
  refine ⟨⟨S, h1, fun x => (h2 x).trans ⟨fun ⟨j, q1, q2⟩ => ⟨j, by omega, q2⟩, fun ⟨j, q1, q2, q3⟩ => ⟨j, ?_, q2, q3⟩⟩⟩, ⟨T, h3, fun x => (h4 x).trans ⟨fun ⟨j, q1, q2⟩ => ⟨j, by omega, q2⟩, fun ⟨j, q1, q2, q3⟩ => ⟨j, ?_, q2, q3⟩⟩⟩⟩
  all_goals
    by_cases e : j = k
    · subst e; exact absurd q2 hn
    · omega
end
theorem has_step {S : List Int} {l : List Lk} {us : List Int} {k : Nat} {f : Lk → Int} (h : ∀ x, S.contains x = true ↔ ∃ j : Nat, j < k ∧ 0 < gi us j ∧ f (gl l j) = x) (hp : 0 < gi us k) (x : Int) : (putS S (f (gl l k))).contains x = true ↔ ∃ j : Nat, j < k + 1 ∧ 0 < gi us j ∧ f (gl l j) = x := by
  rw [put_has, h]
  constructor
  · rintro (⟨j, q1, q2⟩ | rfl)
    · exact ⟨j, by omega, q2⟩
    · exact ⟨k, by omega, hp, rfl⟩
  · rintro ⟨j, q1, q2, q3⟩
    by_cases e : j = k
    · subst e; exact .inr q3.symm
    · exact .inl ⟨j, by omega, q2, q3⟩
set_option maxRecDepth 100000 in
set_option maxHeartbeats 4000000 in
theorem root_any {w : World} {R : Nat → Prop} {B q g : Nat} {N : Nat} {A : Option Addr} {c : Nat} {l : List Lk} {us : List Int} {cap : Nat} {ov : Value} {ps : List PV} (h : CutW w R B q g (N : Int) A c l us cap ov ps) (hl : l.length ≤ 1000) (hu : us.length = l.length) (hN : N ≤ 1000) :
    Calls Try.prog 99 #[.pointer (some ⟨q, 0, none⟩)] w fun e w' => (∃ r, e = .returned (.int .i64 r) ∧ RootIs N l us r) ∧ Below w.heap.size w w' := by
  have HC := Lib.hid h
  have HU := Lib.hid hu
  clear h hu
  obtain ⟨c0, c1, c2, c3⟩ := HC.out.cells
  have lq := HC.out.lq
  obtain ⟨W0, hW0⟩ : ∃ W0, W0 = (w.alloc (.map #[] 0)).alloc (.map #[] 0) := ⟨_, rfl⟩
  have HR0 := Lib.hid (show RtW W0 w.heap.size (w.heap.size + 1) l us 0 by rw [hW0]; exact RtW.start w)
  have HB0 := Lib.hid (show Below w.heap.size w W0 by rw [hW0]; exact bel)
  have HS0 := Lib.hid (show w.heap.size + 2 ≤ W0.heap.size by rw [hW0]; simp)
  have HW0 := Lib.hid hW0
  clear hW0
  have hmm := @run_makeMap Try.prog
  go_enter Try.func99, Try.ntmps99
  go_upto_region 2 with fail
  rw [← HW0.out]
  clear hmm c0 c1 c2 c3 lq
  obtain ⟨c0, c1, c2, c3⟩ := (HC.out.below HB0.out).cells
  have lq := (HC.out.below HB0.out).lq
  go_wp2
  clear c0 c1 c2 c3 lq
  go_loopw [16] (fun i wr => ∃ k : Nat, k ≤ l.length ∧ i = .int .i64 (k : Int) ∧ Hid (RtW wr w.heap.size (w.heap.size + 1) l us k) ∧ Hid (Below w.heap.size w wr) ∧ Hid (w.heap.size + 2 ≤ wr.heap.size)) (fun i _ => l.length - (intOf i).toNat)
  case atStart => exact ⟨0, by omega, rfl, HR0, HB0, HS0⟩
  case round =>
    obtain ⟨k, hk, rfl, HRT, HBr, HSr⟩ := hrel
    by_cases hkl : k < l.length
    · have t1 : decide ((k : Int) < (l.length : Int)) = true := decide_eq_true (by omega)
      have HC2 := Lib.hid (HC.out.below HBr.out)
      have HU2 := Lib.hid (show 0 < us.length by have := HU.out; omega)
      obtain ⟨c0, c1, c2', c3⟩ := HC2.out.cells
      have c2 := c2' HU2.out
      clear c2'
      have lq := HC2.out.lq
      obtain ⟨b, o, rfl, g1, g2, g3⟩ := HC2.out.lks.nat k hkl
      obtain ⟨x, hx⟩ : ∃ x, gl l (k : Int) = x := ⟨_, rfl⟩
      rw [hx] at g1 g2 g3
      have HX := Lib.hid hx
      clear hx
      obtain ⟨xa, xb, xm⟩ := x
      simp only at g1 g2 g3
      have gu := (HC2.out.row HU2.out).cell k (by have := HU.out; omega)
      have lg := HC2.out.lg
      have lb := World.block_lt_of_cell? _ _ g1
      dsimp only at lb
      obtain ⟨uk, huk⟩ : ∃ uk, gi us (k : Int) = uk := ⟨_, rfl⟩
      rw [huk] at gu
      have HUK := Lib.hid huk
      clear huk
      have i2 : (k : Int) < (us.length : Int) := by have := HU.out; omega
      by_cases hup : 0 < uk
      · have hup2 : decide (0 < uk) = true := decide_eq_true hup
        go_upto_region 6 with fail
        obtain ⟨W1, hW1⟩ : ∃ W1, W1 = wr.alloc (.cells #[.int .i64 xa, .int .i64 xb, .int .i64 xm] 39) := ⟨_, rfl⟩
        have HB1 := Lib.hid (show Below wr.heap.size wr W1 by rw [hW1]; exact bel)
        have HD1 := Lib.hid (show W1.cell? ⟨wr.heap.size, 0, none⟩ = some (.int .i64 xa) ∧ W1.cell? ⟨wr.heap.size, 1, none⟩ = some (.int .i64 xb) ∧ wr.heap.size < W1.heap.size by rw [hW1]; exact ⟨by go_simp, by go_simp, by simp⟩)
        rw [← hW1]
        clear hW1 c0 c1 c2 c3 lq g1 g2 g3 gu lg lb
        obtain ⟨d0, d1, dl⟩ := HD1.out
        obtain ⟨⟨S, hm1, hs1⟩, ⟨T, hm2, hs2⟩⟩ := HRT.out.below HB1.out
        have HM1 := Lib.hid hm1
        have HM2 := Lib.hid hm2
        have HPK := Lib.hid (show 0 < gi us (k : Int) by rw [HUK.out]; exact hup)
        have HE1 := Lib.hid (has_step (f := Lk.a) hs1 HPK.out)
        have HE2 := Lib.hid (has_step (f := Lk.b) hs2 HPK.out)
        rw [HX.out] at HE1 HE2
        clear hm1 hm2 hs1 hs2
        refine wp_region_held_drew (S := fun w' => w'.cell? ⟨wr.heap.size, 0, none⟩ = some (.int .i64 xa) ∧ w'.cell? ⟨wr.heap.size, 1, none⟩ = some (.int .i64 xb)) (by kernel_rfl) ⟨d0, d1⟩ (fun hHeld => ?_)
        refine wpAnyH_take (i := 0) (v := ?_) rfl (by kernel_rfl) (by kernel_rfl) (by kernel_rfl) (fun _ _ _ h => h) (Or.inl ⟨by rfl, ?hyy⟩) (by assumption) ?_
        case hyy => (intro w hSw; (try dsimp only at hSw); go_simp; all_goals (with_reducible rfl))
        try simp only [List.getElem_toArray, List.getElem_cons_zero, List.getElem_cons_succ, Act.put, List.setIfInBounds_toArray, List.set_cons_zero, List.set_cons_succ]
        refine wpAnyH_take (i := 1) (v := ?_) rfl (by kernel_rfl) (by kernel_rfl) (by kernel_rfl) (fun _ _ _ h => h) (Or.inl ⟨by rfl, ?hyy⟩) (by assumption) ?_
        case hyy => (intro w hSw; (try dsimp only at hSw); go_simp; all_goals (with_reducible rfl))
        try simp only [List.getElem_toArray, List.getElem_cons_zero, List.getElem_cons_succ, Act.put, List.setIfInBounds_toArray, List.set_cons_zero, List.set_cons_succ]
        refine wpAnyH_take (i := 2) (v := ?_) rfl (by kernel_rfl) (by kernel_rfl) (by kernel_rfl) (fun _ _ _ h => h) (Or.inl ⟨by rfl, ?hyy⟩) (by assumption) ?_
        case hyy => (intro w hSw; (try dsimp only at hSw); go_simp; all_goals (with_reducible rfl))
        try simp only [List.getElem_toArray, List.getElem_cons_zero, List.getElem_cons_succ, Act.put, List.setIfInBounds_toArray, List.set_cons_zero, List.set_cons_succ]
        refine wpAnyH_take (i := 3) (v := ?_) rfl (by kernel_rfl) (by kernel_rfl) (by kernel_rfl) (fun _ _ _ h => h) (Or.inl ⟨by rfl, ?hyy⟩) (by assumption) ?_
        case hyy => (intro w hSw; (try dsimp only at hSw); go_simp; all_goals (with_reducible rfl))
        try simp only [List.getElem_toArray, List.getElem_cons_zero, List.getElem_cons_succ, Act.put, List.setIfInBounds_toArray, List.set_cons_zero, List.set_cons_succ]
        refine wpAnyH_take (i := 4) (v := ?_) rfl (by kernel_rfl) (by kernel_rfl) (by kernel_rfl) (fun _ _ _ h => h) (Or.inl ⟨by rfl, ?hyy⟩) (by assumption) ?_
        case hyy => (intro w hSw; (try dsimp only at hSw); go_simp; all_goals (with_reducible rfl))
        try simp only [List.getElem_toArray, List.getElem_cons_zero, List.getElem_cons_succ, Act.put, List.setIfInBounds_toArray, List.set_cons_zero, List.set_cons_succ]
        refine wpAnyH_take (i := 5) (v := ?_) rfl (by kernel_rfl) (by kernel_rfl) (by kernel_rfl) (fun _ _ _ h => h) (Or.inl ⟨by rfl, ?hyy⟩) (by assumption) ?_
        case hyy => (intro w hSw; (try dsimp only at hSw); go_simp; all_goals (with_reducible rfl))
        try simp only [List.getElem_toArray, List.getElem_cons_zero, List.getElem_cons_succ, Act.put, List.setIfInBounds_toArray, List.set_cons_zero, List.set_cons_succ]
        refine wpAnyH_ready (rs := [6]) (by kernel_rfl) (by simp) ?_
        refine AllReadyH.cons rfl (fun K hK => ?_) AllReadyH.nil
        obtain ⟨w2, hrun2, hr2, hg2⟩ := HM1.out.drew.put u80 xa (.bool true)
        go_simp
        rw [put_set] at hr2
        have HM22 := Lib.hid (HM2.out.drew.grown hg2 (by simp))
        refine hK.out _ _ ⟨cell_grown hg2 (by have := HSr.out; simp; omega) d0, cell_grown hg2 (by have := HSr.out; simp; omega) d1⟩ (fun hHeldN1 => ?_)
        clear hK K
        try simp only [List.getElem_toArray, List.getElem_cons_zero, List.getElem_cons_succ, Act.put, List.setIfInBounds_toArray, List.set_cons_zero, List.set_cons_succ]
        refine wpAnyH_ready (rs := [7]) (by kernel_rfl) (by simp) ?_
        refine AllReadyH.cons rfl (fun K hK => ?_) AllReadyH.nil
        obtain ⟨w3, hrun3, hr3, hg3⟩ := HM22.out.put u80 xb (.bool true)
        go_simp
        rw [put_set] at hr3
        have HR23 := Lib.hid (hr2.grown hg3 (by simp))
        have HR3 := Lib.hid hr3
        refine hK.out _ _ ⟨cell_grown hg3 (by have := HSr.out; simp; omega) (cell_grown hg2 (by have := HSr.out; simp; omega) d0), cell_grown hg3 (by have := HSr.out; simp; omega) (cell_grown hg2 (by have := HSr.out; simp; omega) d1)⟩ (fun hHeldN2 => ?_)
        clear hK K
        try simp only [List.getElem_toArray, List.getElem_cons_zero, List.getElem_cons_succ, Act.put, List.setIfInBounds_toArray, List.set_cons_zero, List.set_cons_succ]
        refine wpAnyH_done (by kernel_rfl) ?_ _
        have HG2 := Lib.hid (show W1.grownBy w2 (some w.heap.size) from World.grownBy.trans (grown_drew (grown_refl W1 _)) hg2)
        have HG3 := Lib.hid hg3
        clear hrun2 hrun3 hr2 hr3 hg2 hg3 d0 d1 dl
        go_wp2_with fail
        go_roundw
        case rel => exact ⟨k + 1, by omega, by go_num, Lib.hid ⟨⟨_, HR23.out, HE1.out⟩, ⟨_, HR3.out, HE2.out⟩⟩, Lib.hid (by
          have hz := HSr.out
          have z1 := below_trans HBr.out HB1.out
          have z2 := below_of_grown z1 HG2.out (Nat.le_trans (by omega) HB1.out.size) (Nat.le_refl _)
          exact below_of_grown z2 HG3.out (Nat.le_trans (Nat.le_trans (by omega) HB1.out.size) HG2.out.size) (by omega)), Lib.hid (Nat.le_trans HSr.out (Nat.le_trans HB1.out.size (Nat.le_trans HG2.out.size HG3.out.size)))⟩
        case measure => simp [intOf]; omega
      · have hup2 : decide (0 < uk) = false := decide_eq_false hup
        have HRS := Lib.hid (HRT.out.skip (by rw [HUK.out]; exact hup))
        go_wp2
        go_roundw
        case rel => exact ⟨k + 1, by omega, by go_num, Lib.hid (HRS.out.below bel), Lib.hid (below_trans HBr.out bel), Lib.hid (by have := HSr.out; simp; omega)⟩
        case measure => simp [intOf]; omega
    · obtain rfl : k = l.length := by omega
      have t1 : decide ((l.length : Int) < (l.length : Int)) = false := decide_eq_false (by omega)
      have HBR := Lib.hid HBr.out
      clear HBr
      obtain ⟨c0, c1, c2, c3⟩ := (HC.out.below HBR.out).cells
      have lq := (HC.out.below HBR.out).lq
      go_wp2
      clear c0 c1 c2 c3 lq
      obtain ⟨⟨S, hm1, hs1⟩, ⟨T, hm2, hs2⟩⟩ := HRT.out
      have HM1 := Lib.hid hm1
      have HM2 := Lib.hid hm2
      have HS1 := Lib.hid hs1
      have HS2 := Lib.hid hs2
      clear hm1 hm2 hs1 hs2
      go_loopw [41] (fun i wx => ∃ v : Nat, v ≤ N ∧ i = .int .i64 (v : Int) ∧ Hid (∀ x : Nat, x < v → (S.contains (x : Int) && !T.contains (x : Int)) = false) ∧ Hid (Below wr.heap.size wr wx)) (fun i _ => N - (intOf i).toNat)
      case atStart => exact ⟨0, by omega, rfl, Lib.hid (fun x hx => by omega), Lib.hid (Below.refl _ _)⟩
      case round =>
        rename_i wo _ _ _
        obtain ⟨v, hv, rfl, HV, HBx⟩ := hrel
        by_cases hvN : v < N
        · have t2 : decide ((v : Int) < (N : Int)) = true := decide_eq_true (by omega)
          have l1 := (HM1.out.below HBx.out).look u80 (zero4 _) v
          have l2 := (HM2.out.below HBx.out).look u80 (zero4 _) v
          rw [look_set] at l1 l2
          cases hS : S.contains (v : Int)
          · rw [hS] at l1
            have HV2 := Lib.hid (show ∀ x : Nat, x < v + 1 → (S.contains (x : Int) && !T.contains (x : Int)) = false from fun x hx => by
              by_cases e : x = v
              · subst e; rw [hS]; rfl
              · exact HV.out x (by omega))
            clear hS
            go_wp2
            go_roundw
            case rel => exact ⟨v + 1, by omega, by go_num, HV2, HBx⟩
            case measure => simp [intOf]; omega
          · rw [hS] at l1
            cases hT : T.contains (v : Int)
            · rw [hT] at l2
              have HY := Lib.hid (show RootIs N l us (v : Int) from .inr ⟨by omega, by omega, (HS1.out v).1 hS, fun k hk hp e => by
                have := (HS2.out (v : Int)).2 ⟨k, hk, hp, e⟩
                rw [hT] at this; cases this⟩)
              clear hS hT
              go_wp2
              go_ret
              exact ⟨⟨_, rfl, HY.out⟩, below_trans HBR.out HBx.out⟩
            · rw [hT] at l2
              have HV2 := Lib.hid (show ∀ x : Nat, x < v + 1 → (S.contains (x : Int) && !T.contains (x : Int)) = false from fun x hx => by
                by_cases e : x = v
                · subst e; rw [hS, hT]; rfl
                · exact HV.out x (by omega))
              clear hS hT
              go_wp2
              go_roundw
              case rel => exact ⟨v + 1, by omega, by go_num, HV2, HBx⟩
              case measure => simp [intOf]; omega
        · obtain rfl : v = N := by omega
          have t2 : decide ((v : Int) < (v : Int)) = false := decide_eq_false (by omega)
          have HY := Lib.hid (show RootIs v l us (-1) from .inl ⟨rfl, fun x hx hb => by
            have h1 := (HS1.out (x : Int)).2 hb
            have h2 := HV.out x hx
            rw [h1] at h2
            exact (HS2.out (x : Int)).1 (by simpa using h2)⟩)
          go_wp2
          go_ret
          exact ⟨⟨_, rfl, HY.out⟩, below_trans HBR.out HBx.out⟩

theorem own_not_map {w : World} {base n sz : Nat} {e : TypeId} {v : Value} {xs : List Value} {b : Nat} {m : List (Int × Value)} (h : w.ownsRow base e sz v n xs) (hm : MapI w b m) : v.ownBlock ≠ some b := by
  intro e1
  obtain ⟨es, cl, h1, -⟩ := hm
  rcases h.2 with ⟨rfl, -⟩ | ⟨g, cap, cur, rfl, -, hh, -⟩
  · cases e1
  · have e2 : g = b := Option.some.inj e1
    subst e2
    rw [h1] at hh
    cases hh
theorem own_pop {w : World} {base g n cap : Nat} {P : List Int} {i : Int} (h : w.ownsRow base 3 1 (.slice (some ⟨g, 0, none⟩) (n + 1) cap) (P ++ [i]).length (ints (P ++ [i]))) (hn : P.length = n) : w.ownsRow base 3 1 (.slice (some ⟨g, 0, none⟩) n cap) P.length (ints P) := by
  subst hn
  rw [List.length_append, List.length_singleton] at h
  refine ⟨by simp [ints], ?_⟩
  rcases h.2 with ⟨e, -⟩ | ⟨g', cap', cur, e, h1, h2, h3, h4, h5, h6⟩
  · cases e
  · cases e
    refine .inr ⟨g, cap, cur, rfl, h1, h2, by omega, h4, h5, ?_⟩
    have e2 : ints (P ++ [i]) = ints P ++ [.int .i64 i] := by simp [ints]
    rw [e2] at h6
    have h7 := congrArg (List.take (P.length * 1)) h6
    rw [List.take_take] at h7
    rw [Nat.min_eq_left (by omega)] at h7
    rw [h7]
    have : (ints P).length = P.length * 1 := by simp [ints]
    rw [← this, List.take_left]
/-- The heap of the inner loop. -/
structure Rh (wb wr : World) (md mp : Nat) (S P : List Int) (m : List (Int × Value)) (vl : Value) : Prop where
  mapp : MapI wr mp m
  row : wr.ownsRow wb.heap.size 3 1 vl P.length (ints P)
  map : MapI wr md (setI S)
  fr : Fr wb wr (fun k => k = md)
  mpb : wb.heap.size ≤ mp
  mdb : md < wb.heap.size
section
variable {wb wr w' : World} {md mp : Nat} {S P : List Int} {m : List (Int × Value)} {vl v' : Value}
theorem grown_of_below (hb : Below wr.heap.size wr w') : wr.grownBy w' none := ⟨hb.os, hb.tape, hb.output, hb.size, fun k hk _ => hb.block k hk⟩
theorem Rh.below (h : Rh wb wr md mp S P m vl) (hb : Below wr.heap.size wr w') : Rh wb w' md mp S P m vl :=
  ⟨h.mapp.below hb, h.row.kept (grown_of_below hb) (by cases vl.ownBlock <;> simp), h.map.below hb, h.fr.below hb, h.mpb, h.mdb⟩
theorem Rh.hB (h : Rh wb wr md mp S P m vl) : wb.heap.size ≤ wr.heap.size := h.fr.size
theorem Rh.push (h : Rh wb wr md mp S P m vl) {i : Int} (ho : w'.ownsRow wb.heap.size 3 1 v' (P.length + 1) (ints P ++ [.int .i64 i])) (hg : wr.grownBy w' vl.ownBlock) : Rh wb w' md mp S (P ++ [i]) m v' :=
  ⟨h.mapp.grown hg (fun e => own_not_map h.row h.mapp e.symm), by rw [List.length_append]; simpa [ints] using ho, h.map.grown hg (fun e => own_not_map h.row h.map e.symm), h.fr.grown hg (fun k e => .inr (h.row.lt k e).1), h.mpb, h.mdb⟩
theorem Rh.place (h : Rh wb wr md mp S P m vl) {m' : List (Int × Value)} (hm : MapI w' mp m') (hg : wr.grownBy w' (some mp)) : Rh wb w' md mp S P m' vl :=
  ⟨hm, h.row.kept hg (.inr (own_not_map h.row h.mapp)), h.map.grown hg (by have := h.mpb; have := h.mdb; simp; omega), h.fr.grown hg (fun k e => .inr (by cases e; exact h.mpb)), h.mpb, h.mdb⟩
theorem Rh.mark (h : Rh wb wr md mp S P m vl) {S' : List Int} (hm : MapI w' md (setI S')) (hg : wr.grownBy w' (some md)) : Rh wb w' md mp S' P m vl :=
  ⟨h.mapp.grown hg (by have := h.mpb; have := h.mdb; simp; omega), h.row.kept hg (.inr (own_not_map h.row h.map)), hm, h.fr.grown hg (fun k e => .inl (by cases e; rfl)), h.mpb, h.mdb⟩
theorem Rh.pop {i : Int} {g n cap : Nat} (h : Rh wb wr md mp S (P ++ [i]) m (.slice (some ⟨g, 0, none⟩) (n + 1) cap)) (hn : P.length = n) : Rh wb wr md mp S P m (.slice (some ⟨g, 0, none⟩) n cap) :=
  ⟨h.mapp, own_pop h.row hn, h.map, h.fr, h.mpb, h.mdb⟩
theorem Rh.slice (h : Rh wb wr md mp S P m vl) (hP : 0 < P.length) : ∃ g cap, vl = .slice (some ⟨g, 0, none⟩) P.length cap ∧ P.length ≤ cap ∧ IntsAt wr (some ⟨g, 0, none⟩) P ∧ wb.heap.size ≤ g ∧ g < wr.heap.size := by
  obtain ⟨A, c, e, hc, h3, h4⟩ := own_slice h.row
  rcases h.row.2 with ⟨-, e0⟩ | ⟨g, cap, cur, e1, h5, h6, h7, _⟩
  · omega
  · subst e1
    exact ⟨g, cap, rfl, h7, own_ints h.row, h5, (Array.getElem?_eq_some_iff.1 h6).1⟩
end
/-- The plain part of the inner loop. -/
structure Rq (N : Nat) (l : List Lk) (us : List Int) (s : Int) (S P : List Int) (t : Int) (m : List (Int × Value)) : Prop where
  rg : Rg N l us (fun x => S.contains x) s P t
  plc : Plc l s P m
  dn : ∃ r K, DoneOk l us (fun x => S.contains x) r K
  inN : ∀ x, S.contains x = true → 0 ≤ x ∧ x < N
def Mm (N : Nat) (S : List Int) (n : Nat) : Nat := (N + 2) * (N - cntB (fun v => S.contains (v : Int)) N) + (N - n)
theorem Mm_mark {N : Nat} {S : List Int} {t : Int} {n n' : Nat} (h : S.contains t = false) (ht : 0 ≤ t ∧ t < N) (hn' : n' + 1 = n ∨ n' = n) (hn : n ≤ N) : Mm N (putS S t) n' < Mm N S n := by
  have h1 : cntB (fun v => S.contains (v : Int)) N < cntB (fun v => (putS S t).contains (v : Int)) N := by
    have e : ((t.toNat : Nat) : Int) = t := by omega
    refine cntB_lt (j := t.toNat) (by rw [e]; exact h) (by rw [e]; exact (put_has S t t).2 (.inr rfl)) N (by omega) fun i hi hb => (put_has S t _).2 (.inl hb)
  have h2 := cntB_max (fun v => (putS S t).contains (v : Int)) N
  unfold Mm
  obtain ⟨d, hd⟩ : ∃ d, N - cntB (fun v => S.contains (v : Int)) N = d + 1 := ⟨N - cntB (fun v => S.contains (v : Int)) N - 1, by omega⟩
  have h3 : N - cntB (fun v => (putS S t).contains (v : Int)) N ≤ d := by omega
  have h4 := Nat.mul_le_mul_left (N + 2) h3
  rw [hd, Nat.mul_add, Nat.mul_one]
  omega
theorem Mm_snoc {N : Nat} {S : List Int} {n : Nat} (hn : n < N) : Mm N S (n + 1) < Mm N S n := by unfold Mm; omega
section
variable {N : Nat} {l : List Lk} {us : List Int} {s t : Int} {S P : List Int} {m : List (Int × Value)} {k : Nat}
theorem Rq.start (hs : 0 ≤ s ∧ s < N) (hd : S.contains s = false) (dn : ∃ r K, DoneOk l us (fun x => S.contains x) r K) (inN : ∀ x, S.contains x = true → 0 ≤ x ∧ x < N) : Rq N l us s S [] s (putI [] s (.int .i64 0)) :=
  ⟨Rg.nil hs hd, Plc.nil s, dn, inN⟩
theorem Rq.tN (h : Rq N l us s S P t m) : 0 ≤ t ∧ t < N ∧ S.contains t = false := by
  have q := h.rg.in_ P.length (Nat.le_refl _)
  have d := h.rg.nod P.length (Nat.le_refl _)
  rw [h.rg.last] at q d
  exact ⟨q.1, q.2, d⟩
theorem Rq.snoc (h : Rq N l us s S P t m) (hk : k < l.length) (hn : NextB l us t (fun x => S.contains x) k) (hb : 0 ≤ (gl l k).b ∧ (gl l k).b < N) (hne : lookI m (gl l k).b = none) : Rq N l us s S (P ++ [(k : Int)]) (gl l k).b (putI m (gl l k).b (.int .i64 ((P.length + 1 : Nat) : Int))) := by
  have hne2 : ∀ j : Nat, j ≤ P.length → nd l s P j ≠ (gl l k).b := fun j hj e => by
    have := h.plc.here j hj
    rw [e, hne] at this
    cases this
  exact ⟨h.rg.snoc hk hn hb hne2, h.plc.snoc hne2, h.dn, h.inN⟩
/-- What is found in the map of places. -/
theorem Rq.found (h : Rq N l us s S P t m) {x : Int} {v : Value} (hf : lookI m x = some v) : ∃ a : Nat, a ≤ P.length ∧ v = .int .i64 (a : Int) ∧ nd l s P a = x := by
  refine Classical.byContradiction fun hn => ?_
  have := h.plc.not x fun j hj e => hn ⟨j, hj, by
    have h2 := h.plc.here j hj
    rw [e, hf] at h2
    exact Option.some.inj h2, e⟩
  rw [hf] at this
  cases this
theorem put_ne (S : List Int) {t x : Int} (e : x ≠ t) : (putS S t).contains x = S.contains x := by
  have := put_has S t x
  cases h : S.contains x
  · cases h2 : (putS S t).contains x
    · rfl
    · rcases this.1 h2 with h3 | h3
      · rw [h] at h3; cases h3
      · exact absurd h3 e
  · exact this.2 (.inl h)
theorem setD_put (S : List Int) (t : Int) : (fun x => (putS S t).contains x) = setD (fun x => S.contains x) t := by
  funext x
  unfold setD
  by_cases e : x = t
  · subst e; rw [if_pos rfl]; exact (put_has S x x).2 (.inr rfl)
  · rw [if_neg e]; exact put_ne S e
theorem Rq.done (h : Rq N l us s S P t m) (hn : ∀ k : Nat, k < l.length → ¬ NextB l us t (fun x => S.contains x) k) : (∃ r K, DoneOk l us (fun x => (putS S t).contains x) r K) ∧ ∀ x, (putS S t).contains x = true → 0 ≤ x ∧ x < N := by
  obtain ⟨t1, t2, t3⟩ := h.tN
  refine ⟨?_, fun x hx => ?_⟩
  · obtain ⟨r, K, hd⟩ := h.dn
    rw [setD_put]
    refine ⟨_, _, hd.mark t3 fun k hk e hp => ?_⟩
    cases hc : S.contains (gl l k).b
    · exact absurd ⟨e, hp, hc⟩ (hn k hk)
    · rfl
  · rcases (put_has S t x).1 hx with h2 | rfl
    · exact h.inN x h2
    · exact ⟨t1, t2⟩
theorem Rq.pop {i : Int} (h : Rq N l us s S (P ++ [i]) t m) (hn : ∀ k : Nat, k < l.length → ¬ NextB l us t (fun x => S.contains x) k) : Rq N l us s (putS S t) P (gl l i).a (delI m t) ∧ 0 ≤ i ∧ i < l.length := by
  obtain ⟨d1, d2⟩ := h.done hn
  obtain ⟨r1, r2, r3, r4⟩ := h.rg.pop (fun x => (putS S t).contains x) fun v hv => put_ne S hv
  exact ⟨⟨r1, h.plc.pop h.rg.dif_last r2, d1, d2⟩, r3, r4⟩
end
theorem walk_ends {l : List Lk} {s t c : Int} {P : List Int} (h : WI l s P t c) (hne : P ≠ []) : (gl l (gi P 0)).a = s ∧ (gl l (gi P ((P.length - 1 : Nat) : Int))).b = t := by
  have h0 : 0 < P.length := by cases P with | nil => exact absurd rfl hne | cons _ _ => simp
  obtain ⟨n1, n2⟩ := h.nodes
  refine ⟨(n2 0 h0).1, ?_⟩
  rw [← n1]; unfold nd; rw [if_neg (by omega)]
/-- The state of rings, between two searches. -/
structure Rs (w wr : World) (B q g md N : Nat) (A : Option Addr) (c : Nat) (l : List Lk) (cap : Nat) (W u0 us : List Int) (ov : Value) (ps : List PV) (S : List Int) : Prop where
  cut : CutW wr (fun k => k = md) B q g (N : Int) A c l us cap ov ps
  cu : Cu N l W u0 us (ps.map (·.1))
  map : MapI wr md (setI S)
  dn : ∃ r K, DoneOk l us (fun x => S.contains x) r K
  inN : ∀ x, S.contains x = true → 0 ≤ x ∧ x < N
  bel : Below B w wr
  hB : B ≤ md
section
variable {w wr w' wb : World} {B q g md mp N : Nat} {A : Option Addr} {c : Nat} {l : List Lk} {cap : Nat} {W u0 us : List Int} {ov : Value} {ps : List PV} {S S' P : List Int} {m : List (Int × Value)} {vl : Value}
theorem Rs.hw (h : Rs w wr B q g md N A c l cap W u0 us ov ps S) : B ≤ wr.heap.size := Nat.le_trans h.hB (Nat.le_of_lt h.map.lt)
theorem Rs.below (h : Rs w wr B q g md N A c l cap W u0 us ov ps S) (hb : Below wr.heap.size wr w') : Rs w w' B q g md N A c l cap W u0 us ov ps S :=
  ⟨h.cut.below hb, h.cu, h.map.below hb, h.dn, h.inN, h.bel.trans (hb.mono h.hw), h.hB⟩
/-- Behind a search. -/
theorem Rs.inner (h : Rs w wb B q g md N A c l cap W u0 us ov ps S) (k : Rh wb wr md mp S' P m vl) (dn : ∃ r K, DoneOk l us (fun x => S'.contains x) r K) (inN : ∀ x, S'.contains x = true → 0 ≤ x ∧ x < N) : Rs w wr B q g md N A c l cap W u0 us ov ps S' :=
  ⟨h.cut.fr k.fr, h.cu, k.map, dn, inN, k.fr.toBelow h.bel h.hw (fun i e => by subst e; exact h.hB), h.hB⟩
/-- Behind take. -/
theorem Rs.taken (h : Rs w wr B q g md N A c l cap W u0 us ov ps S) (hlk : ∀ k : Nat, k < l.length → 0 ≤ (gl l k).a ∧ (gl l k).a < N ∧ 0 ≤ (gl l k).b ∧ (gl l k).b < N) {s c0 : Int} {Q : List Int} (hw : WI l s Q s c0) (hne : Q ≠ []) (ho : Once l Q) (hp : ∀ i ∈ Q, 0 < gi us i)
    {ov' v : Value} (hc : CutW w' (fun k => k = md) B q g (N : Int) A c l (addP Q (-(minU us Q)) us) cap ov' (ps ++ [(⟨(gl l (gi Q 0)).a, (gl l (gi Q ((Q.length - 1 : Nat) : Int))).b, Q, minU us Q⟩, v)])) (hf : Fr wr w' (fun k => k = q ∨ k = g ∨ ov.ownBlock = some k)) :
    Rs w w' B q g md N A c l cap W u0 (addP Q (-(minU us Q)) us) ov' (ps ++ [(⟨(gl l (gi Q 0)).a, (gl l (gi Q ((Q.length - 1 : Nat) : Int))).b, Q, minU us Q⟩, v)]) S ∧ cntB (posB (addP Q (-(minU us Q)) us)) l.length < cntB (posB us) l.length := by
  obtain ⟨k1, k2, k3, k4⟩ := h.cu.take hlk hw hne ho hp (fun e => absurd rfl e)
  obtain ⟨e1, e2⟩ := walk_ends hw hne
  refine ⟨⟨hc, ?_, h.map.same (hf.block md h.map.lt ?_), ?_, h.inN, hf.toBelow h.bel h.hw ?_, h.hB⟩, k2⟩
  · rw [List.map_append, List.map_singleton, e1, e2]; exact k1
  · rintro (e | e | e)
    · exact h.cut.rq e.symm
    · exact h.cut.rg e.symm
    · exact h.cut.ro md e rfl
  · obtain ⟨r, K, hd⟩ := h.dn
    exact ⟨r, K, hd.less k3⟩
  · rintro i (e | e | e)
    · subst e; exact h.cut.Bq
    · subst e; exact h.cut.Bg
    · exact (h.cut.own.lt i e).1
end
end Go.Proofs.Ytmhiiomejopaoaa
