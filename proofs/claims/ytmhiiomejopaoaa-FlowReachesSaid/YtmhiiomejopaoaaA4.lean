/- The reference's Carry, plain: bounds as walks, the path of tight links, its end -/
import Derived.Test.YtmhiiomejopaoaaC3
namespace Go.Proofs.Ytmhiiomejopaoaa
set_option linter.all false
open Go.RowKit
set_option maxRecDepth 100000

/-- A walk from s, and its sum. -/
inductive Wk (l : List Lk) (s : Int) : Int → Int → Prop
  | nil : Wk l s s 0
  | snoc {k : Lk} {c : Int} : Wk l s k.a c → k ∈ l → Wk l s k.b (c + k.m)
/-- A node is reached by tight links. -/
inductive TR (l : List Lk) (d : List Int) (s : Int) : Int → Prop
  | nil : TR l d s s
  | snoc {k : Lk} : TR l d s k.a → k ∈ l → gi d k.a ≠ free → gi d k.b = gi d k.a + k.m → TR l d s k.b
section
variable {n : Nat} {l : List Lk} {p : Int → Int} {c s : Int}
def WkOk (n : Nat) (l : List Lk) (s : Int) (d : List Int) : Prop := ∀ v : Int, 0 ≤ v → v < n → gi d v = free ∨ Wk l s v (gi d v)
theorem fold_wk (hp : ∀ v, -1000000000000000 ≤ p v) (hc : -1000000000000000 ≤ c) : ∀ (r : List Lk) (j : Nat) (d : List Int), Gd n p c j d → j + r.length ≤ 20000 → (∀ k ∈ r, k ∈ l ∧ InR n k ∧ (-17179869184 ≤ k.m ∧ k.m ≤ 17179869184) ∧ p k.b ≤ p k.a + k.m) → WkOk n l s d → WkOk n l s (r.foldl rrelax d)
  | [], _, _, _, _, _, h => h
  | k :: r, j, d, hg, hj, hk, h => by
    simp only [List.length_cons] at hj
    obtain ⟨k1, k2, k3, k4⟩ := hk k (by simp)
    have h1 := rrelax_gd hp hc hg (by omega) k2 k3 k4
    rw [List.foldl_cons]
    refine fold_wk hp hc r (j + 1) _ h1 (by omega) (fun q hq => hk q (by simp [hq])) fun v v0 v1 => ?_
    rw [rrelax_gi hp hc hg (by omega) k2 k3 v v0]
    by_cases e : v = k.b ∧ gi d k.a ≠ free ∧ gi d k.a + k.m < gi d k.b
    · rw [if_pos e, e.1]
      right
      rcases h k.a k2.1 k2.2.1 with h2 | h2
      · exact absurd h2 e.2.1
      · exact .snoc h2 k1
    · rw [if_neg e]
      exact h v v0 v1
theorem riter_wk (hp : ∀ v, -1000000000000000 ≤ p v) (hc : -1000000000000000 ≤ c) (hl : l.length ≤ 260) (hk : ∀ k ∈ l, InR n k ∧ (-17179869184 ≤ k.m ∧ k.m ≤ 17179869184) ∧ p k.b ≤ p k.a + k.m) {d : List Int} (h : Gd n p c 0 d) (hw : WkOk n l s d) : ∀ (r : Nat), r ≤ 60 → WkOk n l s (riter l r d)
  | 0, _ => hw
  | r + 1, hr => by
    rw [riter_succ]
    exact fold_wk hp hc l (r * 260) _ (riter_gd hp hc hl hk h r (by omega)) (by omega) (fun k hm => ⟨hm, hk k hm⟩) (riter_wk hp hc hl hk h hw r (by omega))
end
/-- The bounds from a node of a net with a solution. -/
structure BndOk (n : Nat) (l : List Lk) (s : Int) (d : List Int) : Prop where
  at_ : gi d s = 0
  len : d.length = n
  hi : ∀ v : Int, 0 ≤ v → v < n → gi d v = free ∨ (-1000000000000000 ≤ gi d v ∧ gi d v ≤ 343597383680000)
  fix : ∀ k ∈ l, gi d k.a = free ∨ gi d k.b ≤ gi d k.a + k.m
  tr : ∀ v : Int, 0 ≤ v → v < n → gi d v ≠ free → TR l d s v
theorem wk_le {n : Nat} {l : List Lk} {s : Int} {d : List Int} (hin : ∀ k ∈ l, InR n k ∧ -17179869184 ≤ k.m ∧ k.m ≤ 17179869184) (h0 : gi d s = 0) (hhi : ∀ v : Int, 0 ≤ v → v < n → gi d v = free ∨ gi d v ≤ 343597383680000) (hfix : ∀ k ∈ l, gi d k.a = free ∨ gi d k.b ≤ gi d k.a + k.m) {v c : Int} (h : Wk l s v c) : (gi d v ≠ free ∧ gi d v ≤ c) ∧ (c = gi d v → TR l d s v) := by
  induction h with
  | nil => exact ⟨⟨by rw [h0]; decide, by rw [h0]; exact Int.le_refl _⟩, fun _ => .nil⟩
  | snoc hw hk ih =>
    rename_i k c
    obtain ⟨⟨i1, i2⟩, i3⟩ := ih
    obtain ⟨⟨a0, a1, b0, b1⟩, m1, m2⟩ := hin k hk
    have h1 : gi d k.b ≤ gi d k.a + k.m := (hfix k hk).resolve_left i1
    have h2 := (hhi k.a a0 a1).resolve_left i1
    refine ⟨⟨fun e => by rw [e] at h1; unfold free at h1; omega, by omega⟩, fun e => .snoc (i3 (by omega)) hk i1 (by omega)⟩
theorem bnd_ok {n : Nat} {l : List Lk} {s : Int} (hok : NetOk n l) (hsol : (solutionL n l).2 = true) (hs0 : 0 ≤ s) (hs1 : s < n) : BndOk n l s (rboundsL n l s) := by
  have hpot := solution_pot hok hsol
  have hlow := solution_low hok hsol
  obtain ⟨e1, _⟩ := bounds_same hok hsol hs0 hs1
  obtain ⟨q1, q2, q3⟩ := bounds_facts (s := s) hok hpot.lo hpot.hi hpot.fit hs0 hs1
  rw [e1] at q1 q2 q3
  have hn2 := hok.n2
  have hk : ∀ k ∈ l, InR n k ∧ (-17179869184 ≤ k.m ∧ k.m ≤ 17179869184) ∧ gi (solutionL n l).1 k.b ≤ gi (solutionL n l).1 k.a + k.m := fun k hk => ⟨(hok.lk k hk).1, (hok.lk k hk).2.2, hpot.fit k hk⟩
  have hhs := hpot.hi s
  have hls := hlow s hs0 hs1
  have h0 : Gd n (fun v => gi (solutionL n l).1 v) (-(gi (solutionL n l).1 s)) 0 (si (List.replicate n free) s 0) := by
    refine ⟨by simp [si], fun v v0 v1 => ?_⟩
    rw [start_gi hs0 hs1 v v0 v1]
    split
    · rename_i e; subst e; right; omega
    · exact .inl rfl
  have hw : WkOk n l s (rboundsL n l s) := by
    refine riter_wk (p := fun v => gi (solutionL n l).1 v) hpot.lo (c := -(gi (solutionL n l).1 s)) (by change gi (solutionL n l).1 s ≤ 0 at hhs; omega) hok.l1 hk h0 (fun v v0 v1 => ?_) n (by omega)
    rw [start_gi hs0 hs1 v v0 v1]
    split
    · rename_i e; subst e; exact .inr .nil
    · exact .inl rfl
  have hle : ∀ v : Int, 0 ≤ v → v < n → gi (rboundsL n l s) v = free ∨ gi (rboundsL n l s) v ≤ 343597383680000 := fun v v0 v1 => (q2 v v0 v1).imp id (fun h => h.2)
  refine ⟨q1, ?_, fun v v0 v1 => (q2 v v0 v1).imp id (fun h => ⟨?_, h.2⟩), q3, fun v v0 v1 hne => ?_⟩
  · rw [← e1]; exact boundsL_length n l s
  · have h1 := h.1
    have h2 := hlow v v0 v1
    change gi (solutionL n l).1 v - gi (solutionL n l).1 s ≤ _ at h1
    change gi (solutionL n l).1 s ≤ 0 at hhs
    omega
  · have hin : ∀ k ∈ l, InR n k ∧ -17179869184 ≤ k.m ∧ k.m ≤ 17179869184 := fun k hk => ⟨(hok.lk k hk).1, (hok.lk k hk).2.2⟩
    exact (wk_le hin q1 hle q3 ((hw v v0 v1).resolve_left hne)).2 rfl
/-- Some solution in which the links with units are tight. -/
def Ten (l : List Lk) (u : List Int) : Prop := ∃ x : Int → Int, (∀ k : Nat, k < l.length → x (gl l k).b ≤ x (gl l k).a + (gl l k).m) ∧ ∀ k : Nat, k < l.length → 0 < gi u k → x (gl l k).b = x (gl l k).a + (gl l k).m
theorem ten_sol {n : Nat} {l : List Lk} {u : List Int} (hok : NetOk n l) (hl : l.length ≤ 100) (hu : u.length = l.length) (h : Ten l u) : NetOk n (rigidL l u) ∧ (solutionL n (rigidL l u)).2 = true := by
  have hrk := rigid_ok (u := u) hok hl
  obtain ⟨x, x1, x2⟩ := h
  refine ⟨hrk, sol_any hrk (x := x) fun q hq => ?_⟩
  rcases List.mem_append.1 hq with hq | hq
  · obtain ⟨j, hj, e⟩ := List.mem_iff_getElem.1 hq
    have e2 : gl l j = q := by rw [← e]; simp [gl, List.getD_eq_getElem?_getD, hj]
    have := x1 j hj
    rw [e2] at this
    exact this
  · obtain ⟨j, hj, h0, rfl⟩ := (backs_at hu).1 hq
    have h1 := x2 j hj h0
    have h2 := (hok.lk (gl l j) (gl_mem (l := l) (i := (j : Int)) (by omega) (by omega))).2.2
    show x (gl l j).a ≤ x (gl l j).b + wrap64 (-(gl l j).m)
    rw [wrap_in (by omega)]; omega
/-- The bounds of the net in which units can be taken back, and a solution above them where nothing bounds: a solution anew, in which the tight ways are tight. -/
theorem ten_new {n : Nat} {l : List Lk} {u : List Int} {s : Int} {d : List Int} (hok : NetOk n l) (hl : l.length ≤ 100) (hu : u.length = l.length) (h : Ten l u) (hd : BndOk n (rigidL l u) s d) : ∃ x : Int → Int, (∀ v : Int, 0 ≤ v → v < n → gi d v ≠ free → x v = gi d v) ∧ (∀ k : Nat, k < l.length → x (gl l k).b ≤ x (gl l k).a + (gl l k).m) ∧ ∀ k : Nat, k < l.length → 0 < gi u k → x (gl l k).b = x (gl l k).a + (gl l k).m := by
  obtain ⟨hrk, hsol⟩ := ten_sol hok hl hu h
  have hpot := solution_pot hrk hsol
  have hlo := hpot.lo
  have hfit := hpot.fit
  generalize (solutionL n (rigidL l u)).1 = y at *
  change ∀ k ∈ rigidL l u, gi y k.b ≤ gi y k.a + k.m at hfit
  change ∀ v, -1000000000000000 ≤ gi y v at hlo
  have hx : ∀ q ∈ rigidL l u, (if gi d q.b ≠ free then gi d q.b else gi y q.b + 2000000000000000) ≤ (if gi d q.a ≠ free then gi d q.a else gi y q.a + 2000000000000000) + q.m := by
    intro q hq
    obtain ⟨⟨a0, a1, b0, b1⟩, _, m1, m2⟩ := hrk.lk q hq
    have h1 := hd.fix q hq
    have h2 := hfit q hq
    have h3 := hlo q.a
    have h4 := hd.hi q.b b0 b1
    have h5 := hd.hi q.a a0 a1
    by_cases ha : gi d q.a = free
    · rw [if_neg (show ¬ gi d q.a ≠ free from fun h => h ha)]
      by_cases hb : gi d q.b = free
      · rw [if_neg (show ¬ gi d q.b ≠ free from fun h => h hb)]; omega
      · rw [if_pos hb]
        have := h4.resolve_left hb
        omega
    · rw [if_pos ha]
      have h6 := h1.resolve_left ha
      have h7 := h5.resolve_left ha
      have hb : gi d q.b ≠ free := fun e => by rw [e] at h6; unfold free at h6; omega
      rw [if_pos hb]
      exact h6
  refine ⟨fun v => if gi d v ≠ free then gi d v else gi y v + 2000000000000000, fun v _ _ hne => if_pos hne, fun k hk => hx _ (List.mem_append.2 (.inl (gl_mem (by omega) (by omega)))), fun k hk h0 => ?_⟩
  have h1 := hx _ (List.mem_append.2 (.inl (gl_mem (l := l) (i := (k : Int)) (by omega) (by omega))))
  have h2 := hx _ (List.mem_append.2 (.inr ((backs_at hu).2 ⟨k, hk, h0, rfl⟩)))
  have h3 := (hok.lk (gl l k) (gl_mem (l := l) (i := (k : Int)) (by omega) (by omega))).2.2
  change (if gi d (gl l k).a ≠ free then gi d (gl l k).a else gi y (gl l k).a + 2000000000000000) ≤ (if gi d (gl l k).b ≠ free then gi d (gl l k).b else gi y (gl l k).b + 2000000000000000) + wrap64 (-(gl l k).m) at h2
  rw [wrap_in (by omega)] at h2
  show (if gi d (gl l k).b ≠ free then gi d (gl l k).b else gi y (gl l k).b + 2000000000000000) = (if gi d (gl l k).a ≠ free then gi d (gl l k).a else gi y (gl l k).a + 2000000000000000) + (gl l k).m
  omega
/-- Where nothing that gets is bounded: a cut. -/
theorem cut_bnd {n : Nat} {l : List Lk} {w u f : List Int} {s : Nat} {d : List Int} (hok : NetOk n l) (hu : u.length = l.length) (hd : BndOk n (rigidL l u) s d) (hs : s < n) (hu0 : ∀ k : Nat, k < l.length → 0 ≤ gi u k) (hcons : ∀ v : Nat, v < n → gi f v + net l u v = gi w v) (hf : gi f s < 0) (hno : ∀ v : Nat, v < n → gi f v ≤ 0 ∨ gi d v = free) : Cut n l w := by
  have hin : ∀ k : Nat, k < l.length → InR n (gl l k) ∧ -17179869184 ≤ (gl l k).m ∧ (gl l k).m ≤ 17179869184 := fun k hk => by
    have := hok.lk (gl l k) (gl_mem (l := l) (i := (k : Int)) (by omega) (by omega))
    exact ⟨this.1, this.2.2⟩
  have hfw : ∀ k : Nat, k < l.length → gi d (gl l k).a ≠ free → gi d (gl l k).b ≠ free := by
    intro k hk ha e
    obtain ⟨⟨a0, a1, b0, b1⟩, m1, m2⟩ := hin k hk
    have h1 := (hd.fix _ (List.mem_append.2 (.inl (gl_mem (l := l) (i := (k : Int)) (by omega) (by omega))))).resolve_left ha
    have h2 := (hd.hi _ a0 a1).resolve_left ha
    rw [e] at h1; unfold free at h1; omega
  have hbw : ∀ k : Nat, k < l.length → 0 < gi u k → gi d (gl l k).b ≠ free → gi d (gl l k).a ≠ free := by
    intro k hk h0 hb e
    obtain ⟨⟨a0, a1, b0, b1⟩, m1, m2⟩ := hin k hk
    have h1 := (hd.fix _ (List.mem_append.2 (.inr ((backs_at hu).2 ⟨k, hk, h0, rfl⟩)))).resolve_left hb
    have h2 := (hd.hi _ b0 b1).resolve_left hb
    change gi d (gl l k).a ≤ gi d (gl l k).b + wrap64 (-(gl l k).m) at h1
    rw [wrap_in (by omega), e] at h1
    unfold free at h1; omega
  refine ⟨fun v => decide (gi d v ≠ free), fun k hk h => by simpa using hfw k hk (by simpa using h), ?_⟩
  have hds := dual_sum (n := n) (l := l) u (fun v => if gi d v ≠ free then 1 else 0) (fun k hk => by obtain ⟨⟨a0, a1, b0, b1⟩, _⟩ := hin k hk; exact ⟨a0, a1, b0, b1⟩)
  have hz : sumN (fun k => gi u k * ((if gi d (gl l k).b ≠ free then 1 else 0) - (if gi d (gl l k).a ≠ free then 1 else 0))) l.length = 0 := by
    rw [sumN_congr (h := fun _ => 0) l.length (fun k hk => ?_), sumN_zero]
    have h0 := hu0 k hk
    have h1 := hfw k hk
    by_cases hu2 : gi u k = 0
    · rw [hu2, Int.zero_mul]
    · have h2 := hbw k hk (by omega)
      by_cases ha : gi d (gl l k).a ≠ free
      · rw [if_pos ha, if_pos (h1 ha)]; omega
      · rw [if_neg ha, if_neg (fun hb => ha (h2 hb))]; omega
  rw [hz] at hds
  have e : sumN (fun v : Nat => if decide (gi d v ≠ free) = true then gi w v else 0) n = sumN (fun v : Nat => if gi d v ≠ free then gi f v else 0) n := by
    have e2 : sumN (fun v : Nat => if decide (gi d v ≠ free) = true then gi w v else 0) n = sumN (fun v : Nat => (if gi d v ≠ free then gi f v else 0) + (if gi d v ≠ free then 1 else 0) * net l u v) n := by
      refine sumN_congr n fun i hi => ?_
      have := hcons i hi
      by_cases h : gi d i ≠ free
      · rw [if_pos (by simpa using h), if_pos h, if_pos h]; omega
      · rw [if_neg (by simpa using h), if_neg h, if_neg h]; omega
    rw [e2, sumN_add, hds]; omega
  rw [e]
  have h1 := sumN_le (g := fun v : Nat => if gi d v ≠ free then gi f v else 0) (h := fun v : Nat => if v = s then gi f s else 0) n (fun i hi => by
    show (if gi d i ≠ free then gi f i else 0) ≤ (if i = s then gi f s else 0)
    by_cases e : i = s
    · subst e
      rw [if_pos rfl, if_pos (by rw [hd.at_]; decide)]; exact Int.le_refl _
    · rw [if_neg e]
      by_cases h : gi d i ≠ free
      · rw [if_pos h]
        exact (hno i hi).resolve_right h
      · rw [if_neg h]; exact Int.le_refl _)
  have h2 := sumN_upd (g := fun v : Nat => if v = s then gi f s else 0) (h := fun _ => 0) (j := s) n (fun i _ hne => if_neg hne)
  rw [sumN_zero, if_pos hs, if_pos rfl] at h2
  omega

/-- One link of the search: by which link each node is reached, and the nodes seen. -/
def bfsLink (rl : List Lk) (d : List Int) (s v : Int) (st : List Int × List Int) (i : Nat) : List Int × List Int :=
  if (gl rl i).a = v ∧ (gl rl i).b ≠ s ∧ gi st.1 (gl rl i).b < 0 ∧ wrap64 (gi d (gl rl i).a + (gl rl i).m) = gi d (gl rl i).b then (si st.1 (gl rl i).b i, st.2 ++ [(gl rl i).b]) else st
def bfsRow (rl : List Lk) (d : List Int) (s v : Int) : Nat → List Int × List Int → List Int × List Int
  | 0, st => st
  | i + 1, st => bfsLink rl d s v (bfsRow rl d s v i st) i
def bfsN (rl : List Lk) (d : List Int) (s : Int) : Nat → Nat → List Int × List Int → Option (List Int × List Int)
  | 0, _, _ => none
  | f + 1, k, st => if k < st.2.length then bfsN rl d s f (k + 1) (bfsRow rl d s (gi st.2 k) rl.length st) else some st
def wayB (rl : List Lk) (by_ : List Int) (s : Int) : Nat → Int → List Int → Option (List Int)
  | 0, _, _ => none
  | f + 1, at_, out => if at_ = s then some out else if gi by_ at_ < 0 ∨ (rl.length : Int) ≤ gi by_ at_ then none else wayB rl by_ s f (gl rl (gi by_ at_)).a (gi by_ at_ :: out)
def Tight_ (rl : List Lk) (d : List Int) (i : Nat) : Prop := gi d (gl rl i).a ≠ free ∧ gi d (gl rl i).b = gi d (gl rl i).a + (gl rl i).m
/-- What the search keeps. -/
structure Bfs (n : Nat) (rl : List Lk) (d : List Int) (s : Int) (ρ : Int → Nat) (st : List Int × List Int) : Prop where
  len : st.1.length = n
  bs : gi st.1 s < 0
  by_ : ∀ v : Int, 0 ≤ v → v < n → 0 ≤ gi st.1 v → gi st.1 v < rl.length ∧ (gl rl (gi st.1 v)).b = v ∧ Tight_ rl d (gi st.1 v).toNat ∧ ρ (gl rl (gi st.1 v)).a < ρ v ∧ ((gl rl (gi st.1 v)).a = s ∨ 0 ≤ gi st.1 (gl rl (gi st.1 v)).a)
  seen : ∀ j : Nat, j < st.2.length → 0 ≤ gi st.2 j ∧ gi st.2 j < n ∧ gi d (gi st.2 j) ≠ free ∧ (gi st.2 j = s ∨ 0 ≤ gi st.1 (gi st.2 j))
  has : ∀ v : Int, 0 ≤ v → v < n → (v = s ∨ 0 ≤ gi st.1 v) → (∃ j : Nat, j < st.2.length ∧ gi st.2 j = v) ∧ ρ v < st.2.length
  cnt_ : st.2.length = 1 + cnt (fun v : Nat => decide (0 ≤ gi st.1 v)) n
section
variable {n : Nat} {rl : List Lk} {d : List Int} {s : Int}
theorem cnt_upd {P Q : Nat → Bool} {v : Nat} (hv : P v = false) (hq : Q v = true) (hne : ∀ i, i ≠ v → P i = Q i) : ∀ k, v < k → cnt Q k = cnt P k + 1
  | 0, h => absurd h (by omega)
  | k + 1, h => by
    unfold cnt
    by_cases e : v = k
    · subst e
      have key : ∀ j, j ≤ v → cnt Q j = cnt P j := by
        intro j
        induction j with
        | zero => intro _; rfl
        | succ j ih =>
          intro hj
          unfold cnt
          rw [ih (by omega), hne j (by omega)]
      rw [key v (Nat.le_refl _), hv, hq]
      simp
    · have ih := cnt_upd hv hq hne k (by omega)
      rw [ih, hne k (fun h => e h.symm)]
      split <;> omega
theorem bfs_link (hd : BndOk n rl s d) (hin : ∀ k : Nat, k < rl.length → InR n (gl rl k) ∧ -17179869184 ≤ (gl rl k).m ∧ (gl rl k).m ≤ 17179869184) (hs0 : 0 ≤ s) (hs1 : s < n) {ρ : Int → Nat} {st : List Int × List Int} (h : Bfs n rl d s ρ st) {v : Int} (hv0 : 0 ≤ v) (hv1 : v < n) (hvs : v = s ∨ 0 ≤ gi st.1 v) (hvd : gi d v ≠ free) (i : Nat) (hi : i < rl.length) :
    (∃ ρ', Bfs n rl d s ρ' (bfsLink rl d s v st i)) ∧ (∀ u : Int, 0 ≤ u → 0 ≤ gi st.1 u → 0 ≤ gi (bfsLink rl d s v st i).1 u) ∧ (∃ z, (bfsLink rl d s v st i).2 = st.2 ++ z) ∧ ((gl rl i).a = v → (gl rl i).b ≠ s → Tight_ rl d i → 0 ≤ gi (bfsLink rl d s v st i).1 (gl rl i).b) := by
  obtain ⟨⟨a0, a1, b0, b1⟩, m1, m2⟩ := hin i hi
  unfold bfsLink
  by_cases hc : (gl rl i).a = v ∧ (gl rl i).b ≠ s ∧ gi st.1 (gl rl i).b < 0 ∧ wrap64 (gi d (gl rl i).a + (gl rl i).m) = gi d (gl rl i).b
  · rw [if_pos hc]
    obtain ⟨c1, c2, c3, c4⟩ := hc
    have hda := (hd.hi _ a0 a1).resolve_left (by rw [c1]; exact hvd)
    rw [wrap_in (by omega)] at c4
    have hset : ∀ u : Int, 0 ≤ u → gi (si st.1 (gl rl i).b i) u = if u = (gl rl i).b then (i : Int) else gi st.1 u := fun u hu => gi_set_eq b0 (by rw [h.len]; exact b1) hu
    have hvb : v ≠ (gl rl i).b := by
      rintro e
      rcases hvs with h1 | h1
      · exact c2 (e.symm.trans h1)
      · rw [← e] at c3; omega
    have hab : (gl rl i).a ≠ (gl rl i).b := by rw [c1]; exact hvb
    refine ⟨⟨fun u => if u = (gl rl i).b then st.2.length else ρ u, ⟨by simp [si, h.len], ?_, ?_, ?_, ?_, ?_⟩⟩, ?_, ⟨[(gl rl i).b], rfl⟩, fun _ _ _ => ?_⟩
    · show gi (si st.1 (gl rl i).b i) s < 0
      rw [hset s hs0, if_neg (fun e => c2 e.symm)]; exact h.bs
    · intro u u0 u1 hu
      change 0 ≤ gi (si st.1 (gl rl i).b i) u at hu
      show gi (si st.1 (gl rl i).b i) u < _ ∧ _
      rw [hset u u0] at hu ⊢
      by_cases e : u = (gl rl i).b
      · rw [if_pos e]
        refine ⟨by omega, e.symm, by rw [Int.toNat_natCast]; exact ⟨by rw [c1]; exact hvd, c4.symm⟩, ?_, ?_⟩
        · show (if (gl rl i).a = (gl rl i).b then st.2.length else ρ (gl rl i).a) < (if u = (gl rl i).b then st.2.length else ρ u)
          rw [if_neg hab, if_pos e, c1]
          exact (h.has v hv0 hv1 hvs).2
        · rw [c1]
          rcases hvs with h1 | h1
          · exact .inl h1
          · right
            show 0 ≤ gi (si st.1 (gl rl i).b i) v
            rw [hset v hv0, if_neg hvb]; exact h1
      · rw [if_neg e] at hu ⊢
        obtain ⟨q1, q2, q3, q4, q5⟩ := h.by_ u u0 u1 hu
        have hua := hin (gi st.1 u).toNat (by omega)
        rw [show (((gi st.1 u).toNat : Nat) : Int) = gi st.1 u by omega] at hua
        have hub : (gl rl (gi st.1 u)).a ≠ (gl rl i).b := by
          intro e2
          rcases q5 with q5 | q5
          · exact c2 (e2.symm.trans q5)
          · rw [e2] at q5; omega
        refine ⟨q1, q2, q3, ?_, ?_⟩
        · show (if (gl rl (gi st.1 u)).a = (gl rl i).b then st.2.length else ρ (gl rl (gi st.1 u)).a) < (if u = (gl rl i).b then st.2.length else ρ u)
          rw [if_neg hub, if_neg e]; exact q4
        · rcases q5 with q5 | q5
          · exact .inl q5
          · right
            show 0 ≤ gi (si st.1 (gl rl i).b i) (gl rl (gi st.1 u)).a
            rw [hset _ hua.1.1, if_neg hub]; exact q5
    · intro j hj
      show 0 ≤ gi (st.2 ++ [(gl rl i).b]) j ∧ _
      simp at hj
      by_cases e : j = st.2.length
      · rw [gi_append_last _ _ _ e]
        refine ⟨b0, b1, ?_, .inr ?_⟩
        · intro e2; rw [e2] at c4; unfold free at c4; omega
        · show 0 ≤ gi (si st.1 (gl rl i).b i) (gl rl i).b
          rw [hset _ b0, if_pos rfl]; omega
      · rw [gi_append_left _ _ _ (by omega)]
        obtain ⟨q1, q2, q3, q4⟩ := h.seen j (by omega)
        refine ⟨q1, q2, q3, ?_⟩
        rcases q4 with q4 | q4
        · exact .inl q4
        · right
          show 0 ≤ gi (si st.1 (gl rl i).b i) (gi st.2 j)
          rw [hset _ q1]
          split
          · omega
          · exact q4
    · intro u u0 u1 hu
      change u = s ∨ 0 ≤ gi (si st.1 (gl rl i).b i) u at hu
      show (∃ j : Nat, j < (st.2 ++ [(gl rl i).b]).length ∧ gi (st.2 ++ [(gl rl i).b]) j = u) ∧ (if u = (gl rl i).b then st.2.length else ρ u) < (st.2 ++ [(gl rl i).b]).length
      rw [List.length_append, List.length_singleton]
      by_cases e : u = (gl rl i).b
      · rw [if_pos e]
        exact ⟨⟨st.2.length, by omega, by rw [gi_append_last _ _ _ rfl]; exact e.symm⟩, by omega⟩
      · rw [if_neg e]
        have hu' : u = s ∨ 0 ≤ gi st.1 u := by
          rcases hu with hu | hu
          · exact .inl hu
          · rw [hset u u0, if_neg e] at hu; exact .inr hu
        obtain ⟨⟨j, j1, j2⟩, j3⟩ := h.has u u0 u1 hu'
        exact ⟨⟨j, by omega, by rw [gi_append_left _ _ _ j1]; exact j2⟩, by omega⟩
    · show (st.2 ++ [(gl rl i).b]).length = 1 + cnt (fun u : Nat => decide (0 ≤ gi (si st.1 (gl rl i).b i) u)) n
      have hb' : (((gl rl i).b.toNat : Nat) : Int) = (gl rl i).b := by omega
      rw [List.length_append, List.length_singleton, h.cnt_, cnt_upd (P := fun u : Nat => decide (0 ≤ gi st.1 u)) (Q := fun u : Nat => decide (0 ≤ gi (si st.1 (gl rl i).b i) u)) (v := (gl rl i).b.toNat) (by simp only [hb']; simpa using c3) (by simp only [hb', hset _ b0, if_true]; simp) (fun u hu => by simp only [hset u (by omega)]; rw [if_neg (by omega)]) n (by omega)]
      omega
    · intro u u0 hu
      show 0 ≤ gi (si st.1 (gl rl i).b i) u
      rw [hset u u0]
      split
      · omega
      · exact hu
    · show 0 ≤ gi (si st.1 (gl rl i).b i) (gl rl i).b
      rw [hset _ b0, if_pos rfl]; omega
  · rw [if_neg hc]
    refine ⟨⟨ρ, h⟩, fun u _ hu => hu, ⟨[], by simp⟩, fun c1 c2 c3 => ?_⟩
    refine Classical.byContradiction fun hneg => hc ⟨c1, c2, by omega, ?_⟩
    have hda := (hd.hi _ a0 a1).resolve_left c3.1
    rw [wrap_in (by omega)]
    exact c3.2.symm
theorem gi_ext_left {a b z : List Int} (h : b = a ++ z) {j : Nat} (hj : j < a.length) : gi b j = gi a j := by
  subst h
  simp [gi, List.getD_eq_getElem?_getD, List.getElem?_append_left hj]
theorem bfs_row (hd : BndOk n rl s d) (hin : ∀ k : Nat, k < rl.length → InR n (gl rl k) ∧ -17179869184 ≤ (gl rl k).m ∧ (gl rl k).m ≤ 17179869184) (hs0 : 0 ≤ s) (hs1 : s < n) {ρ : Int → Nat} {st : List Int × List Int} (h : Bfs n rl d s ρ st) {v : Int} (hv0 : 0 ≤ v) (hv1 : v < n) (hvs : v = s ∨ 0 ≤ gi st.1 v) (hvd : gi d v ≠ free) : ∀ i, i ≤ rl.length →
    (∃ ρ', Bfs n rl d s ρ' (bfsRow rl d s v i st)) ∧ (∀ u : Int, 0 ≤ u → 0 ≤ gi st.1 u → 0 ≤ gi (bfsRow rl d s v i st).1 u) ∧ (∃ z, (bfsRow rl d s v i st).2 = st.2 ++ z) ∧ ∀ j : Nat, j < i → (gl rl j).a = v → (gl rl j).b ≠ s → Tight_ rl d j → 0 ≤ gi (bfsRow rl d s v i st).1 (gl rl j).b
  | 0, _ => ⟨⟨ρ, h⟩, fun _ _ h => h, ⟨[], by simp [bfsRow]⟩, fun j hj => by omega⟩
  | i + 1, hi => by
    obtain ⟨⟨ρ1, h1⟩, h2, ⟨z, h3⟩, h4⟩ := bfs_row hd hin hs0 hs1 h hv0 hv1 hvs hvd i (by omega)
    obtain ⟨g1, g2, ⟨z2, g3⟩, g4⟩ := bfs_link hd hin hs0 hs1 h1 hv0 hv1 (hvs.imp id (h2 v hv0)) hvd i (by omega)
    refine ⟨g1, fun u u0 hu => g2 u u0 (h2 u u0 hu), ⟨z ++ z2, ?_⟩, fun j hj ha hb ht => ?_⟩
    · show (bfsLink rl d s v (bfsRow rl d s v i st) i).2 = _
      rw [g3, h3, List.append_assoc]
    · by_cases e : j = i
      · subst e; exact g4 ha hb ht
      · exact g2 _ (hin j (by omega)).1.2.2.1 (h4 j (by omega) ha hb ht)
/-- All links out of the first nodes seen are looked at. -/
def Clo (rl : List Lk) (d : List Int) (s : Int) (k : Nat) (st : List Int × List Int) : Prop := ∀ j : Nat, j < k → ∀ i : Nat, i < rl.length → (gl rl i).a = gi st.2 j → (gl rl i).b ≠ s → Tight_ rl d i → 0 ≤ gi st.1 (gl rl i).b
theorem bfs_all (hd : BndOk n rl s d) (hin : ∀ k : Nat, k < rl.length → InR n (gl rl k) ∧ -17179869184 ≤ (gl rl k).m ∧ (gl rl k).m ≤ 17179869184) (hs0 : 0 ≤ s) (hs1 : s < n) : ∀ (f k : Nat) (st : List Int × List Int) (ρ : Int → Nat), Bfs n rl d s ρ st → Clo rl d s k st → k ≤ st.2.length → n + 2 ≤ f + k →
    ∃ st' ρ', bfsN rl d s f k st = some st' ∧ Bfs n rl d s ρ' st' ∧ Clo rl d s st'.2.length st'
  | 0, k, st, ρ, h, _, hk, hf => by
    have h1 := h.cnt_
    have h2 := cnt_le (fun v : Nat => decide (0 ≤ gi st.1 v)) n
    omega
  | f + 1, k, st, ρ, h, hc, hk, hf => by
    unfold bfsN
    by_cases hlt : k < st.2.length
    · rw [if_pos hlt]
      obtain ⟨q1, q2, q3, q4⟩ := h.seen k hlt
      obtain ⟨⟨ρ1, h1⟩, h2, ⟨z, h3⟩, h4⟩ := bfs_row hd hin hs0 hs1 h q1 q2 q4 q3 rl.length (Nat.le_refl _)
      refine bfs_all hd hin hs0 hs1 f (k + 1) _ ρ1 h1 (fun j hj i hi ha hb ht => ?_) (by rw [h3, List.length_append]; omega) (by omega)
      rw [gi_ext_left h3 (by omega)] at ha
      by_cases e : j = k
      · subst e; exact h4 i hi ha hb ht
      · exact h2 _ (hin i hi).1.2.2.1 (hc j (by omega) i hi ha hb ht)
    · rw [if_neg hlt]
      have e : k = st.2.length := by omega
      subst e
      exact ⟨st, ρ, rfl, h, hc⟩
theorem tr_seen (hin : ∀ k : Nat, k < rl.length → InR n (gl rl k) ∧ -17179869184 ≤ (gl rl k).m ∧ (gl rl k).m ≤ 17179869184) {ρ : Int → Nat} {st : List Int × List Int} (h : Bfs n rl d s ρ st) (hc : Clo rl d s st.2.length st) {v : Int} (ht : TR rl d s v) : v = s ∨ 0 ≤ gi st.1 v := by
  induction ht with
  | nil => exact .inl rfl
  | snoc h1 h2 h3 h4 ih =>
    rename_i k
    obtain ⟨i, hi, e⟩ := List.mem_iff_getElem.1 h2
    have e2 : gl rl i = k := by rw [← e]; simp [gl, List.getD_eq_getElem?_getD, hi]
    obtain ⟨⟨a0, a1, b0, b1⟩, _⟩ := hin i hi
    rw [e2] at a0 a1
    obtain ⟨⟨j, j1, j2⟩, _⟩ := h.has k.a a0 a1 ih
    by_cases hb : k.b = s
    · exact .inl hb
    · right
      have := hc j j1 i hi (by rw [e2, j2]) (by rw [e2]; exact hb) ⟨by rw [e2]; exact h3, by rw [e2]; exact h4⟩
      rw [e2] at this
      exact this
/-- A path of tight links, by their indices. -/
inductive PW (rl : List Lk) (d : List Int) (s : Int) : Int → List Int → Prop
  | nil : PW rl d s s []
  | snoc {q : Int} {P : List Int} : PW rl d s (gl rl q).a P → 0 ≤ q → q < rl.length → Tight_ rl d q.toNat → PW rl d s (gl rl q).b (P ++ [q])
theorem way_ok (hin : ∀ k : Nat, k < rl.length → InR n (gl rl k) ∧ -17179869184 ≤ (gl rl k).m ∧ (gl rl k).m ≤ 17179869184) {ρ : Int → Nat} {st : List Int × List Int} (h : Bfs n rl d s ρ st) : ∀ (r : Nat) (v : Int), 0 ≤ v → v < n → (v = s ∨ 0 ≤ gi st.1 v) → ρ v ≤ r → ∀ (f : Nat) (out : List Int), r + 1 < f →
    ∃ P, wayB rl st.1 s f v out = some (P ++ out) ∧ PW rl d s v P ∧ (P.map fun q => (gl rl q).b).Nodup ∧ (∀ q ∈ P, ρ (gl rl q).b ≤ ρ v) ∧ P.length ≤ r + 1 := by
  intro r
  induction r using Nat.strongRecOn with
  | _ r ih =>
    intro v v0 v1 hv hr f out hf
    obtain ⟨f, rfl⟩ : ∃ f', f = f' + 1 := ⟨f - 1, by omega⟩
    unfold wayB
    by_cases hs : v = s
    · rw [if_pos hs]
      exact ⟨[], rfl, by rw [hs]; exact .nil, List.nodup_nil, by simp, by simp⟩
    · rw [if_neg hs]
      have hb := hv.resolve_left hs
      obtain ⟨q1, q2, q3, q4, q5⟩ := h.by_ v v0 v1 hb
      rw [if_neg (by omega)]
      have hua := hin (gi st.1 v).toNat (by omega)
      rw [show (((gi st.1 v).toNat : Nat) : Int) = gi st.1 v by omega] at hua
      obtain ⟨⟨a0, a1, b0, b1⟩, _⟩ := hua
      obtain ⟨P, p1, p2, p3, p4, p5⟩ := ih (ρ (gl rl (gi st.1 v)).a) (by omega) (gl rl (gi st.1 v)).a a0 a1 q5 (Nat.le_refl _) f (gi st.1 v :: out) (by omega)
      refine ⟨P ++ [gi st.1 v], by rw [p1]; simp, ?_, ?_, ?_, by simp; omega⟩
      · have := PW.snoc (rl := rl) (d := d) (s := s) p2 hb q1 q3
        rw [q2] at this
        exact this
      · rw [List.map_append, List.nodup_append]
        refine ⟨p3, by simp, ?_⟩
        intro x hx y hy
        simp at hy
        obtain ⟨q, hq, e⟩ := List.mem_map.1 hx
        rintro rfl
        have h6 := p4 q hq
        rw [e, hy, q2] at h6
        omega
      · intro q hq
        rcases List.mem_append.1 hq with hq | hq
        · have := p4 q hq; omega
        · simp at hq
          rw [hq, q2]; exact Nat.le_refl _
def backP (f n : Nat) (rl : List Lk) (s t : Int) : Option (List Int) :=
  match bfsN rl (rboundsL n rl s) s f 0 (List.replicate n (-1), [s]) with
  | none => none
  | some st => wayB rl st.1 s f t []
theorem gi_repm (m : Nat) (c k : Int) (h0 : 0 ≤ k) (h : k < m) : gi (List.replicate m c) k = c := by
  simp only [gi, List.getD_eq_getElem?_getD, List.getElem?_replicate]
  rw [if_pos (by omega)]
  rfl
theorem cnt_none {P : Nat → Bool} : ∀ k, (∀ i, i < k → P i = false) → cnt P k = 0
  | 0, _ => rfl
  | k + 1, h => by
    unfold cnt
    rw [cnt_none k fun i hi => h i (by omega), h k (by omega)]
    rfl
theorem back_ok (hd : BndOk n rl s (rboundsL n rl s)) (hn : n ≤ 100) (hin : ∀ k : Nat, k < rl.length → InR n (gl rl k) ∧ -17179869184 ≤ (gl rl k).m ∧ (gl rl k).m ≤ 17179869184) (hs0 : 0 ≤ s) (hs1 : s < n) {t : Int} (ht0 : 0 ≤ t) (ht1 : t < n) (htd : gi (rboundsL n rl s) t ≠ free) (f : Nat) (hf : 1000 ≤ f) :
    ∃ P, backP f n rl s t = some P ∧ PW rl (rboundsL n rl s) s t P ∧ (P.map fun q => (gl rl q).b).Nodup ∧ P.length ≤ n + 2 := by
  have h0 : Bfs n rl (rboundsL n rl s) s (fun _ => 0) (List.replicate n (-1), [s]) := by
    refine ⟨by simp, ?_, fun v v0 v1 hv => ?_, fun j hj => ?_, fun v v0 v1 hv => ?_, ?_⟩
    · show gi (List.replicate n (-1)) s < 0
      rw [gi_repm n (-1) s hs0 hs1]; omega
    · change 0 ≤ gi (List.replicate n (-1)) v at hv
      rw [gi_repm n (-1) v v0 v1] at hv; omega
    · have e : j = 0 := by simp at hj; omega
      subst e
      have e2 : gi [s] ((0 : Nat) : Int) = s := rfl
      show 0 ≤ gi [s] ((0 : Nat) : Int) ∧ _
      rw [e2]
      exact ⟨hs0, hs1, by rw [hd.at_]; decide, .inl rfl⟩
    · have hv2 : v = s := by
        rcases hv with hv | hv
        · exact hv
        · change 0 ≤ gi (List.replicate n (-1)) v at hv
          rw [gi_repm n (-1) v v0 v1] at hv; omega
      subst hv2
      exact ⟨⟨0, by simp, rfl⟩, by simp⟩
    · show [s].length = 1 + _
      rw [cnt_none n fun i hi => by
        show decide (0 ≤ gi (List.replicate n (-1)) i) = false
        rw [gi_repm n (-1) i (by omega) (by omega)]; rfl]
      rfl
  obtain ⟨st, ρ, b1, b2, b3⟩ := bfs_all hd hin hs0 hs1 f 0 _ _ h0 (fun j hj => by omega) (by omega) (by omega)
  have ht := tr_seen hin b2 b3 (hd.tr t ht0 ht1 htd)
  have hr := (b2.has t ht0 ht1 ht).2
  have hc := b2.cnt_
  have hcl := cnt_le (fun v : Nat => decide (0 ≤ gi st.1 v)) n
  obtain ⟨P, p1, p2, p3, _, p5⟩ := way_ok hin b2 (ρ t) t ht0 ht1 ht (Nat.le_refl _) f [] (by omega)
  refine ⟨P, ?_, p2, p3, by omega⟩
  unfold backP
  rw [b1]
  simp only []
  rw [p1, List.append_nil]
end

/-- The links that the links of rest stand for. -/
def restOf (l : List Lk) (u : List Int) : List Int := ndN (fun _ => true) l.length ++ ndN (fun k => decide (0 < gi u k)) l.length
theorem ndN_all : ∀ m, (ndN (fun _ => true) m).length = m ∧ ∀ k : Nat, k < m → gi (ndN (fun _ => true) m) k = k
  | 0 => ⟨rfl, fun k h => by omega⟩
  | m + 1 => by
    obtain ⟨h1, h2⟩ := ndN_all m
    rw [ndN_succ, if_pos rfl]
    refine ⟨by simp [h1], fun k hk => ?_⟩
    by_cases e : k = m
    · subst e; exact gi_append_last _ _ _ h1.symm
    · rw [gi_append_left _ _ _ (by omega)]; exact h2 k (by omega)
theorem back_idx {l : List Lk} {u : List Int} (hu : u.length = l.length) : ∀ k, k ≤ l.length →
    (((l.zip u).take k).filterMap fun p => if 0 < p.2 then some (⟨p.1.b, p.1.a, wrap64 (-p.1.m)⟩ : Lk) else none).length = (ndN (fun k => decide (0 < gi u k)) k).length ∧
    ∀ i : Nat, i < (ndN (fun k => decide (0 < gi u k)) k).length → ∃ j : Nat, j < k ∧ 0 < gi u j ∧ gi (ndN (fun k => decide (0 < gi u k)) k) i = j ∧
      gl (((l.zip u).take k).filterMap fun p => if 0 < p.2 then some (⟨p.1.b, p.1.a, wrap64 (-p.1.m)⟩ : Lk) else none) i = ⟨(gl l j).b, (gl l j).a, wrap64 (-(gl l j).m)⟩
  | 0, _ => ⟨rfl, fun i h => by simp [ndN] at h⟩
  | k + 1, hk => by
    obtain ⟨h1, h2⟩ := back_idx hu k (by omega)
    rw [zipl_take l u k (by omega) (by omega), List.filterMap_append, ndN_succ]
    by_cases h0 : 0 < gi u k
    · have e1 : (List.filterMap (fun p : Lk × Int => if 0 < p.2 then some (⟨p.1.b, p.1.a, wrap64 (-p.1.m)⟩ : Lk) else none) [(gl l k, gi u k)]) = [⟨(gl l k).b, (gl l k).a, wrap64 (-(gl l k).m)⟩] := by simp [h0]
      rw [e1, if_pos (by simpa using h0)]
      refine ⟨by simp [h1], fun i hi => ?_⟩
      simp at hi
      by_cases e : i = (ndN (fun k => decide (0 < gi u k)) k).length
      · exact ⟨k, by omega, h0, gi_append_last _ _ _ e, gl_app_last _ _ _ (by omega)⟩
      · obtain ⟨j, j1, j2, j3, j4⟩ := h2 i (by omega)
        exact ⟨j, by omega, j2, by rw [gi_append_left _ _ _ (by omega)]; exact j3, by rw [gl_app_left _ _ _ (by omega)]; exact j4⟩
    · have e1 : (List.filterMap (fun p : Lk × Int => if 0 < p.2 then some (⟨p.1.b, p.1.a, wrap64 (-p.1.m)⟩ : Lk) else none) [(gl l k, gi u k)]) = [] := by simp [h0]
      rw [e1, List.append_nil, if_neg (by simpa using h0)]
      refine ⟨h1, fun i hi => ?_⟩
      obtain ⟨j, j1, j2, j3, j4⟩ := h2 i hi
      exact ⟨j, by omega, j2, j3, j4⟩
theorem gl_app_right (l m : List Lk) (i : Nat) (h : l.length ≤ i) : gl (l ++ m) i = gl m ((i - l.length : Nat) : Int) := by
  simp [gl, List.getD_eq_getElem?_getD, List.getElem?_append_right h]
theorem gi_app_right (l m : List Int) (i : Nat) (h : l.length ≤ i) : gi (l ++ m) i = gi m ((i - l.length : Nat) : Int) := by
  simp [gi, List.getD_eq_getElem?_getD, List.getElem?_append_right h]
/-- A link of rest. -/
theorem rest_link {l : List Lk} {u : List Int} (hu : u.length = l.length) (q : Nat) (hq : q < (rigidL l u).length) :
    (q < l.length ∧ gl (rigidL l u) q = gl l q ∧ gi (restOf l u) q = q) ∨
    (l.length ≤ q ∧ ∃ j : Nat, j < l.length ∧ 0 < gi u j ∧ gi (restOf l u) q = j ∧ gl (rigidL l u) q = ⟨(gl l j).b, (gl l j).a, wrap64 (-(gl l j).m)⟩) := by
  obtain ⟨n1, n2⟩ := ndN_all l.length
  obtain ⟨b1, b2⟩ := back_idx hu l.length (Nat.le_refl _)
  rw [List.take_of_length_le (by simp; omega)] at b1 b2
  have hb : backs l u = (l.zip u).filterMap fun p => if 0 < p.2 then some (⟨p.1.b, p.1.a, wrap64 (-p.1.m)⟩ : Lk) else none := rfl
  unfold rigidL at hq ⊢
  unfold restOf
  rw [List.length_append] at hq
  by_cases h : q < l.length
  · exact .inl ⟨h, gl_app_left _ _ _ h, by rw [gi_ext_left (a := ndN (fun _ => true) l.length) rfl (by omega)]; exact n2 q h⟩
  · right
    obtain ⟨j, j1, j2, j3, j4⟩ := b2 (q - l.length) (by rw [← b1, ← hb]; omega)
    refine ⟨by omega, j, j1, j2, ?_, ?_⟩
    · rw [gi_app_right _ _ _ (by omega), n1]; exact j3
    · rw [gl_app_right _ _ _ (by omega), hb]; exact j4
def capC (l : List Lk) (u of_ : List Int) (k q : Int) : Int := if (l.length : Int) ≤ q then mn k (gi u (gi of_ q)) else k
def moveC (l : List Lk) (of_ : List Int) (m : Int) (u : List Int) (q : Int) : List Int := if (l.length : Int) ≤ q then si u (gi of_ q) (wrap64 (gi u (gi of_ q) - m)) else si u q (wrap64 (gi u q + m))
def toWy (l : List Lk) (rl : List Lk) (of_ : List Int) (q : Int) : Wy := ⟨(gl rl q).b, 0, if (l.length : Int) ≤ q then gi of_ q else q, decide ((l.length : Int) ≤ q)⟩
theorem capC_eq (l rl : List Lk) (u of_ : List Int) (k q : Int) : capC l u of_ k q = capN u k (toWy l rl of_ q) := by
  unfold capC capN toWy
  by_cases h : (l.length : Int) ≤ q
  · simp [h]
  · simp [h]
theorem moveC_eq (l rl : List Lk) (of_ : List Int) (m : Int) (u : List Int) (q : Int) : moveC l of_ m u q = moveN m u (toWy l rl of_ q) := by
  unfold moveC moveN toWy
  by_cases h : (l.length : Int) ≤ q
  · simp [h]
  · simp [h]
theorem foldC (l rl : List Lk) (u of_ : List Int) : ∀ (P : List Int) (k : Int), P.foldl (capC l u of_) k = (P.map (toWy l rl of_)).foldl (capN u) k
  | [], _ => rfl
  | q :: P, k => by
    rw [List.foldl_cons, List.map_cons, List.foldl_cons, capC_eq l rl]
    exact foldC l rl u of_ P _
theorem foldM (l rl : List Lk) (of_ : List Int) (m : Int) : ∀ (P : List Int) (u : List Int), P.foldl (moveC l of_ m) u = (P.map (toWy l rl of_)).foldl (moveN m) u
  | [], _ => rfl
  | q :: P, u => by
    rw [List.foldl_cons, List.map_cons, List.foldl_cons, moveC_eq l rl]
    exact foldM l rl of_ m P _
/-- What a link of a path of rest is, as a way. -/
theorem wy_shape {l : List Lk} {u : List Int} (hu : u.length = l.length) {q : Int} (h0 : 0 ≤ q) (h1 : q < (rigidL l u).length) :
    0 ≤ (toWy l (rigidL l u) (restOf l u) q).link ∧ (toWy l (rigidL l u) (restOf l u) q).link < l.length ∧
    ((toWy l (rigidL l u) (restOf l u) q).back = false → (gl l (toWy l (rigidL l u) (restOf l u) q).link).b = (gl (rigidL l u) q).b ∧ (gl l (toWy l (rigidL l u) (restOf l u) q).link).a = (gl (rigidL l u) q).a ∧ (gl l (toWy l (rigidL l u) (restOf l u) q).link).m = (gl (rigidL l u) q).m) ∧
    ((toWy l (rigidL l u) (restOf l u) q).back = true → (gl l (toWy l (rigidL l u) (restOf l u) q).link).a = (gl (rigidL l u) q).b ∧ (gl l (toWy l (rigidL l u) (restOf l u) q).link).b = (gl (rigidL l u) q).a ∧ 0 < gi u (toWy l (rigidL l u) (restOf l u) q).link) := by
  have e : ((q.toNat : Nat) : Int) = q := by omega
  have hr := rest_link hu q.toNat (by omega)
  rw [e] at hr
  unfold toWy
  rcases hr with ⟨r1, r2, r3⟩ | ⟨r1, j, r2, r3, r4, r5⟩
  · have hq : ¬ (l.length : Int) ≤ q := by omega
    simp only [hq, if_false, decide_false]
    exact ⟨h0, by omega, fun _ => by rw [r2]; exact ⟨rfl, rfl, rfl⟩, fun h => by cases h⟩
  · have hq : (l.length : Int) ≤ q := by omega
    simp only [hq, if_true, decide_true]
    rw [r4]
    exact ⟨by omega, by omega, fun h => (by cases h), fun _ => by rw [r5]; exact ⟨rfl, rfl, r3⟩⟩
theorem move_net {l : List Lk} {u' : List Int} {y : Wy} {z m C : Int} (hu : u'.length = l.length) (h0 : 0 ≤ y.link) (h1 : y.link < l.length) (hf : y.back = false → (gl l y.link).b = y.node ∧ (gl l y.link).a = z) (hb : y.back = true → (gl l y.link).a = y.node ∧ (gl l y.link).b = z) (hC : ∀ k : Nat, -C ≤ gi u' k ∧ gi u' k ≤ C) (hm0 : 0 ≤ m) (hm : C + m ≤ 4611686018427387904) (v : Int) :
    net l (moveN m u' y) v = net l u' v + m * (ind y.node v - ind z v) ∧ (∀ k : Nat, -(C + m) ≤ gi (moveN m u' y) k ∧ gi (moveN m u' y) k ≤ C + m) := by
  have hj := hC y.link.toNat
  rw [show ((y.link.toNat : Nat) : Int) = y.link by omega] at hj
  unfold moveN
  cases hbk : y.back with
  | false =>
    obtain ⟨f1, f2⟩ := hf hbk
    rw [if_neg (by simp), wrap_in (by omega)]
    constructor
    · rw [net_si hu h0 h1, f1, f2]; grind
    · intro k
      rw [gi_si h0 (by omega)]
      have := hC k
      split <;> omega
  | true =>
    obtain ⟨f1, f2⟩ := hb hbk
    rw [if_pos (by simp), wrap_in (by omega)]
    constructor
    · rw [net_si hu h0 h1, f1, f2]; grind
    · intro k
      rw [gi_si h0 (by omega)]
      have := hC k
      split <;> omega
theorem pw_mem {rl : List Lk} {d : List Int} {s t : Int} {P : List Int} (h : PW rl d s t P) : ∀ q ∈ P, 0 ≤ q ∧ q < rl.length ∧ Tight_ rl d q.toNat := by
  induction h with
  | nil => intro q hq; simp at hq
  | snoc h1 h2 h3 h4 ih =>
    intro q hq
    rcases List.mem_append.1 hq with hq | hq
    · exact ih q hq
    · simp at hq; subst hq; exact ⟨h2, h3, h4⟩
theorem pw_net {l : List Lk} {u d : List Int} {s t m : Int} (hu : u.length = l.length) (hm0 : 0 ≤ m) {P : List Int} (h : PW (rigidL l u) d s t P) : ∀ (u' : List Int) (C : Int), u'.length = l.length → (∀ k : Nat, -C ≤ gi u' k ∧ gi u' k ≤ C) → C + P.length * m ≤ 4611686018427387904 →
    (∀ v, net l ((P.map (toWy l (rigidL l u) (restOf l u))).foldl (moveN m) u') v = net l u' v + m * (ind t v - ind s v)) ∧ (∀ k : Nat, -(C + P.length * m) ≤ gi ((P.map (toWy l (rigidL l u) (restOf l u))).foldl (moveN m) u') k ∧ gi ((P.map (toWy l (rigidL l u) (restOf l u))).foldl (moveN m) u') k ≤ C + P.length * m) := by
  induction h with
  | nil =>
    intro u' C _ hC _
    refine ⟨fun v => ?_, fun k => ?_⟩
    · simp only [List.map_nil, List.foldl_nil]; grind
    · simpa using hC k
  | snoc h1 h2 h3 h4 ih =>
    rename_i q P
    intro u' C hl hC hb
    have hlen : (((P ++ [q]).length : Nat) : Int) * m = (P.length : Int) * m + m := by
      rw [List.length_append, List.length_singleton, show ((P.length + 1 : Nat) : Int) = (P.length : Int) + 1 by omega, Int.add_mul, Int.one_mul]
    rw [hlen] at hb ⊢
    obtain ⟨i1, i2⟩ := ih u' C hl hC (by omega)
    obtain ⟨s0, s1, s2, s3⟩ := wy_shape hu h2 h3
    rw [List.map_append, List.foldl_append]
    simp only [List.map_cons, List.map_nil, List.foldl_cons, List.foldl_nil]
    refine ⟨fun v => ?_, fun k => ?_⟩
    · have hmv := (move_net (u' := (P.map (toWy l (rigidL l u) (restOf l u))).foldl (moveN m) u') (y := toWy l (rigidL l u) (restOf l u) q) (z := (gl (rigidL l u) q).a) (by rw [foldl_moveN_length]; exact hl) s0 s1 (fun hh => ⟨(s2 hh).1, (s2 hh).2.1⟩) (fun hh => ⟨(s3 hh).1, (s3 hh).2.1⟩) i2 hm0 (by omega) v).1
      rw [hmv, i1 v]
      show net l u' v + m * (ind (gl (rigidL l u) q).a v - ind s v) + m * (ind (gl (rigidL l u) q).b v - ind (gl (rigidL l u) q).a v) = _
      grind
    · have hmv := (move_net (u' := (P.map (toWy l (rigidL l u) (restOf l u))).foldl (moveN m) u') (y := toWy l (rigidL l u) (restOf l u) q) (z := (gl (rigidL l u) q).a) (by rw [foldl_moveN_length]; exact hl) s0 s1 (fun hh => ⟨(s2 hh).1, (s2 hh).2.1⟩) (fun hh => ⟨(s3 hh).1, (s3 hh).2.1⟩) i2 hm0 (by omega) 0).2 k
      omega
def toN (f d : List Int) (n : Nat) : Nat → Nat → Nat
  | 0, t => t
  | r + 1, t => if t < n ∧ (gi f t ≤ 0 ∨ 1152921504606846976 ≤ gi d t) then toN f d n r (t + 1) else t
theorem toN_spec (f d : List Int) (n : Nat) : ∀ (r t : Nat), t ≤ n → n ≤ t + r → (∀ i, i < t → gi f i ≤ 0 ∨ 1152921504606846976 ≤ gi d i) →
    (toN f d n r t = n ∧ ∀ i, i < n → gi f i ≤ 0 ∨ 1152921504606846976 ≤ gi d i) ∨ (toN f d n r t < n ∧ 0 < gi f (toN f d n r t : Nat) ∧ gi d (toN f d n r t : Nat) < 1152921504606846976)
  | 0, t, h1, h2, h3 => by
    left
    have e : t = n := by omega
    subst e
    exact ⟨rfl, h3⟩
  | r + 1, t, h1, h2, h3 => by
    unfold toN
    by_cases hc : t < n ∧ (gi f t ≤ 0 ∨ 1152921504606846976 ≤ gi d t)
    · rw [if_pos hc]
      refine toN_spec f d n r (t + 1) (by omega) (by omega) fun i hi => ?_
      by_cases e : i = t
      · rw [e]; exact hc.2
      · exact h3 i (by omega)
    · rw [if_neg hc]
      by_cases e : t = n
      · subst e
        exact .inl ⟨rfl, h3⟩
      · right
        refine ⟨by omega, ?_, ?_⟩
        · refine Classical.byContradiction fun h => hc ⟨by omega, .inl (by omega)⟩
        · refine Classical.byContradiction fun h => hc ⟨by omega, .inr (by omega)⟩
def carryN (F : Nat) (l : List Lk) (n : Nat) : Nat → Nat → List Int → List Int → Option (Option (List Int))
  | 0, _, _, _ => none
  | k + 1, v, u, f =>
    if v < n then
      if 0 ≤ gi f v then carryN F l n k (v + 1) u f
      else
        if toN f (rboundsL n (rigidL l u) v) n n 0 = n then some none
        else match backP F n (rigidL l u) v (toN f (rboundsL n (rigidL l u) v) n n 0 : Nat) with
          | none => none
          | some P =>
            carryN F l n k v (P.foldl (moveC l (restOf l u) (P.foldl (capC l u (restOf l u)) (mn (wrap64 (0 - gi f v)) (gi f (toN f (rboundsL n (rigidL l u) v) n n 0 : Nat))))) u)
              (si (si f v (wrap64 (gi f v + P.foldl (capC l u (restOf l u)) (mn (wrap64 (0 - gi f v)) (gi f (toN f (rboundsL n (rigidL l u) v) n n 0 : Nat)))))) (toN f (rboundsL n (rigidL l u) v) n n 0 : Nat)
                (wrap64 (gi (si f v (wrap64 (gi f v + P.foldl (capC l u (restOf l u)) (mn (wrap64 (0 - gi f v)) (gi f (toN f (rboundsL n (rigidL l u) v) n n 0 : Nat)))))) (toN f (rboundsL n (rigidL l u) v) n n 0 : Nat) - P.foldl (capC l u (restOf l u)) (mn (wrap64 (0 - gi f v)) (gi f (toN f (rboundsL n (rigidL l u) v) n n 0 : Nat))))))
    else some (some u)

structure CInv (n : Nat) (l : List Lk) (w : List Int) (N0 : Int) (u f : List Int) : Prop where
  lu : u.length = l.length
  lf : f.length = n
  u0 : ∀ k : Nat, 0 ≤ gi u k
  ten : Ten l u
  cons : ∀ v : Nat, v < n → gi f v + net l u v = gi w v
  ub : ∀ k : Nat, gi u k + negs f n ≤ N0
  fb : ∀ v : Nat, gi f v ≤ 2000000
theorem carry_step {n : Nat} {l : List Lk} {w : List Int} {N0 : Int} {u f : List Int} (hok : NetOk n l) (hn : n ≤ 12) (hl : l.length ≤ 60) (hN : N0 ≤ 2000000) (hI : CInv n l w N0 u f) {v : Nat} (hv : v < n) (hf : gi f v < 0) (F : Nat) (hF : 1000 ≤ F) {t : Nat} (ht : toN f (rboundsL n (rigidL l u) v) n n 0 = t) :
    (t = n ∧ Cut n l w) ∨ (t < n ∧ ∃ P, backP F n (rigidL l u) v t = some P ∧ ∀ m, m = P.foldl (capC l u (restOf l u)) (mn (wrap64 (0 - gi f v)) (gi f t)) →
      ∃ f', f' = si (si f v (wrap64 (gi f v + m))) t (wrap64 (gi (si f v (wrap64 (gi f v + m))) t - m)) ∧ CInv n l w N0 (P.foldl (moveC l (restOf l u) m) u) f' ∧ negs f' n + 1 ≤ negs f n ∧ ∀ i : Nat, 0 ≤ gi f i → 0 ≤ gi f' i) := by
  obtain ⟨hrk, hsol⟩ := ten_sol hok (by omega) hI.lu hI.ten
  have hd := bnd_ok (s := (v : Int)) hrk hsol (by omega) (by omega)
  have hin : ∀ k : Nat, k < (rigidL l u).length → InR n (gl (rigidL l u) k) ∧ -17179869184 ≤ (gl (rigidL l u) k).m ∧ (gl (rigidL l u) k).m ≤ 17179869184 := fun k hk => by
    have := hrk.lk (gl (rigidL l u) k) (gl_mem (l := rigidL l u) (i := (k : Int)) (by omega) (by omega))
    exact ⟨this.1, this.2.2⟩
  have hspec := toN_spec f (rboundsL n (rigidL l u) v) n n 0 (by omega) (by omega) (fun i hi => by omega)
  rw [ht] at hspec
  rcases hspec with ⟨h1, h2⟩ | ⟨h1, h2, h3⟩
  · left
    refine ⟨h1, cut_bnd hok hI.lu hd hv (fun k _ => hI.u0 k) hI.cons hf fun i hi => ?_⟩
    rcases h2 i hi with h | h
    · exact .inl h
    · rcases hd.hi i (by omega) (by omega) with h4 | h4
      · exact .inr h4
      · omega
  · right
    refine ⟨h1, ?_⟩
    obtain ⟨P, p1, p2, p3, p4⟩ := back_ok (s := (v : Int)) hd (by omega) hin (by omega) (by omega) (t := (t : Int)) (by omega) (by omega) (fun e => by rw [e] at h3; unfold free at h3; omega) F hF
    refine ⟨P, p1, fun m hm => ⟨_, rfl, ?_⟩⟩
    have hmem := pw_mem p2
    have hlen : P.length ≤ 14 := by omega
    -- what is sent
    have hns := negs_ge f hv
    have hnn := negs_nonneg f n
    have hub := hI.ub
    have hfb := hI.fb
    have hu0 := hI.u0
    have hub0 := hub 0
    have hu00 := hu0 0
    have hft := hfb t
    have hw1 : wrap64 (0 - gi f v) = -(gi f v) := by rw [wrap_in (by omega)]; omega
    rw [hw1, foldC l (rigidL l u)] at hm
    obtain ⟨ys, hys⟩ : ∃ ys, ys = P.map (toWy l (rigidL l u) (restOf l u)) := ⟨_, rfl⟩
    have hshape : ∀ y ∈ ys, 0 ≤ y.link ∧ y.link < l.length ∧ (y.back = false → (gl l y.link).b = y.node) ∧ (y.back = true → (gl l y.link).a = y.node ∧ 0 < gi u y.link) := by
      intro y hy
      rw [hys] at hy
      obtain ⟨q, hq, rfl⟩ := List.mem_map.1 hy
      obtain ⟨q0, q1, _⟩ := hmem q hq
      obtain ⟨s0, s1, s2, s3⟩ := wy_shape hI.lu q0 q1
      exact ⟨s0, s1, fun h => (s2 h).1, fun h => ⟨(s3 h).1, (s3 h).2.2⟩⟩
    rw [← hys] at hm
    obtain ⟨c1, c2, c3⟩ := cap_fold u ys (mn (-(gi f v)) (gi f t))
    rw [← hm] at c1 c2 c3
    have hmn := mn_le (-(gi f v)) (gi f t)
    have hm1 : 1 ≤ m := c3 (by omega) fun y hy hb => by have := ((hshape y hy).2.2.2 hb).2; omega
    have hms : m ≤ -(gi f v) := by omega
    have hmt : m ≤ gi f t := by omega
    have hst : (v : Int) ≠ (t : Int) := by intro e; rw [← e] at h2; omega
    have hw2 : wrap64 (gi f v + m) = gi f v + m := wrap_in (by omega)
    have hg1 : ∀ i : Int, 0 ≤ i → gi (si f v (gi f v + m)) i = if i = v then gi f v + m else gi f i := fun i hi => gi_set_eq (by omega) (by rw [hI.lf]; omega) hi
    have hg1t : gi (si f v (gi f v + m)) t = gi f t := by rw [hg1 _ (by omega), if_neg (fun e => hst e.symm)]
    rw [hw2, hg1t]
    have hw3 : wrap64 (gi f t - m) = gi f t - m := wrap_in (by omega)
    rw [hw3]
    have hg2 : ∀ i : Nat, gi (si (si f v (gi f v + m)) t (gi f t - m)) i = if (i : Int) = t then gi f t - m else if (i : Int) = v then gi f v + m else gi f i := by
      intro i
      rw [gi_si (by omega) (by rw [si_len, hI.lf]; omega), hg1 i (by omega)]
    rw [foldM l (rigidL l u), ← hys]
    obtain ⟨f', hf'⟩ : ∃ f', f' = si (si f v (gi f v + m)) t (gi f t - m) := ⟨_, rfl⟩
    obtain ⟨u', hu'⟩ : ∃ u', u' = ys.foldl (moveN m) u := ⟨_, rfl⟩
    rw [← hf'] at hg2 ⊢
    rw [← hu']
    -- the units
    have hnd : (ys.map (·.node)).Nodup := by rw [hys, List.map_map]; exact p3
    have hfu := fold_units (l := l) (m := m) (u0 := u) (by omega) ys u hI.lu hnd (fun y hy => by
      obtain ⟨s0, s1, s2, s3⟩ := hshape y hy
      exact ⟨s0, s1, s2, fun hb => ⟨(s3 hb).1, c2 y hy hb⟩⟩) (fun k => ⟨hu0 k, by omega⟩) (fun q _ _ => Int.le_refl _) (fun k => by have := hub k; omega)
    rw [← hu'] at hfu
    have hnet := (pw_net (m := m) hI.lu (by omega) p2 u N0 hI.lu (fun k => by have := hub k; have := hu0 k; omega) (by
      have h5 : (P.length : Int) * m ≤ 14 * 2000000 := Int.mul_le_mul (by omega) (by omega) (by omega) (by omega)
      omega)).1
    rw [← hys, ← hu'] at hnet
    -- what lacks
    have hneg : negs f' n = negs f n - m := by
      have e1 : negs (si f v (gi f v + m)) n = negs f n - m := by
        unfold negs
        rw [sumN_upd (h := fun i : Nat => if gi f i < 0 then -(gi f i) else 0) (j := v) n (fun i hi hne => by
          have e : gi (si f v (gi f v + m)) i = gi f i := by rw [hg1 i (by omega), if_neg (by omega)]
          rw [e]), if_pos hv, show gi (si f v (gi f v + m)) v = gi f v + m by rw [hg1 v (by omega), if_pos rfl], if_pos hf]
        split <;> omega
      have e2 : negs f' n = negs (si f v (gi f v + m)) n := by
        unfold negs
        refine sumN_congr n fun i hi => ?_
        have e1 := hg2 i
        have e2 := hg1 i (by omega)
        by_cases e : (i : Int) = t
        · rw [if_pos e] at e1
          rw [if_neg (by omega)] at e2
          rw [e1, e2, e, if_neg (by omega), if_neg (by omega)]
        · rw [if_neg e] at e1
          rw [e1, e2]
      rw [e2, e1]
    have hfle : ∀ i : Nat, i ≠ v → gi f' i ≤ gi f i := by
      intro i hi
      rw [hg2 i]
      by_cases e : (i : Int) = t
      · rw [if_pos e, e]; omega
      · rw [if_neg e, if_neg (by omega)]; exact Int.le_refl _
    have hfs : gi f' v ≤ 0 := by rw [hg2 v, if_neg hst, if_pos rfl]; omega
    refine ⟨⟨?_, ?_, ?_, ?_, ?_, ?_, ?_⟩, by omega, ?_⟩
    · rw [hu', foldl_moveN_length]; exact hI.lu
    · rw [hf', si_len, si_len]; exact hI.lf
    · exact fun k => (hfu k).1.1
    · -- a solution in which the links with units are tight
      obtain ⟨x, x1, x2, x3⟩ := ten_new hok (by omega) hI.lu hI.ten hd
      refine ⟨x, x2, fun k hk hp => ?_⟩
      rcases (hfu k).2 with e | ⟨y, hy, e⟩
      · rw [e] at hp; exact x3 k hk hp
      · rw [hys] at hy
        obtain ⟨q, hq, rfl⟩ := List.mem_map.1 hy
        obtain ⟨q0, q1, q2, q3⟩ := hmem q hq
        rw [show ((q.toNat : Nat) : Int) = q by omega] at q2 q3
        obtain ⟨s0, s1, s2, s3⟩ := wy_shape hI.lu q0 q1
        have hqi := hin q.toNat (by omega)
        rw [show ((q.toNat : Nat) : Int) = q by omega] at hqi
        obtain ⟨⟨a0, a1, b0, b1⟩, m1, m2⟩ := hqi
        rw [e] at s2 s3
        cases hb : (toWy l (rigidL l u) (restOf l u) q).back with
        | false =>
          obtain ⟨g1, g2, g3⟩ := s2 hb
          have h5 := (hd.hi _ a0 a1).resolve_left q2
          have hbf : gi (rboundsL n (rigidL l u) v) (gl (rigidL l u) q).b ≠ free := fun e2 => by rw [e2] at q3; unfold free at q3; omega
          rw [g1, g2, g3, x1 _ a0 a1 q2, x1 _ b0 b1 hbf]
          exact q3
        | true => exact x3 k hk (s3 hb).2.2
    · intro i hi
      rw [hnet i, hg2 i]
      have hcv := hI.cons i hi
      unfold ind
      by_cases e : (t : Int) = (i : Int)
      · rw [if_pos e.symm, if_pos e, if_neg (by omega), e]; omega
      · rw [if_neg (fun h => e h.symm), if_neg e]
        by_cases e2 : (v : Int) = i
        · rw [if_pos e2.symm, if_pos e2, e2]; omega
        · rw [if_neg (fun h => e2 h.symm), if_neg e2]; omega
    · intro k
      have := (hfu k).1.2
      have := hub k
      omega
    · intro i
      by_cases e : i = v
      · rw [e]; omega
      · exact Int.le_trans (hfle i e) (hfb i)
    · intro i hi
      rw [hg2 i]
      by_cases e : (i : Int) = t
      · rw [if_pos e]; omega
      · rw [if_neg e]
        by_cases e2 : (i : Int) = v
        · have : i = v := by omega
          subst this; omega
        · rw [if_neg e2]; exact hi
def CarryRes (n : Nat) (l : List Lk) (w : List Int) (r : Option (List Int)) : Prop :=
  (∃ u, r = some u ∧ Fl n l w u ∧ Ten l u ∧ ∀ k : Nat, 0 ≤ gi u k ∧ gi u k ≤ 2000000) ∨ (r = none ∧ Cut n l w)
theorem carry_go {n : Nat} {l : List Lk} {w : List Int} {N0 : Int} (hok : NetOk n l) (hn : n ≤ 12) (hl : l.length ≤ 60) (hN : N0 ≤ 2000000) (hsum : sumN (fun v : Nat => gi w v) n = 0) (F : Nat) (hF : 1000 ≤ F) : ∀ (k v : Nat) (u f : List Int), v ≤ n → CInv n l w N0 u f → (∀ i : Nat, i < v → 0 ≤ gi f i) → ((n : Int) - v) + negs f n < k →
    ∃ r, carryN F l n k v u f = some r ∧ CarryRes n l w r
  | 0, v, u, f, hvn, hI, h1, hk => by
    have h2 := negs_nonneg f n
    exact absurd hk (by omega)
  | k + 1, v, u, f, hvn, hI, h1, hk => by
    have h2 := negs_nonneg f n
    unfold carryN
    by_cases hv : v < n
    · rw [if_pos hv]
      by_cases hf : 0 ≤ gi f v
      · rw [if_pos hf]
        refine carry_go hok hn hl hN hsum F hF k (v + 1) u f (by omega) hI (fun i hi => ?_) (by omega)
        by_cases e : i = v
        · rw [e]; exact hf
        · exact h1 i (by omega)
      · rw [if_neg hf]
        obtain ⟨t, ht⟩ : ∃ t, toN f (rboundsL n (rigidL l u) v) n n 0 = t := ⟨_, rfl⟩
        have hstep := carry_step hok hn hl hN hI hv (by omega) F hF ht
        rw [ht]
        rcases hstep with ⟨q1, q2⟩ | ⟨q1, P, q2, q3⟩
        · rw [if_pos q1]
          exact ⟨none, rfl, .inr ⟨rfl, q2⟩⟩
        · rw [if_neg (by omega), q2]
          obtain ⟨f', e, g1, g2, g3⟩ := q3 _ rfl
          simp only []
          rw [← e]
          exact carry_go hok hn hl hN hsum F hF k v _ f' hvn g1 (fun i hi => g3 i (h1 i hi)) (by omega)
    · rw [if_neg hv]
      refine ⟨some u, rfl, .inl ⟨u, rfl, ⟨hI.lu, fun k _ => hI.u0 k, fun i hi => ?_⟩, hI.ten, fun k => ⟨hI.u0 k, ?_⟩⟩⟩
      · have hds := dual_sum (n := n) (l := l) u (fun _ => 1) (fun k hk => by
          have := (hok.lk (gl l k) (gl_mem (l := l) (i := (k : Int)) (by omega) (by omega))).1
          exact ⟨this.1, this.2.1, this.2.2.1, this.2.2.2⟩)
        rw [sumN_congr (g := fun k => gi u k * (1 - 1)) (h := fun _ => 0) l.length (fun k _ => by omega), sumN_zero] at hds
        have hsf : sumN (fun v : Nat => gi f v) n = 0 := by
          have e : sumN (fun v : Nat => gi w v) n = sumN (fun v : Nat => gi f v + 1 * net l u v) n := sumN_congr n fun j hj => by have := hI.cons j hj; omega
          rw [hsum, sumN_add, hds] at e
          omega
        have hz := sum_zero_each (g := fun v : Nat => gi f v) n (fun j hj => h1 j (by omega)) hsf i hi
        have h3 := hI.cons i hi
        have hz' : gi f i = 0 := hz
        omega
      · have := hI.ub k
        omega
/-- The reference's Carry, of a net with a solution and weights that are asked. -/
theorem carry_ok {n : Nat} {l : List Lk} {w : List Int} (ha : askedI n l w = 0) (hn : n ≤ 12) (hl : l.length ≤ 60) (hs : (solutionL n l).2 = true) : ∃ r, carryN 2000000 l n 2000000 0 (List.replicate l.length 0) w = some r ∧ CarryRes n l w r := by
  obtain ⟨hok, hw, hwb, hsum⟩ := asked_facts ha
  have hpot := solution_pot hok hs
  have hnb : negs w n ≤ 1200000 := by
    have h1 := sumN_le (g := fun v : Nat => if gi w v < 0 then -(gi w v) else 0) (h := fun _ => 100000) n (fun i hi => by
      have := hwb i hi
      show (if gi w i < 0 then -(gi w i) else 0) ≤ 100000
      split <;> omega)
    rw [sumN_const] at h1
    unfold negs; omega
  refine carry_go hok hn hl (N0 := 1200000) (by omega) hsum 2000000 (by omega) 2000000 0 _ _ (by omega) ⟨by simp, hw, fun k => by rw [gi_rep0]; omega, ⟨fun v => gi (solutionL n l).1 v, fun k hk => hpot.fit _ (gl_mem (by omega) (by omega)), fun k hk h => by rw [gi_rep0] at h; omega⟩, fun v hv => by rw [net_zero]; omega, fun k => by rw [gi_rep0]; omega, fun v => ?_⟩ (fun i hi => by omega) (by omega)
  by_cases h : v < n
  · have := hwb v h; omega
  · rw [gi_out (by omega)]; omega
/-- Both find the same: the flow of least cost, or that there is none. -/
theorem carry_best {n : Nat} {l : List Lk} {w u : List Int} (hlk : ∀ k : Nat, k < l.length → 0 ≤ (gl l k).a ∧ (gl l k).a < n ∧ 0 ≤ (gl l k).b ∧ (gl l k).b < n) (hf : Fl n l w u) (ht : Ten l u) : ∀ u', Fl n l w u' → cst l u ≤ cst l u' := by
  obtain ⟨x, x1, x2⟩ := ht
  intro u' h'
  have h1 := strong hlk (x := x) (fun k hk h => x2 k hk (by have := hf.u0 k hk; omega)) hf.cons
  unfold cst
  rw [← h1]
  exact weak hlk x1 h'.u0 h'.cons
end Go.Proofs.Ytmhiiomejopaoaa
