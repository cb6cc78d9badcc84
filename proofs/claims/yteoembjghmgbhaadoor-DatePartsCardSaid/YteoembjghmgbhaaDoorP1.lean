/- Plain laws of lists of spans: there is one list of the fewest spans with certain days. -/
import Derived.Test.YteoembjghmgbhaaDoorF7
namespace Go.Proofs.YteoembjghmgbhaaDoor
set_option linter.all false
open Go.RowKit

/-- A day is in one of the spans. -/
def In (l : List Sp) (d : Int) : Prop := ∃ x ∈ l, x.lo ≤ d ∧ d ≤ x.hi
theorem hasB_iff (l : List Sp) (d : Int) : hasB l d = true ↔ In l d := by
  unfold hasB In
  rw [List.any_eq_true]
  constructor
  · rintro ⟨x, hx, h⟩; exact ⟨x, hx, by simpa using h⟩
  · rintro ⟨x, hx, h⟩; exact ⟨x, hx, by simpa using h⟩
theorem In_nil (d : Int) : ¬ In [] d := fun ⟨_, h, _⟩ => by cases h
theorem In_cons (x : Sp) (l : List Sp) (d : Int) : In (x :: l) d ↔ (x.lo ≤ d ∧ d ≤ x.hi) ∨ In l d := by
  constructor
  · rintro ⟨y, hy, h⟩
    rcases List.mem_cons.1 hy with rfl | hy
    · exact .inl h
    · exact .inr ⟨y, hy, h⟩
  · rintro (h | ⟨y, hy, h⟩)
    · exact ⟨x, List.mem_cons_self, h⟩
    · exact ⟨y, List.mem_cons_of_mem _ hy, h⟩
theorem In_app (l m : List Sp) (d : Int) : In (l ++ m) d ↔ In l d ∨ In m d := by
  constructor
  · rintro ⟨y, hy, h⟩
    rcases List.mem_append.1 hy with hy | hy
    · exact .inl ⟨y, hy, h⟩
    · exact .inr ⟨y, hy, h⟩
  · rintro (⟨y, hy, h⟩ | ⟨y, hy, h⟩)
    · exact ⟨y, List.mem_append_left _ hy, h⟩
    · exact ⟨y, List.mem_append_right _ hy, h⟩
theorem In_one (s : Sp) (d : Int) : In [s] d ↔ (s.lo ≤ d ∧ d ≤ s.hi) := by
  rw [In_cons]
  constructor
  · rintro (h | h)
    · exact h
    · exact absurd h (In_nil d)
  · exact .inl
/-- The fewest spans: each has days, and there is a day between each and the next. -/
def Can (l : List Sp) : Prop := (∀ x ∈ l, x.lo ≤ x.hi) ∧ l.Pairwise fun a b => a.hi + 1 < b.lo
theorem Can.tail {x : Sp} {l : List Sp} (h : Can (x :: l)) : Can l := ⟨fun y hy => h.1 y (List.mem_cons_of_mem _ hy), (List.pairwise_cons.1 h.2).2⟩
theorem Can.head {x : Sp} {l : List Sp} (h : Can (x :: l)) : x.lo ≤ x.hi ∧ ∀ y ∈ l, x.hi + 1 < y.lo := ⟨h.1 x List.mem_cons_self, (List.pairwise_cons.1 h.2).1⟩
theorem can_uniq : ∀ (A B : List Sp), Can A → Can B → (∀ d, In A d ↔ In B d) → A = B
  | [], [], _, _, _ => rfl
  | [], y :: B, _, hB, h => by
    have h1 := (h y.lo).2 ((In_cons y B _).2 (.inl ⟨Int.le_refl _, hB.head.1⟩))
    exact absurd h1 (In_nil _)
  | x :: A, [], hA, _, h => by
    have h1 := (h x.lo).1 ((In_cons x A _).2 (.inl ⟨Int.le_refl _, hA.head.1⟩))
    exact absurd h1 (In_nil _)
  | x :: A, y :: B, hA, hB, h => by
    obtain ⟨a1, a2⟩ := hA.head
    obtain ⟨b1, b2⟩ := hB.head
    have low : ∀ {x : Sp} {A : List Sp} (d : Int), (∀ z ∈ A, x.hi + 1 < z.lo) → x.lo ≤ x.hi → In (x :: A) d → x.lo ≤ d := by
      intro x A d h1 h2 h3
      rcases (In_cons x A d).1 h3 with h4 | ⟨z, hz, h4⟩
      · exact h4.1
      · have := h1 z hz; omega
    have e1 : x.lo = y.lo := by
      have h1 := low x.lo b2 b1 ((h x.lo).1 ((In_cons x A _).2 (.inl ⟨Int.le_refl _, a1⟩)))
      have h2 := low y.lo a2 a1 ((h y.lo).2 ((In_cons y B _).2 (.inl ⟨Int.le_refl _, b1⟩)))
      omega
    have nxt : ∀ {x : Sp} {A : List Sp}, (∀ z ∈ A, x.hi + 1 < z.lo) → ¬ In (x :: A) (x.hi + 1) := by
      intro x A h1 h3
      rcases (In_cons x A _).1 h3 with h4 | ⟨z, hz, h4⟩
      · omega
      · have := h1 z hz; omega
    have e2 : x.hi = y.hi := by
      rcases Int.lt_trichotomy x.hi y.hi with hlt | heq | hgt
      · exact absurd ((h (x.hi + 1)).2 ((In_cons y B _).2 (.inl (by omega)))) (nxt a2)
      · exact heq
      · exact absurd ((h (y.hi + 1)).1 ((In_cons x A _).2 (.inl (by omega)))) (nxt b2)
    have e3 : A = B := by
      refine can_uniq A B hA.tail hB.tail (fun d => ?_)
      constructor
      · rintro ⟨z, hz, hd⟩
        have hz2 := a2 z hz
        rcases (In_cons y B d).1 ((h d).1 ((In_cons x A d).2 (.inr ⟨z, hz, hd⟩))) with h4 | h4
        · omega
        · exact h4
      · rintro ⟨z, hz, hd⟩
        have hz2 := b2 z hz
        rcases (In_cons x A d).1 ((h d).2 ((In_cons y B d).2 (.inr ⟨z, hz, hd⟩))) with h4 | h4
        · omega
        · exact h4
    obtain ⟨xa, xb⟩ := x
    obtain ⟨ya, yb⟩ := y
    simp only at e1 e2
    rw [e1, e2, e3]
theorem can_app (L : List Sp) (s : Sp) (h : Can L) (hs : s.lo ≤ s.hi) (hl : ∀ x ∈ L, x.hi + 1 < s.lo) : Can (L ++ [s]) := by
  refine ⟨fun x hx => ?_, ?_⟩
  · rcases List.mem_append.1 hx with hx | hx
    · exact h.1 x hx
    · simp at hx; subst hx; exact hs
  · rw [List.pairwise_append]
    exact ⟨h.2, List.pairwise_singleton _ _, fun a ha b hb => by simp at hb; subst hb; exact hl a ha⟩
/-! ### rest -/
def tailR (s : Sp) (st : Int × List Sp) : List Sp := st.2 ++ (if st.1 ≤ s.hi then [⟨st.1, s.hi⟩] else [])
theorem restG (s : Sp) : ∀ (r : List Sp) (lo : Int) (out : List Sp), Can out → (∀ y ∈ out, y.hi + 1 < lo) → Can r → (lo = s.lo ∨ ∀ x ∈ r, lo < x.lo) →
    Can (tailR s (r.foldl (restStep s) (lo, out))) ∧ ∀ d, In (tailR s (r.foldl (restStep s) (lo, out))) d ↔ In out d ∨ (lo ≤ d ∧ d ≤ s.hi ∧ ¬ In r d)
  | [], lo, out, h1, h2, _, _ => by
    rw [List.foldl_nil]
    unfold tailR
    simp only
    by_cases hc : lo ≤ s.hi
    · rw [if_pos hc]
      refine ⟨can_app out _ h1 hc h2, fun d => ?_⟩
      rw [In_app, In_one]
      constructor
      · rintro (h | h)
        · exact .inl h
        · exact .inr ⟨h.1, h.2, In_nil d⟩
      · rintro (h | h)
        · exact .inl h
        · exact .inr ⟨h.1, h.2.1⟩
    · rw [if_neg hc, List.append_nil]
      refine ⟨h1, fun d => ?_⟩
      constructor
      · exact .inl
      · rintro (h | h)
        · exact h
        · omega
  | x :: r, lo, out, h1, h2, h3, h4 => by
    obtain ⟨a1, a2⟩ := h3.head
    rw [List.foldl_cons]
    by_cases hc : x.hi < lo ∨ s.hi < x.lo
    · rw [show restStep s (lo, out) x = (lo, out) from if_pos hc]
      have h5 : lo = s.lo ∨ ∀ y ∈ r, lo < y.lo := by
        rcases h4 with h4 | h4
        · exact .inl h4
        · exact .inr fun y hy => h4 y (List.mem_cons_of_mem _ hy)
      obtain ⟨g1, g2⟩ := restG s r lo out h1 h2 h3.tail h5
      refine ⟨g1, fun d => ?_⟩
      rw [g2 d, In_cons]
      constructor
      · rintro (h | ⟨h6, h7, h8⟩)
        · exact .inl h
        · exact .inr ⟨h6, h7, by rintro (h9 | h9); omega; exact h8 h9⟩
      · rintro (h | ⟨h6, h7, h8⟩)
        · exact .inl h
        · exact .inr ⟨h6, h7, fun h9 => h8 (.inr h9)⟩
    · rw [show restStep s (lo, out) x = (x.hi + 1, out ++ (if lo < x.lo then [⟨lo, x.lo - 1⟩] else [])) from if_neg hc]
      have hlo : lo ≤ x.hi ∧ x.lo ≤ s.hi := by omega
      have hcan : Can (out ++ (if lo < x.lo then [⟨lo, x.lo - 1⟩] else [])) := by
        split
        · exact can_app out _ h1 (by simp only; omega) h2
        · rw [List.append_nil]; exact h1
      have hlt : ∀ y ∈ out ++ (if lo < x.lo then [(⟨lo, x.lo - 1⟩ : Sp)] else []), y.hi + 1 < x.hi + 1 := by
        intro y hy
        rcases List.mem_append.1 hy with hy | hy
        · have := h2 y hy; omega
        · split at hy
          · simp at hy; subst hy; simp only; omega
          · cases hy
      obtain ⟨g1, g2⟩ := restG s r (x.hi + 1) _ hcan hlt h3.tail (.inr fun y hy => a2 y hy)
      refine ⟨g1, fun d => ?_⟩
      rw [g2 d, In_app, In_cons]
      have hr : ∀ d, d ≤ x.hi + 1 → ¬ In r d := by
        rintro d hd ⟨z, hz, hz2⟩
        have := a2 z hz
        omega
      constructor
      · rintro ((h | h) | ⟨h6, h7, h8⟩)
        · exact .inl h
        · split at h
          · rw [In_one] at h
            simp only at h
            refine .inr ⟨h.1, by omega, ?_⟩
            rintro (h9 | h9)
            · omega
            · exact hr d (by omega) h9
          · exact absurd h (In_nil d)
        · exact .inr ⟨by omega, h7, by rintro (h9 | h9); omega; exact h8 h9⟩
      · rintro (h | ⟨h6, h7, h8⟩)
        · exact .inl (.inl h)
        · have hnx : ¬ (x.lo ≤ d ∧ d ≤ x.hi) := fun h9 => h8 (.inl h9)
          have hnr : ¬ In r d := fun h9 => h8 (.inr h9)
          by_cases hd : d < x.lo
          · left; right
            rw [if_pos (by omega), In_one]
            simp only
            omega
          · right
            exact ⟨by omega, h7, hnr⟩
theorem rest_can (s : Sp) (l : List Sp) (hl : Can l) : Can (restL s l) ∧ ∀ d, In (restL s l) d ↔ (s.lo ≤ d ∧ d ≤ s.hi) ∧ ¬ In l d := by
  obtain ⟨h1, h2⟩ := restG s l s.lo [] ⟨by simp, List.Pairwise.nil⟩ (by simp) hl (.inl rfl)
  have he : restL s l = tailR s (l.foldl (restStep s) (s.lo, [])) := rfl
  rw [he]
  refine ⟨h1, fun d => ?_⟩
  rw [h2 d]
  constructor
  · rintro (h | ⟨h3, h4, h5⟩)
    · exact absurd h (In_nil d)
    · exact ⟨⟨h3, h4⟩, h5⟩
  · rintro ⟨⟨h3, h4⟩, h5⟩
    exact .inr ⟨h3, h4, h5⟩
/-! ### put, and the segments between edges -/
theorem gs_last (L : List Sp) (h : 0 < L.length) : L = L.take (L.length - 1) ++ [gs L ((L.length - 1 : Nat) : Int)] := by
  have h1 := take_gs L (L.length - 1) (by omega)
  rw [show L.length - 1 + 1 = L.length by omega, List.take_length] at h1
  exact h1
theorem put_can (L : List Sp) (s : Sp) (h : Can L) (hs : s.lo ≤ s.hi) (hl : ∀ x ∈ L, x.hi + 1 ≤ s.lo) : Can (putL L s) ∧ (∀ d, In (putL L s) d ↔ In L d ∨ (s.lo ≤ d ∧ d ≤ s.hi)) ∧ ∀ x ∈ putL L s, x.hi ≤ s.hi := by
  unfold putL
  split
  · rename_i hc
    have hL := gs_last L hc.1
    generalize gs L ((L.length - 1 : Nat) : Int) = t at *
    generalize L.take (L.length - 1) = T at *
    subst hL
    have hT : Can T ∧ ∀ x ∈ T, x.hi + 1 < t.lo := by
      refine ⟨⟨fun x hx => h.1 x (List.mem_append_left _ hx), (List.pairwise_append.1 h.2).1⟩, fun x hx => (List.pairwise_append.1 h.2).2.2 x hx t (by simp)⟩
    have ht := h.1 t (by simp)
    refine ⟨can_app T _ hT.1 (by simp only; omega) hT.2, fun d => ?_, fun x hx => ?_⟩
    · rw [In_app, In_app, In_one, In_one]
      simp only
      constructor
      · rintro (h1 | h1)
        · exact .inl (.inl h1)
        · by_cases hd : d ≤ t.hi
          · exact .inl (.inr ⟨h1.1, hd⟩)
          · exact .inr ⟨by omega, h1.2⟩
      · rintro ((h1 | h1) | h1)
        · exact .inl h1
        · exact .inr ⟨h1.1, by omega⟩
        · exact .inr ⟨by omega, h1.2⟩
    · rcases List.mem_append.1 hx with hx | hx
      · have := hl x (List.mem_append_left _ hx); omega
      · simp at hx; subst hx; simp
  · rename_i hc
    have hlt : ∀ x ∈ L, x.hi + 1 < s.lo := by
      by_cases h0 : 0 < L.length
      · have hL := gs_last L h0
        have hne : (gs L ((L.length - 1 : Nat) : Int)).hi + 1 ≠ s.lo := fun e => hc ⟨h0, e⟩
        generalize gs L ((L.length - 1 : Nat) : Int) = t at *
        intro x hx
        rw [hL] at hx
        have ht := hl t (by rw [hL]; simp)
        have htt := h.1 t (by rw [hL]; simp)
        rcases List.mem_append.1 hx with hx | hx
        · have h2 := h.2
          rw [hL] at h2
          have := (List.pairwise_append.1 h2).2.2 x hx t (by simp)
          omega
        · simp at hx; subst hx; omega
      · intro x hx
        have := List.length_pos_of_mem hx
        omega
    refine ⟨can_app L s h hs hlt, fun d => by rw [In_app, In_one], fun x hx => ?_⟩
    rcases List.mem_append.1 hx with hx | hx
    · have := hlt x hx; omega
    · simp at hx; subst hx; exact Int.le_refl _
end Go.Proofs.YteoembjghmgbhaaDoor
