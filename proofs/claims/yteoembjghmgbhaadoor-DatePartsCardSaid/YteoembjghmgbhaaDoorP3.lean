/- The Date laws: what is joined in order is what the reference joins. -/
import Derived.Test.YteoembjghmgbhaaDoorP2
import Derived.Test.YteoembjghmgbhaaDoorC5
namespace Go.Proofs.YteoembjghmgbhaaDoor
set_option linter.all false
open Go.RowKit

theorem set_last (L T : List Sp) (t u : Sp) (h : L = T ++ [t]) : L.set (L.length - 1) u = T ++ [u] := by
  subst h
  simp
theorem addU_can (L : List Sp) (s : Sp) (h : Can L) (hs : s.lo ≤ s.hi) (hl : ∀ x ∈ L, x.lo ≤ s.lo) : Can (addU L s) ∧ (∀ d, In (addU L s) d ↔ In L d ∨ (s.lo ≤ d ∧ d ≤ s.hi)) ∧ ∀ x ∈ addU L s, x.lo ≤ s.lo := by
  unfold addU
  split
  · rename_i hc
    have hL := gs_last L hc.1
    rw [set_last L _ _ _ hL]
    generalize gs L ((L.length - 1 : Nat) : Int) = t at *
    generalize L.take (L.length - 1) = T at *
    subst hL
    have hT : Can T ∧ ∀ x ∈ T, x.hi + 1 < t.lo := by
      refine ⟨⟨fun x hx => h.1 x (List.mem_append_left _ hx), (List.pairwise_append.1 h.2).1⟩, fun x hx => (List.pairwise_append.1 h.2).2.2 x hx t (by simp)⟩
    have ht := h.1 t (by simp)
    have htl := hl t (by simp)
    have hm : mx t.hi s.hi = if t.hi ≤ s.hi then s.hi else t.hi := by unfold mx; omega
    have hc2 := hc.2
    obtain ⟨t1, t2⟩ := t
    obtain ⟨s1, s2⟩ := s
    simp only at *
    refine ⟨can_app T _ hT.1 (by simp only; rw [hm]; split <;> omega) hT.2, fun d => ?_, fun x hx => ?_⟩
    · rw [In_app, In_app, In_one, In_one]
      simp only
      rw [hm]
      constructor
      · rintro (h1 | h1)
        · exact .inl (.inl h1)
        · by_cases hd : d ≤ t2
          · exact .inl (.inr ⟨h1.1, hd⟩)
          · refine .inr ⟨by omega, ?_⟩
            have := h1.2
            split at this <;> omega
      · rintro ((h1 | h1) | h1)
        · exact .inl h1
        · exact .inr ⟨h1.1, by split <;> omega⟩
        · exact .inr ⟨by omega, by split <;> omega⟩
    · rcases List.mem_append.1 hx with hx | hx
      · exact hl x (List.mem_append_left _ hx)
      · simp at hx; subst hx; exact htl
  · rename_i hc
    have hlt : ∀ x ∈ L, x.hi + 1 < s.lo := by
      by_cases h0 : 0 < L.length
      · have hL := gs_last L h0
        have hne : ¬ (s.lo ≤ (gs L ((L.length - 1 : Nat) : Int)).hi + 1) := fun e => hc ⟨h0, e⟩
        generalize gs L ((L.length - 1 : Nat) : Int) = t at *
        intro x hx
        rw [hL] at hx
        have htt := h.1 t (by rw [hL]; simp)
        rcases List.mem_append.1 hx with hx | hx
        · have h2 := h.2
          rw [hL] at h2
          have := (List.pairwise_append.1 h2).2.2 x hx t (by simp)
          omega
        · simp at hx; subst hx; omega
      · intro x hx
        have := List.length_pos_of_mem hx
        omega
    refine ⟨can_app L s h hs hlt, fun d => by rw [In_app, In_one], fun x hx => ?_⟩
    rcases List.mem_append.1 hx with hx | hx
    · exact hl x hx
    · simp at hx; subst hx; exact Int.le_refl _
theorem fold_can : ∀ (l L : List Sp), Can L → (∀ x ∈ l, x.lo ≤ x.hi) → Asc l → (∀ x ∈ L, ∀ y ∈ l, x.lo ≤ y.lo) → Can (l.foldl addU L) ∧ ∀ d, In (l.foldl addU L) d ↔ In L d ∨ In l d
  | [], L, h, _, _, _ => ⟨h, fun d => ⟨.inl, fun h => h.resolve_right (In_nil d)⟩⟩
  | s :: l, L, h, hs, ha, hl => by
    obtain ⟨h1, h2, h3⟩ := addU_can L s h (hs s (by simp)) (fun x hx => hl x hx s (by simp))
    have ha2 := List.pairwise_cons.1 ha
    obtain ⟨h4, h5⟩ := fold_can l (addU L s) h1 (fun x hx => hs x (List.mem_cons_of_mem _ hx)) ha2.2 (fun x hx y hy => Int.le_trans (h3 x hx) (ha2.1 y hy))
    rw [List.foldl_cons]
    refine ⟨h4, fun d => ?_⟩
    rw [h5 d, h2 d, In_cons, or_assoc]
theorem unite_can (l : List Sp) (hs : ∀ x ∈ l, x.lo ≤ x.hi) (ha : Asc l) : Can (uniteL l) ∧ ∀ d, In (uniteL l) d ↔ In l d := by
  obtain ⟨h1, h2⟩ := fold_can l [] ⟨by simp, List.Pairwise.nil⟩ hs ha (by simp)
  exact ⟨h1, fun d => by unfold uniteL; rw [h2 d]; exact ⟨fun h => h.resolve_left (In_nil d), .inr⟩⟩
theorem In_perm {l l' : List Sp} (h : l'.Perm l) (d : Int) : In l' d ↔ In l d :=
  ⟨fun ⟨x, hx, h1⟩ => ⟨x, h.mem_iff.1 hx, h1⟩, fun ⟨x, hx, h1⟩ => ⟨x, h.mem_iff.2 hx, h1⟩⟩
theorem good_of {l : List Sp} (h : ∀ x ∈ l, spanB x = true) : Good l := fun x hx => by simpa [spanB] using h x hx
theorem can_good {m l : List Sp} (hm : Can m) (hl : Good l) (h : ∀ d, In m d ↔ In l d) : Good m := by
  intro x hx
  have h0 := hm.1 x hx
  obtain ⟨y, hy, h1, h2⟩ := (h x.lo).1 ⟨x, hx, Int.le_refl _, h0⟩
  obtain ⟨z, hz, h3, h4⟩ := (h x.hi).1 ⟨x, hx, h0, Int.le_refl _⟩
  have := hl y hy
  have := hl z hz
  exact ⟨by omega, h0, by omega⟩
theorem unite_runion (l l' : List Sp) (hv : ∀ x ∈ l, spanB x = true) (hp : l'.Perm l) (ha : Asc l') : uniteL l' = runionL l ∧ Can (uniteL l') ∧ (∀ d, In (uniteL l') d ↔ In l d) ∧ Good (uniteL l') ∧ (uniteL l').length ≤ l.length := by
  have hg := good_of hv
  obtain ⟨h1, h2⟩ := unite_can l' (fun x hx => (hg x (hp.mem_iff.1 hx)).2.1) ha
  have h3 : ∀ d, In (uniteL l') d ↔ In l d := fun d => (h2 d).trans (In_perm hp d)
  obtain ⟨h4, h5⟩ := runion_can l hg
  have h6 := fold_len l' l'.length (Nat.le_refl _)
  rw [List.take_length, hp.length_eq] at h6
  exact ⟨can_uniq _ _ h1 h4 (fun d => by rw [h3 d, h5 d]), h1, h3, can_good h1 hg h3, h6⟩
theorem rest_rgaps (s : Sp) (l l' : List Sp) (hs : spanB s = true) (hv : ∀ x ∈ l, spanB x = true) (hp : l'.Perm l) (ha : Asc l') : restL s (uniteL l') = rgapsL s l := by
  obtain ⟨h1, h2, h3, h4, h5⟩ := unite_runion l l' hv hp ha
  refine rest_gaps s l _ (good_of fun x hx => ?_) h2 h3
  rcases List.mem_append.1 hx with hx | hx
  · exact hv x hx
  · simp at hx; subst hx; exact hs
end Go.Proofs.YteoembjghmgbhaaDoor
