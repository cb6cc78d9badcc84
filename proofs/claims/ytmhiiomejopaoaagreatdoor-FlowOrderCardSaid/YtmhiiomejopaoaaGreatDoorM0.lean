/- What a checked net is. -/
import Derived.Test.YtmhiiomejopaoaaGreatDoorF7
namespace Go.Proofs.YtmhiiomejopaoaaGreatDoor
set_option linter.all false
set_option maxRecDepth 100000
open Go.RowKit

structure NetOk (n : Int) (l : List Lk) : Prop where
  n1 : 1 ≤ n
  n2 : n ≤ 50
  l1 : l.length ≤ 260
  lk : ∀ k ∈ l, InR n k ∧ k.a ≠ k.b ∧ -17179869184 ≤ k.m ∧ k.m ≤ 17179869184
theorem wrap_pred {n : Int} (h1 : 1 ≤ n) (h2 : n ≤ 50) : wrap64 (n - 1) = n - 1 := IntWalk.wrap64_in _ (by omega)
theorem check_ok {n : Int} {l : List Lk} (h : checkL n l = 0) : NetOk n l := by
  unfold checkL at h
  by_cases h1 : withinB n 1 50
  · rw [h1] at h
    have hn : 1 ≤ n ∧ n ≤ 50 := by simpa [withinB] using h1
    by_cases h2 : 260 < l.length
    · simp [h2] at h
    · by_cases h3 : l.any (badLk n)
      · simp [h2, h3] at h
      · refine ⟨hn.1, hn.2, by omega, fun k hk => ?_⟩
        have h4 : badLk n k = false := by
          have := List.any_eq_false.1 (by simpa using h3) k hk
          simpa using this
        have hw := wrap_pred hn.1 hn.2
        simp only [badLk, nodeB, hw, withinB, Bool.or_eq_false_iff, Bool.not_eq_false', Bool.and_eq_true, decide_eq_true_eq] at h4
        obtain ⟨⟨a1, a2⟩, ⟨b1, b2⟩, e, m1, m2⟩ := h4
        exact ⟨⟨a1, by omega, b1, by omega⟩, by simpa using e, m1, m2⟩
  · simp [h1] at h
theorem ok_check {n : Int} {l : List Lk} (h : NetOk n l) : checkL n l = 0 := by
  have hw := wrap_pred h.n1 h.n2
  have h1 : withinB n 1 50 = true := by simp [withinB, h.n1, h.n2]
  have h3 : l.any (badLk n) = false := by
    rw [List.any_eq_false]
    intro k hk
    obtain ⟨⟨a1, a2, b1, b2⟩, e, m1, m2⟩ := h.lk k hk
    simp only [badLk, nodeB, hw, withinB, Bool.not_eq_true, Bool.or_eq_false_iff, Bool.not_eq_false', Bool.and_eq_true, decide_eq_true_eq]
    exact ⟨⟨a1, by omega⟩, ⟨b1, by omega⟩, by simpa using e, m1, m2⟩
  have := h.l1
  simp only [checkL, h1, h3]
  simp; omega
end Go.Proofs.YtmhiiomejopaoaaGreatDoor
