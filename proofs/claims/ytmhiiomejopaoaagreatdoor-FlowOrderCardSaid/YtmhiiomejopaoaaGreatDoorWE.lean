/- The law FlowOrder: the walk, whole. -/
import Derived.Test.YtmhiiomejopaoaaGreatDoorWD
namespace Go.Proofs.YtmhiiomejopaoaaGreatDoor
set_option linter.all false
set_option maxRecDepth 100000
open Go.RowKit

theorem order_walk (n : Int) (A : Option Addr) (c : Nat) (l : List Lk) (B : Option Addr) (d : Nat) (v : List Int) (s t u : Int) (z : List UInt8) (w : World)
    (h : LksAt w A l) (_ : A = none → l.length = 0 ∧ c = 0) (hl : l.length ≤ 9223372036854775807) (hcap : l.length ≤ c)
    (hv : IntsAt w B v) (_ : B = none → v.length = 0 ∧ d = 0) (_ : v.length ≤ 9223372036854775807) (_ : ∀ x ∈ v, -9223372036854775808 ≤ x ∧ x ≤ 9223372036854775807)
    (_ : -9223372036854775808 ≤ s ∧ s ≤ 9223372036854775807) (_ : -9223372036854775808 ≤ t ∧ t ≤ 9223372036854775807) (hu : 0 ≤ u ∧ u ≤ 255) (hT : Tab w) (hV : Vars w) :
    Calls Tryz.prog 4 #[.agg #[.int .i64 n, .slice A l.length c], .slice B v.length d, .int .i64 s, .int .i64 t, .int .u8 u, .string ⟨z.toArray⟩] w fun e w' => e = .returned (.bool true) ∧ Below w.heap.size w w' := by
  by_cases hg : smallB n l.length = false ∨ 60 < v.length ∨ 1000 < z.length
  · exact ord_guard n A c l B d v s t u z w hg
  · have hs : smallB n l.length = true := by cases hh : smallB n l.length with
      | true => rfl
      | false => exact absurd (.inl hh) hg
    have hvl : v.length ≤ 60 := by
      by_cases h : 60 < v.length
      · exact absurd (.inr (.inl h)) hg
      · omega
    have hzl : z.length ≤ 1000 := by
      by_cases h : 1000 < z.length
      · exact absurd (.inr (.inr h)) hg
      · omega
    obtain ⟨r, hr⟩ := reads_ex z
    have hQ := fun W (hb : Below w.heap.size w W) => Parse_any z r W (by omega) hr (hT.below hb) (hV.below hb)
    have hfb : errP r = 7 ∨ (errP r = 0 ∧ ∀ A1 c1 W, LksAt W A1 (netL r) → Below w.heap.size w W → Calls Tryz.prog 7 #[.agg #[.int .i64 (netN r), .slice A1 (netL r).length c1]] W fun e w' => e = .returned (.tuple #[.string ⟨z.toArray⟩, .int .i64 0]) ∧ Below W.heap.size W w') := by
      cases r with
      | none => exact .inl rfl
      | some q =>
        obtain ⟨h1, h2⟩ := hr.1 q.1 q.2 rfl
        refine .inr ⟨rfl, fun A1 c1 W hW hb => ?_⟩
        have := Print_good q.1 A1 c1 q.2 W hW h1 (hT.below hb)
        rw [h2] at this
        exact this
    by_cases hck : checkL n l = 0
    · have hok := check_ok hck
      by_cases hl0 : l = []
      · exact ord_empty n A c l B d v s t u z w _ _ _ hQ hfb hs hvl hzl hok h hT hV hl0
      · have hne : 0 < l.length := List.length_pos_iff.2 hl0
        have h2 := hok.l1
        have h3 : n ≤ 12 ∧ l.length ≤ 36 := by
          unfold smallB at hs
          simp only [Bool.or_eq_true, Bool.and_eq_true, decide_eq_true_eq] at hs
          omega
        exact ord_main n A c l B d v s t u z w _ _ _ hQ hfb hs hvl hzl hok h hT hV hne h3.2 h3.1 hcap hv hu
    · exact ord_bad n A c l B d v s t u z w (checkL n l) _ _ _ hQ hfb hs hvl hzl (fun W hb => Print_bad n A c l W hl (h.below hb) hck) hck
end Go.Proofs.YtmhiiomejopaoaaGreatDoor
