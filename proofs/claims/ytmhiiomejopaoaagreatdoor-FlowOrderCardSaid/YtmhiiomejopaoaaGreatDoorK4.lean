/- The flow walks: the maker of the steps. -/
import Derived.Test.YtmhiiomejopaoaaGreatDoorK2
import Derived.RangeFuncNested
import Derived.RangeFuncBound
import Derived.RangeFuncCalls
import Derived.RangeFuncLeaves
import Derived.OwnWalkIn
import Derived.TacticsInMore
import Derived.LoopNIn
import Derived.LoopIn
namespace Go.Proofs.YtmhiiomejopaoaaGreatDoor
set_option linter.all false
set_option maxRecDepth 100000
open Go.RowKit

set_option maxRecDepth 100000 in
set_option maxHeartbeats 400000 in
theorem steps_any (p bm : Nat) (v : Int) (w : World) :
    Calls Tryz.prog 99 #[.pointer (some ⟨p, 0, none⟩), .map (some bm), .int .i64 v] w fun e w' => e = .returned (.func (.func 114) #[] #[.pointer (some ⟨w.heap.size + 1, 0, none⟩), .pointer (some ⟨w.heap.size + 2, 0, none⟩), .pointer (some ⟨w.heap.size, 0, none⟩)]) ∧
      w' = ((w.alloc (.cells #[.pointer (some ⟨p, 0, none⟩)] 108)).alloc (.cells #[.map (some bm)] 124)).alloc (.cells #[.int .i64 v] 3) := by
  go_enter Tryz.func99, Tryz.ntmps99
  go_wp2
  go_ret
  simp

/-- The way behind a way. -/
def nextW (d : List (Int × Wy)) (l : List Lk) (w : Wy) : Wy :=
  (lookW d (if w.back then (gl l w.link).b else (gl l w.link).a)).getD ⟨0, 0, 0, false⟩
def pathN (d : List (Int × Wy)) (l : List Lk) : Nat → Wy → Option (List Wy)
  | 0, _ => none
  | k + 1, w => if w.link < 0 then some [] else if (l.length : Int) ≤ w.link then none else (pathN d l k (nextW d l w)).map (w :: ·)
theorem pathN_cases {d : List (Int × Wy)} {l : List Lk} {k : Nat} {w : Wy} {xs : List Wy} (h : pathN d l k w = some xs) :
    ∃ k', k = k' + 1 ∧ ((w.link < 0 ∧ xs = []) ∨ (0 ≤ w.link ∧ w.link < l.length ∧ ∃ ys, xs = w :: ys ∧ pathN d l k' (nextW d l w) = some ys)) := by
  cases k with
  | zero => cases h
  | succ k =>
    refine ⟨k, rfl, ?_⟩
    unfold pathN at h
    split at h
    · cases h; exact .inl ⟨by assumption, rfl⟩
    · split at h
      · cases h
      · cases hq : pathN d l k (nextW d l w) with
        | none => rw [hq] at h; cases h
        | some ys => rw [hq] at h; cases h; exact .inr ⟨by omega, by omega, ys, rfl, rfl⟩

/-- What a round of the caller's loop keeps. -/
def KeepS (n₀ : Nat) (S : Nat → Prop) (W W' : World) : Prop :=
  ∀ k o, W.heap[k]? = some o → ¬ S k → (k < n₀ ∨ o.isCells = true) → W'.heap[k]? = some o
theorem keepS_t {n₀ : Nat} {S : Nat → Prop} {A B C : World} (h : KeepS n₀ S A B) (k : KeepS n₀ S B C) : KeepS n₀ S A C :=
  fun i o hi hs hc => k i o (h i o hi hs hc) hs hc
theorem keepS_b {n₀ : Nat} {S : Nat → Prop} {w : World} (hn : n₀ ≤ w.heap.size) (W : World) (l : Nat) (o o' : Obj) (hl : w.heap.size ≤ l) (h : W.heap[l]? = some o) (ho : o.isCells = false) (_ : o.isWalk = false) : KeepS n₀ S W (W.putObj l o') := by
  intro k x hk _ hc
  have hne : k ≠ l := by
    rintro rfl
    rw [h] at hk
    cases hk
    rcases hc with hc | hc
    · omega
    · rw [ho] at hc; cases hc
  rw [World.putObj_heap_other hne]
  exact hk
theorem keepS_fr {n₀ : Nat} {S : Nat → Prop} {A B : World} (h : Fr A B S) : KeepS n₀ S A B := fun k o hk hs _ =>
  (h.block k (Array.getElem?_eq_some_iff.1 hk).1 hs).trans hk
end Go.Proofs.YtmhiiomejopaoaaGreatDoor
