/- The flow walks: the nearest node. -/
import Derived.Test.YtmhiiomejopaoaaGreatDoorK1
import Derived.Test.YtmhiiomejopaoaaGreatDoorH2
namespace Go.Proofs.YtmhiiomejopaoaaGreatDoor
set_option linter.all false
set_option maxRecDepth 100000
open Go.RowKit

def lookW : List (Int × Wy) → Int → Option Wy
  | [], _ => none
  | (k', v) :: m, k => if k' == k then some v else lookW m k
def mapW (d : List (Int × Wy)) : List (Int × Value) := d.map fun p => (p.1, wyv p.2)
theorem look_mapW (d : List (Int × Wy)) (k : Int) : lookI (mapW d) k = (lookW d k).map wyv := by
  induction d with
  | nil => rfl
  | cons p d ih =>
    simp only [mapW, List.map_cons, lookI, lookW] at ih ⊢
    split
    · rfl
    · exact ih
theorem put_mapW (d : List (Int × Wy)) (k : Int) (v : Wy) (h : lookW d k = none) : putI (mapW d) k (wyv v) = mapW (d ++ [(k, v)]) := by
  rw [put_none _ _ _ (by rw [look_mapW, h]; rfl)]
  simp [mapW]
def pushL (x u : List Int) (y : Wy) (l : List Lk) (h : List Wy) (k : Nat) : List Wy :=
  if (gl l k).b = y.node ∧ 0 < gi u k then putW (if (gl l k).a = y.node then putW h ⟨(gl l k).b, wrap64 (y.far + slackI x (gl l k)), k, false⟩ else h) ⟨(gl l k).a, wrap64 (y.far - slackI x (gl l k)), k, true⟩
  else (if (gl l k).a = y.node then putW h ⟨(gl l k).b, wrap64 (y.far + slackI x (gl l k)), k, false⟩ else h)
def pushN (x u : List Int) (y : Wy) (l : List Lk) : Nat → List Wy → List Wy
  | 0, h => h
  | k + 1, h => pushL x u y l (pushN x u y l k h) k
def nearN (l : List Lk) (x u f : List Int) : Nat → List (Int × Wy) → List Wy → Option (List (Int × Wy) × Int × Bool)
  | 0, _, _ => none
  | k + 1, d, h =>
    if 400000 < h.length then none
    else if h.length = 0 then some (d, 0, false)
    else if (lookW d (gw h 0).node).isSome then nearN l x u f k d (takeL h)
    else if (gw h 0).node < 0 ∨ (f.length : Int) ≤ (gw h 0).node then none
    else if 0 < gi f (gw h 0).node then some (d ++ [((gw h 0).node, gw h 0)], (gw h 0).node, true)
    else nearN l x u f k (d ++ [((gw h 0).node, gw h 0)]) (pushN x u (gw h 0) l l.length (takeL h))
def nearV (b : Nat) (r : List (Int × Wy) × Int × Bool) : Ending := .returned (.tuple #[.map (some b), .int .i64 r.2.1, .bool r.2.2])
theorem siftUp_length : ∀ (k : Nat) (l : List Wy) (i : Nat), (siftUp k l i).length = l.length
  | 0, _, _ => rfl
  | k + 1, l, i => by
    unfold siftUp
    split
    · rfl
    · split
      · rw [siftUp_length k, swapW_length]
      · rfl
theorem putW_length (l : List Wy) (x : Wy) : (putW l x).length = l.length + 1 := by simp [putW, siftUp_length]
theorem siftDown_length : ∀ (k : Nat) (l : List Wy) (i : Nat), (siftDown k l i).length = l.length
  | 0, _, _ => rfl
  | k + 1, l, i => by
    unfold siftDown
    split
    · rw [siftDown_length k, swapW_length]
    · rfl
theorem takeL_length (l : List Wy) : (takeL l).length = l.length - 1 := by
  simp [takeL, siftDown_length]
theorem pushL_length (x u : List Int) (y : Wy) (l : List Lk) (h : List Wy) (k : Nat) : (pushL x u y l h k).length ≤ h.length + 2 := by
  unfold pushL
  split <;> split <;> simp [putW_length]
theorem pushN_length (x u : List Int) (y : Wy) (l : List Lk) (h : List Wy) : ∀ k, (pushN x u y l k h).length ≤ h.length + 2 * k
  | 0 => Nat.le_refl _
  | k + 1 => by
    have := pushL_length x u y l (pushN x u y l k h) k
    have := pushN_length x u y l h k
    unfold pushN
    omega
theorem heap_nil (w : World) (p : Nat) (B : Nat) (h : w.heap[p]? = some (.cells #[.slice none 0 0, .func (.func 110) #[] #[]] 148 (0, 0))) : HeapAt w B p (.slice none 0 0) [] :=
  ⟨h, ⟨by simp [wycs], .inl ⟨rfl, rfl⟩⟩⟩
end Go.Proofs.YtmhiiomejopaoaaGreatDoor
