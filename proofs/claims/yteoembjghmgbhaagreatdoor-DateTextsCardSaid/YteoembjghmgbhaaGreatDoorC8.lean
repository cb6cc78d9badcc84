/- The date walks: sanity. -/
import Derived.Test.YteoembjghmgbhaaGreatDoorC7
namespace Go.Proofs.YteoembjghmgbhaaGreatDoor
set_option linter.all false
open Go.RowKit

theorem lift1 {w w' : World} {o X : Obj} {p : Nat} (hb : Below (w.alloc o).heap.size (w.alloc o) w') (h : w.heap[p]? = some X) : w'.heap[p]? = some X := by
  have hp : p < w.heap.size := (Array.getElem?_eq_some_iff.1 h).1
  exact (hb.block p (by simp; omega)).trans ((heap_alloc_old w o hp).trans h)
theorem lift2 {w w' : World} {o o2 X : Obj} {p : Nat} (hb : Below ((w.alloc o).alloc o2).heap.size ((w.alloc o).alloc o2) w') (h : w.heap[p]? = some X) : w'.heap[p]? = some X := by
  have hp : p < w.heap.size := (Array.getElem?_eq_some_iff.1 h).1
  exact lift1 hb ((heap_alloc_old w o hp).trans h)
theorem lift0 {w w' : World} {X : Obj} {p : Nat} (hb : Below w.heap.size w w') (h : w.heap[p]? = some X) : w'.heap[p]? = some X :=
  (hb.block p (Array.getElem?_eq_some_iff.1 h).1).trans h
theorem lnew {w w' : World} {o : Obj} (hb : Below (w.alloc o).heap.size (w.alloc o) w') : w'.heap[w.heap.size]? = some o :=
  (hb.block w.heap.size (by simp)).trans (heap_alloc_new w o)
theorem sps_lit (w : World) (l : List Sp) (cs : Array Value) (hcs : cs.toList = spcs l) (hl : l.length ≤ 1000000) : SpsAt (w.alloc (.cells cs 39)) (some ⟨w.heap.size, 0, none⟩) l := by
  have h := World.ownsRow_lit (base := 0) (size := 2) (e := 39) w cs l.length (Nat.zero_le _) (by unfold maxLen; omega) (by rw [← spcs_length, ← hcs, Array.length_toList])
  rw [hcs] at h
  exact own_sps h
def sl4 : List Sp := [⟨5, 9⟩, ⟨0, 2⟩, ⟨3, 3⟩, ⟨20, 30⟩]
def sr4 : List Sp := [⟨0, 2⟩, ⟨3, 3⟩, ⟨5, 9⟩, ⟨20, 30⟩]
def su3 : List Sp := [⟨0, 3⟩, ⟨5, 9⟩, ⟨20, 30⟩]
theorem sr4_uniq (l' : List Sp) (hp : l'.Perm sl4) (hs : Asc l') : uniteL l' = su3 := by
  have h2 : l' = sr4 := by
    refine List.Perm.eq_of_pairwise (le := fun a b : Sp => decide (a.lo ≤ b.lo)) ?_ ?_ ?_ ?_
    · intro a b ha hb h1 h2
      have m1 := hp.mem_iff.1 ha
      have hp4 : sr4.Perm sl4 := by decide
      have m2 := hp4.mem_iff.1 hb
      simp [sl4] at m1 m2
      rcases m1 with rfl | rfl | rfl | rfl <;> rcases m2 with rfl | rfl | rfl | rfl <;> simp_all
    · simpa [Asc] using hs
    · decide
    · exact hp.trans (by decide)
  rw [h2]
  decide
end Go.Proofs.YteoembjghmgbhaaGreatDoor
