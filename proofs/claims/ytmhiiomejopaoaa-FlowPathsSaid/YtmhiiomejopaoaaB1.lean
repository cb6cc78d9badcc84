/- A row of whole numbers that the call writes. -/
import Derived.Test.YtmhiiomejopaoaaB0
namespace Go.Proofs.Ytmhiiomejopaoaa
set_option linter.all false
open Go.RowKit

/-- Block g is a row of ints that begins with l. -/
def RowI (w : World) (g : Nat) (l : List Int) : Prop := ∃ cur : Array Value, w.heap[g]? = some (.cells cur 3 (0, 0)) ∧ cur.toList.take l.length = ints l
theorem gi_get {l : List Int} {j : Nat} (h : j < l.length) : l[j]? = some (gi l j) := by simp [gi, List.getD_eq_getElem?_getD, h]
theorem RowI.size {w : World} {g : Nat} {l : List Int} (h : RowI w g l) : ∃ cur : Array Value, w.heap[g]? = some (.cells cur 3 (0, 0)) ∧ l.length ≤ cur.size ∧ ∀ j : Nat, j < l.length → cur[j]? = some (.int .i64 (gi l j)) := by
  obtain ⟨cur, h1, h2⟩ := h
  have hl : l.length ≤ cur.size := by
    have := congrArg List.length h2
    simp [ints] at this
    omega
  refine ⟨cur, h1, hl, fun j hj => ?_⟩
  have e : (cur.toList.take l.length)[j]? = (ints l)[j]? := by rw [h2]
  rw [List.getElem?_take, if_pos hj] at e
  simp only [ints, List.getElem?_map, gi_get hj, Option.map_some] at e
  simpa using e
theorem RowI.cell {w : World} {g : Nat} {l : List Int} (h : RowI w g l) (j : Nat) (hj : j < l.length) : w.cell? ⟨g, j, none⟩ = some (.int .i64 (gi l j)) := by
  obtain ⟨cur, h1, _, h3⟩ := h.size
  simp [World.cell?, h1, h3 j hj]
theorem RowI.frozen {w : World} {g : Nat} {l : List Int} (h : RowI w g l) (j : Nat) : w.frozen? ⟨g, j, none⟩ = false := by
  obtain ⟨cur, h1, _⟩ := h
  simp [World.frozen?, h1]
theorem RowI.lt {w : World} {g : Nat} {l : List Int} (h : RowI w g l) : g < w.heap.size := by
  obtain ⟨cur, h1, _⟩ := h
  exact (Array.getElem?_eq_some_iff.1 h1).1
theorem RowI.same {w w' : World} {g : Nat} {l : List Int} (h : RowI w g l) (hs : w'.heap[g]? = w.heap[g]?) : RowI w' g l := by
  obtain ⟨cur, h1, h2⟩ := h
  exact ⟨cur, hs.trans h1, h2⟩
theorem RowI.alloc {w : World} {g : Nat} {l : List Int} (h : RowI w g l) (o : Obj) : RowI (w.alloc o) g l := h.same (Below.heap_alloc w o g h.lt)
theorem RowI.drews {w : World} {g : Nat} {l : List Int} (h : RowI w g l) (n : Nat) : RowI (w.drewN n) g l := h
theorem RowI.other {w : World} {g : Nat} {l : List Int} (h : RowI w g l) (a : Addr) (v : Value) (hne : g ≠ a.block) : RowI (w.setCell a v) g l := h.same (Below.heap_setCell w a v g hne)
theorem RowI.below {w w' : World} {g : Nat} {l : List Int} (h : RowI w g l) (hb : Below w.heap.size w w') : RowI w' g l := h.same (hb.block g h.lt)
theorem RowI.set {w : World} {g : Nat} {l : List Int} (h : RowI w g l) (j : Nat) (v : Int) : RowI (w.setCell ⟨g, j, none⟩ (.int .i64 v)) g (l.set j v) := by
  obtain ⟨cur, h1, h2⟩ := h
  have h3 : (w.setCell ⟨g, j, none⟩ (.int .i64 v)).heap[g]? = some (.cells (cur.setIfInBounds j (.int .i64 v)) 3 (0, 0)) := by simp [World.setCell, Array.getElem?_modify, h1]
  refine ⟨_, h3, ?_⟩
  rw [List.length_set, Array.toList_setIfInBounds, List.take_set, h2]
  simp [ints, List.map_set]
theorem RowI.ints {w : World} {g : Nat} {l : List Int} (h : RowI w g l) : IntsAt w (some ⟨g, 0, none⟩) l := by
  intro i h0 hi
  refine ⟨g, 0, rfl, ?_⟩
  have := h.cell i.toNat (by omega)
  rw [show ((i.toNat : Nat) : Int) = i by omega] at this
  simpa using this
/-- .. in steps, for the end of a round. -/
theorem rowi {w : World} {g : Nat} {l : List Int} (h : RowI w g l := by
    repeat' (first | assumption | refine RowI.alloc ?_ _ | refine RowI.drews ?_ _ | refine RowI.drew ?_ | refine RowI.set ?_ _ _ | (refine RowI.other ?_ _ _ (by first | omega | (simp; omega) | simp_all)))) : RowI w g l := h

theorem cell_other {w : World} {a b : Addr} {v u : Value} (hc : w.cell? b = some u) (h : a.block ≠ b.block) : (w.setCell a v).cell? b = some u := by
  rw [World.cell?_setCell_other _ _ _ _ (fun e => h (by rw [e]))]; exact hc
theorem cell_otherd {w : World} {a b : Addr} {v u : Value} (hc : w.cell? b = some u) (h : a.block ≠ b.block) : (w.setCell a v).drew.cell? b = some u := cell_other hc h
/-- What is read lies in another block (if anything is read). -/
def Apart (A : Option Addr) (n : Nat) (r : Option Nat) : Prop := ∀ ad, A = some ad → 0 < n → some ad.block ≠ r
theorem IntsAt.apart {w : World} {A : Option Addr} {l : List Int} (h : IntsAt w A l) {g : Nat} (hg : w.heap.size ≤ g) : Apart A l.length (some g) := by
  intro ad e h0 e'
  obtain ⟨b, o, e2, h1⟩ := h.nat 0 h0
  have := World.block_lt_of_cell? w _ h1
  rw [e] at e2; cases e2; cases e'
  simp only at this hg; omega
theorem LksAt.apart {w : World} {A : Option Addr} {l : List Lk} (h : LksAt w A l) {g : Nat} (hg : w.heap.size ≤ g) : Apart A l.length (some g) := by
  intro ad e h0 e'
  obtain ⟨b, o, e2, h1, _⟩ := h.nat 0 h0
  have := World.block_lt_of_cell? w _ h1
  rw [e] at e2; cases e2; cases e'
  simp only at this hg; omega
/-- What is read stays where another block alone was written. -/
theorem IntsAt.grown {w w1 : World} {A : Option Addr} {l : List Int} {r : Option Nat} (h : IntsAt w A l) (hb : w.grownBy w1 r) (hne : Apart A l.length r) : IntsAt w1 A l := by
  intro i h0 hi
  obtain ⟨b, o, e, h1⟩ := h i h0 hi
  exact ⟨b, o, e, hb.cell h1 (hne ⟨b, o, none⟩ e (by omega))⟩
theorem LksAt.grown {w w1 : World} {A : Option Addr} {l : List Lk} {r : Option Nat} (h : LksAt w A l) (hb : w.grownBy w1 r) (hne : Apart A l.length r) : LksAt w1 A l := by
  intro i h0 hi
  obtain ⟨b, o, e, h1, h2, h3⟩ := h i h0 hi
  have hn := hne ⟨b, o, none⟩ e (by omega)
  exact ⟨b, o, e, hb.cell h1 hn, hb.cell h2 hn, hb.cell h3 hn⟩
theorem grown_refl (w : World) (r : Option Nat) : w.grownBy w r := ⟨rfl, rfl, rfl, Nat.le_refl _, fun _ _ _ => rfl⟩
theorem grown_alloc {w0 w : World} {r : Option Nat} (h : w0.grownBy w r) (o : Obj) : w0.grownBy (w.alloc o) r :=
  ⟨h.os, h.tape, h.output, by have := h.size; simp; omega, fun k hk hne => (Below.heap_alloc w o k (Nat.lt_of_lt_of_le hk h.size)).trans (h.block k hk hne)⟩
theorem grown_drews {w0 w : World} {r : Option Nat} (h : w0.grownBy w r) (n : Nat) : w0.grownBy (w.drewN n) r := ⟨h.os, h.tape, h.output, h.size, h.block⟩
theorem grown_drew {w0 w : World} {r : Option Nat} (h : w0.grownBy w r) : w0.grownBy w.drew r := ⟨h.os, h.tape, h.output, h.size, h.block⟩
theorem RowI.drew {w : World} {g : Nat} {l : List Int} (h : RowI w g l) : RowI w.drew g l := h
theorem grown_set {w0 w : World} {r : Option Nat} (h : w0.grownBy w r) (a : Addr) (v : Value) (ha : some a.block = r ∨ w0.heap.size ≤ a.block) : w0.grownBy (w.setCell a v) r :=
  ⟨h.os, h.tape, h.output, by have := h.size; simpa [World.setCell] using this, fun k hk hne => (Below.heap_setCell w a v k (by rcases ha with ha | ha; exact fun e => hne (by rw [e, ha]); omega)).trans (h.block k hk hne)⟩
theorem grown_below {w0 w w' : World} {r : Option Nat} (h : w0.grownBy w r) (hb : Below w.heap.size w w') : w0.grownBy w' r :=
  ⟨hb.os.trans h.os, hb.tape.trans h.tape, hb.output.trans h.output, Nat.le_trans h.size hb.size, fun k hk hne => (hb.block k (Nat.lt_of_lt_of_le hk h.size)).trans (h.block k hk hne)⟩
theorem grw {w0 w : World} {r : Option Nat} (h : w0.grownBy w r := by
    repeat' (first | assumption | exact grown_refl _ _ | refine grown_alloc ?_ _ | refine grown_drews ?_ _ | refine grown_drew ?_ | (refine grown_set ?_ _ _ (by first | exact .inl rfl | (right; first | omega | (simp; omega)))))) : w0.grownBy w r := h
theorem below_of_grown {B : Nat} {w0 w w' : World} {g : Nat} (h : Below B w0 w) (hg : w.grownBy w' (some g)) (hB : B ≤ w.heap.size) (hgb : B ≤ g) : Below B w0 w' :=
  h.grown hg hB (fun k e => by cases e; exact hgb)
end Go.Proofs.Ytmhiiomejopaoaa
