/- Words of this seat's walks: rows that are read, cells that stay. -/
import Derived.Test.YtmhiiomejopaoaaGreatDoorProg
import Derived.WalkKit
import Derived.WalkSpells
import Derived.WalkLawsBesides
import Derived.Lib.Hide
import Derived.Deep.QuietTactic
import Derived.Deep.LoopGhost
import Derived.BigQuiet
import Derived.Maps.AppendAt
import Derived.Laws.MakeOwn
import Derived.Laws.OwnMore
namespace Go.Proofs.YtmhiiomejopaoaaGreatDoor
set_option linter.all false
open Go.RowKit

structure Lk where
  a : Int
  b : Int
  m : Int
deriving Inhabited, DecidableEq

def gi (l : List Int) (i : Int) : Int := l.getD i.toNat 0
def gl (l : List Lk) (i : Int) : Lk := l.getD i.toNat default
def si (l : List Int) (i v : Int) : List Int := l.set i.toNat v
def ints (l : List Int) : List Value := l.map (.int .i64 ·)
def lkc (x : Lk) : List Value := [.int .i64 x.a, .int .i64 x.b, .int .i64 x.m]
def lkcs (l : List Lk) : List Value := l.flatMap lkc

theorem below_drews {B : Nat} {a w : World} (h : Below B a w) (n : Nat) : Below B a (w.drewN n) := ⟨h.os, h.tape, h.output, h.size, h.block⟩
theorem bel {B : Nat} {w W : World} (h : Below B w W := by
    repeat' (first | assumption | exact Below.refl _ _ | (refine Below.drew ?_) | (refine below_drews ?_ _) | (refine Below.alloc ?_ (by first | omega | (simp; done) | (simp; omega)) _) | (refine Below.setCell ?_ (by first | omega | (simp; done) | (simp; omega)) _))) : Below B w W := h
theorem cell_alloc {w : World} {a : Addr} {v : Value} (o : Obj) (h : w.cell? a = some v) : (w.alloc o).cell? a = some v := by
  rw [World.cell?_alloc_lt _ _ _ (World.block_lt_of_cell? w a h)]; exact h
theorem cell_below {w w1 : World} {a : Addr} {v : Value} (hb : Below w.heap.size w w1) (h : w.cell? a = some v) : w1.cell? a = some v :=
  (hb.cell (World.block_lt_of_cell? w _ h)).trans h
theorem cel {w : World} {a : Addr} {v : Value} (h : w.cell? a = some v := by
    repeat' (first | assumption | refine cell_alloc _ ?_)) : w.cell? a = some v := h
theorem bcell {W w1 : World} (hb : Below W.heap.size W w1) : (∀ b o, b < W.heap.size → w1.cell? ⟨b, o, none⟩ = W.cell? ⟨b, o, none⟩) ∧ (∀ b o, b < W.heap.size → w1.frozen? ⟨b, o, none⟩ = W.frozen? ⟨b, o, none⟩) :=
  ⟨fun b o h => hb.cell (p := ⟨b, o, none⟩) h, fun b o h => hb.frozen (p := ⟨b, o, none⟩) h⟩
theorem below_then {B : Nat} {w w1 w2 : World} (h : Below B w w1) (k : Below w1.heap.size w1 w2) : Below w.heap.size w w1 → B ≤ w.heap.size → Below B w w2 :=
  fun h' hB => h.trans (k.mono (Nat.le_trans hB h'.size))
theorem below_trans {w w1 w2 : World} (h : Below w.heap.size w w1) (k : Below w1.heap.size w1 w2) : Below w.heap.size w w2 := h.trans (k.mono h.size)

/-- A slice of whole numbers at A reads as l. -/
def IntsAt (w : World) (A : Option Addr) (l : List Int) : Prop :=
  ∀ i : Int, 0 ≤ i → i < l.length → ∃ b o, A = some ⟨b, o, none⟩ ∧ w.cell? ⟨b, o + i.toNat, none⟩ = some (.int .i64 (gi l i))
/-- A slice of links at A reads as l. -/
def LksAt (w : World) (A : Option Addr) (l : List Lk) : Prop :=
  ∀ i : Int, 0 ≤ i → i < l.length → ∃ b o, A = some ⟨b, o, none⟩ ∧ w.cell? ⟨b, o + i.toNat * 3, none⟩ = some (.int .i64 (gl l i).a) ∧ w.cell? ⟨b, o + i.toNat * 3 + 1, none⟩ = some (.int .i64 (gl l i).b) ∧ w.cell? ⟨b, o + i.toNat * 3 + 2, none⟩ = some (.int .i64 (gl l i).m)
theorem IntsAt.below {w w1 : World} {A : Option Addr} {l : List Int} (h : IntsAt w A l) (hb : Below w.heap.size w w1) : IntsAt w1 A l := by
  intro i h0 hi
  obtain ⟨b, o, e, h1⟩ := h i h0 hi
  exact ⟨b, o, e, cell_below hb h1⟩
theorem LksAt.below {w w1 : World} {A : Option Addr} {l : List Lk} (h : LksAt w A l) (hb : Below w.heap.size w w1) : LksAt w1 A l := by
  intro i h0 hi
  obtain ⟨b, o, e, h1, h2, h3⟩ := h i h0 hi
  exact ⟨b, o, e, cell_below hb h1, cell_below hb h2, cell_below hb h3⟩
theorem IntsAt.alloc {w : World} {A : Option Addr} {l : List Int} (h : IntsAt w A l) (o : Obj) : IntsAt (w.alloc o) A l := h.below ((Below.refl _ _).alloc (Nat.le_refl _) _)
theorem LksAt.alloc {w : World} {A : Option Addr} {l : List Lk} (h : LksAt w A l) (o : Obj) : LksAt (w.alloc o) A l := h.below ((Below.refl _ _).alloc (Nat.le_refl _) _)
theorem IntsAt.nat {w : World} {A : Option Addr} {l : List Int} (h : IntsAt w A l) (k : Nat) (hk : k < l.length) : ∃ b o, A = some ⟨b, o, none⟩ ∧ w.cell? ⟨b, o + k, none⟩ = some (.int .i64 (gi l k)) := h k (by omega) (by omega)
theorem LksAt.nat {w : World} {A : Option Addr} {l : List Lk} (h : LksAt w A l) (k : Nat) (hk : k < l.length) : ∃ b o, A = some ⟨b, o, none⟩ ∧ w.cell? ⟨b, o + k * 3, none⟩ = some (.int .i64 (gl l k).a) ∧ w.cell? ⟨b, o + k * 3 + 1, none⟩ = some (.int .i64 (gl l k).b) ∧ w.cell? ⟨b, o + k * 3 + 2, none⟩ = some (.int .i64 (gl l k).m) := h k (by omega) (by omega)
theorem gi_nat (l : List Int) (k : Nat) : gi l k = l.getD k 0 := by simp [gi]
theorem gl_nat (l : List Lk) (k : Nat) : gl l k = l.getD k default := by simp [gl]

theorem gl_mem {l : List Lk} {i : Int} (h0 : 0 ≤ i) (h : i < l.length) : gl l i ∈ l := by
  have : i.toNat < l.length := by omega
  simp [gl, List.getD_eq_getElem?_getD, this]
theorem mem_gl {l : List Lk} {x : Lk} (h : x ∈ l) : ∃ i : Nat, i < l.length ∧ gl l i = x := by
  obtain ⟨i, hi, rfl⟩ := List.getElem_of_mem h
  exact ⟨i, hi, by simp [gl, List.getD_eq_getElem?_getD, hi]⟩
theorem gi_mem {l : List Int} {i : Int} (h0 : 0 ≤ i) (h : i < l.length) : gi l i ∈ l := by
  have : i.toNat < l.length := by omega
  simp [gi, List.getD_eq_getElem?_getD, this]
theorem mem_gi {l : List Int} {x : Int} (h : x ∈ l) : ∃ i : Nat, i < l.length ∧ gi l i = x := by
  obtain ⟨i, hi, rfl⟩ := List.getElem_of_mem h
  exact ⟨i, hi, by simp [gi, List.getD_eq_getElem?_getD, hi]⟩
theorem any_gl_false {l : List Lk} {f : Lk → Bool} (h : ∀ j : Nat, j < l.length → f (gl l j) = false) : l.any f = false := by
  rw [List.any_eq_false]
  intro x hx
  obtain ⟨j, hj, rfl⟩ := mem_gl hx
  simp [h j hj]
theorem any_gl_true {l : List Lk} {f : Lk → Bool} {i : Int} (h0 : 0 ≤ i) (hk : i < l.length) (h : f (gl l i) = true) : l.any f = true := by
  rw [List.any_eq_true]
  exact ⟨_, gl_mem h0 hk, h⟩
theorem any_gi_false {l : List Int} {f : Int → Bool} (h : ∀ j : Nat, j < l.length → f (gi l j) = false) : l.any f = false := by
  rw [List.any_eq_false]
  intro x hx
  obtain ⟨j, hj, rfl⟩ := mem_gi hx
  simp [h j hj]
theorem any_gi_true {l : List Int} {f : Int → Bool} {i : Int} (h0 : 0 ≤ i) (hk : i < l.length) (h : f (gi l i) = true) : l.any f = true := by
  rw [List.any_eq_true]
  exact ⟨_, gi_mem h0 hk, h⟩
/-- A fold over the first k+1. -/
theorem fold_gl {α : Type} (f : α → Lk → α) (a : α) (l : List Lk) (k : Nat) (h : k < l.length) : (l.take (k + 1)).foldl f a = f ((l.take k).foldl f a) (gl l k) := by
  rw [List.take_succ_eq_append_getElem h, List.foldl_append]
  simp [gl, List.getD_eq_getElem?_getD, h]
theorem fold_gi {α : Type} (f : α → Int → α) (a : α) (l : List Int) (k : Nat) (h : k < l.length) : (l.take (k + 1)).foldl f a = f ((l.take k).foldl f a) (gi l k) := by
  rw [List.take_succ_eq_append_getElem h, List.foldl_append]
  simp [gi, List.getD_eq_getElem?_getD, h]

theorem take_gi (l : List Int) (k : Nat) (h : k < l.length) : l.take (k + 1) = l.take k ++ [gi l k] := by
  rw [List.take_succ_eq_append_getElem h]; simp [gi, List.getD_eq_getElem?_getD, h]
theorem take_gl (l : List Lk) (k : Nat) (h : k < l.length) : l.take (k + 1) = l.take k ++ [gl l k] := by
  rw [List.take_succ_eq_append_getElem h]; simp [gl, List.getD_eq_getElem?_getD, h]
theorem one1 (k : IntKind) (x : Int) : ∀ u ∈ [Value.int k x], u.oneCell' = true := by intro u hu; simp at hu; subst hu; rfl
theorem ret_int {k : IntKind} {a b : Int} (h : a = b) : Ending.returned (.int k a) = .returned (.int k b) := by rw [h]
theorem ret_bool {a b : Bool} (h : a = b) : Ending.returned (.bool a) = .returned (.bool b) := by rw [h]
end Go.Proofs.YtmhiiomejopaoaaGreatDoor
