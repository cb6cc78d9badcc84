/- The flow walks: the carrier, and its slack. -/
import Derived.Test.YtmhiiomejopaoaaGreatDoorH1
namespace Go.Proofs.YtmhiiomejopaoaaGreatDoor
set_option linter.all false
set_option maxRecDepth 100000
open Go.RowKit

structure Car (w : World) (p : Nat) (n : Int) (A : Option Addr) (c : Nat) (l : List Lk) (gx cx gu cu gf cf : Nat) (x u f : List Int) : Prop where
  cell : w.heap[p]? = some (.cells #[.int .i64 n, .slice A l.length c, .slice (some ⟨gx, 0, none⟩) x.length cx, .slice (some ⟨gu, 0, none⟩) u.length cu, .slice (some ⟨gf, 0, none⟩) f.length cf] 110 (0, 0))
  links : LksAt w A l
  rx : RowI w gx x
  ru : RowI w gu u
  rf : RowI w gf f
theorem Car.below {w w' : World} {p : Nat} {n : Int} {A : Option Addr} {c : Nat} {l : List Lk} {gx cx gu cu gf cf : Nat} {x u f : List Int} (h : Car w p n A c l gx cx gu cu gf cf x u f) (hb : Below w.heap.size w w') : Car w' p n A c l gx cx gu cu gf cf x u f :=
  ⟨(hb.block p (Array.getElem?_eq_some_iff.1 h.cell).1).trans h.cell, h.links.below hb, h.rx.below hb, h.ru.below hb, h.rf.below hb⟩
theorem Car.drew {w : World} {p : Nat} {n : Int} {A : Option Addr} {c : Nat} {l : List Lk} {gx cx gu cu gf cf : Nat} {x u f : List Int} (h : Car w p n A c l gx cx gu cu gf cf x u f) : Car w.drew p n A c l gx cx gu cu gf cf x u f :=
  ⟨h.cell, h.links, h.rx, h.ru, h.rf⟩
theorem Car.fr {w w' : World} {S : Nat → Prop} {p : Nat} {n : Int} {A : Option Addr} {c : Nat} {l : List Lk} {gx cx gu cu gf cf : Nat} {x u f : List Int} (h : Car w p n A c l gx cx gu cu gf cf x u f) (hf : Fr w w' S) (hp : ¬ S p) (hx : ¬ S gx) (hu : ¬ S gu) (hg : ¬ S gf) (hA : ∀ ad, A = some ad → 0 < l.length → ¬ S ad.block) : Car w' p n A c l gx cx gu cu gf cf x u f :=
  ⟨(hf.block p (Array.getElem?_eq_some_iff.1 h.cell).1 hp).trans h.cell, fun i h0 hi => by
    obtain ⟨b, o, e, h1, h2, h3⟩ := h.links i h0 hi
    have hn := hA _ e (by omega)
    exact ⟨b, o, e, hf.cell h1 hn, hf.cell h2 hn, hf.cell h3 hn⟩, h.rx.same (hf.block _ h.rx.lt hx), h.ru.same (hf.block _ h.ru.lt hu), h.rf.same (hf.block _ h.rf.lt hg)⟩

def slackI (x : List Int) (k : Lk) : Int := wrap64 (wrap64 (gi x k.a + k.m) - gi x k.b)
set_option maxRecDepth 100000 in
set_option maxHeartbeats 400000 in
theorem slack_any (i : Nat) (p : Nat) (n : Int) (A : Option Addr) (c : Nat) (l : List Lk) (gx cx gu cu gf cf : Nat) (x u f : List Int) (w : World) (h : Car w p n A c l gx cx gu cu gf cf x u f) (hi : i < l.length) (hl : l.length ≤ 1000000) (hx : x.length ≤ 1000000) (hr : InR x.length (gl l i)) :
    Calls Tryz.prog 113 #[.pointer (some ⟨p, 0, none⟩), .int .i64 i] w fun e w' => e = .returned (.int .i64 (slackI x (gl l i))) ∧ Below w.heap.size w w' := by
  obtain ⟨i1, i2, i3, i4⟩ := hr
  obtain ⟨b, o, rfl, g1, g2, g3⟩ := h.links.nat i hi
  have hb := World.block_lt_of_cell? _ _ g1
  dsimp only at hb
  have ca := h.rx.cell (gl l i).a.toNat (by omega)
  have cb := h.rx.cell (gl l i).b.toNat (by omega)
  simp only [show (((gl l i).a.toNat : Nat) : Int) = (gl l i).a by omega, show (((gl l i).b.toNat : Nat) : Int) = (gl l i).b by omega] at ca cb
  have hpl := (Array.getElem?_eq_some_iff.1 h.cell).1
  have hxl := h.rx.lt
  have c1 := cell_of_heap h.cell 1
  have c2 := cell_of_heap h.cell 2
  simp at c1 c2
  clear h
  unfold slackI
  generalize gl l i = q at *
  go_enter Tryz.func113, Tryz.ntmps113
  go_wp2
  go_quiet (fail)
  go_wp2
  go_ret
  exact ⟨rfl, bel⟩
end Go.Proofs.YtmhiiomejopaoaaGreatDoor
