/- The flow walks: the plain form of send; the carrier's rows turned. -/
import Derived.Test.YtmhiiomejopaoaaGreatDoorK3
import Derived.Test.YtmhiiomejopaoaaGreatDoorK6
namespace Go.Proofs.YtmhiiomejopaoaaGreatDoor
set_option linter.all false
set_option maxRecDepth 100000
open Go.RowKit

structure Sep (p : Nat) (A : Option Addr) (l : List Lk) (gx gu gf : Nat) : Prop where
  xu : gx ≠ gu
  xf : gx ≠ gf
  uf : gu ≠ gf
  px : p ≠ gx
  pu : p ≠ gu
  pf : p ≠ gf
  ax : Apart A l.length (some gx)
  au : Apart A l.length (some gu)
  af : Apart A l.length (some gf)
section
variable {w : World} {p : Nat} {n : Int} {A : Option Addr} {c : Nat} {l : List Lk} {gx cx gu cu gf cf : Nat} {x u f : List Int}
theorem Car.setx (h : Car w p n A c l gx cx gu cu gf cf x u f) (s : Sep p A l gx gu gf) (i : Nat) (v : Int) : Car (w.setCell ⟨gx, i, none⟩ (.int .i64 v)) p n A c l gx cx gu cu gf cf (x.set i v) u f :=
  ⟨by rw [List.length_set, Below.heap_setCell _ _ _ _ s.px]; exact h.cell, h.links.grown (grown_set (grown_refl _ (some gx)) _ _ (.inl rfl)) s.ax, h.rx.set i v, h.ru.other _ _ s.xu.symm, h.rf.other _ _ s.xf.symm⟩
theorem Car.setu (h : Car w p n A c l gx cx gu cu gf cf x u f) (s : Sep p A l gx gu gf) (i : Nat) (v : Int) : Car (w.setCell ⟨gu, i, none⟩ (.int .i64 v)) p n A c l gx cx gu cu gf cf x (u.set i v) f :=
  ⟨by rw [List.length_set, Below.heap_setCell _ _ _ _ s.pu]; exact h.cell, h.links.grown (grown_set (grown_refl _ (some gu)) _ _ (.inl rfl)) s.au, h.rx.other _ _ s.xu, h.ru.set i v, h.rf.other _ _ s.uf.symm⟩
theorem Car.setf (h : Car w p n A c l gx cx gu cu gf cf x u f) (s : Sep p A l gx gu gf) (i : Nat) (v : Int) : Car (w.setCell ⟨gf, i, none⟩ (.int .i64 v)) p n A c l gx cx gu cu gf cf x u (f.set i v) :=
  ⟨by rw [List.length_set, Below.heap_setCell _ _ _ _ s.pf]; exact h.cell, h.links.grown (grown_set (grown_refl _ (some gf)) _ _ (.inl rfl)) s.af, h.rx.other _ _ s.xf, h.ru.other _ _ s.uf, h.rf.set i v⟩
theorem Car.alloc (h : Car w p n A c l gx cx gu cu gf cf x u f) (o : Obj) : Car (w.alloc o) p n A c l gx cx gu cu gf cf x u f := h.below ((Below.refl _ _).alloc (Nat.le_refl _) _)
theorem Car.grown {w' : World} {r : Option Nat} (h : Car w p n A c l gx cx gu cu gf cf x u f) (hg : w.grownBy w' r) (hp : r ≠ some p) (hx : r ≠ some gx) (hu : r ≠ some gu) (hf : r ≠ some gf) (ha : Apart A l.length r) : Car w' p n A c l gx cx gu cu gf cf x u f :=
  ⟨(hg.block p (Array.getElem?_eq_some_iff.1 h.cell).1 (fun e => hp e.symm)).trans h.cell, h.links.grown hg ha, h.rx.same (hg.block _ h.rx.lt (fun e => hx e.symm)), h.ru.same (hg.block _ h.ru.lt (fun e => hu e.symm)), h.rf.same (hg.block _ h.rf.lt (fun e => hf e.symm))⟩
end

/-- Go's min(x, y), as the model reckons it. -/
def mn (x y : Int) : Int := if y < x then y else x
/-- One value lifted. -/
def liftV (d : List (Int × Wy)) (most : Int) (v : Nat) (xv : Int) : Int :=
  match lookW d v with
  | some w => wrap64 (xv + mn w.far most)
  | none => wrap64 (xv + most)
def liftX (d : List (Int × Wy)) (most : Int) : Nat → List Int → List Int
  | 0, x => x
  | k + 1, x => (liftX d most k x).set k (liftV d most k (gi x k))
theorem liftX_length (d : List (Int × Wy)) (most : Int) : ∀ (k : Nat) (x : List Int), (liftX d most k x).length = x.length
  | 0, _ => rfl
  | k + 1, x => by simp [liftX, liftX_length d most k x]
theorem liftX_later (d : List (Int × Wy)) (most : Int) (j : Nat) (x : List Int) : ∀ (k : Nat), k ≤ j → gi (liftX d most k x) j = gi x j
  | 0, _ => rfl
  | k + 1, h => by
    have := liftX_later d most j x k (by omega)
    rw [gi_nat, gi_nat] at this ⊢
    simp only [liftX, List.getD_eq_getElem?_getD] at this ⊢
    rw [List.getElem?_set_ne (by omega)]
    exact this
def capN (u : List Int) (n : Int) (y : Wy) : Int := if y.back then mn n (gi u y.link) else n
def moveN (n : Int) (u : List Int) (y : Wy) : List Int := if y.back then si u y.link (wrap64 (gi u y.link - n)) else si u y.link (wrap64 (gi u y.link + n))
/-- What send does: none at the outside: it does not end within the fuel, or leaves its bounds; none inside: there is no way. -/
def sendN (fuel : Nat) (l : List Lk) (x u f : List Int) (v : Nat) : Option (Option (List Int × List Int × List Int)) :=
  match nearN l x u f fuel [] (putW [] ⟨v, 0, -1, false⟩) with
  | none => none
  | some (_, _, false) => some none
  | some (d, t, true) =>
    match pathN d l fuel ((lookW d t).getD ⟨0, 0, 0, false⟩) with
    | none => none
    | some ys =>
      let most := ((lookW d t).getD ⟨0, 0, 0, false⟩).far
      let m := ys.foldl (capN u) (mn (wrap64 (-(gi f v))) (gi f t))
      some (some (liftX d most x.length x, ys.foldl (moveN m) u, si (f.set v (wrap64 (gi f v + m))) t (wrap64 (gi (f.set v (wrap64 (gi f v + m))) t - m))))
theorem moveN_length (n : Int) (u : List Int) (y : Wy) : (moveN n u y).length = u.length := by
  unfold moveN; split <;> simp [si]
theorem foldl_moveN_length (n : Int) (ys : List Wy) : ∀ u : List Int, (ys.foldl (moveN n) u).length = u.length := by
  induction ys with
  | nil => intro u; rfl
  | cons y ys ih => intro u; rw [List.foldl_cons, ih, moveN_length]
/-- The target of a search that found one is a node with something left to get. -/
theorem nearN_target {l : List Lk} {x u f : List Int} : ∀ {k : Nat} {d : List (Int × Wy)} {h : List Wy} {d' : List (Int × Wy)} {t : Int}, nearN l x u f k d h = some (d', t, true) → 0 ≤ t ∧ t < f.length ∧ 0 < gi f t
  | 0, _, _, _, _, e => by cases e
  | k + 1, d, h, d', t, e => by
    obtain ⟨k', hk, _, hc⟩ := nearN_cases e
    cases hk
    rcases hc with ⟨_, h2⟩ | ⟨_, _, h2⟩ | ⟨_, _, h2, h3, h4, h5⟩ | ⟨_, _, _, _, _, h2⟩
    · cases h2
    · exact nearN_target h2
    · cases h5; exact ⟨h2, h3, h4⟩
    · exact nearN_target h2
theorem pathN_mem {d : List (Int × Wy)} {l : List Lk} : ∀ {k : Nat} {w : Wy} {ys : List Wy}, pathN d l k w = some ys → ∀ y ∈ ys, 0 ≤ y.link ∧ y.link < l.length
  | 0, _, _, e => by cases e
  | k + 1, w, ys, e => by
    obtain ⟨k', hk, hc⟩ := pathN_cases e
    cases hk
    rcases hc with ⟨_, rfl⟩ | ⟨h1, h2, zs, rfl, h3⟩
    · intro y hy; cases hy
    · intro y hy
      rcases List.mem_cons.1 hy with rfl | hy
      · exact ⟨h1, h2⟩
      · exact pathN_mem h3 y hy
structure SendW (w wr : World) (bc bm : Nat) (d : List (Int × Wy)) (p : Nat) (n : Int) (A : Option Addr) (c : Nat) (l : List Lk) (gx cx gu cu gf cf : Nat) (x u f : List Int) : Prop where
  car : Car wr p n A c l gx cx gu cu gf cf x u f
  fr : Fr w wr (fun k => k = gx ∨ k = gu ∨ k = gf)
  map : MapI wr bm (mapW d)
  box : wr.heap[bc]? = some (.cells #[.pointer (some ⟨p, 0, none⟩)] 108 (0, 0))
  bmx : bm ≠ gx ∧ bm ≠ gu ∧ bm ≠ gf
  bcx : bc ≠ gx ∧ bc ≠ gu ∧ bc ≠ gf
section
variable {w wr : World} {bc bm : Nat} {d : List (Int × Wy)} {p : Nat} {n : Int} {A : Option Addr} {c : Nat} {l : List Lk} {gx cx gu cu gf cf : Nat} {x u f : List Int}
theorem SendW.step {w' : World} (h : SendW w wr bc bm d p n A c l gx cx gu cu gf cf x u f) (hb : Below wr.heap.size wr w') : SendW w w' bc bm d p n A c l gx cx gu cu gf cf x u f :=
  ⟨h.car.below hb, h.fr.below hb, h.map.below hb, (hb.block bc (Array.getElem?_eq_some_iff.1 h.box).1).trans h.box, h.bmx, h.bcx⟩
theorem SendW.drew (h : SendW w wr bc bm d p n A c l gx cx gu cu gf cf x u f) : SendW w wr.drew bc bm d p n A c l gx cx gu cu gf cf x u f :=
  ⟨h.car.drew, h.fr.drew, h.map.drew, h.box, h.bmx, h.bcx⟩
theorem SendW.setx (h : SendW w wr bc bm d p n A c l gx cx gu cu gf cf x u f) (s : Sep p A l gx gu gf) (i : Nat) (v : Int) : SendW w (wr.setCell ⟨gx, i, none⟩ (.int .i64 v)) bc bm d p n A c l gx cx gu cu gf cf (x.set i v) u f :=
  ⟨h.car.setx s i v, h.fr.set _ _ (.inl (.inl rfl)), h.map.other _ _ h.bmx.1, (Below.heap_setCell _ _ _ _ h.bcx.1).trans h.box, h.bmx, h.bcx⟩
theorem SendW.setu (h : SendW w wr bc bm d p n A c l gx cx gu cu gf cf x u f) (s : Sep p A l gx gu gf) (i : Nat) (v : Int) : SendW w (wr.setCell ⟨gu, i, none⟩ (.int .i64 v)) bc bm d p n A c l gx cx gu cu gf cf x (u.set i v) f :=
  ⟨h.car.setu s i v, h.fr.set _ _ (.inl (.inr (.inl rfl))), h.map.other _ _ h.bmx.2.1, (Below.heap_setCell _ _ _ _ h.bcx.2.1).trans h.box, h.bmx, h.bcx⟩
theorem SendW.setf (h : SendW w wr bc bm d p n A c l gx cx gu cu gf cf x u f) (s : Sep p A l gx gu gf) (i : Nat) (v : Int) : SendW w (wr.setCell ⟨gf, i, none⟩ (.int .i64 v)) bc bm d p n A c l gx cx gu cu gf cf x u (f.set i v) :=
  ⟨h.car.setf s i v, h.fr.set _ _ (.inl (.inr (.inr rfl))), h.map.other _ _ h.bmx.2.2, (Below.heap_setCell _ _ _ _ h.bcx.2.2).trans h.box, h.bmx, h.bcx⟩
end
end Go.Proofs.YtmhiiomejopaoaaGreatDoor
