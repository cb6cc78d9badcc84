/- Rows of ways; the heap; what a call may turn. -/
import Derived.Test.YtmhiiomejopaoaaGreatDoorB0
import Derived.Deep.OwnRows
import Derived.Maps.OwnSet
import Derived.Deep.RegionLaw
import Derived.Deep.DeepCutAuto
import Derived.Deep.CutBlock
import Derived.StillTailTactics
import Derived.Deep.AppendLies
import Derived.BigRegion
import Derived.Deep.RegionWith
namespace Go.Proofs.YtmhiiomejopaoaaGreatDoor
set_option linter.all false
set_option maxRecDepth 100000
open Go.RowKit

/-- Block g is a row of ints that begins with l. -/
def RowI (w : World) (g : Nat) (l : List Int) : Prop := ∃ cur : Array Value, w.heap[g]? = some (.cells cur 3 (0, 0)) ∧ cur.toList.take l.length = ints l
theorem gi_get {l : List Int} {j : Nat} (h : j < l.length) : l[j]? = some (gi l j) := by simp [gi, List.getD_eq_getElem?_getD, h]
theorem RowI.size {w : World} {g : Nat} {l : List Int} (h : RowI w g l) : ∃ cur : Array Value, w.heap[g]? = some (.cells cur 3 (0, 0)) ∧ l.length ≤ cur.size ∧ ∀ j : Nat, j < l.length → cur[j]? = some (.int .i64 (gi l j)) := by
  obtain ⟨cur, h1, h2⟩ := h
  have hl : l.length ≤ cur.size := by
    have := congrArg List.length h2
    simp [ints] at this
    omega
  refine ⟨cur, h1, hl, fun j hj => ?_⟩
  have e : (cur.toList.take l.length)[j]? = (ints l)[j]? := by rw [h2]
  rw [List.getElem?_take, if_pos hj] at e
  simp only [ints, List.getElem?_map, gi_get hj, Option.map_some] at e
  simpa using e
theorem RowI.cell {w : World} {g : Nat} {l : List Int} (h : RowI w g l) (j : Nat) (hj : j < l.length) : w.cell? ⟨g, j, none⟩ = some (.int .i64 (gi l j)) := by
  obtain ⟨cur, h1, _, h3⟩ := h.size
  simp [World.cell?, h1, h3 j hj]
theorem RowI.frozen {w : World} {g : Nat} {l : List Int} (h : RowI w g l) (j : Nat) : w.frozen? ⟨g, j, none⟩ = false := by
  obtain ⟨cur, h1, _⟩ := h
  simp [World.frozen?, h1]
theorem RowI.lt {w : World} {g : Nat} {l : List Int} (h : RowI w g l) : g < w.heap.size := by
  obtain ⟨cur, h1, _⟩ := h
  exact (Array.getElem?_eq_some_iff.1 h1).1
theorem RowI.same {w w' : World} {g : Nat} {l : List Int} (h : RowI w g l) (hs : w'.heap[g]? = w.heap[g]?) : RowI w' g l := by
  obtain ⟨cur, h1, h2⟩ := h
  exact ⟨cur, hs.trans h1, h2⟩
theorem RowI.alloc {w : World} {g : Nat} {l : List Int} (h : RowI w g l) (o : Obj) : RowI (w.alloc o) g l := h.same (Below.heap_alloc w o g h.lt)
theorem RowI.drews {w : World} {g : Nat} {l : List Int} (h : RowI w g l) (n : Nat) : RowI (w.drewN n) g l := h
theorem RowI.other {w : World} {g : Nat} {l : List Int} (h : RowI w g l) (a : Addr) (v : Value) (hne : g ≠ a.block) : RowI (w.setCell a v) g l := h.same (Below.heap_setCell w a v g hne)
theorem RowI.below {w w' : World} {g : Nat} {l : List Int} (h : RowI w g l) (hb : Below w.heap.size w w') : RowI w' g l := h.same (hb.block g h.lt)
theorem RowI.set {w : World} {g : Nat} {l : List Int} (h : RowI w g l) (j : Nat) (v : Int) : RowI (w.setCell ⟨g, j, none⟩ (.int .i64 v)) g (l.set j v) := by
  obtain ⟨cur, h1, h2⟩ := h
  have h3 : (w.setCell ⟨g, j, none⟩ (.int .i64 v)).heap[g]? = some (.cells (cur.setIfInBounds j (.int .i64 v)) 3 (0, 0)) := by simp [World.setCell, Array.getElem?_modify, h1]
  refine ⟨_, h3, ?_⟩
  rw [List.length_set, Array.toList_setIfInBounds, List.take_set, h2]
  simp [ints, List.map_set]
theorem RowI.ints {w : World} {g : Nat} {l : List Int} (h : RowI w g l) : IntsAt w (some ⟨g, 0, none⟩) l := by
  intro i h0 hi
  refine ⟨g, 0, rfl, ?_⟩
  have := h.cell i.toNat (by omega)
  rw [show ((i.toNat : Nat) : Int) = i by omega] at this
  simpa using this
/-- .. in steps, for the end of a round. -/
theorem rowi {w : World} {g : Nat} {l : List Int} (h : RowI w g l := by
    repeat' (first | assumption | refine RowI.alloc ?_ _ | refine RowI.drews ?_ _ | refine RowI.drew ?_ | refine RowI.set ?_ _ _ | (refine RowI.other ?_ _ _ (by first | omega | (simp; omega) | simp_all)))) : RowI w g l := h

theorem cell_other {w : World} {a b : Addr} {v u : Value} (hc : w.cell? b = some u) (h : a.block ≠ b.block) : (w.setCell a v).cell? b = some u := by
  rw [World.cell?_setCell_other _ _ _ _ (fun e => h (by rw [e]))]; exact hc
theorem cell_otherd {w : World} {a b : Addr} {v u : Value} (hc : w.cell? b = some u) (h : a.block ≠ b.block) : (w.setCell a v).drew.cell? b = some u := cell_other hc h
/-- What is read lies in another block (if anything is read). -/
def Apart (A : Option Addr) (n : Nat) (r : Option Nat) : Prop := ∀ ad, A = some ad → 0 < n → some ad.block ≠ r
theorem IntsAt.apart {w : World} {A : Option Addr} {l : List Int} (h : IntsAt w A l) {g : Nat} (hg : w.heap.size ≤ g) : Apart A l.length (some g) := by
  intro ad e h0 e'
  obtain ⟨b, o, e2, h1⟩ := h.nat 0 h0
  have := World.block_lt_of_cell? w _ h1
  rw [e] at e2; cases e2; cases e'
  simp only at this hg; omega
theorem LksAt.apart {w : World} {A : Option Addr} {l : List Lk} (h : LksAt w A l) {g : Nat} (hg : w.heap.size ≤ g) : Apart A l.length (some g) := by
  intro ad e h0 e'
  obtain ⟨b, o, e2, h1, _⟩ := h.nat 0 h0
  have := World.block_lt_of_cell? w _ h1
  rw [e] at e2; cases e2; cases e'
  simp only at this hg; omega
/-- What is read stays where another block alone was written. -/
theorem IntsAt.grown {w w1 : World} {A : Option Addr} {l : List Int} {r : Option Nat} (h : IntsAt w A l) (hb : w.grownBy w1 r) (hne : Apart A l.length r) : IntsAt w1 A l := by
  intro i h0 hi
  obtain ⟨b, o, e, h1⟩ := h i h0 hi
  exact ⟨b, o, e, hb.cell h1 (hne ⟨b, o, none⟩ e (by omega))⟩
theorem LksAt.grown {w w1 : World} {A : Option Addr} {l : List Lk} {r : Option Nat} (h : LksAt w A l) (hb : w.grownBy w1 r) (hne : Apart A l.length r) : LksAt w1 A l := by
  intro i h0 hi
  obtain ⟨b, o, e, h1, h2, h3⟩ := h i h0 hi
  have hn := hne ⟨b, o, none⟩ e (by omega)
  exact ⟨b, o, e, hb.cell h1 hn, hb.cell h2 hn, hb.cell h3 hn⟩
theorem grown_refl (w : World) (r : Option Nat) : w.grownBy w r := ⟨rfl, rfl, rfl, Nat.le_refl _, fun _ _ _ => rfl⟩
theorem grown_alloc {w0 w : World} {r : Option Nat} (h : w0.grownBy w r) (o : Obj) : w0.grownBy (w.alloc o) r :=
  ⟨h.os, h.tape, h.output, by have := h.size; simp; omega, fun k hk hne => (Below.heap_alloc w o k (Nat.lt_of_lt_of_le hk h.size)).trans (h.block k hk hne)⟩
theorem grown_drews {w0 w : World} {r : Option Nat} (h : w0.grownBy w r) (n : Nat) : w0.grownBy (w.drewN n) r := ⟨h.os, h.tape, h.output, h.size, h.block⟩
theorem grown_drew {w0 w : World} {r : Option Nat} (h : w0.grownBy w r) : w0.grownBy w.drew r := ⟨h.os, h.tape, h.output, h.size, h.block⟩
theorem RowI.drew {w : World} {g : Nat} {l : List Int} (h : RowI w g l) : RowI w.drew g l := h
theorem grown_set {w0 w : World} {r : Option Nat} (h : w0.grownBy w r) (a : Addr) (v : Value) (ha : some a.block = r ∨ w0.heap.size ≤ a.block) : w0.grownBy (w.setCell a v) r :=
  ⟨h.os, h.tape, h.output, by have := h.size; simpa [World.setCell] using this, fun k hk hne => (Below.heap_setCell w a v k (by rcases ha with ha | ha; exact fun e => hne (by rw [e, ha]); omega)).trans (h.block k hk hne)⟩
theorem grown_below {w0 w w' : World} {r : Option Nat} (h : w0.grownBy w r) (hb : Below w.heap.size w w') : w0.grownBy w' r :=
  ⟨hb.os.trans h.os, hb.tape.trans h.tape, hb.output.trans h.output, Nat.le_trans h.size hb.size, fun k hk hne => (hb.block k (Nat.lt_of_lt_of_le hk h.size)).trans (h.block k hk hne)⟩
theorem grw {w0 w : World} {r : Option Nat} (h : w0.grownBy w r := by
    repeat' (first | assumption | exact grown_refl _ _ | refine grown_alloc ?_ _ | refine grown_drews ?_ _ | refine grown_drew ?_ | (refine grown_set ?_ _ _ (by first | exact .inl rfl | (right; first | omega | (simp; omega)))))) : w0.grownBy w r := h
theorem below_of_grown {B : Nat} {w0 w w' : World} {g : Nat} (h : Below B w0 w) (hg : w.grownBy w' (some g)) (hB : B ≤ w.heap.size) (hgb : B ≤ g) : Below B w0 w' :=
  h.grown hg hB (fun k e => by cases e; exact hgb)

theorem info3 : (Tryz.prog.info? 3).map (fun i => (i.zero, i.size, i.bytes)) = some (some (.int .i64 0), 1, 8) := by kernel_rfl
theorem info39 : (Tryz.prog.info? 51).map (fun i => (i.zero, i.size, i.bytes)) = some (some (.agg #[.int .i64 0, .int .i64 0, .int .i64 0]), 3, 24) := by kernel_rfl

theorem mkInts (n : Nat) (hn : n ≤ 1000000) (W : World) : (Instr.makeSlice 38 (.int .i64 (n : Int)) (.int .i64 (n : Int))).run Tryz.prog W = .ok (.slice (some ⟨W.heap.size, 0, none⟩) n n) (W.alloc (.cells (madeCells #[.int .i64 0] n) 3)) :=
  run_make_row' 38 3 (.int .i64 0) 8 Tryz.underlying38 info3 rfl .i64 .i64 n (by omega) (by omega) W
theorem RowI_made (W : World) (n : Nat) : RowI (W.alloc (.cells (madeCells #[.int .i64 0] n) 3)) W.heap.size (List.replicate n 0) := by
  refine ⟨_, heap_alloc_new W _, ?_⟩
  rw [toList_madeCells_one]
  simp [ints]

/-- append(v, y), y one element of some cells. -/
theorem app_one {ops : Array Oper} {rest : List Oper} {o : Oper} {a : Act} {Q : Exit → Act → World → Prop} {W : World} (hgd : o.guard = none) (s x : Operand) (t e : TypeId) (z : Value) (sz bytes : Nat)
    (ho : o.op = .call { callee := .builtin .append, args := #[s, x], argTypes := #[t, t] })
    (ht : Tryz.prog.underlying t = some (.slice e)) (hinfo : (Tryz.prog.info? e).map (fun i => (i.zero, i.size, i.bytes)) = some (some z, sz, bytes)) (hz : z.cells.size = sz) (h0 : 0 < sz)
    (v : Value) (n : Nat) (xs ys : List Value) (hs : a.eval s = v) {gx : Nat} (hx : a.eval x = .slice (some ⟨gx, 0, none⟩) 1 1) (hgx : gx = W.heap.size) (hy : ys.length = sz) (h1 : ∀ u ∈ ys, u.oneCell' = true)
    (base : Nat) (HO : W.ownsRow base e sz v n xs) (hb : base ≤ W.heap.size) (hl : (n + 1) * bytes ≤ 140737488355328) (hm : n + 1 ≤ maxLen)
    (h : ∀ v1 w1, w1.ownsRow base e sz v1 (n + 1) (xs ++ ys) → W.grownBy w1 v.ownBlock → (v1.ownBlock = v.ownBlock ∨ ∃ b, v1.ownBlock = some b ∧ W.heap.size ≤ b) → wpList Tryz.prog ops Q rest (a.put o.dst v1) w1) :
    wpList Tryz.prog ops Q (o :: rest) a (W.alloc (.cells ys.toArray e)) := by
  subst hgx
  obtain ⟨i0, hi, hzz⟩ := Option.map_eq_some_iff.1 hinfo
  simp only [Prod.mk.injEq] at hzz
  obtain ⟨hz0, hz1, hz2⟩ := hzz
  refine wpList_append_own_at (W.alloc (.cells ys.toArray e)) hgd s x t ho base e i0 z sz bytes ht hi hz0 hz1 hz2 hz h0 v n xs hs (HO.alloc _) ⟨W.heap.size, 0, none⟩ 1 1 ys hx (by omega)
    (fun j u hj => ?_) h1 hm hl (by simp; omega) ?_
  · have ha : (⟨W.heap.size, 0, none⟩ : Addr).add j = ⟨W.heap.size, j, none⟩ := by unfold Addr.add; split <;> simp_all
    rw [ha, World.cell?_alloc_new]
    simpa using hj
  · intro v1 w1 hown hg _ hat
    refine h v1 w1 hown (World.grownBy.trans (World.grownBy_alloc W _ _) hg) ?_
    rcases hat with hat | hat
    · exact .inl hat
    · exact .inr ⟨_, hat, by simp⟩

/-- append(v, y...), y a slice that is read, of m elements. -/
theorem app_many {ops : Array Oper} {rest : List Oper} {o : Oper} {a : Act} {Q : Exit → Act → World → Prop} {W : World} (hgd : o.guard = none) (s x : Operand) (t e : TypeId) (z : Value) (sz bytes : Nat)
    (ho : o.op = .call { callee := .builtin .append, args := #[s, x], argTypes := #[t, t] })
    (ht : Tryz.prog.underlying t = some (.slice e)) (hinfo : (Tryz.prog.info? e).map (fun i => (i.zero, i.size, i.bytes)) = some (some z, sz, bytes)) (hz : z.cells.size = sz) (h0 : 0 < sz)
    (v : Value) (n : Nat) (xs ys : List Value) (m c : Nat) (A : Option Addr) (hs : a.eval s = v) (hx : a.eval x = .slice A m c) (hnil : A = none → m = 0 ∧ c = 0) (hy : ys.length = m * sz) (h1 : ∀ u ∈ ys, u.oneCell' = true) (hr : ∀ ad, A = some ad → ∀ j u, ys[j]? = some u → W.cell? (ad.add j) = some u)
    (base : Nat) (HO : W.ownsRow base e sz v n xs) (hb : base ≤ W.heap.size) (hl : (n + m) * bytes ≤ 140737488355328) (hm : n + m ≤ maxLen)
    (h : ∀ v1 w1, w1.ownsRow base e sz v1 (n + m) (xs ++ ys) → W.grownBy w1 v.ownBlock → (v1.ownBlock = v.ownBlock ∨ ∃ b, v1.ownBlock = some b ∧ W.heap.size ≤ b) → wpList Tryz.prog ops Q rest (a.put o.dst v1) w1) :
    wpList Tryz.prog ops Q (o :: rest) a W := by
  obtain ⟨i0, hi, hzz⟩ := Option.map_eq_some_iff.1 hinfo
  simp only [Prod.mk.injEq] at hzz
  obtain ⟨hz0, hz1, hz2⟩ := hzz
  cases A with
  | none =>
    obtain ⟨rfl, rfl⟩ := hnil rfl
    have e0 : ys = [] := List.eq_nil_of_length_eq_zero (by simpa using hy)
    subst e0
    refine wpList_plain hgd fun K hK => ?_
    unfold Oper.wp execOp
    simp only [ho, resolve, invoke, builtin, Sem.run_bind, Sem.run_pure, Result.andThen_ok, List.map_toArray, List.map_cons, List.map_nil, hs, hx, run_append_owned_none (P := Tryz.prog) W base t o.type e i0 sz ht hi v n xs HO]
    exact hK _ _ (h v W (by simpa using HO) ⟨rfl, rfl, rfl, Nat.le_refl _, fun _ _ _ => rfl⟩ (.inl rfl))
  | some ad =>
    refine wpList_append_own_at W hgd s x t ho base e i0 z sz bytes ht hi hz0 hz1 hz2 hz h0 v n xs hs HO ad m c ys hx hy (hr ad rfl) h1 hm hl hb ?_
    intro v1 w1 hown hg _ hat
    refine h v1 w1 hown hg ?_
    rcases hat with hat | hat
    · exact .inl hat
    · exact .inr ⟨_, hat, Nat.le_refl _⟩

theorem IntsAt.cells {w : World} {A : Option Addr} {l : List Int} (h : IntsAt w A l) : ∀ ad, A = some ad → ∀ j u, (ints l)[j]? = some u → w.cell? (ad.add j) = some u := by
  intro ad e j u hj
  have hlt : j < l.length := by
    have := (List.getElem?_eq_some_iff.1 hj).1
    simpa [ints] using this
  obtain ⟨b, o, e', hc⟩ := h.nat j hlt
  obtain rfl : ad = ⟨b, o, none⟩ := by rw [e] at e'; exact Option.some.inj e'
  have ha : (⟨b, o, none⟩ : Addr).add j = ⟨b, o + j, none⟩ := by unfold Addr.add; split <;> simp_all
  rw [ha, hc]
  simpa [ints, gi_get hlt] using hj
theorem gl_get {l : List Lk} {j : Nat} (h : j < l.length) : l[j]? = some (gl l j) := by simp [gl, List.getD_eq_getElem?_getD, h]
theorem lkcs_length (l : List Lk) : (lkcs l).length = l.length * 3 := by
  induction l with
  | nil => rfl
  | cons x l ih =>
    have : lkcs (x :: l) = lkc x ++ lkcs l := rfl
    rw [this, List.length_append, ih]
    simp [lkc]
    omega
theorem lkcs_get (l : List Lk) : ∀ (i j : Nat), i < l.length → j < 3 → (lkcs l)[i * 3 + j]? = (lkc (gl l i))[j]? := by
  induction l with
  | nil => intro i j h; simp at h
  | cons x l ih =>
    intro i j hi hj
    have e : lkcs (x :: l) = lkc x ++ lkcs l := rfl
    rw [e]
    cases i with
    | zero =>
      rw [List.getElem?_append_left (by simp [lkc]; omega)]
      simp [gl]
    | succ i =>
      rw [List.getElem?_append_right (by simp [lkc]; omega)]
      have : (i + 1) * 3 + j - (lkc x).length = i * 3 + j := by simp [lkc]; omega
      rw [this, ih i j (by simpa using hi) hj]
      simp [gl]
theorem lkcs_one (l : List Lk) : ∀ u ∈ lkcs l, u.oneCell' = true := by
  intro u hu
  obtain ⟨x, _, hx⟩ := List.mem_flatMap.1 hu
  simp [lkc] at hx
  rcases hx with rfl | rfl | rfl <;> rfl
theorem ints_one (l : List Int) : ∀ u ∈ ints l, u.oneCell' = true := by
  intro u hu
  simp [ints] at hu
  obtain ⟨x, _, rfl⟩ := hu
  rfl
theorem LksAt.cells {w : World} {A : Option Addr} {l : List Lk} (h : LksAt w A l) : ∀ ad, A = some ad → ∀ j u, (lkcs l)[j]? = some u → w.cell? (ad.add j) = some u := by
  intro ad e j u hj
  have hlt : j < l.length * 3 := by
    have := (List.getElem?_eq_some_iff.1 hj).1
    rwa [lkcs_length] at this
  have hi : j / 3 < l.length := by omega
  obtain ⟨b, o, e', h0, h1, h2⟩ := h.nat (j / 3) hi
  obtain rfl : ad = ⟨b, o, none⟩ := by rw [e] at e'; exact Option.some.inj e'
  have ha : (⟨b, o, none⟩ : Addr).add j = ⟨b, o + j, none⟩ := by unfold Addr.add; split <;> simp_all
  rw [ha]
  have hj' : j = j / 3 * 3 + j % 3 := by omega
  rw [hj', lkcs_get l _ _ hi (by omega)] at hj
  rcases (show j % 3 = 0 ∨ j % 3 = 1 ∨ j % 3 = 2 by omega) with e | e | e
  · rw [e] at hj; rw [show o + j = o + j / 3 * 3 by omega, h0]; simpa [lkc] using hj
  · rw [e] at hj; rw [show o + j = o + j / 3 * 3 + 1 by omega, h1]; simpa [lkc] using hj
  · rw [e] at hj; rw [show o + j = o + j / 3 * 3 + 2 by omega, h2]; simpa [lkc] using hj
theorem add_zero_at (g j : Nat) : (⟨g, 0, none⟩ : Addr).add j = ⟨g, j, none⟩ := by unfold Addr.add; split <;> simp_all
/-- What is owned can be read. -/
theorem own_slice {w : World} {base n : Nat} {e : TypeId} {size : Nat} {v : Value} {xs : List Value} (h : w.ownsRow base e size v n xs) : ∃ A c, v = .slice A n c ∧ n ≤ c ∧ (A = none → n = 0 ∧ c = 0) ∧ (∀ ad, A = some ad → v.ownBlock = some ad.block ∧ base ≤ ad.block ∧ ad.block < w.heap.size) := by
  rcases h.2 with ⟨rfl, rfl⟩ | ⟨g, cap, cur, rfl, hb, hh, hc, _⟩
  · exact ⟨none, 0, rfl, Nat.le_refl _, fun _ => ⟨rfl, rfl⟩, fun _ e => by cases e⟩
  · exact ⟨_, cap, rfl, hc, fun e => (by cases e), fun ad e => by cases e; exact ⟨rfl, hb, (Array.getElem?_eq_some_iff.1 hh).1⟩⟩
theorem own_ints {w : World} {base n : Nat} {A : Option Addr} {c m : Nat} {l : List Int} (h : w.ownsRow base 3 1 (.slice A n c) m (ints l)) : IntsAt w A l := by
  intro i h0 hi
  have hl := h.1
  rcases h.2 with ⟨e, h1⟩ | ⟨g, cap, cur, e, hb, hh, _⟩
  · have : l.length = m * 1 := by simpa only [ints, List.length_map] using hl
    omega
  · cases e
    have hc := h.cells (g := g) rfl i.toNat (.int .i64 (gi l i)) (by
      have : i.toNat < l.length := by omega
      have e : ((i.toNat : Nat) : Int) = i := by omega
      simp [ints, gi_get this, e])
    rw [add_zero_at] at hc
    exact ⟨g, 0, rfl, by simpa using hc⟩
theorem own_lks {w : World} {base n : Nat} {A : Option Addr} {c m : Nat} {l : List Lk} (h : w.ownsRow base 51 3 (.slice A n c) m (lkcs l)) : LksAt w A l := by
  intro i h0 hi
  have hl := h.1
  rw [lkcs_length] at hl
  rcases h.2 with ⟨e, h1⟩ | ⟨g, cap, cur, e, hb, hh, _⟩
  · subst h1; omega
  · cases e
    have ht : i.toNat < l.length := by omega
    have e : ((i.toNat : Nat) : Int) = i := by omega
    have hc := fun j v hj => h.cells (g := g) rfl (i.toNat * 3 + j) v hj
    refine ⟨g, 0, rfl, ?_, ?_, ?_⟩
    · have := hc 0 (.int .i64 (gl l i).a) (by rw [lkcs_get l _ _ ht (by omega), e]; rfl)
      rw [add_zero_at] at this; simpa using this
    · have := hc 1 (.int .i64 (gl l i).b) (by rw [lkcs_get l _ _ ht (by omega), e]; rfl)
      rw [add_zero_at] at this; simpa using this
    · have := hc 2 (.int .i64 (gl l i).m) (by rw [lkcs_get l _ _ ht (by omega), e]; rfl)
      rw [add_zero_at] at this; simpa using this
theorem own_rowi {w : World} {base n g : Nat} {c m : Nat} {l : List Int} (h : w.ownsRow base 3 1 (.slice (some ⟨g, 0, none⟩) n c) m (ints l)) : RowI w g l := by
  rcases h.2 with ⟨e, h1⟩ | ⟨g', cap, cur, e, hb, hh, _, _, _, ht⟩
  · cases e
  · cases e
    have hl := h.1
    simp [ints] at hl
    exact ⟨cur, hh, by rw [hl]; simpa using ht⟩

def lookI : List (Int × Value) → Int → Option Value
  | [], _ => none
  | (k', v) :: m, k => if k' == k then some v else lookI m k
def putI : List (Int × Value) → Int → Value → List (Int × Value)
  | [], k, v => [(k, v)]
  | (k', v') :: m, k, v => if k' == k then (k, v) :: m else (k', v') :: putI m k v
def delI : List (Int × Value) → Int → List (Int × Value)
  | [], _ => []
  | (k', v') :: m, k => if k' == k then m else (k', v') :: delI m k
def entries (es : List MapEntry) : List (Value × Value) := es.map fun e => (e.key, e.val)
def keyed (m : List (Int × Value)) : List (Value × Value) := m.map fun p => (.int .i64 p.1, p.2)
/-- Block b is a map that holds m, in this order. -/
def MapI (w : World) (b : Nat) (m : List (Int × Value)) : Prop := ∃ es clock, w.heap[b]? = some (.map es clock) ∧ entries es.toList = keyed m

theorem find_look (k : Int) : ∀ (es : List MapEntry) (m : List (Int × Value)) (i : Nat), entries es = keyed m →
    Instr.findNow (.int .i64) (.int .i64 k) es i = some (match lookI m k with | some v => some (i + (m.findIdx fun p => p.1 == k), v) | none => none) := by
  intro es
  induction es with
  | nil =>
    intro m i h
    cases m with
    | nil => rfl
    | cons p m => simp [entries, keyed] at h
  | cons e es ih =>
    intro m i h
    cases m with
    | nil => simp [entries, keyed] at h
    | cons p m =>
      obtain ⟨k', v⟩ := p
      simp only [entries, keyed, List.map_cons, List.cons.injEq, Prod.mk.injEq] at h
      obtain ⟨⟨hk, hv⟩, hr⟩ := h
      unfold Instr.findNow
      rw [hk]
      have hs : Instr.sameNow (.int .i64) (.int .i64 k) (.int .i64 k') = some (k == k') := by simp [Instr.sameNow]
      rw [hs]
      by_cases e : k' = k
      · subst e
        simp [lookI, hv, List.findIdx_cons]
      · have e1 : (k == k') = false := by simpa using fun h => e h.symm
        have e2 : (k' == k) = false := by simpa using e
        rw [e1]
        simp only
        rw [ih m (i + 1) hr]
        simp only [lookI, e2, Bool.false_eq_true, if_false, List.findIdx_cons, cond_false]
        cases lookI m k <;> simp; omega

section
variable {w : World} {b : Nat} {m : List (Int × Value)}
theorem u3 : Tryz.prog.underlying 3 = some (.int .i64) := Tryz.underlying3
theorem MapI.lt (h : MapI w b m) : b < w.heap.size := by
  obtain ⟨es, cl, hb, _⟩ := h
  exact (Array.getElem?_eq_some_iff.1 hb).1
theorem run_check3 (em : Bool) (k : Int) (w : World) : (Instr.checkKey em 10000 3 (.int .i64 k)).run Tryz.prog w = .ok () w := by
  exact MapKept.run_checkKey u3 (by simp [MapKept.IsKey]) em 9999
theorem run_find3 (k : Int) (es : List MapEntry) (h : entries es = keyed m) (w : World) :
    (Instr.findKey 3 (.int .i64 k) es).run Tryz.prog w = .ok (match lookI m k with | some v => some (m.findIdx fun p => p.1 == k, v) | none => none) w := by
  simp only [Instr.findKey, Sem.run_bind, run_underlying u3, Result.andThen_ok, find_look k es m 0 h]
  cases lookI m k <;> simp
/-- 'm[k]'. -/
theorem MapI.look {t e : TypeId} (h : MapI w b m) (ht : Tryz.prog.underlying t = some (.map 3 e)) {z : Value} (hz : (zeroValue e).run Tryz.prog w = .ok z w) (k : Int) :
    (Instr.lookup t (.map (some b)) (.int .i64 k) false).run Tryz.prog w = .ok ((lookI m k).getD z) w := by
  obtain ⟨es, cl, hb, he⟩ := h
  simp only [Instr.lookup, Sem.run_bind, run_underlying ht, Result.andThen_ok, MapKept.run_getObj_map hb, Sem.run_pure, run_check3, run_find3 k _ he]
  cases lookI m k <;> simp [hz]
/-- 'm[k]' with ok. -/
theorem MapI.look2 {t e : TypeId} (h : MapI w b m) (ht : Tryz.prog.underlying t = some (.map 3 e)) {z : Value} (hz : (zeroValue e).run Tryz.prog w = .ok z w) (k : Int) :
    (Instr.lookup t (.map (some b)) (.int .i64 k) true).run Tryz.prog w = .ok (.tuple #[(lookI m k).getD z, .bool (lookI m k).isSome]) w := by
  obtain ⟨es, cl, hb, he⟩ := h
  simp only [Instr.lookup, Sem.run_bind, run_underlying ht, Result.andThen_ok, MapKept.run_getObj_map hb, Sem.run_pure, run_check3, run_find3 k _ he]
  cases lookI m k <;> simp [hz]
theorem map_eraseIdx' {α β : Type} (f : α → β) : ∀ (l : List α) (i : Nat), (l.eraseIdx i).map f = (l.map f).eraseIdx i
  | [], i => by simp
  | x :: l, 0 => rfl
  | x :: l, i + 1 => by simp [map_eraseIdx' f l i]
theorem look_idx : ∀ (m : List (Int × Value)) (k : Int) (v : Value), lookI m k = some v → (m.findIdx fun p => p.1 == k) < m.length
  | [], _, _, h => by simp [lookI] at h
  | (k', v') :: m, k, v, h => by
    unfold lookI at h
    rw [List.findIdx_cons]
    by_cases e : (k' == k) = true
    · simp [e]
    · simp only [e, Bool.false_eq_true, if_false] at h
      have := look_idx m k v h
      have e2 : (k' == k) = false := by simpa using e
      simp only [e2, cond_false, List.length_cons]
      omega
theorem put_none : ∀ (m : List (Int × Value)) (k : Int) (v : Value), lookI m k = none → putI m k v = m ++ [(k, v)]
  | [], _, _, _ => rfl
  | (k', v') :: m, k, v, h => by
    unfold lookI at h
    unfold putI
    by_cases e : (k' == k) = true
    · simp [e] at h
    · simp only [e, Bool.false_eq_true, if_false] at h ⊢
      rw [put_none m k v h]; rfl
theorem keyed_put : ∀ (m : List (Int × Value)) (k : Int) (v u : Value), lookI m k = some u → keyed (putI m k v) = (keyed m).modify (m.findIdx fun p => p.1 == k) (fun _ => (.int .i64 k, v))
  | [], _, _, _, h => by simp [lookI] at h
  | (k', v') :: m, k, v, u, h => by
    unfold lookI at h
    unfold putI
    rw [List.findIdx_cons]
    by_cases e : (k' == k) = true
    · simp [e, keyed]
    · simp only [e, Bool.false_eq_true, if_false] at h ⊢
      have := keyed_put m k v u h
      simp only [keyed] at this ⊢
      simp [this]
theorem keyed_del : ∀ (m : List (Int × Value)) (k : Int) (u : Value), lookI m k = some u → keyed (delI m k) = (keyed m).eraseIdx (m.findIdx fun p => p.1 == k)
  | [], _, _, h => by simp [lookI] at h
  | (k', v') :: m, k, u, h => by
    unfold lookI at h
    unfold delI
    rw [List.findIdx_cons]
    by_cases e : (k' == k) = true
    · simp [e, keyed]
    · simp only [e, Bool.false_eq_true, if_false] at h ⊢
      have := keyed_del m k u h
      simp only [keyed] at this ⊢
      simp [this]
theorem del_none : ∀ (m : List (Int × Value)) (k : Int), lookI m k = none → delI m k = m
  | [], _, _ => rfl
  | (k', v') :: m, k, h => by
    unfold lookI at h
    unfold delI
    by_cases e : (k' == k) = true
    · simp [e] at h
    · simp only [e, Bool.false_eq_true, if_false] at h ⊢
      rw [del_none m k h]
theorem turned_grown {o : Obj} : w.grownBy { w with heap := w.heap.setIfInBounds b o } (some b) :=
  ⟨rfl, rfl, rfl, by simp, fun k _ hne => by
    have : b ≠ k := fun e => hne (by rw [e])
    simp [Array.getElem?_setIfInBounds, this]⟩
/-- 'm[k] = v'. -/
theorem MapI.put {t e : TypeId} (h : MapI w b m) (ht : Tryz.prog.underlying t = some (.map 3 e)) (k : Int) (v : Value) :
    ∃ w', (Instr.mapUpdate t (.map (some b)) (.int .i64 k) v).run Tryz.prog w = .ok () w' ∧ MapI w' b (putI m k v) ∧ w.grownBy w' (some b) := by
  have hlt := h.lt
  obtain ⟨es, cl, hb, he⟩ := h
  cases hl : lookI m k with
  | none =>
    refine ⟨{ w with heap := w.heap.setIfInBounds b (.map (es.push { key := .int .i64 k, val := v, born := cl }) (cl + 1)) }, ?_, ⟨_, _, by simp [hlt]; exact ⟨rfl, rfl⟩, ?_⟩, turned_grown⟩
    · simp only [Instr.mapUpdate, Sem.run_bind, run_underlying ht, Result.andThen_ok, MapKept.run_getObj_map hb, Sem.run_pure, run_check3, run_find3 k _ he, hl, MapKept.run_setObj_map _ hb]
    · rw [put_none m k v hl]
      simp only [entries, keyed] at he ⊢
      simp [he]
  | some u =>
    refine ⟨{ w with heap := w.heap.setIfInBounds b (.map (es.modify (m.findIdx fun p => p.1 == k) fun e => { e with key := .int .i64 k, val := v }) cl) }, ?_, ⟨_, _, by simp [hlt]; exact ⟨rfl, rfl⟩, ?_⟩, turned_grown⟩
    · have hi := look_idx m k u hl
      have hkey : ((es[m.findIdx fun p => p.1 == k]?).map (·.key)).getD (.int .i64 k) = .int .i64 k := by
        have h1 : (entries es.toList)[m.findIdx fun p => p.1 == k]? = (keyed m)[m.findIdx fun p => p.1 == k]? := by rw [he]
        have h2 : ((m[m.findIdx fun p => p.1 == k]'hi).1 == k) = true := List.findIdx_getElem (p := fun p : Int × Value => p.1 == k) (w := hi)
        simp only [entries, keyed, List.getElem?_map, List.getElem?_eq_getElem hi, Option.map_some] at h1
        cases hq : es.toList[m.findIdx fun p => p.1 == k]? with
        | none => rw [hq] at h1; simp at h1
        | some y =>
          rw [hq] at h1
          simp only [Option.map_some, Option.some.injEq, Prod.mk.injEq] at h1
          have h3 : es[m.findIdx fun p => p.1 == k]? = some y := by simpa using hq
          rw [h3]
          simp only [Option.map_some, Option.getD_some, h1.1]
          rw [beq_iff_eq.1 h2]
      simp only [Instr.mapUpdate, Sem.run_bind, run_underlying ht, Result.andThen_ok, MapKept.run_getObj_map hb, Sem.run_pure, run_check3, run_find3 k _ he, hl, MapKept.run_setObj_map _ hb, hkey, MapKept.run_keyThatStays (d := .int .i64) (k := .int .i64 k) (by simp [MapKept.IsKey])]
    · rw [keyed_put m k v u hl, ← he]
      simp only [entries]
      apply List.ext_getElem?
      intro i
      simp only [Array.toList_modify, List.getElem?_map, List.getElem?_modify]
      cases es.toList[i]? <;> simp
      split <;> rfl
/-- 'delete(m, k)'. -/
theorem MapI.del {t e : TypeId} (h : MapI w b m) (ht : Tryz.prog.underlying t = some (.map 3 e)) (k : Int) (ty : TypeId) :
    ∃ w', (Builtin.delete_ #[t, 3] ty #[.map (some b), .int .i64 k]).run Tryz.prog w = .ok (.tuple #[]) w' ∧ MapI w' b (delI m k) ∧ w.grownBy w' (some b) := by
  have hlt := h.lt
  obtain ⟨es, cl, hb, he⟩ := h
  cases hl : lookI m k with
  | none =>
    refine ⟨{ w with heap := w.heap.setIfInBounds b (.map es cl) }, ?_, ⟨_, _, by simp [hlt]; exact ⟨rfl, rfl⟩, ?_⟩, turned_grown⟩
    · simp [Builtin.delete_, run_underlying ht, MapKept.run_getObj_map hb, run_check3, run_find3 k _ he, hl, MapKept.run_setObj_map _ hb, Result.andThen]
    · rw [del_none m k hl]; exact he
  | some u =>
    refine ⟨{ w with heap := w.heap.setIfInBounds b (.map (es.eraseIdxIfInBounds (m.findIdx fun p => p.1 == k)) cl) }, ?_, ⟨_, _, by simp [hlt]; exact ⟨rfl, rfl⟩, ?_⟩, turned_grown⟩
    · simp [Builtin.delete_, run_underlying ht, MapKept.run_getObj_map hb, run_check3, run_find3 k _ he, hl, MapKept.run_setObj_map _ hb, Result.andThen]
    · rw [keyed_del m k u hl, ← he]
      have hlen : (entries es.toList).length = (keyed m).length := by rw [he]
      have hi := look_idx m k u hl
      simp only [entries, keyed, List.length_map, Array.length_toList] at hlen
      simp only [entries, Array.eraseIdxIfInBounds]
      rw [dif_pos (by omega)]
      simp [map_eraseIdx']
theorem MapI.same {w' : World} (h : MapI w b m) (hs : w'.heap[b]? = w.heap[b]?) : MapI w' b m := by
  obtain ⟨es, cl, hb, he⟩ := h
  exact ⟨es, cl, hs.trans hb, he⟩
theorem MapI.alloc (h : MapI w b m) (o : Obj) : MapI (w.alloc o) b m := h.same (Below.heap_alloc w o b h.lt)
theorem MapI.drews (h : MapI w b m) (n : Nat) : MapI (w.drewN n) b m := h
theorem MapI.drew (h : MapI w b m) : MapI w.drew b m := h
theorem MapI.below {w' : World} (h : MapI w b m) (hb : Below w.heap.size w w') : MapI w' b m := h.same (hb.block b h.lt)
theorem MapI.grown {w' : World} {r : Option Nat} (h : MapI w b m) (hg : w.grownBy w' r) (hne : some b ≠ r) : MapI w' b m := h.same (hg.block b h.lt hne)
theorem MapI.other (h : MapI w b m) (a : Addr) (v : Value) (hne : b ≠ a.block) : MapI (w.setCell a v) b m := h.same (Below.heap_setCell w a v b hne)
theorem MapI.made (w : World) : MapI (w.alloc (.map #[] 0)) w.heap.size [] := ⟨#[], 0, heap_alloc_new w _, rfl⟩
variable {ops : Array Oper} {rest : List Oper} {o : Oper} {a : Act} {Q : Exit → Act → World → Prop}
theorem map_store (hg : o.guard = none) (x y z : Operand) (t e : TypeId) (hop : o.op = .mapUpdate t x y z ∨ o.op = .insert t x y z) (ht : Tryz.prog.underlying t = some (.map 3 e))
    (k : Int) (v : Value) (hx : a.eval x = .map (some b)) (hy : a.eval y = .int .i64 k) (hz : a.eval z = v) (h : MapI w b m)
    (hK : ∀ w', MapI w' b (putI m k v) → w.grownBy w' (some b) → wpList Tryz.prog ops Q rest (a.put o.dst undef) w') : wpList Tryz.prog ops Q (o :: rest) a w := by
  refine wpList_plain hg fun K' hK' => ?_
  obtain ⟨w', hrun, r1, r2⟩ := h.put ht k v
  unfold Oper.wp
  rcases hop with hop | hop <;>
    (simp [execOp, hop, hx, hy, hz, hrun, Result.andThen]; exact hK' _ _ (hK w' r1 r2))
theorem map_delete (hg : o.guard = none) (x y : Operand) (t e : TypeId) (hop : o.op = Op.call { callee := Callee.builtin Builtin.delete, args := #[x, y], argTypes := #[t, 3] }) (ht : Tryz.prog.underlying t = some (.map 3 e))
    (k : Int) (hx : a.eval x = .map (some b)) (hy : a.eval y = .int .i64 k) (h : MapI w b m)
    (hK : ∀ w', MapI w' b (delI m k) → w.grownBy w' (some b) → wpList Tryz.prog ops Q rest (a.put o.dst (.tuple #[])) w') : wpList Tryz.prog ops Q (o :: rest) a w := by
  refine wpList_plain hg fun K' hK' => ?_
  obtain ⟨w', hrun, r1, r2⟩ := h.del ht k o.type
  unfold Oper.wp
  simp [execOp, hop, resolve, invoke, builtin, hx, hy, hrun, Result.andThen]
  exact hK' _ _ (hK w' r1 r2)
end

/-! Sets: map[int]bool in which every entry is true. -/
def setI (s : List Int) : List (Int × Value) := s.map fun k => (k, .bool true)
def putS (s : List Int) (k : Int) : List Int := if s.contains k then s else s ++ [k]
theorem look_set (s : List Int) (k : Int) : (lookI (setI s) k).getD (.bool false) = .bool (s.contains k) := by
  induction s with
  | nil => rfl
  | cons x s ih =>
    simp only [setI, List.map_cons, lookI] at ih ⊢
    by_cases e : x = k
    · subst e; simp
    · have e1 : (x == k) = false := by simpa using e
      have e2 : (k == x) = false := by simpa using fun h => e h.symm
      simp only [e1, Bool.false_eq_true, if_false, ih, List.contains_cons, e2, Bool.false_or]
theorem put_set (s : List Int) (k : Int) : putI (setI s) k (.bool true) = setI (putS s k) := by
  induction s with
  | nil => rfl
  | cons x s ih =>
    simp only [setI, List.map_cons, putI] at ih ⊢
    by_cases e : x = k
    · subst e; simp [putS]
    · have e1 : (x == k) = false := by simpa using e
      have e2 : (k == x) = false := by simpa using fun h => e h.symm
      simp only [e1, Bool.false_eq_true, if_false, ih]
      simp only [putS, List.contains_cons, e2, Bool.false_or]
      split <;> simp
theorem del_set (s : List Int) (k : Int) : delI (setI s) k = setI (s.erase k) := by
  induction s with
  | nil => rfl
  | cons x s ih =>
    simp only [setI, List.map_cons, delI] at ih ⊢
    by_cases e : x = k
    · subst e; simp
    · have e1 : (x == k) = false := by simpa using e
      simp only [e1, Bool.false_eq_true, if_false, ih, List.erase_cons]
      simp

/-- w' is w but for new blocks and for the blocks of S. -/
structure Fr (w w' : World) (S : Nat → Prop) : Prop where
  os : w'.os = w.os
  tape : w'.tape = w.tape
  output : w'.output = w.output
  size : w.heap.size ≤ w'.heap.size
  block : ∀ k, k < w.heap.size → ¬ S k → w'.heap[k]? = w.heap[k]?
theorem Fr.refl (w : World) (S : Nat → Prop) : Fr w w S := ⟨rfl, rfl, rfl, Nat.le_refl _, fun _ _ _ => rfl⟩
theorem Fr.trans {a b c : World} {S T : Nat → Prop} (h : Fr a b S) (k : Fr b c T) (hT : ∀ i, T i → S i ∨ a.heap.size ≤ i) : Fr a c S :=
  ⟨k.os.trans h.os, k.tape.trans h.tape, k.output.trans h.output, Nat.le_trans h.size k.size, fun i hi hn =>
    (k.block i (Nat.lt_of_lt_of_le hi h.size) (fun ht => by rcases hT i ht with h' | h'; exact hn h'; omega)).trans (h.block i hi hn)⟩
theorem Fr.mono {a b : World} {S T : Nat → Prop} (h : Fr a b S) (hT : ∀ i, S i → T i) : Fr a b T := ⟨h.os, h.tape, h.output, h.size, fun k hk hn => h.block k hk (fun hs => hn (hT k hs))⟩
theorem Fr.below {a b c : World} {S : Nat → Prop} (h : Fr a b S) (k : Below b.heap.size b c) : Fr a c S :=
  ⟨k.os.trans h.os, k.tape.trans h.tape, k.output.trans h.output, Nat.le_trans h.size k.size, fun i hi hn => (k.block i (Nat.lt_of_lt_of_le hi h.size)).trans (h.block i hi hn)⟩
theorem Fr.grown {a b c : World} {S : Nat → Prop} {r : Option Nat} (h : Fr a b S) (k : b.grownBy c r) (hT : ∀ i, r = some i → S i ∨ a.heap.size ≤ i) : Fr a c S :=
  ⟨k.os.trans h.os, k.tape.trans h.tape, k.output.trans h.output, Nat.le_trans h.size k.size, fun i hi hn =>
    (k.block i (Nat.lt_of_lt_of_le hi h.size) (fun e => by rcases hT i e.symm with h' | h'; exact hn h'; omega)).trans (h.block i hi hn)⟩
theorem Fr.alloc {a b : World} {S : Nat → Prop} (h : Fr a b S) (o : Obj) : Fr a (b.alloc o) S := h.below (Below.alloc (Below.refl _ _) (Nat.le_refl _) _)
theorem Fr.drews {a b : World} {S : Nat → Prop} (h : Fr a b S) (n : Nat) : Fr a (b.drewN n) S := ⟨h.os, h.tape, h.output, h.size, h.block⟩
theorem Fr.drew {a b : World} {S : Nat → Prop} (h : Fr a b S) : Fr a b.drew S := ⟨h.os, h.tape, h.output, h.size, h.block⟩
theorem Fr.set {a b : World} {S : Nat → Prop} (h : Fr a b S) (p : Addr) (v : Value) (hp : S p.block ∨ a.heap.size ≤ p.block) : Fr a (b.setCell p v) S :=
  ⟨h.os, h.tape, h.output, by have := h.size; simpa [World.setCell] using this, fun k hk hn => (Below.heap_setCell b p v k (by rcases hp with hp | hp; exact fun e => hn (by rw [e]; exact hp); omega)).trans (h.block k hk hn)⟩
theorem Fr.toBelow {w0 a b : World} {B : Nat} {S : Nat → Prop} (h : Fr a b S) (hb : Below B w0 a) (hB : B ≤ a.heap.size) (hS : ∀ i, S i → B ≤ i) : Below B w0 b :=
  ⟨h.os.trans hb.os, h.tape.trans hb.tape, h.output.trans hb.output, Nat.le_trans hb.size h.size, fun k hk => (h.block k (Nat.lt_of_lt_of_le hk hB) (fun hs => by have := hS k hs; omega)).trans (hb.block k hk)⟩
theorem Fr.cell {a b : World} {S : Nat → Prop} (h : Fr a b S) {p : Addr} {v : Value} (hc : a.cell? p = some v) (hn : ¬ S p.block) : b.cell? p = some v :=
  (World.cell?_of_block (h.block p.block (World.block_lt_of_cell? a p hc) hn)).trans hc

theorem below_undrew {B : Nat} {w w' : World} (h : Below B w.drew w') : Below B w w' := ⟨h.os, h.tape, h.output, h.size, h.block⟩
theorem news_new (W : World) (cs : List Value) (e g : Nat) (hg : g = W.heap.size) : ∀ j u, cs[j]? = some u → (W.alloc (.cells cs.toArray e)).cell? ((⟨g, 0, none⟩ : Addr).add j) = some u := by
  intro j u hj
  subst hg
  rw [add_zero_at, World.cell?_alloc_new]
  simpa using hj
structure Wy where
  node : Int
  far : Int
  link : Int
  back : Bool
deriving Inhabited, DecidableEq
def wyc (x : Wy) : List Value := [.int .i64 x.node, .int .i64 x.far, .int .i64 x.link, .bool x.back]
def wyv (x : Wy) : Value := .agg #[.int .i64 x.node, .int .i64 x.far, .int .i64 x.link, .bool x.back]
def wycs (l : List Wy) : List Value := l.flatMap wyc
def gw (l : List Wy) (i : Nat) : Wy := l.getD i default
theorem gw_get {l : List Wy} {j : Nat} (h : j < l.length) : l[j]? = some (gw l j) := by simp [gw, List.getD_eq_getElem?_getD, h]
theorem wycs_length (l : List Wy) : (wycs l).length = l.length * 4 := by
  induction l with
  | nil => rfl
  | cons x l ih =>
    have : wycs (x :: l) = wyc x ++ wycs l := rfl
    rw [this, List.length_append, ih]
    simp [wyc]; omega
theorem wycs_get (l : List Wy) : ∀ (i j : Nat), i < l.length → j < 4 → (wycs l)[i * 4 + j]? = (wyc (gw l i))[j]? := by
  induction l with
  | nil => intro i j h; simp at h
  | cons x l ih =>
    intro i j hi hj
    have e : wycs (x :: l) = wyc x ++ wycs l := rfl
    rw [e]
    cases i with
    | zero =>
      rw [List.getElem?_append_left (by simp [wyc]; omega)]
      simp [gw]
    | succ i =>
      rw [List.getElem?_append_right (by simp [wyc]; omega)]
      have : (i + 1) * 4 + j - (wyc x).length = i * 4 + j := by simp [wyc]; omega
      rw [this, ih i j (by simpa using hi) hj]
      simp [gw]
theorem wycs_set (l : List Wy) : ∀ (i : Nat) (x : Wy), i < l.length → wycs (l.set i x) = ((((wycs l).set (i * 4) (.int .i64 x.node)).set (i * 4 + 1) (.int .i64 x.far)).set (i * 4 + 2) (.int .i64 x.link)).set (i * 4 + 3) (.bool x.back) := by
  induction l with
  | nil => intro i x h; simp at h
  | cons y l ih =>
    intro i x hi
    cases i with
    | zero => rfl
    | succ i =>
      have e : wycs ((y :: l).set (i + 1) x) = wyc y ++ wycs (l.set i x) := rfl
      have e2 : wycs (y :: l) = wyc y ++ wycs l := rfl
      rw [e, e2, ih i x (by simpa using hi)]
      have h4 : (wyc y).length = 4 := rfl
      simp only [show (i + 1) * 4 = 4 + i * 4 by omega, show 4 + i * 4 + 1 = 4 + (i * 4 + 1) by omega, show 4 + i * 4 + 2 = 4 + (i * 4 + 2) by omega, show 4 + i * 4 + 3 = 4 + (i * 4 + 3) by omega]
      rw [← h4]
      simp only [List.set_append_right _ _ (Nat.le_add_right _ _), Nat.add_sub_cancel_left]
theorem wycs_one (l : List Wy) : ∀ u ∈ wycs l, u.oneCell' = true := by
  intro u hu
  obtain ⟨x, _, hx⟩ := List.mem_flatMap.1 hu
  simp [wyc] at hx
  rcases hx with rfl | rfl | rfl | rfl <;> rfl
theorem wyc_one (x : Wy) : ∀ u ∈ wyc x, u.oneCell' = true := by intro u hu; simp [wyc] at hu; rcases hu with rfl | rfl | rfl | rfl <;> rfl
theorem info122 : (Tryz.prog.info? 128).map (fun i => (i.zero, i.size, i.bytes)) = some (some (wyv ⟨0, 0, 0, false⟩), 4, 32) := by kernel_rfl

/-- Block g is a row of ways that begins with l. -/
def RowW (w : World) (g : Nat) (l : List Wy) : Prop := ∃ cur : Array Value, w.heap[g]? = some (.cells cur 128 (0, 0)) ∧ cur.toList.take (l.length * 4) = wycs l
theorem RowW.lt {w : World} {g : Nat} {l : List Wy} (h : RowW w g l) : g < w.heap.size := by
  obtain ⟨cur, h1, _⟩ := h
  exact (Array.getElem?_eq_some_iff.1 h1).1
theorem RowW.same {w w' : World} {g : Nat} {l : List Wy} (h : RowW w g l) (hs : w'.heap[g]? = w.heap[g]?) : RowW w' g l := by
  obtain ⟨cur, h1, h2⟩ := h
  exact ⟨cur, hs.trans h1, h2⟩
theorem RowW.at {w : World} {g : Nat} {l : List Wy} (h : RowW w g l) (i j : Nat) (hi : i < l.length) (hj : j < 4) : w.cell? ⟨g, i * 4 + j, none⟩ = (wyc (gw l i))[j]? := by
  obtain ⟨cur, h1, h2⟩ := h
  have e : (cur.toList.take (l.length * 4))[i * 4 + j]? = (wycs l)[i * 4 + j]? := by rw [h2]
  rw [wycs_get l i j hi hj, List.getElem?_take, if_pos (by omega)] at e
  simp only [World.cell?, h1]
  simpa using e
theorem RowW.cells {w : World} {g : Nat} {l : List Wy} (h : RowW w g l) (i : Nat) (hi : i < l.length) : w.cell? ⟨g, i * 4, none⟩ = some (.int .i64 (gw l i).node) ∧ w.cell? ⟨g, i * 4 + 1, none⟩ = some (.int .i64 (gw l i).far) ∧ w.cell? ⟨g, i * 4 + 2, none⟩ = some (.int .i64 (gw l i).link) ∧ w.cell? ⟨g, i * 4 + 3, none⟩ = some (.bool (gw l i).back) :=
  ⟨h.at i 0 hi (by omega), h.at i 1 hi (by omega), h.at i 2 hi (by omega), h.at i 3 hi (by omega)⟩
theorem RowW.frozen {w : World} {g : Nat} {l : List Wy} (h : RowW w g l) (j : Nat) : w.frozen? ⟨g, j, none⟩ = false := by
  obtain ⟨cur, h1, _⟩ := h
  simp [World.frozen?, h1]
theorem RowW.set {w : World} {g : Nat} {l : List Wy} (h : RowW w g l) (i : Nat) (hi : i < l.length) (x : Wy) :
    RowW ((((w.setCell ⟨g, i * 4, none⟩ (.int .i64 x.node)).setCell ⟨g, i * 4 + 1, none⟩ (.int .i64 x.far)).setCell ⟨g, i * 4 + 2, none⟩ (.int .i64 x.link)).setCell ⟨g, i * 4 + 3, none⟩ (.bool x.back)) g (l.set i x) := by
  obtain ⟨cur, h1, h2⟩ := h
  refine ⟨(((cur.setIfInBounds (i * 4) (.int .i64 x.node)).setIfInBounds (i * 4 + 1) (.int .i64 x.far)).setIfInBounds (i * 4 + 2) (.int .i64 x.link)).setIfInBounds (i * 4 + 3) (.bool x.back), ?_, ?_⟩
  · simp [World.setCell, Array.getElem?_modify, h1]
  · rw [List.length_set]
    simp only [Array.toList_setIfInBounds, List.take_set, h2]
    rw [wycs_set l i x hi]
theorem own_roww {w : World} {base n g : Nat} {c m : Nat} {l : List Wy} (h : w.ownsRow base 128 4 (.slice (some ⟨g, 0, none⟩) n c) m (wycs l)) : RowW w g l := by
  rcases h.2 with ⟨e, h1⟩ | ⟨g', cap, cur, e, hb, hh, _, _, _, ht⟩
  · cases e
  · cases e
    have hl := h.1
    rw [wycs_length] at hl
    exact ⟨cur, hh, by rw [show l.length = n by omega]; exact ht⟩
end Go.Proofs.YtmhiiomejopaoaaGreatDoor
