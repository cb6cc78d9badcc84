/- Rows of ways; the heap; what a call may turn. -/
import Derived.Test.YtmhiiomejopaoaaB3
import Derived.Deep.RegionLaw
import Derived.Deep.DeepCutAuto
import Derived.Deep.CutBlock
import Derived.StillTailTactics
import Derived.Deep.AppendLies
import Derived.BigRegion
import Derived.Deep.RegionWith
namespace Go.Proofs.Ytmhiiomejopaoaa
set_option linter.all false
open Go.RowKit

/-- w' is w but for new blocks and for the blocks of S. -/
structure Fr (w w' : World) (S : Nat → Prop) : Prop where
  os : w'.os = w.os
  tape : w'.tape = w.tape
  output : w'.output = w.output
  size : w.heap.size ≤ w'.heap.size
  block : ∀ k, k < w.heap.size → ¬ S k → w'.heap[k]? = w.heap[k]?
theorem Fr.refl (w : World) (S : Nat → Prop) : Fr w w S := ⟨rfl, rfl, rfl, Nat.le_refl _, fun _ _ _ => rfl⟩
theorem Fr.trans {a b c : World} {S T : Nat → Prop} (h : Fr a b S) (k : Fr b c T) (hT : ∀ i, T i → S i ∨ a.heap.size ≤ i) : Fr a c S :=
  ⟨k.os.trans h.os, k.tape.trans h.tape, k.output.trans h.output, Nat.le_trans h.size k.size, fun i hi hn =>
    (k.block i (Nat.lt_of_lt_of_le hi h.size) (fun ht => by rcases hT i ht with h' | h'; exact hn h'; omega)).trans (h.block i hi hn)⟩
theorem Fr.mono {a b : World} {S T : Nat → Prop} (h : Fr a b S) (hT : ∀ i, S i → T i) : Fr a b T := ⟨h.os, h.tape, h.output, h.size, fun k hk hn => h.block k hk (fun hs => hn (hT k hs))⟩
theorem Fr.below {a b c : World} {S : Nat → Prop} (h : Fr a b S) (k : Below b.heap.size b c) : Fr a c S :=
  ⟨k.os.trans h.os, k.tape.trans h.tape, k.output.trans h.output, Nat.le_trans h.size k.size, fun i hi hn => (k.block i (Nat.lt_of_lt_of_le hi h.size)).trans (h.block i hi hn)⟩
theorem Fr.grown {a b c : World} {S : Nat → Prop} {r : Option Nat} (h : Fr a b S) (k : b.grownBy c r) (hT : ∀ i, r = some i → S i ∨ a.heap.size ≤ i) : Fr a c S :=
  ⟨k.os.trans h.os, k.tape.trans h.tape, k.output.trans h.output, Nat.le_trans h.size k.size, fun i hi hn =>
    (k.block i (Nat.lt_of_lt_of_le hi h.size) (fun e => by rcases hT i e.symm with h' | h'; exact hn h'; omega)).trans (h.block i hi hn)⟩
theorem Fr.alloc {a b : World} {S : Nat → Prop} (h : Fr a b S) (o : Obj) : Fr a (b.alloc o) S := h.below (Below.alloc (Below.refl _ _) (Nat.le_refl _) _)
theorem Fr.drews {a b : World} {S : Nat → Prop} (h : Fr a b S) (n : Nat) : Fr a (b.drewN n) S := ⟨h.os, h.tape, h.output, h.size, h.block⟩
theorem Fr.drew {a b : World} {S : Nat → Prop} (h : Fr a b S) : Fr a b.drew S := ⟨h.os, h.tape, h.output, h.size, h.block⟩
theorem Fr.set {a b : World} {S : Nat → Prop} (h : Fr a b S) (p : Addr) (v : Value) (hp : S p.block ∨ a.heap.size ≤ p.block) : Fr a (b.setCell p v) S :=
  ⟨h.os, h.tape, h.output, by have := h.size; simpa [World.setCell] using this, fun k hk hn => (Below.heap_setCell b p v k (by rcases hp with hp | hp; exact fun e => hn (by rw [e]; exact hp); omega)).trans (h.block k hk hn)⟩
theorem Fr.toBelow {w0 a b : World} {B : Nat} {S : Nat → Prop} (h : Fr a b S) (hb : Below B w0 a) (hB : B ≤ a.heap.size) (hS : ∀ i, S i → B ≤ i) : Below B w0 b :=
  ⟨h.os.trans hb.os, h.tape.trans hb.tape, h.output.trans hb.output, Nat.le_trans hb.size h.size, fun k hk => (h.block k (Nat.lt_of_lt_of_le hk hB) (fun hs => by have := hS k hs; omega)).trans (hb.block k hk)⟩
theorem Fr.cell {a b : World} {S : Nat → Prop} (h : Fr a b S) {p : Addr} {v : Value} (hc : a.cell? p = some v) (hn : ¬ S p.block) : b.cell? p = some v :=
  (World.cell?_of_block (h.block p.block (World.block_lt_of_cell? a p hc) hn)).trans hc

theorem below_undrew {B : Nat} {w w' : World} (h : Below B w.drew w') : Below B w w' := ⟨h.os, h.tape, h.output, h.size, h.block⟩
theorem news_new (W : World) (cs : List Value) (e g : Nat) (hg : g = W.heap.size) : ∀ j u, cs[j]? = some u → (W.alloc (.cells cs.toArray e)).cell? ((⟨g, 0, none⟩ : Addr).add j) = some u := by
  intro j u hj
  subst hg
  rw [add_zero_at, World.cell?_alloc_new]
  simpa using hj
structure Wy where
  node : Int
  far : Int
  link : Int
  back : Bool
deriving Inhabited, DecidableEq
def wyc (x : Wy) : List Value := [.int .i64 x.node, .int .i64 x.far, .int .i64 x.link, .bool x.back]
def wyv (x : Wy) : Value := .agg #[.int .i64 x.node, .int .i64 x.far, .int .i64 x.link, .bool x.back]
def wycs (l : List Wy) : List Value := l.flatMap wyc
def gw (l : List Wy) (i : Nat) : Wy := l.getD i default
theorem gw_get {l : List Wy} {j : Nat} (h : j < l.length) : l[j]? = some (gw l j) := by simp [gw, List.getD_eq_getElem?_getD, h]
theorem wycs_length (l : List Wy) : (wycs l).length = l.length * 4 := by
  induction l with
  | nil => rfl
  | cons x l ih =>
    have : wycs (x :: l) = wyc x ++ wycs l := rfl
    rw [this, List.length_append, ih]
    simp [wyc]; omega
theorem wycs_get (l : List Wy) : ∀ (i j : Nat), i < l.length → j < 4 → (wycs l)[i * 4 + j]? = (wyc (gw l i))[j]? := by
  induction l with
  | nil => intro i j h; simp at h
  | cons x l ih =>
    intro i j hi hj
    have e : wycs (x :: l) = wyc x ++ wycs l := rfl
    rw [e]
    cases i with
    | zero =>
      rw [List.getElem?_append_left (by simp [wyc]; omega)]
      simp [gw]
    | succ i =>
      rw [List.getElem?_append_right (by simp [wyc]; omega)]
      have : (i + 1) * 4 + j - (wyc x).length = i * 4 + j := by simp [wyc]; omega
      rw [this, ih i j (by simpa using hi) hj]
      simp [gw]
theorem wycs_set (l : List Wy) : ∀ (i : Nat) (x : Wy), i < l.length → wycs (l.set i x) = ((((wycs l).set (i * 4) (.int .i64 x.node)).set (i * 4 + 1) (.int .i64 x.far)).set (i * 4 + 2) (.int .i64 x.link)).set (i * 4 + 3) (.bool x.back) := by
  induction l with
  | nil => intro i x h; simp at h
  | cons y l ih =>
    intro i x hi
    cases i with
    | zero => rfl
    | succ i =>
      have e : wycs ((y :: l).set (i + 1) x) = wyc y ++ wycs (l.set i x) := rfl
      have e2 : wycs (y :: l) = wyc y ++ wycs l := rfl
      rw [e, e2, ih i x (by simpa using hi)]
      have h4 : (wyc y).length = 4 := rfl
      simp only [show (i + 1) * 4 = 4 + i * 4 by omega, show 4 + i * 4 + 1 = 4 + (i * 4 + 1) by omega, show 4 + i * 4 + 2 = 4 + (i * 4 + 2) by omega, show 4 + i * 4 + 3 = 4 + (i * 4 + 3) by omega]
      rw [← h4]
      simp only [List.set_append_right _ _ (Nat.le_add_right _ _), Nat.add_sub_cancel_left]
theorem wycs_one (l : List Wy) : ∀ u ∈ wycs l, u.oneCell' = true := by
  intro u hu
  obtain ⟨x, _, hx⟩ := List.mem_flatMap.1 hu
  simp [wyc] at hx
  rcases hx with rfl | rfl | rfl | rfl <;> rfl
theorem wyc_one (x : Wy) : ∀ u ∈ wyc x, u.oneCell' = true := by intro u hu; simp [wyc] at hu; rcases hu with rfl | rfl | rfl | rfl <;> rfl
theorem info122 : (Try.prog.info? 122).map (fun i => (i.zero, i.size, i.bytes)) = some (some (wyv ⟨0, 0, 0, false⟩), 4, 32) := by kernel_rfl

/-- Block g is a row of ways that begins with l. -/
def RowW (w : World) (g : Nat) (l : List Wy) : Prop := ∃ cur : Array Value, w.heap[g]? = some (.cells cur 122 (0, 0)) ∧ cur.toList.take (l.length * 4) = wycs l
theorem RowW.lt {w : World} {g : Nat} {l : List Wy} (h : RowW w g l) : g < w.heap.size := by
  obtain ⟨cur, h1, _⟩ := h
  exact (Array.getElem?_eq_some_iff.1 h1).1
theorem RowW.same {w w' : World} {g : Nat} {l : List Wy} (h : RowW w g l) (hs : w'.heap[g]? = w.heap[g]?) : RowW w' g l := by
  obtain ⟨cur, h1, h2⟩ := h
  exact ⟨cur, hs.trans h1, h2⟩
theorem RowW.at {w : World} {g : Nat} {l : List Wy} (h : RowW w g l) (i j : Nat) (hi : i < l.length) (hj : j < 4) : w.cell? ⟨g, i * 4 + j, none⟩ = (wyc (gw l i))[j]? := by
  obtain ⟨cur, h1, h2⟩ := h
  have e : (cur.toList.take (l.length * 4))[i * 4 + j]? = (wycs l)[i * 4 + j]? := by rw [h2]
  rw [wycs_get l i j hi hj, List.getElem?_take, if_pos (by omega)] at e
  simp only [World.cell?, h1]
  simpa using e
theorem RowW.cells {w : World} {g : Nat} {l : List Wy} (h : RowW w g l) (i : Nat) (hi : i < l.length) : w.cell? ⟨g, i * 4, none⟩ = some (.int .i64 (gw l i).node) ∧ w.cell? ⟨g, i * 4 + 1, none⟩ = some (.int .i64 (gw l i).far) ∧ w.cell? ⟨g, i * 4 + 2, none⟩ = some (.int .i64 (gw l i).link) ∧ w.cell? ⟨g, i * 4 + 3, none⟩ = some (.bool (gw l i).back) :=
  ⟨h.at i 0 hi (by omega), h.at i 1 hi (by omega), h.at i 2 hi (by omega), h.at i 3 hi (by omega)⟩
theorem RowW.frozen {w : World} {g : Nat} {l : List Wy} (h : RowW w g l) (j : Nat) : w.frozen? ⟨g, j, none⟩ = false := by
  obtain ⟨cur, h1, _⟩ := h
  simp [World.frozen?, h1]
theorem RowW.set {w : World} {g : Nat} {l : List Wy} (h : RowW w g l) (i : Nat) (hi : i < l.length) (x : Wy) :
    RowW ((((w.setCell ⟨g, i * 4, none⟩ (.int .i64 x.node)).setCell ⟨g, i * 4 + 1, none⟩ (.int .i64 x.far)).setCell ⟨g, i * 4 + 2, none⟩ (.int .i64 x.link)).setCell ⟨g, i * 4 + 3, none⟩ (.bool x.back)) g (l.set i x) := by
  obtain ⟨cur, h1, h2⟩ := h
  refine ⟨(((cur.setIfInBounds (i * 4) (.int .i64 x.node)).setIfInBounds (i * 4 + 1) (.int .i64 x.far)).setIfInBounds (i * 4 + 2) (.int .i64 x.link)).setIfInBounds (i * 4 + 3) (.bool x.back), ?_, ?_⟩
  · simp [World.setCell, Array.getElem?_modify, h1]
  · rw [List.length_set]
    simp only [Array.toList_setIfInBounds, List.take_set, h2]
    rw [wycs_set l i x hi]
theorem own_roww {w : World} {base n g : Nat} {c m : Nat} {l : List Wy} (h : w.ownsRow base 122 4 (.slice (some ⟨g, 0, none⟩) n c) m (wycs l)) : RowW w g l := by
  rcases h.2 with ⟨e, h1⟩ | ⟨g', cap, cur, e, hb, hh, _, _, _, ht⟩
  · cases e
  · cases e
    have hl := h.1
    rw [wycs_length] at hl
    exact ⟨cur, hh, by rw [show l.length = n by omega]; exact ht⟩
end Go.Proofs.Ytmhiiomejopaoaa
