/- Rows of spans: read, made, cloned, appended to. -/
import Derived.Test.YteoembjghmgbhaaGreatDoorB8
import Derived.Deep.OwnRows
namespace Go.Proofs.YteoembjghmgbhaaGreatDoor
set_option linter.all false
open Go.RowKit

def gi (l : List Int) (i : Int) : Int := l.getD i.toNat 0
def gs (l : List Sp) (i : Int) : Sp := l.getD i.toNat default
def ints (l : List Int) : List Value := l.map (.int .i64 ·)
def spc (x : Sp) : List Value := [.int .i64 x.lo, .int .i64 x.hi]
def spcs (l : List Sp) : List Value := l.flatMap spc
theorem cell_below {w w1 : World} {a : Addr} {v : Value} (hb : Below w.heap.size w w1) (h : w.cell? a = some v) : w1.cell? a = some v :=
  (hb.cell (World.block_lt_of_cell? w _ h)).trans h
/-- A slice of whole numbers at A reads as l. -/
def IntsAt (w : World) (A : Option Addr) (l : List Int) : Prop :=
  ∀ i : Int, 0 ≤ i → i < l.length → ∃ b o, A = some ⟨b, o, none⟩ ∧ w.cell? ⟨b, o + i.toNat, none⟩ = some (.int .i64 (gi l i))
/-- A slice of spans at A reads as l. -/
def SpsAt (w : World) (A : Option Addr) (l : List Sp) : Prop :=
  ∀ i : Int, 0 ≤ i → i < l.length → ∃ b o, A = some ⟨b, o, none⟩ ∧ w.cell? ⟨b, o + i.toNat * 2, none⟩ = some (.int .i64 (gs l i).lo) ∧ w.cell? ⟨b, o + i.toNat * 2 + 1, none⟩ = some (.int .i64 (gs l i).hi)
theorem IntsAt.below {w w1 : World} {A : Option Addr} {l : List Int} (h : IntsAt w A l) (hb : Below w.heap.size w w1) : IntsAt w1 A l := by
  intro i h0 hi
  obtain ⟨b, o, e, h1⟩ := h i h0 hi
  exact ⟨b, o, e, cell_below hb h1⟩
theorem SpsAt.below {w w1 : World} {A : Option Addr} {l : List Sp} (h : SpsAt w A l) (hb : Below w.heap.size w w1) : SpsAt w1 A l := by
  intro i h0 hi
  obtain ⟨b, o, e, h1, h2⟩ := h i h0 hi
  exact ⟨b, o, e, cell_below hb h1, cell_below hb h2⟩
theorem SpsAt.alloc {w : World} {A : Option Addr} {l : List Sp} (h : SpsAt w A l) (o : Obj) : SpsAt (w.alloc o) A l := h.below ((Below.refl _ _).alloc (Nat.le_refl _) _)
theorem IntsAt.nat {w : World} {A : Option Addr} {l : List Int} (h : IntsAt w A l) (k : Nat) (hk : k < l.length) : ∃ b o, A = some ⟨b, o, none⟩ ∧ w.cell? ⟨b, o + k, none⟩ = some (.int .i64 (gi l k)) := h k (by omega) (by omega)
theorem SpsAt.nat {w : World} {A : Option Addr} {l : List Sp} (h : SpsAt w A l) (k : Nat) (hk : k < l.length) : ∃ b o, A = some ⟨b, o, none⟩ ∧ w.cell? ⟨b, o + k * 2, none⟩ = some (.int .i64 (gs l k).lo) ∧ w.cell? ⟨b, o + k * 2 + 1, none⟩ = some (.int .i64 (gs l k).hi) := h k (by omega) (by omega)
theorem gs_get {l : List Sp} {j : Nat} (h : j < l.length) : l[j]? = some (gs l j) := by simp [gs, List.getD_eq_getElem?_getD, h]
theorem gi_get {l : List Int} {j : Nat} (h : j < l.length) : l[j]? = some (gi l j) := by simp [gi, List.getD_eq_getElem?_getD, h]
theorem gs_mem {l : List Sp} {i : Nat} (h : i < l.length) : gs l i ∈ l := by
  simp [gs, List.getD_eq_getElem?_getD, h]
theorem mem_gs {l : List Sp} {x : Sp} (h : x ∈ l) : ∃ i : Nat, i < l.length ∧ gs l i = x := by
  obtain ⟨i, hi, rfl⟩ := List.getElem_of_mem h
  exact ⟨i, hi, by simp [gs, List.getD_eq_getElem?_getD, hi]⟩
theorem take_gs (l : List Sp) (k : Nat) (h : k < l.length) : l.take (k + 1) = l.take k ++ [gs l k] := by
  rw [List.take_succ_eq_append_getElem h]; simp [gs, List.getD_eq_getElem?_getD, h]
theorem take_gi (l : List Int) (k : Nat) (h : k < l.length) : l.take (k + 1) = l.take k ++ [gi l k] := by
  rw [List.take_succ_eq_append_getElem h]; simp [gi, List.getD_eq_getElem?_getD, h]
theorem info3 : (Tryz.prog.info? 3).map (fun i => (i.zero, i.size, i.bytes)) = some (some (.int .i64 0), 1, 8) := by kernel_rfl
theorem info37 : (Tryz.prog.info? 39).map (fun i => (i.zero, i.size, i.bytes)) = some (some (.agg #[.int .i64 0, .int .i64 0]), 2, 16) := by kernel_rfl
/-- append(v, y), y one element of some cells. -/
theorem app_one {ops : Array Oper} {rest : List Oper} {o : Oper} {a : Act} {Q : Exit → Act → World → Prop} {W : World} (hgd : o.guard = none) (s x : Operand) (t e : TypeId) (z : Value) (sz bytes : Nat)
    (ho : o.op = .call { callee := .builtin .append, args := #[s, x], argTypes := #[t, t] })
    (ht : Tryz.prog.underlying t = some (.slice e)) (hinfo : (Tryz.prog.info? e).map (fun i => (i.zero, i.size, i.bytes)) = some (some z, sz, bytes)) (hz : z.cells.size = sz) (h0 : 0 < sz)
    (v : Value) (n : Nat) (xs ys : List Value) (hs : a.eval s = v) {gx : Nat} (hx : a.eval x = .slice (some ⟨gx, 0, none⟩) 1 1) (hgx : gx = W.heap.size) (hy : ys.length = sz) (h1 : ∀ u ∈ ys, u.oneCell' = true)
    (base : Nat) (HO : W.ownsRow base e sz v n xs) (hb : base ≤ W.heap.size) (hl : (n + 1) * bytes ≤ 140737488355328) (hm : n + 1 ≤ maxLen)
    (h : ∀ v1 w1, w1.ownsRow base e sz v1 (n + 1) (xs ++ ys) → W.grownBy w1 v.ownBlock → (v1.ownBlock = v.ownBlock ∨ ∃ b, v1.ownBlock = some b ∧ W.heap.size ≤ b) → wpList Tryz.prog ops Q rest (a.put o.dst v1) w1) :
    wpList Tryz.prog ops Q (o :: rest) a (W.alloc (.cells ys.toArray e)) := by
  subst hgx
  obtain ⟨i0, hi, hzz⟩ := Option.map_eq_some_iff.1 hinfo
  simp only [Prod.mk.injEq] at hzz
  obtain ⟨hz0, hz1, hz2⟩ := hzz
  refine wpList_append_own_at (W.alloc (.cells ys.toArray e)) hgd s x t ho base e i0 z sz bytes ht hi hz0 hz1 hz2 hz h0 v n xs hs (HO.alloc _) ⟨W.heap.size, 0, none⟩ 1 1 ys hx (by omega)
    (fun j u hj => ?_) h1 hm hl (by simp; omega) ?_
  · have ha : (⟨W.heap.size, 0, none⟩ : Addr).add j = ⟨W.heap.size, j, none⟩ := by unfold Addr.add; split <;> simp_all
    rw [ha, World.cell?_alloc_new]
    simpa using hj
  · intro v1 w1 hown hg _ hat
    refine h v1 w1 hown (World.grownBy.trans (World.grownBy_alloc W _ _) hg) ?_
    rcases hat with hat | hat
    · exact .inl hat
    · exact .inr ⟨_, hat, by simp⟩

/-- append(v, y...), y a slice that is read, of m elements. -/
theorem app_many {ops : Array Oper} {rest : List Oper} {o : Oper} {a : Act} {Q : Exit → Act → World → Prop} {W : World} (hgd : o.guard = none) (s x : Operand) (t e : TypeId) (z : Value) (sz bytes : Nat)
    (ho : o.op = .call { callee := .builtin .append, args := #[s, x], argTypes := #[t, t] })
    (ht : Tryz.prog.underlying t = some (.slice e)) (hinfo : (Tryz.prog.info? e).map (fun i => (i.zero, i.size, i.bytes)) = some (some z, sz, bytes)) (hz : z.cells.size = sz) (h0 : 0 < sz)
    (v : Value) (n : Nat) (xs ys : List Value) (m c : Nat) (A : Option Addr) (hs : a.eval s = v) (hx : a.eval x = .slice A m c) (hnil : A = none → m = 0 ∧ c = 0) (hy : ys.length = m * sz) (h1 : ∀ u ∈ ys, u.oneCell' = true) (hr : ∀ ad, A = some ad → ∀ j u, ys[j]? = some u → W.cell? (ad.add j) = some u)
    (base : Nat) (HO : W.ownsRow base e sz v n xs) (hb : base ≤ W.heap.size) (hl : (n + m) * bytes ≤ 140737488355328) (hm : n + m ≤ maxLen)
    (h : ∀ v1 w1, w1.ownsRow base e sz v1 (n + m) (xs ++ ys) → W.grownBy w1 v.ownBlock → (v1.ownBlock = v.ownBlock ∨ ∃ b, v1.ownBlock = some b ∧ W.heap.size ≤ b) → wpList Tryz.prog ops Q rest (a.put o.dst v1) w1) :
    wpList Tryz.prog ops Q (o :: rest) a W := by
  obtain ⟨i0, hi, hzz⟩ := Option.map_eq_some_iff.1 hinfo
  simp only [Prod.mk.injEq] at hzz
  obtain ⟨hz0, hz1, hz2⟩ := hzz
  cases A with
  | none =>
    obtain ⟨rfl, rfl⟩ := hnil rfl
    have e0 : ys = [] := List.eq_nil_of_length_eq_zero (by simpa using hy)
    subst e0
    refine wpList_plain hgd fun K hK => ?_
    unfold Oper.wp execOp
    simp only [ho, resolve, invoke, builtin, Sem.run_bind, Sem.run_pure, Result.andThen_ok, List.map_toArray, List.map_cons, List.map_nil, hs, hx, run_append_owned_none (P := Tryz.prog) W base t o.type e i0 sz ht hi v n xs HO]
    exact hK _ _ (h v W (by simpa using HO) ⟨rfl, rfl, rfl, Nat.le_refl _, fun _ _ _ => rfl⟩ (.inl rfl))
  | some ad =>
    refine wpList_append_own_at W hgd s x t ho base e i0 z sz bytes ht hi hz0 hz1 hz2 hz h0 v n xs hs HO ad m c ys hx hy (hr ad rfl) h1 hm hl hb ?_
    intro v1 w1 hown hg _ hat
    refine h v1 w1 hown hg ?_
    rcases hat with hat | hat
    · exact .inl hat
    · exact .inr ⟨_, hat, Nat.le_refl _⟩

theorem spcs_length (l : List Sp) : (spcs l).length = l.length * 2 := by
  induction l with
  | nil => rfl
  | cons x l ih =>
    have : spcs (x :: l) = spc x ++ spcs l := rfl
    rw [this, List.length_append, ih]
    simp [spc]
    omega
theorem spcs_get (l : List Sp) : ∀ (i j : Nat), i < l.length → j < 2 → (spcs l)[i * 2 + j]? = (spc (gs l i))[j]? := by
  induction l with
  | nil => intro i j h; simp at h
  | cons x l ih =>
    intro i j hi hj
    have e : spcs (x :: l) = spc x ++ spcs l := rfl
    rw [e]
    cases i with
    | zero =>
      rw [List.getElem?_append_left (by simp [spc]; omega)]
      simp [gs]
    | succ i =>
      rw [List.getElem?_append_right (by simp [spc]; omega)]
      have : (i + 1) * 2 + j - (spc x).length = i * 2 + j := by simp [spc]; omega
      rw [this, ih i j (by simpa using hi) hj]
      simp [gs]
theorem spcs_one (l : List Sp) : ∀ u ∈ spcs l, u.oneCell' = true := by
  intro u hu
  obtain ⟨x, _, hx⟩ := List.mem_flatMap.1 hu
  simp [spc] at hx
  rcases hx with rfl | rfl <;> rfl
theorem ints_one (l : List Int) : ∀ u ∈ ints l, u.oneCell' = true := by
  intro u hu
  simp [ints] at hu
  obtain ⟨x, _, rfl⟩ := hu
  rfl
theorem add_zero_at (g j : Nat) : (⟨g, 0, none⟩ : Addr).add j = ⟨g, j, none⟩ := by unfold Addr.add; split <;> simp_all
theorem add_at (g o j : Nat) : (⟨g, o, none⟩ : Addr).add j = ⟨g, o + j, none⟩ := by unfold Addr.add; split <;> simp_all
theorem SpsAt.cells {w : World} {A : Option Addr} {l : List Sp} (h : SpsAt w A l) : ∀ ad, A = some ad → ∀ j u, (spcs l)[j]? = some u → w.cell? (ad.add j) = some u := by
  intro ad e j u hj
  have hlt : j < l.length * 2 := by
    have := (List.getElem?_eq_some_iff.1 hj).1
    rwa [spcs_length] at this
  have hi : j / 2 < l.length := by omega
  obtain ⟨b, o, e', h0, h1⟩ := h.nat (j / 2) hi
  obtain rfl : ad = ⟨b, o, none⟩ := by rw [e] at e'; exact Option.some.inj e'
  rw [add_at]
  have hj' : j = j / 2 * 2 + j % 2 := by omega
  rw [hj', spcs_get l _ _ hi (by omega)] at hj
  rcases (show j % 2 = 0 ∨ j % 2 = 1 by omega) with e | e
  · rw [e] at hj; rw [show o + j = o + j / 2 * 2 by omega, h0]; simpa [spc] using hj
  · rw [e] at hj; rw [show o + j = o + j / 2 * 2 + 1 by omega, h1]; simpa [spc] using hj
/-- What is owned can be read. -/
theorem own_slice {w : World} {base n : Nat} {e : TypeId} {size : Nat} {v : Value} {xs : List Value} (h : w.ownsRow base e size v n xs) : ∃ A c, v = .slice A n c ∧ n ≤ c ∧ (A = none → n = 0 ∧ c = 0) ∧ (∀ ad, A = some ad → v.ownBlock = some ad.block ∧ base ≤ ad.block ∧ ad.block < w.heap.size) := by
  rcases h.2 with ⟨rfl, rfl⟩ | ⟨g, cap, cur, rfl, hb, hh, hc, _⟩
  · exact ⟨none, 0, rfl, Nat.le_refl _, fun _ => ⟨rfl, rfl⟩, fun _ e => by cases e⟩
  · exact ⟨_, cap, rfl, hc, fun e => (by cases e), fun ad e => by cases e; exact ⟨rfl, hb, (Array.getElem?_eq_some_iff.1 hh).1⟩⟩
theorem own_sps {w : World} {base n : Nat} {A : Option Addr} {c m : Nat} {l : List Sp} (h : w.ownsRow base 39 2 (.slice A n c) m (spcs l)) : SpsAt w A l := by
  intro i h0 hi
  have hl := h.1
  rw [spcs_length] at hl
  rcases h.2 with ⟨e, h1⟩ | ⟨g, cap, cur, e, hb, hh, _⟩
  · subst h1; omega
  · cases e
    have ht : i.toNat < l.length := by omega
    have e : ((i.toNat : Nat) : Int) = i := by omega
    have hc := fun j v hj => h.cells (g := g) rfl (i.toNat * 2 + j) v hj
    refine ⟨g, 0, rfl, ?_, ?_⟩
    · have := hc 0 (.int .i64 (gs l i).lo) (by rw [spcs_get l _ _ ht (by omega), e]; rfl)
      rw [add_zero_at] at this; simpa using this
    · have := hc 1 (.int .i64 (gs l i).hi) (by rw [spcs_get l _ _ ht (by omega), e]; rfl)
      rw [add_zero_at] at this; simpa using this
theorem own_ints {w : World} {base n : Nat} {A : Option Addr} {c m : Nat} {l : List Int} (h : w.ownsRow base 3 1 (.slice A n c) m (ints l)) : IntsAt w A l := by
  intro i h0 hi
  have hl := h.1
  rcases h.2 with ⟨e, h1⟩ | ⟨g, cap, cur, e, hb, hh, _⟩
  · have : l.length = m * 1 := by simpa only [ints, List.length_map] using hl
    omega
  · cases e
    have hc := h.cells (g := g) rfl i.toNat (.int .i64 (gi l i)) (by
      have : i.toNat < l.length := by omega
      have e : ((i.toNat : Nat) : Int) = i := by omega
      simp [ints, gi_get this, e])
    rw [add_zero_at] at hc
    exact ⟨g, 0, rfl, by simpa using hc⟩
/-- A store into a row that is owned. -/
theorem own_set {w : World} {base : Nat} {e : TypeId} {size g n c : Nat} {xs : List Value} (h : w.ownsRow base e size (.slice (some ⟨g, 0, none⟩) n c) n xs) (j : Nat) (hj : j < n * size) (u : Value) : (w.setCell ⟨g, j, none⟩ u).ownsRow base e size (.slice (some ⟨g, 0, none⟩) n c) n (xs.set j u) := by
  refine ⟨by simpa using h.1, ?_⟩
  rcases h.2 with ⟨e1, _⟩ | ⟨g', cap, cur, e1, hb, hh, hc, hm, hs, ht⟩
  · cases e1
  · cases e1
    refine .inr ⟨g, c, cur.setIfInBounds j u, rfl, hb, ?_, hc, hm, by simpa using hs, ?_⟩
    · simp [World.setCell, Array.getElem?_modify, hh]
    · rw [← ht]
      simp [List.take_set]
theorem own_empty (w : World) (e sz : Nat) : (w.alloc (.cells #[] e)).ownsRow w.heap.size e sz (.slice (some ⟨w.heap.size, 0, none⟩) 0 0) 0 [] :=
  World.ownsRow_lit w #[] 0 (Nat.le_refl _) (by simp [maxLen]) (by simp)
theorem below_own {B : Nat} {w0 w w' : World} {v : Value} (h : Below B w0 w) (hg : w.grownBy w' v.ownBlock) (hB : B ≤ w.heap.size) (hv : ∀ b, v.ownBlock = some b → B ≤ b) : Below B w0 w' :=
  h.grown hg hB hv
set_option maxHeartbeats 400000 in
theorem clone_sps (A : Option Addr) (c : Nat) (l : List Sp) (w : World) (hl : l.length ≤ 1000000) (hnil : A = none → l.length = 0 ∧ c = 0) (h : SpsAt w A l) :
    Calls Tryz.prog 53 #[.slice A l.length c] w fun e w' => ∃ v, e = .returned v ∧ w'.ownsRow w.heap.size 39 2 v l.length (spcs l) ∧ Below w.heap.size w w' := by
  have H := Lib.hid h
  have HN := Lib.hid hnil
  clear h hnil
  cases A with
  | none =>
    obtain ⟨h0, rfl⟩ := HN.out rfl
    obtain rfl : l = [] := List.eq_nil_of_length_eq_zero h0
    have heq := Lib.run_eql_slice_nil (P := Tryz.prog) w 44 39 none 0 0 0 0 Tryz.underlying44
    simp only [List.length_nil]
    clear H HN h0
    go_enter Tryz.func53, Tryz.ntmps53
    go_wp2
    go_ret
    exact ⟨_, rfl, World.ownsRow_nil _ _ _ _, bel⟩
  | some ad =>
    have heq := Lib.run_eql_slice_nil (P := Tryz.prog) w 44 39 (some ad) l.length c 0 0 Tryz.underlying44
    go_enter Tryz.func53, Tryz.ntmps53
    go_wp2_with (at_builtin; refine app_many rfl _ _ 44 39 (.agg #[.int .i64 0, .int .i64 0]) 2 16 rfl Tryz.underlying44 info37 rfl (by omega) (.slice (some ⟨w.heap.size, 0, none⟩) 0 0) 0 [] (spcs l) l.length c (some ad) rfl rfl (fun e => by cases e) (spcs_length l) (spcs_one l) (H.out.alloc _).cells w.heap.size (own_empty w 39 2) (by simp) (by omega) (by unfold maxLen; omega) ?_; intro v1 w1 ho hg _)
    go_ret
    exact ⟨_, rfl, by simpa using ho, below_own (Below.alloc (Below.refl _ _) (Nat.le_refl _) _) hg (by simp) (fun b e => by cases e; exact Nat.le_refl _)⟩
end Go.Proofs.YteoembjghmgbhaaGreatDoor
