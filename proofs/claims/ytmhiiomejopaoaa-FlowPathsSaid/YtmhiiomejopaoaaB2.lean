/- Rows that the call appends to. -/
import Derived.Test.YtmhiiomejopaoaaB1
import Derived.Deep.OwnRows
namespace Go.Proofs.Ytmhiiomejopaoaa
set_option linter.all false
open Go.RowKit

theorem info3 : (Try.prog.info? 3).map (fun i => (i.zero, i.size, i.bytes)) = some (some (.int .i64 0), 1, 8) := by kernel_rfl
theorem info39 : (Try.prog.info? 39).map (fun i => (i.zero, i.size, i.bytes)) = some (some (.agg #[.int .i64 0, .int .i64 0, .int .i64 0]), 3, 24) := by kernel_rfl

theorem mkInts (n : Nat) (hn : n ≤ 1000000) (W : World) : (Instr.makeSlice 25 (.int .i64 (n : Int)) (.int .i64 (n : Int))).run Try.prog W = .ok (.slice (some ⟨W.heap.size, 0, none⟩) n n) (W.alloc (.cells (madeCells #[.int .i64 0] n) 3)) :=
  run_make_row' 25 3 (.int .i64 0) 8 Try.underlying25 info3 rfl .i64 .i64 n (by omega) (by omega) W
theorem RowI_made (W : World) (n : Nat) : RowI (W.alloc (.cells (madeCells #[.int .i64 0] n) 3)) W.heap.size (List.replicate n 0) := by
  refine ⟨_, heap_alloc_new W _, ?_⟩
  rw [toList_madeCells_one]
  simp [ints]

/-- append(v, y), y one element of some cells. -/
theorem app_one {ops : Array Oper} {rest : List Oper} {o : Oper} {a : Act} {Q : Exit → Act → World → Prop} {W : World} (hgd : o.guard = none) (s x : Operand) (t e : TypeId) (z : Value) (sz bytes : Nat)
    (ho : o.op = .call { callee := .builtin .append, args := #[s, x], argTypes := #[t, t] })
    (ht : Try.prog.underlying t = some (.slice e)) (hinfo : (Try.prog.info? e).map (fun i => (i.zero, i.size, i.bytes)) = some (some z, sz, bytes)) (hz : z.cells.size = sz) (h0 : 0 < sz)
    (v : Value) (n : Nat) (xs ys : List Value) (hs : a.eval s = v) {gx : Nat} (hx : a.eval x = .slice (some ⟨gx, 0, none⟩) 1 1) (hgx : gx = W.heap.size) (hy : ys.length = sz) (h1 : ∀ u ∈ ys, u.oneCell' = true)
    (base : Nat) (HO : W.ownsRow base e sz v n xs) (hb : base ≤ W.heap.size) (hl : (n + 1) * bytes ≤ 140737488355328) (hm : n + 1 ≤ maxLen)
    (h : ∀ v1 w1, w1.ownsRow base e sz v1 (n + 1) (xs ++ ys) → W.grownBy w1 v.ownBlock → (v1.ownBlock = v.ownBlock ∨ ∃ b, v1.ownBlock = some b ∧ W.heap.size ≤ b) → wpList Try.prog ops Q rest (a.put o.dst v1) w1) :
    wpList Try.prog ops Q (o :: rest) a (W.alloc (.cells ys.toArray e)) := by
  subst hgx
  obtain ⟨i0, hi, hzz⟩ := Option.map_eq_some_iff.1 hinfo
  simp only [Prod.mk.injEq] at hzz
  obtain ⟨hz0, hz1, hz2⟩ := hzz
  refine wpList_append_own_at (W.alloc (.cells ys.toArray e)) hgd s x t ho base e i0 z sz bytes ht hi hz0 hz1 hz2 hz h0 v n xs hs (HO.alloc _) ⟨W.heap.size, 0, none⟩ 1 1 ys hx (by omega)
    (fun j u hj => ?_) h1 hm hl (by simp; omega) ?_
  · have ha : (⟨W.heap.size, 0, none⟩ : Addr).add j = ⟨W.heap.size, j, none⟩ := by unfold Addr.add; split <;> simp_all
    rw [ha, World.cell?_alloc_new]
    simpa using hj
  · intro v1 w1 hown hg _ hat
    refine h v1 w1 hown (World.grownBy.trans (World.grownBy_alloc W _ _) hg) ?_
    rcases hat with hat | hat
    · exact .inl hat
    · exact .inr ⟨_, hat, by simp⟩

/-- append(v, y...), y a slice that is read, of m elements. -/
theorem app_many {ops : Array Oper} {rest : List Oper} {o : Oper} {a : Act} {Q : Exit → Act → World → Prop} {W : World} (hgd : o.guard = none) (s x : Operand) (t e : TypeId) (z : Value) (sz bytes : Nat)
    (ho : o.op = .call { callee := .builtin .append, args := #[s, x], argTypes := #[t, t] })
    (ht : Try.prog.underlying t = some (.slice e)) (hinfo : (Try.prog.info? e).map (fun i => (i.zero, i.size, i.bytes)) = some (some z, sz, bytes)) (hz : z.cells.size = sz) (h0 : 0 < sz)
    (v : Value) (n : Nat) (xs ys : List Value) (m c : Nat) (A : Option Addr) (hs : a.eval s = v) (hx : a.eval x = .slice A m c) (hnil : A = none → m = 0 ∧ c = 0) (hy : ys.length = m * sz) (h1 : ∀ u ∈ ys, u.oneCell' = true) (hr : ∀ ad, A = some ad → ∀ j u, ys[j]? = some u → W.cell? (ad.add j) = some u)
    (base : Nat) (HO : W.ownsRow base e sz v n xs) (hb : base ≤ W.heap.size) (hl : (n + m) * bytes ≤ 140737488355328) (hm : n + m ≤ maxLen)
    (h : ∀ v1 w1, w1.ownsRow base e sz v1 (n + m) (xs ++ ys) → W.grownBy w1 v.ownBlock → (v1.ownBlock = v.ownBlock ∨ ∃ b, v1.ownBlock = some b ∧ W.heap.size ≤ b) → wpList Try.prog ops Q rest (a.put o.dst v1) w1) :
    wpList Try.prog ops Q (o :: rest) a W := by
  obtain ⟨i0, hi, hzz⟩ := Option.map_eq_some_iff.1 hinfo
  simp only [Prod.mk.injEq] at hzz
  obtain ⟨hz0, hz1, hz2⟩ := hzz
  cases A with
  | none =>
    obtain ⟨rfl, rfl⟩ := hnil rfl
    have e0 : ys = [] := List.eq_nil_of_length_eq_zero (by simpa using hy)
    subst e0
    refine wpList_plain hgd fun K hK => ?_
    unfold Oper.wp execOp
    simp only [ho, resolve, invoke, builtin, Sem.run_bind, Sem.run_pure, Result.andThen_ok, List.map_toArray, List.map_cons, List.map_nil, hs, hx, run_append_owned_none (P := Try.prog) W base t o.type e i0 sz ht hi v n xs HO]
    exact hK _ _ (h v W (by simpa using HO) ⟨rfl, rfl, rfl, Nat.le_refl _, fun _ _ _ => rfl⟩ (.inl rfl))
  | some ad =>
    refine wpList_append_own_at W hgd s x t ho base e i0 z sz bytes ht hi hz0 hz1 hz2 hz h0 v n xs hs HO ad m c ys hx hy (hr ad rfl) h1 hm hl hb ?_
    intro v1 w1 hown hg _ hat
    refine h v1 w1 hown hg ?_
    rcases hat with hat | hat
    · exact .inl hat
    · exact .inr ⟨_, hat, Nat.le_refl _⟩

theorem IntsAt.cells {w : World} {A : Option Addr} {l : List Int} (h : IntsAt w A l) : ∀ ad, A = some ad → ∀ j u, (ints l)[j]? = some u → w.cell? (ad.add j) = some u := by
  intro ad e j u hj
  have hlt : j < l.length := by
    have := (List.getElem?_eq_some_iff.1 hj).1
    simpa [ints] using this
  obtain ⟨b, o, e', hc⟩ := h.nat j hlt
  obtain rfl : ad = ⟨b, o, none⟩ := by rw [e] at e'; exact Option.some.inj e'
  have ha : (⟨b, o, none⟩ : Addr).add j = ⟨b, o + j, none⟩ := by unfold Addr.add; split <;> simp_all
  rw [ha, hc]
  simpa [ints, gi_get hlt] using hj
theorem gl_get {l : List Lk} {j : Nat} (h : j < l.length) : l[j]? = some (gl l j) := by simp [gl, List.getD_eq_getElem?_getD, h]
theorem lkcs_length (l : List Lk) : (lkcs l).length = l.length * 3 := by
  induction l with
  | nil => rfl
  | cons x l ih =>
    have : lkcs (x :: l) = lkc x ++ lkcs l := rfl
    rw [this, List.length_append, ih]
    simp [lkc]
    omega
theorem lkcs_get (l : List Lk) : ∀ (i j : Nat), i < l.length → j < 3 → (lkcs l)[i * 3 + j]? = (lkc (gl l i))[j]? := by
  induction l with
  | nil => intro i j h; simp at h
  | cons x l ih =>
    intro i j hi hj
    have e : lkcs (x :: l) = lkc x ++ lkcs l := rfl
    rw [e]
    cases i with
    | zero =>
      rw [List.getElem?_append_left (by simp [lkc]; omega)]
      simp [gl]
    | succ i =>
      rw [List.getElem?_append_right (by simp [lkc]; omega)]
      have : (i + 1) * 3 + j - (lkc x).length = i * 3 + j := by simp [lkc]; omega
      rw [this, ih i j (by simpa using hi) hj]
      simp [gl]
theorem lkcs_one (l : List Lk) : ∀ u ∈ lkcs l, u.oneCell' = true := by
  intro u hu
  obtain ⟨x, _, hx⟩ := List.mem_flatMap.1 hu
  simp [lkc] at hx
  rcases hx with rfl | rfl | rfl <;> rfl
theorem ints_one (l : List Int) : ∀ u ∈ ints l, u.oneCell' = true := by
  intro u hu
  simp [ints] at hu
  obtain ⟨x, _, rfl⟩ := hu
  rfl
theorem LksAt.cells {w : World} {A : Option Addr} {l : List Lk} (h : LksAt w A l) : ∀ ad, A = some ad → ∀ j u, (lkcs l)[j]? = some u → w.cell? (ad.add j) = some u := by
  intro ad e j u hj
  have hlt : j < l.length * 3 := by
    have := (List.getElem?_eq_some_iff.1 hj).1
    rwa [lkcs_length] at this
  have hi : j / 3 < l.length := by omega
  obtain ⟨b, o, e', h0, h1, h2⟩ := h.nat (j / 3) hi
  obtain rfl : ad = ⟨b, o, none⟩ := by rw [e] at e'; exact Option.some.inj e'
  have ha : (⟨b, o, none⟩ : Addr).add j = ⟨b, o + j, none⟩ := by unfold Addr.add; split <;> simp_all
  rw [ha]
  have hj' : j = j / 3 * 3 + j % 3 := by omega
  rw [hj', lkcs_get l _ _ hi (by omega)] at hj
  rcases (show j % 3 = 0 ∨ j % 3 = 1 ∨ j % 3 = 2 by omega) with e | e | e
  · rw [e] at hj; rw [show o + j = o + j / 3 * 3 by omega, h0]; simpa [lkc] using hj
  · rw [e] at hj; rw [show o + j = o + j / 3 * 3 + 1 by omega, h1]; simpa [lkc] using hj
  · rw [e] at hj; rw [show o + j = o + j / 3 * 3 + 2 by omega, h2]; simpa [lkc] using hj
theorem add_zero_at (g j : Nat) : (⟨g, 0, none⟩ : Addr).add j = ⟨g, j, none⟩ := by unfold Addr.add; split <;> simp_all
/-- What is owned can be read. -/
theorem own_slice {w : World} {base n : Nat} {e : TypeId} {size : Nat} {v : Value} {xs : List Value} (h : w.ownsRow base e size v n xs) : ∃ A c, v = .slice A n c ∧ n ≤ c ∧ (A = none → n = 0 ∧ c = 0) ∧ (∀ ad, A = some ad → v.ownBlock = some ad.block ∧ base ≤ ad.block ∧ ad.block < w.heap.size) := by
  rcases h.2 with ⟨rfl, rfl⟩ | ⟨g, cap, cur, rfl, hb, hh, hc, _⟩
  · exact ⟨none, 0, rfl, Nat.le_refl _, fun _ => ⟨rfl, rfl⟩, fun _ e => by cases e⟩
  · exact ⟨_, cap, rfl, hc, fun e => (by cases e), fun ad e => by cases e; exact ⟨rfl, hb, (Array.getElem?_eq_some_iff.1 hh).1⟩⟩
theorem own_ints {w : World} {base n : Nat} {A : Option Addr} {c m : Nat} {l : List Int} (h : w.ownsRow base 3 1 (.slice A n c) m (ints l)) : IntsAt w A l := by
  intro i h0 hi
  have hl := h.1
  rcases h.2 with ⟨e, h1⟩ | ⟨g, cap, cur, e, hb, hh, _⟩
  · have : l.length = m * 1 := by simpa only [ints, List.length_map] using hl
    omega
  · cases e
    have hc := h.cells (g := g) rfl i.toNat (.int .i64 (gi l i)) (by
      have : i.toNat < l.length := by omega
      have e : ((i.toNat : Nat) : Int) = i := by omega
      simp [ints, gi_get this, e])
    rw [add_zero_at] at hc
    exact ⟨g, 0, rfl, by simpa using hc⟩
theorem own_lks {w : World} {base n : Nat} {A : Option Addr} {c m : Nat} {l : List Lk} (h : w.ownsRow base 39 3 (.slice A n c) m (lkcs l)) : LksAt w A l := by
  intro i h0 hi
  have hl := h.1
  rw [lkcs_length] at hl
  rcases h.2 with ⟨e, h1⟩ | ⟨g, cap, cur, e, hb, hh, _⟩
  · subst h1; omega
  · cases e
    have ht : i.toNat < l.length := by omega
    have e : ((i.toNat : Nat) : Int) = i := by omega
    have hc := fun j v hj => h.cells (g := g) rfl (i.toNat * 3 + j) v hj
    refine ⟨g, 0, rfl, ?_, ?_, ?_⟩
    · have := hc 0 (.int .i64 (gl l i).a) (by rw [lkcs_get l _ _ ht (by omega), e]; rfl)
      rw [add_zero_at] at this; simpa using this
    · have := hc 1 (.int .i64 (gl l i).b) (by rw [lkcs_get l _ _ ht (by omega), e]; rfl)
      rw [add_zero_at] at this; simpa using this
    · have := hc 2 (.int .i64 (gl l i).m) (by rw [lkcs_get l _ _ ht (by omega), e]; rfl)
      rw [add_zero_at] at this; simpa using this
theorem own_rowi {w : World} {base n g : Nat} {c m : Nat} {l : List Int} (h : w.ownsRow base 3 1 (.slice (some ⟨g, 0, none⟩) n c) m (ints l)) : RowI w g l := by
  rcases h.2 with ⟨e, h1⟩ | ⟨g', cap, cur, e, hb, hh, _, _, _, ht⟩
  · cases e
  · cases e
    have hl := h.1
    simp [ints] at hl
    exact ⟨cur, hh, by rw [hl]; simpa using ht⟩
end Go.Proofs.Ytmhiiomejopaoaa
