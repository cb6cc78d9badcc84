/- The flow walks: rows of maps. -/
import Derived.Test.YtmhiiomejopaoaaO2
namespace Go.Proofs.Ytmhiiomejopaoaa
set_option linter.all false
open Go.RowKit

def stv (p : Int × Int) : Value := .agg #[.int .i64 p.1, .int .i64 p.2]
theorem look_put (m : List (Int × Value)) (k : Int) (v : Value) (j : Int) : lookI (putI m k v) j = if j = k then some v else lookI m j := by
  induction m with
  | nil =>
    simp only [putI, lookI]
    by_cases e : j = k
    · subst e; simp
    · have : (k == j) = false := by simpa using fun h => e h.symm
      simp [this, e]
  | cons p m ih =>
    obtain ⟨k', v'⟩ := p
    simp only [putI]
    by_cases e : k' = k
    · subst e
      simp only [beq_self_eq_true, if_true, lookI]
      by_cases e2 : j = k'
      · subst e2; simp
      · have : (k' == j) = false := by simpa using fun h => e2 h.symm
        simp [this, e2]
    · have e1 : (k' == k) = false := by simpa using e
      simp only [e1, Bool.false_eq_true, if_false, lookI, ih]
      by_cases e2 : k' = j
      · subst e2; simp [e]
      · have e3 : (k' == j) = false := by simpa using e2
        simp [e3]
/-- Block b is a map that holds the row f. -/
def RowM (w : World) (b : Nat) (f : RowT) : Prop := ∃ m, MapI w b m ∧ ∀ v, lookI m v = (f v).map stv
section
variable {w w' : World} {b : Nat} {f : RowT}
theorem RowM.lt (h : RowM w b f) : b < w.heap.size := by obtain ⟨m, h1, -⟩ := h; exact h1.lt
theorem RowM.same (h : RowM w b f) (hs : w'.heap[b]? = w.heap[b]?) : RowM w' b f := by obtain ⟨m, h1, h2⟩ := h; exact ⟨m, h1.same hs, h2⟩
theorem RowM.alloc (h : RowM w b f) (o : Obj) : RowM (w.alloc o) b f := h.same (Below.heap_alloc w o b h.lt)
theorem RowM.below (h : RowM w b f) (hb : Below w.heap.size w w') : RowM w' b f := h.same (hb.block b h.lt)
theorem RowM.grown {r : Option Nat} (h : RowM w b f) (hg : w.grownBy w' r) (hne : some b ≠ r) : RowM w' b f := h.same (hg.block b h.lt hne)
theorem RowM.other (h : RowM w b f) (a : Addr) (v : Value) (hne : b ≠ a.block) : RowM (w.setCell a v) b f := h.same (Below.heap_setCell w a v b hne)
theorem RowM.made (w : World) : RowM (w.alloc (.map #[] 0)) w.heap.size fun _ => none := ⟨[], MapI.made w, fun _ => rfl⟩
theorem RowM.notCells (h : RowM w b f) {cs : Array Value} {t : TypeId} {fr : Nat × Nat} (hc : w.heap[b]? = some (.cells cs t fr)) : False := by
  obtain ⟨m, ⟨es, cl, h1, -⟩, -⟩ := h
  rw [h1] at hc
  cases hc
end
/-- Block R is a row of N places for maps, of which the first hold the maps at bs. -/
def MapsAt (w : World) (R N : Nat) (bs : List Nat) : Prop := ∃ cs : Array Value, w.heap[R]? = some (.cells cs 112 (0, 0)) ∧ cs.size = N ∧ ∀ (j : Nat) (b : Nat), bs[j]? = some b → cs[j]? = some (.map (some b))
section
variable {w w' : World} {R N : Nat} {bs : List Nat}
theorem MapsAt.lt (h : MapsAt w R N bs) : R < w.heap.size := by obtain ⟨cs, h1, -⟩ := h; exact (Array.getElem?_eq_some_iff.1 h1).1
theorem MapsAt.same (h : MapsAt w R N bs) (hs : w'.heap[R]? = w.heap[R]?) : MapsAt w' R N bs := by obtain ⟨cs, h1, h2⟩ := h; exact ⟨cs, hs.trans h1, h2⟩
theorem MapsAt.alloc (h : MapsAt w R N bs) (o : Obj) : MapsAt (w.alloc o) R N bs := h.same (Below.heap_alloc w o R h.lt)
theorem MapsAt.below (h : MapsAt w R N bs) (hb : Below w.heap.size w w') : MapsAt w' R N bs := h.same (hb.block R h.lt)
theorem MapsAt.grown {r : Option Nat} (h : MapsAt w R N bs) (hg : w.grownBy w' r) (hne : some R ≠ r) : MapsAt w' R N bs := h.same (hg.block R h.lt hne)
theorem MapsAt.cell (h : MapsAt w R N bs) (j b : Nat) (hj : bs[j]? = some b) : w.cell? ⟨R, j, none⟩ = some (.map (some b)) := by
  obtain ⟨cs, h1, h2, h3⟩ := h
  have := h3 j b hj
  unfold World.cell?
  simp only [h1]
  simpa using this
theorem MapsAt.any (h : MapsAt w R N bs) (j : Nat) (hj : j < N) : ∃ v, w.cell? ⟨R, j, none⟩ = some v ∧ w.frozen? ⟨R, j, none⟩ = false ∧ R < w.heap.size := by
  have hlt := h.lt
  obtain ⟨cs, h1, h2, h3⟩ := h
  refine ⟨cs[j], ?_, by simp [World.frozen?, h1], hlt⟩
  unfold World.cell?
  simp only [h1]
  simp [h2, hj]
theorem MapsAt.push (h : MapsAt w R N bs) (b : Nat) (hN : bs.length < N) : MapsAt (w.setCell ⟨R, bs.length, none⟩ (.map (some b))) R N (bs ++ [b]) := by
  obtain ⟨cs, h1, h2, h3⟩ := h
  refine ⟨cs.setIfInBounds bs.length (.map (some b)), ?_, by simpa using h2, fun j c hj => ?_⟩
  · simp [World.setCell, Array.getElem?_modify, h1]
  · by_cases e : j = bs.length
    · subst e
      simp at hj
      subst hj
      rw [Array.getElem?_setIfInBounds, if_pos rfl, if_pos (by omega)]
    · have hj2 : bs[j]? = some c := by
        have hl := (List.getElem?_eq_some_iff.1 hj).1
        simp at hl
        rw [List.getElem?_append_left (by omega)] at hj
        exact hj
      rw [Array.getElem?_setIfInBounds, if_neg (fun h => e h.symm)]
      exact h3 j c hj2
end
theorem zero111 (w : World) : (zeroValue 111).run Try.prog w = .ok (.agg #[.int .i64 0, .int .i64 0]) w := by kernel_rfl
theorem info112 : (Try.prog.info? 112).map (fun i => (i.zero, i.size, i.bytes)) = some (some (.map none), 1, 8) := by kernel_rfl
theorem mkMaps (n : Nat) (hn : n ≤ 1000000) (W : World) : (Instr.makeSlice 109 (.int .i64 (n : Int)) (.int .i64 (n : Int))).run Try.prog W = .ok (.slice (some ⟨W.heap.size, 0, none⟩) n n) (W.alloc (.cells (madeCells #[.map none] n) 112)) :=
  run_make_row' 109 112 (.map none) 8 Try.underlying109 info112 rfl .i64 .i64 n (by omega) (by omega) W
theorem MapsAt.made (W : World) (n : Nat) : MapsAt (W.alloc (.cells (madeCells #[.map none] n) 112)) W.heap.size n [] := by
  refine ⟨_, heap_alloc_new W _, ?_, fun j b h => by simp at h⟩
  have := congrArg List.length (toList_madeCells_one (.map none) n)
  simpa using this
section
variable {w w' : World} {b : Nat} {f : RowT}
theorem RowM.look2 (h : RowM w b f) (k : Int) : (Instr.lookup 112 (.map (some b)) (.int .i64 k) true).run Try.prog w = .ok (.tuple #[((f k).map stv).getD (.agg #[.int .i64 0, .int .i64 0]), .bool (f k).isSome]) w := by
  obtain ⟨m, h1, h2⟩ := h
  rw [h1.look2 (t := 112) (e := 111) Try.underlying112 (zero111 w) k, h2 k]
  cases f k <;> rfl
theorem RowM.look (h : RowM w b f) (k : Int) : (Instr.lookup 112 (.map (some b)) (.int .i64 k) false).run Try.prog w = .ok (((f k).map stv).getD (.agg #[.int .i64 0, .int .i64 0])) w := by
  obtain ⟨m, h1, h2⟩ := h
  rw [h1.look (t := 112) (e := 111) Try.underlying112 (zero111 w) k, h2 k]
variable {ops : Array Oper} {rest : List Oper} {o : Oper} {a : Act} {Q : Exit → Act → World → Prop}
theorem row_store (hg : o.guard = none) (x y z : Operand) (hop : o.op = .mapUpdate 112 x y z ∨ o.op = .insert 112 x y z)
    (k : Int) (p : Int × Int) (hx : a.eval x = .map (some b)) (hy : a.eval y = .int .i64 k) (hz : a.eval z = stv p) (h : RowM w b f)
    (hK : ∀ w', RowM w' b (setF f k p) → w.grownBy w' (some b) → wpList Try.prog ops Q rest (a.put o.dst undef) w') : wpList Try.prog ops Q (o :: rest) a w := by
  obtain ⟨m, h1, h2⟩ := h
  refine map_store hg x y z 112 111 hop Try.underlying112 k (stv p) hx hy hz h1 (fun w' h3 h4 => hK w' ⟨_, h3, fun v => ?_⟩ h4)
  rw [look_put]
  unfold setF
  by_cases e : v = k
  · rw [if_pos e, if_pos e]; rfl
  · rw [if_neg e, if_neg e]; exact h2 v
end
theorem row_link (l : List Lk) (prev : RowT) : ∀ (i : Nat) (v : Int) (q : Int × Int), rowI l prev i v = some q → ∃ j : Nat, j < i ∧ q.2 = j ∧ (prev (gl l j).a).isSome = true
  | 0, v, q, h => by cases h
  | i + 1, v, q, h => by
    have ih := row_link l prev i v q
    have hup : rowI l prev (i + 1) v = upR l prev (rowI l prev i) i v := rfl
    rw [hup] at h
    unfold upR at h
    have old : rowI l prev i v = some q → ∃ j : Nat, j < i + 1 ∧ q.2 = j ∧ (prev (gl l j).a).isSome = true := fun h => by
      obtain ⟨j, h1, h2⟩ := ih h
      exact ⟨j, by omega, h2⟩
    cases hp : prev (gl l i).a with
    | none => rw [hp] at h; exact old h
    | some p =>
      rw [hp] at h
      simp only at h
      have new : ∀ x : Int, setF (rowI l prev i) (gl l i).b (x, (i : Int)) v = some q → ∃ j : Nat, j < i + 1 ∧ q.2 = j ∧ (prev (gl l j).a).isSome = true := fun x h => by
        unfold setF at h
        by_cases e : v = (gl l i).b
        · rw [if_pos e] at h
          obtain rfl := Option.some.inj h
          exact ⟨i, by omega, rfl, by rw [hp]; rfl⟩
        · rw [if_neg e] at h
          exact old h
      cases hc : rowI l prev i (gl l i).b with
      | none => rw [hc] at h; exact new _ h
      | some o =>
        rw [hc] at h
        simp only at h
        by_cases hlt : wrap64 (p.1 + (gl l i).m) < o.1
        · rw [if_pos hlt] at h; exact new _ h
        · rw [if_neg hlt] at h; exact old h
/-- The state of the search: the net's box, the row of maps, each map's row. -/
structure ClsR (w wr : World) (nv : Value) (R N : Nat) (bs : List Nat) (fs : Nat → RowT) : Prop where
  below : Below w.heap.size w wr
  box : ∃ x y, nv = .agg #[x, y] ∧ wr.heap[w.heap.size]? = some (.cells #[x, y] 24 (0, 0))
  maps : MapsAt wr R N bs
  rows : ∀ (j b : Nat), bs[j]? = some b → RowM wr b (fs j)
  ge : ∀ b ∈ bs, w.heap.size < b ∧ b ≠ R
  nodup : bs.Nodup
  Rge : w.heap.size < R
section
variable {w wr wy : World} {nv : Value} {R N : Nat} {bs : List Nat} {fs : Nat → RowT}
theorem ClsR.step (h : ClsR w wr nv R N bs fs) (hb : Below wr.heap.size wr wy) : ClsR w wy nv R N bs fs := by
  obtain ⟨x, y, e, hx⟩ := h.box
  exact ⟨below_trans h.below hb, ⟨x, y, e, (hb.block _ (Array.getElem?_eq_some_iff.1 hx).1).trans hx⟩, h.maps.below hb, fun j b hj => (h.rows j b hj).below hb, h.ge, h.nodup, h.Rge⟩
/-- A map's row turns. -/
theorem ClsR.up (h : ClsR w wr nv R N bs fs) {k b : Nat} {f : RowT} (hk : bs[k]? = some b) (hf : RowM wy b f) (hg : wr.grownBy wy (some b)) : ClsR w wy nv R N bs (fun j => if j = k then f else fs j) := by
  have hgb := h.ge b (List.mem_of_getElem? hk)
  obtain ⟨x, y, e, hx⟩ := h.box
  refine ⟨below_of_grown h.below hg h.below.size (by omega), ⟨x, y, e, (hg.block _ (Array.getElem?_eq_some_iff.1 hx).1 (fun e => ?_)).trans hx⟩, h.maps.grown hg (fun e => hgb.2 (Option.some.inj e).symm), fun j c hj => ?_, h.ge, h.nodup, h.Rge⟩
  · have := Option.some.inj e; omega
  · by_cases ej : j = k
    · subst ej
      rw [hk] at hj
      obtain rfl := Option.some.inj hj
      simpa using hf
    · simp only [if_neg ej]
      refine (h.rows j c hj).grown hg (fun e => ej ?_)
      obtain rfl := Option.some.inj e
      exact (List.getElem?_inj (List.getElem?_eq_some_iff.1 hj).1 h.nodup).1 (hj.trans hk.symm)
/-- A new map is laid into the row. -/
theorem ClsR.push (h : ClsR w wr nv R N bs fs) {f : RowT} {b : Nat} (hy : Below wr.heap.size wr wy) (hb : wr.heap.size ≤ b) (hf : RowM wy b f) (hN : bs.length < N) : ClsR w (wy.setCell ⟨R, bs.length, none⟩ (.map (some b))) nv R N (bs ++ [b]) (fun j => if j = bs.length then f else fs j) := by
  have h2 := h.step hy
  have hR := h.maps.lt
  have hRg := h.Rge
  have hbR : b ≠ R := by omega
  obtain ⟨x, y, e, hx⟩ := h2.box
  refine ⟨h2.below.setCell (by show w.heap.size ≤ R; omega) _, ⟨x, y, e, (Below.heap_setCell _ _ _ _ (by show w.heap.size ≠ R; omega)).trans hx⟩, h2.maps.push b hN, fun j c hj => ?_, fun c hc => ?_, ?_, h.Rge⟩
  · by_cases ej : j = bs.length
    · subst ej
      simp at hj
      subst hj
      simpa using hf.other ⟨R, bs.length, none⟩ _ hbR
    · simp only [if_neg ej]
      have hj2 : bs[j]? = some c := by
        have hl := (List.getElem?_eq_some_iff.1 hj).1
        simp at hl
        rw [List.getElem?_append_left (by omega)] at hj
        exact hj
      exact (h2.rows j c hj2).other ⟨R, bs.length, none⟩ _ (h.ge c (List.mem_of_getElem? hj2)).2
  · rcases List.mem_append.1 hc with hc | hc
    · exact h.ge c hc
    · simp at hc; subst hc; exact ⟨by have := h.below.size; omega, hbR⟩
  · refine List.nodup_append.2 ⟨h.nodup, by simp, fun c hc d hd => ?_⟩
    simp at hd
    subst hd
    intro e
    subst e
    obtain ⟨j, hj⟩ := List.getElem?_of_mem hc
    have := (h.rows j c hj).lt
    omega
theorem ClsR.congr {gs : Nat → RowT} (h : ClsR w wr nv R N bs fs) (hg : ∀ j, j < bs.length → fs j = gs j) : ClsR w wr nv R N bs gs :=
  ⟨h.below, h.box, h.maps, fun j b hj => by rw [← hg j (List.getElem?_eq_some_iff.1 hj).1]; exact h.rows j b hj, h.ge, h.nodup, h.Rge⟩
theorem ClsR.other (h : ClsR w wr nv R N bs fs) {g : Nat} (hg : w.heap.size < g) (hR : g ≠ R) (hbs : ∀ b ∈ bs, b ≠ g) (j : Nat) (v : Value) : ClsR w (wr.setCell ⟨g, j, none⟩ v) nv R N bs fs := by
  obtain ⟨x, y, e, hx⟩ := h.box
  exact ⟨h.below.setCell (by show w.heap.size ≤ g; omega) _, ⟨x, y, e, (Below.heap_setCell _ _ _ _ (by show w.heap.size ≠ g; omega)).trans hx⟩, h.maps.same (Below.heap_setCell _ _ _ _ (fun e => hR e.symm)), fun k b hk => (h.rows k b hk).other _ _ (hbs b (List.mem_of_getElem? hk)), h.ge, h.nodup, h.Rge⟩
end
end Go.Proofs.Ytmhiiomejopaoaa
