/- Maps keyed by whole numbers that the call makes. -/
import Derived.Test.YtmhiiomejopaoaaB2
import Derived.Maps.OwnSet
namespace Go.Proofs.Ytmhiiomejopaoaa
set_option linter.all false
open Go.RowKit

def lookI : List (Int × Value) → Int → Option Value
  | [], _ => none
  | (k', v) :: m, k => if k' == k then some v else lookI m k
def putI : List (Int × Value) → Int → Value → List (Int × Value)
  | [], k, v => [(k, v)]
  | (k', v') :: m, k, v => if k' == k then (k, v) :: m else (k', v') :: putI m k v
def delI : List (Int × Value) → Int → List (Int × Value)
  | [], _ => []
  | (k', v') :: m, k => if k' == k then m else (k', v') :: delI m k
def entries (es : List MapEntry) : List (Value × Value) := es.map fun e => (e.key, e.val)
def keyed (m : List (Int × Value)) : List (Value × Value) := m.map fun p => (.int .i64 p.1, p.2)
/-- Block b is a map that holds m, in this order. -/
def MapI (w : World) (b : Nat) (m : List (Int × Value)) : Prop := ∃ es clock, w.heap[b]? = some (.map es clock) ∧ entries es.toList = keyed m

theorem find_look (k : Int) : ∀ (es : List MapEntry) (m : List (Int × Value)) (i : Nat), entries es = keyed m →
    Instr.findNow (.int .i64) (.int .i64 k) es i = some (match lookI m k with | some v => some (i + (m.findIdx fun p => p.1 == k), v) | none => none) := by
  intro es
  induction es with
  | nil =>
    intro m i h
    cases m with
    | nil => rfl
    | cons p m => simp [entries, keyed] at h
  | cons e es ih =>
    intro m i h
    cases m with
    | nil => simp [entries, keyed] at h
    | cons p m =>
      obtain ⟨k', v⟩ := p
      simp only [entries, keyed, List.map_cons, List.cons.injEq, Prod.mk.injEq] at h
      obtain ⟨⟨hk, hv⟩, hr⟩ := h
      unfold Instr.findNow
      rw [hk]
      have hs : Instr.sameNow (.int .i64) (.int .i64 k) (.int .i64 k') = some (k == k') := by simp [Instr.sameNow]
      rw [hs]
      by_cases e : k' = k
      · subst e
        simp [lookI, hv, List.findIdx_cons]
      · have e1 : (k == k') = false := by simpa using fun h => e h.symm
        have e2 : (k' == k) = false := by simpa using e
        rw [e1]
        simp only
        rw [ih m (i + 1) hr]
        simp only [lookI, e2, Bool.false_eq_true, if_false, List.findIdx_cons, cond_false]
        cases lookI m k <;> simp; omega

section
variable {w : World} {b : Nat} {m : List (Int × Value)}
theorem u3 : Try.prog.underlying 3 = some (.int .i64) := Try.underlying3
theorem MapI.lt (h : MapI w b m) : b < w.heap.size := by
  obtain ⟨es, cl, hb, _⟩ := h
  exact (Array.getElem?_eq_some_iff.1 hb).1
theorem run_check3 (em : Bool) (k : Int) (w : World) : (Instr.checkKey em 10000 3 (.int .i64 k)).run Try.prog w = .ok () w := by
  exact MapKept.run_checkKey u3 (by simp [MapKept.IsKey]) em 9999
theorem run_find3 (k : Int) (es : List MapEntry) (h : entries es = keyed m) (w : World) :
    (Instr.findKey 3 (.int .i64 k) es).run Try.prog w = .ok (match lookI m k with | some v => some (m.findIdx fun p => p.1 == k, v) | none => none) w := by
  simp only [Instr.findKey, Sem.run_bind, run_underlying u3, Result.andThen_ok, find_look k es m 0 h]
  cases lookI m k <;> simp
/-- 'm[k]'. -/
theorem MapI.look {t e : TypeId} (h : MapI w b m) (ht : Try.prog.underlying t = some (.map 3 e)) {z : Value} (hz : (zeroValue e).run Try.prog w = .ok z w) (k : Int) :
    (Instr.lookup t (.map (some b)) (.int .i64 k) false).run Try.prog w = .ok ((lookI m k).getD z) w := by
  obtain ⟨es, cl, hb, he⟩ := h
  simp only [Instr.lookup, Sem.run_bind, run_underlying ht, Result.andThen_ok, MapKept.run_getObj_map hb, Sem.run_pure, run_check3, run_find3 k _ he]
  cases lookI m k <;> simp [hz]
/-- 'm[k]' with ok. -/
theorem MapI.look2 {t e : TypeId} (h : MapI w b m) (ht : Try.prog.underlying t = some (.map 3 e)) {z : Value} (hz : (zeroValue e).run Try.prog w = .ok z w) (k : Int) :
    (Instr.lookup t (.map (some b)) (.int .i64 k) true).run Try.prog w = .ok (.tuple #[(lookI m k).getD z, .bool (lookI m k).isSome]) w := by
  obtain ⟨es, cl, hb, he⟩ := h
  simp only [Instr.lookup, Sem.run_bind, run_underlying ht, Result.andThen_ok, MapKept.run_getObj_map hb, Sem.run_pure, run_check3, run_find3 k _ he]
  cases lookI m k <;> simp [hz]
theorem map_eraseIdx' {α β : Type} (f : α → β) : ∀ (l : List α) (i : Nat), (l.eraseIdx i).map f = (l.map f).eraseIdx i
  | [], i => by simp
  | x :: l, 0 => rfl
  | x :: l, i + 1 => by simp [map_eraseIdx' f l i]
theorem look_idx : ∀ (m : List (Int × Value)) (k : Int) (v : Value), lookI m k = some v → (m.findIdx fun p => p.1 == k) < m.length
  | [], _, _, h => by simp [lookI] at h
  | (k', v') :: m, k, v, h => by
    unfold lookI at h
    rw [List.findIdx_cons]
    by_cases e : (k' == k) = true
    · simp [e]
    · simp only [e, Bool.false_eq_true, if_false] at h
      have := look_idx m k v h
      have e2 : (k' == k) = false := by simpa using e
      simp only [e2, cond_false, List.length_cons]
      omega
theorem put_none : ∀ (m : List (Int × Value)) (k : Int) (v : Value), lookI m k = none → putI m k v = m ++ [(k, v)]
  | [], _, _, _ => rfl
  | (k', v') :: m, k, v, h => by
    unfold lookI at h
    unfold putI
    by_cases e : (k' == k) = true
    · simp [e] at h
    · simp only [e, Bool.false_eq_true, if_false] at h ⊢
      rw [put_none m k v h]; rfl
theorem keyed_put : ∀ (m : List (Int × Value)) (k : Int) (v u : Value), lookI m k = some u → keyed (putI m k v) = (keyed m).modify (m.findIdx fun p => p.1 == k) (fun _ => (.int .i64 k, v))
  | [], _, _, _, h => by simp [lookI] at h
  | (k', v') :: m, k, v, u, h => by
    unfold lookI at h
    unfold putI
    rw [List.findIdx_cons]
    by_cases e : (k' == k) = true
    · simp [e, keyed]
    · simp only [e, Bool.false_eq_true, if_false] at h ⊢
      have := keyed_put m k v u h
      simp only [keyed] at this ⊢
      simp [this]
theorem keyed_del : ∀ (m : List (Int × Value)) (k : Int) (u : Value), lookI m k = some u → keyed (delI m k) = (keyed m).eraseIdx (m.findIdx fun p => p.1 == k)
  | [], _, _, h => by simp [lookI] at h
  | (k', v') :: m, k, u, h => by
    unfold lookI at h
    unfold delI
    rw [List.findIdx_cons]
    by_cases e : (k' == k) = true
    · simp [e, keyed]
    · simp only [e, Bool.false_eq_true, if_false] at h ⊢
      have := keyed_del m k u h
      simp only [keyed] at this ⊢
      simp [this]
theorem del_none : ∀ (m : List (Int × Value)) (k : Int), lookI m k = none → delI m k = m
  | [], _, _ => rfl
  | (k', v') :: m, k, h => by
    unfold lookI at h
    unfold delI
    by_cases e : (k' == k) = true
    · simp [e] at h
    · simp only [e, Bool.false_eq_true, if_false] at h ⊢
      rw [del_none m k h]
theorem turned_grown {o : Obj} : w.grownBy { w with heap := w.heap.setIfInBounds b o } (some b) :=
  ⟨rfl, rfl, rfl, by simp, fun k _ hne => by
    have : b ≠ k := fun e => hne (by rw [e])
    simp [Array.getElem?_setIfInBounds, this]⟩
/-- 'm[k] = v'. -/
theorem MapI.put {t e : TypeId} (h : MapI w b m) (ht : Try.prog.underlying t = some (.map 3 e)) (k : Int) (v : Value) :
    ∃ w', (Instr.mapUpdate t (.map (some b)) (.int .i64 k) v).run Try.prog w = .ok () w' ∧ MapI w' b (putI m k v) ∧ w.grownBy w' (some b) := by
  have hlt := h.lt
  obtain ⟨es, cl, hb, he⟩ := h
  cases hl : lookI m k with
  | none =>
    refine ⟨{ w with heap := w.heap.setIfInBounds b (.map (es.push { key := .int .i64 k, val := v, born := cl }) (cl + 1)) }, ?_, ⟨_, _, by simp [hlt]; exact ⟨rfl, rfl⟩, ?_⟩, turned_grown⟩
    · simp only [Instr.mapUpdate, Sem.run_bind, run_underlying ht, Result.andThen_ok, MapKept.run_getObj_map hb, Sem.run_pure, run_check3, run_find3 k _ he, hl, MapKept.run_setObj_map _ hb]
    · rw [put_none m k v hl]
      simp only [entries, keyed] at he ⊢
      simp [he]
  | some u =>
    refine ⟨{ w with heap := w.heap.setIfInBounds b (.map (es.modify (m.findIdx fun p => p.1 == k) fun e => { e with key := .int .i64 k, val := v }) cl) }, ?_, ⟨_, _, by simp [hlt]; exact ⟨rfl, rfl⟩, ?_⟩, turned_grown⟩
    · have hi := look_idx m k u hl
      have hkey : ((es[m.findIdx fun p => p.1 == k]?).map (·.key)).getD (.int .i64 k) = .int .i64 k := by
        have h1 : (entries es.toList)[m.findIdx fun p => p.1 == k]? = (keyed m)[m.findIdx fun p => p.1 == k]? := by rw [he]
        have h2 : ((m[m.findIdx fun p => p.1 == k]'hi).1 == k) = true := List.findIdx_getElem (p := fun p : Int × Value => p.1 == k) (w := hi)
        simp only [entries, keyed, List.getElem?_map, List.getElem?_eq_getElem hi, Option.map_some] at h1
        cases hq : es.toList[m.findIdx fun p => p.1 == k]? with
        | none => rw [hq] at h1; simp at h1
        | some y =>
          rw [hq] at h1
          simp only [Option.map_some, Option.some.injEq, Prod.mk.injEq] at h1
          have h3 : es[m.findIdx fun p => p.1 == k]? = some y := by simpa using hq
          rw [h3]
          simp only [Option.map_some, Option.getD_some, h1.1]
          rw [beq_iff_eq.1 h2]
      simp only [Instr.mapUpdate, Sem.run_bind, run_underlying ht, Result.andThen_ok, MapKept.run_getObj_map hb, Sem.run_pure, run_check3, run_find3 k _ he, hl, MapKept.run_setObj_map _ hb, hkey, MapKept.run_keyThatStays (d := .int .i64) (k := .int .i64 k) (by simp [MapKept.IsKey])]
    · rw [keyed_put m k v u hl, ← he]
      simp only [entries]
      apply List.ext_getElem?
      intro i
      simp only [Array.toList_modify, List.getElem?_map, List.getElem?_modify]
      cases es.toList[i]? <;> simp
      split <;> rfl
/-- 'delete(m, k)'. -/
theorem MapI.del {t e : TypeId} (h : MapI w b m) (ht : Try.prog.underlying t = some (.map 3 e)) (k : Int) (ty : TypeId) :
    ∃ w', (Builtin.delete_ #[t, 3] ty #[.map (some b), .int .i64 k]).run Try.prog w = .ok (.tuple #[]) w' ∧ MapI w' b (delI m k) ∧ w.grownBy w' (some b) := by
  have hlt := h.lt
  obtain ⟨es, cl, hb, he⟩ := h
  cases hl : lookI m k with
  | none =>
    refine ⟨{ w with heap := w.heap.setIfInBounds b (.map es cl) }, ?_, ⟨_, _, by simp [hlt]; exact ⟨rfl, rfl⟩, ?_⟩, turned_grown⟩
    · simp [Builtin.delete_, run_underlying ht, MapKept.run_getObj_map hb, run_check3, run_find3 k _ he, hl, MapKept.run_setObj_map _ hb, Result.andThen]
    · rw [del_none m k hl]; exact he
  | some u =>
    refine ⟨{ w with heap := w.heap.setIfInBounds b (.map (es.eraseIdxIfInBounds (m.findIdx fun p => p.1 == k)) cl) }, ?_, ⟨_, _, by simp [hlt]; exact ⟨rfl, rfl⟩, ?_⟩, turned_grown⟩
    · simp [Builtin.delete_, run_underlying ht, MapKept.run_getObj_map hb, run_check3, run_find3 k _ he, hl, MapKept.run_setObj_map _ hb, Result.andThen]
    · rw [keyed_del m k u hl, ← he]
      have hlen : (entries es.toList).length = (keyed m).length := by rw [he]
      have hi := look_idx m k u hl
      simp only [entries, keyed, List.length_map, Array.length_toList] at hlen
      simp only [entries, Array.eraseIdxIfInBounds]
      rw [dif_pos (by omega)]
      simp [map_eraseIdx']
theorem MapI.same {w' : World} (h : MapI w b m) (hs : w'.heap[b]? = w.heap[b]?) : MapI w' b m := by
  obtain ⟨es, cl, hb, he⟩ := h
  exact ⟨es, cl, hs.trans hb, he⟩
theorem MapI.alloc (h : MapI w b m) (o : Obj) : MapI (w.alloc o) b m := h.same (Below.heap_alloc w o b h.lt)
theorem MapI.drews (h : MapI w b m) (n : Nat) : MapI (w.drewN n) b m := h
theorem MapI.drew (h : MapI w b m) : MapI w.drew b m := h
theorem MapI.below {w' : World} (h : MapI w b m) (hb : Below w.heap.size w w') : MapI w' b m := h.same (hb.block b h.lt)
theorem MapI.grown {w' : World} {r : Option Nat} (h : MapI w b m) (hg : w.grownBy w' r) (hne : some b ≠ r) : MapI w' b m := h.same (hg.block b h.lt hne)
theorem MapI.other (h : MapI w b m) (a : Addr) (v : Value) (hne : b ≠ a.block) : MapI (w.setCell a v) b m := h.same (Below.heap_setCell w a v b hne)
theorem MapI.made (w : World) : MapI (w.alloc (.map #[] 0)) w.heap.size [] := ⟨#[], 0, heap_alloc_new w _, rfl⟩
variable {ops : Array Oper} {rest : List Oper} {o : Oper} {a : Act} {Q : Exit → Act → World → Prop}
theorem map_store (hg : o.guard = none) (x y z : Operand) (t e : TypeId) (hop : o.op = .mapUpdate t x y z ∨ o.op = .insert t x y z) (ht : Try.prog.underlying t = some (.map 3 e))
    (k : Int) (v : Value) (hx : a.eval x = .map (some b)) (hy : a.eval y = .int .i64 k) (hz : a.eval z = v) (h : MapI w b m)
    (hK : ∀ w', MapI w' b (putI m k v) → w.grownBy w' (some b) → wpList Try.prog ops Q rest (a.put o.dst undef) w') : wpList Try.prog ops Q (o :: rest) a w := by
  refine wpList_plain hg fun K' hK' => ?_
  obtain ⟨w', hrun, r1, r2⟩ := h.put ht k v
  unfold Oper.wp
  rcases hop with hop | hop <;>
    (simp [execOp, hop, hx, hy, hz, hrun, Result.andThen]; exact hK' _ _ (hK w' r1 r2))
theorem map_delete (hg : o.guard = none) (x y : Operand) (t e : TypeId) (hop : o.op = Op.call { callee := Callee.builtin Builtin.delete, args := #[x, y], argTypes := #[t, 3] }) (ht : Try.prog.underlying t = some (.map 3 e))
    (k : Int) (hx : a.eval x = .map (some b)) (hy : a.eval y = .int .i64 k) (h : MapI w b m)
    (hK : ∀ w', MapI w' b (delI m k) → w.grownBy w' (some b) → wpList Try.prog ops Q rest (a.put o.dst (.tuple #[])) w') : wpList Try.prog ops Q (o :: rest) a w := by
  refine wpList_plain hg fun K' hK' => ?_
  obtain ⟨w', hrun, r1, r2⟩ := h.del ht k o.type
  unfold Oper.wp
  simp [execOp, hop, resolve, invoke, builtin, hx, hy, hrun, Result.andThen]
  exact hK' _ _ (hK w' r1 r2)
end

/-! Sets: map[int]bool in which every entry is true. -/
def setI (s : List Int) : List (Int × Value) := s.map fun k => (k, .bool true)
def putS (s : List Int) (k : Int) : List Int := if s.contains k then s else s ++ [k]
theorem look_set (s : List Int) (k : Int) : (lookI (setI s) k).getD (.bool false) = .bool (s.contains k) := by
  induction s with
  | nil => rfl
  | cons x s ih =>
    simp only [setI, List.map_cons, lookI] at ih ⊢
    by_cases e : x = k
    · subst e; simp
    · have e1 : (x == k) = false := by simpa using e
      have e2 : (k == x) = false := by simpa using fun h => e h.symm
      simp only [e1, Bool.false_eq_true, if_false, ih, List.contains_cons, e2, Bool.false_or]
theorem put_set (s : List Int) (k : Int) : putI (setI s) k (.bool true) = setI (putS s k) := by
  induction s with
  | nil => rfl
  | cons x s ih =>
    simp only [setI, List.map_cons, putI] at ih ⊢
    by_cases e : x = k
    · subst e; simp [putS]
    · have e1 : (x == k) = false := by simpa using e
      have e2 : (k == x) = false := by simpa using fun h => e h.symm
      simp only [e1, Bool.false_eq_true, if_false, ih]
      simp only [putS, List.contains_cons, e2, Bool.false_or]
      split <;> simp
theorem del_set (s : List Int) (k : Int) : delI (setI s) k = setI (s.erase k) := by
  induction s with
  | nil => rfl
  | cons x s ih =>
    simp only [setI, List.map_cons, delI] at ih ⊢
    by_cases e : x = k
    · subst e; simp
    · have e1 : (x == k) = false := by simpa using e
      simp only [e1, Bool.false_eq_true, if_false, ih, List.erase_cons]
      simp
end Go.Proofs.Ytmhiiomejopaoaa
