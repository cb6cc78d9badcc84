/- The walks of texts: Parse, the words. -/
import Derived.Test.YtmhiiomejopaoaaGreatDoorW3
import Derived.Test.YtmhiiomejopaoaaGreatDoorKR
import Derived.Test.YtmhiiomejopaoaaGreatDoorF9
namespace Go.Proofs.YtmhiiomejopaoaaGreatDoor
set_option linter.all false
set_option maxRecDepth 100000
open Go.RowKit

theorem listIn_of_list {l n : Nat} {P : Program} {ops : Array Oper} {Q : Exit → Act → World → Prop} (hq : ¬ LetsOut Q) : ∀ (L : List Oper), (∀ o ∈ L, ∀ c, o.op ≠ .defer c) → ∀ (a : Act) (w : World), wpList P ops Q L a w → wpListIn (Fence.wide.inRound l) n P ops Q L a w
  | [], _, _, _, h => h
  | o :: rest, hd, a, w, h => by
    unfold wpList at h
    unfold wpListIn
    by_cases hw : Region.wanted o (yielded ops a.tmps) = true
    · rw [if_pos hw] at h ⊢
      rcases h with h | ⟨_, h⟩
      · refine ⟨fun _ _ => trivial, ?_⟩
        rw [Oper.semAt_eq _ _ _ (hd o List.mem_cons_self)]
        exact upIn_of_up (Oper.wp_mono (o := o) (fun a w h => listIn_of_list hq rest (fun o ho => hd o (List.mem_cons_of_mem _ ho)) a w h) h)
      · exact (hq h).elim
    · rw [if_neg hw] at h ⊢
      exact ⟨fun _ _ => trivial, listIn_of_list hq rest (fun o ho => hd o (List.mem_cons_of_mem _ ho)) _ _ h⟩
theorem list_round {l n : Nat} {P : Program} {ops : Array Oper} {Q : Exit → Act → World → Prop} {L : List Oper} {a : Act} {w : World} (hd : noDefer L = true) (hq : ¬ LetsOut Q) (h : wpList P ops Q L a w) : wpListIn (Fence.wide.inRound l) n P ops Q L a w :=
  listIn_of_list hq L (noDefer_spec hd) a w h
theorem held_round {l n id : Nat} {P : Program} {ops : Array Oper} {Q : Exit → Act → World → Prop} {S : World → Prop} {a : Act} {w : World} (hm : P.follows .mixedOrders = true) (hd : noDefer ops.toList = true) (hq : ¬ LetsOut Q) (hS : S w.drew)
    (h : S w.drew → wpAnyH P .any ops Q S ops.size (Array.replicate ops.size false) a w.drew) : (Code.region id ops true).wpIn (Fence.wide.inRound l) n P Q a w :=
  wpIn_region_any hm (anyIn_of_any hq (noDefer_spec hd) _ _ _ _ (wpAny_of_held _ _ _ _ (h hS)))
/-- What Parse has of a text between two lines. -/
structure ParSt (b : Nat) (w W : World) (st : Int × List Lk) : Prop where
  own : ∃ v, W.heap[b + 2]? = some (.cells #[.int .i64 st.1, v] 24 (0, 0)) ∧ W.ownsRow (b + 4) 51 3 v st.2.length (lkcs st.2)
  r2 : W.heap[b]? = some (.cells #[.int .i64 0, .slice none 0 0] 24 (0, 0))
  r3 : W.heap[b + 1]? = some (.cells #[.int .i64 0] 27 (0, 0))
  below : Below b w W
  size : b + 4 ≤ W.heap.size
theorem own_grown {B : Nat} {e : TypeId} {k : Nat} {v : Value} {n : Nat} {xs : List Value} {A A' : World} {bs : Nat} (h : A.ownsRow B e k v n xs) (hg : A.grownBy A' (some bs)) (hb : bs < B) : A'.ownsRow B e k v n xs := by
  refine ⟨h.1, ?_⟩
  rcases h.2 with h2 | ⟨g, cap, cur, e1, e2, e3, r⟩
  · exact .inl h2
  · exact .inr ⟨g, cap, cur, e1, e2, (hg.block g (Array.getElem?_eq_some_iff.1 e3).1 (fun e => by injection e with e; omega)).trans e3, r⟩
theorem ownsRow_bel {B : Nat} {e : TypeId} {k : Nat} {v : Value} {n : Nat} {xs : List Value} {w w' : World} (h : w.ownsRow B e k v n xs) (hb : Below w.heap.size w w') : w'.ownsRow B e k v n xs := by
  refine ⟨h.1, ?_⟩
  rcases h.2 with h2 | ⟨g, cap, cur, e1, e2, e3, r⟩
  · exact .inl h2
  · exact .inr ⟨g, cap, cur, e1, e2, (hb.block g (Array.getElem?_eq_some_iff.1 e3).1).trans e3, r⟩
theorem ownsRow_putObj {B : Nat} {e : TypeId} {k : Nat} {v : Value} {n : Nat} {xs : List Value} {w : World} (h : w.ownsRow B e k v n xs) {l : Nat} {o : Obj} (o' : Obj) (hl : w.heap[l]? = some o) (ho : o.isCells = false) : (w.putObj l o').ownsRow B e k v n xs := by
  refine ⟨h.1, ?_⟩
  rcases h.2 with h2 | ⟨g, cap, cur, e1, e2, e3, r⟩
  · exact .inl h2
  · refine .inr ⟨g, cap, cur, e1, e2, ?_, r⟩
    rw [World.putObj_heap_other (fun e => by subst e; rw [e3] at hl; cases hl; cases ho)]
    exact e3
theorem grown_below' {b bs : Nat} {w A A' : World} (h : Below b w A) (hg : A.grownBy A' (some bs)) (hb : b ≤ bs) (hA : b ≤ A.heap.size) : Below b w A' := h.grown hg hA (fun k e => by injection e with e; omega)
theorem ParSt.grown {b : Nat} {w A A' : World} {st : Int × List Lk} (h : ParSt b w A st) (hg : A.grownBy A' (some (b + 3))) : ParSt b w A' st := by
  obtain ⟨v, h1, h2⟩ := h.own
  have hs := h.size
  have bl : ∀ k, k < b + 3 → A'.heap[k]? = A.heap[k]? := fun k hk => hg.block k (by omega) (fun e => by injection e with e; omega)
  exact ⟨⟨v, (bl _ (by omega)).trans h1, own_grown h2 hg (by omega)⟩, (bl _ (by omega)).trans h.r2, (bl _ (by omega)).trans h.r3, grown_below' h.below hg (by omega) (by omega), Nat.le_trans hs hg.size⟩
theorem ParSt.step {b : Nat} {w A A' : World} {st : Int × List Lk} (h : ParSt b w A st) (hb : Below A.heap.size A A') : ParSt b w A' st := by
  obtain ⟨v, h1, h2⟩ := h.own
  have hs := h.size
  exact ⟨⟨v, (hb.block _ (by omega)).trans h1, ownsRow_bel h2 hb⟩, (hb.block _ (by omega)).trans h.r2, (hb.block _ (by omega)).trans h.r3, h.below.trans (hb.mono (by omega)), Nat.le_trans hs hb.size⟩
theorem putObj_below {b : Nat} {w A : World} {l : Nat} (o' : Obj) (h : Below b w A) (hl : b ≤ l) : Below b w (A.putObj l o') :=
  ⟨h.os, h.tape, h.output, by have := h.size; simpa using this, fun k hk => (World.putObj_heap_other (by omega)).trans (h.block k hk)⟩
theorem ParSt.putObj {b : Nat} {w A : World} {st : Int × List Lk} (h : ParSt b w A st) {l : Nat} {o : Obj} (o' : Obj) (hl : A.heap[l]? = some o) (ho : o.isCells = false) (hB : b + 4 ≤ l) : ParSt b w (A.putObj l o') st := by
  obtain ⟨v, h1, h2⟩ := h.own
  exact ⟨⟨v, (World.putObj_heap_other (by omega)).trans h1, ownsRow_putObj h2 o' hl ho⟩, (World.putObj_heap_other (by omega)).trans h.r2, (World.putObj_heap_other (by omega)).trans h.r3, putObj_below _ h.below (by omega), by have := h.size; simpa using this⟩
/-- What Parse leaves where a line is none. -/
structure ParNo (b : Nat) (w W : World) : Prop where
  r2 : W.heap[b]? = some (.cells #[.int .i64 0, .slice none 0 0] 24 (0, 0))
  r3 : W.heap[b + 1]? = some (.cells #[.int .i64 7] 27 (0, 0))
  below : Below b w W
  size : b + 4 ≤ W.heap.size
theorem ParNo.grown {b : Nat} {w A A' : World} (h : ParNo b w A) (hg : A.grownBy A' (some (b + 3))) : ParNo b w A' := by
  have hs := h.size
  have bl : ∀ k, k < b + 3 → A'.heap[k]? = A.heap[k]? := fun k hk => hg.block k (by omega) (fun e => by injection e with e; omega)
  exact ⟨(bl _ (by omega)).trans h.r2, (bl _ (by omega)).trans h.r3, grown_below' h.below hg (by omega) (by omega), Nat.le_trans hs hg.size⟩
theorem ParNo.putObj {b : Nat} {w A : World} (h : ParNo b w A) {l : Nat} {o : Obj} (o' : Obj) (hl : A.heap[l]? = some o) (ho : o.isCells = false) (hB : b + 4 ≤ l) : ParNo b w (A.putObj l o') :=
  ⟨(World.putObj_heap_other (by omega)).trans h.r2, (World.putObj_heap_other (by omega)).trans h.r3, putObj_below _ h.below (by omega), by have := h.size; simpa using this⟩
theorem keepsFrom_below {B : Nat} {W W' : World} (h : Below W.heap.size W W') : KeepsFrom B W W' :=
  ⟨h.size, fun k o _ hk _ => (h.block k (Array.getElem?_eq_some_iff.1 hk).1).trans hk⟩
theorem keepX_below {bs : Nat} {W W' : World} (h : Below W.heap.size W W') : KeepX bs W W' := fun o ho _ => (h.block bs (Array.getElem?_eq_some_iff.1 ho).1).trans ho
theorem keepsFrom_set {B : Nat} {W : World} (a : Addr) (v : Value) (h : a.block < B) : KeepsFrom B W (W.setCell a v) :=
  ⟨by simp [World.setCell], fun k o hk ho _ => (Below.heap_setCell W a v k (by omega)).trans ho⟩
theorem keepX_set {bs : Nat} {W : World} (a : Addr) (v : Value) (h : bs ≠ a.block) : KeepX bs W (W.setCell a v) := fun o ho _ => (Below.heap_setCell W a v bs h).trans ho
theorem step_app_lks {ops : Array Oper} {o : Oper} {a : Act} {K : Act → World → Prop} {Q : Exit → Act → World → Prop} {E : Prop} {w : World} (hgd : o.guard = none) (s x : Operand)
    (ho : o.op = .call { callee := .builtin .append, args := #[s, x], argTypes := #[22, 22] }) (base : Nat) (v : Value) (n : Nat) (xs : List Value) (hs : a.eval s = v) (hown : w.ownsRow base 51 3 v n xs)
    (B : Option Addr) (c : Nat) (lm : List Lk) (hx : a.eval x = .slice B lm.length c) (hrow : LksAt w B lm) (hnil : B = none → lm.length = 0 ∧ c = 0) (hb : n + lm.length ≤ 1000000) (hbase : base ≤ w.heap.size)
    (h : ∀ v' w', w'.ownsRow base 51 3 v' (n + lm.length) (xs ++ lkcs lm) → w.grownBy w' v.ownBlock → (v'.ownBlock = v.ownBlock ∨ v'.ownBlock = some w.heap.size) → K (a.put o.dst v') w') :
    if Region.wanted o (yielded ops a.tmps) = true then Oper.wp Tryz.prog o a w K Q else E := by
  have hw : Region.wanted o (yielded ops a.tmps) = true := by simp [Region.wanted, hgd]
  rw [if_pos hw]
  obtain ⟨i0, hi, hzz⟩ := Option.map_eq_some_iff.1 info39
  simp only [Prod.mk.injEq] at hzz
  obtain ⟨hz0, hz1, hz2⟩ := hzz
  cases B with
  | none =>
    obtain ⟨e1, rfl⟩ := hnil rfl
    have el : lm = [] := List.eq_nil_of_length_eq_zero e1
    subst el
    have hr := run_append_owned_none (P := Tryz.prog) w base 22 o.type 51 i0 3 Tryz.underlying22 hi v n xs hown
    unfold Oper.wp execOp
    simp only [ho, resolve, invoke, builtin, Sem.run_bind, Sem.run_pure, Result.andThen_ok, List.map_toArray, List.map_cons, List.map_nil, hs, hx, List.length_nil, hr]
    exact h v w (by simpa [lkcs] using hown) ⟨rfl, rfl, rfl, Nat.le_refl _, fun _ _ _ => rfl⟩ (.inl rfl)
  | some ad =>
    obtain ⟨v', w', hr, h2, h3, _, h5⟩ := run_append_own_at (P := Tryz.prog) w base 22 o.type 51 i0 (.agg #[.int .i64 0, .int .i64 0, .int .i64 0]) 3 24 Tryz.underlying22 hi hz0 hz1 hz2 rfl (by omega) v n xs hown ad lm.length c (lkcs lm) (lkcs_length lm) (hrow.cells ad rfl) (lkcs_one lm) (by unfold maxLen; omega) (by omega) hbase
    unfold Oper.wp execOp
    simp only [ho, resolve, invoke, builtin, Sem.run_bind, Sem.run_pure, Result.andThen_ok, List.map_toArray, List.map_cons, List.map_nil, hs, hx, hr]
    exact h v' w' h2 h3 h5
theorem bytes_eq (P : ByteArray) (L : List UInt8) : (P.toList == L) = decide (P = bs L) := by
  obtain ⟨⟨l⟩⟩ := P
  have e : (⟨⟨l⟩⟩ : ByteArray).toList = l := by simp
  rw [e, Bool.eq_iff_iff, beq_iff_eq, decide_eq_true_eq]
  constructor
  · rintro rfl
    rfl
  · intro h
    injection h with h
    injection h
theorem lks_new (W : World) (k : Lk) : LksAt (W.alloc (.cells #[.int .i64 k.a, .int .i64 k.b, .int .i64 k.m] 51)) (some ⟨W.heap.size, 0, none⟩) [k] := by
  intro i h0 hi
  obtain rfl : i = 0 := by simp at hi; omega
  have h := heap_alloc_new W (.cells #[.int .i64 k.a, .int .i64 k.b, .int .i64 k.m] 51)
  exact ⟨_, 0, rfl, cell_of_heap h 0, cell_of_heap h 1, cell_of_heap h 2⟩
theorem cell_grown' {w w' : World} {r : Option Nat} {b o : Nat} {v : Value} (hg : w.grownBy w' r) (hr : r ≠ some b) (h : w.cell? ⟨b, o, none⟩ = some v) : w'.cell? ⟨b, o, none⟩ = some v := by
  have hb := World.block_lt_of_cell? _ _ h
  have e := hg.block b hb (fun e => hr e.symm)
  rw [show w'.cell? ⟨b, o, none⟩ = w.cell? ⟨b, o, none⟩ by simp [World.cell?, e]]
  exact h
theorem set_pair {w : World} {p : Nat} {a c x y : Value} {t : TypeId} (h : w.heap[p]? = some (.cells #[a, c] t (0, 0))) : ((w.setCell ⟨p, 0, none⟩ x).setCell ⟨p, 1, none⟩ y).heap[p]? = some (.cells #[x, y] t (0, 0)) := by
  simp [World.setCell, Array.getElem?_modify, h]
theorem set_fst {w : World} {p : Nat} {a c x : Value} {t : TypeId} (h : w.heap[p]? = some (.cells #[a, c] t (0, 0))) : (w.setCell ⟨p, 0, none⟩ x).heap[p]? = some (.cells #[x, c] t (0, 0)) := by
  simp [World.setCell, Array.getElem?_modify, h]
theorem set_snd {w : World} {p : Nat} {a c x : Value} {t : TypeId} (h : w.heap[p]? = some (.cells #[a, c] t (0, 0))) : (w.setCell ⟨p, 1, none⟩ x).heap[p]? = some (.cells #[a, x] t (0, 0)) := by
  simp [World.setCell, Array.getElem?_modify, h]
theorem ParSt.no {b : Nat} {w A : World} {st : Int × List Lk} (h : ParSt b w A st) : ParNo b w (((A.setCell ⟨b, 0, none⟩ (.int .i64 0)).setCell ⟨b, 1, none⟩ (.slice none 0 0)).setCell ⟨b + 1, 0, none⟩ (.int .i64 7)) := by
  refine ⟨?_, ?_, ?_, ?_⟩
  · refine (Below.heap_setCell _ _ _ b (by simp)).trans ?_
    exact set_pair h.r2
  · refine set_box (a := .int .i64 0) ?_
    refine (Below.heap_setCell _ _ _ (b + 1) (by simp)).trans ?_
    refine (Below.heap_setCell _ _ _ (b + 1) (by simp)).trans ?_
    exact h.r3
  · exact ((h.below.setCell (p := ⟨b, 0, none⟩) (Nat.le_refl _) _).setCell (p := ⟨b, 1, none⟩) (Nat.le_refl _) _).setCell (p := ⟨b + 1, 0, none⟩) (by simp) _
  · have := h.size
    simpa [World.setCell] using this
theorem ParSt.keepsNo {b : Nat} {w A : World} {st : Int × List Lk} (h : ParSt b w A st) : KeepsFrom (b + 4) A (((A.setCell ⟨b, 0, none⟩ (.int .i64 0)).setCell ⟨b, 1, none⟩ (.slice none 0 0)).setCell ⟨b + 1, 0, none⟩ (.int .i64 7)) :=
  ((keepsFrom_set _ _ (by simp)).trans (keepsFrom_set _ _ (by simp))).trans (keepsFrom_set _ _ (by simp))
theorem ParSt.setN {b : Nat} {w A : World} {st : Int × List Lk} (h : ParSt b w A st) (x : Int) : ParSt b w (A.setCell ⟨b + 2, 0, none⟩ (.int .i64 x)) (x, st.2) := by
  obtain ⟨v, h1, h2⟩ := h.own
  have hs := h.size
  have bl : ∀ k, k ≠ b + 2 → (A.setCell ⟨b + 2, 0, none⟩ (.int .i64 x)).heap[k]? = A.heap[k]? := fun k hk => Below.heap_setCell _ _ _ k hk
  refine ⟨⟨v, set_fst h1, h2.1, ?_⟩, (bl _ (by omega)).trans h.r2, (bl _ (by omega)).trans h.r3, h.below.setCell (p := ⟨b + 2, 0, none⟩) (by simp) _, by simpa [World.setCell] using hs⟩
  rcases h2.2 with h3 | ⟨g, cap, cur, e1, e2, e3, r⟩
  · exact .inl h3
  · exact .inr ⟨g, cap, cur, e1, e2, (bl g (by omega)).trans e3, r⟩
theorem ParSt.pushed {b : Nat} {w W w5 : World} {st : Int × List Lk} {v v5 : Value} {k : Lk} (h1 : W.heap[b + 2]? = some (.cells #[.int .i64 st.1, v] 24 (0, 0))) (h2 : W.ownsRow (b + 4) 51 3 v st.2.length (lkcs st.2)) (h : ParSt b w W st)
    (hg : W.grownBy w5 v.ownBlock) (ho : w5.ownsRow (b + 4) 51 3 v5 (st.2.length + 1) (lkcs st.2 ++ lkcs [k])) :
    ParSt b w (w5.setCell ⟨b + 2, 1, none⟩ v5) (st.1, st.2 ++ [k]) ∧ KeepsFrom (b + 4) W (w5.setCell ⟨b + 2, 1, none⟩ v5) ∧ KeepX (b + 3) W (w5.setCell ⟨b + 2, 1, none⟩ v5) := by
  have hs := h.size
  have hv : ∀ k, v.ownBlock = some k → b + 4 ≤ k := fun k e => (h2.lt k e).1
  have bl : ∀ j, j < b + 4 → w5.heap[j]? = W.heap[j]? := fun j hj => hg.block j (by omega) (fun e => by have := hv j e.symm; omega)
  have sl : ∀ j, j ≠ b + 2 → (w5.setCell ⟨b + 2, 1, none⟩ v5).heap[j]? = w5.heap[j]? := fun j hj => Below.heap_setCell _ _ _ j hj
  have hB5 : Below b w w5 := h.below.grown hg (by omega) (fun j e => by have := hv j e; omega)
  have hs5 := hg.size
  refine ⟨⟨⟨v5, set_snd ((bl _ (by omega)).trans h1), ?_⟩, (sl _ (by omega)).trans ((bl _ (by omega)).trans h.r2), (sl _ (by omega)).trans ((bl _ (by omega)).trans h.r3), hB5.setCell (p := ⟨b + 2, 1, none⟩) (by simp) _, by simp [World.setCell]; omega⟩, ?_, ?_⟩
  · have e1 : (st.2 ++ [k]).length = st.2.length + 1 := by simp
    have e2 : lkcs (st.2 ++ [k]) = lkcs st.2 ++ lkcs [k] := by simp [lkcs]
    rw [e1, e2]
    refine ⟨ho.1, ?_⟩
    rcases ho.2 with h3 | ⟨g, cap, cur, e1, e2, e3, r⟩
    · exact .inl h3
    · exact .inr ⟨g, cap, cur, e1, e2, (sl g (by omega)).trans e3, r⟩
  · refine ⟨by simp [World.setCell]; omega, fun j o hj ho' hc => (sl j (by omega)).trans ?_⟩
    refine (hg.block j (Array.getElem?_eq_some_iff.1 ho').1 (fun e => ?_)).trans ho'
    rcases h2.2 with ⟨e1, e2⟩ | ⟨g, cap, cur, e1, e2, e3, r⟩
    · rw [e1] at e; cases e
    · rw [e1] at e
      injection e with e
      subst e
      rw [e3] at ho'
      cases ho'
      cases hc
  · intro o ho' hc
    exact (sl _ (by omega)).trans ((bl _ (by omega)).trans ho')
theorem lines_mem : ∀ (k : Nat) (s : List UInt8), ∀ x ∈ linesF k s, x.length ≤ s.length
  | 0, _, _, h => by cases h
  | k + 1, s, x, h => by
    unfold linesF at h
    split at h
    · cases h
    · rcases List.mem_cons.1 h with rfl | h
      · rw [List.length_take]
        exact Nat.min_le_right _ _
      · have := lines_mem k _ x h
        simp at this
        omega
theorem bare_len (s : List UInt8) : (bareL s).length ≤ s.length := by
  unfold bareL Lib.trimSuffix
  split
  · simp
  · exact Nat.le_refl _
theorem cut32 : ∀ (s : List UInt8), (32 : UInt8) ∈ s → ∃ a r, s = a ++ 32 :: r ∧ (32 : UInt8) ∉ a
  | [], h => by cases h
  | c :: t, h => by
    by_cases hc : c = 32
    · exact ⟨[], t, by rw [hc]; rfl, by simp⟩
    · obtain ⟨a, r, h1, h2⟩ := cut32 t ((List.mem_cons.1 h).resolve_left (fun e => hc e.symm))
      exact ⟨c :: a, r, by rw [h1]; rfl, fun hm => (List.mem_cons.1 hm).elim (fun e => hc e.symm) h2⟩
theorem fields_small : ∀ (n : Nat) (s : List UInt8), s.length ≤ n → 1 ≤ (fieldsL s).length ∧ (fieldsL s).length ≤ s.length + 1 ∧ ∀ p ∈ fieldsL s, p.size ≤ s.length
  | n, s, hn => by
    by_cases h : (32 : UInt8) ∈ s
    · obtain ⟨a, r, rfl, ha⟩ := cut32 s h
      rw [fields_step a r ha]
      cases n with
      | zero => simp at hn
      | succ n =>
        obtain ⟨h1, h2, h3⟩ := fields_small n r (by simp at hn; omega)
        refine ⟨by simp, by simp; omega, fun p hp => ?_⟩
        rcases List.mem_cons.1 hp with rfl | hp
        · show a.toArray.size ≤ _
          simp
        · have := h3 p hp
          simp
          omega
    · rw [fields_end s h]
      refine ⟨by simp, by simp, fun p hp => ?_⟩
      rw [List.mem_singleton] at hp
      subst hp
      show s.toArray.size ≤ _
      simp
theorem ownsRow_setOther {B : Nat} {e : TypeId} {k : Nat} {v : Value} {n : Nat} {xs : List Value} {w : World} (h : w.ownsRow B e k v n xs) (a : Addr) (u : Value) (ha : a.block < B) : (w.setCell a u).ownsRow B e k v n xs := by
  refine ⟨h.1, ?_⟩
  rcases h.2 with h2 | ⟨g, cap, cur, e1, e2, e3, r⟩
  · exact .inl h2
  · exact .inr ⟨g, cap, cur, e1, e2, (Below.heap_setCell w a u g (by omega)).trans e3, r⟩
/-- The results, stored. -/
theorem ParSt.put {b : Nat} {w A : World} {st : Int × List Lk} (h : ParSt b w A st) (x y z : Value) :
    (((A.setCell ⟨b, 0, none⟩ x).setCell ⟨b, 1, none⟩ y).setCell ⟨b + 1, 0, none⟩ z).heap[b]? = some (.cells #[x, y] 24 (0, 0)) ∧ (((A.setCell ⟨b, 0, none⟩ x).setCell ⟨b, 1, none⟩ y).setCell ⟨b + 1, 0, none⟩ z).heap[b + 1]? = some (.cells #[z] 27 (0, 0)) ∧
    (∀ D, b + 4 ≤ D → (((A.setCell ⟨b, 0, none⟩ x).setCell ⟨b, 1, none⟩ y).setCell ⟨b + 1, 0, none⟩ z).heap[D]? = A.heap[D]?) ∧ Below b w (((A.setCell ⟨b, 0, none⟩ x).setCell ⟨b, 1, none⟩ y).setCell ⟨b + 1, 0, none⟩ z) := by
  refine ⟨?_, ?_, ?_, ?_⟩
  · refine (Below.heap_setCell _ _ _ b (by simp)).trans ?_
    exact set_pair h.r2
  · refine set_box (a := .int .i64 0) ?_
    refine (Below.heap_setCell _ _ _ (b + 1) (by simp)).trans ?_
    refine (Below.heap_setCell _ _ _ (b + 1) (by simp)).trans ?_
    exact h.r3
  · intro D hD
    refine (Below.heap_setCell _ _ _ D (by simp; omega)).trans ?_
    refine (Below.heap_setCell _ _ _ D (by simp; omega)).trans ?_
    exact Below.heap_setCell _ _ _ D (by simp; omega)
  · exact ((h.below.setCell (p := ⟨b, 0, none⟩) (Nat.le_refl _) _).setCell (p := ⟨b, 1, none⟩) (Nat.le_refl _) _).setCell (p := ⟨b + 1, 0, none⟩) (by simp) _
theorem old_box {w : World} {p : Nat} {X : Obj} (o : Obj) (h : w.heap[p]? = some X) : (w.alloc o).heap[p]? = some X := (heap_alloc_old w o (Array.getElem?_eq_some_iff.1 h).1).trans h
theorem lift0 {w w' : World} {p : Nat} {X : Obj} (hb : Below w.heap.size w w') (h : w.heap[p]? = some X) : w'.heap[p]? = some X := (hb.block p (Array.getElem?_eq_some_iff.1 h).1).trans h
def netN (r : Option (Int × List Lk)) : Int := (r.getD (0, [])).1
def netL (r : Option (Int × List Lk)) : List Lk := (r.getD (0, [])).2
def errP (r : Option (Int × List Lk)) : Int := if r.isSome then 0 else 7
end Go.Proofs.YtmhiiomejopaoaaGreatDoor
