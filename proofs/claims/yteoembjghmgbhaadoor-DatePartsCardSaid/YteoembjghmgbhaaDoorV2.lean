/- The date walks: Cut. -/
import Derived.Test.YteoembjghmgbhaaDoorV1
import Derived.Deep.DeepCutAuto
import Derived.Deep.RegionWith
namespace Go.Proofs.YteoembjghmgbhaaDoor
set_option linter.all false
open Go.RowKit

/-! ### What goes outside a round goes in it -/
theorem rowsIn_wide' {n : Nat} {P : Program} {row : String} {args : Array Value} {w : World} {R : Value → World → Prop} (h : Rows P row args w R) : RowsIn Fence.wide n P row args w R :=
  fun c cs _ => let ⟨v, w', r, s⟩ := h c cs; ⟨v, w', r, stepsIn_wide.2 s⟩
theorem upIn_of_up {l n : Nat} {P : Program} {o : Oper} {a : Act} {next : Act → World → Prop} {Q : Exit → Act → World → Prop} {r : Result Next} (h : o.upon P a next Q r) : o.uponIn (Fence.wide.inRound l) n P a next Q r := by
  rcases r with ⟨v, w'⟩ | ⟨hh, w'⟩
  · cases v with
    | value v => exact h
    | skip => exact h
    | defer d => exact h
    | enter f args => exact ⟨fun e => by simp [Fence.wide] at e, CallsIn.inRound l (callsIn_wide.2 h)⟩
    | row row args => exact ⟨fun e => by simp [Fence.wide] at e, rowsIn_wide' h⟩
    | _ => exact (h : False).elim
  · cases hh <;> first | exact h | exact h.elim
def noDefer (l : List Oper) : Bool := l.all fun o => match o.op with | .defer _ => false | _ => true
theorem noDefer_spec {l : List Oper} (h : noDefer l = true) : ∀ o ∈ l, ∀ c, o.op ≠ .defer c := by
  intro o ho c e
  have := List.all_eq_true.1 h o ho
  rw [e] at this
  cases this
theorem listIn_of_list {l n : Nat} {P : Program} {ops : Array Oper} {Q : Exit → Act → World → Prop} (hq : ¬ LetsOut Q) : ∀ (L : List Oper), (∀ o ∈ L, ∀ c, o.op ≠ .defer c) → ∀ (a : Act) (w : World), wpList P ops Q L a w → wpListIn (Fence.wide.inRound l) n P ops Q L a w
  | [], _, _, _, h => h
  | o :: rest, hd, a, w, h => by
    unfold wpList at h
    unfold wpListIn
    by_cases hw : Region.wanted o (yielded ops a.tmps) = true
    · rw [if_pos hw] at h ⊢
      rcases h with h | ⟨_, h⟩
      · refine ⟨fun _ _ => trivial, ?_⟩
        rw [Oper.semAt_eq _ _ _ (hd o List.mem_cons_self)]
        exact upIn_of_up (Oper.wp_mono (o := o) (fun a w h => listIn_of_list hq rest (fun o ho => hd o (List.mem_cons_of_mem _ ho)) a w h) h)
      · exact (hq h).elim
    · rw [if_neg hw] at h ⊢
      exact ⟨fun _ _ => trivial, listIn_of_list hq rest (fun o ho => hd o (List.mem_cons_of_mem _ ho)) _ _ h⟩
theorem list_round {l n : Nat} {P : Program} {ops : Array Oper} {Q : Exit → Act → World → Prop} {L : List Oper} {a : Act} {w : World} (hd : noDefer L = true) (hq : ¬ LetsOut Q) (h : wpList P ops Q L a w) : wpListIn (Fence.wide.inRound l) n P ops Q L a w :=
  listIn_of_list hq L (noDefer_spec hd) a w h
/-! ### parts -/
theorem parts_any (s : Sp) (w : World) : Calls Tryd.prog 72 #[spv s] w fun e w' => e = .returned (.func (.func 83) #[] #[.pointer (some ⟨w.heap.size, 0, none⟩)]) ∧ w' = w.alloc (.cells #[.int .i64 s.lo, .int .i64 s.hi] 37) := by
  obtain ⟨a, b⟩ := s
  unfold spv
  go_enter Tryd.func72, Tryd.ntmps72
  go_wp2
  go_ret
  simp
/-- The list that Cut gathers: its box, its row. -/
structure OutSt (B N : Nat) (w0 W : World) (acc : List Sp) : Prop where
  own : ∃ v, W.heap[B]? = some (.cells #[v] 54 (0, 0)) ∧ W.ownsRow N 37 2 v acc.length (spcs acc)
  size : N ≤ W.heap.size
  below : Below B w0 W
theorem ownsRow_bel {B : Nat} {e : TypeId} {k : Nat} {v : Value} {n : Nat} {xs : List Value} {w w' : World} (h : w.ownsRow B e k v n xs) (hb : Below w.heap.size w w') : w'.ownsRow B e k v n xs := by
  refine ⟨h.1, ?_⟩
  rcases h.2 with h2 | ⟨g, cap, cur, e1, e2, e3, r⟩
  · exact .inl h2
  · exact .inr ⟨g, cap, cur, e1, e2, (hb.block g (Array.getElem?_eq_some_iff.1 e3).1).trans e3, r⟩
theorem ownsRow_putObj {B : Nat} {e : TypeId} {k : Nat} {v : Value} {n : Nat} {xs : List Value} {w : World} (h : w.ownsRow B e k v n xs) {l : Nat} {o : Obj} (o' : Obj) (hl : w.heap[l]? = some o) (ho : o.isCells = false) : (w.putObj l o').ownsRow B e k v n xs := by
  refine ⟨h.1, ?_⟩
  rcases h.2 with h2 | ⟨g, cap, cur, e1, e2, e3, r⟩
  · exact .inl h2
  · refine .inr ⟨g, cap, cur, e1, e2, ?_, r⟩
    rw [World.putObj_heap_other (fun e => by subst e; rw [e3] at hl; cases hl; cases ho)]
    exact e3
theorem OutSt.step {B N : Nat} {w0 A A' : World} {acc : List Sp} (h : OutSt B N w0 A acc) (hb : Below A.heap.size A A') (hB : B ≤ N) : OutSt B N w0 A' acc := by
  obtain ⟨v, h1, h2⟩ := h.own
  exact ⟨⟨v, (hb.block B (Array.getElem?_eq_some_iff.1 h1).1).trans h1, ownsRow_bel h2 hb⟩, Nat.le_trans h.size hb.size, h.below.trans (hb.mono (Nat.le_trans hB h.size))⟩
theorem OutSt.putObj {B N : Nat} {w0 A : World} {acc : List Sp} (h : OutSt B N w0 A acc) {l : Nat} {o : Obj} (o' : Obj) (hl : A.heap[l]? = some o) (ho : o.isCells = false) (hB : B < l) : OutSt B N w0 (A.putObj l o') acc := by
  obtain ⟨v, h1, h2⟩ := h.own
  refine ⟨⟨v, (World.putObj_heap_other (by omega)).trans h1, ownsRow_putObj h2 o' hl ho⟩, by have := h.size; simpa using this, ?_⟩
  have hb := h.below
  exact ⟨hb.os, hb.tape, hb.output, by have := hb.size; simpa using this, fun k hk => (World.putObj_heap_other (by omega)).trans (hb.block k hk)⟩
theorem setCell_other {w : World} {B k : Nat} (h : k ≠ B) (o : Nat) (v : Value) : (w.setCell ⟨B, o, none⟩ v).heap[k]? = w.heap[k]? := by
  simp [World.setCell, Array.getElem?_modify, Ne.symm h]
end Go.Proofs.YteoembjghmgbhaaDoor
