/- A range over a function whose body may return, for an iterator that writes one cell of its own. -/
import Derived.Test.YtmhiiomejopaoaaGreatDoorB0
import Derived.RangeFuncNested
import Derived.RangeFuncBound
import Derived.RangeFuncCalls
import Derived.RangeFuncLeaves
import Derived.OwnWalkIn
import Derived.TacticsInMore
import Derived.LoopNIn
import Derived.LoopIn
namespace Go.Proofs.YtmhiiomejopaoaaGreatDoor
set_option linter.all false
open Go.RowKit

/-- What a round must leave of the iterator's own cell. -/
def KeepX (bs : Nat) (A B : World) : Prop := ∀ o, A.heap[bs]? = some o → o.isCells = true → B.heap[bs]? = some o
theorem KeepX.refl (bs : Nat) (A : World) : KeepX bs A A := fun _ h _ => h
theorem KeepX.trans {bs : Nat} {A B C : World} (h : KeepX bs A B) (k : KeepX bs B C) : KeepX bs A C := fun o ho hc => k o (h o ho hc) hc
theorem KeepX.alloc {bs : Nat} (A : World) (o : Obj) : KeepX bs A (A.alloc o) := fun x hx _ => (Below.heap_alloc _ _ _ (Array.getElem?_eq_some_iff.1 hx).1).trans hx
theorem KeepX.putObj {bs : Nat} {A : World} {l : Nat} {o : Obj} (o' : Obj) (hl : A.heap[l]? = some o) (ho : o.isCells = false) : KeepX bs A (A.putObj l o') := fun x hx hc => by
  by_cases e : l = bs
  · subst e
    rw [hl] at hx
    cases hx
    rw [ho] at hc
    cases hc
  · exact (World.putObj_heap_other (fun e' => e e'.symm)).trans hx
/-- The iterator hands over xs, one after the other; a round may say 'no more'. -/
def SeqX {α : Type} (n : Nat) (P : Program) (g : Nat) (lb : Array Value) (encs : α → Array Value) (bs : Nat) (xs : List α) (w : World) : Prop :=
  ∀ (l : Nat) (J : List α → World → Prop) (Jx : World → Prop) (W : World), Below w.heap.size w W →
    (∀ s A B, J s A → A.grownBy B (some bs) → J s B) → (∀ A B, Jx A → A.grownBy B (some bs) → Jx B) →
    (∀ pre x W1, J pre W1 → (pre ++ [x]) <+: xs → YieldAt Fence.wide (n - 1) P l (encs x) W1 fun e W' => (e = .returned (.bool true) ∧ J (pre ++ [x]) W' ∧ KeepX bs W1 W') ∨ (e = .returned (.bool false) ∧ Jx W')) →
    J [] W → CallsIn Fence.wide n P g (#[.func (.yield l) #[] #[]] ++ lb) W fun e W' => (∃ v, e = .returned v) ∧ (J xs W' ∨ Jx W')
/-- How a body ends. -/
def xPost (B bs : Nat) (I Ix : World → Prop) (W : World) : Exit → Act → World → Prop
  | .normal, _, W' => KeepsFrom B W W' ∧ KeepX bs W W' ∧ I W'
  | .ret, _, W' => KeepsFrom B W W' ∧ Ix W'
  | _, _, _ => False

theorem wp_rangeX {α : Type} {P : Program} {n : Nat} {g : Operand} {ps : Array Tmp} {assign body : Code} {Q : Exit → Act → World → Prop} {a : Act} {w : World}
    (h1 : 1 ≤ n) {gf : Nat} {lb : Array Value} (hg : a.eval g = .func (.func gf) #[] lb) (eg : ∀ args w, (callFunc gf args).run P w = .ok (.enter gf args) w)
    {encs : α → Array Value} {bs : Nat} {xs : List α} (hseq : SeqX (n - 1) P gf lb encs bs xs w) (hbs : bs < w.heap.size) (hps : ∀ x, (encs x).size = ps.size)
    (I : List α → World → Prop) (Ix : World → Prop) (hI : ∀ s A B, I s A → A.grownBy B (some bs) → I s B) (hIx : ∀ A B, Ix A → A.grownBy B (some bs) → Ix B)
    (hIl : ∀ s W l o o', w.heap.size ≤ l → W.heap[l]? = some o → o.isCells = false → I s W → I s (W.putObj l o')) (hIxl : ∀ W l o o', w.heap.size ≤ l → W.heap[l]? = some o → o.isCells = false → Ix W → Ix (W.putObj l o')) (h0 : I [] w)
    (a₁ : α → Act)
    (hassign : ∀ (l : Nat) (x : α) (W : World) (K : Act → World → Prop), K (a₁ x) W →
      assign.wpIn (Fence.wide.inRound l) (n - 1 - 1) P (Exit.then K (fun _ _ _ => False)) { tmps := (ps.zip (encs x)).foldl (fun t (p, v) => t.setIfInBounds p v) a.tmps, defers := [] } W)
    (hbody : ∀ (l : Nat) (pre : List α) (x : α) (W : World), I pre W → (pre ++ [x]) <+: xs →
      body.wpIn (Fence.wide.inRound l) (n - 1 - 1) P (xPost w.heap.size bs (I (pre ++ [x])) Ix W) (a₁ x) W)
    (hdone : ∀ (D : Nat) (W : World), w.heap.size ≤ D → I xs W → W.heap[D]? = some (.deferred (some [])) → Q .normal { a with defers := { target := .collected D, args := #[] } :: a.defers } W)
    (hstop : ∀ (D : Nat) (W : World), w.heap.size ≤ D → Ix W → W.heap[D]? = some (.deferred (some [])) → Q .ret { a with defers := { target := .collected D, args := #[] } :: a.defers } W)
    : (Code.rangeFunc g ps assign body).wp P Q a w := by
  refine (wpIn_wide (n := n)).1 ?_
  refine wpIn_rangeFunc ?_
  intro fn hfn
  rw [Fence.wide_round]
  obtain ⟨rec, hrec⟩ : ∃ rec : LoopState → Option Code → Loop, rec = fun st pe => { state := st, pending := pe, fn, tmps := a.tmps, params := ps, assign, body, defers := w.heap.size } := ⟨_, rfl⟩
  obtain ⟨W1, hW1⟩ : ∃ W1, (w.alloc (.deferred (some []))).alloc (.loop (rec .ready none)) = W1 := ⟨_, rfl⟩
  have hL1 : W1.heap[w.heap.size + 1]? = some (.loop (rec .ready none)) := by
    rw [← hW1]; have := World.alloc_heap_new (w.alloc (.deferred (some []))) (.loop (rec .ready none)); rwa [World.size_alloc] at this
  have hK1 : W1.heap[w.heap.size]? = some (.deferred (some [])) := by
    rw [← hW1]; exact (Below.heap_alloc _ _ _ (by simp)).trans (World.alloc_heap_new w _)
  have gr : ∀ (W : World) (o : Obj), W.grownBy (W.alloc o) (some bs) := fun W o => World.grownBy_alloc W o _
  have hIa : ∀ s W o, I s W → I s (W.alloc o) := fun s W o h => hI s W _ h (gr W o)
  have hI1 : I [] W1 := by rw [← hW1]; exact hIa _ _ _ (hIa _ _ _ h0)
  have hb1 : Below w.heap.size w W1 := by
    rw [← hW1]; exact ((((Below.refl _ w).alloc (Nat.le_refl _) _).alloc (by simp) _))
  have hkeep : ∀ {A B : World} {k : Nat} {o : Obj}, A.grownBy B (some bs) → w.heap.size ≤ k → A.heap[k]? = some o → B.heap[k]? = some o := by
    intro A B k o hg hk ho
    exact (hg.block k (Array.getElem?_eq_some_iff.1 ho).1 (fun e => by injection e with e; omega)).trans ho
  refine ⟨w.heap.size + 1, [{ target := .collected w.heap.size, args := #[] }], W1, { target := .fn (.func gf) lb, args := #[.func (.yield (w.heap.size + 1)) #[] #[]] }, W1, gf,
    #[.func (.yield (w.heap.size + 1)) #[] #[]] ++ lb, W1, ?_, ?_, ?_, ?_, fun _ => h1, ?_⟩
  · rw [← hW1, hrec]; exact run_enterLoop_outer _ _ _ _ _
  · simp only [resolve, hg]
    simp [go_sem]
  · intro f' _; trivial
  · simp [invoke, go_sem, eg]
  · refine (hseq (w.heap.size + 1)
      (fun pre W => I pre W ∧ W.heap[w.heap.size + 1]? = some (.loop (rec .ready none)) ∧ W.heap[w.heap.size]? = some (.deferred (some [])))
      (fun W => Ix W ∧ W.heap[w.heap.size + 1]? = some (.loop (rec .done (some .ret))) ∧ W.heap[w.heap.size]? = some (.deferred (some [])))
      W1 hb1
      (fun s A B hs hg' => ⟨hI s A B hs.1 hg', hkeep hg' (by omega) hs.2.1, hkeep hg' (by omega) hs.2.2⟩)
      (fun A B hs hg' => ⟨hIx A B hs.1 hg', hkeep hg' (by omega) hs.2.1, hkeep hg' (by omega) hs.2.2⟩)
      ?_ ⟨hI1, hL1, hK1⟩).mono ?_
    · rintro pre x W ⟨hi, hl, hk⟩ hpre
      have hlt : w.heap.size + 1 < W.heap.size := (Array.getElem?_eq_some_iff.1 hl).1
      have hy := run_yield (P := P) (args := encs x) hl (by rw [hrec]; exact hps x)
      rw [hrec] at hy
      refine ⟨fn, _, assign, body, hy, roundIn_of_wpIn hfn (hassign _ x W _ ⟨_, run_beginRound hl (by rw [hrec]), ?_⟩)⟩
      clear hy
      have hl2 : (W.putObj (w.heap.size + 1) (.loop { rec .ready none with state := .busy })).heap[w.heap.size + 1]? = some (.loop { rec .ready none with state := .busy }) := World.putObj_heap_same hlt
      have hk2 : (W.putObj (w.heap.size + 1) (.loop { rec .ready none with state := .busy })).heap[w.heap.size]? = some (.deferred (some [])) := (World.putObj_heap_other (by omega)).trans hk
      have hw2 : KeepX bs W (W.putObj (w.heap.size + 1) (.loop { rec .ready none with state := .busy })) := KeepX.putObj _ hl rfl
      refine wpIn_mono (hbody _ pre x _ (hIl _ _ _ _ _ (by omega) hl rfl hi) hpre) ?_
      rintro e a3 W3 hp
      cases e with
      | normal =>
        obtain ⟨hk3, hkp3, hi3⟩ := hp
        have hl3 := hk3.same _ _ (by omega) hl2 rfl
        have hkk3 := hk3.same _ _ (Nat.le_refl _) hk2 rfl
        have hr := run_endRound (P := P) none hl3
        rw [hrec] at hr
        refine ⟨_, _, hr, .inl ⟨rfl, ⟨hIl _ _ _ _ _ (by omega) hl3 rfl hi3, ?_, (World.putObj_heap_other (by omega)).trans hkk3⟩, (hw2.trans hkp3).trans (KeepX.putObj _ hl3 rfl)⟩⟩
        rw [hrec]
        exact World.putObj_heap_same (Array.getElem?_eq_some_iff.1 hl3).1
      | ret =>
        obtain ⟨hk3, hi3⟩ := hp
        have hl3 := hk3.same _ _ (by omega) hl2 rfl
        have hkk3 := hk3.same _ _ (Nat.le_refl _) hk2 rfl
        have hr := run_endRound (P := P) (some .ret) hl3
        rw [hrec] at hr
        refine ⟨_, _, hr, .inr ⟨rfl, hIxl _ _ _ _ (by omega) hl3 rfl hi3, ?_, (World.putObj_heap_other (by omega)).trans hkk3⟩⟩
        rw [hrec]
        exact World.putObj_heap_same (Array.getElem?_eq_some_iff.1 hl3).1
      | exit id => exact hp.elim
      | goto t => exact hp.elim
      | panic ch => exact hp.elim
      | outgrown => exact hp.elim
    · rintro e W2 ⟨⟨v, rfl⟩, ⟨hi, hl, hk⟩ | ⟨hi, hl, hk⟩⟩
      · exact ⟨none, _, by have := run_endLoop (P := P) hl (by rw [hrec]; simp); rw [hrec] at this; exact this, hdone _ _ (Nat.le_refl _) (hIl _ _ _ _ _ (by omega) hl rfl hi) ((World.putObj_heap_other (by omega)).trans hk)⟩
      · exact ⟨some .ret, _, by have := run_endLoop (P := P) hl (by rw [hrec]; simp); rw [hrec] at this; exact this, wpIn_ret (hstop _ _ (Nat.le_refl _) (hIxl _ _ _ _ (by omega) hl rfl hi) ((World.putObj_heap_other (by omega)).trans hk))⟩
theorem zip_oneX {α β γ : Type} (s : α) (v : β) (f : γ → α × β → γ) (t : γ) : ((#[s] : Array α).zip #[v]).foldl f t = f t (s, v) := by
  rw [← Array.foldl_toList]
  simp [Array.toList_zip]
/-- One loop variable, kept in a slot. -/
theorem wp_rangeX1 {α : Type} {P : Program} {n : Nat} {g : Operand} {ps : Tmp} {assign body : Code} {Q : Exit → Act → World → Prop} {ts : Array Value} {ds : List Deferred} {w : World}
    (h1 : 1 ≤ n) {gf : Nat} {lb : Array Value} (hg : ({ tmps := ts, defers := ds } : Act).eval g = .func (.func gf) #[] lb) (eg : ∀ args w, (callFunc gf args).run P w = .ok (.enter gf args) w)
    {enc : α → Value} {bs : Nat} {xs : List α} (hseq : SeqX (n - 1) P gf lb (fun x => #[enc x]) bs xs w) (hbs : bs < w.heap.size) (slot : Nat)
    (I : List α → World → Prop) (Ix : World → Prop) (hI : ∀ s A B, I s A → A.grownBy B (some bs) → I s B) (hIx : ∀ A B, Ix A → A.grownBy B (some bs) → Ix B)
    (hIl : ∀ s W l o o', w.heap.size ≤ l → W.heap[l]? = some o → o.isCells = false → I s W → I s (W.putObj l o')) (hIxl : ∀ W l o o', w.heap.size ≤ l → W.heap[l]? = some o → o.isCells = false → Ix W → Ix (W.putObj l o')) (h0 : I [] w)
    (hassign : ∀ (l : Nat) (x : α) (W : World) (K : Act → World → Prop), K { tmps := (ts.setIfInBounds ps (enc x)).setIfInBounds slot (enc x), defers := [] } W →
      assign.wpIn (Fence.wide.inRound l) (n - 1 - 1) P (Exit.then K (fun _ _ _ => False)) { tmps := ts.setIfInBounds ps (enc x), defers := [] } W)
    (hbody : ∀ (l : Nat) (pre : List α) (x : α) (W : World), I pre W → (pre ++ [x]) <+: xs →
      body.wpIn (Fence.wide.inRound l) (n - 1 - 1) P (xPost w.heap.size bs (I (pre ++ [x])) Ix W) { tmps := (ts.setIfInBounds ps (enc x)).setIfInBounds slot (enc x), defers := [] } W)
    (hdone : ∀ (D : Nat) (W : World), w.heap.size ≤ D → I xs W → W.heap[D]? = some (.deferred (some [])) → Q .normal { tmps := ts, defers := { target := .collected D, args := #[] } :: ds } W)
    (hstop : ∀ (D : Nat) (W : World), w.heap.size ≤ D → Ix W → W.heap[D]? = some (.deferred (some [])) → Q .ret { tmps := ts, defers := { target := .collected D, args := #[] } :: ds } W)
    : (Code.rangeFunc g #[ps] assign body).wp P Q { tmps := ts, defers := ds } w := by
  refine wp_rangeX (encs := fun x => #[enc x]) h1 hg eg hseq hbs (fun _ => rfl) I Ix hI hIx hIl hIxl h0 (fun x => { tmps := (ts.setIfInBounds ps (enc x)).setIfInBounds slot (enc x), defers := [] }) ?_ hbody hdone hstop
  intro l x W K hK
  rw [zip_oneX]
  exact hassign l x W K hK
end Go.Proofs.YtmhiiomejopaoaaGreatDoor
