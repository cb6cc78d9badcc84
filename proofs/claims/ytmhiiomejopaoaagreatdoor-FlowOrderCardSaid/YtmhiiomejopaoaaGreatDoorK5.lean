/- A range over a function whose body never leaves, for an iterator that writes cells of its own. -/
import Derived.Test.YtmhiiomejopaoaaGreatDoorK4
namespace Go.Proofs.YtmhiiomejopaoaaGreatDoor
set_option linter.all false
set_option maxRecDepth 100000
open Go.RowKit

/-- The iterator hands over xs, one after the other, to a loop body that always goes on. -/
def SeqC {α : Type} (n : Nat) (P : Program) (g : Nat) (lb : Array Value) (encs : α → Array Value) (Kp : World → World → Prop) (xs : List α) (w : World) : Prop :=
  ∀ (l : Nat) (J : List α → World → Prop) (W : World), Below w.heap.size w W →
    (∀ s A B row, J s A → A.grownBy B row → (∀ r, row = some r → W.heap.size ≤ r) → J s B) →
    (∀ pre x W1, J pre W1 → (pre ++ [x]) <+: xs → YieldAt Fence.wide (n - 1) P l (encs x) W1 fun e W' => e = .returned (.bool true) ∧ J (pre ++ [x]) W' ∧ Kp W1 W') →
    J [] W → CallsIn Fence.wide n P g (#[.func (.yield l) #[] #[]] ++ lb) W fun e W' => (∃ v, e = .returned v) ∧ J xs W'

/-- How a body that always goes on ends. -/
def goPost (B : Nat) (Kp : World → World → Prop) (I : World → Prop) (W : World) : Exit → Act → World → Prop
  | .normal, _, W' => KeepsFrom B W W' ∧ Kp W W' ∧ I W'
  | _, _, _ => False

theorem wp_range {α : Type} {P : Program} {n : Nat} {g : Operand} {ps : Array Tmp} {assign body : Code} {Q : Exit → Act → World → Prop} {a : Act} {w : World}
    (h1 : 1 ≤ n) {gf : Nat} {lb : Array Value} (hg : a.eval g = .func (.func gf) #[] lb) (eg : ∀ args w, (callFunc gf args).run P w = .ok (.enter gf args) w)
    {encs : α → Array Value} {Kp : World → World → Prop} {xs : List α} {w0 : World} (hseq : SeqC (n - 1) P gf lb encs Kp xs w0)
    (hKt : ∀ {A B C : World}, Kp A B → Kp B C → Kp A C) (hKb : ∀ (W : World) (l : Nat) (o o' : Obj), w.heap.size ≤ l → W.heap[l]? = some o → o.isCells = false → o.isWalk = false → Kp W (W.putObj l o'))
    (hKa : ∀ (W : World) (o : Obj), Kp W (W.alloc o)) (hb0 : Below w0.heap.size w0 w) (hps : ∀ x, (encs x).size = ps.size)
    (I : List α → World → Prop) (hI : ∀ s A B row, I s A → A.grownBy B row → (∀ r, row = some r → w.heap.size ≤ r) → I s B) (h0 : I [] w)
    (obj : α → Obj) (slot : Nat)
    (hassign : ∀ (l : Nat) (x : α) (W : World) (K : Act → World → Prop), K { tmps := ((ps.zip (encs x)).foldl (fun t (p, v) => t.setIfInBounds p v) a.tmps).setIfInBounds slot (.pointer (some ⟨W.heap.size, 0, none⟩)), defers := [] } (W.alloc (obj x)) →
      assign.wpIn (Fence.wide.inRound l) (n - 1 - 1) P (Exit.then K (fun _ _ _ => False)) { tmps := (ps.zip (encs x)).foldl (fun t (p, v) => t.setIfInBounds p v) a.tmps, defers := [] } W)
    (hbody : ∀ (l : Nat) (pre : List α) (x : α) (W : World) (b : Nat), w.heap.size ≤ b → b < W.heap.size → I pre W → W.heap[b]? = some (obj x) → (pre ++ [x]) <+: xs →
      body.wpIn (Fence.wide.inRound l) (n - 1 - 1) P (goPost w.heap.size Kp (I (pre ++ [x])) W) { tmps := ((ps.zip (encs x)).foldl (fun t (p, v) => t.setIfInBounds p v) a.tmps).setIfInBounds slot (.pointer (some ⟨b, 0, none⟩)), defers := [] } W)
    (hdone : ∀ (D : Nat) (W : World), w.heap.size ≤ D → I xs W → W.heap[D]? = some (.deferred (some [])) → Q .normal { a with defers := { target := .collected D, args := #[] } :: a.defers } W)
    : (Code.rangeFunc g ps assign body).wp P Q a w := by
  refine (wpIn_wide (n := n)).1 ?_
  refine wpIn_rangeFunc ?_
  intro fn hfn
  rw [Fence.wide_round]
  obtain ⟨rec, hrec⟩ : ∃ rec : LoopState → Option Code → Loop, rec = fun st pe => { state := st, pending := pe, fn, tmps := a.tmps, params := ps, assign, body, defers := w.heap.size } := ⟨_, rfl⟩
  obtain ⟨W1, hW1⟩ : ∃ W1, (w.alloc (.deferred (some []))).alloc (.loop (rec .ready none)) = W1 := ⟨_, rfl⟩
  have hs1 : W1.heap.size = w.heap.size + 2 := by rw [← hW1]; simp
  have hL1 : W1.heap[w.heap.size + 1]? = some (.loop (rec .ready none)) := by
    rw [← hW1]; have := World.alloc_heap_new (w.alloc (.deferred (some []))) (.loop (rec .ready none)); rwa [World.size_alloc] at this
  have hK1 : W1.heap[w.heap.size]? = some (.deferred (some [])) := by
    rw [← hW1]; exact (Below.heap_alloc _ _ _ (by simp)).trans (World.alloc_heap_new w _)
  have hIa : ∀ s W o, I s W → I s (W.alloc o) := fun s W o h => hI s W _ none h (World.grownBy_alloc W o none) (fun r e => by cases e)
  have hIp : ∀ s W l o, w.heap.size ≤ l → I s W → I s (W.putObj l o) := fun s W l o hl h => hI s W _ (some l) h (grownBy_putObj' W l o) (fun r e => by cases e; exact hl)
  have hI1 : I [] W1 := by rw [← hW1]; exact hIa _ _ _ (hIa _ _ _ h0)
  have hb1 : Below w0.heap.size w0 W1 := by
    rw [← hW1]; exact hb0.trans ((((Below.refl _ w).alloc (Nat.le_refl _) _).alloc (by simp) _).mono hb0.size)
  have hkeep : ∀ {A B : World} {row : Option Nat} {k : Nat} {o : Obj}, A.grownBy B row → (∀ r, row = some r → W1.heap.size ≤ r) → k < w.heap.size + 2 → A.heap[k]? = some o → B.heap[k]? = some o := by
    intro A B row k o hg hr hk ho
    refine (hg.block k (Array.getElem?_eq_some_iff.1 ho).1 (fun e => ?_)).trans ho
    have := hr k e.symm
    omega
  refine ⟨w.heap.size + 1, [{ target := .collected w.heap.size, args := #[] }], W1, { target := .fn (.func gf) lb, args := #[.func (.yield (w.heap.size + 1)) #[] #[]] }, W1, gf,
    #[.func (.yield (w.heap.size + 1)) #[] #[]] ++ lb, W1, ?_, ?_, ?_, ?_, fun _ => h1, ?_⟩
  · rw [← hW1, hrec]; exact run_enterLoop_outer _ _ _ _ _
  · simp only [resolve, hg]
    simp [go_sem]
  · intro f' _; trivial
  · simp [invoke, go_sem, eg]
  · refine (hseq (w.heap.size + 1)
      (fun pre W => I pre W ∧ W.heap[w.heap.size + 1]? = some (.loop (rec .ready none)) ∧ W.heap[w.heap.size]? = some (.deferred (some [])))
      W1 hb1
      (fun s A B row hs hg' hr => ⟨hI s A B row hs.1 hg' (fun r e => by have := hr r e; omega), hkeep hg' hr (by omega) hs.2.1, hkeep hg' hr (by omega) hs.2.2⟩)
      ?_ ⟨hI1, hL1, hK1⟩).mono ?_
    · rintro pre x W ⟨hi, hl, hk⟩ hpre
      have hlt : w.heap.size + 1 < W.heap.size := (Array.getElem?_eq_some_iff.1 hl).1
      have hy := run_yield (P := P) (args := encs x) hl (by rw [hrec]; exact hps x)
      rw [hrec] at hy
      refine ⟨fn, _, assign, body, hy, roundIn_of_wpIn hfn (hassign _ x W _ ?_)⟩
      clear hy
      have hla : (W.alloc (obj x)).heap[w.heap.size + 1]? = some (.loop (rec .ready none)) := (Below.heap_alloc _ _ _ hlt).trans hl
      have hka : (W.alloc (obj x)).heap[w.heap.size]? = some (.deferred (some [])) := (Below.heap_alloc _ _ _ (by omega)).trans hk
      have hoa : (W.alloc (obj x)).heap[W.heap.size]? = some (obj x) := World.alloc_heap_new W _
      refine ⟨_, run_beginRound hla (by rw [hrec]), ?_⟩
      have hl2 : ((W.alloc (obj x)).putObj (w.heap.size + 1) (.loop { rec .ready none with state := .busy })).heap[w.heap.size + 1]? = some (.loop { rec .ready none with state := .busy }) := World.putObj_heap_same (by simp; omega)
      have hk2 : ((W.alloc (obj x)).putObj (w.heap.size + 1) (.loop { rec .ready none with state := .busy })).heap[w.heap.size]? = some (.deferred (some [])) := (World.putObj_heap_other (by omega)).trans hka
      have ho2 : ((W.alloc (obj x)).putObj (w.heap.size + 1) (.loop { rec .ready none with state := .busy })).heap[W.heap.size]? = some (obj x) := (World.putObj_heap_other (by omega)).trans hoa
      have hw2 : Kp W ((W.alloc (obj x)).putObj (w.heap.size + 1) (.loop { rec .ready none with state := .busy })) := hKt (hKa _ _) (hKb _ _ _ _ (by omega) hla rfl rfl)
      refine wpIn_mono (hbody _ pre x _ W.heap.size (by omega) (Array.getElem?_eq_some_iff.1 ho2).1 (hIp _ _ _ _ (by omega) (hIa _ _ _ hi)) ho2 hpre) ?_
      rintro e a3 W3 hp
      cases e with
      | normal =>
        obtain ⟨hk3, hkp3, hi3⟩ := hp
        have hl3 := hk3.same _ _ (by omega) hl2 rfl
        have hkk3 := hk3.same _ _ (Nat.le_refl _) hk2 rfl
        have hr := run_endRound (P := P) none hl3
        rw [hrec] at hr
        refine ⟨_, _, hr, rfl, ⟨hIp _ _ _ _ (by omega) hi3, ?_, (World.putObj_heap_other (by omega)).trans hkk3⟩, hKt (hKt hw2 hkp3) (hKb _ _ _ _ (by omega) hl3 rfl rfl)⟩
        rw [hrec]
        exact World.putObj_heap_same (Array.getElem?_eq_some_iff.1 hl3).1
      | ret => exact hp.elim
      | exit id => exact hp.elim
      | goto t => exact hp.elim
      | panic ch => exact hp.elim
      | outgrown => exact hp.elim
    · rintro e W2 ⟨⟨v, rfl⟩, hi, hl, hk⟩
      exact ⟨none, _, by have := run_endLoop (P := P) hl (by rw [hrec]; simp); rw [hrec] at this; exact this, hdone _ _ (Nat.le_refl _) (hIp _ _ _ _ (by omega) hi) ((World.putObj_heap_other (by omega)).trans hk)⟩
theorem zip_one {α β γ : Type} (s : α) (v : β) (f : γ → α × β → γ) (t : γ) : ((#[s] : Array α).zip #[v]).foldl f t = f t (s, v) := by
  rw [← Array.foldl_toList]
  simp [Array.toList_zip]
/-- One loop variable, boxed at a slot. -/
theorem wp_range1 {α : Type} {P : Program} {n : Nat} {g : Operand} {ps : Tmp} {assign body : Code} {Q : Exit → Act → World → Prop} {ts : Array Value} {ds : List Deferred} {w : World}
    (h1 : 1 ≤ n) {gf : Nat} {lb : Array Value} (hg : ({ tmps := ts, defers := ds } : Act).eval g = .func (.func gf) #[] lb) (eg : ∀ args w, (callFunc gf args).run P w = .ok (.enter gf args) w)
    {enc : α → Value} {Kp : World → World → Prop} {xs : List α} (hseq : SeqC (n - 1) P gf lb (fun x => #[enc x]) Kp xs w)
    (hKt : ∀ {A B C : World}, Kp A B → Kp B C → Kp A C) (hKb : ∀ (W : World) (l : Nat) (o o' : Obj), w.heap.size ≤ l → W.heap[l]? = some o → o.isCells = false → o.isWalk = false → Kp W (W.putObj l o'))
    (hKa : ∀ (W : World) (o : Obj), Kp W (W.alloc o))
    (I : List α → World → Prop) (hI : ∀ s A B row, I s A → A.grownBy B row → (∀ r, row = some r → w.heap.size ≤ r) → I s B) (h0 : I [] w)
    (obj : α → Obj) (slot : Nat)
    (hassign : ∀ (l : Nat) (x : α) (W : World) (K : Act → World → Prop), K { tmps := (ts.setIfInBounds ps (enc x)).setIfInBounds slot (.pointer (some ⟨W.heap.size, 0, none⟩)), defers := [] } (W.alloc (obj x)) →
      assign.wpIn (Fence.wide.inRound l) (n - 1 - 1) P (Exit.then K (fun _ _ _ => False)) { tmps := ts.setIfInBounds ps (enc x), defers := [] } W)
    (hbody : ∀ (l : Nat) (pre : List α) (x : α) (W : World) (b : Nat), w.heap.size ≤ b → b < W.heap.size → I pre W → W.heap[b]? = some (obj x) → (pre ++ [x]) <+: xs →
      body.wpIn (Fence.wide.inRound l) (n - 1 - 1) P (goPost w.heap.size Kp (I (pre ++ [x])) W) { tmps := (ts.setIfInBounds ps (enc x)).setIfInBounds slot (.pointer (some ⟨b, 0, none⟩)), defers := [] } W)
    (hdone : ∀ (D : Nat) (W : World), w.heap.size ≤ D → I xs W → W.heap[D]? = some (.deferred (some [])) → Q .normal { tmps := ts, defers := { target := .collected D, args := #[] } :: ds } W)
    : (Code.rangeFunc g #[ps] assign body).wp P Q { tmps := ts, defers := ds } w := by
  refine wp_range (encs := fun x => #[enc x]) h1 hg eg hseq hKt hKb hKa (Below.refl _ _) (fun _ => rfl) I hI h0 obj slot ?_ ?_ hdone
  · intro l x W K hK
    rw [zip_one] at hK ⊢
    exact hassign l x W K hK
  · intro l pre x W b h2 h3 h4 h5 h6
    rw [zip_one]
    exact hbody l pre x W b h2 h3 h4 h5 h6
end Go.Proofs.YtmhiiomejopaoaaGreatDoor
