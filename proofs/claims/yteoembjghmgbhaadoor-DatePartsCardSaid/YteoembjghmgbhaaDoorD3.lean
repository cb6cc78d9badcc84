/- What a list of spans that came in is. -/
import Derived.Test.YteoembjghmgbhaaDoorD0
namespace Go.Proofs.YteoembjghmgbhaaDoor
set_option linter.all false
open Go.ChangeShapes Go.WideShapes Go.ChangeAt Go.RowKit Go.Joins

section
variable {H : Type} {enc : TypeId × Value → H} {W : World} {fuel : Nat} {x : DataW H × List MemPlace}
theorem list_of_fun {α : Type} [Inhabited α] (n : Nat) (f : Nat → α) : ((List.range n).map f).length = n ∧ ∀ i : Nat, i < n → ((List.range n).map f).getD i default = f i := by
  refine ⟨by simp, fun i hi => by simp [List.getD_eq_getElem?_getD, hi]⟩
theorem open_sps {cs : List Value} (h : DataW.trod enc Tryd.prog W 0 (fun _ => true) true fuel 54 cs = some x) :
    ∃ (A : Option Addr) (c : Nat) (l : List Sp), cs = [.slice A l.length c] ∧ SpsAt W A l ∧ (A = none → l.length = 0 ∧ c = 0) ∧ l.length ≤ 9223372036854775807 := by
  rcases Deep.open_slice Tryd.underlying54 h with ⟨rfl, rfl⟩ | ⟨a, len, cap, m, n, D, Pl, rfl, hb, hl, hm, hmm, rfl, hx⟩
  · exact ⟨none, 0, [], rfl, fun i h0 hi => by simp at hi; omega, fun _ => ⟨rfl, rfl⟩, by simp⟩
  · have hmc : m = cap := by simpa using hmm
    have each : ∀ i, i < len → ∃ k : Sp, W.cell? (a.add (i * 2)) = some (.int .i64 k.lo) ∧ W.cell? (a.add (i * 2 + 1)) = some (.int .i64 k.hi) := by
      intro i hi
      obtain ⟨cs', h1, h2⟩ := hx i (by omega)
      rw [show Tryd.prog.cellsOf 37 = 2 by kernel_rfl] at h1
      obtain ⟨_, hlen, hc⟩ := World.cells?_some h1
      match cs', hlen with
      | [v0, v1], _ =>
        obtain ⟨y0, y1, n', _, _, t0, t1⟩ := trod_struct2 Tryd.underlying37 h2
        simp only [show Tryd.prog.cellsOf 3 = 1 by kernel_rfl, List.drop_zero, List.drop_succ_cons, List.take_succ_cons, List.take_zero] at t0 t1
        obtain ⟨k0, e0, _, _⟩ := DataW.trod_int Tryd.underlying3 t0
        obtain ⟨k1, e1, _, _⟩ := DataW.trod_int Tryd.underlying3 t1
        simp only [List.cons.injEq, and_true] at e0 e1
        subst e0 e1
        have c0 := hc 0 (by omega)
        have c1 := hc 1 (by omega)
        rw [Deep.add_add] at c0 c1
        exact ⟨⟨k0, k1⟩, by simpa using c0, by simpa using c1⟩
    obtain ⟨f, hf⟩ := Deep.choose_lt each
    obtain ⟨e1, e2⟩ := list_of_fun len f
    refine ⟨some a, cap, (List.range len).map f, by rw [e1], ?_, (fun e => by cases e), ?_⟩
    · intro i h0 hi
      rw [e1] at hi
      have hi' : i.toNat < len := by omega
      obtain ⟨c0, c1⟩ := hf _ hi'
      have hg : gs ((List.range len).map f) i = f i.toNat := e2 _ hi'
      rw [hg]
      obtain ⟨b, o, s⟩ := a
      have hs : s = none := by
        have := World.cell?_spot (hf 0 (by omega)).1
        simpa [Addr.add] using this
      subst hs
      have ha : ∀ j, (⟨b, o, none⟩ : Addr).add j = ⟨b, o + j, none⟩ := fun j => by unfold Addr.add; split <;> simp_all
      simp only [ha, ← Nat.add_assoc] at c0 c1
      exact ⟨b, o, rfl, c0, c1⟩
    · rw [e1]
      unfold maxLen at hm
      omega
theorem open_spsr {cs : List Value} (h : DataW.trod enc Tryd.prog W 0 (fun _ => true) true fuel 54 cs = some x) :
    ∃ (A : Option Addr) (c : Nat) (l : List Sp), cs = [.slice A l.length c] ∧ SpsAt W A l ∧ (A = none → l.length = 0 ∧ c = 0) ∧ l.length ≤ 9223372036854775807 ∧ l.length ≤ c := by
  obtain ⟨A, c, l, rfl, h1, h2, h3⟩ := open_sps h
  refine ⟨A, c, l, rfl, h1, h2, h3, ?_⟩
  rcases Deep.open_slice Tryd.underlying54 h with ⟨e, -⟩ | ⟨a, len, cap, m, n, D, Pl, e, hb, hl, -⟩
  · simp only [List.cons.injEq, Value.slice.injEq, and_true] at e
    omega
  · simp only [List.cons.injEq, Value.slice.injEq, and_true] at e
    omega
end
end Go.Proofs.YteoembjghmgbhaaDoor
