/- What a net, and a list of whole numbers, that came in are. -/
import Derived.Test.YtmhiiomejopaoaaGreatDoorRows
import Derived.Test.YtmhiiomejopaoaaGreatDoorB0
import Derived.WalkKit
import Derived.ProofKit
import Derived.OpenShut
import Derived.ShutString
import Derived.ChangeOld
import Derived.Below
import Derived.Deep.Slices
import Derived.Deep.Strs
import Derived.Lib.SmallJoins
namespace Go.Proofs.YtmhiiomejopaoaaGreatDoor
set_option linter.all false
set_option maxRecDepth 100000
open Go.ChangeShapes Go.WideShapes Go.ChangeAt Go.RowKit Go.Joins

theorem own : ownKnob Tryz.prog.godebug = none := by kernel_rfl
theorem laidOut : laidOutB Tryz.prog = true := by kernel_rfl
section
variable {H : Type} {enc : TypeId × Value → H} {W : World} {fuel : Nat} {x : DataW H × List MemPlace}
theorem list_of_fun {α : Type} [Inhabited α] (n : Nat) (f : Nat → α) : ((List.range n).map f).length = n ∧ ∀ i : Nat, i < n → ((List.range n).map f).getD i default = f i := by
  refine ⟨by simp, fun i hi => by simp [List.getD_eq_getElem?_getD, hi]⟩
theorem open_lks {cs : List Value} (h : DataW.trod enc Tryz.prog W 0 (fun _ => true) true fuel 22 cs = some x) :
    ∃ (A : Option Addr) (c : Nat) (l : List Lk), cs = [.slice A l.length c] ∧ LksAt W A l ∧ (A = none → l.length = 0 ∧ c = 0) ∧ l.length ≤ 9223372036854775807 := by
  rcases Deep.open_slice Tryz.underlying22 h with ⟨rfl, rfl⟩ | ⟨a, len, cap, m, n, D, Pl, rfl, hb, hl, hm, hmm, rfl, hx⟩
  · exact ⟨none, 0, [], rfl, fun i h0 hi => by simp at hi; omega, fun _ => ⟨rfl, rfl⟩, by simp⟩
  · have hmc : m = cap := by simpa using hmm
    have each : ∀ i, i < len → ∃ k : Lk, W.cell? (a.add (i * 3)) = some (.int .i64 k.a) ∧ W.cell? (a.add (i * 3 + 1)) = some (.int .i64 k.b) ∧ W.cell? (a.add (i * 3 + 2)) = some (.int .i64 k.m) := by
      intro i hi
      obtain ⟨cs', h1, h2⟩ := hx i (by omega)
      rw [show Tryz.prog.cellsOf 51 = 3 by kernel_rfl] at h1
      obtain ⟨_, hlen, hc⟩ := World.cells?_some h1
      match cs', hlen with
      | [v0, v1, v2], _ =>
        obtain ⟨y0, y1, y2, n', _, _, t0, t1, t2⟩ := Deep.trod_struct3 Tryz.underlying51 h2
        simp only [show Tryz.prog.cellsOf 3 = 1 by kernel_rfl, List.drop_zero, List.drop_succ_cons, List.take_succ_cons, List.take_zero] at t0 t1 t2
        obtain ⟨k0, e0, _, _⟩ := DataW.trod_int Tryz.underlying3 t0
        obtain ⟨k1, e1, _, _⟩ := DataW.trod_int Tryz.underlying3 t1
        obtain ⟨k2, e2, _, _⟩ := DataW.trod_int Tryz.underlying3 t2
        simp only [List.cons.injEq, and_true] at e0 e1 e2
        subst e0 e1 e2
        have c0 := hc 0 (by omega)
        have c1 := hc 1 (by omega)
        have c2 := hc 2 (by omega)
        rw [Deep.add_add] at c0 c1 c2
        exact ⟨⟨k0, k1, k2⟩, by simpa using c0, by simpa using c1, by simpa using c2⟩
    obtain ⟨f, hf⟩ := Deep.choose_lt each
    obtain ⟨e1, e2⟩ := list_of_fun len f
    refine ⟨some a, cap, (List.range len).map f, by rw [e1], ?_, (fun e => by cases e), ?_⟩
    · intro i h0 hi
      rw [e1] at hi
      have hi' : i.toNat < len := by omega
      obtain ⟨c0, c1, c2⟩ := hf _ hi'
      have hg : gl ((List.range len).map f) i = f i.toNat := e2 _ hi'
      rw [hg]
      obtain ⟨b, o, s⟩ := a
      have hs : s = none := by
        have := World.cell?_spot (hf 0 (by omega)).1
        simpa [Addr.add] using this
      subst hs
      have ha : ∀ j, (⟨b, o, none⟩ : Addr).add j = ⟨b, o + j, none⟩ := fun j => by unfold Addr.add; split <;> simp_all
      simp only [ha, ← Nat.add_assoc] at c0 c1 c2
      exact ⟨b, o, rfl, c0, c1, c2⟩
    · rw [e1]
      unfold maxLen at hm
      omega
theorem open_intl {cs : List Value} (h : DataW.trod enc Tryz.prog W 0 (fun _ => true) true fuel 38 cs = some x) :
    ∃ (A : Option Addr) (c : Nat) (l : List Int), cs = [.slice A l.length c] ∧ IntsAt W A l ∧ (A = none → l.length = 0 ∧ c = 0) ∧ l.length ≤ 9223372036854775807 ∧ ∀ v ∈ l, -9223372036854775808 ≤ v ∧ v ≤ 9223372036854775807 := by
  rcases open_ints Tryz.underlying38 Tryz.underlying3 (by kernel_rfl) h with ⟨rfl, rfl⟩ | ⟨a, len, cap, zs, rfl, hb, hl, hm, hz, rfl, hc, hw⟩
  · exact ⟨none, 0, [], rfl, fun i h0 hi => by simp at hi; omega, fun _ => ⟨rfl, rfl⟩, by simp, by simp⟩
  · have hz' : zs.length = cap := by simpa using hz
    have hlen : (zs.take len).length = len := by simp; omega
    refine ⟨some a, cap, zs.take len, by rw [hlen], ?_, (fun e => by cases e), ?_, ?_⟩
    · intro i h0 hi
      rw [hlen] at hi
      have hi' : i.toNat < len := by omega
      have c0 := hc i.toNat (by omega)
      have hg : gi (zs.take len) i = zs.getD i.toNat 0 := by
        simp only [gi, List.getD_eq_getElem?_getD, List.getElem?_take, if_pos hi']
      rw [hg]
      obtain ⟨b, o, s⟩ := a
      have hs : s = none := by
        have := World.cell?_spot (hc 0 (by omega))
        simpa [Addr.add] using this
      subst hs
      have ha : ∀ j, (⟨b, o, none⟩ : Addr).add j = ⟨b, o + j, none⟩ := fun j => by unfold Addr.add; split <;> simp_all
      rw [ha] at c0
      exact ⟨b, o, rfl, c0⟩
    · rw [hlen]
      unfold maxLen at hm
      omega
    · intro v hv
      exact bounds_i64 (hw v (List.mem_of_mem_take hv))
end
end Go.Proofs.YtmhiiomejopaoaaGreatDoor
