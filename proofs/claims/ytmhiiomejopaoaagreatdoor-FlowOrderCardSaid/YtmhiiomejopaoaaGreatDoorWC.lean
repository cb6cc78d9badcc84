/- The law FlowOrder: the words of the walk. -/
import Derived.Test.YtmhiiomejopaoaaGreatDoorWB
import Derived.Test.YtmhiiomejopaoaaGreatDoorWA
namespace Go.Proofs.YtmhiiomejopaoaaGreatDoor
set_option linter.all false
set_option maxRecDepth 100000
open Go.RowKit

structure OrdW (w W : World) (b p : Nat) (n : Int) (A : Option Addr) (c : Nat) (l : List Lk) (A7 : Option Addr) (c7 : Nat) (m : List Lk) (B : Option Addr) (v : List Int) : Prop where
  b6 : W.heap[b]? = some (.cells #[.int .i64 n, .slice A l.length c] 24 (0, 0))
  b22 : W.heap[p]? = some (.cells #[.int .i64 n, .slice A7 m.length c7] 24 (0, 0))
  la : LksAt W A l
  lm : LksAt W A7 m
  iv : IntsAt W B v
  bel : Below w.heap.size w W
theorem OrdW.step {w W W' : World} {b p : Nat} {n : Int} {A : Option Addr} {c : Nat} {l : List Lk} {A7 : Option Addr} {c7 : Nat} {m : List Lk} {B : Option Addr} {v : List Int} (h : OrdW w W b p n A c l A7 c7 m B v) (hb : Below W.heap.size W W') : OrdW w W' b p n A c l A7 c7 m B v :=
  ⟨lift0 hb h.b6, lift0 hb h.b22, h.la.below hb, h.lm.below hb, h.iv.below hb, below_trans h.bel hb⟩
theorem LksAt.take {w : World} {A : Option Addr} {l : List Lk} (h : LksAt w A l) (k : Nat) : LksAt w A (l.take k) := by
  intro i h0 hi
  rw [List.length_take] at hi
  obtain ⟨b, o, e, h1, h2, h3⟩ := h i h0 (by omega)
  have hg : gl (l.take k) i = gl l i := by
    have : i.toNat < k := by omega
    simp [gl, List.getD_eq_getElem?_getD, List.getElem?_take, this]
  rw [hg]
  exact ⟨b, o, e, h1, h2, h3⟩
theorem LksAt.drop {w : World} {b o : Nat} {l : List Lk} (h : LksAt w (some ⟨b, o, none⟩) l) (i : Nat) : LksAt w (some ⟨b, o + i * 3, none⟩) (l.drop i) := by
  intro j h0 hj
  rw [List.length_drop] at hj
  obtain ⟨b', o', e, h1, h2, h3⟩ := h ((i + j.toNat : Nat) : Int) (by omega) (by omega)
  cases e
  have ht : ((i + j.toNat : Nat) : Int).toNat = i + j.toNat := by omega
  have hg : gl (l.drop i) j = gl l ((i + j.toNat : Nat) : Int) := by
    unfold gl
    rw [ht, List.getD_eq_getElem?_getD, List.getD_eq_getElem?_getD, List.getElem?_drop]
  rw [hg]
  rw [ht] at h1 h2 h3
  rw [show o + (i + j.toNat) * 3 = o + i * 3 + j.toNat * 3 by omega] at h1 h2 h3
  exact ⟨b, o + i * 3, rfl, h1, h2, h3⟩
theorem addr_at (g o j : Nat) : (⟨g, o, none⟩ : Addr).add j = ⟨g, o + j, none⟩ := by unfold Addr.add; split <;> simp_all
theorem lks_from (b o n c i : Nat) (hi : i < n) (hc : n ≤ c) (W : World) : (Instr.sliceAt 22 (.slice (some ⟨b, o, none⟩) n c) (some (.int .i64 (i : Int))) none none).run Tryz.prog W = .ok (.slice (some ⟨b, o + i * 3, none⟩) (n - i) (c - i)) W := by
  refine (run_sliceAt_slice (P := Tryz.prog) (w := W) 22 _ _ _ _ (by kernel_rfl)).trans ?_
  refine (run_slice_l (P := Tryz.prog) (w := W) 22 _ _ _ (by kernel_rfl) _ _ (by omega) (by omega)).trans ?_
  rw [show Tryz.prog.elem 22 = 51 by kernel_rfl]
  have hz : (sizeOf 51).run Tryz.prog W = .ok 3 W := by kernel_rfl
  rw [hz]
  have hn : ¬ c = i := by omega
  simp [Result.andThen, sliced, hn, addr_at]
theorem lks_to (b o n c i : Nat) (hi : i < n) (hc : n ≤ c) (W : World) : (Instr.sliceAt 22 (.slice (some ⟨b, o, none⟩) n c) none (some (.int .i64 (i : Int))) none).run Tryz.prog W = .ok (.slice (some ⟨b, o, none⟩) i c) W := by
  refine (run_sliceAt_slice (P := Tryz.prog) (w := W) 22 _ _ _ _ (by kernel_rfl)).trans ?_
  refine (run_slice_h (P := Tryz.prog) (w := W) 22 _ _ _ (by kernel_rfl) _ _ (by omega) (by omega)).trans ?_
  rw [show Tryz.prog.elem 22 = 51 by kernel_rfl]
  have hz : (sizeOf 51).run Tryz.prog W = .ok 3 W := by kernel_rfl
  rw [hz]
  simp [Result.andThen, sliced, addr_at]
theorem lown_at {w : World} {base g : Nat} (h : w.heap[g]? = some (.cells #[] 51 (0, 0))) (hb : base ≤ g) : w.ownsRow base 51 3 (.slice (some ⟨g, 0, none⟩) 0 0) 0 [] :=
  ⟨rfl, .inr ⟨g, 0, #[], rfl, hb, h, Nat.le_refl _, by unfold maxLen; omega, rfl, rfl⟩⟩
theorem lown_ge {w : World} {base n : Nat} {v : Value} {xs : List Value} (h : w.ownsRow base 51 3 v n xs) : ∀ b, v.ownBlock = some b → base ≤ b := fun b hb => (h.lt b hb).1
theorem rot_own {w : World} {base c i : Nat} {A : Option Addr} {l : List Lk} (hi : i < l.length) (h : w.ownsRow base 51 3 (.slice A (0 + (l.drop i).length + (l.take i).length) c) (0 + (l.drop i).length + (l.take i).length) (([] ++ lkcs (l.drop i)) ++ lkcs (l.take i))) :
    0 + (l.drop i).length + (l.take i).length = (l.drop i ++ l.take i).length ∧ LksAt w A (l.drop i ++ l.take i) := by
  have e : 0 + (l.drop i).length + (l.take i).length = (l.drop i ++ l.take i).length := by simp
  rw [e] at h
  refine ⟨e, ?_⟩
  have e2 : lkcs (l.drop i ++ l.take i) = ([] ++ lkcs (l.drop i)) ++ lkcs (l.take i) := by simp [lkcs]
  exact own_lks (e2 ▸ h)
theorem ownsRow_setNe {B : Nat} {e : TypeId} {k : Nat} {v : Value} {n : Nat} {xs : List Value} {w : World} (h : w.ownsRow B e k v n xs) (a : Addr) (u : Value) (ha : ∀ b, v.ownBlock = some b → b ≠ a.block) : (w.setCell a u).ownsRow B e k v n xs := by
  refine ⟨h.1, ?_⟩
  rcases h.2 with h2 | ⟨g, cap, cur, e1, e2, e3, r⟩
  · exact .inl h2
  · exact .inr ⟨g, cap, cur, e1, e2, (Below.heap_setCell w a u g (ha g (by rw [e1]; rfl))).trans e3, r⟩
theorem rot_own2 {w : World} {base c i : Nat} {A : Option Addr} {l : List Lk} (hi : i < l.length) (h : w.ownsRow base 51 3 (.slice A l.length c) l.length (([] ++ lkcs (l.drop i)) ++ lkcs (l.take i))) : LksAt w A (l.drop i ++ l.take i) := by
  have e : 0 + (l.drop i).length + (l.take i).length = l.length := by simp; omega
  rw [← e] at h
  exact (rot_own hi h).2
theorem print_len {n : Int} {l : List Lk} (hok : NetOk n l) : (printL n l).length ≤ 100000 := by
  obtain ⟨h1, h2⟩ := hok.small
  have h3 := links_len l h2
  have h4 := hok.l1
  have h5 := numsB_len [n] (by intro x hx; simp at hx; subst hx; exact h1)
  simp [printL, lineN, nodesW] at h3 h5 ⊢
  omega
theorem reads_print {n : Int} {l : List Lk} (hok : NetOk n l) : Reads (printL n l) (some (n, l)) :=
  And.intro (fun N m e => by cases e; exact ⟨hok, rfl⟩) (fun e => by cases e)
end Go.Proofs.YtmhiiomejopaoaaGreatDoor
