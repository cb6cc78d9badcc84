/- The flow laws: lattice, the plain law. -/
import Derived.Test.YtmhiiomejopaoaaQ2
namespace Go.Proofs.Ytmhiiomejopaoaa
set_option linter.all false
open Go.RowKit

theorem gi_append_left (l : List Int) (v : Int) (i : Nat) (h : i < l.length) : gi (l ++ [v]) i = gi l i := by
  simp only [gi_nat, List.getD_eq_getElem?_getD]
  rw [List.getElem?_append_left h]
theorem gi_append_last (l : List Int) (v : Int) (i : Nat) (h : i = l.length) : gi (l ++ [v]) i = v := by
  subst h
  simp [gi_nat, List.getD_eq_getElem?_getD]
theorem upN_gi (x y : List Int) : ∀ (k i : Nat), i < k → gi (upN x y k) i = mx (gi x i) (gi y i)
  | 0, i, h => by omega
  | k + 1, i, h => by
    unfold upN
    by_cases e : i < k
    · rw [gi_append_left _ _ _ (by rw [upN_len]; exact e)]
      exact upN_gi x y k i e
    · obtain rfl : i = k := by omega
      rw [gi_append_last _ _ _ (upN_len x y i).symm]
theorem dnN_gi (x y : List Int) : ∀ (k i : Nat), i < k → gi (dnN x y k) i = mn (gi x i) (gi y i)
  | 0, i, h => by omega
  | k + 1, i, h => by
    unfold dnN
    by_cases e : i < k
    · rw [gi_append_left _ _ _ (by rw [dnN_len]; exact e)]
      exact dnN_gi x y k i e
    · obtain rfl : i = k := by omega
      rw [gi_append_last _ _ _ (dnN_len x y i).symm]
theorem inL_gi {x : List Int} (h : inL x = true) (i : Nat) (hi : i < x.length) : -1048576 ≤ gi x i ∧ gi x i ≤ 1048576 := by
  have := List.all_eq_true.1 h _ (gi_mem (l := x) (i := i) (by omega) (by omega))
  simpa [withinB] using this
theorem fits_ok {n : Int} {l : List Lk} {x : List Int} (h : fitsR n l x = (true, 0)) : NetOk n l ∧ areB n x = true ∧ fitsB x l = true := by
  unfold fitsR at h
  by_cases h1 : checkL n l = 0
  · rw [if_neg (by simpa using h1)] at h
    cases h2 : areB n x
    · rw [h2] at h; simp at h
    · rw [h2] at h
      simp only [Bool.true_eq_false, if_false, Prod.mk.injEq, and_true] at h
      exact ⟨check_ok h1, rfl, h⟩
  · rw [if_pos (by simpa using h1)] at h
    simp at h
theorem ok_fits {n : Int} {l : List Lk} {x : List Int} (h1 : NetOk n l) (h2 : areB n x = true) (h3 : fitsB x l = true) : fitsR n l x = (true, 0) := by
  unfold fitsR
  rw [if_neg (by simpa using ok_check h1), h2, h3]
  simp
theorem fitsB_iff {x : List Int} {l : List Lk} : fitsB x l = true ↔ ∀ k ∈ l, gi x k.b ≤ wrap64 (gi x k.a + k.m) := by
  unfold fitsB
  simp only [Bool.not_eq_true', List.any_eq_false, overB, decide_eq_true_eq, Int.not_lt]
theorem areB_iff {n : Int} {x : List Int} : areB n x = true ↔ (x.length : Int) = n ∧ ∀ v ∈ x, -1099511627776 ≤ v ∧ v ≤ 1099511627776 := by
  unfold areB
  simp only [Bool.and_eq_true, decide_eq_true_eq, Bool.not_eq_true', List.any_eq_false, Bool.not_eq_false', withinB, Bool.not_eq_true]
  constructor
  · rintro ⟨h1, h2⟩
    exact ⟨h1, fun v hv => by have := h2 v hv; simpa using this⟩
  · rintro ⟨h1, h2⟩
    exact ⟨h1, fun v hv => by have := h2 v hv; simpa using this⟩
theorem wrap_small {a : Int} (h : -9223372036854775808 ≤ a ∧ a ≤ 9223372036854775807) : wrap64 a = a := IntWalk.wrap64_in _ h
theorem toNat_gi (l : List Int) (i : Int) (h : 0 ≤ i) : gi l i = gi l i.toNat := by rw [show ((i.toNat : Nat) : Int) = i by omega]

def partV (u z : List Int) (k : Nat) : Int := ((u.zip z).take k).foldl mulAdd 0
theorem partV_succ (u z : List Int) (k : Nat) (h1 : k < u.length) (h2 : k < z.length) : partV u z (k + 1) = wrap64 (partV u z k + wrap64 (gi u k * gi z k)) := by
  unfold partV
  rw [zip_take u z k h1 h2, List.foldl_append]
  rfl
theorem partV_full (u z : List Int) (h : u.length ≤ z.length) : partV u z u.length = valueI u z := by
  unfold partV valueI
  rw [List.take_of_length_le (by simp; omega)]
theorem part_sum (u x y a b : List Int) (m : Nat) (hx : m ≤ x.length) (hy : m ≤ y.length) (ha : m ≤ a.length) (hb : m ≤ b.length) (hu : m ≤ u.length) (h : ∀ i : Nat, i < m → gi x i + gi y i = gi a i + gi b i) :
    ∀ k, k ≤ m → wrap64 (partV u x k + partV u y k) = wrap64 (partV u a k + partV u b k)
  | 0, _ => by simp [partV]
  | k + 1, hk => by
    have ih := part_sum u x y a b m hx hy ha hb hu h k (by omega)
    rw [partV_succ u x k (by omega) (by omega), partV_succ u y k (by omega) (by omega), partV_succ u a k (by omega) (by omega), partV_succ u b k (by omega) (by omega)]
    have e : gi u k * gi x k + gi u k * gi y k = gi u k * gi a k + gi u k * gi b k := by
      rw [← Int.mul_add, ← Int.mul_add, h k (by omega)]
    generalize gi u k * gi x k = p1 at *
    generalize gi u k * gi y k = p2 at *
    generalize gi u k * gi a k = p3 at *
    generalize gi u k * gi b k = p4 at *
    unfold wrap64 at *
    omega
theorem lattice_law (n : Int) (l : List Lk) (w x y : List Int) : LatticeLaw n l w x y := by
  intro hx60 hxy hw60 hfx hfy hix hiy
  obtain ⟨hok, ax, fx⟩ := fits_ok hfx
  obtain ⟨_, ay, fy⟩ := fits_ok hfy
  have lx := (areB_iff.1 ax).1
  have fx := fitsB_iff.1 fx
  have fy := fitsB_iff.1 fy
  have au : areB n (upN x y x.length) = true := by
    refine areB_iff.2 ⟨by rw [upN_len]; exact lx, fun v hv => ?_⟩
    obtain ⟨i, hi, rfl⟩ := mem_gi hv
    rw [upN_len] at hi
    rw [upN_gi x y _ i hi]
    have h1 := inL_gi hix i hi
    have h2 := inL_gi hiy i (by omega)
    unfold mx; split <;> omega
  have ad : areB n (dnN x y x.length) = true := by
    refine areB_iff.2 ⟨by rw [dnN_len]; exact lx, fun v hv => ?_⟩
    obtain ⟨i, hi, rfl⟩ := mem_gi hv
    rw [dnN_len] at hi
    rw [dnN_gi x y _ i hi]
    have h1 := inL_gi hix i hi
    have h2 := inL_gi hiy i (by omega)
    unfold mn; split <;> omega
  have fu : fitsB (upN x y x.length) l = true := by
    refine fitsB_iff.2 fun k hk => ?_
    obtain ⟨⟨a0, a1, b0, b1⟩, _, m0, m1⟩ := hok.lk k hk
    have e1 := fx k hk
    have e2 := fy k hk
    have hka : k.a.toNat < x.length := by omega
    have hkb : k.b.toNat < x.length := by omega
    have i1 := inL_gi hix _ hka
    have i2 := inL_gi hiy _ (show k.a.toNat < y.length by omega)
    have i3 := inL_gi hix _ hkb
    have i4 := inL_gi hiy _ (show k.b.toNat < y.length by omega)
    rw [toNat_gi _ _ a0, toNat_gi _ _ b0] at e1 e2 ⊢
    rw [upN_gi x y _ _ hka, upN_gi x y _ _ hkb]
    rw [wrap_small (by omega)] at e1 e2
    rw [wrap_small (by unfold mx; split <;> omega)]
    unfold mx
    split <;> split <;> omega
  have fd : fitsB (dnN x y x.length) l = true := by
    refine fitsB_iff.2 fun k hk => ?_
    obtain ⟨⟨a0, a1, b0, b1⟩, _, m0, m1⟩ := hok.lk k hk
    have e1 := fx k hk
    have e2 := fy k hk
    have hka : k.a.toNat < x.length := by omega
    have hkb : k.b.toNat < x.length := by omega
    have i1 := inL_gi hix _ hka
    have i2 := inL_gi hiy _ (show k.a.toNat < y.length by omega)
    have i3 := inL_gi hix _ hkb
    have i4 := inL_gi hiy _ (show k.b.toNat < y.length by omega)
    rw [toNat_gi _ _ a0, toNat_gi _ _ b0] at e1 e2 ⊢
    rw [dnN_gi x y _ _ hka, dnN_gi x y _ _ hkb]
    rw [wrap_small (by omega)] at e1 e2
    rw [wrap_small (by unfold mn; split <;> omega)]
    unfold mn
    split <;> split <;> omega
  refine ⟨ok_fits hok au fu, ok_fits hok ad fd, ?_⟩
  unfold valueR
  by_cases ha : askedI n l w = 0
  · simp only [ha, ax, ay, au, ad, ne_eq, not_true_eq_false, if_false, Bool.true_eq_false, true_and]
    have hwl := weights_len (asked_ok ha).2
    have hm : w.length = x.length := by omega
    have key := part_sum w x y (upN x y x.length) (dnN x y x.length) w.length (by omega) (by omega) (by rw [upN_len]; omega) (by rw [dnN_len]; omega) (Nat.le_refl _) (fun i hi => by
      rw [upN_gi x y _ i (by omega), dnN_gi x y _ i (by omega)]
      unfold mx mn
      split <;> split <;> omega) w.length (Nat.le_refl _)
    rw [partV_full _ _ (by omega), partV_full _ _ (by omega), partV_full _ _ (by rw [upN_len]; omega), partV_full _ _ (by rw [dnN_len]; omega)] at key
    exact key
  · simp [ha]
theorem lattice_at (n : Int) (A : Option Addr) (c : Nat) (l : List Lk) (C : Option Addr) (f : Nat) (u : List Int) (B : Option Addr) (d : Nat) (x : List Int) (D : Option Addr) (g : Nat) (y : List Int) (w : World)
    (h : LksAt w A l) (_ : A = none → l.length = 0 ∧ c = 0) (hl : l.length ≤ 9223372036854775807) (h1 : IntsAt w C u) (_ : C = none → u.length = 0 ∧ f = 0) (hu : u.length ≤ 9223372036854775807) (_ : ∀ v ∈ u, -9223372036854775808 ≤ v ∧ v ≤ 9223372036854775807) (h2 : IntsAt w B x) (_ : B = none → x.length = 0 ∧ d = 0) (hx : x.length ≤ 9223372036854775807) (_ : ∀ v ∈ x, -9223372036854775808 ≤ v ∧ v ≤ 9223372036854775807) (h3 : IntsAt w D y) (_ : D = none → y.length = 0 ∧ g = 0) (hy : y.length ≤ 9223372036854775807) (_ : ∀ v ∈ y, -9223372036854775808 ≤ v ∧ v ≤ 9223372036854775807) :
    Calls Try.prog 6 #[.agg #[.int .i64 n, .slice A l.length c], .slice C u.length f, .slice B x.length d, .slice D y.length g] w fun e w' => e = .returned (.bool true) ∧ Below w.heap.size w w' :=
  lattice_walk n A c l C f u B d x D g y w h h1 h2 h3 hl hu hx hy (lattice_law n l u x y)
end Go.Proofs.Ytmhiiomejopaoaa
