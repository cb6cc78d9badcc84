/- The date walks: a row of spans, sorted in place. -/
import Derived.Test.YteoembjghmgbhaaGreatDoorC1
import Derived.Shelf.SlSortCmp.NoneTotal
namespace Go.Proofs.YteoembjghmgbhaaGreatDoor
set_option linter.all false
open Go.RowKit Go.Sort

theorem flat_get (d : Array VSp) (l : List Sp) (hl : d.toList.map (·.1) = l) (t : Nat) (ht : t < d.size * 2) : (spcs l)[t]? = some ((flatK encV 2 d)[t]!) := by
  have hs : l.length = d.size := by rw [← hl]; simp
  rw [get_flatK encV 2 d t ht]
  have h2 : t / 2 < l.length := by omega
  have h3 := spcs_get l (t / 2) (t % 2) h2 (by omega)
  rw [show t / 2 * 2 + t % 2 = t by omega] at h3
  rw [h3]
  have e : gs l ((t / 2 : Nat) : Int) = (d[t / 2]!).1 := by
    have h4 : l[t / 2]? = some (gs l ((t / 2 : Nat) : Int)) := gs_get h2
    rw [← hl, List.getElem?_map] at h4
    have h5 : t / 2 < d.size := by omega
    simp only [Array.getElem?_toList, h5, Array.getElem?_eq_getElem, Option.map_some, Option.some.injEq] at h4
    rw [getElem!_pos d (t / 2) h5, hl] at *
    exact h4.symm
  rw [e]
  unfold encV
  rcases (show t % 2 = 0 ∨ t % 2 = 1 by omega) with h | h <;> rw [h] <;> rfl
theorem own_holds {w : World} {base g n c : Nat} {l : List Sp} (h : w.ownsRow base 39 2 (.slice (some ⟨g, 0, none⟩) n c) n (spcs l)) (d : Array VSp) (hl : d.toList.map (·.1) = l) : HoldsK encV 2 w g 0 d := by
  intro j hj
  rw [size_flatK] at hj
  rcases h.2 with ⟨e, _⟩ | ⟨g', cap, cur, e, hb, hh, _, _, _, ht⟩
  · cases e
  · cases e
    have h1 := flat_get d l hl j hj
    rw [← ht, List.getElem?_take] at h1
    split at h1
    · refine ⟨?_, ?_⟩
      · rw [Nat.zero_add, cell_of_heap hh]
        simpa using h1
      · rw [Nat.zero_add, frozen_of_heap hh]
    · cases h1
theorem own_put {w : World} {base g n c : Nat} {l l' : List Sp} (h : w.ownsRow base 39 2 (.slice (some ⟨g, 0, none⟩) n c) n (spcs l)) (d' : Array VSp) (hl : d'.toList.map (·.1) = l') (hn : d'.size = n) (m : Nat) (os : Array Obj) :
    (sortWorldK encV 2 w g 0 m d' os).ownsRow base 39 2 (.slice (some ⟨g, 0, none⟩) n c) n (spcs l') := by
  have hs : l'.length = n := by rw [← hl, ← hn]; simp
  refine ⟨by rw [spcs_length, hs], ?_⟩
  rcases h.2 with ⟨e, _⟩ | ⟨g', cap, cur, e, hb, hh, hc, hm, hz, ht⟩
  · cases e
  · cases e
    refine .inr ⟨g, c, putCells id 0 (flatK encV 2 d') cur, rfl, hb, ?_, hc, hm, by simp [putCells, hz], ?_⟩
    · have hg : g < w.heap.size := (Array.getElem?_eq_some_iff.1 hh).1
      unfold sortWorldK grow putRowK putRow mapBlock Sort.ahead
      simp only
      rw [Array.getElem?_append_left (by simpa using hg)]
      simp [Array.getElem?_modify, hh, onCells]
    · apply List.ext_getElem?
      intro t
      rw [List.getElem?_take]
      split
      · rename_i hlt
        have h1 := flat_get d' l' hl t (by omega)
        rw [h1]
        have h2 : t < cur.size := by have := Nat.mul_le_mul_right 2 hc; omega
        simp [putCells, h2, hn, hlt]
      · rename_i hge
        rw [List.getElem?_eq_none (by rw [spcs_length, hs]; omega)]
theorem sort_below {w : World} {base g : Nat} (hg : base ≤ g) (hb : base ≤ w.heap.size) (d' : Array VSp) (m : Nat) (os : Array Obj) : RowKit.Below base w (sortWorldK encV 2 w g 0 m d' os) := by
  refine ⟨rfl, rfl, rfl, ?_, ?_⟩
  · unfold sortWorldK grow putRowK putRow mapBlock Sort.ahead
    simp
  · intro k hk
    unfold sortWorldK grow putRowK putRow mapBlock Sort.ahead
    simp only
    rw [Array.getElem?_append_left (by simp; omega)]
    rw [Array.getElem?_modify]
    rw [if_neg (by omega)]
def toV (l : List Sp) (h : ∀ x ∈ l, spanB x = true) : Array VSp := (l.attachWith (fun x => spanB x = true) h).toArray
/-- The spans in the order of where they begin. -/
def Asc (l : List Sp) : Prop := l.Pairwise fun a b => a.lo ≤ b.lo
set_option maxHeartbeats 1000000 in
theorem sort_row (base : Nat) (v : Value) (l : List Sp) (w : World) (ho : w.ownsRow base 39 2 v l.length (spcs l)) (hb : base ≤ w.heap.size) (hl : l.length < 1000000) (hv : ∀ x ∈ l, spanB x = true) :
    Calls Tryz.prog 54 #[v, .func (.func 55) #[] #[]] w fun e w' => e = .returned (.tuple #[]) ∧ ∃ l', l'.Perm l ∧ Asc l' ∧ w'.ownsRow base 39 2 v l.length (spcs l') ∧ RowKit.Below base w w' := by
  obtain ⟨A, c, rfl, hc, hn, hA⟩ := own_slice ho
  cases A with
  | none =>
    obtain ⟨h0, rfl⟩ := hn rfl
    obtain rfl : l = [] := List.eq_nil_of_length_eq_zero h0
    refine (AnyF.slices_SortFunc_none sortSp none 0 (.func (.func 55) #[] #[]) w).mono ?_
    rintro e w' ⟨rfl, rfl⟩
    exact ⟨rfl, [], .refl _, .nil, ho, Below.refl _ _⟩
  | some ad =>
    have hg : ∃ g, ad = ⟨g, 0, none⟩ ∧ base ≤ g ∧ g < w.heap.size := by
      rcases ho.2 with ⟨e, _⟩ | ⟨g, cap, cur, e, hb, hh, _⟩
      · cases e
      · cases e
        exact ⟨g, rfl, hb, (Array.getElem?_eq_some_iff.1 hh).1⟩
    obtain ⟨g, rfl, hbg, hgw⟩ := hg
    have hd : (toV l hv).toList.map (·.1) = l := by simp [toV]
    have hds : (toV l hv).size = l.length := by simp [toV]
    have h := sort_any g 0 c (toV l hv) w (own_holds ho (toV l hv) hd) hgw (by rw [hds]; exact hl)
    rw [hds] at h
    refine h.mono ?_
    rintro e w' ⟨rfl, d', n, os, hp, hs, rfl⟩
    refine ⟨rfl, d'.toList.map (·.1), ?_, ?_, own_put ho d' rfl (by rw [← hds]; exact (by simpa [hds] using hp.1)) n os, sort_below hbg hb d' n os⟩
    · have h2 := hp.2.2
      have e1 : d'.extract 0 l.length = d' := by have := hp.1; rw [hds] at this; simp [← this]
      have e2 : (toV l hv).extract 0 l.length = toV l hv := by simp [← hds]
      rw [e1, e2] at h2
      have h3 := h2.map (·.1)
      rw [hd] at h3
      exact h3
    · unfold Asc
      rw [List.pairwise_map, List.pairwise_iff_getElem]
      intro i j hi hj hij
      have hz : d'.size = l.length := by have := hp.1; rw [hds] at this; exact this
      have h1 := hs i j (Nat.zero_le _) hij (by simpa [hz] using hj)
      rw [ltV] at h1
      simp only [Array.length_toList] at hi hj
      rw [getElem!_pos d' i hi, getElem!_pos d' j hj] at h1
      simp only [Array.getElem_toList]
      simpa using h1
end Go.Proofs.YteoembjghmgbhaaGreatDoor
