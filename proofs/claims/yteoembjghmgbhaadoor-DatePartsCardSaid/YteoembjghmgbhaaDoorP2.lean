/- Plain laws of edges: what the reference's Union and Gaps are. -/
import Derived.Test.YteoembjghmgbhaaDoorP1
namespace Go.Proofs.YteoembjghmgbhaaDoor
set_option linter.all false
open Go.RowKit

def Edge (l : List Sp) (v : Int) : Prop := ∃ x ∈ l, v = x.lo ∨ v = x.hi + 1
theorem nxt1_le (last n v : Int) (h : last < v) : nxt1 last n v ≤ v := by
  unfold nxt1
  rw [if_pos h]
  omega
theorem nextF_le (last v : Int) (hv : last < v) : ∀ (l : List Sp) (n : Int), last < n → Edge l v → l.foldl (nxtS last) n ≤ v
  | [], _, _, ⟨_, h, _⟩ => by cases h
  | x :: l, n, hn, ⟨y, hy, h⟩ => by
    obtain ⟨h1, h2⟩ := nxt1_bd last n x.lo hn
    obtain ⟨h3, h4⟩ := nxt1_bd last (nxt1 last n x.lo) (x.hi + 1) h1
    obtain ⟨h5, h6⟩ := nextF_bd last l (nxtS last n x) h3
    rw [List.foldl_cons]
    rcases List.mem_cons.1 hy with rfl | hy
    · rcases h with rfl | rfl
      · have h7 := nxt1_le last n y.lo hv
        have h8 : nxtS last n y ≤ y.lo := Int.le_trans h4 h7
        omega
      · have h8 : nxtS last n y ≤ y.hi + 1 := nxt1_le last _ (y.hi + 1) hv
        omega
    · exact nextF_le last v hv l (nxtS last n x) h3 ⟨y, hy, h⟩
theorem edgesF_mem (l : List Sp) (v : Int) (hv : v < 60002) (he : Edge l v) : ∀ (f : Nat) (last : Int), last < 60002 → 60002 - last ≤ f → last < v → v ∈ edgesF l f last
  | 0, last, h, h1, _ => by omega
  | f + 1, last, h, h1, h2 => by
    obtain ⟨h3, h4⟩ := nextE_bd l last h
    have h5 : nextE l last ≤ v := nextF_le last v h2 l 60002 h he
    unfold edgesF
    rw [if_neg (by omega)]
    by_cases h6 : v = nextE l last
    · rw [h6]; exact List.mem_cons_self
    · exact List.mem_cons_of_mem _ (edgesF_mem l v hv he f (nextE l last) (by omega) (by omega) (by omega))
theorem edgesF_pair (l : List Sp) : ∀ (f : Nat) (last : Int), -1 ≤ last → last < 60002 → (edgesF l f last).Pairwise (· < ·)
  | 0, _, _, _ => List.Pairwise.nil
  | f + 1, last, h0, h => by
    obtain ⟨h3, h4⟩ := nextE_bd l last h
    unfold edgesF
    split
    · exact List.Pairwise.nil
    · rename_i hne
      exact List.pairwise_cons.2 ⟨fun x hx => ((edgesF_bd l f (nextE l last) (by omega) (by omega)).2 x hx).1, edgesF_pair l f (nextE l last) (by omega) (by omega)⟩
theorem edges_mem (l : List Sp) (v : Int) (h0 : 0 ≤ v) (hv : v < 60002) (he : Edge l v) : v ∈ edgesE l (-1) := edgesF_mem l v hv he _ (-1) (by omega) (by omega) (by omega)
theorem edges_lt (l : List Sp) (i j : Nat) (h : i < j) (hj : j < (edgesE l (-1)).length) : gi (edgesE l (-1)) i < gi (edgesE l (-1)) j := by
  have h1 := List.pairwise_iff_getElem.1 (edgesF_pair l (60002 - (-1 : Int)).toNat (-1) (by omega) (by omega)) i j (by show i < (edgesE l (-1)).length; omega) hj h
  have e : ∀ (E : List Int) (k : Nat) (hk : k < E.length), gi E k = E[k] := fun E k hk => by simp [gi, List.getD_eq_getElem?_getD, hk]
  rw [e _ i (by omega), e _ j hj]
  exact h1
theorem mem_gi {l : List Int} {x : Int} (h : x ∈ l) : ∃ i : Nat, i < l.length ∧ gi l i = x := by
  obtain ⟨i, hi, rfl⟩ := List.getElem_of_mem h
  exact ⟨i, hi, by simp [gi, List.getD_eq_getElem?_getD, hi]⟩
section
variable (ok : Int → Bool) (E : List Int) (hE : ∀ i j : Nat, i < j → j < E.length → gi E i < gi E j)
include hE
theorem seg_can : ∀ k, k < E.length → Can (segN ok E k) ∧ (∀ x ∈ segN ok E k, x.hi + 1 ≤ gi E k) ∧ ∀ d, In (segN ok E k) d ↔ ∃ i, i < k ∧ ok (gi E i) = true ∧ gi E i ≤ d ∧ d < gi E (i + 1 : Nat)
  | 0, _ => ⟨⟨by simp [segN], List.Pairwise.nil⟩, by simp [segN], fun d => by
      constructor
      · intro h; exact absurd h (In_nil d)
      · rintro ⟨i, hi, _⟩; omega⟩
  | k + 1, h => by
    obtain ⟨h1, h2, h3⟩ := seg_can k (by omega)
    have h4 := hE k (k + 1) (by omega) h
    unfold segN
    cases hok : ok (gi E k)
    · rw [if_neg (by simp)]
      refine ⟨h1, fun x hx => by have := h2 x hx; omega, fun d => ?_⟩
      rw [h3 d]
      constructor
      · rintro ⟨i, hi, h5⟩; exact ⟨i, by omega, h5⟩
      · rintro ⟨i, hi, h5⟩
        by_cases hik : i = k
        · subst hik; rw [hok] at h5; cases h5.1
        · exact ⟨i, by omega, h5⟩
    · rw [if_pos rfl]
      obtain ⟨g1, g2, g3⟩ := put_can (segN ok E k) ⟨gi E k, gi E (k + 1 : Nat) - 1⟩ h1 (by simp only; omega) h2
      refine ⟨g1, fun x hx => by have := g3 x hx; simp only at this; omega, fun d => ?_⟩
      rw [g2 d, h3 d]
      simp only
      constructor
      · rintro (⟨i, hi, h5⟩ | h5)
        · exact ⟨i, by omega, h5⟩
        · exact ⟨k, by omega, hok, h5.1, by omega⟩
      · rintro ⟨i, hi, h5⟩
        by_cases hik : i = k
        · subst hik; exact .inr ⟨h5.2.1, by omega⟩
        · exact .inl ⟨i, by omega, h5⟩
theorem cell_same (x : Sp) (h1 : x.lo ∈ E) (h2 : x.hi + 1 ∈ E) (i : Nat) (hi : i + 1 < E.length) (d : Int) (hd : gi E i ≤ d ∧ d < gi E (i + 1 : Nat)) : (x.lo ≤ d ∧ d ≤ x.hi) ↔ (x.lo ≤ gi E i ∧ gi E i ≤ x.hi) := by
  have key : ∀ e, e ∈ E → e ≤ gi E i ∨ gi E (i + 1 : Nat) ≤ e := by
    intro e he
    obtain ⟨j, hj, rfl⟩ := mem_gi he
    rcases Nat.lt_trichotomy j i with h | h | h
    · have := hE j i h (by omega); omega
    · subst h; exact .inl (Int.le_refl _)
    · by_cases h' : j = i + 1
      · subst h'; exact .inr (Int.le_refl _)
      · have := hE (i + 1) j (by omega) hj; omega
  have k1 := key _ h1
  have k2 := key _ h2
  omega
omit hE in
theorem cover_ix (d : Int) : ∀ (n a : Nat), gi E a ≤ d → d < gi E (a + n : Nat) → ∃ i, a ≤ i ∧ i < a + n ∧ gi E i ≤ d ∧ d < gi E (i + 1 : Nat)
  | 0, a, h1, h2 => by rw [Nat.add_zero] at h2; omega
  | n + 1, a, h1, h2 => by
    by_cases h : d < gi E (a + 1 : Nat)
    · exact ⟨a, Nat.le_refl _, by omega, h1, h⟩
    · obtain ⟨i, h3, h4, h5⟩ := cover_ix d n (a + 1) (by omega) (by rw [show a + 1 + n = a + (n + 1) by omega]; exact h2)
      exact ⟨i, by omega, by omega, h5⟩
theorem seg_set (Q : Int → Prop) (L : List Sp) (hL : ∀ x ∈ L, x.lo ≤ x.hi ∧ x.lo ∈ E ∧ x.hi + 1 ∈ E) (hQ : ∀ (i : Nat) (d : Int), i + 1 < E.length → gi E i ≤ d → d < gi E (i + 1 : Nat) → (ok (gi E i) = true ↔ Q d)) (hQL : ∀ d, Q d → In L d) :
    Can (segN ok E (E.length - 1)) ∧ ∀ d, In (segN ok E (E.length - 1)) d ↔ Q d := by
  by_cases h0 : E.length = 0
  · rw [h0]
    refine ⟨⟨by simp [segN], List.Pairwise.nil⟩, fun d => ?_⟩
    constructor
    · intro h; exact absurd h (In_nil d)
    · intro h
      obtain ⟨x, hx, _⟩ := hQL d h
      have := List.length_pos_of_mem (hL x hx).2.1
      omega
  · obtain ⟨h1, _, h3⟩ := seg_can ok E hE (E.length - 1) (by omega)
    refine ⟨h1, fun d => ?_⟩
    rw [h3 d]
    constructor
    · rintro ⟨i, hi, h4, h5, h6⟩
      exact (hQ i d (by omega) h5 h6).1 h4
    · intro h
      obtain ⟨x, hx, hx1, hx2⟩ := hQL d h
      obtain ⟨hx3, hx4, hx5⟩ := hL x hx
      obtain ⟨a, ha, ea⟩ := mem_gi hx4
      obtain ⟨b, hb, eb⟩ := mem_gi hx5
      have hab : a < b := by
        rcases Nat.lt_trichotomy a b with h7 | h7 | h7
        · exact h7
        · subst h7; omega
        · have := hE b a h7 ha; omega
      obtain ⟨i, i1, i2, i3, i4⟩ := cover_ix E d (b - a) a (by omega) (by rw [show a + (b - a) = b by omega]; omega)
      exact ⟨i, by omega, (hQ i d (by omega) i3 i4).2 h, i3, i4⟩
end
/-- Spans that have days. -/
def Good (l : List Sp) : Prop := ∀ x ∈ l, 0 ≤ x.lo ∧ x.lo ≤ x.hi ∧ x.hi ≤ 60000
theorem good_edges (l : List Sp) (hl : Good l) : ∀ x ∈ l, x.lo ≤ x.hi ∧ x.lo ∈ edgesE l (-1) ∧ x.hi + 1 ∈ edgesE l (-1) := by
  intro x hx
  have h := hl x hx
  exact ⟨h.2.1, edges_mem l _ h.1 (by omega) ⟨x, hx, .inl rfl⟩, edges_mem l _ (by omega) (by omega) ⟨x, hx, .inr rfl⟩⟩
/-- The reference's Union. -/
def runionL (l : List Sp) : List Sp := segN (hasB l) (edgesE l (-1)) ((edgesE l (-1)).length - 1)
theorem runion_can (l : List Sp) (hl : Good l) : Can (runionL l) ∧ ∀ d, In (runionL l) d ↔ In l d := by
  refine seg_set (hasB l) (edgesE l (-1)) (edges_lt l) (In l) l (good_edges l hl) (fun i d hi h1 h2 => ?_) (fun _ h => h)
  rw [hasB_iff]
  constructor
  · rintro ⟨x, hx, h⟩
    obtain ⟨_, g1, g2⟩ := good_edges l hl x hx
    exact ⟨x, hx, (cell_same (edgesE l (-1)) (edges_lt l) x g1 g2 i hi d ⟨h1, h2⟩).2 h⟩
  · rintro ⟨x, hx, h⟩
    obtain ⟨_, g1, g2⟩ := good_edges l hl x hx
    exact ⟨x, hx, (cell_same (edgesE l (-1)) (edges_lt l) x g1 g2 i hi d ⟨h1, h2⟩).1 h⟩
/-- The reference's Gaps. -/
def rgapsL (s : Sp) (l : List Sp) : List Sp := segN (gapB s l) (edgesE (l ++ [s]) (-1)) ((edgesE (l ++ [s]) (-1)).length - 1)
theorem rgaps_can (s : Sp) (l : List Sp) (hl : Good (l ++ [s])) : Can (rgapsL s l) ∧ ∀ d, In (rgapsL s l) d ↔ (s.lo ≤ d ∧ d ≤ s.hi) ∧ ¬ In l d := by
  refine seg_set (gapB s l) (edgesE (l ++ [s]) (-1)) (edges_lt _) _ (l ++ [s]) (good_edges _ hl) (fun i d hi h1 h2 => ?_) (fun d h => (In_app l [s] d).2 (.inr ((In_one s d).2 h.1)))
  have hin : In l (gi (edgesE (l ++ [s]) (-1)) i) ↔ In l d := by
    constructor
    · rintro ⟨x, hx, h⟩
      obtain ⟨_, g1, g2⟩ := good_edges _ hl x (List.mem_append_left _ hx)
      exact ⟨x, hx, (cell_same _ (edges_lt _) x g1 g2 i hi d ⟨h1, h2⟩).2 h⟩
    · rintro ⟨x, hx, h⟩
      obtain ⟨_, g1, g2⟩ := good_edges _ hl x (List.mem_append_left _ hx)
      exact ⟨x, hx, (cell_same _ (edges_lt _) x g1 g2 i hi d ⟨h1, h2⟩).1 h⟩
  obtain ⟨_, g1, g2⟩ := good_edges _ hl s (by simp)
  have hs := cell_same _ (edges_lt _) s g1 g2 i hi d ⟨h1, h2⟩
  unfold gapB
  rw [hs, ← hin, ← hasB_iff]
  simp [and_comm]
/-- What the program's rest is of spans in order, the reference's Gaps is. -/
theorem rest_gaps (s : Sp) (l m : List Sp) (hl : Good (l ++ [s])) (hm : Can m) (hs : ∀ d, In m d ↔ In l d) : restL s m = rgapsL s l := by
  obtain ⟨h1, h2⟩ := rest_can s m hm
  obtain ⟨h3, h4⟩ := rgaps_can s l hl
  exact can_uniq _ _ h1 h3 (fun d => by rw [h2 d, h4 d, hs d])
end Go.Proofs.YteoembjghmgbhaaDoor
