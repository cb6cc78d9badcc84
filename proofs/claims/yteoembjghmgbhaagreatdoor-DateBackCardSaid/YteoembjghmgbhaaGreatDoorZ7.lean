/- The date walks: Parse, what it leans on. -/
import Derived.Test.YteoembjghmgbhaaGreatDoorZ6
import Derived.Lib.SmallJoins
namespace Go.Proofs.YteoembjghmgbhaaGreatDoor
set_option linter.all false
open Go.RowKit

/-- The library's variables that a parse reads hold something. -/
def Vars (w : World) : Prop := (∃ m, w.cell? ⟨0, 0, none⟩ = some (.int .i64 m)) ∧ (∃ ev, w.cell? ⟨1, 0, none⟩ = some ev ∧ (ev = .nilIface ∨ ∃ te pe, ev = .iface te pe)) ∧ ∃ ev, w.cell? ⟨2, 0, none⟩ = some ev ∧ (ev = .nilIface ∨ ∃ te pe, ev = .iface te pe)
theorem Vars.below {w w1 : World} (h : Vars w) (hb : Below w.heap.size w w1) : Vars w1 := by
  obtain ⟨⟨m, h1⟩, ⟨e, h2, h2'⟩, f, h3, h3'⟩ := h
  exact ⟨⟨m, cell_below hb h1⟩, ⟨e, cell_below hb h2, h2'⟩, f, cell_below hb h3, h3'⟩
theorem atoi_good (s : ByteArray) (hs : s.size ≤ 1000) (v : Int) (h : Lib.atoiAll s.data.toList = .ok v) (w : World) :
    Calls Tryz.prog 22 #[.string s] w fun e w' => e = .returned (.tuple #[.int .i64 v, .nilIface]) ∧ Below w.heap.size w w' := by
  refine (atoi_fine s (by omega) v h w).mono ?_
  rintro e w' ⟨rfl, h | ⟨t, h⟩⟩
  · exact ⟨rfl, by rw [h]; exact Below.refl _ _⟩
  · exact ⟨rfl, by rw [h]; exact Joins.below_bytesWorld _ _ _ _ (Nat.le_refl _)⟩
theorem atoi_bad (s : ByteArray) (hs : s.size ≤ 1000) (h : ∀ v, Lib.atoiAll s.data.toList ≠ .ok v) (w : World) (hV : Vars w) :
    Calls Tryz.prog 22 #[.string s] w fun e w' => (∃ v p, e = .returned (.tuple #[.int .i64 v, .iface 85 p])) ∧ Below w.heap.size w w' := by
  obtain ⟨-, ⟨e1, h1, h1'⟩, e2, h2, h2'⟩ := hV
  refine Lib.NumEnd.casesOn (motive := fun r => Lib.atoiAll s.data.toList = r → Calls Tryz.prog 22 #[.string s] w fun e w' => (∃ v p, e = .returned (.tuple #[.int .i64 v, .iface 85 p])) ∧ Below w.heap.size w w') (Lib.atoiAll s.data.toList) (fun v ha => absurd ha (h v)) (fun ha => ?_) (fun ha => ?_) rfl
  · refine Calls.mono (Any.strconv_Atoi_syntax atoiL s (by omega) ha e1 w h1 h1') ?_
    rintro e w' ⟨N, rfl, -, -, hb⟩
    exact ⟨⟨_, _, rfl⟩, hb⟩
  · refine Calls.mono (Any.strconv_Atoi_range atoiL s (by omega) ha e2 w h2 h2') ?_
    rintro e w' ⟨N, rfl, -, -, hb⟩
    exact ⟨⟨_, _, rfl⟩, hb⟩
theorem index_str (s sub : ByteArray) (hs : s.size ≤ 1000) (w : World) (hV : Vars w) : Calls Tryz.prog 23 #[.string s, .string sub] w fun e w' => e = .returned (.int .i64 (Lib.index s.data.toList sub.data.toList)) ∧ w = w' := by
  obtain ⟨⟨m, hm⟩, -⟩ := hV
  exact (index_any_str s sub m w (by omega) hm).mono fun e w' ⟨h1, h2⟩ => ⟨h1, h2.symm⟩
def sep32 : ByteArray := ⟨#[32]⟩
theorem split_str (s : ByteArray) (hs : s.size ≤ 1000) (w : World) (hV : Vars w) : Calls Tryz.prog 21 #[.string s, .string ⟨#[32]⟩] w fun e w' => e = .returned (.slice (some ⟨w.heap.size, 0, none⟩) (Lib.countB s sep32 + 1) (Lib.countB s sep32 + 1)) ∧ w' = w.alloc (.cells ((Lib.splitB sep32 0 (Lib.countB s sep32) s).map Value.string).toArray 9) := by
  obtain ⟨⟨m, hm⟩, -⟩ := hV
  exact split_any s sep32 m w (by omega) hm (by decide)
theorem split_len (s : ByteArray) : (Lib.splitB sep32 0 (Lib.countB s sep32) s).length = Lib.countB s sep32 + 1 := Lib.splitB_all sep32 (by decide) 0 _ s rfl
theorem index_at (a r : List UInt8) (h : (32 : UInt8) ∉ a) : Lib.index (a ++ 32 :: r) [32] = a.length := by
  refine Lib.index_first (by simp) ?_ ?_
  · simp [Lib.occAt]
  · intro j hj
    unfold Lib.occAt
    rw [List.drop_append_of_le_length (by omega)]
    cases hd : a.drop j with
    | nil => simp at hd; omega
    | cons x t =>
      have hx : x ∈ a := List.mem_of_mem_drop (by rw [hd]; exact List.mem_cons_self)
      have : x ≠ 32 := fun e => h (e ▸ hx)
      simp [List.isPrefixOf, Ne.symm this]
theorem index_none (a : List UInt8) (h : (32 : UInt8) ∉ a) : Lib.index a [32] = -1 := by
  induction a with
  | nil => rfl
  | cons x t ih =>
    have h1 : x ≠ 32 := fun e => h (by rw [e]; exact List.mem_cons_self)
    have h2 := ih (fun hm => h (List.mem_cons_of_mem _ hm))
    unfold Lib.index
    rw [if_neg (by simp [List.isPrefixOf, Ne.symm h1]), h2]
    rfl
theorem ba_ext {a b : ByteArray} (h : a.data.toList = b.data.toList) : a = b := by
  apply ByteArray.ext
  exact Array.ext' h
def bs (l : List UInt8) : ByteArray := ⟨l.toArray⟩
theorem split_step (a r : List UInt8) (h : (32 : UInt8) ∉ a) : Lib.countB (bs (a ++ 32 :: r)) sep32 = 1 + Lib.countB (bs r) sep32 ∧ ∀ k, Lib.splitB sep32 0 (k + 1) (bs (a ++ 32 :: r)) = bs a :: Lib.splitB sep32 0 k (bs r) := by
  have hi : Lib.indexB (bs (a ++ 32 :: r)) sep32 = a.length := index_at a r h
  have he : (bs (a ++ 32 :: r)).extract (a.length + sep32.size) (bs (a ++ 32 :: r)).size = bs r := by
    apply ba_ext
    rw [Lib.extract_to_end]
    show List.drop (a.length + 1) (a ++ 32 :: r) = r
    rw [show a ++ 32 :: r = (a ++ [32]) ++ r by simp]
    rw [List.drop_left' (by simp)]
  refine ⟨by rw [Lib.countB_hit _ _ _ (by decide) hi, he], fun k => ?_⟩
  rw [Lib.splitB_hit _ _ _ _ _ hi, he]
  congr 1
  apply ba_ext
  rw [Lib.extract_from_zero]
  show List.take (a.length + 0) (a ++ 32 :: r) = a
  simp
theorem split_end (a : List UInt8) (h : (32 : UInt8) ∉ a) : Lib.countB (bs a) sep32 = 0 := Lib.countB_miss _ _ (index_none a h)
theorem split3 (a b c : List UInt8) (ha : (32 : UInt8) ∉ a) (hb : (32 : UInt8) ∉ b) (hc : (32 : UInt8) ∉ c) : Lib.countB (bs (a ++ [32] ++ b ++ [32] ++ c)) sep32 = 2 ∧ Lib.splitB sep32 0 2 (bs (a ++ [32] ++ b ++ [32] ++ c)) = [bs a, bs b, bs c] := by
  rw [show a ++ [32] ++ b ++ [32] ++ c = a ++ 32 :: (b ++ 32 :: c) by simp]
  obtain ⟨h1, h2⟩ := split_step a (b ++ 32 :: c) ha
  obtain ⟨h3, h4⟩ := split_step b c hb
  have h5 := split_end c hc
  refine ⟨by rw [h1, h3, h5], ?_⟩
  rw [h2 1, h4 0]
  rfl
theorem no32_dom : ∀ k : Fin 32, (32 : UInt8) ∉ Lib.itoa (k.val : Int) ∧ Lib.atoiAll (Lib.itoa (k.val : Int)) = .ok (k.val : Int) := by decide +kernel
theorem no32_year : ∀ k : Fin 165, (32 : UInt8) ∉ Lib.itoa (((1850 + k.val : Nat)) : Int) ∧ Lib.atoiAll (Lib.itoa (((1850 + k.val : Nat)) : Int)) = .ok ((1850 + k.val : Nat) : Int) := by decide +kernel
theorem no32_mon : ∀ k : Fin 12, (32 : UInt8) ∉ monB ((k.val : Int) + 1) ∧ Lib.index letters (monB ((k.val : Int) + 1)) = 3 * (k.val : Int) := by decide +kernel
/-- What a parse finds in a date's text. -/
theorem print_found {d : Dt} {L : List UInt8} (h : okD d = true) (e : printL d = L) : ∃ P0 P1 P2 : ByteArray, Lib.countB (bs L) sep32 = 2 ∧ Lib.splitB sep32 0 2 (bs L) = [P0, P1, P2] ∧ P1.size = 3 ∧ Lib.atoiAll P0.data.toList = .ok d.d ∧ Lib.atoiAll P2.data.toList = .ok d.y ∧ Lib.index letters P1.data.toList = 3 * d.m - 3 := by
  obtain ⟨-, -, h1, h2, h3, h4, h5, h6⟩ := okD_facts h
  have a1 := no32_dom ⟨d.d.toNat, by omega⟩
  have a2 := no32_year ⟨(d.y - 1850).toNat, by omega⟩
  have a3 := no32_mon ⟨(d.m - 1).toNat, by omega⟩
  simp only at a1 a2 a3
  rw [show ((d.d.toNat : Nat) : Int) = d.d by omega] at a1
  rw [show (((1850 + (d.y - 1850).toNat : Nat)) : Int) = d.y by omega] at a2
  rw [show (((d.m - 1).toNat : Nat) : Int) = d.m - 1 by omega, show d.m - 1 + 1 = d.m by omega] at a3
  obtain ⟨s1, s2⟩ := split3 _ _ _ a1.1 a3.1 a2.1
  rw [show Lib.itoa d.d ++ [32] ++ monB d.m ++ [32] ++ Lib.itoa d.y = L from e] at s1 s2
  exact ⟨_, _, _, s1, s2, monB_len h3 h4, a1.2, a2.2, by rw [show (bs (monB d.m)).data.toList = monB d.m from rfl, a3.2]; omega⟩
end Go.Proofs.YteoembjghmgbhaaGreatDoor
