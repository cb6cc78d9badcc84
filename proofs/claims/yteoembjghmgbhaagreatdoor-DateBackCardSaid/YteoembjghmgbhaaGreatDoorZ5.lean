/- Dates as texts: what is printed tells the date. -/
import Derived.Test.YteoembjghmgbhaaGreatDoorZ4
namespace Go.Proofs.YteoembjghmgbhaaGreatDoor
set_option linter.all false
open Go.RowKit

theorem fold_dom : ∀ k : Fin 32, foldI (Lib.itoa (k.val : Int)) = (k.val : Int) := by decide +kernel
theorem fold_year : ∀ k : Fin 165, foldI (Lib.itoa (((1850 + k.val : Nat)) : Int)) = ((1850 + k.val : Nat) : Int) := by decide +kernel
theorem mon_inj : ∀ k j : Fin 12, monB ((k.val : Int) + 1) = monB ((j.val : Int) + 1) → k = j := by decide +kernel
theorem fold_dom' {n : Int} (h0 : 0 ≤ n) (h1 : n ≤ 31) : foldI (Lib.itoa n) = n := by
  have := fold_dom ⟨n.toNat, by omega⟩
  rwa [show ((n.toNat : Nat) : Int) = n by omega] at this
theorem fold_year' {n : Int} (h0 : 1850 ≤ n) (h1 : n ≤ 2014) : foldI (Lib.itoa n) = n := by
  have := fold_year ⟨(n - 1850).toNat, by omega⟩
  simp only at this
  rwa [show (((1850 + (n - 1850).toNat : Nat)) : Int) = n by omega] at this
theorem mon_inj' {m n : Int} (h0 : 1 ≤ m) (h1 : m ≤ 12) (h2 : 1 ≤ n) (h3 : n ≤ 12) (h : monB m = monB n) : m = n := by
  have := mon_inj ⟨(m - 1).toNat, by omega⟩ ⟨(n - 1).toNat, by omega⟩ (by
    simp only
    rw [show (((m - 1).toNat : Nat) : Int) + 1 = m by omega, show (((n - 1).toNat : Nat) : Int) + 1 = n by omega]
    exact h)
  have := congrArg Fin.val this
  simp only at this
  omega
/-- A date's text, in its parts. -/
theorem print_parts {d : Dt} (h : okD d = true) : ∃ a : Nat, (a = 1 ∨ a = 2) ∧ (Lib.itoa d.d).length = a ∧ (printL d).length = a + 9 ∧ (printL d).take a = Lib.itoa d.d ∧ ((printL d).drop (a + 1)).take 3 = monB d.m ∧ (printL d).drop (a + 5) = Lib.itoa d.y := by
  obtain ⟨-, -, h1, h2, h3, h4, h5, h6⟩ := okD_facts h
  have l1 := dom_len (n := d.d) (by omega) h6
  have l2 := monB_len h3 h4
  have l3 := year_len h1 h2
  unfold printL
  generalize Lib.itoa d.d = A at *
  generalize monB d.m = B at *
  generalize Lib.itoa d.y = C at *
  refine ⟨A.length, by omega, rfl, by simp; omega, by simp, ?_, ?_⟩
  · rw [show A ++ [32] ++ B ++ [32] ++ C = (A ++ [32]) ++ (B ++ ([32] ++ C)) by simp, List.drop_append_of_le_length (by simp)]
    simp [l2]
  · rw [show A ++ [32] ++ B ++ [32] ++ C = (A ++ [32] ++ B ++ [32]) ++ C by simp, List.drop_append_of_le_length (by simp; omega)]
    simp [l2]
theorem print_tells {d : Dt} {L : List UInt8} (h : okD d = true) (e : printL d = L) : ∃ a : Nat, (a = 1 ∨ a = 2) ∧ L.length = a + 9 ∧ foldI (L.take a) = d.d ∧ (L.drop (a + 1)).take 3 = monB d.m ∧ foldI (L.drop (a + 5)) = d.y := by
  obtain ⟨-, -, h1, h2, h3, h4, h5, h6⟩ := okD_facts h
  obtain ⟨a, h7, -, h8, h9, h10, h11⟩ := print_parts h
  rw [e] at h8 h9 h10 h11
  exact ⟨a, h7, h8, by rw [h9]; exact fold_dom' (by omega) h6, h10, by rw [h11]; exact fold_year' h1 h2⟩
theorem print_inj {d d' : Dt} (h : okD d = true) (h' : okD d' = true) (e : printL d = printL d') : d = d' := by
  obtain ⟨-, -, -, -, h3, h4, -⟩ := okD_facts h
  obtain ⟨-, -, -, -, h3', h4', -⟩ := okD_facts h'
  obtain ⟨a, -, l1, l2, l3, l4⟩ := print_tells h e
  obtain ⟨b, -, k1, k2, k3, k4⟩ := print_tells h' rfl
  obtain rfl : a = b := by omega
  have e1 := l2.symm.trans k2
  have e2 := mon_inj' h3 h4 h3' h4' (l3.symm.trans k3)
  have e3 := l4.symm.trans k4
  cases d; cases d'
  simp only at e1 e2 e3
  rw [e1, e2, e3]
/-- What a text is read as. -/
def Reads (L : List UInt8) (r : Option Dt) : Prop := match r with
  | some d => okD d = true ∧ printL d = L
  | none => ∀ d, okD d = true → printL d ≠ L
theorem reads_uniq {L : List UInt8} {r r' : Option Dt} (h : Reads L r) (h' : Reads L r') : r = r' := by
  cases r with
  | none => cases r' with
    | none => rfl
    | some d => exact absurd h'.2 (h d h'.1)
  | some d => cases r' with
    | none => exact absurd h.2 (h' d h.1)
    | some d' => rw [print_inj h.1 h'.1 (h.2.trans h'.2.symm)]
/-- The text's reading, as a value. -/
theorem reads_ex (L : List UInt8) : ∃ r, Reads L r := by
  by_cases h : ∃ d, okD d = true ∧ printL d = L
  · obtain ⟨d, h⟩ := h
    exact ⟨some d, h⟩
  · exact ⟨none, fun d h1 h2 => h ⟨d, h1, h2⟩⟩
def zeroD : Dt := ⟨0, 0, 0⟩
theorem rParse_any (L : List UInt8) (r : Option Dt) (hr : Reads L r) (w : World) :
    Calls Tryz.prog 8 #[.string ⟨L.toArray⟩] w fun e w' => e = .returned (.tuple #[dtv (r.getD zeroD), .bool r.isSome]) ∧ Below w.heap.size w w' := by
  have fin : ∀ (e : Ending) (w' : World), ((∃ d, okD d = true ∧ printL d = L ∧ e = .returned (.tuple #[dtv d, .bool true])) ∨ (e = .returned (.tuple #[dtv ⟨0, 0, 0⟩, .bool false]) ∧ ∀ d, okD d = true → printL d ≠ L)) ∧ Below w.heap.size w w' → e = .returned (.tuple #[dtv (r.getD zeroD), .bool r.isSome]) ∧ Below w.heap.size w w' := by
    rintro e w' ⟨h, hb⟩
    refine ⟨?_, hb⟩
    rcases h with ⟨d, h1, h2, rfl⟩ | ⟨rfl, h1⟩
    · obtain rfl := reads_uniq hr (r' := some d) ⟨h1, h2⟩
      rfl
    · obtain rfl := reads_uniq hr (r' := none) h1
      rfl
  by_cases h10 : L.length = 10
  · refine (parse_10 L w h10).mono fun e w' ⟨h, hb⟩ => fin e w' ⟨?_, hb⟩
    rcases h with h | ⟨h1, h2⟩
    · exact .inl h
    · refine .inr ⟨h1, fun d hd he => ?_⟩
      obtain ⟨-, -, -, -, h3, h4, -⟩ := okD_facts hd
      obtain ⟨a, -, l1, l2, -, l4⟩ := print_tells hd he
      obtain rfl : a = 1 := by omega
      have hdd : (⟨foldI (L.drop 6), d.m, foldI (L.take 1)⟩ : Dt) = d := by rw [l2, show (6 : Nat) = 1 + 5 from rfl, l4]
      exact h2 d.m h3 h4 (by rw [hdd]; exact ⟨hd, he⟩)
  · by_cases h11 : L.length = 11
    · refine (parse_11 L w h11).mono fun e w' ⟨h, hb⟩ => fin e w' ⟨?_, hb⟩
      rcases h with h | ⟨h1, h2⟩
      · exact .inl h
      · refine .inr ⟨h1, fun d hd he => ?_⟩
        obtain ⟨-, -, -, -, h3, h4, -⟩ := okD_facts hd
        obtain ⟨a, -, l1, l2, -, l4⟩ := print_tells hd he
        obtain rfl : a = 2 := by omega
        have hdd : (⟨foldI (L.drop 7), d.m, foldI (L.take 2)⟩ : Dt) = d := by rw [l2, show (7 : Nat) = 2 + 5 from rfl, l4]
        exact h2 d.m h3 h4 (by rw [hdd]; exact ⟨hd, he⟩)
    · refine (parse_out L w h10 h11).mono fun e w' ⟨h, hb⟩ => fin e w' ⟨.inr ⟨h, fun d hd he => ?_⟩, hb⟩
      obtain ⟨a, ha, l1, -⟩ := print_tells hd he
      omega
end Go.Proofs.YteoembjghmgbhaaGreatDoor
