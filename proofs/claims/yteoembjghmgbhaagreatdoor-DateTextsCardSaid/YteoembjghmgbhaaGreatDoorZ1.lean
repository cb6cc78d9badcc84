/- Dates as texts: the plain words. -/
import Derived.Test.YteoembjghmgbhaaGreatDoorC9
import Derived.Test.YteoembjghmgbhaaGreatDoorR3
import Derived.Lib.AtoiAll
import Derived.Lib.Index
namespace Go.Proofs.YteoembjghmgbhaaGreatDoor
set_option linter.all false
open Go.RowKit

def letters : List UInt8 := [74, 97, 110, 70, 101, 98, 77, 97, 114, 65, 112, 114, 77, 97, 121, 74, 117, 110, 74, 117, 108, 65, 117, 103, 83, 101, 112, 79, 99, 116, 78, 111, 118, 68, 101, 99]
def monB (m : Int) : List UInt8 := (letters.drop (3 * m - 3).toNat).take 3
def printL (d : Dt) : List UInt8 := Lib.itoa d.d ++ [32] ++ monB d.m ++ [32] ++ Lib.itoa d.y
def okD (d : Dt) : Bool := (dayR d).2
theorem okD_facts {d : Dt} (h : okD d = true) : exB d = true ∧ dayB (dayI d) = true ∧ 1850 ≤ d.y ∧ d.y ≤ 2014 ∧ 1 ≤ d.m ∧ d.m ≤ 12 ∧ 1 ≤ d.d ∧ d.d ≤ 31 := by
  unfold okD dayR at h
  cases hx : exB d
  · rw [hx] at h; cases h
  · rw [hx] at h
    have h2 : dayB (dayI d) = true := h
    have h3 : (1850 ≤ d.y ∧ d.y ≤ 2014 ∧ 1 ≤ d.m ∧ d.m ≤ 12 ∧ 1 ≤ d.d) ∧ d.d ≤ lenI d.y d.m := by simpa [exB, ex4] using hx
    have := len_bd d.y d.m
    exact ⟨rfl, h2, by omega, by omega, by omega, by omega, by omega, by omega⟩
theorem okD_num (d : Dt) : (okD d = true ∧ numI d = dayI d ∧ 0 ≤ numI d) ∨ (okD d = false ∧ numI d = -1) := by
  cases h : okD d
  · right
    refine ⟨rfl, ?_⟩
    unfold okD dayR at h
    unfold numI
    cases hx : exB d
    · rfl
    · rw [hx] at h
      have h2 : dayB (dayI d) = false := h
      rw [h2]; rfl
  · left
    obtain ⟨h1, h2, -⟩ := okD_facts h
    have h3 : numI d = dayI d := by unfold numI; rw [h1, h2]; rfl
    have h4 : 0 ≤ dayI d ∧ dayI d ≤ 60000 := by simpa [dayB] using h2
    exact ⟨rfl, h3, by rw [h3]; exact h4.1⟩
/-- A date that there is, out of the number that the program reckons. -/
theorem ok_of {d : Dt} (h : okD d = true) : OfR (dayI d) = (d, 0) := by
  obtain ⟨h1, h2, h3⟩ := okD_facts h
  obtain ⟨y, m, d⟩ := d
  have hb : 0 ≤ dayI ⟨y, m, d⟩ ∧ dayI ⟨y, m, d⟩ ≤ 60000 := by simpa [dayB] using h2
  unfold OfR
  rw [h2, if_pos rfl]
  congr 1
  have hf : (1850 ≤ y ∧ y ≤ 2014 ∧ 1 ≤ m ∧ m ≤ 12 ∧ 1 ≤ d) ∧ d ≤ lenI y m := by simpa [exB, ex4] using h1
  obtain ⟨k, hk⟩ : ∃ k : Nat, 12 * (y - 1850) + m - 1 = k := ⟨(12 * (y - 1850) + m - 1).toNat, by omega⟩
  have hdi : dayI ⟨y, m, d⟩ = beginN k + d - 1 := by
    unfold dayI
    simp only
    rw [hk, Int.toNat_natCast]
  have hst := begin_step k (by omega)
  have ey : (1850 : Int) + ((k / 12 : Nat) : Int) = y := by omega
  have em : ((k % 12 : Nat) : Int) + 1 = m := by omega
  rw [ey, em] at hst
  have hm := mon_uniq (dayI ⟨y, m, d⟩) hb.1 hb.2 k (by omega) (by omega) (by omega)
  unfold ofI
  rw [hm, ey, em, hdi]
  congr 1
  omega
theorem itoa_dom : ∀ k : Fin 32, (Lib.itoa (k.val : Int)).length ≤ 2 ∧ 1 ≤ (Lib.itoa (k.val : Int)).length := by decide +kernel
theorem itoa_year : ∀ k : Fin 165, (Lib.itoa (((1850 + k.val : Nat)) : Int)).length = 4 := by decide +kernel
theorem mon_len : ∀ k : Fin 12, (monB ((k.val : Int) + 1)).length = 3 := by decide +kernel
theorem dom_len {n : Int} (h0 : 0 ≤ n) (h1 : n ≤ 31) : (Lib.itoa n).length ≤ 2 ∧ 1 ≤ (Lib.itoa n).length := by
  have := itoa_dom ⟨n.toNat, by omega⟩
  rwa [show ((n.toNat : Nat) : Int) = n by omega] at this
theorem year_len {n : Int} (h0 : 1850 ≤ n) (h1 : n ≤ 2014) : (Lib.itoa n).length = 4 := by
  have := itoa_year ⟨(n - 1850).toNat, by omega⟩
  simp only at this
  rwa [show (((1850 + (n - 1850).toNat : Nat)) : Int) = n by omega] at this
theorem monB_len {m : Int} (h0 : 1 ≤ m) (h1 : m ≤ 12) : (monB m).length = 3 := by
  have := mon_len ⟨(m - 1).toNat, by omega⟩
  simp only at this
  rwa [show (((m - 1).toNat : Nat) : Int) + 1 = m by omega] at this
theorem slice_mon (q : Nat) (m : Int) (hq : 3 * m - 3 = q) (h1 : m ≤ 12) (W : World) : (Instr.sliceAt 9 (.string ⟨#[74, 97, 110, 70, 101, 98, 77, 97, 114, 65, 112, 114, 77, 97, 121, 74, 117, 110, 74, 117, 108, 65, 117, 103, 83, 101, 112, 79, 99, 116, 78, 111, 118, 68, 101, 99]⟩) (some (.int .i64 (q : Int))) (some (.int .i64 ((q : Int) + 3))) none).run Tryz.prog W = .ok (.string ⟨(monB m).toArray⟩) W := by
  refine (run_sliceAt_string (P := Tryz.prog) (w := W) 9 _ _ _ _ (by kernel_rfl)).trans ?_
  refine (run_slice_string (P := Tryz.prog) W 9 _ .i64 .i64 _ _ (by kernel_rfl) (by omega) (by omega) (by show _ ≤ ((36 : Nat) : Int); omega)).trans ?_
  congr 2
  have e1 : ((q : Int)).toNat = q := by omega
  have e2 : ((q : Int) + 3).toNat = q + 3 := by omega
  have e3 : monB m = (letters.drop q).take 3 := by unfold monB; rw [hq, e1]
  rw [e1, e2, e3]
  have hk : q ≤ 33 := by omega
  have hall : ∀ k : Fin 34, (⟨#[74, 97, 110, 70, 101, 98, 77, 97, 114, 65, 112, 114, 77, 97, 121, 74, 117, 110, 74, 117, 108, 65, 117, 103, 83, 101, 112, 79, 99, 116, 78, 111, 118, 68, 101, 99]⟩ : ByteArray).extract k.val (k.val + 3) = ⟨((letters.drop k.val).take 3).toArray⟩ := by decide +kernel
  exact hall ⟨q, by omega⟩
end Go.Proofs.YteoembjghmgbhaaGreatDoor
