/- The date walks: Parse, at every text. -/
import Derived.Test.YteoembjghmgbhaaGreatDoorZ9
namespace Go.Proofs.YteoembjghmgbhaaGreatDoor
set_option linter.all false
open Go.RowKit

theorem piece_size (sep : ByteArray) : ∀ (k : Nat) (s : ByteArray), ∀ p ∈ Lib.splitB sep 0 k s, p.size ≤ s.size
  | 0, s, p, h => by
    simp [Lib.splitB] at h
    subst h
    exact Nat.le_refl _
  | k + 1, s, p, h => by
    unfold Lib.splitB at h
    split at h
    · simp at h; subst h; exact Nat.le_refl _
    · rcases List.mem_cons.1 h with rfl | h
      · rw [ByteArray.size_extract]; omega
      · have := piece_size sep k _ p h
        rw [ByteArray.size_extract] at this
        omega
theorem index_up : ∀ (s sub : List UInt8), Lib.index s sub ≤ s.length
  | [], sub => by unfold Lib.index; split <;> simp
  | b :: l, sub => by
    have := index_up l sub
    unfold Lib.index
    split
    · simp; omega
    · split
      · simp; omega
      · simp; omega
def errP (r : Option Dt) : Int := if r.isSome then 0 else 7
theorem Parse_any (L : List UInt8) (r : Option Dt) (hr : Reads L r) (hL : L.length ≤ 1000) (w : World) (hT : Tab w) (hV : Vars w) :
    Calls Tryz.prog 7 #[.string ⟨L.toArray⟩] w fun e w' => e = .returned (.tuple #[dtv (r.getD zeroD), .int .i64 (errP r)]) ∧ Below w.heap.size w w' := by
  have hs : (bs L).size ≤ 1000 := by show L.toArray.size ≤ 1000; simpa using hL
  have hSA := split_at (bs L) hs
  have hlen := split_len (bs L)
  have hps := piece_size sep32 (Lib.countB (bs L) sep32) (bs L)
  have hf : ∀ d, r = some d → ∃ P0 P1 P2 : ByteArray, Lib.countB (bs L) sep32 = 2 ∧ Lib.splitB sep32 0 (Lib.countB (bs L) sep32) (bs L) = [P0, P1, P2] ∧ P1.size = 3 ∧ Lib.atoiAll P0.data.toList = .ok d.d ∧ Lib.atoiAll P2.data.toList = .ok d.y ∧ Lib.index letters P1.data.toList = 3 * d.m - 3 := fun d e => by
    subst e
    obtain ⟨P0, P1, P2, h1, h2⟩ := print_found hr.1 hr.2
    exact ⟨P0, P1, P2, h1, by rw [h1]; exact h2⟩
  have hno : (∀ d, r = some d → False) → r = none := fun h => by
    cases r with
    | none => rfl
    | some d => exact (h d rfl).elim
  generalize Lib.splitB sep32 0 (Lib.countB (bs L) sep32) (bs L) = Ps at *
  generalize Lib.countB (bs L) sep32 = N at *
  by_cases hN : N + 1 = 3
  · obtain rfl : N = 2 := by omega
    match Ps, hlen with
    | [P0, P1, P2], _ =>
      have q0 : P0.size ≤ 1000 := by have := hps P0 (by simp); omega
      have q2 : P2.size ≤ 1000 := by have := hps P2 (by simp); omega
      by_cases h1 : P1.size = 3
      · cases a0 : Lib.atoiAll P0.data.toList with
        | ok D =>
          cases a2 : Lib.atoiAll P2.data.toList with
          | ok Y =>
            have i1 := Lib.index_ge letters P1.data.toList
            have i2 := index_up letters P1.data.toList
            rw [show letters.length = 36 from rfl] at i2
            by_cases i3 : Lib.index letters P1.data.toList < 0
            · obtain rfl := hno (fun d e => by
                obtain ⟨Q0, Q1, Q2, -, k2, -, -, -, k5⟩ := hf d e
                simp only [List.cons.injEq, and_true] at k2
                obtain ⟨-, rfl, -⟩ := k2
                subst e
                have := (okD_facts hr.1).2.2.2.2.1
                omega)
              exact parse_bad1 _ _ _ _ _ D Y w hV hSA h1 q0 q2 a0 a2 rfl i3
            · obtain ⟨q, hq⟩ : ∃ q : Nat, Lib.index letters P1.data.toList = q := ⟨(Lib.index letters P1.data.toList).toNat, by omega⟩
              obtain ⟨M, hM⟩ : ∃ M : Int, ((q / 3 : Nat) : Int) + 1 = M := ⟨_, rfl⟩
              have hsame : ∀ d, r = some d → d = ⟨Y, M, D⟩ := fun d e => by
                obtain ⟨Q0, Q1, Q2, -, k2, -, k3, k4, k5⟩ := hf d e
                simp only [List.cons.injEq, and_true] at k2
                obtain ⟨rfl, rfl, rfl⟩ := k2
                rw [a0] at k3
                rw [a2] at k4
                rw [hq] at k5
                obtain ⟨y, m, d⟩ := d
                simp only [Lib.NumEnd.ok.injEq] at k3 k4 k5
                rw [k3, k4]
                congr 1
                omega
              by_cases ho : okD ⟨Y, M, D⟩ = true
              · by_cases he : printL ⟨Y, M, D⟩ = L
                · obtain rfl := reads_uniq hr (r' := some ⟨Y, M, D⟩) ⟨ho, he⟩
                  exact parse_date L P0 P1 P2 q D Y M w hT hV hSA h1 q0 q2 a0 a2 hq (by omega) hM ho he
                · obtain rfl := hno (fun d e => by
                    have := hsame d e
                    subst this
                    subst e
                    exact he hr.2)
                  exact parse_other L P0 P1 P2 q D Y M w hT hV hSA h1 q0 q2 a0 a2 hq (by omega) hM ho he
              · obtain rfl := hno (fun d e => by
                  have := hsame d e
                  subst this
                  subst e
                  exact ho hr.1)
                exact parse_nodate L P0 P1 P2 q D Y M w hT hV hSA h1 q0 q2 a0 a2 hq (by omega) hM (by simpa using ho)
          | _ =>
            obtain rfl := hno (fun d e => by
              obtain ⟨Q0, Q1, Q2, -, k2, -, -, k4, -⟩ := hf d e
              simp only [List.cons.injEq, and_true] at k2
              obtain ⟨-, -, rfl⟩ := k2
              rw [a2] at k4
              cases k4)
            exact parse_bad2 _ _ _ _ _ D w hV hSA h1 q0 q2 a0 (fun v h => by rw [a2] at h; cases h) rfl
        | _ =>
          obtain rfl := hno (fun d e => by
            obtain ⟨Q0, Q1, Q2, -, k2, -, k3, -, -⟩ := hf d e
            simp only [List.cons.injEq, and_true] at k2
            obtain ⟨rfl, -, -⟩ := k2
            rw [a0] at k3
            cases k3)
          refine parse_bad0 _ _ _ _ _ w hV hSA h1 q0 q2 (fun v h => by rw [a0] at h; cases h) rfl (Lib.hid fun W hW => ?_)
          cases a2 : Lib.atoiAll P2.data.toList with
          | ok Y => exact (atoi_good P2 q2 Y a2 W).mono fun e w' ⟨h1, h2⟩ => ⟨⟨_, _, h1⟩, h2⟩
          | _ => exact (atoi_bad P2 q2 (fun v h => by rw [a2] at h; cases h) W hW).mono fun e w' ⟨⟨v, p, h1⟩, h2⟩ => ⟨⟨_, _, h1⟩, h2⟩
      · obtain rfl := hno (fun d e => by
          obtain ⟨Q0, Q1, Q2, -, k2, k3, -⟩ := hf d e
          simp only [List.cons.injEq, and_true] at k2
          obtain ⟨-, rfl, -⟩ := k2
          exact h1 k3)
        exact parse_len _ _ _ _ w hV hSA h1
  · obtain rfl := hno (fun d e => by
      obtain ⟨Q0, Q1, Q2, k1, -⟩ := hf d e
      omega)
    exact parse_not3 _ _ _ w hV hSA hN
end Go.Proofs.YteoembjghmgbhaaGreatDoor
