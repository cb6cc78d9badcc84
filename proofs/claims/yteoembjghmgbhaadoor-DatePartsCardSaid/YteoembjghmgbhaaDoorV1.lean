/- The date walks: the parts of a span, as an iterator. -/
import Derived.Test.YteoembjghmgbhaaDoorV0
import Derived.Test.YteoembjghmgbhaaDoorP0
import Derived.Test.YteoembjghmgbhaaDoorC8
import Derived.Deep.RegionHeld3
namespace Go.Proofs.YteoembjghmgbhaaDoor
set_option linter.all false
open Go.RowKit

/-- The part of a span in a month. -/
def pieceS (s : Sp) (m : Nat) : Sp := ⟨max s.lo (beginN m), min s.hi (beginN (m + 1) - 1)⟩
def partsN (s : Sp) : Nat := monI s.hi + 1 - monI s.lo
def partsK (s : Sp) (k : Nat) : List Sp := (List.range k).map fun k => pieceS s (monI s.lo + k)
def partsL (s : Sp) : List Sp := partsK s (partsN s)
theorem partsK_succ (s : Sp) (k : Nat) : partsK s (k + 1) = partsK s k ++ [pieceS s (monI s.lo + k)] := by
  unfold partsK
  rw [List.range_succ, List.map_append]
  rfl
theorem partsK_pre (s : Sp) (k : Nat) (h : k ≤ partsN s) : partsK s k <+: partsL s := by
  unfold partsL
  generalize partsN s = n at *
  induction n with
  | zero => obtain rfl : k = 0 := by omega
            exact List.prefix_refl _
  | succ n ih =>
    by_cases hk : k = n + 1
    · subst hk; exact List.prefix_refl _
    · rw [partsK_succ]
      exact (ih (by omega)).trans (List.prefix_append _ _)
/-- What a round of the caller's loop keeps: the iterator's box. -/
def KeepP (p : Nat) (W W' : World) : Prop := ∀ o, W.heap[p]? = some o → W'.heap[p]? = some o
theorem keepP_t {p : Nat} {A B C : World} (h : KeepP p A B) (k : KeepP p B C) : KeepP p A C := fun o ho => k o (h o ho)
theorem keepP_b {p : Nat} {w : World} (hp : p < w.heap.size) (W : World) (l : Nat) (o o' : Obj) (hl : w.heap.size ≤ l) (_ : W.heap[l]? = some o) (_ : o.isCells = false) (_ : o.isWalk = false) : KeepP p W (W.putObj l o') := by
  intro x hx
  rw [World.putObj_heap_other (by omega)]
  exact hx
theorem keepP_a {p : Nat} (W : World) (o : Obj) : KeepP p W (W.alloc o) := fun x hx => (Below.heap_alloc _ _ _ (Array.getElem?_eq_some_iff.1 hx).1).trans hx
theorem grown_of_below {w w' : World} (h : Below w.heap.size w w') (row : Option Nat) : w.grownBy w' row := ⟨h.os, h.tape, h.output, h.size, fun k hk _ => h.block k hk⟩
theorem mon_mono {a b : Int} (h0 : 0 ≤ a) (h : a ≤ b) (h1 : b ≤ 60000) : monI a ≤ monI b := by
  have h2 := mon_low a h0
  have h3 := mon_le a
  exact mon_ge b (by omega) h1 _ (by omega) (by omega)
set_option maxRecDepth 1000000 in
set_option maxHeartbeats 4000000 in
theorem parts_seq (n : Nat) (s : Sp) (p : Nat) (W0 : World) (hs : spanB s = true) (hp : W0.heap[p]? = some (.cells #[.int .i64 s.lo, .int .i64 s.hi] 37 (0, 0))) :
    SeqC n Tryd.prog 83 #[.pointer (some ⟨p, 0, none⟩)] (fun x : Sp => #[spv x]) (KeepP p) (partsL s) W0 := by
  have hsb : 0 ≤ s.lo ∧ s.lo ≤ s.hi ∧ s.hi ≤ 60000 := by simpa [spanB] using hs
  intro l' J W hW hJ hY h0
  refine callsIn_wide.2 ?_
  have hpW := (hW.block p (Array.getElem?_eq_some_iff.1 hp).1).trans hp
  have HJ := Lib.hid hJ
  have HY := Lib.hid hY
  have H0 := Lib.hid h0
  have HP0 := Lib.hid hpW
  have hNm := mon_mono hsb.1 hsb.2.1 hsb.2.2
  have hNb := mon_le s.hi
  have HPK := Lib.hid (fun k => partsK_succ s k)
  have HPP := Lib.hid (fun k => partsK_pre s k)
  have HPN := Lib.hid (show partsN s = monI s.hi + 1 - monI s.lo from rfl)
  have HPL := Lib.hid (show partsK s (partsN s) = partsL s from rfl)
  have HPZ := Lib.hid (show partsK s 0 = [] from rfl)
  have HPC := Lib.hid (fun m => show pieceS s m = ⟨max s.lo (beginN m), min s.hi (beginN (m + 1) - 1)⟩ from rfl)
  have HM1 := Lib.hid (fun W => month_any s.lo W hsb.1 (by omega))
  have HM2 := Lib.hid (fun W => month_any s.hi W (by omega) hsb.2.2)
  obtain ⟨a, hla⟩ : ∃ a, monI s.lo = a := ⟨_, rfl⟩
  obtain ⟨b, hlb⟩ : ∃ b, monI s.hi = b := ⟨_, rfl⟩
  rw [hla] at HM1 HPK HPN hNm
  rw [hlb] at HM2 HPN hNm hNb
  obtain ⟨N, hN⟩ : ∃ N, partsN s = N := ⟨_, rfl⟩
  rw [hN] at HPN HPL HPP
  have hNN := HPN.out
  clear hJ hY h0 hpW hp hW hs hla hlb hN HPN
  generalize hLL : partsL s = LL at *
  generalize hPK : partsK s = PK at *
  generalize hPI : pieceS s = PI at *
  clear hLL hPK hPI
  obtain ⟨lo, hi⟩ := s
  simp only at *
  obtain ⟨c0, c1, _, _, lc⟩ := cells2 HP0.out
  show Calls Tryd.prog 83 #[.func (.yield l') #[] #[], .pointer (some ⟨p, 0, none⟩)] W _
  go_enter Tryd.func83, Tryd.ntmps83
  go_upto_region 1 with (first | (go_at_call 66; refine (HM1.out _).mono ?_; rintro e w1 ⟨rfl, hb⟩; have HB1 := Lib.hid hb; clear hb HM1))
  clear c0 c1 lc
  go_loopw [3] (fun v wr => ∃ k : Nat, k ≤ N ∧ v = .int .i64 ((a + k : Nat) : Int) ∧ Hid (J (PK k) wr) ∧ Hid (wr.heap[p]? = some (.cells #[.int .i64 lo, .int .i64 hi] 37 (0, 0)))) (fun v _ => 4000 - (intOf v).toNat)
  case atStart => exact ⟨0, by omega, by rfl, Lib.hid (by rw [HPZ.out]; exact HJ.out _ _ _ H0.out HB1.out), Lib.hid (lift0 HB1.out HP0.out)⟩
  case round =>
    obtain ⟨k, hk, rfl, HJ1, HB⟩ := hrel
    obtain ⟨c0, c1, _, _, lc⟩ := cells2 HB.out
    obtain ⟨M, hM⟩ : ∃ M, a + k = M := ⟨_, rfl⟩
    rw [hM]
    by_cases hlt : k < N
    · have t : decide (M ≤ b) = true := decide_eq_true (by omega)
      have HG1 := Lib.hid (fun W => begin_any M W (by omega))
      have HG2 := Lib.hid (show ∀ W, Calls Tryd.prog 67 #[.int .i64 ((M : Int) + 1)] W fun e w' => e = .returned (.int .i64 (beginN (M + 1))) ∧ Below W.heap.size W w' from fun W => begin_any (M + 1) W (by omega))
      have hb1 := begin_bd2 M (by omega)
      have hb2 := begin_bd2 (M + 1) (by omega)
      have hpc := HPC.out M
      have hps := HPK.out k
      have hpp := HPP.out (k + 1) (by omega)
      rw [hps, hM] at hpp
      rw [hM] at hps
      obtain ⟨g1, hg1⟩ : ∃ g1, beginN M = g1 := ⟨_, rfl⟩
      obtain ⟨g2, hg2⟩ : ∃ g2, beginN (M + 1) = g2 := ⟨_, rfl⟩
      rw [hg1] at HG1 hpc hb1
      rw [hg2] at HG2 hpc hb2
      obtain ⟨x1, hx1⟩ : ∃ x1, max lo g1 = x1 := ⟨_, rfl⟩
      obtain ⟨x2, hx2⟩ : ∃ x2, min hi (g2 - 1) = x2 := ⟨_, rfl⟩
      rw [hx1, hx2] at hpc
      have hx1b : -40000000 ≤ x1 ∧ x1 ≤ 40001000 := by omega
      have hx2b : -40000001 ≤ x2 ∧ x2 ≤ 40001000 := by omega
      have HPS := Lib.hid hps
      have HPQ := Lib.hid hpp
      have HPX := Lib.hid hpc
      have hMb : M ≤ 1971 := by omega
      have HMM := Lib.hid hM
      clear hpc hps hpp hg1 hg2 hM
      go_upto_region 3 with (first | (go_at_call 66; refine (HM2.out _).mono ?_; rintro e w1 ⟨rfl, hb⟩; have HJ2 := Lib.hid (HJ.out _ _ _ HJ1.out hb); have HX2 := Lib.hid (lift0 hb HB.out); clear hb))
      obtain ⟨d0, d1, _, _, ld⟩ := cells2 HX2.out
      have hwM : IntKind.i64.wrap ((M : Int) + 1) = (M : Int) + 1 := by rw [IntKind.wrap_i64]; omega
      have hwg : IntKind.i64.wrap (g2 - 1) = g2 - 1 := by rw [IntKind.wrap_i64]; omega
      have HJ2d := Lib.hid (HJ.out _ _ w1.drew HJ2.out ((Below.refl _ w1).drew))
      have HX2d := Lib.hid (show w1.drew.heap[p]? = some (.cells #[.int .i64 lo, .int .i64 hi] 37 (0, 0)) from HX2.out)
      refine (wpIn_wide (n := n)).1 ?_
      refine wpIn_mono (Q := NoPanic _) ?_ NoPanic.imp
      gi_region_with (first
        | (refine ⟨trivial, fun h => by simp [Fence.wide] at h, ?_⟩; refine (callsIn_wide.2 (HG1.out _)).mono ?_; rintro e w2 ⟨rfl, hb⟩; have e0 := (hb.cell ld).trans d0; have e1 := (hb.cell ld).trans d1; have le := Nat.lt_of_lt_of_le ld hb.size; have HX3 := Lib.hid (lift0 hb HX2d.out); have HJ3 := Lib.hid (HJ.out _ _ _ HJ2d.out hb); clear hb HG1)
        | (refine ⟨trivial, fun h => by simp [Fence.wide] at h, ?_⟩; refine (callsIn_wide.2 (HG2.out _)).mono ?_; rintro e w3 ⟨rfl, hb⟩; have f0 := (hb.cell le).trans e0; have f1 := (hb.cell le).trans e1; have HX4 := Lib.hid (lift0 hb HX3.out); have HJ4 := Lib.hid (HJ.out _ _ _ HJ3.out hb); obtain ⟨fn, tmps, assign, body, hyy, hR⟩ := HY.out (PK k) (PI M) w3 HJ4.out HPQ.out; rw [HPX.out] at hyy; unfold spv at hyy; have HR := Lib.hid hR; clear hb hR HG2)
        | (refine ⟨fun h => by simp [Fence.wide] at h, HR.out.mono ?_⟩; rintro e w4 ⟨rfl, hJ, hk⟩; have HJ5 := Lib.hid hJ; have HX5 := Lib.hid (hk _ HX4.out); clear hJ hk hyy))
      all_goals
        refine NoPanic.normal ?_
        go_wp2
        go_roundw
        case rel => exact ⟨k + 1, by omega, by have hmm := HMM.out; first | (congr 1; omega) | (rw [hwM]; congr 1; omega), Lib.hid (by rw [HPS.out]; exact HJ5.out), HX5⟩
        case measure => simp [intOf]; omega
    · have t : decide (M ≤ b) = false := decide_eq_false (by omega)
      obtain rfl : k = N := by omega
      clear hM
      go_wp2_with (first | (go_at_call 66; refine (HM2.out _).mono ?_; rintro e w1 ⟨rfl, hb⟩; have HJ2 := Lib.hid (HJ.out _ _ _ HJ1.out hb); clear hb))
      go_end0
      exact ⟨⟨_, rfl⟩, by rw [← HPL.out]; exact HJ2.out⟩
end Go.Proofs.YteoembjghmgbhaaDoor
