/- The walks of texts: Lines, as an iterator. -/
import Derived.Test.YtmhiiomejopaoaaGreatDoorW2
import Derived.Test.YtmhiiomejopaoaaGreatDoorFX
namespace Go.Proofs.YtmhiiomejopaoaaGreatDoor
set_option linter.all false
set_option maxRecDepth 100000
open Go.RowKit

theorem Lines_any (s : List UInt8) (w : World) : Calls Tryz.prog 27 #[.string ⟨s.toArray⟩] w fun e w' => e = .returned (.func (.func 56) #[] #[.pointer (some ⟨w.heap.size, 0, none⟩)]) ∧ w' = w.alloc (.cells #[.string ⟨s.toArray⟩] 9) := by
  go_enter Tryz.func27, Tryz.ntmps27
  go_wp2
  go_ret
  exact ⟨rfl, rfl⟩
theorem ba_take (r : List UInt8) (k : Nat) : (⟨r.toArray⟩ : ByteArray).extract 0 k = ⟨(r.take k).toArray⟩ := by
  apply ba_ext
  rw [Lib.extract_from_zero]
theorem ba_drop (r : List UInt8) (k : Nat) : (⟨r.toArray⟩ : ByteArray).extract k (⟨r.toArray⟩ : ByteArray).size = ⟨(r.drop k).toArray⟩ := by
  apply ba_ext
  rw [Lib.extract_to_end]
theorem slice_to (r : List UInt8) (k : Nat) (h : k ≤ r.length) (W : World) : (Instr.sliceAt 9 (.string ⟨r.toArray⟩) none (some (.int .i64 (k : Int))) none).run Tryz.prog W = .ok (.string ⟨(r.take k).toArray⟩) W := by
  refine (run_sliceAt_string (P := Tryz.prog) (w := W) 9 _ _ _ _ (by kernel_rfl)).trans ?_
  refine (run_slice_string_h (P := Tryz.prog) (w := W) 9 _ (by kernel_rfl) .i64 (k : Int) (by omega) (by show _ ≤ ((r.toArray.size : Nat) : Int); simp; omega)).trans ?_
  rw [show ((k : Int)).toNat = k by omega, ba_take]
theorem slice_from (r : List UInt8) (k : Nat) (h : k ≤ r.length) (W : World) : (Instr.sliceAt 9 (.string ⟨r.toArray⟩) (some (.int .i64 (k : Int))) none none).run Tryz.prog W = .ok (.string ⟨(r.drop k).toArray⟩) W := by
  refine (run_sliceAt_string (P := Tryz.prog) (w := W) 9 _ _ _ _ (by kernel_rfl)).trans ?_
  refine (run_slice_string_l (P := Tryz.prog) (w := W) 9 _ (by kernel_rfl) .i64 (k : Int) (by omega) (by show _ ≤ ((r.toArray.size : Nat) : Int); simp; omega)).trans ?_
  rw [show ((k : Int)).toNat = k by omega, ba_drop]
theorem set_box {w : World} {p : Nat} {a x : Value} {t : TypeId} (h : w.heap[p]? = some (.cells #[a] t (0, 0))) : (w.setCell ⟨p, 0, none⟩ x).heap[p]? = some (.cells #[x] t (0, 0)) := by
  simp [World.setCell, Array.getElem?_modify, h]
theorem indexByte_lt (l : List UInt8) (c : UInt8) : Lib.indexByte l c < l.length ∨ (l = [] ∧ Lib.indexByte l c = -1) := by
  induction l with
  | nil => exact .inr ⟨rfl, rfl⟩
  | cons x t ih =>
    left
    show (if x == c then (0 : Int) else if Lib.indexByte t c == -1 then -1 else Lib.indexByte t c + 1) < _
    split
    · simp
    · split
      · simp
        omega
      · rcases ih with h | ⟨_, h⟩
        · simp
          omega
        · simp
          omega
set_option maxHeartbeats 4000000 in
theorem lines1 (n bs : Nat) (s : List UInt8) (hs : s.length ≤ 100000) (W0 : World) (h : W0.heap[bs]? = some (.cells #[.string ⟨s.toArray⟩] 9 (0, 0))) :
    SeqX n Tryz.prog 56 #[.pointer (some ⟨bs, 0, none⟩)] (fun x : List UInt8 => #[.string ⟨x.toArray⟩]) bs (linesF s.length s) W0 := by
  intro l' J Jx W hW hJ hJx hY h0
  refine callsIn_wide.2 ?_
  have hlt0 := (Array.getElem?_eq_some_iff.1 h).1
  have HX0 := Lib.hid ((hW.block bs hlt0).trans h)
  have HJ := Lib.hid hJ
  have HY := Lib.hid hY
  have H0 := Lib.hid h0
  clear hJ hJx hY h0 hW h
  show Calls Tryz.prog 56 #[.func (.yield l') #[] #[], .pointer (some ⟨bs, 0, none⟩)] W _
  go_enter Tryz.func56, Tryz.ntmps56
  go_wp2
  go_loopg [3] s.length (fun k v wr => ∃ (pre : List (List UInt8)) (r : List UInt8), k = r.length ∧ r.length ≤ 100000 ∧ Hid (linesF s.length s = pre ++ linesF r.length r) ∧ Hid (J pre wr) ∧ Hid (wr.heap[bs]? = some (.cells #[.string ⟨r.toArray⟩] 9 (0, 0))))
  case atStart => exact ⟨[], s, rfl, hs, Lib.hid rfl, H0, HX0⟩
  case round =>
    obtain ⟨pre, r, rfl, hr, HP, HJ1, HX⟩ := hrel
    have y0 := cell_of_heap HX.out 0
    have yf := frozen_of_heap HX.out 0
    have yl := (Array.getElem?_eq_some_iff.1 HX.out).1
    simp at y0
    by_cases hr0 : r = []
    · subst hr0
      have t1 : decide ((0 : Int) < (([] : List UInt8).length : Int)) = false := rfl
      go_wp2
      go_end0
      exact ⟨⟨_, rfl⟩, .inl (by have := HP.out; simp [linesF] at this; rw [this]; exact HJ1.out)⟩
    · have hlen : 0 < r.length := List.length_pos_iff.2 hr0
      have t1 : decide ((0 : Int) < (r.length : Int)) = true := decide_eq_true (by omega)
      have HI := Lib.hid (fun W => idx_any r W)
      have HST := Lib.hid (show linesF r.length r = r.take (nlN r) :: linesF (r.drop (nlN r)).length (r.drop (nlN r)) by
        obtain ⟨k, hk⟩ : ∃ k, r.length = k + 1 := ⟨r.length - 1, by omega⟩
        rw [hk]
        have h1 : linesF (k + 1) r = r.take (nlN r) :: linesF k (r.drop (nlN r)) := if_neg hr0
        have h2 := nlN_pos hr0
        rw [h1, linesF_more k (r.drop (nlN r)).length _ (by simp; omega) (by omega)])
      have HNP := Lib.hid (nlN_pos hr0)
      by_cases hi : Lib.indexByte r 10 = -1
      · have t2 : decide ((0 : Int) ≤ -1) = false := rfl
        rw [hi] at HI
        have hnl : nlN r = r.length := if_pos hi
        rw [hnl] at HST HNP
        rw [List.take_length, List.drop_length] at HST
        clear hi hnl
        go_upto_region 6 with (go_at_call 57; refine (HI.out _).mono ?_; rintro e w1 ⟨rfl, rfl⟩; clear HI)
        obtain ⟨W1, hW1⟩ : ∃ W1, wr.setCell ⟨bs, 0, none⟩ (.string ⟨#[]⟩) = W1 := ⟨_, rfl⟩
        rw [hW1]
        have HB1 := Lib.hid (show W1.heap[bs]? = some (.cells #[.string ⟨([] : List UInt8).toArray⟩] 9 (0, 0)) by rw [← hW1]; exact set_box HX.out)
        have HG1 := Lib.hid (show wr.grownBy W1 (some bs) by rw [← hW1]; exact grown_set (grown_refl _ _) _ _ (.inl rfl))
        clear hW1 y0 yf
        obtain ⟨fn, tmps, assign, body, hyy, hR⟩ := HY.out pre r W1 (HJ.out _ _ _ HJ1.out HG1.out) ⟨_, by rw [HP.out, HST.out, List.append_assoc]; rfl⟩
        have HR := Lib.hid hR
        clear hR
        refine (wpIn_wide (n := n)).1 ?_
        gi_wp2
        refine ⟨fun h => by simp [Fence.wide] at h, HR.out.mono ?_⟩
        rintro e W2 (⟨rfl, hJ2, hk2⟩ | ⟨rfl, hJx2⟩)
        · have HB2 := Lib.hid (hk2 _ HB1.out rfl)
          have HJ2 := Lib.hid hJ2
          clear hJ2 hk2 hyy
          gi_wp2
          go_wp2
          go_roundg (([] : List UInt8)).length
          case rel => exact ⟨pre ++ [r], ([] : List UInt8), rfl, by simp, Lib.hid (by rw [HP.out, HST.out]; simp), HJ2, HB2⟩
          case measure => simp; omega
        · have HJ2 := Lib.hid hJx2
          clear hJx2 hyy
          gi_wp2
          go_wp2
          refine bodyPost_ret (results_none rfl _ _ _) rfl ?_
          exact ⟨⟨_, rfl⟩, .inr HJ2.out⟩
      · obtain ⟨i, hi2⟩ : ∃ i : Nat, Lib.indexByte r 10 = (i : Int) := ⟨(Lib.indexByte r 10).toNat, by have := Lib.indexByte_ge r 10; omega⟩
        have hil : i < r.length := by
          rcases indexByte_lt r 10 with h | ⟨h, _⟩
          · omega
          · exact absurd h hr0
        have hnl : nlN r = i + 1 := by unfold nlN; rw [if_neg hi, hi2]; omega
        rw [hi2] at HI
        rw [hnl] at HST HNP
        have t2 : decide ((0 : Int) ≤ (i : Int)) = true := decide_eq_true (by omega)
        have e1 : IntKind.i64.wrap ((i : Int) + 1) = (i : Int) + 1 := by rw [IntKind.wrap_i64]; omega
        have sl1 := slice_to r (i + 1) (by omega)
        have sl2 := slice_from r (i + 1) (by omega)
        rw [show (((i + 1 : Nat)) : Int) = (i : Int) + 1 by omega] at sl1 sl2
        clear hi hi2 hnl
        go_wp2_with (go_at_call 57; refine (HI.out _).mono ?_; rintro e w1 ⟨rfl, rfl⟩; clear HI)
        go_still_tail 9, (by kernel_rfl)
        go_upto_region 6 with fail
        obtain ⟨X, hX⟩ : ∃ X, r.take (i + 1) = X := ⟨_, rfl⟩
        obtain ⟨R, hR⟩ : ∃ R, r.drop (i + 1) = R := ⟨_, rfl⟩
        have hRl : R.length < r.length := by rw [← hR]; simp; omega
        rw [hX, hR] at HST
        rw [hX, hR]
        obtain ⟨W1, hW1⟩ : ∃ W1, (wr.setCell ⟨bs, 0, none⟩ (.string ⟨R.toArray⟩)).drew = W1 := ⟨_, rfl⟩
        rw [hW1]
        have HB1 := Lib.hid (show W1.heap[bs]? = some (.cells #[.string ⟨R.toArray⟩] 9 (0, 0)) by rw [← hW1]; exact set_box HX.out)
        have HG1 := Lib.hid (show wr.grownBy W1 (some bs) by rw [← hW1]; exact grown_drew (grown_set (grown_refl _ _) _ _ (.inl rfl)))
        clear hW1 y0 yf sl1 sl2 hX hR
        obtain ⟨fn, tmps, assign, body, hyy, hR⟩ := HY.out pre X W1 (HJ.out _ _ _ HJ1.out HG1.out) ⟨_, by rw [HP.out, HST.out, List.append_assoc]; rfl⟩
        have HR := Lib.hid hR
        clear hR
        refine (wpIn_wide (n := n)).1 ?_
        gi_wp2
        refine ⟨fun h => by simp [Fence.wide] at h, HR.out.mono ?_⟩
        rintro e W2 (⟨rfl, hJ2, hk2⟩ | ⟨rfl, hJx2⟩)
        · have HB2 := Lib.hid (hk2 _ HB1.out rfl)
          have HJ2 := Lib.hid hJ2
          clear hJ2 hk2 hyy
          gi_wp2
          go_wp2
          go_roundg (R).length
          case rel => exact ⟨pre ++ [X], R, rfl, by omega, Lib.hid (by rw [HP.out, HST.out]; simp), HJ2, HB2⟩
          case measure => omega
        · have HJ2 := Lib.hid hJx2
          clear hJx2 hyy
          gi_wp2
          go_wp2
          refine bodyPost_ret (results_none rfl _ _ _) rfl ?_
          exact ⟨⟨_, rfl⟩, .inr HJ2.out⟩
end Go.Proofs.YtmhiiomejopaoaaGreatDoor
