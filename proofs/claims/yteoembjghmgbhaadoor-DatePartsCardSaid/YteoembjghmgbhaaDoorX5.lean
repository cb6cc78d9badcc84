/- The law DateParts: the walk. -/
import Derived.Test.YteoembjghmgbhaaDoorX1
import Derived.Test.YteoembjghmgbhaaDoorC9
import Derived.Test.YteoembjghmgbhaaDoorV4
import Derived.Deep.RegionHeld3
namespace Go.Proofs.YteoembjghmgbhaaDoor
set_option linter.all false
open Go.RowKit


set_option maxRecDepth 100000 in
set_option maxHeartbeats 1000000 in
theorem parts_huge (s : Sp) (A : Option Addr) (c : Nat) (l : List Sp) (day k : Int) (w : World) (hT : Tab w) (hl : 59 < l.length) (hl2 : l.length ≤ 9223372036854775807) :
    Calls Tryd.prog 14 #[spv s, .slice A l.length c, .int .i64 day, .int .u8 k] w fun e w' => e = .returned (.bool true) ∧ Below w.heap.size w w' := by
  have HT := Lib.hid hT
  have t : decide ((59 : Int) < (l.length : Int)) = true := decide_eq_true (by omega)
  clear hT hl hl2
  obtain ⟨a, b⟩ := s
  unfold spv
  simp only
  go_enter Tryd.func14, Tryd.ntmps14
  go_wp2_with (first | (go_at_call 22; refine (sanity_any _ (HT.out.below bel)).mono ?_; rintro e w9 ⟨rfl, hb⟩; have HB9 := Lib.hid (below_trans (bel : Below w.heap.size w (w.alloc _)) hb); clear hb))
  go_ret
  exact ⟨rfl, HB9.out⟩
set_option maxRecDepth 100000 in
set_option maxHeartbeats 1000000 in
theorem parts_bad (s : Sp) (A : Option Addr) (c : Nat) (l : List Sp) (day k : Int) (w : World) (hT : Tab w) (hl : l.length ≤ 59) (hv : (l.any fun s => !spanB s) = true) (hnil : A = none → l.length = 0 ∧ c = 0) (h : SpsAt w A l) :
    Calls Tryd.prog 14 #[spv s, .slice A l.length c, .int .i64 day, .int .u8 k] w fun e w' => e = .returned (.bool true) ∧ Below w.heap.size w w' := by
  have HT := Lib.hid hT
  have he : spansE l = 1 := by unfold spansE; rw [if_neg (by omega), hv]; rfl
  have HU := Lib.hid (fun W (hW : Below w.heap.size w W) => union_ret (L := []) ⟨he, fun _ => rfl, fun h => by cases h⟩ A c W (by omega) hnil (h.below hW))
  have t1 : decide ((59 : Int) < (l.length : Int)) = false := decide_eq_false (by omega)
  clear hT hl hnil h he hv
  obtain ⟨a, b⟩ := s
  unfold spv at *
  simp only [List.length_nil] at *
  go_enter Tryd.func14, Tryd.ntmps14
  go_wp2_with (first | (go_at_call 48; refine (HU.out _ bel).mono ?_; rintro e w1 ⟨A1, c1, rfl, hs1, hb⟩; have HB1 := Lib.hid (below_trans (bel : Below w.heap.size w (w.alloc _)) hb); obtain ⟨q0, q1, _, _, lq⟩ := cells2 (lnew hb); clear hb hs1) | (go_at_call 22; refine (sanity_any _ (HT.out.below HB1.out)).mono ?_; rintro e w9 ⟨rfl, hb⟩; have HB9 := Lib.hid (below_trans HB1.out hb); clear hb))
  go_ret
  exact ⟨rfl, HB9.out⟩
/-- What Minus gives. -/
theorem minus_is (a b : Sp) (ha : spanB a = true) (hb : spanB b = true) : (rgapsL a [b]).length ≤ 1000 ∧ ∀ W, Calls Tryd.prog 54 #[spv a, spv b] W fun e w' => ∃ A c, e = .returned (.tuple #[.slice A (rgapsL a [b]).length c, .int .i64 0]) ∧ SpsAt w' A (rgapsL a [b]) ∧ Below W.heap.size W w' := by
  have ha2 : 0 ≤ a.lo ∧ a.lo ≤ a.hi ∧ a.hi ≤ 60000 := by simpa [spanB] using ha
  have hb2 : 0 ≤ b.lo ∧ b.lo ≤ b.hi ∧ b.hi ≤ 60000 := by simpa [spanB] using hb
  have hgl : restL a [b] = rgapsL a [b] := rest_gaps a [b] [b] (fun x hx => by simp at hx; rcases hx with rfl | rfl <;> omega) ⟨by simp; omega, List.pairwise_singleton _ _⟩ (fun _ => Iff.rfl)
  have hn : minusL a b = rgapsL a [b] := by unfold minusL; rw [ha, hb, ← hgl]; rfl
  have he : minusE a b = 0 := by unfold minusE; rw [ha, hb]; rfl
  refine ⟨?_, fun W => ?_⟩
  · rw [← hgl]
    unfold restL
    have := (restF_bd a [b] ⟨ha2.1, by omega⟩ (fun x hx => by simp at hx; subst hx; omega) 1 (by simp)).2
    rw [show [b].take 1 = [b] from rfl] at this
    rw [List.length_append]
    split <;> simp <;> omega
  · have h := Minus_any a b W
    rw [hn, he] at h
    refine h.mono ?_
    rintro e w' ⟨v, rfl, ho, hb⟩
    obtain ⟨A, c, rfl, -⟩ := own_slice ho
    exact ⟨A, c, rfl, own_sps ho, hb⟩
/-- What Meet gives, and what it has in common with Minus. -/
def MeetFacts (s x m : Sp) (e : Int) : Prop := (e = 0 ∧ 0 ≤ m.lo ∧ m.lo ≤ m.hi ∧ m.hi ≤ 60000 ∧ m.hi - m.lo + 1 + countL (rgapsL s [x]) = s.hi - s.lo + 1 ∧ hasB (rgapsL s [x]) m.lo = false) ∨ (e = 5 ∧ m = ⟨0, 0⟩ ∧ countL (rgapsL s [x]) = s.hi - s.lo + 1)
theorem meet_facts (s x : Sp) (hs : spanB s = true) (hx : spanB x = true) : MeetFacts s x (MeetR s x).1 (MeetR s x).2 := by
  have h1 : 0 ≤ s.lo ∧ s.lo ≤ s.hi ∧ s.hi ≤ 60000 := by simpa [spanB] using hs
  have h2 : 0 ≤ x.lo ∧ x.lo ≤ x.hi ∧ x.hi ≤ 60000 := by simpa [spanB] using hx
  have hm : MeetR s x = if (meetS s x).hi < (meetS s x).lo then (⟨0, 0⟩, 5) else (meetS s x, 0) := by unfold MeetR; rw [hs, hx]; rfl
  have hr := meet_rest s x hs hx
  have ho := meet_out s x hs hx
  rw [hm]
  by_cases hc : (meetS s x).hi < (meetS s x).lo
  · rw [if_pos hc]
    rw [if_pos hc] at hr
    exact .inr ⟨rfl, rfl, by simpa using hr⟩
  · rw [if_neg hc]
    rw [if_neg hc] at hr
    refine .inl ⟨rfl, ?_, ?_, ?_, hr, ho (by omega)⟩
    · unfold meetS; simp only; omega
    · show (meetS s x).lo ≤ (meetS s x).hi
      omega
    · unfold meetS; simp only; omega


theorem turn_ret {l : List Sp} (hv : ∀ x ∈ l, spanB x = true) (hl : l.length ≤ 59) (i : Nat) (hi : i < l.length) (A : Option Addr) (c : Nat) (w : World) (hnil : A = none → l.length + 1 = 0 ∧ c = 0) (h : SpsAt w A (turnL l i)) :
    Calls Tryd.prog 48 #[.slice A (l.length + 1) c] w fun e w' => ∃ A' c', e = .returned (.tuple #[.slice A' (runionL l).length c', .int .i64 0]) ∧ SpsAt w' A' (runionL l) ∧ Below w.heap.size w w' := by
  have h1 := union_ret (turn_ok hv hl i hi) A c w (by rw [turn_len l i hi]; omega) (by rw [turn_len l i hi]; exact hnil) h
  rw [turn_len l i hi] at h1
  exact h1
theorem same_self {L : List Sp} (A : Option Addr) (c : Nat) (B : Option Addr) (d : Nat) (w : World) (hx : L.length ≤ 1000000) (h : SpsAt w A L) (h' : SpsAt w B L) :
    Calls Tryd.prog 40 #[.slice A L.length c, .slice B L.length d] w fun e w' => e = .returned (.bool true) ∧ Below w.heap.size w w' :=
  (rSame_any A c L B d L w hx h h').mono fun _ _ ⟨h1, h2⟩ => ⟨by rw [h1]; simp, h2⟩
theorem SpsAt.drop {w : World} {b o : Nat} {l : List Sp} (h : SpsAt w (some ⟨b, o, none⟩) l) (i : Nat) : SpsAt w (some ⟨b, o + i * 2, none⟩) (l.drop i) := by
  intro j h0 hj
  rw [List.length_drop] at hj
  obtain ⟨b', o', e, h1, h2⟩ := h.nat (i + j.toNat) (by omega)
  cases e
  have hg : gs (l.drop i) j = gs l ((i + j.toNat : Nat) : Int) := by
    have ht : ((i + j.toNat : Nat) : Int).toNat = i + j.toNat := by omega
    unfold gs
    rw [ht, List.getD_eq_getElem?_getD, List.getD_eq_getElem?_getD, List.getElem?_drop]
  rw [hg]
  refine ⟨b, o + i * 2, rfl, ?_, ?_⟩
  · rw [show o + i * 2 + j.toNat * 2 = o + (i + j.toNat) * 2 by omega]; exact h1
  · rw [show o + i * 2 + j.toNat * 2 + 1 = o + (i + j.toNat) * 2 + 1 by omega]; exact h2
theorem parts_at (s : Sp) (hs : spanB s = true) (k : Nat) (hk : k < (partsL s).length) : ∃ M : Nat, M ≤ 1971 ∧ (gs (partsL s) (k : Int)).lo = loV s k ∧ (gs (partsL s) (k : Int)).hi + 1 = loV s (k + 1) ∧ MonthR (gs (partsL s) (k : Int)).lo = ((M : Int), 0) ∧ MonthR (gs (partsL s) (k : Int)).hi = ((M : Int), 0) ∧ 0 ≤ loV s k ∧ loV s k ≤ 60000 ∧ 0 ≤ (gs (partsL s) (k : Int)).hi ∧ (gs (partsL s) (k : Int)).hi ≤ 60000 := by
  have hsb : 0 ≤ s.lo ∧ s.lo ≤ s.hi ∧ s.hi ≤ 60000 := by simpa [spanB] using hs
  have hk2 : k < partsN s := by unfold partsL at hk; rw [partsK_len] at hk; exact hk
  obtain ⟨h1, h2, h3, h4, h5, h6, h7, h8⟩ := cut_step s hs k (monI s.lo + k) hk2 rfl
  have hg : gs (partsL s) (k : Int) = ⟨loV s k, min s.hi (beginN (monI s.lo + k + 1) - 1)⟩ := by
    rw [← h4]
    unfold partsL partsK gs
    simp [List.getD_eq_getElem?_getD, hk2]
  have hq : 0 ≤ min s.hi (beginN (monI s.lo + k + 1) - 1) ∧ min s.hi (beginN (monI s.lo + k + 1) - 1) ≤ 60000 := by omega
  have hm : monI (min s.hi (beginN (monI s.lo + k + 1) - 1)) = monI s.lo + k := mon_uniq _ hq.1 hq.2 _ (by omega) (by omega) (by omega)
  rw [hg]
  refine ⟨monI s.lo + k, h8, rfl, h5.symm, ?_, ?_, h1, by omega, hq.1, hq.2⟩
  · unfold MonthR
    rw [if_pos (by simp [dayB]; omega), h3]
  · unfold MonthR
    rw [if_pos (by simp [dayB]; omega), hm]
theorem own_ge {w : World} {base n : Nat} {v : Value} {xs : List Value} (h : w.ownsRow base 37 2 v n xs) : ∀ b, v.ownBlock = some b → base ≤ b := by
  intro b hb
  rcases h.2 with ⟨e1, _⟩ | ⟨g, cap, cur, e1, e2, e3, _⟩
  · rw [e1] at hb; cases hb
  · rw [e1] at hb
    have e4 : some g = some b := hb
    cases e4
    exact e2
theorem turn_own {w : World} {base c i : Nat} {A : Option Addr} {l : List Sp} (hi : i < l.length) (h : w.ownsRow base 37 2 (.slice A (0 + (l.drop i).length + (l.take i).length) c) (0 + (l.drop i).length + (l.take i).length) (([] ++ spcs (l.drop i)) ++ spcs (l.take i))) :
    0 + (l.drop i).length + (l.take i).length = l.length ∧ w.ownsRow base 37 2 (.slice A l.length c) l.length (spcs (l.drop i ++ l.take i)) := by
  have e : 0 + (l.drop i).length + (l.take i).length = l.length := by simp; omega
  rw [e] at h
  refine ⟨e, ?_⟩
  have e2 : spcs (l.drop i ++ l.take i) = ([] ++ spcs (l.drop i)) ++ spcs (l.take i) := by simp [spcs]
  rw [e2]
  exact h
theorem turn_own2 {w : World} {base c i : Nat} {A : Option Addr} {l : List Sp} {x : Sp} (hx : gs l (i : Int) = x) (h : w.ownsRow base 37 2 (.slice A (l.length + 1) c) (l.length + 1) (spcs (l.drop i ++ l.take i) ++ spc x)) :
    w.ownsRow base 37 2 (.slice A (l.length + 1) c) (l.length + 1) (spcs (turnL l i)) := by
  have e2 : spcs (turnL l i) = spcs (l.drop i ++ l.take i) ++ spc x := by rw [← hx]; simp [spcs, turnL]
  rw [e2]
  exact h
theorem slice_from (b o n c i : Nat) (hi : i < n) (hc : n ≤ c) (W : World) : (Instr.sliceAt 54 (.slice (some ⟨b, o, none⟩) n c) (some (.int .i64 (i : Int))) none none).run Tryd.prog W = .ok (.slice (some ⟨b, o + i * 2, none⟩) (n - i) (c - i)) W := by
  refine (run_sliceAt_slice (P := Tryd.prog) (w := W) 54 _ _ _ _ (by kernel_rfl)).trans ?_
  refine (run_slice_l (P := Tryd.prog) (w := W) 54 _ _ _ (by kernel_rfl) _ _ (by omega) (by omega)).trans ?_
  rw [show Tryd.prog.elem 54 = 37 by kernel_rfl]
  have hz : (sizeOf 37).run Tryd.prog W = .ok 2 W := by kernel_rfl
  rw [hz]
  have hn : ¬ c = i := by omega
  simp [Result.andThen, sliced, hn, add_at]
theorem slice_to (b o n c i : Nat) (hi : i < n) (hc : n ≤ c) (W : World) : (Instr.sliceAt 54 (.slice (some ⟨b, o, none⟩) n c) none (some (.int .i64 (i : Int))) none).run Tryd.prog W = .ok (.slice (some ⟨b, o, none⟩) i c) W := by
  refine (run_sliceAt_slice (P := Tryd.prog) (w := W) 54 _ _ _ _ (by kernel_rfl)).trans ?_
  refine (run_slice_h (P := Tryd.prog) (w := W) 54 _ _ _ (by kernel_rfl) _ _ (by omega) (by omega)).trans ?_
  rw [show Tryd.prog.elem 54 = 37 by kernel_rfl]
  have hz : (sizeOf 37).run Tryd.prog W = .ok 2 W := by kernel_rfl
  rw [hz]
  simp [Result.andThen, sliced, add_at]
set_option maxRecDepth 100000 in
set_option maxHeartbeats 2000000 in
theorem parts_ok (s : Sp) (A : Option Addr) (c : Nat) (l : List Sp) (day k : Int) (w : World) (hT : Tab w) (hl : l.length ≤ 59) (hv : (l.any fun s => !spanB s) = false) (hk : 0 ≤ k ∧ k ≤ 255) (hnil : A = none → l.length = 0 ∧ c = 0) (hcap : l.length ≤ c) (h : SpsAt w A l) :
    Calls Tryd.prog 14 #[spv s, .slice A l.length c, .int .i64 day, .int .u8 k] w fun e w' => e = .returned (.bool true) ∧ Below w.heap.size w w' := by
  have HT := Lib.hid hT
  have he : spansE l = 0 := by unfold spansE; rw [if_neg (by omega), hv]; rfl
  have hvv := (spansE_zero he).2
  have HU := Lib.hid (fun W (hW : Below w.heap.size w W) => union_ret (L := runionL l) ⟨he, fun h => absurd rfl h, fun _ => rfl⟩ A c W (by omega) hnil (h.below hW))
  have HTU := Lib.hid (fun i hi A c w hn h => turn_ret (l := l) hvv hl i hi A c w hn h)
  have HLU := Lib.hid (show (runionL l).length ≤ 60003 from segN_len _ _)
  have HHU := Lib.hid (has_union hvv day)
  have HGU := Lib.hid (show Can (runionL l) ∧ Good (runionL l) from ⟨(runion_can l (good_of hvv)).1, can_good (runion_can l (good_of hvv)).1 (good_of hvv) (runion_can l (good_of hvv)).2⟩)
  have HV := Lib.hid hvv
  have HE := Lib.hid he
  have HLS := Lib.hid h
  have HK := Lib.hid hk
  have HN := Lib.hid hnil
  have HLL := Lib.hid hl
  have HCAP := Lib.hid hcap
  have t1 : decide ((59 : Int) < (l.length : Int)) = false := decide_eq_false (by omega)
  obtain ⟨U, hU⟩ : ∃ U, runionL l = U := ⟨_, rfl⟩
  rw [hU] at HU HTU HLU HHU HGU
  clear hT hl hnil hcap h he hv hvv hU hk
  have HSV := Lib.hid (rfl : spv s = spv s)
  have MK := Lib.hid True.intro
  obtain ⟨a, b⟩ := s
  unfold spv at *
  simp only at *
  go_enter Tryd.func14, Tryd.ntmps14
  go_upto_region 6 with (first | (go_at_call 48; refine (HU.out _ bel).mono ?_; rintro e w1 ⟨A1, c1, rfl, hs1, hb⟩; have HB1 := Lib.hid (below_trans (bel : Below w.heap.size w (w.alloc _)) hb); have HX1 := Lib.hid (lnew hb); have HS1 := Lib.hid hs1; clear hb hs1))
  obtain ⟨hd, hhd⟩ : ∃ hd, hasB l day = hd := ⟨_, rfl⟩
  have HU1 := Lib.hid (show Calls Tryd.prog 56 #[.slice A1 U.length c1, .int .i64 day] w1 fun e w' => e = .returned (.bool hd) ∧ w1 = w' by rw [← hhd, ← HHU.out]; exact lHas_any A1 c1 U day w1 (by have := HLU.out; omega) HS1.out)
  have HL1 := Lib.hid (show Calls Tryd.prog 56 #[.slice A l.length c, .int .i64 day] w1 fun e w' => e = .returned (.bool hd) ∧ w1 = w' by rw [← hhd]; exact lHas_any A c l day w1 (by have := HLL.out; omega) (HLS.out.below HB1.out))
  have HHD := Lib.hid hhd
  clear hhd
  go_upto_if 57 with (first | (go_at_call 56; refine (HU1.out).mono ?_; rintro e w9 ⟨rfl, rfl⟩; clear HU1) | (go_at_call 56; refine (HL1.out).mono ?_; rintro e w9 ⟨rfl, rfl⟩; clear HL1) | (go_at_call 57; refine (lApart_any A1 c1 U _ (by have := HLU.out; omega) HS1.out HGU.out.1 HGU.out.2).mono ?_; rintro e w2 ⟨rfl, hb⟩; have HB2 := Lib.hid (below_trans HB1.out hb); have HX2 := Lib.hid (lift0 hb HX1.out); have HS2 := Lib.hid (HS1.out.below hb); clear hb))
  go_cut [11, 12, 13, 14] from 57 to 90 (fun _ _ _ _ wx => Hid (Below w2.heap.size w2 wx))
  case first =>
    by_cases hl0 : 0 < l.length
    · have hkk := HK.out
      obtain ⟨i, hi, hki⟩ : ∃ i : Nat, i < l.length ∧ Int.tmod k (l.length : Int) = (i : Int) := by
        refine ⟨(Int.tmod k (l.length : Int)).toNat, ?_, ?_⟩
        · have := Int.tmod_lt_of_pos k (show (0 : Int) < l.length by omega)
          have := Int.tmod_nonneg (l.length : Int) hkk.1
          omega
        · have := Int.tmod_nonneg (l.length : Int) hkk.1
          omega
      have HI := Lib.hid hi
      have HKI := Lib.hid hki
      have HLU2 := Lib.hid (HTU.out i hi)
      have HL2 := Lib.hid (HLS.out.below HB2.out)
      obtain ⟨b0, o0, hA0, -, -⟩ := HLS.out.nat 0 hl0
      have t2 : decide (0 < l.length) = true := decide_eq_true hl0
      have hk0 : IntKind.i64.wrap k = k := by rw [IntKind.wrap_i64]; omega
      go_upto_region 10 with fail
      go_cut [12] from 57 to 71 (fun v wx => ∃ A7 c7, v = .slice A7 l.length c7 ∧ Hid (wx.ownsRow w2.heap.size 37 2 v l.length (spcs (l.drop i ++ l.take i))) ∧ Hid (Below w2.heap.size w2 wx))
      case first =>
        subst hA0
        obtain ⟨Wd, hWd⟩ : ∃ Wd, Wd = w2.drew := ⟨_, rfl⟩
        have HWW := Lib.hid (show Below w2.heap.size w2 Wd by rw [hWd]; exact (Below.refl _ w2).drew)
        have HSZ := Lib.hid (show Wd.heap.size = w2.heap.size by rw [hWd]; rfl)
        have HLD := Lib.hid (HL2.out.below HWW.out)
        have hTr : (fun _ : World => True) Wd := trivial
        refine wp_region_held_drew (S := fun _ => True) (by kernel_rfl) trivial (fun hHeld => ?_)
        rw [← hWd]
        clear hWd hHeld
        have es1 := slice_from b0 o0 l.length c i hi HCAP.out
        have es2 := slice_to b0 o0 l.length c i hi HCAP.out
        refine wpAnyH_take (i := 1) (v := ?_) rfl (by kernel_rfl) (by kernel_rfl) (by kernel_rfl) (fun _ _ _ h => h) (Or.inl ⟨by rfl, ?hyy⟩) (by assumption) ?_
        case hyy => (intro w hSw; (try dsimp only at hSw); go_simp; all_goals (with_reducible rfl))
        try simp only [List.getElem_toArray, List.getElem_cons_zero, List.getElem_cons_succ, Act.put, List.setIfInBounds_toArray, List.set_cons_zero, List.set_cons_succ]
        refine wpAnyH_take (i := 2) (v := ?_) rfl (by kernel_rfl) (by kernel_rfl) (by kernel_rfl) (fun _ _ _ h => h) (Or.inl ⟨by rfl, ?hyy⟩) (by assumption) ?_
        case hyy => (intro w hSw; (try dsimp only at hSw); go_simp; all_goals (with_reducible rfl))
        try simp only [List.getElem_toArray, List.getElem_cons_zero, List.getElem_cons_succ, Act.put, List.setIfInBounds_toArray, List.set_cons_zero, List.set_cons_succ]
        refine wpAnyH_take (i := 3) (v := ?_) rfl (by kernel_rfl) (by kernel_rfl) (by kernel_rfl) (fun _ _ _ h => h) (Or.inl ⟨by rfl, ?hyy⟩) (by assumption) ?_
        case hyy => (intro w hSw; (try dsimp only at hSw); go_simp; all_goals (with_reducible rfl))
        try simp only [List.getElem_toArray, List.getElem_cons_zero, List.getElem_cons_succ, Act.put, List.setIfInBounds_toArray, List.set_cons_zero, List.set_cons_succ]
        refine wpAnyH_take (i := 5) (v := ?_) rfl (by kernel_rfl) (by kernel_rfl) (by kernel_rfl) (fun _ _ _ h => h) (Or.inl ⟨by rfl, ?hyy⟩) (by assumption) ?_
        case hyy => (intro w hSw; (try dsimp only at hSw); go_simp; all_goals (with_reducible rfl))
        try simp only [List.getElem_toArray, List.getElem_cons_zero, List.getElem_cons_succ, Act.put, List.setIfInBounds_toArray, List.set_cons_zero, List.set_cons_succ]
        refine wpAnyH_take (i := 6) (v := ?_) rfl (by kernel_rfl) (by kernel_rfl) (by kernel_rfl) (fun _ _ _ h => h) (Or.inl ⟨by rfl, ?hyy⟩) (by assumption) ?_
        case hyy => (intro w hSw; (try dsimp only at hSw); go_simp; all_goals (with_reducible rfl))
        try simp only [List.getElem_toArray, List.getElem_cons_zero, List.getElem_cons_succ, Act.put, List.setIfInBounds_toArray, List.set_cons_zero, List.set_cons_succ]
        refine wpAnyH_take (i := 7) (v := ?_) rfl (by kernel_rfl) (by kernel_rfl) (by kernel_rfl) (fun _ _ _ h => h) (Or.inl ⟨by rfl, ?hyy⟩) (by assumption) ?_
        case hyy => (intro w hSw; (try dsimp only at hSw); go_simp; all_goals (with_reducible rfl))
        try simp only [List.getElem_toArray, List.getElem_cons_zero, List.getElem_cons_succ, Act.put, List.setIfInBounds_toArray, List.set_cons_zero, List.set_cons_succ]
        refine wpAnyH_ready (rs := [0]) (by kernel_rfl) (by simp) ?_
        refine AllReadyH.cons rfl (fun K hK => ?_) AllReadyH.nil
        go_simp
        refine hK.out _ _ trivial (fun hHn => ?_)
        clear hK K hHn
        try simp only [List.getElem_toArray, List.getElem_cons_zero, List.getElem_cons_succ, Act.put, List.setIfInBounds_toArray, List.set_cons_zero, List.set_cons_succ]
        refine wpAnyH_ready (rs := [4]) (by kernel_rfl) (by simp) ?_
        refine AllReadyH.cons rfl (fun K hK => ?_) AllReadyH.nil
        refine step_app_sps rfl (.tmp 63) (.tmp 66) rfl Wd.heap.size (.slice (some ⟨Wd.heap.size, 0, none⟩) 0 0) 0 [] (by simp [Act.eval, Act.put]) (own_at (heap_alloc_new Wd _) (by simp)) (some ⟨b0, o0 + i * 2, none⟩) (c - i) (l.drop i) (by simp [Act.eval, Act.put]) ((HLD.out.drop i).alloc _) (fun h => by cases h) (by have := HLL.out; simp; omega) (by simp) ?_
        intro v5 w5 ho5 hg5 _
        have HB5 := Lib.hid (below_own (Below.alloc (Below.refl _ Wd) (Nat.le_refl _) (.cells #[] 37)) hg5 (by simp) (fun b hb => by cases hb; exact Nat.le_refl _))
        have HO5 := Lib.hid ho5
        clear ho5 hg5
        refine hK.out _ _ trivial (fun hHn => ?_)
        clear hK K hHn
        try simp only [List.getElem_toArray, List.getElem_cons_zero, List.getElem_cons_succ, Act.put, List.setIfInBounds_toArray, List.set_cons_zero, List.set_cons_succ]
        refine wpAnyH_ready (rs := [8]) (by kernel_rfl) (by simp) ?_
        refine AllReadyH.cons rfl (fun K hK => ?_) AllReadyH.nil
        refine step_app_sps rfl (.tmp 67) (.tmp 70) rfl Wd.heap.size v5 (0 + (l.drop i).length) ([] ++ spcs (l.drop i)) (by simp [Act.eval, Act.put]) HO5.out (some ⟨b0, o0, none⟩) c (l.take i) (by simp [Act.eval, Act.put]; omega) ((HLD.out.below HB5.out).take i) (fun h => by cases h) (by have := HLL.out; simp; omega) HB5.out.size ?_
        intro v6 w6 ho6 hg6 _
        have HB6 := Lib.hid (below_own HB5.out hg6 HB5.out.size (own_ge HO5.out))
        obtain ⟨A9, c9, rfl, -⟩ := own_slice ho6
        have HO6 := Lib.hid (turn_own hi ho6)
        have hle := HO6.out.1
        rw [hle]
        clear ho6 hg6 hle
        refine hK.out _ _ trivial (fun hHn => ?_)
        clear hK K hHn
        try simp only [List.getElem_toArray, List.getElem_cons_zero, List.getElem_cons_succ, Act.put, List.setIfInBounds_toArray, List.set_cons_zero, List.set_cons_succ]
        refine wpAnyH_take (i := 9) (v := ?_) rfl (by kernel_rfl) (by kernel_rfl) (by kernel_rfl) (fun _ _ _ h => h) (Or.inl ⟨by rfl, ?hyy⟩) (by assumption) ?_
        case hyy => (intro w hSw; (try dsimp only at hSw); go_simp; all_goals (with_reducible rfl))
        try simp only [List.getElem_toArray, List.getElem_cons_zero, List.getElem_cons_succ, Act.put, List.setIfInBounds_toArray, List.set_cons_zero, List.set_cons_succ]
        refine wpAnyH_done (by kernel_rfl) ?_ _
        go_wp2_with fail
        go_meet
        exact ⟨A9, c9, rfl, Lib.hid (by rw [← HSZ.out]; exact HO6.out.2), Lib.hid (HWW.out.trans (HB6.out.mono (Nat.le_of_eq HSZ.out.symm)))⟩
      case rest =>
        subst hA0
        obtain ⟨A7, c7, rfl, HR7, HB7⟩ := hcut
        go_upto_region 11 with fail
        obtain ⟨b', o', e', g1, g2⟩ := (HL2.out.below HB7.out).nat i hi
        cases e'
        obtain ⟨x, hx⟩ : ∃ x, gs l (i : Int) = x := ⟨_, rfl⟩
        rw [hx] at g1 g2
        have HXE := Lib.hid hx
        clear hx
        obtain ⟨xa, xb⟩ := x
        simp only at g1 g2
        have hlb := World.block_lt_of_cell? _ _ g1
        dsimp only at hlb
        have i0 : (0 : Int) ≤ (i : Int) := by omega
        have i1 : (i : Int) < (l.length : Int) := by omega
        have i2 : (i : Int) < (l.length : Int) + 1 := by omega
        go_upto_if 90 with (first | (at_builtin; refine app_one rfl _ _ 54 37 (.agg #[.int .i64 0, .int .i64 0]) 2 16 rfl Tryd.underlying54 info37 rfl (by omega) (.slice A7 l.length c7) l.length (spcs (l.drop i ++ l.take i)) (spc ⟨xa, xb⟩) rfl rfl (by simp) rfl (spc_one _) w2.heap.size HR7.out HB7.out.size (by have := HLL.out; omega) (by have := HLL.out; unfold maxLen; omega) ?_; intro v1 w3 ho hg _; obtain ⟨A3, c3, rfl, -, hn3, -⟩ := own_slice ho; have HB3 := Lib.hid (below_own HB7.out hg HB7.out.size (own_ge HR7.out)); have HS3 := Lib.hid (own_sps (turn_own2 HXE.out ho)); have HN3 := Lib.hid hn3; clear hg ho hn3) | (go_at_call 48; refine (HLU2.out _ _ _ HN3.out HS3.out).mono ?_; rintro e w4 ⟨A4, c4, rfl, hs4, hb⟩; have HB4 := Lib.hid (below_trans HB3.out hb); have HS4 := Lib.hid hs4; clear hb hs4) | (go_at_call 40; refine (same_self A1 c1 A4 c4 _ (by have := HLU.out; omega) (HS2.out.below HB4.out) HS4.out).mono ?_; rintro e w5 ⟨rfl, hb⟩; have HB5 := Lib.hid (below_trans HB4.out hb); clear hb))
        go_wp2
        go_meet
        exact HB5
    · have t2 : decide (0 < l.length) = false := decide_eq_false hl0
      go_wp2
      go_meet
      exact Lib.hid (Below.refl _ _)
  case rest =>
    go_upto_region 14 with fail
    have HBc := Lib.hid (below_trans HB2.out hcut.out)
    have HXc := Lib.hid (lift0 hcut.out HX2.out)
    have HLc := Lib.hid (HLS.out.below HBc.out)
    obtain ⟨c0, c1', _, _, lc⟩ := cells2 HXc.out
    cases hs : spanB ⟨a, b⟩
    · have hg : gapsE ⟨a, b⟩ l = 1 := by unfold gapsE; rw [if_pos HE.out, hs]; rfl
      have HGA := Lib.hid (gaps_ret (s := ⟨a, b⟩) (L := []) ⟨hg, fun _ => rfl, fun h => by cases h⟩ A c wc (by have := HLL.out; omega) HN.out HLc.out)
      unfold spv at HGA
      simp only [List.length_nil] at HGA
      clear hs hg
      go_wp2_with (first | (go_at_call 49; refine HGA.out.mono ?_; rintro e w3 ⟨A3, c3, rfl, hs3, hb⟩; have HB3 := Lib.hid (below_trans HBc.out hb); clear hb hs3) | (go_at_call 22; refine (sanity_any _ (HT.out.below HB3.out)).mono ?_; rintro e w9 ⟨rfl, hb⟩; have HB9 := Lib.hid (below_trans HB3.out hb); clear hb))
      go_ret
      exact ⟨rfl, HB9.out⟩
    · have hg : gapsE ⟨a, b⟩ l = 0 := by unfold gapsE; rw [if_pos HE.out, hs]; rfl
      have HGA := Lib.hid (gaps_ret (s := ⟨a, b⟩) (L := rgapsL ⟨a, b⟩ l) ⟨hg, fun h => absurd rfl h, fun _ => rfl⟩ A c wc (by have := HLL.out; omega) HN.out HLc.out)
      have HGG := Lib.hid (good_gaps (s := ⟨a, b⟩) hs HV.out)
      have hgd := has_gaps (s := ⟨a, b⟩) hs HV.out day
      rw [HHD.out] at hgd
      have HLG := Lib.hid (show (rgapsL ⟨a, b⟩ l).length ≤ 60003 from segN_len _ _)
      unfold spv at HGA
      simp only at HGA hgd
      have HSB := Lib.hid hs
      obtain ⟨ins, hins⟩ : ∃ ins, (decide (a ≤ day) && decide (day ≤ b)) = ins := ⟨_, rfl⟩
      rw [hins] at hgd
      have HGD := Lib.hid hgd
      have HINS := Lib.hid hins
      obtain ⟨G, hG⟩ : ∃ G, rgapsL ⟨a, b⟩ l = G := ⟨_, rfl⟩
      rw [hG] at HGA HGG HGD HLG
      clear hs hg hgd hins hG
      go_upto_region 17 with (first | (go_at_call 49; refine HGA.out.mono ?_; rintro e w3 ⟨A3, c3, rfl, hs3, hb⟩; have HB3 := Lib.hid (below_trans HBc.out hb); have HX3 := Lib.hid (lift0 hb HXc.out); have HS3 := Lib.hid hs3; have HL3 := Lib.hid (HLc.out.below hb); clear hb hs3))
      obtain ⟨d0, d1, _, _, ld⟩ := cells2 HX3.out
      clear c0 c1' lc
      go_cut [17] from 100 to 109 (fun v wx => v = .bool ins ∧ w3 = wx)
      case first =>
        have hi := HINS.out
        by_cases h1 : a ≤ day
        · have t2 : decide (a ≤ day) = true := decide_eq_true h1
          by_cases h2 : day ≤ b
          · have t3 : decide (day ≤ b) = true := decide_eq_true h2
            rw [t2, t3] at hi
            subst hi
            clear h1 h2
            go_wp2
            go_meet
            exact ⟨rfl, rfl⟩
          · have t3 : decide (day ≤ b) = false := decide_eq_false h2
            rw [t2, t3] at hi
            subst hi
            clear h1 h2
            go_wp2
            go_meet
            exact ⟨rfl, rfl⟩
        · have t2 : decide (a ≤ day) = false := decide_eq_false h1
          rw [t2] at hi
          subst hi
          clear h1
          go_wp2
          go_meet
          exact ⟨rfl, rfl⟩
      case rest =>
        obtain ⟨rfl, rfl⟩ := hcut
        go_upto_region 18 with fail
        have HHG := Lib.hid (show Calls Tryd.prog 56 #[.slice A3 G.length c3, .int .i64 day] w3 fun e w' => e = .returned (.bool (ins && !hd)) ∧ w3 = w' by rw [← HGD.out]; exact lHas_any A3 c3 G day w3 (by have := HLG.out; omega) HS3.out)
        have HHL := Lib.hid (show Calls Tryd.prog 56 #[.slice A l.length c, .int .i64 day] w3 fun e w' => e = .returned (.bool hd) ∧ w3 = w' by rw [← HHD.out]; exact lHas_any A c l day w3 (by have := HLL.out; omega) HL3.out)
        have HAG := Lib.hid (lApart_any A3 c3 G w3 (by have := HLG.out; omega) HS3.out HGG.out.1 HGG.out.2)
        go_cut [125] from 110 to 125 (fun v wx => v = .bool false ∧ Hid (Below w3.heap.size w3 wx))
        case first =>
          cases ins
          · go_wp2_with (first | (go_at_call 56; refine HHG.out.mono ?_; rintro e w9 ⟨rfl, rfl⟩; clear HHG) | (go_at_call 57; refine HAG.out.mono ?_; rintro e w4 ⟨rfl, hb⟩; have HB4 := Lib.hid hb; clear hb))
            go_meet
            exact ⟨rfl, HB4⟩
          · cases hd
            · go_wp2_with (first | (go_at_call 56; refine HHG.out.mono ?_; rintro e w9 ⟨rfl, rfl⟩; clear HHG) | (go_at_call 56; refine HHL.out.mono ?_; rintro e w9 ⟨rfl, rfl⟩; clear HHL) | (go_at_call 57; refine HAG.out.mono ?_; rintro e w4 ⟨rfl, hb⟩; have HB4 := Lib.hid hb; clear hb))
              go_meet
              exact ⟨rfl, HB4⟩
            · go_wp2_with (first | (go_at_call 56; refine HHG.out.mono ?_; rintro e w9 ⟨rfl, rfl⟩; clear HHG) | (go_at_call 56; refine HHL.out.mono ?_; rintro e w9 ⟨rfl, rfl⟩; clear HHL) | (go_at_call 57; refine HAG.out.mono ?_; rintro e w4 ⟨rfl, hb⟩; have HB4 := Lib.hid hb; clear hb))
              go_meet
              exact ⟨rfl, HB4⟩
        case rest =>
          obtain ⟨rfl, HB4⟩ := hcut
          go_upto_if 128 with fail
          go_cut [18, 19, 20, 21, 22] from 126 to 177 (fun _ _ _ _ _ wx => Hid (Below wc.heap.size wc wx))
          case first =>
            by_cases hl0 : 0 < l.length
            · have HL4 := Lib.hid (HL3.out.below HB4.out)
              have HX4 := Lib.hid (lift0 HB4.out HX3.out)
              obtain ⟨b0, o0, hA0, p0, p1⟩ := HL4.out.nat 0 hl0
              subst hA0
              have hxv := HV.out _ (gs_mem (l := l) (i := 0) hl0)
              obtain ⟨x, hx⟩ : ∃ x, gs l ((0 : Nat) : Int) = x := ⟨_, rfl⟩
              rw [hx] at p0 p1 hxv
              have HXE := Lib.hid hx
              clear hx
              have HMF := Lib.hid (meet_facts ⟨a, b⟩ x HSB.out hxv)
              have HMC := Lib.hid (fun W => Meet_any ⟨a, b⟩ x W)
              have HMI := Lib.hid (minus_is ⟨a, b⟩ x HSB.out hxv)
              have HRG := Lib.hid (good_gaps (s := ⟨a, b⟩) (l := [x]) HSB.out (by simpa using hxv))
              obtain ⟨m, e, hme⟩ : ∃ m e, MeetR ⟨a, b⟩ x = (m, e) := ⟨_, _, rfl⟩
              rw [hme] at HMF HMC
              clear hme hxv
              unfold MeetFacts at HMF
              obtain ⟨R, hR⟩ : ∃ R, rgapsL ⟨a, b⟩ [x] = R := ⟨_, rfl⟩
              rw [hR] at HMF HMI HRG
              clear hR
              obtain ⟨mx, my⟩ := m
              obtain ⟨xa, xb⟩ := x
              unfold spv at HMC HMI
              simp only at HMC HMI HMF p0 p1
              have t2 : decide (0 < l.length) = true := decide_eq_true hl0
              have i0 : (0 : Int) < (l.length : Int) := by omega
              have i1 : (0 : Int) < (l.length : Int) + 1 := by omega
              go_upto_region 21 with fail
              go_cut [18, 19] from 126 to 136 (fun p e' wx => ∃ g, p = .pointer (some ⟨g, 0, none⟩) ∧ e' = .int .i64 e ∧ Hid (wx.heap[g]? = some (.cells #[.int .i64 mx, .int .i64 my] 37 (0, 0))) ∧ Hid (Below wc.heap.size wc wx))
              case first =>
                obtain ⟨f0, f1, _, _, lf⟩ := cells2 HX4.out
                refine wp_region_held_drew (S := fun w' => Below wc.drew.heap.size wc.drew w') (by kernel_rfl) (Below.refl _ _) (fun hHeld => ?_)
                clear hHeld
                obtain ⟨W0, hW0⟩ : ∃ W0, W0 = wc.drew := ⟨_, rfl⟩
                have q0 : W0.cell? ⟨w.heap.size, 0, none⟩ = some (.int .i64 a) := by rw [hW0]; exact f0
                have q1 : W0.cell? ⟨w.heap.size, 1, none⟩ = some (.int .i64 b) := by rw [hW0]; exact f1
                have r0 : W0.cell? ⟨b0, o0 + 0 * 2, none⟩ = some (.int .i64 xa) := by rw [hW0]; exact p0
                have r1 : W0.cell? ⟨b0, o0 + 0 * 2 + 1, none⟩ = some (.int .i64 xb) := by rw [hW0]; exact p1
                have lq := World.block_lt_of_cell? _ _ q0
                have lr := World.block_lt_of_cell? _ _ r0
                dsimp only at lq lr
                simp only [Nat.zero_mul, Nat.add_zero] at r0 r1
                have HWC := Lib.hid (show Below wc.heap.size wc W0 by rw [hW0]; exact (Below.refl _ wc).drew)
                rw [← hW0]
                clear hW0 f0 f1 lf p0 p1
                have hS0 : Below W0.heap.size W0 W0 := Below.refl _ _
                refine wpAnyH_take (i := 0) (v := ?_) rfl (by kernel_rfl) (by kernel_rfl) (by kernel_rfl) (fun _ _ _ h => h) (Or.inl ⟨by rfl, ?hyy⟩) (by assumption) ?_
                case hyy => (intro w hSw; (try dsimp only at hSw); have z0 := (hSw.cell lq).trans q0; have z1 := (hSw.cell lq).trans q1; go_simp; all_goals (with_reducible rfl))
                try simp only [List.getElem_toArray, List.getElem_cons_zero, List.getElem_cons_succ, Act.put, List.setIfInBounds_toArray, List.set_cons_zero, List.set_cons_succ]
                refine wpAnyH_take (i := 1) (v := ?_) rfl (by kernel_rfl) (by kernel_rfl) (by kernel_rfl) (fun _ _ _ h => h) (Or.inl ⟨by rfl, ?hyy⟩) (by assumption) ?_
                case hyy => (intro w hSw; (try dsimp only at hSw); go_simp; all_goals (with_reducible rfl))
                try simp only [List.getElem_toArray, List.getElem_cons_zero, List.getElem_cons_succ, Act.put, List.setIfInBounds_toArray, List.set_cons_zero, List.set_cons_succ]
                refine wpAnyH_take (i := 2) (v := ?_) rfl (by kernel_rfl) (by kernel_rfl) (by kernel_rfl) (fun _ _ _ h => h) (Or.inl ⟨by rfl, ?hyy⟩) (by assumption) ?_
                case hyy => (intro w hSw; (try dsimp only at hSw); go_simp; all_goals (with_reducible rfl))
                try simp only [List.getElem_toArray, List.getElem_cons_zero, List.getElem_cons_succ, Act.put, List.setIfInBounds_toArray, List.set_cons_zero, List.set_cons_succ]
                refine wpAnyH_take (i := 3) (v := ?_) rfl (by kernel_rfl) (by kernel_rfl) (by kernel_rfl) (fun _ _ _ h => h) (Or.inl ⟨by rfl, ?hyy⟩) (by assumption) ?_
                case hyy => (intro w hSw; (try dsimp only at hSw); have z0 := (hSw.cell lr).trans r0; have z1 := (hSw.cell lr).trans r1; go_simp; all_goals (with_reducible rfl))
                try simp only [List.getElem_toArray, List.getElem_cons_zero, List.getElem_cons_succ, Act.put, List.setIfInBounds_toArray, List.set_cons_zero, List.set_cons_succ]
                refine wpAnyH_ready (rs := [4, 8]) (by kernel_rfl) (by simp) ?_
                refine AllReadyH.cons rfl (fun K hK => ?_) (AllReadyH.cons rfl (fun K hK => ?_) AllReadyH.nil)
                · go_simp
                  go_at_call 53
                  refine (HMC.out _).mono ?_
                  rintro ee w5 ⟨rfl, hb⟩
                  have hS1 : Below W0.heap.size W0 w5 := hb
                  clear hb
                  refine hK.out _ _ hS1 (fun hHn => ?_)
                  clear hK K hHn hS0
                  try simp only [List.getElem_toArray, List.getElem_cons_zero, List.getElem_cons_succ, Act.put, List.setIfInBounds_toArray, List.set_cons_zero, List.set_cons_succ]
                  refine wpAnyH_take (i := 5) (v := ?_) rfl (by kernel_rfl) (by kernel_rfl) (by kernel_rfl) (fun _ _ _ h => h) (Or.inl ⟨by rfl, ?hyy⟩) (by assumption) ?_
                  case hyy => (intro w hSw; (try dsimp only at hSw); go_simp; all_goals (with_reducible rfl))
                  try simp only [List.getElem_toArray, List.getElem_cons_zero, List.getElem_cons_succ, Act.put, List.setIfInBounds_toArray, List.set_cons_zero, List.set_cons_succ]
                  refine wpAnyH_take (i := 6) (v := ?_) rfl (by kernel_rfl) (by kernel_rfl) (by kernel_rfl) (fun _ _ _ h => h) (Or.inl ⟨by rfl, ?hyy⟩) (by assumption) ?_
                  case hyy => (intro w hSw; (try dsimp only at hSw); go_simp; all_goals (with_reducible rfl))
                  try simp only [List.getElem_toArray, List.getElem_cons_zero, List.getElem_cons_succ, Act.put, List.setIfInBounds_toArray, List.set_cons_zero, List.set_cons_succ]
                  refine wpAnyH_take (i := 7) (v := ?_) rfl (by kernel_rfl) (by kernel_rfl) (by kernel_rfl) (fun _ _ _ h => h) (Or.inl ⟨by rfl, ?hyy⟩) (by assumption) ?_
                  case hyy => (intro w hSw; (try dsimp only at hSw); go_simp; all_goals (with_reducible rfl))
                  try simp only [List.getElem_toArray, List.getElem_cons_zero, List.getElem_cons_succ, Act.put, List.setIfInBounds_toArray, List.set_cons_zero, List.set_cons_succ]
                  refine wpAnyH_ready (rs := [8]) (by kernel_rfl) (by simp) ?_
                  refine AllReadyH.cons rfl (fun K hK => ?_) AllReadyH.nil
                  go_simp
                  have hS2 : Below W0.heap.size W0 (w5.alloc (.cells #[.int .i64 0, .int .i64 0] 37)) := hS1.alloc hS1.size _
                  refine hK.out _ _ hS2 (fun hHn => ?_)
                  clear hK K hHn
                  try simp only [List.getElem_toArray, List.getElem_cons_zero, List.getElem_cons_succ, Act.put, List.setIfInBounds_toArray, List.set_cons_zero, List.set_cons_succ]
                  refine wpAnyH_ready (rs := [9]) (by kernel_rfl) (by simp) ?_
                  refine AllReadyH.cons rfl (fun K hK => ?_) AllReadyH.nil
                  go_simp
                  have hS3 : Below W0.heap.size W0 (w5.alloc (.cells #[.int .i64 mx, .int .i64 my] 37)) := hS1.alloc hS1.size _
                  refine hK.out _ _ hS3 (fun hHn => ?_)
                  clear hK K hHn hS2
                  try simp only [List.getElem_toArray, List.getElem_cons_zero, List.getElem_cons_succ, Act.put, List.setIfInBounds_toArray, List.set_cons_zero, List.set_cons_succ]
                  refine wpAnyH_take (i := 10) (v := ?_) rfl (by kernel_rfl) (by kernel_rfl) (by kernel_rfl) (fun _ _ _ h => h) (Or.inl ⟨by rfl, ?hyy⟩) (by assumption) ?_
                  case hyy => (intro w hSw; (try dsimp only at hSw); go_simp; all_goals (with_reducible rfl))
                  try simp only [List.getElem_toArray, List.getElem_cons_zero, List.getElem_cons_succ, Act.put, List.setIfInBounds_toArray, List.set_cons_zero, List.set_cons_succ]
                  refine wpAnyH_done (by kernel_rfl) ?_ _
                  go_wp2_with fail
                  go_meet
                  exact ⟨_, rfl, rfl, Lib.hid (heap_alloc_new w5 _), Lib.hid (HWC.out.trans (hS3.mono HWC.out.size))⟩
                · go_simp
                  have hS1 : Below W0.heap.size W0 (W0.alloc (.cells #[.int .i64 0, .int .i64 0] 37)) := hS0.alloc hS0.size _
                  refine hK.out _ _ hS1 (fun hHn => ?_)
                  clear hK K hHn hS0
                  try simp only [List.getElem_toArray, List.getElem_cons_zero, List.getElem_cons_succ, Act.put, List.setIfInBounds_toArray, List.set_cons_zero, List.set_cons_succ]
                  refine wpAnyH_ready (rs := [4]) (by kernel_rfl) (by simp) ?_
                  refine AllReadyH.cons rfl (fun K hK => ?_) AllReadyH.nil
                  go_simp
                  go_at_call 53
                  refine (HMC.out _).mono ?_
                  rintro ee w5 ⟨rfl, hb⟩
                  have hS2 : Below W0.heap.size W0 w5 := hS1.trans (hb.mono hS1.size)
                  have HX5 := Lib.hid (lnew hb)
                  clear hb
                  refine hK.out _ _ hS2 (fun hHn => ?_)
                  clear hK K hHn hS1
                  try simp only [List.getElem_toArray, List.getElem_cons_zero, List.getElem_cons_succ, Act.put, List.setIfInBounds_toArray, List.set_cons_zero, List.set_cons_succ]
                  refine wpAnyH_take (i := 5) (v := ?_) rfl (by kernel_rfl) (by kernel_rfl) (by kernel_rfl) (fun _ _ _ h => h) (Or.inl ⟨by rfl, ?hyy⟩) (by assumption) ?_
                  case hyy => (intro w hSw; (try dsimp only at hSw); go_simp; all_goals (with_reducible rfl))
                  try simp only [List.getElem_toArray, List.getElem_cons_zero, List.getElem_cons_succ, Act.put, List.setIfInBounds_toArray, List.set_cons_zero, List.set_cons_succ]
                  refine wpAnyH_take (i := 6) (v := ?_) rfl (by kernel_rfl) (by kernel_rfl) (by kernel_rfl) (fun _ _ _ h => h) (Or.inl ⟨by rfl, ?hyy⟩) (by assumption) ?_
                  case hyy => (intro w hSw; (try dsimp only at hSw); go_simp; all_goals (with_reducible rfl))
                  try simp only [List.getElem_toArray, List.getElem_cons_zero, List.getElem_cons_succ, Act.put, List.setIfInBounds_toArray, List.set_cons_zero, List.set_cons_succ]
                  refine wpAnyH_take (i := 7) (v := ?_) rfl (by kernel_rfl) (by kernel_rfl) (by kernel_rfl) (fun _ _ _ h => h) (Or.inl ⟨by rfl, ?hyy⟩) (by assumption) ?_
                  case hyy => (intro w hSw; (try dsimp only at hSw); go_simp; all_goals (with_reducible rfl))
                  try simp only [List.getElem_toArray, List.getElem_cons_zero, List.getElem_cons_succ, Act.put, List.setIfInBounds_toArray, List.set_cons_zero, List.set_cons_succ]
                  refine wpAnyH_ready (rs := [9]) (by kernel_rfl) (by simp) ?_
                  refine AllReadyH.cons rfl (fun K hK => ?_) AllReadyH.nil
                  obtain ⟨z0, z1, zf0, zf1, zl⟩ := cells2 HX5.out
                  go_simp
                  have hS3 : Below W0.heap.size W0 ((w5.setCell ⟨W0.heap.size, 0, none⟩ (.int .i64 mx)).setCell ⟨W0.heap.size, 1, none⟩ (.int .i64 my)) := (hS2.setCell (Nat.le_refl _) _).setCell (Nat.le_refl _) _
                  refine hK.out _ _ hS3 (fun hHn => ?_)
                  clear hK K hHn hS2
                  try simp only [List.getElem_toArray, List.getElem_cons_zero, List.getElem_cons_succ, Act.put, List.setIfInBounds_toArray, List.set_cons_zero, List.set_cons_succ]
                  refine wpAnyH_take (i := 10) (v := ?_) rfl (by kernel_rfl) (by kernel_rfl) (by kernel_rfl) (fun _ _ _ h => h) (Or.inl ⟨by rfl, ?hyy⟩) (by assumption) ?_
                  case hyy => (intro w hSw; (try dsimp only at hSw); go_simp; all_goals (with_reducible rfl))
                  try simp only [List.getElem_toArray, List.getElem_cons_zero, List.getElem_cons_succ, Act.put, List.setIfInBounds_toArray, List.set_cons_zero, List.set_cons_succ]
                  refine wpAnyH_done (by kernel_rfl) ?_ _
                  go_wp2_with fail
                  go_meet
                  exact ⟨_, rfl, rfl, Lib.hid (set2 HX5.out), Lib.hid (HWC.out.trans (hS3.mono HWC.out.size))⟩
              case rest =>
                obtain ⟨g, rfl, rfl, HXM, HB5⟩ := hcut
                have HX5 := Lib.hid (lift0 HB5.out HX4.out)
                have HL5 := Lib.hid (HL4.out.below HB5.out)
                clear p0 p1
                go_upto_region 22 with fail
                go_cut [20, 21] from 137 to 144 (fun v f wx => ∃ A5 c5, v = .slice A5 R.length c5 ∧ f = .int .i64 0 ∧ Hid (SpsAt wx A5 R) ∧ Hid (Below wc.heap.size wc wx))
                case first =>
                  obtain ⟨f0, f1, _, _, lf⟩ := cells2 HX5.out
                  obtain ⟨b', o', e', p0, p1⟩ := HL5.out.nat 0 hl0
                  cases e'
                  rw [HXE.out] at p0 p1
                  simp only at p0 p1
                  refine wp_region_held_drew (S := fun w' => Below wc.drew.heap.size wc.drew w') (by kernel_rfl) (Below.refl _ _) (fun hHeld => ?_)
                  clear hHeld
                  obtain ⟨W0, hW0⟩ : ∃ W0, W0 = wc.drew := ⟨_, rfl⟩
                  have q0 : W0.cell? ⟨w.heap.size, 0, none⟩ = some (.int .i64 a) := by rw [hW0]; exact f0
                  have q1 : W0.cell? ⟨w.heap.size, 1, none⟩ = some (.int .i64 b) := by rw [hW0]; exact f1
                  have r0 : W0.cell? ⟨b0, o0 + 0 * 2, none⟩ = some (.int .i64 xa) := by rw [hW0]; exact p0
                  have r1 : W0.cell? ⟨b0, o0 + 0 * 2 + 1, none⟩ = some (.int .i64 xb) := by rw [hW0]; exact p1
                  have lq := World.block_lt_of_cell? _ _ q0
                  have lr := World.block_lt_of_cell? _ _ r0
                  dsimp only at lq lr
                  simp only [Nat.zero_mul, Nat.add_zero] at r0 r1
                  have HWC := Lib.hid (show Below wc.heap.size wc W0 by rw [hW0]; exact (Below.refl _ wc).drew)
                  rw [← hW0]
                  clear hW0 f0 f1 lf p0 p1
                  have hS0 : Below W0.heap.size W0 W0 := Below.refl _ _
                  refine wpAnyH_take (i := 0) (v := ?_) rfl (by kernel_rfl) (by kernel_rfl) (by kernel_rfl) (fun _ _ _ h => h) (Or.inl ⟨by rfl, ?hyy⟩) (by assumption) ?_
                  case hyy => (intro w hSw; (try dsimp only at hSw); have z0 := (hSw.cell lq).trans q0; have z1 := (hSw.cell lq).trans q1; go_simp; all_goals (with_reducible rfl))
                  try simp only [List.getElem_toArray, List.getElem_cons_zero, List.getElem_cons_succ, Act.put, List.setIfInBounds_toArray, List.set_cons_zero, List.set_cons_succ]
                  refine wpAnyH_take (i := 1) (v := ?_) rfl (by kernel_rfl) (by kernel_rfl) (by kernel_rfl) (fun _ _ _ h => h) (Or.inl ⟨by rfl, ?hyy⟩) (by assumption) ?_
                  case hyy => (intro w hSw; (try dsimp only at hSw); go_simp; all_goals (with_reducible rfl))
                  try simp only [List.getElem_toArray, List.getElem_cons_zero, List.getElem_cons_succ, Act.put, List.setIfInBounds_toArray, List.set_cons_zero, List.set_cons_succ]
                  refine wpAnyH_take (i := 2) (v := ?_) rfl (by kernel_rfl) (by kernel_rfl) (by kernel_rfl) (fun _ _ _ h => h) (Or.inl ⟨by rfl, ?hyy⟩) (by assumption) ?_
                  case hyy => (intro w hSw; (try dsimp only at hSw); go_simp; all_goals (with_reducible rfl))
                  try simp only [List.getElem_toArray, List.getElem_cons_zero, List.getElem_cons_succ, Act.put, List.setIfInBounds_toArray, List.set_cons_zero, List.set_cons_succ]
                  refine wpAnyH_take (i := 3) (v := ?_) rfl (by kernel_rfl) (by kernel_rfl) (by kernel_rfl) (fun _ _ _ h => h) (Or.inl ⟨by rfl, ?hyy⟩) (by assumption) ?_
                  case hyy => (intro w hSw; (try dsimp only at hSw); have z0 := (hSw.cell lr).trans r0; have z1 := (hSw.cell lr).trans r1; go_simp; all_goals (with_reducible rfl))
                  try simp only [List.getElem_toArray, List.getElem_cons_zero, List.getElem_cons_succ, Act.put, List.setIfInBounds_toArray, List.set_cons_zero, List.set_cons_succ]
                  refine wpAnyH_ready (rs := [4]) (by kernel_rfl) (by simp) ?_
                  refine AllReadyH.cons rfl (fun K hK => ?_) AllReadyH.nil
                  go_simp
                  go_at_call 54
                  refine (HMI.out.2 _).mono ?_
                  rintro ee w5 ⟨A5, c5, rfl, hsp, hb⟩
                  have hS1 : Below W0.heap.size W0 w5 := hb
                  have HS5 := Lib.hid hsp
                  clear hb hsp
                  refine hK.out _ _ hS1 (fun hHn => ?_)
                  clear hK K hHn hS0
                  try simp only [List.getElem_toArray, List.getElem_cons_zero, List.getElem_cons_succ, Act.put, List.setIfInBounds_toArray, List.set_cons_zero, List.set_cons_succ]
                  refine wpAnyH_take (i := 5) (v := ?_) rfl (by kernel_rfl) (by kernel_rfl) (by kernel_rfl) (fun _ _ _ h => h) (Or.inl ⟨by rfl, ?hyy⟩) (by assumption) ?_
                  case hyy => (intro w hSw; (try dsimp only at hSw); go_simp; all_goals (with_reducible rfl))
                  try simp only [List.getElem_toArray, List.getElem_cons_zero, List.getElem_cons_succ, Act.put, List.setIfInBounds_toArray, List.set_cons_zero, List.set_cons_succ]
                  refine wpAnyH_take (i := 6) (v := ?_) rfl (by kernel_rfl) (by kernel_rfl) (by kernel_rfl) (fun _ _ _ h => h) (Or.inl ⟨by rfl, ?hyy⟩) (by assumption) ?_
                  case hyy => (intro w hSw; (try dsimp only at hSw); go_simp; all_goals (with_reducible rfl))
                  try simp only [List.getElem_toArray, List.getElem_cons_zero, List.getElem_cons_succ, Act.put, List.setIfInBounds_toArray, List.set_cons_zero, List.set_cons_succ]
                  refine wpAnyH_take (i := 7) (v := ?_) rfl (by kernel_rfl) (by kernel_rfl) (by kernel_rfl) (fun _ _ _ h => h) (Or.inl ⟨by rfl, ?hyy⟩) (by assumption) ?_
                  case hyy => (intro w hSw; (try dsimp only at hSw); go_simp; all_goals (with_reducible rfl))
                  try simp only [List.getElem_toArray, List.getElem_cons_zero, List.getElem_cons_succ, Act.put, List.setIfInBounds_toArray, List.set_cons_zero, List.set_cons_succ]
                  refine wpAnyH_take (i := 8) (v := ?_) rfl (by kernel_rfl) (by kernel_rfl) (by kernel_rfl) (fun _ _ _ h => h) (Or.inl ⟨by rfl, ?hyy⟩) (by assumption) ?_
                  case hyy => (intro w hSw; (try dsimp only at hSw); go_simp; all_goals (with_reducible rfl))
                  try simp only [List.getElem_toArray, List.getElem_cons_zero, List.getElem_cons_succ, Act.put, List.setIfInBounds_toArray, List.set_cons_zero, List.set_cons_succ]
                  refine wpAnyH_take (i := 9) (v := ?_) rfl (by kernel_rfl) (by kernel_rfl) (by kernel_rfl) (fun _ _ _ h => h) (Or.inl ⟨by rfl, ?hyy⟩) (by assumption) ?_
                  case hyy => (intro w hSw; (try dsimp only at hSw); go_simp; all_goals (with_reducible rfl))
                  try simp only [List.getElem_toArray, List.getElem_cons_zero, List.getElem_cons_succ, Act.put, List.setIfInBounds_toArray, List.set_cons_zero, List.set_cons_succ]
                  refine wpAnyH_done (by kernel_rfl) ?_ _
                  go_wp2_with fail
                  go_meet
                  exact ⟨A5, c5, rfl, rfl, HS5, Lib.hid (HWC.out.trans (hS1.mono HWC.out.size))⟩
                case rest =>
                  obtain ⟨A5, c5, rfl, rfl, HS5, HB6⟩ := hcut
                  have HX6 := Lib.hid (lift0 HB6.out HX5.out)
                  have HM6 := Lib.hid (lift0 HB6.out HXM.out)
                  have hsb : 0 ≤ a ∧ a ≤ b ∧ b ≤ 60000 := by simpa [spanB] using HSB.out
                  have HCR := Lib.hid (lCount_any A5 c5 R wc (by have := HMI.out.1; omega) HS5.out HRG.out.2)
                  obtain ⟨q, hq⟩ : ∃ q, countL R = q := ⟨_, rfl⟩
                  rw [hq] at HMF
                  have HQE := Lib.hid hq
                  clear hq HCR
                  have HN7 := Lib.hid (show ∃ n : Int, n + q = b - a + 1 ∧ ((e = 0 ∧ n = my - mx + 1) ∨ (e = 5 ∧ n = 0)) by
                    rcases HMF.out with ⟨h1, h2, h3, h4, h5, h6⟩ | ⟨h1, h2, h3⟩
                    · exact ⟨my - mx + 1, h5, .inl ⟨h1, rfl⟩⟩
                    · exact ⟨0, by omega, .inr ⟨h1, rfl⟩⟩)
                  obtain ⟨n, hn, he⟩ := HN7.out
                  have HNQ := Lib.hid hn
                  have HEE := Lib.hid he
                  have hnb : 0 ≤ n ∧ n ≤ 60001 := by
                    rcases HMF.out with ⟨h1, h2, h3, h4, h5, h6⟩ | ⟨h1, h2, h3⟩
                    · rcases he with ⟨-, h⟩ | ⟨h, -⟩ <;> omega
                    · rcases he with ⟨h, -⟩ | ⟨-, h⟩ <;> omega
                  have hw1 : IntKind.i64.wrap (n + q) = n + q := by rw [IntKind.wrap_i64]; omega
                  have hw2 : IntKind.i64.wrap (b - a) = b - a := by rw [IntKind.wrap_i64]; omega
                  have hw3 : IntKind.i64.wrap (b - a + 1) = b - a + 1 := by rw [IntKind.wrap_i64]; omega
                  have tq : (n + q != b - a + 1) = false := by rw [hn]; simp
                  clear hn he HN7 hnb hsb
                  go_upto_if 146 with fail
                  go_cut [22] from 145 to 152 (fun v wx => v = .int .i64 n ∧ wc = wx)
                  case first =>
                    rcases HMF.out with ⟨h1, h2, h3, h4, h5, h6⟩ | ⟨h1, h2, h3⟩
                    · subst h1
                      have hnn : n = my - mx + 1 := by rcases HEE.out with ⟨-, h⟩ | ⟨h, -⟩ <;> omega
                      subst hnn
                      have hw4 : IntKind.i64.wrap (my - mx) = my - mx := by rw [IntKind.wrap_i64]; omega
                      have hw5 : IntKind.i64.wrap (my - mx + 1) = my - mx + 1 := by rw [IntKind.wrap_i64]; omega
                      obtain ⟨x0, x1, _, _, lx⟩ := cells2 HM6.out
                      clear h5 h6 tq hw1 hw2 hw3
                      go_wp2
                      go_meet
                      exact ⟨rfl, rfl⟩
                    · subst h1
                      have hnn : n = 0 := by rcases HEE.out with ⟨h, -⟩ | ⟨-, h⟩ <;> omega
                      subst hnn
                      clear tq hw1 hw2 hw3
                      go_wp2
                      go_meet
                      exact ⟨rfl, rfl⟩
                  case rest =>
                    obtain ⟨rfl, rfl⟩ := hcut
                    go_upto_region 26 with fail
                    have HCQ := Lib.hid (show ∀ k, Calls Tryd.prog 58 #[.slice A5 R.length c5] (wc.drewN k) fun e w' => e = .returned (.int .i64 q) ∧ ∃ m, w' = (wc.drewN k).drewN m from fun k => by rw [← HQE.out]; exact lCount_any A5 c5 R (wc.drewN k) (by have := HMI.out.1; omega) HS5.out HRG.out.2)
                    obtain ⟨y0, y1, _, _, ly⟩ := cells2 HX6.out
                    obtain ⟨x0, x1, _, _, lx⟩ := cells2 HM6.out
                    rcases HMF.out with ⟨h1, h2, h3, h4, h5, h6⟩ | ⟨h1, h2, h3⟩
                    · subst h1
                      have HHQ := Lib.hid (show ∀ k, Calls Tryd.prog 56 #[.slice A5 R.length c5, .int .i64 mx] (wc.drewN k) fun e w' => e = .returned (.bool false) ∧ wc.drewN k = w' from fun k => by rw [← h6]; exact lHas_any A5 c5 R mx (wc.drewN k) (by have := HMI.out.1; omega) HS5.out)
                      clear h2 h3 h4 h5 h6
                      go_quiet (first | (go_at_call 58; refine quiet_more (HCQ.out _)) | (go_at_call 56; refine quiet_eq (HHQ.out _)))
                      go_wp2
                      go_meet
                      exact Lib.hid (below_dN (below_trans HB5.out HB6.out) nq)
                    · subst h1
                      clear h2 h3
                      go_quiet (first | (go_at_call 58; refine quiet_more (HCQ.out _)))
                      go_wp2
                      go_meet
                      exact Lib.hid (below_dN (below_trans HB5.out HB6.out) nq)
            · have t2 : decide (0 < l.length) = false := decide_eq_false hl0
              go_wp2
              go_meet
              exact Lib.hid (Below.refl _ _)
          case rest =>
            go_upto_region 28 with fail
            have HX7 := Lib.hid (lift0 hcut.out (lift0 HB4.out HX3.out))
            have HB7 := Lib.hid (below_trans (below_trans HB3.out HB4.out) hcut.out)
            obtain ⟨f0, f1, _, _, lf⟩ := cells2 HX7.out
            by_cases hsh : 60 < (monI b : Int) - (monI a : Int) + 1
            · have HCL := Lib.hid (Cut_long ⟨a, b⟩ wc HSB.out hsh)
              unfold spv at HCL
              simp only at HCL
              clear hsh
              go_wp2_with (first | (go_at_call 38; refine HCL.out.mono ?_; rintro e w8 ⟨rfl, hb⟩; have HB8 := Lib.hid (below_trans HB7.out hb); clear hb) | (go_at_call 22; refine (sanity_any _ (HT.out.below HB8.out)).mono ?_; rintro e w9 ⟨rfl, hb⟩; have HB9 := Lib.hid (below_trans HB8.out hb); clear hb))
              go_ret
              exact ⟨by simp, HB9.out⟩
            · have HCG := Lib.hid (show Calls Tryd.prog 38 #[spv ⟨a, b⟩] wc fun e w' => ∃ A c, e = .returned (.tuple #[.slice A (partsL ⟨a, b⟩).length c, .int .i64 0]) ∧ SpsAt w' A (partsL ⟨a, b⟩) ∧ Below wc.heap.size wc w' from (Cut_good ⟨a, b⟩ wc HSB.out (show (monI b : Int) - (monI a : Int) + 1 ≤ 60 by omega)).mono fun e w' ⟨v, h1, h2, h3⟩ => by obtain ⟨A, c, rfl, -⟩ := own_slice h2; exact ⟨A, c, h1, own_sps h2, h3⟩)
              unfold spv at HCG
              simp only at HCG
              have HPA := Lib.hid (parts_at ⟨a, b⟩ HSB.out)
              have HLZ := Lib.hid (loV_zero ⟨a, b⟩ HSB.out)
              have HLE := Lib.hid (show loV ⟨a, b⟩ (partsL ⟨a, b⟩).length = b + 1 by have := loV_end ⟨a, b⟩ HSB.out; unfold partsL; rw [partsK_len]; exact this)
              have HLN := Lib.hid (show (partsL ⟨a, b⟩).length ≤ 60 by unfold partsL; rw [partsK_len]; show monI b + 1 - monI a ≤ 60; omega)
              have hsb : 0 ≤ a ∧ a ≤ b ∧ b ≤ 60000 := by simpa [spanB] using HSB.out
              have HAB := Lib.hid hsb
              obtain ⟨L, hL⟩ : ∃ L, partsL ⟨a, b⟩ = L := ⟨_, rfl⟩
              rw [hL] at HCG HPA HLE HLN
              obtain ⟨V, hV⟩ : ∃ V, loV ⟨a, b⟩ = V := ⟨_, rfl⟩
              rw [hV] at HPA HLZ HLE
              simp only at HLZ
              clear hsh hL hV hsb
              go_wp2_with (first | (go_at_call 38; refine HCG.out.mono ?_; rintro e w8 ⟨A7, c7, rfl, hsp, hb⟩; have HB8 := Lib.hid (below_trans HB7.out hb); have HX8 := Lib.hid (lift0 hb HX7.out); have HS8 := Lib.hid hsp; obtain ⟨y0, y1, _, _, ly⟩ := cells2 HX8.out; clear hb hsp))
              go_loopw [25, 26] (fun at' i wr => ∃ k : Nat, k ≤ L.length ∧ at' = .int .i64 (V k) ∧ i = .int .i64 (k : Int) ∧ Hid (Below w8.heap.size w8 wr)) (fun at' i _ => L.length - (intOf i).toNat)
              case atStart => exact ⟨0, by omega, by rw [HLZ.out], rfl, Lib.hid (Below.refl _ _)⟩
              case round =>
                obtain ⟨k, hk, rfl, rfl, hB⟩ := hrel
                have hln := HLN.out
                by_cases hlt : k < L.length
                · obtain ⟨b1, o1, rfl, g1, g2⟩ := (HS8.out.below hB.out).nat k hlt
                  obtain ⟨M, hM, e1, e2, e3, e4, e5, e6, e7, e8⟩ := HPA.out k hlt
                  obtain ⟨x, hx⟩ : ∃ x, gs L (k : Int) = x := ⟨_, rfl⟩
                  rw [hx] at g1 g2 e1 e2 e3 e4 e7 e8
                  clear hx
                  obtain ⟨xa, xb⟩ := x
                  obtain ⟨v, hv⟩ : ∃ v, V k = v := ⟨_, rfl⟩
                  rw [hv] at e1 e5 e6 ⊢
                  simp only at g1 g2 e1 e2 e3 e4 e7 e8
                  subst e1
                  have HNX := Lib.hid e2
                  have HM1 := Lib.hid (fun W => Month_any xa W)
                  have HM2 := Lib.hid (fun W => Month_any xb W)
                  rw [e3] at HM1
                  rw [e4] at HM2
                  simp only at HM1 HM2
                  clear hv e2 e3 e4
                  have l1 := World.block_lt_of_cell? _ _ g1
                  dsimp only at l1
                  have t2 : decide ((k : Int) < (L.length : Int)) = true := decide_eq_true (by omega)
                  have i0 : (0 : Int) ≤ (k : Int) := by omega
                  have i1 : (k : Int) < (L.length : Int) := by omega
                  have i2 : (k : Int) < (L.length : Int) + 1 := by omega
                  go_wp2_with (first | (go_at_call 30; refine (HM1.out _).mono ?_; rintro e wx ⟨rfl, hb⟩; have j1 := (hb.cell l1).trans g1; have j2 := (hb.cell l1).trans g2; have l2 := Nat.lt_of_lt_of_le l1 hb.size; have HBx := Lib.hid (below_trans hB.out hb); clear hb HM1) | (go_at_call 30; refine (HM2.out _).mono ?_; rintro e wy ⟨rfl, hb⟩; have k1 := (hb.cell l2).trans j1; have k2 := (hb.cell l2).trans j2; have l3 := Nat.lt_of_lt_of_le l2 hb.size; have HBy := Lib.hid (below_trans HBx.out hb); clear hb HM2))
                  go_roundw
                  case rel => exact ⟨k + 1, by omega, by rw [← HNX.out], by go_num, HBy⟩
                  case measure => simp [intOf]; omega
                · obtain rfl : k = L.length := by omega
                  have HB9 := Lib.hid (below_trans HB8.out hB.out)
                  have HX9 := Lib.hid (lift0 hB.out HX8.out)
                  rw [HLE.out]
                  obtain ⟨hb0, hb1, hb2⟩ := HAB.out
                  go_wp2_with (first | (go_at_call 22; refine (sanity_any _ (HT.out.below HB9.out)).mono ?_; rintro e w10 ⟨rfl, hb⟩; have HB10 := Lib.hid (below_trans HB9.out hb); obtain ⟨z0, z1, _, _, lz⟩ := cells2 (lift0 hb HX9.out); clear hb))
                  go_ret
                  exact ⟨by simp, HB10.out⟩


theorem parts_walk (s : Sp) (A : Option Addr) (c : Nat) (l : List Sp) (day k : Int) (w : World) (hT : Tab w) (_ : -9223372036854775808 ≤ s.lo ∧ s.lo ≤ 9223372036854775807) (_ : -9223372036854775808 ≤ s.hi ∧ s.hi ≤ 9223372036854775807) (h : SpsAt w A l) (hnil : A = none → l.length = 0 ∧ c = 0) (hl : l.length ≤ 9223372036854775807) (hcap : l.length ≤ c) (_ : -9223372036854775808 ≤ day ∧ day ≤ 9223372036854775807) (hk : 0 ≤ k ∧ k ≤ 255) :
    Calls Tryd.prog 14 #[spv s, .slice A l.length c, .int .i64 day, .int .u8 k] w fun e w' => e = .returned (.bool true) ∧ Below w.heap.size w w' := by
  by_cases h60 : 59 < l.length
  · exact parts_huge s A c l day k w hT h60 hl
  · cases hv : (l.any fun s => !spanB s)
    · exact parts_ok s A c l day k w hT (by omega) hv hk hnil hcap h
    · exact parts_bad s A c l day k w hT (by omega) hv hnil h
end Go.Proofs.YteoembjghmgbhaaDoor
