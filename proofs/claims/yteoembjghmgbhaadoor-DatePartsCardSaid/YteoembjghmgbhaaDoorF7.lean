/- The reference's walks: Gaps. -/
import Derived.Test.YteoembjghmgbhaaDoorF6
namespace Go.Proofs.YteoembjghmgbhaaDoor
set_option linter.all false
open Go.RowKit

theorem edges_len {A : Option Addr} {c : Nat} {l : List Sp} {s : Sp} {w : World} (h : SpsAt w A (l ++ [s])) (hl : l.length ≤ 900) (hb : ∀ x ∈ l ++ [s], (0 ≤ x.lo ∧ x.lo ≤ 60000) ∧ 0 ≤ x.hi ∧ x.hi ≤ 60000) :
    Calls Tryd.prog 77 #[.slice A (l.length + 1) c] w fun e w' => ∃ v, e = .returned v ∧ w'.ownsRow w.heap.size 3 1 v (edgesE (l ++ [s]) (-1)).length (ints (edgesE (l ++ [s]) (-1))) ∧ Below w.heap.size w w' := by
  have h1 := rEdges_any A c (l ++ [s]) w (by simp; omega) h hb
  rw [List.length_append] at h1
  exact h1
def gapB (s : Sp) (l : List Sp) (d : Int) : Bool := !hasB l d && (decide (s.lo ≤ d) && decide (d ≤ s.hi))
set_option maxRecDepth 100000 in
set_option maxHeartbeats 2000000 in
theorem rGaps_any (s : Sp) (A : Option Addr) (c : Nat) (l : List Sp) (w : World) (hl : l.length ≤ 900) (hn : A = none → l.length = 0 ∧ c = 0) (h : SpsAt w A l) (hb : ∀ x ∈ l ++ [s], (0 ≤ x.lo ∧ x.lo ≤ 60000) ∧ 0 ≤ x.hi ∧ x.hi ≤ 60000) :
    Calls Tryd.prog 52 #[spv s, .slice A l.length c] w fun e w' => ∃ v, e = .returned v ∧ w'.ownsRow w.heap.size 37 2 v (segN (gapB s l) (edgesE (l ++ [s]) (-1)) ((edgesE (l ++ [s]) (-1)).length - 1)).length (spcs (segN (gapB s l) (edgesE (l ++ [s]) (-1)) ((edgesE (l ++ [s]) (-1)).length - 1))) ∧ Below w.heap.size w w' := by
  have HLW := Lib.hid h
  have HN := Lib.hid hn
  have HLL := Lib.hid hl
  have HBD := Lib.hid hb
  have HH := Lib.hid (fun d W (hW : Below w.heap.size w W) => rHas_any A c l d W (by omega) (h.below hW))
  have HGB := Lib.hid (show ∀ d, gapB s l d = (!hasB l d && (decide (s.lo ≤ d) && decide (d ≤ s.hi))) from fun _ => rfl)
  obtain ⟨sa, sb⟩ := s
  unfold spv
  simp only at *
  clear h hn hl hb
  obtain ⟨E, hE⟩ : ∃ E, edgesE (l ++ [⟨sa, sb⟩]) (-1) = E := ⟨_, rfl⟩
  have HB1 := Lib.hid (edgesE_bd (l ++ [⟨sa, sb⟩]))
  rw [hE] at HB1 ⊢
  have HSB := Lib.hid (segN_bd (gapB ⟨sa, sb⟩ l) E HB1.out.2)
  have HEE := Lib.hid hE
  clear hE
  go_enter Tryd.func52, Tryd.ntmps52
  go_upto_region 1 with fail
  obtain ⟨W, hWe⟩ : ∃ W, W = (w.alloc (Obj.cells #[.int .i64 sa, .int .i64 sb] 37)) := ⟨_, rfl⟩
  have HWB := Lib.hid (show Below w.heap.size w W by rw [hWe]; exact bel)
  have HC0 := Lib.hid (show W.heap[w.heap.size]? = some (.cells #[.int .i64 sa, .int .i64 sb] 37 (0, 0)) by rw [hWe]; exact heap_alloc_new w _)
  rw [← hWe]
  clear hWe
  go_cut [5] from 9 to 15 (fun v wx => ∃ A7 c7, v = .slice A7 E.length c7 ∧ Hid (IntsAt wx A7 E) ∧ Hid (Below W.heap.size W wx))
  case first =>
    obtain ⟨Wd, hWd⟩ : ∃ Wd, Wd = W.drew := ⟨_, rfl⟩
    have HC := Lib.hid (show Wd.heap[w.heap.size]? = some (.cells #[.int .i64 sa, .int .i64 sb] 37 (0, 0)) by rw [hWd]; exact HC0.out)
    have HWB2 := Lib.hid (show Below w.heap.size w Wd by rw [hWd]; exact HWB.out.drew)
    have HWW := Lib.hid (show Below W.heap.size W Wd by rw [hWd]; exact (Below.refl _ W).drew)
    have HSZ := Lib.hid (show Wd.heap.size = W.heap.size by rw [hWd]; rfl)
    have HL := Lib.hid (HLW.out.below HWB2.out)
    have HLC := Lib.hid (Array.getElem?_eq_some_iff.1 HC.out).1
    refine wp_region_held_drew (S := fun w' => w'.cell? ⟨w.heap.size, 0, none⟩ = some (.int .i64 sa) ∧ w'.cell? ⟨w.heap.size, 1, none⟩ = some (.int .i64 sb)) (by kernel_rfl) (sbox HC0.out) (fun hHeld => ?_)
    rw [← hWd] at hHeld ⊢
    clear hWd HC0 HWB
    refine wpAnyH_take (i := 1) (v := ?_) rfl (by kernel_rfl) (by kernel_rfl) (by kernel_rfl) (fun _ _ _ h => h) (Or.inl ⟨by rfl, ?hyy⟩) (by assumption) ?_
    case hyy => (intro w hSw; (try dsimp only at hSw); go_simp; all_goals (with_reducible rfl))
    try simp only [List.getElem_toArray, List.getElem_cons_zero, List.getElem_cons_succ, Act.put, List.setIfInBounds_toArray, List.set_cons_zero, List.set_cons_succ]
    refine wpAnyH_take (i := 3) (v := ?_) rfl (by kernel_rfl) (by kernel_rfl) (by kernel_rfl) (fun _ _ _ h => h) (Or.inl ⟨by rfl, ?hyy⟩) (by assumption) ?_
    case hyy => (intro w hSw; (try dsimp only at hSw); go_simp; all_goals (with_reducible rfl))
    try simp only [List.getElem_toArray, List.getElem_cons_zero, List.getElem_cons_succ, Act.put, List.setIfInBounds_toArray, List.set_cons_zero, List.set_cons_succ]
    refine wpAnyH_ready (rs := [0, 4]) (by kernel_rfl) (by simp) ?_
    refine AllReadyH.cons rfl (fun K hK => ?_) (AllReadyH.cons rfl (fun K hK => ?_) AllReadyH.nil)
    · go_simp
      refine hK.out _ _ (sbox (old_box (.cells #[] 37) HC.out)) (fun hHn => ?_)
      clear hK K
      try simp only [List.getElem_toArray, List.getElem_cons_zero, List.getElem_cons_succ, Act.put, List.setIfInBounds_toArray, List.set_cons_zero, List.set_cons_succ]
      refine wpAnyH_ready (rs := [2, 4]) (by kernel_rfl) (by simp) ?_
      refine AllReadyH.cons rfl (fun K hK => ?_) (AllReadyH.cons rfl (fun K hK => ?_) AllReadyH.nil)
      · refine step_app_sps rfl (.tmp 9) (.tmp 10) rfl Wd.heap.size (.slice (some ⟨Wd.heap.size, 0, none⟩) 0 0) 0 [] (by simp [Act.eval, Act.put]) (own_at (heap_alloc_new Wd _) (by simp; try omega)) A c l (by simp [Act.eval, Act.put]) (HL.out.alloc _) HN.out (by have := HLL.out; simp; try omega) (by simp; try omega) ?_
        intro v5 w5 ho5 hg5 _
        have HO5 := Lib.hid ho5
        have HG5 := Lib.hid hg5
        have HC5 := Lib.hid (grown_block HG5.out (by have := HLC.out; dsimp only; omega) (old_box (.cells #[] 37) HC.out))
        clear ho5 hg5
        refine hK.out _ _ (sbox HC5.out) (fun hHn => ?_)
        clear hK K
        try simp only [List.getElem_toArray, List.getElem_cons_zero, List.getElem_cons_succ, Act.put, List.setIfInBounds_toArray, List.set_cons_zero, List.set_cons_succ]
        have HB5 := Lib.hid (below_own (Below.alloc (Below.refl _ Wd) (Nat.le_refl _) (.cells #[] 37)) HG5.out (by simp) (fun b hb => by cases hb; exact Nat.le_refl _))
        refine wpAnyH_ready (rs := [4]) (by kernel_rfl) (by simp) ?_
        refine AllReadyH.cons rfl (fun K hK => ?_) AllReadyH.nil
        go_simp
        refine hK.out _ _ (sbox (old_box (.cells #[.int .i64 (sa), .int .i64 (sb)] 37) HC5.out)) (fun hHn => ?_)
        clear hK K
        try simp only [List.getElem_toArray, List.getElem_cons_zero, List.getElem_cons_succ, Act.put, List.setIfInBounds_toArray, List.set_cons_zero, List.set_cons_succ]
        have HO6 := Lib.hid (HO5.out.alloc (.cells #[.int .i64 (sa), .int .i64 (sb)] 37))
        refine wpAnyH_ready (rs := [5]) (by kernel_rfl) (by simp) ?_
        refine AllReadyH.cons rfl (fun K hK => ?_) AllReadyH.nil
        refine step_app_sps rfl (.tmp 11) (.tmp 13) rfl Wd.heap.size v5 (0 + (l).length) ([] ++ spcs (l)) (by simp [Act.eval, Act.put]) HO6.out (some ⟨w5.heap.size, 0, none⟩) 1 [⟨sa, sb⟩] (by simp [Act.eval, Act.put]) (sps1_at (heap_alloc_new w5 _)) (fun h => by cases h) (by have := HLL.out; simp; omega) (HB5.out.alloc HB5.out.size (.cells #[.int .i64 (sa), .int .i64 (sb)] 37)).size ?_
        intro v6 w6 ho6 hg6 _
        have HP := Lib.hid (put_end HO6.out (HB5.out.alloc HB5.out.size (.cells #[.int .i64 (sa), .int .i64 (sb)] 37)) hg6 ho6)
        have HC9 := Lib.hid (grown_keep HO6.out hg6 HLC.out (old_box (.cells #[.int .i64 (sa), .int .i64 (sb)] 37) HC5.out))
        obtain ⟨A9, c9, rfl, -⟩ := own_slice ho6
        have HP := Lib.hid (put_len HP.out)
        clear ho6 hg6
        refine hK.out _ _ (sbox HC9.out) (fun hHn => ?_)
        clear hK K
        try simp only [List.getElem_toArray, List.getElem_cons_zero, List.getElem_cons_succ, Act.put, List.setIfInBounds_toArray, List.set_cons_zero, List.set_cons_succ]
        refine wpAnyH_ready (rs := [6]) (by kernel_rfl) (by simp) ?_
        refine AllReadyH.cons rfl (fun K hK => ?_) AllReadyH.nil
        go_simp
        go_at_call 77
        refine (edges_len (own_sps HP.out.1) (by have := HLL.out; omega) HBD.out).mono ?_
        rintro e w7 ⟨v7, rfl, ho7, hb7⟩
        rw [HEE.out] at ho7
        obtain ⟨A7, c7, rfl, -⟩ := own_slice ho7
        have HI7 := Lib.hid (own_ints ho7)
        have HB7 := Lib.hid (HP.out.2.trans (hb7.mono HP.out.2.size))
        have HC7 := Lib.hid (lift0 hb7 HC9.out)
        clear ho7 hb7
        refine hK.out _ _ (sbox HC7.out) (fun hHn => ?_)
        clear hK K
        try simp only [List.getElem_toArray, List.getElem_cons_zero, List.getElem_cons_succ, Act.put, List.setIfInBounds_toArray, List.set_cons_zero, List.set_cons_succ]
        refine wpAnyH_take (i := 7) (v := ?_) rfl (by kernel_rfl) (by kernel_rfl) (by kernel_rfl) (fun _ _ _ h => h) (Or.inl ⟨by rfl, ?hyy⟩) (by assumption) ?_
        case hyy => (intro w hSw; (try dsimp only at hSw); go_simp; all_goals (with_reducible rfl))
        try simp only [List.getElem_toArray, List.getElem_cons_zero, List.getElem_cons_succ, Act.put, List.setIfInBounds_toArray, List.set_cons_zero, List.set_cons_succ]
        refine wpAnyH_done (by kernel_rfl) ?_ _
        go_wp2_with fail
        go_meet
        exact ⟨A7, c7, rfl, HI7, Lib.hid (HWW.out.trans (HB7.out.mono (Nat.le_of_eq HSZ.out.symm)))⟩
      · go_simp
        refine hK.out _ _ (sbox (old_box (.cells #[.int .i64 (sa), .int .i64 (sb)] 37) (old_box (.cells #[] 37) HC.out))) (fun hHn => ?_)
        clear hK K
        try simp only [List.getElem_toArray, List.getElem_cons_zero, List.getElem_cons_succ, Act.put, List.setIfInBounds_toArray, List.set_cons_zero, List.set_cons_succ]
        refine wpAnyH_ready (rs := [2]) (by kernel_rfl) (by simp) ?_
        refine AllReadyH.cons rfl (fun K hK => ?_) AllReadyH.nil
        refine step_app_sps rfl (.tmp 9) (.tmp 10) rfl Wd.heap.size (.slice (some ⟨Wd.heap.size, 0, none⟩) 0 0) 0 [] (by simp [Act.eval, Act.put]) (own_at (old_box (.cells #[.int .i64 (sa), .int .i64 (sb)] 37) (heap_alloc_new Wd (.cells #[] 37))) (by simp; try omega)) A c l (by simp [Act.eval, Act.put]) ((HL.out.alloc _).alloc _) HN.out (by have := HLL.out; simp; try omega) (by simp; try omega) ?_
        intro v5 w5 ho5 hg5 _
        have HO5 := Lib.hid ho5
        have HG5 := Lib.hid hg5
        have HC5 := Lib.hid (grown_block HG5.out (by have := HLC.out; dsimp only; omega) (old_box (.cells #[.int .i64 (sa), .int .i64 (sb)] 37) (old_box (.cells #[] 37) HC.out)))
        clear ho5 hg5
        refine hK.out _ _ (sbox HC5.out) (fun hHn => ?_)
        clear hK K
        try simp only [List.getElem_toArray, List.getElem_cons_zero, List.getElem_cons_succ, Act.put, List.setIfInBounds_toArray, List.set_cons_zero, List.set_cons_succ]
        have HB5 := Lib.hid (below_own ((Below.alloc (Below.refl _ Wd) (Nat.le_refl _) (.cells #[] 37)).alloc (by simp) (.cells #[.int .i64 (sa), .int .i64 (sb)] 37)) HG5.out (by simp; omega) (fun b hb => by cases hb; exact Nat.le_refl _))
        have HY5 := Lib.hid (grown_block HG5.out (by have := HLC.out; dsimp only; omega) (show ((Wd.alloc (.cells #[] 37)).alloc (.cells #[.int .i64 (sa), .int .i64 (sb)] 37)).heap[Wd.heap.size + 1]? = some (.cells #[.int .i64 (sa), .int .i64 (sb)] 37) by simpa using heap_alloc_new (Wd.alloc (.cells #[] 37)) (.cells #[.int .i64 (sa), .int .i64 (sb)] 37)))
        have HO6 := HO5
        refine wpAnyH_ready (rs := [5]) (by kernel_rfl) (by simp) ?_
        refine AllReadyH.cons rfl (fun K hK => ?_) AllReadyH.nil
        refine step_app_sps rfl (.tmp 11) (.tmp 13) rfl Wd.heap.size v5 (0 + (l).length) ([] ++ spcs (l)) (by simp [Act.eval, Act.put]) HO6.out (some ⟨Wd.heap.size + 1, 0, none⟩) 1 [⟨sa, sb⟩] (by simp [Act.eval, Act.put]) (sps1_at HY5.out) (fun h => by cases h) (by have := HLL.out; simp; omega) (HB5.out).size ?_
        intro v6 w6 ho6 hg6 _
        have HP := Lib.hid (put_end HO6.out (HB5.out) hg6 ho6)
        have HC9 := Lib.hid (grown_keep HO6.out hg6 HLC.out HC5.out)
        obtain ⟨A9, c9, rfl, -⟩ := own_slice ho6
        have HP := Lib.hid (put_len HP.out)
        clear ho6 hg6
        refine hK.out _ _ (sbox HC9.out) (fun hHn => ?_)
        clear hK K
        try simp only [List.getElem_toArray, List.getElem_cons_zero, List.getElem_cons_succ, Act.put, List.setIfInBounds_toArray, List.set_cons_zero, List.set_cons_succ]
        refine wpAnyH_ready (rs := [6]) (by kernel_rfl) (by simp) ?_
        refine AllReadyH.cons rfl (fun K hK => ?_) AllReadyH.nil
        go_simp
        go_at_call 77
        refine (edges_len (own_sps HP.out.1) (by have := HLL.out; omega) HBD.out).mono ?_
        rintro e w7 ⟨v7, rfl, ho7, hb7⟩
        rw [HEE.out] at ho7
        obtain ⟨A7, c7, rfl, -⟩ := own_slice ho7
        have HI7 := Lib.hid (own_ints ho7)
        have HB7 := Lib.hid (HP.out.2.trans (hb7.mono HP.out.2.size))
        have HC7 := Lib.hid (lift0 hb7 HC9.out)
        clear ho7 hb7
        refine hK.out _ _ (sbox HC7.out) (fun hHn => ?_)
        clear hK K
        try simp only [List.getElem_toArray, List.getElem_cons_zero, List.getElem_cons_succ, Act.put, List.setIfInBounds_toArray, List.set_cons_zero, List.set_cons_succ]
        refine wpAnyH_take (i := 7) (v := ?_) rfl (by kernel_rfl) (by kernel_rfl) (by kernel_rfl) (fun _ _ _ h => h) (Or.inl ⟨by rfl, ?hyy⟩) (by assumption) ?_
        case hyy => (intro w hSw; (try dsimp only at hSw); go_simp; all_goals (with_reducible rfl))
        try simp only [List.getElem_toArray, List.getElem_cons_zero, List.getElem_cons_succ, Act.put, List.setIfInBounds_toArray, List.set_cons_zero, List.set_cons_succ]
        refine wpAnyH_done (by kernel_rfl) ?_ _
        go_wp2_with fail
        go_meet
        exact ⟨A7, c7, rfl, HI7, Lib.hid (HWW.out.trans (HB7.out.mono (Nat.le_of_eq HSZ.out.symm)))⟩
    · go_simp
      refine hK.out _ _ (sbox (old_box (.cells #[.int .i64 (sa), .int .i64 (sb)] 37) HC.out)) (fun hHn => ?_)
      clear hK K
      try simp only [List.getElem_toArray, List.getElem_cons_zero, List.getElem_cons_succ, Act.put, List.setIfInBounds_toArray, List.set_cons_zero, List.set_cons_succ]
      refine wpAnyH_ready (rs := [0]) (by kernel_rfl) (by simp) ?_
      refine AllReadyH.cons rfl (fun K hK => ?_) AllReadyH.nil
      go_simp
      refine hK.out _ _ (sbox (old_box (.cells #[] 37) (old_box (.cells #[.int .i64 (sa), .int .i64 (sb)] 37) HC.out))) (fun hHn => ?_)
      clear hK K
      try simp only [List.getElem_toArray, List.getElem_cons_zero, List.getElem_cons_succ, Act.put, List.setIfInBounds_toArray, List.set_cons_zero, List.set_cons_succ]
      refine wpAnyH_ready (rs := [2]) (by kernel_rfl) (by simp) ?_
      refine AllReadyH.cons rfl (fun K hK => ?_) AllReadyH.nil
      refine step_app_sps rfl (.tmp 9) (.tmp 10) rfl Wd.heap.size (.slice (some ⟨Wd.heap.size + 1, 0, none⟩) 0 0) 0 [] (by simp [Act.eval, Act.put]) (own_at (by simpa using heap_alloc_new (Wd.alloc (.cells #[.int .i64 (sa), .int .i64 (sb)] 37)) (.cells #[] 37)) (by simp; try omega)) A c l (by simp [Act.eval, Act.put]) ((HL.out.alloc _).alloc _) HN.out (by have := HLL.out; simp; try omega) (by simp; try omega) ?_
      intro v5 w5 ho5 hg5 _
      have HO5 := Lib.hid ho5
      have HG5 := Lib.hid hg5
      have HC5 := Lib.hid (grown_block HG5.out (by have := HLC.out; dsimp only; omega) (old_box (.cells #[] 37) (old_box (.cells #[.int .i64 (sa), .int .i64 (sb)] 37) HC.out)))
      clear ho5 hg5
      refine hK.out _ _ (sbox HC5.out) (fun hHn => ?_)
      clear hK K
      try simp only [List.getElem_toArray, List.getElem_cons_zero, List.getElem_cons_succ, Act.put, List.setIfInBounds_toArray, List.set_cons_zero, List.set_cons_succ]
      have HB5 := Lib.hid (below_own ((Below.alloc (Below.refl _ Wd) (Nat.le_refl _) (.cells #[.int .i64 (sa), .int .i64 (sb)] 37)).alloc (by simp) (.cells #[] 37)) HG5.out (by simp; omega) (fun b hb => by cases hb; exact Nat.le_succ _))
      have HY5 := Lib.hid (grown_block HG5.out (by have := HLC.out; dsimp only; omega) (old_box (.cells #[] 37) (heap_alloc_new Wd (.cells #[.int .i64 (sa), .int .i64 (sb)] 37))))
      have HO6 := HO5
      refine wpAnyH_ready (rs := [5]) (by kernel_rfl) (by simp) ?_
      refine AllReadyH.cons rfl (fun K hK => ?_) AllReadyH.nil
      refine step_app_sps rfl (.tmp 11) (.tmp 13) rfl Wd.heap.size v5 (0 + (l).length) ([] ++ spcs (l)) (by simp [Act.eval, Act.put]) HO6.out (some ⟨Wd.heap.size, 0, none⟩) 1 [⟨sa, sb⟩] (by simp [Act.eval, Act.put]) (sps1_at HY5.out) (fun h => by cases h) (by have := HLL.out; simp; omega) (HB5.out).size ?_
      intro v6 w6 ho6 hg6 _
      have HP := Lib.hid (put_end HO6.out (HB5.out) hg6 ho6)
      have HC9 := Lib.hid (grown_keep HO6.out hg6 HLC.out HC5.out)
      obtain ⟨A9, c9, rfl, -⟩ := own_slice ho6
      have HP := Lib.hid (put_len HP.out)
      clear ho6 hg6
      refine hK.out _ _ (sbox HC9.out) (fun hHn => ?_)
      clear hK K
      try simp only [List.getElem_toArray, List.getElem_cons_zero, List.getElem_cons_succ, Act.put, List.setIfInBounds_toArray, List.set_cons_zero, List.set_cons_succ]
      refine wpAnyH_ready (rs := [6]) (by kernel_rfl) (by simp) ?_
      refine AllReadyH.cons rfl (fun K hK => ?_) AllReadyH.nil
      go_simp
      go_at_call 77
      refine (edges_len (own_sps HP.out.1) (by have := HLL.out; omega) HBD.out).mono ?_
      rintro e w7 ⟨v7, rfl, ho7, hb7⟩
      rw [HEE.out] at ho7
      obtain ⟨A7, c7, rfl, -⟩ := own_slice ho7
      have HI7 := Lib.hid (own_ints ho7)
      have HB7 := Lib.hid (HP.out.2.trans (hb7.mono HP.out.2.size))
      have HC7 := Lib.hid (lift0 hb7 HC9.out)
      clear ho7 hb7
      refine hK.out _ _ (sbox HC7.out) (fun hHn => ?_)
      clear hK K
      try simp only [List.getElem_toArray, List.getElem_cons_zero, List.getElem_cons_succ, Act.put, List.setIfInBounds_toArray, List.set_cons_zero, List.set_cons_succ]
      refine wpAnyH_take (i := 7) (v := ?_) rfl (by kernel_rfl) (by kernel_rfl) (by kernel_rfl) (fun _ _ _ h => h) (Or.inl ⟨by rfl, ?hyy⟩) (by assumption) ?_
      case hyy => (intro w hSw; (try dsimp only at hSw); go_simp; all_goals (with_reducible rfl))
      try simp only [List.getElem_toArray, List.getElem_cons_zero, List.getElem_cons_succ, Act.put, List.setIfInBounds_toArray, List.set_cons_zero, List.set_cons_succ]
      refine wpAnyH_done (by kernel_rfl) ?_ _
      go_wp2_with fail
      go_meet
      exact ⟨A7, c7, rfl, HI7, Lib.hid (HWW.out.trans (HB7.out.mono (Nat.le_of_eq HSZ.out.symm)))⟩
  case rest =>
    obtain ⟨A1, c1, rfl, HI1, HW2⟩ := hcut
    have HW1 := Lib.hid (below_trans HWB.out HW2.out)
    have HC1 := Lib.hid (lift0 HW2.out HC0.out)
    obtain ⟨w1, hw1⟩ : ∃ w1, w1 = wc := ⟨_, rfl⟩
    rw [← hw1] at HI1 HW1 HC1 ⊢
    clear hw1 HW2
    have HST := Lib.hid (show ∀ k, segN (gapB ⟨sa, sb⟩ l) E (k + 1) = if gapB ⟨sa, sb⟩ l (gi E k) then putL (segN (gapB ⟨sa, sb⟩ l) E k) ⟨gi E k, gi E (k + 1 : Nat) - 1⟩ else segN (gapB ⟨sa, sb⟩ l) E k from fun _ => rfl)
    have hEl : E.length ≤ 60003 := HB1.out.1
    go_upto_region 4 with fail
    go_loopw [6, 7] (fun o i wr => ∃ k : Nat, (k + 1 ≤ E.length ∨ k = 0) ∧ i = .int .i64 k ∧ Hid (wr.ownsRow w1.heap.size 37 2 o (segN (gapB ⟨sa, sb⟩ l) E k).length (spcs (segN (gapB ⟨sa, sb⟩ l) E k))) ∧ Hid (Below w1.heap.size w1 wr)) (fun _ i _ => E.length - (intOf i).toNat)
    case atStart => exact ⟨0, .inr rfl, rfl, Lib.hid (World.ownsRow_nil _ _ _ _), Lib.hid (Below.refl _ _)⟩
    case round =>
      obtain ⟨k, hk, rfl, HO, HBk⟩ := hrel
      by_cases hlt : k + 1 < E.length
      · obtain ⟨b, o, rfl, g1⟩ := (HI1.out.below HBk.out).nat k (by omega)
        obtain ⟨b2, o2, e2, g2⟩ := (HI1.out.below HBk.out).nat (k + 1) hlt
        injection e2 with e2
        injection e2 with e3 e4
        subst e3 e4
        have l1 := World.block_lt_of_cell? _ _ g1
        have l2 := World.block_lt_of_cell? _ _ g2
        obtain ⟨q0, q1, _, _, lq⟩ := cells2 (lift0 HBk.out HC1.out)
        have hst := HST.out k
        obtain ⟨hs1, hs2⟩ := HSB.out k (by omega)
        have ha := HB1.out.2 _ (gi_mem (l := E) (i := k) (by omega))
        have hc := HB1.out.2 _ (gi_mem (l := E) (i := k + 1) hlt)
        have HHk := Lib.hid (HH.out (gi E k))
        generalize gi E (k : Int) = x at *
        generalize gi E ((k + 1 : Nat) : Int) = y at *
        have tl : decide ((k : Int) + 1 < (E.length : Int)) = true := decide_eq_true (by omega)
        have HWk := Lib.hid (below_trans HW1.out HBk.out)
        have ew1 : IntKind.i64.wrap ((k : Int) + 1) = (k : Int) + 1 := by rw [IntKind.wrap_i64]; omega
        have ew2 : IntKind.i64.wrap (y - 1) = y - 1 := by rw [IntKind.wrap_i64]; omega
        have i1 : (0 : Int) ≤ (k : Int) := by omega
        have i2 : (k : Int) < (E.length : Int) := by omega
        have i3 : (0 : Int) ≤ (k : Int) + 1 := by omega
        have i4 : (k : Int) + 1 < (E.length : Int) := by omega
        have tn : ((k : Int) + 1).toNat = k + 1 := by omega
        have g3 : wr.cell? ⟨b, o + ((k : Int) + 1).toNat, none⟩ = some (.int .i64 y) := by rw [tn]; exact g2
        rw [HGB.out x] at hst
        cases hh : hasB l x
        · rw [hh] at HHk hst
          clear hh
          by_cases c1 : sa ≤ x
          · have t1 : decide (sa ≤ x) = true := decide_eq_true c1
            by_cases c2 : x ≤ sb
            · have t2 : decide (x ≤ sb) = true := decide_eq_true c2
              rw [t1, t2] at hst
              have HS1 := Lib.hid hst
              clear hst
              generalize segN (gapB ⟨sa, sb⟩ l) E k = acc at *
              obtain ⟨A5, c5, rfl, hcap, hnil, -⟩ := own_slice HO.out
              have HSA := Lib.hid (own_sps HO.out)
              have HP := Lib.hid (fun W (hW : Below wr.heap.size wr W) => put_any A5 c5 acc ⟨x, y - 1⟩ W (by omega) hnil (HSA.out.below hW) hs2 hcap)
              clear hnil hs2 hcap
              go_upto_region 7 with (go_at_call 78; refine (HHk.out _ HWk.out).mono ?_; rintro e w9 ⟨rfl, rfl⟩)
              go_quiet (fail)
              go_upto_region 8 with fail
              obtain ⟨W2, hW2⟩ : ∃ W2, W2 = wr.drewN nq := ⟨_, rfl⟩
              have hb2 : Below wr.heap.size wr W2 := by rw [hW2]; exact below_dN (Below.refl _ _) _
              have g5 := cell_below hb2 g1
              have g6 := cell_below hb2 g3
              have g7 := cell_below hb2 g2
              have l5 := World.block_lt_of_cell? _ _ g5
              have l6 := World.block_lt_of_cell? _ _ g6
              have HW2b := Lib.hid hb2
              rw [← hW2]
              clear hW2 hb2
              go_still_tail 12, (by kernel_rfl)
              go_wp2_with (go_at_call 79; refine (HP.out _ (HW2b.out.drew)).mono ?_; rintro e w5 ⟨v5, rfl, ho, hb⟩; have HO5 := Lib.hid (own_base (base' := w1.heap.size) ho (Nat.le_trans HBk.out.size HW2b.out.size)); have HB5 := Lib.hid (below_trans HBk.out (below_trans HW2b.out.drew hb)); clear ho hb)
              go_roundw
              case rel => exact ⟨k + 1, .inl hlt, by go_num, Lib.hid (by rw [HS1.out]; exact HO5.out), HB5⟩
              case measure => simp [intOf]; omega
            · have t2 : decide (x ≤ sb) = false := decide_eq_false c2
              rw [t1, t2] at hst
              have HS1 := Lib.hid hst
              clear hst
              go_upto_region 7 with (go_at_call 78; refine (HHk.out _ HWk.out).mono ?_; rintro e w9 ⟨rfl, rfl⟩)
              go_quiet (fail)
              go_wp2
              go_roundw
              case rel => exact ⟨k + 1, .inl hlt, by go_num, Lib.hid (by rw [HS1.out]; exact HO.out), Lib.hid (below_dN HBk.out _)⟩
              case measure => simp [intOf]; omega
          · have t1 : decide (sa ≤ x) = false := decide_eq_false c1
            rw [t1] at hst
            have HS1 := Lib.hid hst
            clear hst
            go_upto_region 7 with (go_at_call 78; refine (HHk.out _ HWk.out).mono ?_; rintro e w9 ⟨rfl, rfl⟩)
            go_quiet (fail)
            go_wp2
            go_roundw
            case rel => exact ⟨k + 1, .inl hlt, by go_num, Lib.hid (by rw [HS1.out]; exact HO.out), Lib.hid (below_dN HBk.out _)⟩
            case measure => simp [intOf]; omega
        · rw [hh] at HHk hst
          have HS1 := Lib.hid hst
          clear hh hst
          go_upto_region 7 with (go_at_call 78; refine (HHk.out _ HWk.out).mono ?_; rintro e w9 ⟨rfl, rfl⟩)
          go_quiet (fail)
          go_wp2
          go_roundw
          case rel => exact ⟨k + 1, .inl hlt, by go_num, Lib.hid (by rw [HS1.out]; exact HO.out), Lib.hid (below_dN HBk.out _)⟩
          case measure => simp [intOf]; omega
      · have tl : decide ((k : Int) + 1 < (E.length : Int)) = false := decide_eq_false (by omega)
        have HKE := Lib.hid (show E.length - 1 = k by omega)
        go_wp2
        go_ret
        exact ⟨_, rfl, by rw [HKE.out]; exact own_base HO.out HW1.out.size, HW1.out.trans (HBk.out.mono HW1.out.size)⟩
end Go.Proofs.YteoembjghmgbhaaDoor
