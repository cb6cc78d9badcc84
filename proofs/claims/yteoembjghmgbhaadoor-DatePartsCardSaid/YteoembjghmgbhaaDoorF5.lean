/- The reference's walks: put, joined; the whole. -/
import Derived.Test.YteoembjghmgbhaaDoorF4
namespace Go.Proofs.YteoembjghmgbhaaDoor
set_option linter.all false
open Go.RowKit

theorem sbox3 {w w0 : World} {p q j : Nat} {a b : Int} {v : Value} {X : Obj} (h : w.heap[p]? = some (.cells #[.int .i64 a, .int .i64 b] 37 (0, 0))) (h2 : w.heap[q]? = some X) (h0 : w0.heap[q]? = some X) (r : w0.cell? ⟨q, j, none⟩ = some v) : w.cell? ⟨p, 0, none⟩ = some (.int .i64 a) ∧ w.cell? ⟨p, 1, none⟩ = some (.int .i64 b) ∧ w.cell? ⟨q, j, none⟩ = some v :=
  ⟨(cells2 h).1, (cells2 h).2.1, by rw [World.cell?_of_block (w := w0) (show w.heap[q]? = w0.heap[q]? from h2.trans h0.symm)]; exact r⟩
set_option maxRecDepth 100000 in
set_option maxHeartbeats 1000000 in
theorem put_touch (A : Option Addr) (c : Nat) (l : List Sp) (s : Sp) (w : World) (hl : l.length ≤ 100000) (hn : A = none → l.length = 0 ∧ c = 0) (h : SpsAt w A l) (hb : ∀ x ∈ l, -1000000 ≤ x.hi ∧ x.hi ≤ 1000000) (h0 : 0 < l.length) (hcap : l.length ≤ c) (hf : (gs l ((l.length - 1 : Nat) : Int)).hi + 1 = s.lo) :
    Calls Tryd.prog 79 #[.slice A l.length c, spv s] w fun e w' => ∃ v, e = .returned v ∧ w'.ownsRow w.heap.size 37 2 v (putL l s).length (spcs (putL l s)) ∧ Below w.heap.size w w' := by
  have HE := Lib.hid (show putL l s = l.take (l.length - 1) ++ [⟨(gs l ((l.length - 1 : Nat) : Int)).lo, s.hi⟩] by unfold putL; rw [if_pos ⟨h0, hf⟩])
  have HLL := Lib.hid hl
  have hbd := hb _ (gs_mem (l := l) (i := l.length - 1) (by omega))
  obtain ⟨b, o, rfl, r0, r1⟩ := h.nat (l.length - 1) (by omega)
  obtain ⟨k, hk⟩ : ∃ k, l.length = k + 1 := ⟨l.length - 1, by omega⟩
  rw [hk, show k + 1 - 1 = k from rfl] at r0 r1 hbd hf HE
  have HK := Lib.hid hk
  generalize gs l (k : Int) = last at *
  obtain ⟨la, lb⟩ := last
  obtain ⟨sa, sb⟩ := s
  unfold spv
  simp only at *
  have t0 : decide (0 < k + 1) = true := decide_eq_true (by omega)
  have tq : (lb + 1 == sa) = true := by simpa using hf
  have hcc : k ≤ c := by omega
  have lr := World.block_lt_of_cell? _ _ r0
  have hkb : k ≤ 100000 := by omega
  have ew : IntKind.i64.wrap (k : Int) = k := by rw [IntKind.wrap_i64]; omega
  have ew2 : IntKind.i64.wrap (lb + 1) = lb + 1 := by rw [IntKind.wrap_i64]; omega
  have i1 : (0 : Int) ≤ (k : Int) := by omega
  have i2 : (k : Int) < ((k + 1 : Nat) : Int) := by omega
  have i3 : (k : Int) < (k : Int) + 1 := by omega
  have HTK := Lib.hid (show (l.take k).length = k by rw [List.length_take, HK.out]; omega)
  have HN := Lib.hid (show (some ⟨b, o, none⟩ : Option Addr) = none → (l.take k).length = 0 ∧ c = 0 from fun e => by cases e)
  have HLW := Lib.hid (h.take k)
  have HLL := Lib.hid (show (l.take k).length ≤ 100000 by rw [HTK.out]; omega)
  clear h hb hl hn h0 hf hcap
  obtain ⟨lt, hlt⟩ : ∃ lt, l.take k = lt := ⟨_, rfl⟩
  rw [hlt] at HE HTK HN HLW HLL
  clear hlt
  obtain ⟨n, hnn⟩ : ∃ n, l.length = n := ⟨_, rfl⟩
  rw [hnn] at hk ⊢
  subst hk
  have HNN := Lib.hid hnn
  clear hnn
  go_enter Tryd.func79, Tryd.ntmps79
  go_upto_region 2 with fail
  go_quiet (fail)
  go_upto_region 3 with fail
  obtain ⟨W, hWe⟩ : ∃ W, W = (w.alloc (Obj.cells #[.int .i64 sa, .int .i64 sb] 37)).drewN nq := ⟨_, rfl⟩
  have HWB := Lib.hid (show Below w.heap.size w W by rw [hWe]; exact below_dN bel _)
  have HC0 := Lib.hid (show W.heap[w.heap.size]? = some (.cells #[.int .i64 sa, .int .i64 sb] 37 (0, 0)) by rw [hWe]; exact heap_alloc_new w _)
  rw [← hWe]
  clear hWe
  obtain ⟨Wd, hWd⟩ : ∃ Wd, Wd = W.drew := ⟨_, rfl⟩
  have HC := Lib.hid (show Wd.heap[w.heap.size]? = some (.cells #[.int .i64 sa, .int .i64 sb] 37 (0, 0)) by rw [hWd]; exact HC0.out)
  have HWB2 := Lib.hid (show Below w.heap.size w Wd by rw [hWd]; exact HWB.out.drew)
  have HL := Lib.hid (HLW.out.below HWB2.out)
  have R0 := Lib.hid (cell_below HWB2.out r0)
  obtain ⟨X, hX⟩ : ∃ X, Wd.heap[b]? = some X := ⟨_, Array.getElem?_eq_getElem (Nat.lt_of_lt_of_le lr HWB2.out.size)⟩
  have HR := Lib.hid hX
  have HLB := Lib.hid (show b < Wd.heap.size from Nat.lt_of_lt_of_le lr HWB2.out.size)
  clear hX
  have HLC := Lib.hid (Array.getElem?_eq_some_iff.1 HC.out).1
  refine wp_region_held_drew (S := fun w' => w'.cell? ⟨w.heap.size, 0, none⟩ = some (.int .i64 sa) ∧ w'.cell? ⟨w.heap.size, 1, none⟩ = some (.int .i64 sb) ∧ w'.cell? ⟨b, o + k * 2, none⟩ = some (.int .i64 la)) (by kernel_rfl) ⟨(sbox HC0.out).1, (sbox HC0.out).2, cell_below HWB.out.drew r0⟩ (fun hHeld => ?_)
  rw [← hWd] at hHeld ⊢
  clear hWd HC0 HWB
  refine wpAnyH_take (i := 1) (v := ?_) rfl (by kernel_rfl) (by kernel_rfl) (by kernel_rfl) (fun _ _ _ h => h) (Or.inl ⟨by rfl, ?hyy⟩) (by assumption) ?_
  case hyy => (intro w hSw; (try dsimp only at hSw); go_simp; all_goals (with_reducible rfl))
  try simp only [List.getElem_toArray, List.getElem_cons_zero, List.getElem_cons_succ, Act.put, List.setIfInBounds_toArray, List.set_cons_zero, List.set_cons_succ]
  refine wpAnyH_take (i := 2) (v := ?_) rfl (by kernel_rfl) (by kernel_rfl) (by kernel_rfl) (fun _ _ _ h => h) (Or.inl ⟨by rfl, ?hyy⟩) (by assumption) ?_
  case hyy => (intro w hSw; (try dsimp only at hSw); go_simp; all_goals (with_reducible rfl))
  try simp only [List.getElem_toArray, List.getElem_cons_zero, List.getElem_cons_succ, Act.put, List.setIfInBounds_toArray, List.set_cons_zero, List.set_cons_succ]
  refine wpAnyH_take (i := 3) (v := ?_) rfl (by kernel_rfl) (by kernel_rfl) (by kernel_rfl) (fun _ _ _ h => h) (Or.inl ⟨by rfl, ?hyy⟩) (by assumption) ?_
  case hyy => (intro w hSw; (try dsimp only at hSw); go_simp; all_goals (with_reducible rfl))
  try simp only [List.getElem_toArray, List.getElem_cons_zero, List.getElem_cons_succ, Act.put, List.setIfInBounds_toArray, List.set_cons_zero, List.set_cons_succ]
  refine wpAnyH_take (i := 4) (v := ?_) rfl (by kernel_rfl) (by kernel_rfl) (by kernel_rfl) (fun _ _ _ h => h) (Or.inl ⟨by rfl, ?hyy⟩) (by assumption) ?_
  case hyy => (intro w hSw; (try dsimp only at hSw); go_simp; all_goals (with_reducible rfl))
  try simp only [List.getElem_toArray, List.getElem_cons_zero, List.getElem_cons_succ, Act.put, List.setIfInBounds_toArray, List.set_cons_zero, List.set_cons_succ]
  refine wpAnyH_take (i := 6) (v := ?_) rfl (by kernel_rfl) (by kernel_rfl) (by kernel_rfl) (fun _ _ _ h => h) (Or.inl ⟨by rfl, ?hyy⟩) (by assumption) ?_
  case hyy => (intro w hSw; (try dsimp only at hSw); go_simp; all_goals (with_reducible rfl))
  try simp only [List.getElem_toArray, List.getElem_cons_zero, List.getElem_cons_succ, Act.put, List.setIfInBounds_toArray, List.set_cons_zero, List.set_cons_succ]
  refine wpAnyH_take (i := 7) (v := ?_) rfl (by kernel_rfl) (by kernel_rfl) (by kernel_rfl) (fun _ _ _ h => h) (Or.inl ⟨by rfl, ?hyy⟩) (by assumption) ?_
  case hyy => (intro w hSw; (try dsimp only at hSw); go_simp; all_goals (with_reducible rfl))
  try simp only [List.getElem_toArray, List.getElem_cons_zero, List.getElem_cons_succ, Act.put, List.setIfInBounds_toArray, List.set_cons_zero, List.set_cons_succ]
  refine wpAnyH_take (i := 8) (v := ?_) rfl (by kernel_rfl) (by kernel_rfl) (by kernel_rfl) (fun _ _ _ h => h) (Or.inl ⟨by rfl, ?hyy⟩) (by assumption) ?_
  case hyy => (intro w hSw; (try dsimp only at hSw); go_simp; all_goals (with_reducible rfl))
  try simp only [List.getElem_toArray, List.getElem_cons_zero, List.getElem_cons_succ, Act.put, List.setIfInBounds_toArray, List.set_cons_zero, List.set_cons_succ]
  refine wpAnyH_take (i := 9) (v := ?_) rfl (by kernel_rfl) (by kernel_rfl) (by kernel_rfl) (fun _ _ _ h => h) (Or.inl ⟨by rfl, ?hyy⟩) (by assumption) ?_
  case hyy => (intro w hSw; (try dsimp only at hSw); go_simp; all_goals (with_reducible rfl))
  try simp only [List.getElem_toArray, List.getElem_cons_zero, List.getElem_cons_succ, Act.put, List.setIfInBounds_toArray, List.set_cons_zero, List.set_cons_succ]
  refine wpAnyH_take (i := 10) (v := ?_) rfl (by kernel_rfl) (by kernel_rfl) (by kernel_rfl) (fun _ _ _ h => h) (Or.inl ⟨by rfl, ?hyy⟩) (by assumption) ?_
  case hyy => (intro w hSw; (try dsimp only at hSw); go_simp; all_goals (with_reducible rfl))
  try simp only [List.getElem_toArray, List.getElem_cons_zero, List.getElem_cons_succ, Act.put, List.setIfInBounds_toArray, List.set_cons_zero, List.set_cons_succ]
  refine wpAnyH_take (i := 11) (v := ?_) rfl (by kernel_rfl) (by kernel_rfl) (by kernel_rfl) (fun _ _ _ h => h) (Or.inl ⟨by rfl, ?hyy⟩) (by assumption) ?_
  case hyy => (intro w hSw; (try dsimp only at hSw); go_simp; all_goals (with_reducible rfl))
  try simp only [List.getElem_toArray, List.getElem_cons_zero, List.getElem_cons_succ, Act.put, List.setIfInBounds_toArray, List.set_cons_zero, List.set_cons_succ]
  refine wpAnyH_take (i := 12) (v := ?_) rfl (by kernel_rfl) (by kernel_rfl) (by kernel_rfl) (fun _ _ _ h => h) (Or.inl ⟨by rfl, ?hyy⟩) (by assumption) ?_
  case hyy => (intro w hSw; (try dsimp only at hSw); go_simp; all_goals (with_reducible rfl))
  try simp only [List.getElem_toArray, List.getElem_cons_zero, List.getElem_cons_succ, Act.put, List.setIfInBounds_toArray, List.set_cons_zero, List.set_cons_succ]
  refine wpAnyH_take (i := 13) (v := ?_) rfl (by kernel_rfl) (by kernel_rfl) (by kernel_rfl) (fun _ _ _ h => h) (Or.inl ⟨by rfl, ?hyy⟩) (by assumption) ?_
  case hyy => (intro w hSw; (try dsimp only at hSw); go_simp; all_goals (with_reducible rfl))
  try simp only [List.getElem_toArray, List.getElem_cons_zero, List.getElem_cons_succ, Act.put, List.setIfInBounds_toArray, List.set_cons_zero, List.set_cons_succ]
  refine wpAnyH_take (i := 14) (v := ?_) rfl (by kernel_rfl) (by kernel_rfl) (by kernel_rfl) (fun _ _ _ h => h) (Or.inl ⟨by rfl, ?hyy⟩) (by assumption) ?_
  case hyy => (intro w hSw; (try dsimp only at hSw); go_simp; all_goals (with_reducible rfl))
  try simp only [List.getElem_toArray, List.getElem_cons_zero, List.getElem_cons_succ, Act.put, List.setIfInBounds_toArray, List.set_cons_zero, List.set_cons_succ]
  refine wpAnyH_ready (rs := [0, 15]) (by kernel_rfl) (by simp) ?_
  refine AllReadyH.cons rfl (fun K hK => ?_) (AllReadyH.cons rfl (fun K hK => ?_) AllReadyH.nil)
  · go_simp
    refine hK.out _ _ (sbox3 (old_box (.cells #[] 37) HC.out) (old_box (.cells #[] 37) HR.out) HR.out R0.out) (fun hHn => ?_)
    clear hK K
    try simp only [List.getElem_toArray, List.getElem_cons_zero, List.getElem_cons_succ, Act.put, List.setIfInBounds_toArray, List.set_cons_zero, List.set_cons_succ]
    refine wpAnyH_ready (rs := [5, 15]) (by kernel_rfl) (by simp) ?_
    refine AllReadyH.cons rfl (fun K hK => ?_) (AllReadyH.cons rfl (fun K hK => ?_) AllReadyH.nil)
    · refine step_app_sps rfl (.tmp 22) (.tmp 26) rfl Wd.heap.size (.slice (some ⟨Wd.heap.size, 0, none⟩) 0 0) 0 [] (by simp [Act.eval, Act.put]) (own_at (heap_alloc_new Wd _) (by simp; try omega)) (some ⟨b, o, none⟩) c lt (by simp only [HTK.out]; simp [Act.eval, Act.put]) (HL.out.alloc _) HN.out (by have := HLL.out; simp; try omega) (by simp; try omega) ?_
      intro v5 w5 ho5 hg5 _
      have HO5 := Lib.hid ho5
      have HG5 := Lib.hid hg5
      have HC5 := Lib.hid (grown_block HG5.out (by have := HLC.out; dsimp only; omega) (old_box (.cells #[] 37) HC.out))
      have HR5 := Lib.hid (grown_block HG5.out (by have := HLB.out; dsimp only; omega) (old_box (.cells #[] 37) HR.out))
      clear ho5 hg5
      refine hK.out _ _ (sbox3 HC5.out HR5.out HR.out R0.out) (fun hHn => ?_)
      clear hK K
      try simp only [List.getElem_toArray, List.getElem_cons_zero, List.getElem_cons_succ, Act.put, List.setIfInBounds_toArray, List.set_cons_zero, List.set_cons_succ]
      have HB5 := Lib.hid (below_own (Below.alloc (Below.refl _ Wd) (Nat.le_refl _) (.cells #[] 37)) HG5.out (by simp) (fun b hb => by cases hb; exact Nat.le_refl _))
      refine wpAnyH_ready (rs := [15]) (by kernel_rfl) (by simp) ?_
      refine AllReadyH.cons rfl (fun K hK => ?_) AllReadyH.nil
      go_simp
      refine hK.out _ _ (sbox3 (old_box (.cells #[.int .i64 (la), .int .i64 (sb)] 37) HC5.out) (old_box (.cells #[.int .i64 (la), .int .i64 (sb)] 37) HR5.out) HR.out R0.out) (fun hHn => ?_)
      clear hK K
      try simp only [List.getElem_toArray, List.getElem_cons_zero, List.getElem_cons_succ, Act.put, List.setIfInBounds_toArray, List.set_cons_zero, List.set_cons_succ]
      have HO6 := Lib.hid (HO5.out.alloc (.cells #[.int .i64 (la), .int .i64 (sb)] 37))
      refine wpAnyH_ready (rs := [16]) (by kernel_rfl) (by simp) ?_
      refine AllReadyH.cons rfl (fun K hK => ?_) AllReadyH.nil
      refine step_app_sps rfl (.tmp 27) (.tmp 37) rfl Wd.heap.size v5 (0 + lt.length) ([] ++ spcs lt) (by simp [Act.eval, Act.put]) HO6.out (some ⟨w5.heap.size, 0, none⟩) 1 [⟨la, sb⟩] (by simp [Act.eval, Act.put]) (sps1_at (heap_alloc_new w5 _)) (fun h => by cases h) (by have := HLL.out; simp; omega) (HB5.out.alloc HB5.out.size (.cells #[.int .i64 (la), .int .i64 (sb)] 37)).size ?_
      intro v6 w6 ho6 hg6 _
      have HP := Lib.hid (put_end HO6.out (HB5.out.alloc HB5.out.size (.cells #[.int .i64 (la), .int .i64 (sb)] 37)) hg6 ho6)
      have HC9 := Lib.hid (grown_keep HO6.out hg6 HLC.out (old_box (.cells #[.int .i64 (la), .int .i64 (sb)] 37) HC5.out))
      have HR9 := Lib.hid (grown_keep HO6.out hg6 HLB.out (old_box (.cells #[.int .i64 (la), .int .i64 (sb)] 37) HR5.out))
      obtain ⟨A9, c9, rfl, -⟩ := own_slice ho6
      have HP := Lib.hid (put_len HP.out)
      clear ho6 hg6
      refine hK.out _ _ (sbox3 HC9.out HR9.out HR.out R0.out) (fun hHn => ?_)
      clear hK K
      try simp only [List.getElem_toArray, List.getElem_cons_zero, List.getElem_cons_succ, Act.put, List.setIfInBounds_toArray, List.set_cons_zero, List.set_cons_succ]
      refine wpAnyH_take (i := 17) (v := ?_) rfl (by kernel_rfl) (by kernel_rfl) (by kernel_rfl) (fun _ _ _ h => h) (Or.inl ⟨by rfl, ?hyy⟩) (by assumption) ?_
      case hyy => (intro w hSw; (try dsimp only at hSw); go_simp; all_goals (with_reducible rfl))
      try simp only [List.getElem_toArray, List.getElem_cons_zero, List.getElem_cons_succ, Act.put, List.setIfInBounds_toArray, List.set_cons_zero, List.set_cons_succ]
      refine wpAnyH_done (by kernel_rfl) ?_ _
      go_wp2_with fail
      go_ret
      exact ⟨_, rfl, by rw [HE.out]; exact own_base HP.out.1 HWB2.out.size, HWB2.out.trans (HP.out.2.mono HWB2.out.size)⟩
    · go_simp
      refine hK.out _ _ (sbox3 (old_box (.cells #[.int .i64 (la), .int .i64 (sb)] 37) (old_box (.cells #[] 37) HC.out)) (old_box (.cells #[.int .i64 (la), .int .i64 (sb)] 37) (old_box (.cells #[] 37) HR.out)) HR.out R0.out) (fun hHn => ?_)
      clear hK K
      try simp only [List.getElem_toArray, List.getElem_cons_zero, List.getElem_cons_succ, Act.put, List.setIfInBounds_toArray, List.set_cons_zero, List.set_cons_succ]
      refine wpAnyH_ready (rs := [5]) (by kernel_rfl) (by simp) ?_
      refine AllReadyH.cons rfl (fun K hK => ?_) AllReadyH.nil
      refine step_app_sps rfl (.tmp 22) (.tmp 26) rfl Wd.heap.size (.slice (some ⟨Wd.heap.size, 0, none⟩) 0 0) 0 [] (by simp [Act.eval, Act.put]) (own_at (old_box (.cells #[.int .i64 (la), .int .i64 (sb)] 37) (heap_alloc_new Wd (.cells #[] 37))) (by simp; try omega)) (some ⟨b, o, none⟩) c lt (by simp only [HTK.out]; simp [Act.eval, Act.put]) ((HL.out.alloc _).alloc _) HN.out (by have := HLL.out; simp; try omega) (by simp; try omega) ?_
      intro v5 w5 ho5 hg5 _
      have HO5 := Lib.hid ho5
      have HG5 := Lib.hid hg5
      have HC5 := Lib.hid (grown_block HG5.out (by have := HLC.out; dsimp only; omega) (old_box (.cells #[.int .i64 (la), .int .i64 (sb)] 37) (old_box (.cells #[] 37) HC.out)))
      have HR5 := Lib.hid (grown_block HG5.out (by have := HLB.out; dsimp only; omega) (old_box (.cells #[.int .i64 (la), .int .i64 (sb)] 37) (old_box (.cells #[] 37) HR.out)))
      clear ho5 hg5
      refine hK.out _ _ (sbox3 HC5.out HR5.out HR.out R0.out) (fun hHn => ?_)
      clear hK K
      try simp only [List.getElem_toArray, List.getElem_cons_zero, List.getElem_cons_succ, Act.put, List.setIfInBounds_toArray, List.set_cons_zero, List.set_cons_succ]
      have HB5 := Lib.hid (below_own ((Below.alloc (Below.refl _ Wd) (Nat.le_refl _) (.cells #[] 37)).alloc (by simp) (.cells #[.int .i64 (la), .int .i64 (sb)] 37)) HG5.out (by simp; omega) (fun b hb => by cases hb; exact Nat.le_refl _))
      have HY5 := Lib.hid (grown_block HG5.out (by have := HLC.out; dsimp only; omega) (show ((Wd.alloc (.cells #[] 37)).alloc (.cells #[.int .i64 (la), .int .i64 (sb)] 37)).heap[Wd.heap.size + 1]? = some (.cells #[.int .i64 (la), .int .i64 (sb)] 37) by simpa using heap_alloc_new (Wd.alloc (.cells #[] 37)) (.cells #[.int .i64 (la), .int .i64 (sb)] 37)))
      have HO6 := HO5
      refine wpAnyH_ready (rs := [16]) (by kernel_rfl) (by simp) ?_
      refine AllReadyH.cons rfl (fun K hK => ?_) AllReadyH.nil
      refine step_app_sps rfl (.tmp 27) (.tmp 37) rfl Wd.heap.size v5 (0 + lt.length) ([] ++ spcs lt) (by simp [Act.eval, Act.put]) HO6.out (some ⟨Wd.heap.size + 1, 0, none⟩) 1 [⟨la, sb⟩] (by simp [Act.eval, Act.put]) (sps1_at HY5.out) (fun h => by cases h) (by have := HLL.out; simp; omega) (HB5.out).size ?_
      intro v6 w6 ho6 hg6 _
      have HP := Lib.hid (put_end HO6.out (HB5.out) hg6 ho6)
      have HC9 := Lib.hid (grown_keep HO6.out hg6 HLC.out HC5.out)
      have HR9 := Lib.hid (grown_keep HO6.out hg6 HLB.out HR5.out)
      obtain ⟨A9, c9, rfl, -⟩ := own_slice ho6
      have HP := Lib.hid (put_len HP.out)
      clear ho6 hg6
      refine hK.out _ _ (sbox3 HC9.out HR9.out HR.out R0.out) (fun hHn => ?_)
      clear hK K
      try simp only [List.getElem_toArray, List.getElem_cons_zero, List.getElem_cons_succ, Act.put, List.setIfInBounds_toArray, List.set_cons_zero, List.set_cons_succ]
      refine wpAnyH_take (i := 17) (v := ?_) rfl (by kernel_rfl) (by kernel_rfl) (by kernel_rfl) (fun _ _ _ h => h) (Or.inl ⟨by rfl, ?hyy⟩) (by assumption) ?_
      case hyy => (intro w hSw; (try dsimp only at hSw); go_simp; all_goals (with_reducible rfl))
      try simp only [List.getElem_toArray, List.getElem_cons_zero, List.getElem_cons_succ, Act.put, List.setIfInBounds_toArray, List.set_cons_zero, List.set_cons_succ]
      refine wpAnyH_done (by kernel_rfl) ?_ _
      go_wp2_with fail
      go_ret
      exact ⟨_, rfl, by rw [HE.out]; exact own_base HP.out.1 HWB2.out.size, HWB2.out.trans (HP.out.2.mono HWB2.out.size)⟩
  · go_simp
    refine hK.out _ _ (sbox3 (old_box (.cells #[.int .i64 (la), .int .i64 (sb)] 37) HC.out) (old_box (.cells #[.int .i64 (la), .int .i64 (sb)] 37) HR.out) HR.out R0.out) (fun hHn => ?_)
    clear hK K
    try simp only [List.getElem_toArray, List.getElem_cons_zero, List.getElem_cons_succ, Act.put, List.setIfInBounds_toArray, List.set_cons_zero, List.set_cons_succ]
    refine wpAnyH_ready (rs := [0]) (by kernel_rfl) (by simp) ?_
    refine AllReadyH.cons rfl (fun K hK => ?_) AllReadyH.nil
    go_simp
    refine hK.out _ _ (sbox3 (old_box (.cells #[] 37) (old_box (.cells #[.int .i64 (la), .int .i64 (sb)] 37) HC.out)) (old_box (.cells #[] 37) (old_box (.cells #[.int .i64 (la), .int .i64 (sb)] 37) HR.out)) HR.out R0.out) (fun hHn => ?_)
    clear hK K
    try simp only [List.getElem_toArray, List.getElem_cons_zero, List.getElem_cons_succ, Act.put, List.setIfInBounds_toArray, List.set_cons_zero, List.set_cons_succ]
    refine wpAnyH_ready (rs := [5]) (by kernel_rfl) (by simp) ?_
    refine AllReadyH.cons rfl (fun K hK => ?_) AllReadyH.nil
    refine step_app_sps rfl (.tmp 22) (.tmp 26) rfl Wd.heap.size (.slice (some ⟨Wd.heap.size + 1, 0, none⟩) 0 0) 0 [] (by simp [Act.eval, Act.put]) (own_at (by simpa using heap_alloc_new (Wd.alloc (.cells #[.int .i64 (la), .int .i64 (sb)] 37)) (.cells #[] 37)) (by simp; try omega)) (some ⟨b, o, none⟩) c lt (by simp only [HTK.out]; simp [Act.eval, Act.put]) ((HL.out.alloc _).alloc _) HN.out (by have := HLL.out; simp; try omega) (by simp; try omega) ?_
    intro v5 w5 ho5 hg5 _
    have HO5 := Lib.hid ho5
    have HG5 := Lib.hid hg5
    have HC5 := Lib.hid (grown_block HG5.out (by have := HLC.out; dsimp only; omega) (old_box (.cells #[] 37) (old_box (.cells #[.int .i64 (la), .int .i64 (sb)] 37) HC.out)))
    have HR5 := Lib.hid (grown_block HG5.out (by have := HLB.out; dsimp only; omega) (old_box (.cells #[] 37) (old_box (.cells #[.int .i64 (la), .int .i64 (sb)] 37) HR.out)))
    clear ho5 hg5
    refine hK.out _ _ (sbox3 HC5.out HR5.out HR.out R0.out) (fun hHn => ?_)
    clear hK K
    try simp only [List.getElem_toArray, List.getElem_cons_zero, List.getElem_cons_succ, Act.put, List.setIfInBounds_toArray, List.set_cons_zero, List.set_cons_succ]
    have HB5 := Lib.hid (below_own ((Below.alloc (Below.refl _ Wd) (Nat.le_refl _) (.cells #[.int .i64 (la), .int .i64 (sb)] 37)).alloc (by simp) (.cells #[] 37)) HG5.out (by simp; omega) (fun b hb => by cases hb; exact Nat.le_succ _))
    have HY5 := Lib.hid (grown_block HG5.out (by have := HLC.out; dsimp only; omega) (old_box (.cells #[] 37) (heap_alloc_new Wd (.cells #[.int .i64 (la), .int .i64 (sb)] 37))))
    have HO6 := HO5
    refine wpAnyH_ready (rs := [16]) (by kernel_rfl) (by simp) ?_
    refine AllReadyH.cons rfl (fun K hK => ?_) AllReadyH.nil
    refine step_app_sps rfl (.tmp 27) (.tmp 37) rfl Wd.heap.size v5 (0 + lt.length) ([] ++ spcs lt) (by simp [Act.eval, Act.put]) HO6.out (some ⟨Wd.heap.size, 0, none⟩) 1 [⟨la, sb⟩] (by simp [Act.eval, Act.put]) (sps1_at HY5.out) (fun h => by cases h) (by have := HLL.out; simp; omega) (HB5.out).size ?_
    intro v6 w6 ho6 hg6 _
    have HP := Lib.hid (put_end HO6.out (HB5.out) hg6 ho6)
    have HC9 := Lib.hid (grown_keep HO6.out hg6 HLC.out HC5.out)
    have HR9 := Lib.hid (grown_keep HO6.out hg6 HLB.out HR5.out)
    obtain ⟨A9, c9, rfl, -⟩ := own_slice ho6
    have HP := Lib.hid (put_len HP.out)
    clear ho6 hg6
    refine hK.out _ _ (sbox3 HC9.out HR9.out HR.out R0.out) (fun hHn => ?_)
    clear hK K
    try simp only [List.getElem_toArray, List.getElem_cons_zero, List.getElem_cons_succ, Act.put, List.setIfInBounds_toArray, List.set_cons_zero, List.set_cons_succ]
    refine wpAnyH_take (i := 17) (v := ?_) rfl (by kernel_rfl) (by kernel_rfl) (by kernel_rfl) (fun _ _ _ h => h) (Or.inl ⟨by rfl, ?hyy⟩) (by assumption) ?_
    case hyy => (intro w hSw; (try dsimp only at hSw); go_simp; all_goals (with_reducible rfl))
    try simp only [List.getElem_toArray, List.getElem_cons_zero, List.getElem_cons_succ, Act.put, List.setIfInBounds_toArray, List.set_cons_zero, List.set_cons_succ]
    refine wpAnyH_done (by kernel_rfl) ?_ _
    go_wp2_with fail
    go_ret
    exact ⟨_, rfl, by rw [HE.out]; exact own_base HP.out.1 HWB2.out.size, HWB2.out.trans (HP.out.2.mono HWB2.out.size)⟩
/-- A span put behind others, in a row of the call's own. -/
theorem put_any (A : Option Addr) (c : Nat) (l : List Sp) (s : Sp) (w : World) (hl : l.length ≤ 100000) (hn : A = none → l.length = 0 ∧ c = 0) (h : SpsAt w A l) (hb : ∀ x ∈ l, -1000000 ≤ x.hi ∧ x.hi ≤ 1000000) (hcap : l.length ≤ c) :
    Calls Tryd.prog 79 #[.slice A l.length c, spv s] w fun e w' => ∃ v, e = .returned v ∧ w'.ownsRow w.heap.size 37 2 v (putL l s).length (spcs (putL l s)) ∧ Below w.heap.size w w' := by
  by_cases h0 : l.length = 0
  · exact put_new A c l s w hl hn h hb h0
  · by_cases hf : (gs l ((l.length - 1 : Nat) : Int)).hi + 1 = s.lo
    · exact put_touch A c l s w hl hn h hb (by omega) hcap hf
    · exact put_far A c l s w hl hn h hb (by omega) hf
end Go.Proofs.YteoembjghmgbhaaDoor
