/- The flow walks: closed. -/
import Derived.Test.YtmhiiomejopaoaaO3
import Derived.Deep.RegionHeld3
import Derived.StillTailTactics
namespace Go.Proofs.Ytmhiiomejopaoaa
set_option linter.all false
open Go.RowKit

def ClosedOk (w w' : World) (many : Nat) (r : Option (List Int)) (e : Ending) : Prop := match r with
  | none => e = .returned (.slice none 0 0)
  | some P => ∃ g, e = .returned (.slice (some ⟨g, 0, none⟩) many many) ∧ w.heap.size ≤ g ∧ P.length = many ∧ RowI w' g P
set_option maxRecDepth 100000 in
set_option maxHeartbeats 2000000 in
theorem closed_any (n : Int) (A : Option Addr) (c : Nat) (l : List Lk) (at_ : Int) (many : Nat) (w : World) (hm : many ≤ 1000) (h1 : 1 ≤ many) (hl : l.length ≤ 1000) (h : LksAt w A l) (hb : ∀ x ∈ l, -17179869184 ≤ x.m ∧ x.m ≤ 17179869184) :
    Calls Try.prog 93 #[.agg #[.int .i64 n, .slice A l.length c], .int .i64 at_, .int .i64 (many : Int)] w fun e w' => ClosedOk w w' many (closedP l at_ many) e ∧ Below w.heap.size w w' := by
  have HL := Lib.hid h
  have HB := Lib.hid hb
  have hmk := mkMaps (many + 1) (by omega)
  have hmm := @run_makeMap Try.prog
  have eN : ((many + 1 : Nat) : Int) = (many : Int) + 1 := by omega
  simp only [eN] at hmk
  clear h hb eN
  go_enter Try.func93, Try.ntmps93
  go_upto_region 2 with fail
  obtain ⟨w1, hw1⟩ : ∃ w1, w1 = (w.alloc (.cells #[.int .i64 n, .slice A l.length c] 24)).alloc (.cells (madeCells #[.map none] (many + 1)) 112) := ⟨_, rfl⟩
  have hC : ClsR w w1 (.agg #[.int .i64 n, .slice A l.length c]) (w.heap.size + 1) (many + 1) [] (rowF l at_) := by
    rw [hw1]
    refine ⟨bel, ⟨_, _, rfl, (heap_alloc_old _ _ (by simp)).trans (heap_alloc_new w _)⟩, by simpa using MapsAt.made (w.alloc (.cells #[.int .i64 n, .slice A l.length c] 24)) (many + 1), fun j b hj => by simp at hj, fun b hb => by simp at hb, List.nodup_nil, by omega⟩
  rw [← hw1]
  have HC := Lib.hid hC
  have HS1 := Lib.hid (show w1.heap.size = w.heap.size + 2 by rw [hw1]; simp)
  clear hC hw1 hmk
  go_wp2_with (first | (refine row_store rfl _ _ _ (.inr rfl) at_ (0, -1) rfl rfl rfl (RowM.made w1) ?_; intro w3 hr3 hg3; have hb3 : Below w1.heap.size w1 w3 := below_of_grown ((Below.refl _ _).alloc (Nat.le_refl _) _) hg3 (by simp) (Nat.le_refl _); have HB3 := Lib.hid hb3; have HR3 := Lib.hid hr3; obtain ⟨u0, q0, f0, l0⟩ := (HC.out.maps.below hb3).any 0 (by omega); clear hr3 hg3 hb3; dsimp only [Act.put]))
  have hC3 := (HC.out.push (b := w1.heap.size) HB3.out (Nat.le_refl _) HR3.out (by simp)).congr (gs := rowF l at_) (fun j hj => by
    have : j = 0 := by simp at hj; omega
    subst this
    rfl)
  have HC3 := Lib.hid hC3
  clear hC3 HC HR3 HB3 u0 q0 f0 l0 HS1
  go_loopw [8] (fun i wr => ∃ (k : Nat) (bs : List Nat), 1 ≤ k ∧ k ≤ many + 1 ∧ i = .int .i64 (k : Int) ∧ Hid (bs.length = k) ∧ Hid (ClsR w wr (.agg #[.int .i64 n, .slice A l.length c]) (w.heap.size + 1) (many + 1) bs (rowF l at_))) (fun i _ => many + 2 - (intOf i).toNat)
  case atStart => exact ⟨1, _, by omega, by omega, rfl, Lib.hid rfl, HC3⟩
  case round =>
    obtain ⟨k, bs, hk1, hk2, rfl, HLB, HC⟩ := hrel
    by_cases hlt : k ≤ many
    · have t4 : decide ((k : Int) ≤ (many : Int)) = true := decide_eq_true (by omega)
      obtain ⟨u0, q0, f0, l0⟩ := HC.out.maps.any k (by omega)
      have i0 : (0 : Int) ≤ (k : Int) := by omega
      have i1 : (k : Int) < (many : Int) + 1 := by omega
      go_upto_region 7 with fail
      obtain ⟨M, hM⟩ : ∃ M, wr.heap.size = M := ⟨_, rfl⟩
      have hC4 := HC.out.push (wy := wr.alloc (.map #[] 0)) (b := wr.heap.size) ((Below.refl _ _).alloc (Nat.le_refl _) _) (Nat.le_refl _) (RowM.made wr) (by rw [HLB.out]; omega)
      rw [HLB.out, hM] at hC4
      rw [hM]
      have hcomm : (wr.alloc (.map #[] 0)).setCell ⟨w.heap.size + 1, k, none⟩ (.map (some M)) = (wr.setCell ⟨w.heap.size + 1, k, none⟩ (.map (some M))).alloc (.map #[] 0) := World.setCell_alloc_past _ _ _ _ l0
      rw [hcomm] at hC4
      clear hcomm
      obtain ⟨w4, hw4⟩ : ∃ w4, w4 = (wr.setCell ⟨w.heap.size + 1, k, none⟩ (.map (some M))).alloc (.map #[] 0) := ⟨_, rfl⟩
      rw [← hw4] at hC4 ⊢
      obtain ⟨bs2, hbs2⟩ : ∃ bs2, bs ++ [M] = bs2 := ⟨_, rfl⟩
      have HLB2 := Lib.hid (show bs2.length = k + 1 by rw [← hbs2]; simp [HLB.out])
      have HCUR := Lib.hid (show bs2[k]? = some M by rw [← hbs2, ← HLB.out]; simp)
      rw [hbs2] at hC4
      obtain ⟨k1, hk⟩ : ∃ k1, k = k1 + 1 := ⟨k - 1, by omega⟩
      have HK := Lib.hid hk
      obtain ⟨bp, hbp⟩ : ∃ bp, bs2[k1]? = some bp := ⟨bs2[k1]'(by rw [HLB2.out]; omega), List.getElem?_eq_getElem _⟩
      have HPRV := Lib.hid hbp
      have HC4 := Lib.hid (hC4.congr (gs := fun j => if j = k then rowI l (rowF l at_ k1) 0 else rowF l at_ j) (fun j hj => rfl))
      obtain ⟨nx, ny, hne, hbx⟩ := hC4.box
      cases hne
      have b1 : w4.cell? ⟨w.heap.size, 1, none⟩ = some (.slice A l.length c) := by unfold World.cell?; simp [hbx]
      have bl := (Array.getElem?_eq_some_iff.1 hbx).1
      clear hC4 hw4 hM hbs2 hk hbp hbx HC u0 q0 f0 l0 HLB i0 i1
      go_wp2
      go_loopw [41] (fun i wx => ∃ i' : Nat, i' ≤ l.length ∧ i = .int .i64 (i' : Int) ∧ Hid (ClsR w wx (.agg #[.int .i64 n, .slice A l.length c]) (w.heap.size + 1) (many + 1) bs2 (fun j => if j = k then rowI l (rowF l at_ k1) i' else rowF l at_ j))) (fun i _ => l.length - (intOf i).toNat)
      case atStart => exact ⟨0, by omega, rfl, HC4⟩
      case round =>
        obtain ⟨i, hi, rfl, HCI⟩ := hrel
        by_cases hil : i < l.length
        · have t5 : decide ((i : Int) < (l.length : Int)) = true := decide_eq_true (by omega)
          have HLI := Lib.hid (HL.out.below HCI.out.below)
          obtain ⟨b, o, rfl, g1, g2, g3⟩ := HLI.out.nat i hil
          obtain ⟨q, hq⟩ : ∃ q, gl l (i : Int) = q := ⟨_, rfl⟩
          rw [hq] at g1 g2 g3
          have HQ := Lib.hid hq
          have HQB := Lib.hid (HB.out q (by rw [← hq]; exact gl_mem (by omega) (by omega)))
          clear hq
          obtain ⟨qa, qb, qm⟩ := q
          simp only at g1 g2 g3
          have hlb := World.block_lt_of_cell? _ _ g1
          dsimp only at hlb
          have i0 : (0 : Int) ≤ (i : Int) := by omega
          have i1 : (i : Int) < (l.length : Int) := by omega
          have i2 : (i : Int) < (l.length : Int) + 1 := by omega
          go_upto_region 10 with fail
          obtain ⟨Bl, hBl⟩ : ∃ Bl, wr.heap.size = Bl := ⟨_, rfl⟩
          obtain ⟨w5, hw5⟩ : ∃ w5, w5 = wr.alloc (.cells #[.int .i64 qa, .int .i64 qb, .int .i64 qm] 39) := ⟨_, rfl⟩
          have HB5 := Lib.hid (show Below wr.heap.size wr w5 by rw [hw5]; exact bel)
          have HC5 := Lib.hid (HCI.out.step HB5.out)
          have HD := Lib.hid (show w5.heap[Bl]? = some (.cells #[.int .i64 qa, .int .i64 qb, .int .i64 qm] 39 (0, 0)) ∧ w5.cell? ⟨Bl, 0, none⟩ = some (.int .i64 qa) ∧ w5.cell? ⟨Bl, 1, none⟩ = some (.int .i64 qb) ∧ w5.cell? ⟨Bl, 2, none⟩ = some (.int .i64 qm) ∧ Bl < w5.heap.size by
            have hh : w5.heap[Bl]? = some (.cells #[.int .i64 qa, .int .i64 qb, .int .i64 qm] 39 (0, 0)) := by rw [hw5, ← hBl]; exact heap_alloc_new wr _
            exact ⟨hh, by unfold World.cell?; simp [hh], by unfold World.cell?; simp [hh], by unfold World.cell?; simp [hh], (Array.getElem?_eq_some_iff.1 hh).1⟩)
          rw [hBl, ← hw5]
          have HCR := Lib.hid HC5.out.maps
          have HRP := Lib.hid (show RowM w5 bp (rowF l at_ k1) by
            have h := HC5.out.rows k1 bp HPRV.out
            have hne : ¬ k1 = k := by have := HK.out; omega
            simpa [hne] using h)
          have HRC := Lib.hid (show RowM w5 M (rowI l (rowF l at_ k1) i) by
            have h := HC5.out.rows k M HCUR.out
            simpa using h)
          have HUP := Lib.hid (show rowI l (rowF l at_ k1) (i + 1) = upR l (rowF l at_ k1) (rowI l (rowF l at_ k1) i) i from rfl)
          unfold upR at HUP
          rw [HQ.out] at HUP
          simp only at HUP
          have e49 : IntKind.i64.wrap ((k : Int) - 1) = (k1 : Int) := by have := HK.out; rw [IntKind.wrap_i64]; omega
          have j0 : (0 : Int) ≤ (k1 : Int) := by omega
          have j1 : (k1 : Int) < (many : Int) + 1 := by have := HK.out; omega
          have k0 : (0 : Int) ≤ (k : Int) := by omega
          have k2 : (k : Int) < (many : Int) + 1 := by omega
          clear hw5 hBl g1 g2 g3 hlb
          cases hp : rowF l at_ k1 qa with
          | none =>
            rw [hp] at HUP
            simp only at HUP
            refine wp_region_held_drew (S := fun w' => Below w5.drew.heap.size w5.drew w') (by kernel_rfl) (Below.refl _ _) (fun hHeld => ?_)
            clear hHeld
            obtain ⟨W0, hW0⟩ : ∃ W0, W0 = w5.drew := ⟨_, rfl⟩
            have HW5 := Lib.hid (show Below w5.heap.size w5 W0 by rw [hW0]; exact (Below.refl _ w5).drew)
            rw [← hW0]
            clear hW0
            have cR := HCR.out.below HW5.out
            have cM := cR.cell k1 bp HPRV.out
            have lR := cR.lt
            have hD0 := HD.out.2.1
            have hDl := Nat.lt_of_lt_of_le HD.out.2.2.2.2 HW5.out.size
            have hDc : W0.cell? ⟨Bl, 0, none⟩ = some (.int .i64 qa) := (HW5.out.cell HD.out.2.2.2.2).trans HD.out.2.1
            have HRP0 := Lib.hid (HRP.out.below HW5.out)
            have hS0 : Below W0.heap.size W0 W0 := Below.refl _ _
            refine wpAnyH_take (i := 0) (v := ?_) rfl (by kernel_rfl) (by kernel_rfl) (by kernel_rfl) (fun _ _ _ h => h) (Or.inl ⟨by rfl, ?hyy⟩) (by assumption) ?_
            case hyy => (intro w hSw; (try dsimp only at hSw); go_simp; all_goals (with_reducible rfl))
            try simp only [List.getElem_toArray, List.getElem_cons_zero, List.getElem_cons_succ, Act.put, List.setIfInBounds_toArray, List.set_cons_zero, List.set_cons_succ]
            refine wpAnyH_take (i := 1) (v := ?_) rfl (by kernel_rfl) (by kernel_rfl) (by kernel_rfl) (fun _ _ _ h => h) (Or.inl ⟨by rfl, ?hyy⟩) (by assumption) ?_
            case hyy => (intro w hSw; (try dsimp only at hSw); go_simp; all_goals (with_reducible rfl))
            try simp only [List.getElem_toArray, List.getElem_cons_zero, List.getElem_cons_succ, Act.put, List.setIfInBounds_toArray, List.set_cons_zero, List.set_cons_succ]
            refine wpAnyH_take (i := 2) (v := ?_) rfl (by kernel_rfl) (by kernel_rfl) (by kernel_rfl) (fun _ _ _ h => h) (Or.inl ⟨by rfl, ?hyy⟩) (by assumption) ?_
            case hyy => (intro w hSw; (try dsimp only at hSw); go_simp; all_goals (with_reducible rfl))
            try simp only [List.getElem_toArray, List.getElem_cons_zero, List.getElem_cons_succ, Act.put, List.setIfInBounds_toArray, List.set_cons_zero, List.set_cons_succ]
            refine wpAnyH_take (i := 3) (v := ?_) rfl (by kernel_rfl) (by kernel_rfl) (by kernel_rfl) (fun _ _ _ h => h) (Or.inl ⟨by rfl, ?hyy⟩) (by assumption) ?_
            case hyy => (intro w hSw; (try dsimp only at hSw); go_simp; all_goals (with_reducible rfl))
            try simp only [List.getElem_toArray, List.getElem_cons_zero, List.getElem_cons_succ, Act.put, List.setIfInBounds_toArray, List.set_cons_zero, List.set_cons_succ]
            refine wpAnyH_take (i := 4) (v := ?_) rfl (by kernel_rfl) (by kernel_rfl) (by kernel_rfl) (fun _ _ _ h => h) (Or.inl ⟨by rfl, ?hyy⟩) (by assumption) ?_
            case hyy => (intro w hSw; (try dsimp only at hSw); have z0 := (hSw.cell lR).trans cM; go_simp; all_goals (with_reducible rfl))
            try simp only [List.getElem_toArray, List.getElem_cons_zero, List.getElem_cons_succ, Act.put, List.setIfInBounds_toArray, List.set_cons_zero, List.set_cons_succ]
            refine wpAnyH_take (i := 5) (v := ?_) rfl (by kernel_rfl) (by kernel_rfl) (by kernel_rfl) (fun _ _ _ h => h) (Or.inl ⟨by rfl, ?hyy⟩) (by assumption) ?_
            case hyy => (intro w hSw; (try dsimp only at hSw); go_simp; all_goals (with_reducible rfl))
            try simp only [List.getElem_toArray, List.getElem_cons_zero, List.getElem_cons_succ, Act.put, List.setIfInBounds_toArray, List.set_cons_zero, List.set_cons_succ]
            refine wpAnyH_take (i := 6) (v := ?_) rfl (by kernel_rfl) (by kernel_rfl) (by kernel_rfl) (fun _ _ _ h => h) (Or.inl ⟨by rfl, ?hyy⟩) (by assumption) ?_
            case hyy => (intro w hSw; (try dsimp only at hSw); have z0 := (hSw.cell hDl).trans hDc; go_simp; all_goals (with_reducible rfl))
            try simp only [List.getElem_toArray, List.getElem_cons_zero, List.getElem_cons_succ, Act.put, List.setIfInBounds_toArray, List.set_cons_zero, List.set_cons_succ]
            refine wpAnyH_take (i := 7) (v := ?_) rfl (by kernel_rfl) (by kernel_rfl) (by kernel_rfl) (fun _ _ _ h => h) (Or.inl ⟨by rfl, ?hyy⟩) (by assumption) ?_
            case hyy => (intro w hSw; (try dsimp only at hSw); have z0 := (HRP0.out.below hSw).look2 qa; rw [hp] at z0; simp only [Option.map_none, Option.map_some, Option.getD_none, Option.getD_some, Option.isSome_none, Option.isSome_some, stv] at z0; go_simp; all_goals (with_reducible rfl))
            try simp only [List.getElem_toArray, List.getElem_cons_zero, List.getElem_cons_succ, Act.put, List.setIfInBounds_toArray, List.set_cons_zero, List.set_cons_succ]
            refine wpAnyH_take (i := 8) (v := ?_) rfl (by kernel_rfl) (by kernel_rfl) (by kernel_rfl) (fun _ _ _ h => h) (Or.inl ⟨by rfl, ?hyy⟩) (by assumption) ?_
            case hyy => (intro w hSw; (try dsimp only at hSw); go_simp; all_goals (with_reducible rfl))
            try simp only [List.getElem_toArray, List.getElem_cons_zero, List.getElem_cons_succ, Act.put, List.setIfInBounds_toArray, List.set_cons_zero, List.set_cons_succ]
            refine wpAnyH_take (i := 9) (v := ?_) rfl (by kernel_rfl) (by kernel_rfl) (by kernel_rfl) (fun _ _ _ h => h) (Or.inl ⟨by rfl, ?hyy⟩) (by assumption) ?_
            case hyy => (intro w hSw; (try dsimp only at hSw); go_simp; all_goals (with_reducible rfl))
            try simp only [List.getElem_toArray, List.getElem_cons_zero, List.getElem_cons_succ, Act.put, List.setIfInBounds_toArray, List.set_cons_zero, List.set_cons_succ]
            refine wpAnyH_take (i := 10) (v := ?_) rfl (by kernel_rfl) (by kernel_rfl) (by kernel_rfl) (fun _ _ _ h => h) (Or.inl ⟨by rfl, ?hyy⟩) (by assumption) ?_
            case hyy => (intro w hSw; (try dsimp only at hSw); go_simp; all_goals (with_reducible rfl))
            try simp only [List.getElem_toArray, List.getElem_cons_zero, List.getElem_cons_succ, Act.put, List.setIfInBounds_toArray, List.set_cons_zero, List.set_cons_succ]
            refine wpAnyH_ready (rs := [11]) (by kernel_rfl) (by simp) ?_
            refine AllReadyH.cons rfl (fun K hK => ?_) AllReadyH.nil
            go_simp
            have hS1 : Below W0.heap.size W0 (W0.alloc (.cells #[.int .i64 0, .int .i64 0] 111)) := hS0.alloc hS0.size _
            refine hK.out _ _ hS1 (fun hHn => ?_)
            clear hK K hHn 
            try simp only [List.getElem_toArray, List.getElem_cons_zero, List.getElem_cons_succ, Act.put, List.setIfInBounds_toArray, List.set_cons_zero, List.set_cons_succ]
            refine wpAnyH_ready (rs := [12]) (by kernel_rfl) (by simp) ?_
            refine AllReadyH.cons rfl (fun K hK => ?_) AllReadyH.nil
            go_simp
            have hS2 : Below W0.heap.size W0 (W0.alloc (.cells #[.int .i64 0, .int .i64 0] 111)) := hS0.alloc hS0.size _
            refine hK.out _ _ hS2 (fun hHn => ?_)
            clear hK K hHn hS1
            try simp only [List.getElem_toArray, List.getElem_cons_zero, List.getElem_cons_succ, Act.put, List.setIfInBounds_toArray, List.set_cons_zero, List.set_cons_succ]
            refine wpAnyH_take (i := 13) (v := ?_) rfl (by kernel_rfl) (by kernel_rfl) (by kernel_rfl) (fun _ _ _ h => h) (Or.inl ⟨by rfl, ?hyy⟩) (by assumption) ?_
            case hyy => (intro w hSw; (try dsimp only at hSw); go_simp; all_goals (with_reducible rfl))
            try simp only [List.getElem_toArray, List.getElem_cons_zero, List.getElem_cons_succ, Act.put, List.setIfInBounds_toArray, List.set_cons_zero, List.set_cons_succ]
            refine wpAnyH_done (by kernel_rfl) ?_ _
            go_wp2_with fail
            go_roundw
            case rel => exact ⟨i + 1, by omega, by go_num, Lib.hid ((HC5.out.step (HW5.out.trans (hS2.mono HW5.out.size))).congr fun j hj => by
              by_cases e : j = k
              · subst e; simp only [if_pos]; exact HUP.out.symm
              · simp only [if_neg e])⟩
            case measure => simp [intOf]; omega
          | some p =>
            rw [hp] at HUP
            simp only at HUP
            obtain ⟨pa, pb⟩ := p
            refine wp_region_held_drew (S := fun w' => Below w5.drew.heap.size w5.drew w') (by kernel_rfl) (Below.refl _ _) (fun hHeld => ?_)
            clear hHeld
            obtain ⟨W0, hW0⟩ : ∃ W0, W0 = w5.drew := ⟨_, rfl⟩
            have HW5 := Lib.hid (show Below w5.heap.size w5 W0 by rw [hW0]; exact (Below.refl _ w5).drew)
            rw [← hW0]
            clear hW0
            have cR := HCR.out.below HW5.out
            have cM := cR.cell k1 bp HPRV.out
            have lR := cR.lt
            have hD0 := HD.out.2.1
            have hDl := Nat.lt_of_lt_of_le HD.out.2.2.2.2 HW5.out.size
            have hDc : W0.cell? ⟨Bl, 0, none⟩ = some (.int .i64 qa) := (HW5.out.cell HD.out.2.2.2.2).trans HD.out.2.1
            have HRP0 := Lib.hid (HRP.out.below HW5.out)
            have hS0 : Below W0.heap.size W0 W0 := Below.refl _ _
            refine wpAnyH_take (i := 0) (v := ?_) rfl (by kernel_rfl) (by kernel_rfl) (by kernel_rfl) (fun _ _ _ h => h) (Or.inl ⟨by rfl, ?hyy⟩) (by assumption) ?_
            case hyy => (intro w hSw; (try dsimp only at hSw); go_simp; all_goals (with_reducible rfl))
            try simp only [List.getElem_toArray, List.getElem_cons_zero, List.getElem_cons_succ, Act.put, List.setIfInBounds_toArray, List.set_cons_zero, List.set_cons_succ]
            refine wpAnyH_take (i := 1) (v := ?_) rfl (by kernel_rfl) (by kernel_rfl) (by kernel_rfl) (fun _ _ _ h => h) (Or.inl ⟨by rfl, ?hyy⟩) (by assumption) ?_
            case hyy => (intro w hSw; (try dsimp only at hSw); go_simp; all_goals (with_reducible rfl))
            try simp only [List.getElem_toArray, List.getElem_cons_zero, List.getElem_cons_succ, Act.put, List.setIfInBounds_toArray, List.set_cons_zero, List.set_cons_succ]
            refine wpAnyH_take (i := 2) (v := ?_) rfl (by kernel_rfl) (by kernel_rfl) (by kernel_rfl) (fun _ _ _ h => h) (Or.inl ⟨by rfl, ?hyy⟩) (by assumption) ?_
            case hyy => (intro w hSw; (try dsimp only at hSw); go_simp; all_goals (with_reducible rfl))
            try simp only [List.getElem_toArray, List.getElem_cons_zero, List.getElem_cons_succ, Act.put, List.setIfInBounds_toArray, List.set_cons_zero, List.set_cons_succ]
            refine wpAnyH_take (i := 3) (v := ?_) rfl (by kernel_rfl) (by kernel_rfl) (by kernel_rfl) (fun _ _ _ h => h) (Or.inl ⟨by rfl, ?hyy⟩) (by assumption) ?_
            case hyy => (intro w hSw; (try dsimp only at hSw); go_simp; all_goals (with_reducible rfl))
            try simp only [List.getElem_toArray, List.getElem_cons_zero, List.getElem_cons_succ, Act.put, List.setIfInBounds_toArray, List.set_cons_zero, List.set_cons_succ]
            refine wpAnyH_take (i := 4) (v := ?_) rfl (by kernel_rfl) (by kernel_rfl) (by kernel_rfl) (fun _ _ _ h => h) (Or.inl ⟨by rfl, ?hyy⟩) (by assumption) ?_
            case hyy => (intro w hSw; (try dsimp only at hSw); have z0 := (hSw.cell lR).trans cM; go_simp; all_goals (with_reducible rfl))
            try simp only [List.getElem_toArray, List.getElem_cons_zero, List.getElem_cons_succ, Act.put, List.setIfInBounds_toArray, List.set_cons_zero, List.set_cons_succ]
            refine wpAnyH_take (i := 5) (v := ?_) rfl (by kernel_rfl) (by kernel_rfl) (by kernel_rfl) (fun _ _ _ h => h) (Or.inl ⟨by rfl, ?hyy⟩) (by assumption) ?_
            case hyy => (intro w hSw; (try dsimp only at hSw); go_simp; all_goals (with_reducible rfl))
            try simp only [List.getElem_toArray, List.getElem_cons_zero, List.getElem_cons_succ, Act.put, List.setIfInBounds_toArray, List.set_cons_zero, List.set_cons_succ]
            refine wpAnyH_take (i := 6) (v := ?_) rfl (by kernel_rfl) (by kernel_rfl) (by kernel_rfl) (fun _ _ _ h => h) (Or.inl ⟨by rfl, ?hyy⟩) (by assumption) ?_
            case hyy => (intro w hSw; (try dsimp only at hSw); have z0 := (hSw.cell hDl).trans hDc; go_simp; all_goals (with_reducible rfl))
            try simp only [List.getElem_toArray, List.getElem_cons_zero, List.getElem_cons_succ, Act.put, List.setIfInBounds_toArray, List.set_cons_zero, List.set_cons_succ]
            refine wpAnyH_take (i := 7) (v := ?_) rfl (by kernel_rfl) (by kernel_rfl) (by kernel_rfl) (fun _ _ _ h => h) (Or.inl ⟨by rfl, ?hyy⟩) (by assumption) ?_
            case hyy => (intro w hSw; (try dsimp only at hSw); have z0 := (HRP0.out.below hSw).look2 qa; rw [hp] at z0; simp only [Option.map_none, Option.map_some, Option.getD_none, Option.getD_some, Option.isSome_none, Option.isSome_some, stv] at z0; go_simp; all_goals (with_reducible rfl))
            try simp only [List.getElem_toArray, List.getElem_cons_zero, List.getElem_cons_succ, Act.put, List.setIfInBounds_toArray, List.set_cons_zero, List.set_cons_succ]
            refine wpAnyH_take (i := 8) (v := ?_) rfl (by kernel_rfl) (by kernel_rfl) (by kernel_rfl) (fun _ _ _ h => h) (Or.inl ⟨by rfl, ?hyy⟩) (by assumption) ?_
            case hyy => (intro w hSw; (try dsimp only at hSw); go_simp; all_goals (with_reducible rfl))
            try simp only [List.getElem_toArray, List.getElem_cons_zero, List.getElem_cons_succ, Act.put, List.setIfInBounds_toArray, List.set_cons_zero, List.set_cons_succ]
            refine wpAnyH_take (i := 9) (v := ?_) rfl (by kernel_rfl) (by kernel_rfl) (by kernel_rfl) (fun _ _ _ h => h) (Or.inl ⟨by rfl, ?hyy⟩) (by assumption) ?_
            case hyy => (intro w hSw; (try dsimp only at hSw); go_simp; all_goals (with_reducible rfl))
            try simp only [List.getElem_toArray, List.getElem_cons_zero, List.getElem_cons_succ, Act.put, List.setIfInBounds_toArray, List.set_cons_zero, List.set_cons_succ]
            refine wpAnyH_take (i := 10) (v := ?_) rfl (by kernel_rfl) (by kernel_rfl) (by kernel_rfl) (fun _ _ _ h => h) (Or.inl ⟨by rfl, ?hyy⟩) (by assumption) ?_
            case hyy => (intro w hSw; (try dsimp only at hSw); go_simp; all_goals (with_reducible rfl))
            try simp only [List.getElem_toArray, List.getElem_cons_zero, List.getElem_cons_succ, Act.put, List.setIfInBounds_toArray, List.set_cons_zero, List.set_cons_succ]
            refine wpAnyH_ready (rs := [11]) (by kernel_rfl) (by simp) ?_
            refine AllReadyH.cons rfl (fun K hK => ?_) AllReadyH.nil
            go_simp
            have hS1 : Below W0.heap.size W0 (W0.alloc (.cells #[.int .i64 0, .int .i64 0] 111)) := hS0.alloc hS0.size _
            refine hK.out _ _ hS1 (fun hHn => ?_)
            clear hK K hHn 
            try simp only [List.getElem_toArray, List.getElem_cons_zero, List.getElem_cons_succ, Act.put, List.setIfInBounds_toArray, List.set_cons_zero, List.set_cons_succ]
            refine wpAnyH_ready (rs := [12]) (by kernel_rfl) (by simp) ?_
            refine AllReadyH.cons rfl (fun K hK => ?_) AllReadyH.nil
            go_simp
            have hS2 : Below W0.heap.size W0 (W0.alloc (.cells #[.int .i64 pa, .int .i64 pb] 111)) := hS0.alloc hS0.size _
            refine hK.out _ _ hS2 (fun hHn => ?_)
            clear hK K hHn hS1
            try simp only [List.getElem_toArray, List.getElem_cons_zero, List.getElem_cons_succ, Act.put, List.setIfInBounds_toArray, List.set_cons_zero, List.set_cons_succ]
            refine wpAnyH_take (i := 13) (v := ?_) rfl (by kernel_rfl) (by kernel_rfl) (by kernel_rfl) (fun _ _ _ h => h) (Or.inl ⟨by rfl, ?hyy⟩) (by assumption) ?_
            case hyy => (intro w hSw; (try dsimp only at hSw); go_simp; all_goals (with_reducible rfl))
            try simp only [List.getElem_toArray, List.getElem_cons_zero, List.getElem_cons_succ, Act.put, List.setIfInBounds_toArray, List.set_cons_zero, List.set_cons_succ]
            refine wpAnyH_done (by kernel_rfl) ?_ _
            obtain ⟨S, hS⟩ : ∃ S, wrap64 (pa + qm) = S := ⟨_, rfl⟩
            have hS' : IntKind.i64.wrap (pa + qm) = S := by rw [IntWalk.i64_left]; exact hS
            rw [hS] at HUP
            obtain ⟨Bp, hBp⟩ : ∃ Bp, W0.heap.size = Bp := ⟨_, rfl⟩
            go_upto_region 12 with fail
            obtain ⟨w6, hw6⟩ : ∃ w6, w6 = W0.alloc (.cells #[.int .i64 pa, .int .i64 pb] 111) := ⟨_, rfl⟩
            have HB6 := Lib.hid (show Below w5.heap.size w5 w6 by rw [hw6]; exact HW5.out.trans (hS2.mono HW5.out.size))
            have HD6 := Lib.hid (show w6.cell? ⟨Bl, 0, none⟩ = some (.int .i64 qa) ∧ w6.cell? ⟨Bl, 1, none⟩ = some (.int .i64 qb) ∧ w6.cell? ⟨Bl, 2, none⟩ = some (.int .i64 qm) ∧ Bl < w6.heap.size from ⟨(HB6.out.cell HD.out.2.2.2.2).trans HD.out.2.1, (HB6.out.cell HD.out.2.2.2.2).trans HD.out.2.2.1, (HB6.out.cell HD.out.2.2.2.2).trans HD.out.2.2.2.1, Nat.lt_of_lt_of_le HD.out.2.2.2.2 HB6.out.size⟩)
            have HP6 := Lib.hid (show w6.cell? ⟨Bp, 0, none⟩ = some (.int .i64 pa) ∧ w6.cell? ⟨Bp, 1, none⟩ = some (.int .i64 pb) ∧ Bp < w6.heap.size by
              have hh : w6.heap[Bp]? = some (.cells #[.int .i64 pa, .int .i64 pb] 111 (0, 0)) := by rw [hw6, ← hBp]; exact heap_alloc_new W0 _
              exact ⟨by unfold World.cell?; simp [hh], by unfold World.cell?; simp [hh], (Array.getElem?_eq_some_iff.1 hh).1⟩)
            have HC6 := Lib.hid (HC5.out.step HB6.out)
            have HRC6 := Lib.hid (HRC.out.below HB6.out)
            rw [hBp, ← hw6]
            clear hw6 hBp cR cM lR hD0 hDl hDc hS0 hS2
            cases ho : rowI l (rowF l at_ k1) i qb with
            | none =>
              rw [ho] at HUP
              simp only at HUP
              refine wp_region_held_drew (S := fun w' => Below w6.drew.heap.size w6.drew w') (by kernel_rfl) (Below.refl _ _) (fun hHeld => ?_)
              clear hHeld
              obtain ⟨W1, hW1⟩ : ∃ W1, W1 = w6.drew := ⟨_, rfl⟩
              have HW6 := Lib.hid (show Below w6.heap.size w6 W1 by rw [hW1]; exact (Below.refl _ w6).drew)
              rw [← hW1]
              clear hW1
              have cR := HC6.out.maps.below HW6.out
              have cM := cR.cell k M HCUR.out
              have lR := cR.lt
              have hDl := Nat.lt_of_lt_of_le HD6.out.2.2.2 HW6.out.size
              have hDc : W1.cell? ⟨Bl, 1, none⟩ = some (.int .i64 qb) := (HW6.out.cell HD6.out.2.2.2).trans HD6.out.2.1
              have HRC1 := Lib.hid (HRC6.out.below HW6.out)
              have hS0 : Below W1.heap.size W1 W1 := Below.refl _ _
              refine wpAnyH_take (i := 0) (v := ?_) rfl (by kernel_rfl) (by kernel_rfl) (by kernel_rfl) (fun _ _ _ h => h) (Or.inl ⟨by rfl, ?hyy⟩) (by assumption) ?_
              case hyy => (intro w hSw; (try dsimp only at hSw); go_simp; all_goals (with_reducible rfl))
              try simp only [List.getElem_toArray, List.getElem_cons_zero, List.getElem_cons_succ, Act.put, List.setIfInBounds_toArray, List.set_cons_zero, List.set_cons_succ]
              refine wpAnyH_take (i := 1) (v := ?_) rfl (by kernel_rfl) (by kernel_rfl) (by kernel_rfl) (fun _ _ _ h => h) (Or.inl ⟨by rfl, ?hyy⟩) (by assumption) ?_
              case hyy => (intro w hSw; (try dsimp only at hSw); go_simp; all_goals (with_reducible rfl))
              try simp only [List.getElem_toArray, List.getElem_cons_zero, List.getElem_cons_succ, Act.put, List.setIfInBounds_toArray, List.set_cons_zero, List.set_cons_succ]
              refine wpAnyH_take (i := 2) (v := ?_) rfl (by kernel_rfl) (by kernel_rfl) (by kernel_rfl) (fun _ _ _ h => h) (Or.inl ⟨by rfl, ?hyy⟩) (by assumption) ?_
              case hyy => (intro w hSw; (try dsimp only at hSw); go_simp; all_goals (with_reducible rfl))
              try simp only [List.getElem_toArray, List.getElem_cons_zero, List.getElem_cons_succ, Act.put, List.setIfInBounds_toArray, List.set_cons_zero, List.set_cons_succ]
              refine wpAnyH_take (i := 3) (v := ?_) rfl (by kernel_rfl) (by kernel_rfl) (by kernel_rfl) (fun _ _ _ h => h) (Or.inl ⟨by rfl, ?hyy⟩) (by assumption) ?_
              case hyy => (intro w hSw; (try dsimp only at hSw); have z0 := (hSw.cell lR).trans cM; go_simp; all_goals (with_reducible rfl))
              try simp only [List.getElem_toArray, List.getElem_cons_zero, List.getElem_cons_succ, Act.put, List.setIfInBounds_toArray, List.set_cons_zero, List.set_cons_succ]
              refine wpAnyH_take (i := 4) (v := ?_) rfl (by kernel_rfl) (by kernel_rfl) (by kernel_rfl) (fun _ _ _ h => h) (Or.inl ⟨by rfl, ?hyy⟩) (by assumption) ?_
              case hyy => (intro w hSw; (try dsimp only at hSw); go_simp; all_goals (with_reducible rfl))
              try simp only [List.getElem_toArray, List.getElem_cons_zero, List.getElem_cons_succ, Act.put, List.setIfInBounds_toArray, List.set_cons_zero, List.set_cons_succ]
              refine wpAnyH_take (i := 5) (v := ?_) rfl (by kernel_rfl) (by kernel_rfl) (by kernel_rfl) (fun _ _ _ h => h) (Or.inl ⟨by rfl, ?hyy⟩) (by assumption) ?_
              case hyy => (intro w hSw; (try dsimp only at hSw); have z0 := (hSw.cell hDl).trans hDc; go_simp; all_goals (with_reducible rfl))
              try simp only [List.getElem_toArray, List.getElem_cons_zero, List.getElem_cons_succ, Act.put, List.setIfInBounds_toArray, List.set_cons_zero, List.set_cons_succ]
              refine wpAnyH_take (i := 6) (v := ?_) rfl (by kernel_rfl) (by kernel_rfl) (by kernel_rfl) (fun _ _ _ h => h) (Or.inl ⟨by rfl, ?hyy⟩) (by assumption) ?_
              case hyy => (intro w hSw; (try dsimp only at hSw); have z0 := (HRC1.out.below hSw).look2 qb; rw [ho] at z0; simp only [Option.map_none, Option.map_some, Option.getD_none, Option.getD_some, Option.isSome_none, Option.isSome_some, stv] at z0; go_simp; all_goals (with_reducible rfl))
              try simp only [List.getElem_toArray, List.getElem_cons_zero, List.getElem_cons_succ, Act.put, List.setIfInBounds_toArray, List.set_cons_zero, List.set_cons_succ]
              refine wpAnyH_take (i := 7) (v := ?_) rfl (by kernel_rfl) (by kernel_rfl) (by kernel_rfl) (fun _ _ _ h => h) (Or.inl ⟨by rfl, ?hyy⟩) (by assumption) ?_
              case hyy => (intro w hSw; (try dsimp only at hSw); go_simp; all_goals (with_reducible rfl))
              try simp only [List.getElem_toArray, List.getElem_cons_zero, List.getElem_cons_succ, Act.put, List.setIfInBounds_toArray, List.set_cons_zero, List.set_cons_succ]
              refine wpAnyH_take (i := 8) (v := ?_) rfl (by kernel_rfl) (by kernel_rfl) (by kernel_rfl) (fun _ _ _ h => h) (Or.inl ⟨by rfl, ?hyy⟩) (by assumption) ?_
              case hyy => (intro w hSw; (try dsimp only at hSw); go_simp; all_goals (with_reducible rfl))
              try simp only [List.getElem_toArray, List.getElem_cons_zero, List.getElem_cons_succ, Act.put, List.setIfInBounds_toArray, List.set_cons_zero, List.set_cons_succ]
              refine wpAnyH_take (i := 9) (v := ?_) rfl (by kernel_rfl) (by kernel_rfl) (by kernel_rfl) (fun _ _ _ h => h) (Or.inl ⟨by rfl, ?hyy⟩) (by assumption) ?_
              case hyy => (intro w hSw; (try dsimp only at hSw); go_simp; all_goals (with_reducible rfl))
              try simp only [List.getElem_toArray, List.getElem_cons_zero, List.getElem_cons_succ, Act.put, List.setIfInBounds_toArray, List.set_cons_zero, List.set_cons_succ]
              refine wpAnyH_ready (rs := [10]) (by kernel_rfl) (by simp) ?_
              refine AllReadyH.cons rfl (fun K hK => ?_) AllReadyH.nil
              go_simp
              have hS1 : Below W1.heap.size W1 (W1.alloc (.cells #[.int .i64 0, .int .i64 0] 111)) := hS0.alloc hS0.size _
              refine hK.out _ _ hS1 (fun hHn => ?_)
              clear hK K hHn 
              try simp only [List.getElem_toArray, List.getElem_cons_zero, List.getElem_cons_succ, Act.put, List.setIfInBounds_toArray, List.set_cons_zero, List.set_cons_succ]
              refine wpAnyH_ready (rs := [11]) (by kernel_rfl) (by simp) ?_
              refine AllReadyH.cons rfl (fun K hK => ?_) AllReadyH.nil
              go_simp
              have hS2 : Below W1.heap.size W1 (W1.alloc (.cells #[.int .i64 0, .int .i64 0] 111)) := hS0.alloc hS0.size _
              refine hK.out _ _ hS2 (fun hHn => ?_)
              clear hK K hHn hS1
              try simp only [List.getElem_toArray, List.getElem_cons_zero, List.getElem_cons_succ, Act.put, List.setIfInBounds_toArray, List.set_cons_zero, List.set_cons_succ]
              refine wpAnyH_take (i := 12) (v := ?_) rfl (by kernel_rfl) (by kernel_rfl) (by kernel_rfl) (fun _ _ _ h => h) (Or.inl ⟨by rfl, ?hyy⟩) (by assumption) ?_
              case hyy => (intro w hSw; (try dsimp only at hSw); go_simp; all_goals (with_reducible rfl))
              try simp only [List.getElem_toArray, List.getElem_cons_zero, List.getElem_cons_succ, Act.put, List.setIfInBounds_toArray, List.set_cons_zero, List.set_cons_succ]
              refine wpAnyH_done (by kernel_rfl) ?_ _
              go_upto_region 13 with fail
              obtain ⟨w7, hw7⟩ : ∃ w7, w7 = W1.alloc (.cells #[.int .i64 0, .int .i64 0] 111) := ⟨_, rfl⟩
              have HB7 := Lib.hid (show Below w6.heap.size w6 w7 by rw [hw7]; exact HW6.out.trans (hS2.mono HW6.out.size))
              have HD7 := Lib.hid (show w7.cell? ⟨Bl, 0, none⟩ = some (.int .i64 qa) ∧ w7.cell? ⟨Bl, 1, none⟩ = some (.int .i64 qb) ∧ w7.cell? ⟨Bl, 2, none⟩ = some (.int .i64 qm) ∧ Bl < w7.heap.size from ⟨(HB7.out.cell HD6.out.2.2.2).trans HD6.out.1, (HB7.out.cell HD6.out.2.2.2).trans HD6.out.2.1, (HB7.out.cell HD6.out.2.2.2).trans HD6.out.2.2.1, Nat.lt_of_lt_of_le HD6.out.2.2.2 HB7.out.size⟩)
              have HP7 := Lib.hid (show w7.cell? ⟨Bp, 0, none⟩ = some (.int .i64 pa) ∧ w7.cell? ⟨Bp, 1, none⟩ = some (.int .i64 pb) ∧ Bp < w7.heap.size from ⟨(HB7.out.cell HP6.out.2.2).trans HP6.out.1, (HB7.out.cell HP6.out.2.2).trans HP6.out.2.1, Nat.lt_of_lt_of_le HP6.out.2.2 HB7.out.size⟩)
              have HC7 := Lib.hid (HC6.out.step HB7.out)
              have HRC7 := Lib.hid (HRC6.out.below HB7.out)
              rw [← hw7]
              clear cR cM lR hDl hDc hS0 hS2 hw7
              obtain ⟨d0, d1, d2, dl⟩ := HD7.out
              obtain ⟨p0, p1, pl⟩ := HP7.out
              have cM := HC7.out.maps.cell k M HCUR.out
              have lR := HC7.out.maps.lt
              go_upto_region 14 with fail
              go_still_tail 13, (by kernel_rfl)
              refine row_store rfl _ _ _ (.inl rfl) qb (S, (i : Int)) rfl rfl rfl (RowM.below HRC7.out (show Below w7.heap.size w7 w7.drew from (Below.refl _ _).drew)) ?_
              intro w9 hr9 hg9
              have HR9 := Lib.hid hr9
              have HC9 := Lib.hid ((HC7.out.step (show Below w7.heap.size w7 w7.drew from (Below.refl _ _).drew)).up HCUR.out hr9 hg9)
              clear hr9 hg9
              dsimp only [Act.put]
              go_wp2_with fail
              go_roundw
              case rel => exact ⟨i + 1, by omega, by go_num, Lib.hid (HC9.out.congr fun j hj => by
                by_cases e : j = k
                · subst e; simp only [if_pos]; exact HUP.out.symm
                · simp only [if_neg e])⟩
              case measure => simp [intOf]; omega
            | some o =>
              rw [ho] at HUP
              simp only at HUP
              obtain ⟨oa, ob⟩ := o
              refine wp_region_held_drew (S := fun w' => Below w6.drew.heap.size w6.drew w') (by kernel_rfl) (Below.refl _ _) (fun hHeld => ?_)
              clear hHeld
              obtain ⟨W1, hW1⟩ : ∃ W1, W1 = w6.drew := ⟨_, rfl⟩
              have HW6 := Lib.hid (show Below w6.heap.size w6 W1 by rw [hW1]; exact (Below.refl _ w6).drew)
              rw [← hW1]
              clear hW1
              have cR := HC6.out.maps.below HW6.out
              have cM := cR.cell k M HCUR.out
              have lR := cR.lt
              have hDl := Nat.lt_of_lt_of_le HD6.out.2.2.2 HW6.out.size
              have hDc : W1.cell? ⟨Bl, 1, none⟩ = some (.int .i64 qb) := (HW6.out.cell HD6.out.2.2.2).trans HD6.out.2.1
              have HRC1 := Lib.hid (HRC6.out.below HW6.out)
              have hS0 : Below W1.heap.size W1 W1 := Below.refl _ _
              refine wpAnyH_take (i := 0) (v := ?_) rfl (by kernel_rfl) (by kernel_rfl) (by kernel_rfl) (fun _ _ _ h => h) (Or.inl ⟨by rfl, ?hyy⟩) (by assumption) ?_
              case hyy => (intro w hSw; (try dsimp only at hSw); go_simp; all_goals (with_reducible rfl))
              try simp only [List.getElem_toArray, List.getElem_cons_zero, List.getElem_cons_succ, Act.put, List.setIfInBounds_toArray, List.set_cons_zero, List.set_cons_succ]
              refine wpAnyH_take (i := 1) (v := ?_) rfl (by kernel_rfl) (by kernel_rfl) (by kernel_rfl) (fun _ _ _ h => h) (Or.inl ⟨by rfl, ?hyy⟩) (by assumption) ?_
              case hyy => (intro w hSw; (try dsimp only at hSw); go_simp; all_goals (with_reducible rfl))
              try simp only [List.getElem_toArray, List.getElem_cons_zero, List.getElem_cons_succ, Act.put, List.setIfInBounds_toArray, List.set_cons_zero, List.set_cons_succ]
              refine wpAnyH_take (i := 2) (v := ?_) rfl (by kernel_rfl) (by kernel_rfl) (by kernel_rfl) (fun _ _ _ h => h) (Or.inl ⟨by rfl, ?hyy⟩) (by assumption) ?_
              case hyy => (intro w hSw; (try dsimp only at hSw); go_simp; all_goals (with_reducible rfl))
              try simp only [List.getElem_toArray, List.getElem_cons_zero, List.getElem_cons_succ, Act.put, List.setIfInBounds_toArray, List.set_cons_zero, List.set_cons_succ]
              refine wpAnyH_take (i := 3) (v := ?_) rfl (by kernel_rfl) (by kernel_rfl) (by kernel_rfl) (fun _ _ _ h => h) (Or.inl ⟨by rfl, ?hyy⟩) (by assumption) ?_
              case hyy => (intro w hSw; (try dsimp only at hSw); have z0 := (hSw.cell lR).trans cM; go_simp; all_goals (with_reducible rfl))
              try simp only [List.getElem_toArray, List.getElem_cons_zero, List.getElem_cons_succ, Act.put, List.setIfInBounds_toArray, List.set_cons_zero, List.set_cons_succ]
              refine wpAnyH_take (i := 4) (v := ?_) rfl (by kernel_rfl) (by kernel_rfl) (by kernel_rfl) (fun _ _ _ h => h) (Or.inl ⟨by rfl, ?hyy⟩) (by assumption) ?_
              case hyy => (intro w hSw; (try dsimp only at hSw); go_simp; all_goals (with_reducible rfl))
              try simp only [List.getElem_toArray, List.getElem_cons_zero, List.getElem_cons_succ, Act.put, List.setIfInBounds_toArray, List.set_cons_zero, List.set_cons_succ]
              refine wpAnyH_take (i := 5) (v := ?_) rfl (by kernel_rfl) (by kernel_rfl) (by kernel_rfl) (fun _ _ _ h => h) (Or.inl ⟨by rfl, ?hyy⟩) (by assumption) ?_
              case hyy => (intro w hSw; (try dsimp only at hSw); have z0 := (hSw.cell hDl).trans hDc; go_simp; all_goals (with_reducible rfl))
              try simp only [List.getElem_toArray, List.getElem_cons_zero, List.getElem_cons_succ, Act.put, List.setIfInBounds_toArray, List.set_cons_zero, List.set_cons_succ]
              refine wpAnyH_take (i := 6) (v := ?_) rfl (by kernel_rfl) (by kernel_rfl) (by kernel_rfl) (fun _ _ _ h => h) (Or.inl ⟨by rfl, ?hyy⟩) (by assumption) ?_
              case hyy => (intro w hSw; (try dsimp only at hSw); have z0 := (HRC1.out.below hSw).look2 qb; rw [ho] at z0; simp only [Option.map_none, Option.map_some, Option.getD_none, Option.getD_some, Option.isSome_none, Option.isSome_some, stv] at z0; go_simp; all_goals (with_reducible rfl))
              try simp only [List.getElem_toArray, List.getElem_cons_zero, List.getElem_cons_succ, Act.put, List.setIfInBounds_toArray, List.set_cons_zero, List.set_cons_succ]
              refine wpAnyH_take (i := 7) (v := ?_) rfl (by kernel_rfl) (by kernel_rfl) (by kernel_rfl) (fun _ _ _ h => h) (Or.inl ⟨by rfl, ?hyy⟩) (by assumption) ?_
              case hyy => (intro w hSw; (try dsimp only at hSw); go_simp; all_goals (with_reducible rfl))
              try simp only [List.getElem_toArray, List.getElem_cons_zero, List.getElem_cons_succ, Act.put, List.setIfInBounds_toArray, List.set_cons_zero, List.set_cons_succ]
              refine wpAnyH_take (i := 8) (v := ?_) rfl (by kernel_rfl) (by kernel_rfl) (by kernel_rfl) (fun _ _ _ h => h) (Or.inl ⟨by rfl, ?hyy⟩) (by assumption) ?_
              case hyy => (intro w hSw; (try dsimp only at hSw); go_simp; all_goals (with_reducible rfl))
              try simp only [List.getElem_toArray, List.getElem_cons_zero, List.getElem_cons_succ, Act.put, List.setIfInBounds_toArray, List.set_cons_zero, List.set_cons_succ]
              refine wpAnyH_take (i := 9) (v := ?_) rfl (by kernel_rfl) (by kernel_rfl) (by kernel_rfl) (fun _ _ _ h => h) (Or.inl ⟨by rfl, ?hyy⟩) (by assumption) ?_
              case hyy => (intro w hSw; (try dsimp only at hSw); go_simp; all_goals (with_reducible rfl))
              try simp only [List.getElem_toArray, List.getElem_cons_zero, List.getElem_cons_succ, Act.put, List.setIfInBounds_toArray, List.set_cons_zero, List.set_cons_succ]
              refine wpAnyH_ready (rs := [10]) (by kernel_rfl) (by simp) ?_
              refine AllReadyH.cons rfl (fun K hK => ?_) AllReadyH.nil
              go_simp
              have hS1 : Below W1.heap.size W1 (W1.alloc (.cells #[.int .i64 0, .int .i64 0] 111)) := hS0.alloc hS0.size _
              refine hK.out _ _ hS1 (fun hHn => ?_)
              clear hK K hHn 
              try simp only [List.getElem_toArray, List.getElem_cons_zero, List.getElem_cons_succ, Act.put, List.setIfInBounds_toArray, List.set_cons_zero, List.set_cons_succ]
              refine wpAnyH_ready (rs := [11]) (by kernel_rfl) (by simp) ?_
              refine AllReadyH.cons rfl (fun K hK => ?_) AllReadyH.nil
              go_simp
              have hS2 : Below W1.heap.size W1 (W1.alloc (.cells #[.int .i64 oa, .int .i64 ob] 111)) := hS0.alloc hS0.size _
              refine hK.out _ _ hS2 (fun hHn => ?_)
              clear hK K hHn hS1
              try simp only [List.getElem_toArray, List.getElem_cons_zero, List.getElem_cons_succ, Act.put, List.setIfInBounds_toArray, List.set_cons_zero, List.set_cons_succ]
              refine wpAnyH_take (i := 12) (v := ?_) rfl (by kernel_rfl) (by kernel_rfl) (by kernel_rfl) (fun _ _ _ h => h) (Or.inl ⟨by rfl, ?hyy⟩) (by assumption) ?_
              case hyy => (intro w hSw; (try dsimp only at hSw); go_simp; all_goals (with_reducible rfl))
              try simp only [List.getElem_toArray, List.getElem_cons_zero, List.getElem_cons_succ, Act.put, List.setIfInBounds_toArray, List.set_cons_zero, List.set_cons_succ]
              refine wpAnyH_done (by kernel_rfl) ?_ _
              go_upto_region 13 with fail
              obtain ⟨w7, hw7⟩ : ∃ w7, w7 = W1.alloc (.cells #[.int .i64 oa, .int .i64 ob] 111) := ⟨_, rfl⟩
              have HB7 := Lib.hid (show Below w6.heap.size w6 w7 by rw [hw7]; exact HW6.out.trans (hS2.mono HW6.out.size))
              have HD7 := Lib.hid (show w7.cell? ⟨Bl, 0, none⟩ = some (.int .i64 qa) ∧ w7.cell? ⟨Bl, 1, none⟩ = some (.int .i64 qb) ∧ w7.cell? ⟨Bl, 2, none⟩ = some (.int .i64 qm) ∧ Bl < w7.heap.size from ⟨(HB7.out.cell HD6.out.2.2.2).trans HD6.out.1, (HB7.out.cell HD6.out.2.2.2).trans HD6.out.2.1, (HB7.out.cell HD6.out.2.2.2).trans HD6.out.2.2.1, Nat.lt_of_lt_of_le HD6.out.2.2.2 HB7.out.size⟩)
              have HP7 := Lib.hid (show w7.cell? ⟨Bp, 0, none⟩ = some (.int .i64 pa) ∧ w7.cell? ⟨Bp, 1, none⟩ = some (.int .i64 pb) ∧ Bp < w7.heap.size from ⟨(HB7.out.cell HP6.out.2.2).trans HP6.out.1, (HB7.out.cell HP6.out.2.2).trans HP6.out.2.1, Nat.lt_of_lt_of_le HP6.out.2.2 HB7.out.size⟩)
              have HC7 := Lib.hid (HC6.out.step HB7.out)
              have HRC7 := Lib.hid (HRC6.out.below HB7.out)
              obtain ⟨Bo, hBo⟩ : ∃ Bo, W1.heap.size = Bo := ⟨_, rfl⟩
              have HO7 := Lib.hid (show w7.cell? ⟨Bo, 0, none⟩ = some (.int .i64 oa) by
                have hh : w7.heap[Bo]? = some (.cells #[.int .i64 oa, .int .i64 ob] 111 (0, 0)) := by rw [hw7, ← hBo]; exact heap_alloc_new W1 _
                unfold World.cell?; simp [hh])
              rw [hBo, ← hw7]
              clear cR cM lR hDl hDc hS0 hS2 hBo hw7
              have o0 := HO7.out
              by_cases hlt2 : S < oa
              · rw [if_pos hlt2] at HUP
                have t7 : decide (S < oa) = true := decide_eq_true hlt2
                obtain ⟨d0, d1, d2, dl⟩ := HD7.out
                obtain ⟨p0, p1, pl⟩ := HP7.out
                have cM := HC7.out.maps.cell k M HCUR.out
                have lR := HC7.out.maps.lt
                go_upto_region 14 with fail
                go_still_tail 13, (by kernel_rfl)
                refine row_store rfl _ _ _ (.inl rfl) qb (S, (i : Int)) rfl rfl rfl (RowM.below HRC7.out (show Below w7.heap.size w7 w7.drew from (Below.refl _ _).drew)) ?_
                intro w9 hr9 hg9
                have HR9 := Lib.hid hr9
                have HC9 := Lib.hid ((HC7.out.step (show Below w7.heap.size w7 w7.drew from (Below.refl _ _).drew)).up HCUR.out hr9 hg9)
                clear hr9 hg9
                dsimp only [Act.put]
                go_wp2_with fail
                go_roundw
                case rel => exact ⟨i + 1, by omega, by go_num, Lib.hid (HC9.out.congr fun j hj => by
                  by_cases e : j = k
                  · subst e; simp only [if_pos]; exact HUP.out.symm
                  · simp only [if_neg e])⟩
                case measure => simp [intOf]; omega
              · rw [if_neg hlt2] at HUP
                have t7 : decide (S < oa) = false := decide_eq_false hlt2
                obtain ⟨d0, d1, d2, dl⟩ := HD7.out
                obtain ⟨p0, p1, pl⟩ := HP7.out
                go_wp2_with fail
                go_roundw
                case rel => exact ⟨i + 1, by omega, by go_num, Lib.hid (HC7.out.congr fun j hj => by
                  by_cases e : j = k
                  · subst e; simp only [if_pos]; exact HUP.out.symm
                  · simp only [if_neg e])⟩
                case measure => simp [intOf]; omega
        · obtain rfl : i = l.length := by omega
          have t5 : decide ((l.length : Int) < (l.length : Int)) = false := decide_eq_false (by omega)
          go_wp2
          go_roundw
          case rel => exact ⟨k + 1, bs2, by omega, by omega, by go_num, HLB2, Lib.hid (HCI.out.congr fun j hj => by
            have := HLB2.out
            by_cases e : j = k
            · subst e
              rw [if_pos rfl, HK.out]
              rfl
            · rw [if_neg e])⟩
          case measure => simp [intOf]; omega
    · obtain rfl : k = many + 1 := by omega
      have t4 : decide ((many : Int) + 1 ≤ (many : Int)) = false := decide_eq_false (by omega)
      obtain ⟨bm, hbm⟩ : ∃ bm, bs[many]? = some bm := ⟨bs[many]'(by rw [HLB.out]; omega), List.getElem?_eq_getElem _⟩
      have cM := HC.out.maps.cell many bm hbm
      have lR := HC.out.maps.lt
      have HRM := Lib.hid (HC.out.rows many bm hbm)
      have z0 := HRM.out.look2 at_
      have m0 : (0 : Int) ≤ (many : Int) := by omega
      have m1 : (many : Int) < (many : Int) + 1 := by omega
      have HCP := Lib.hid (show closedP l at_ many = (match rowF l at_ many at_ with | none => none | some e => if 0 ≤ e.1 then none else some (backF l at_ many at_ [])) from rfl)
      cases hr : rowF l at_ many at_ with
      | none =>
        rw [hr] at z0 HCP
        simp only [Option.map_none, Option.getD_none, Option.isSome_none] at z0 HCP
        clear hk1 hk2 hlt HLB hbm
        go_wp2
        go_ret
        exact ⟨by rw [HCP.out]; rfl, below_trans HC.out.below bel⟩
      | some p =>
        rw [hr] at z0 HCP
        simp only [Option.map_some, Option.getD_some, Option.isSome_some, stv] at z0 HCP
        obtain ⟨pa, pb⟩ := p
        simp only at z0 HCP
        have HLB2 := HLB
        clear hk1 hk2 hlt HLB hbm
        by_cases hpa : 0 ≤ pa
        · have t6 : decide (0 ≤ pa) = true := decide_eq_true hpa
          rw [if_pos hpa] at HCP
          go_wp2
          go_ret
          exact ⟨by rw [HCP.out]; rfl, below_trans HC.out.below bel⟩
        · have t6 : decide (0 ≤ pa) = false := decide_eq_false hpa
          rw [if_neg hpa] at HCP
          have hmk2 := mkInts many (by omega)
          obtain ⟨P, hP⟩ : ∃ P, backF l at_ many at_ [] = P := ⟨_, rfl⟩
          rw [hP] at HCP
          have HPB := Lib.hid hP
          have HRS := Lib.hid (show (rowF l at_ many at_).isSome = true by rw [hr]; rfl)
          clear hP hr
          go_upto_region 20 with fail
          obtain ⟨w8, hw8⟩ : ∃ w8, w8 = wr.alloc (.cells #[.int .i64 pa, .int .i64 pb] 111) := ⟨_, rfl⟩
          have HB8 := Lib.hid (show Below wr.heap.size wr w8 by rw [hw8]; exact bel)
          rw [← hw8]
          have hG : wr.heap.size + 1 = w8.heap.size := by rw [hw8]; simp
          rw [hG]
          clear hw8
          obtain ⟨w9, hw9⟩ : ∃ w9, w9 = w8.alloc (.cells (madeCells #[.int .i64 0] many) 3) := ⟨_, rfl⟩
          have HC9 := Lib.hid (show ClsR w w9 (.agg #[.int .i64 n, .slice A l.length c]) (w.heap.size + 1) (many + 1) bs (rowF l at_) by rw [hw9]; exact (HC.out.step HB8.out).step bel)
          have HG9 := Lib.hid (show RowI w9 w8.heap.size (List.replicate many 0) by rw [hw9]; exact RowI_made w8 many)
          rw [← hw9]
          clear hw9
          have HGG := Lib.hid (show w.heap.size < w8.heap.size ∧ w8.heap.size ≠ w.heap.size + 1 ∧ ∀ b ∈ bs, b ≠ w8.heap.size by
            have h1 := HB8.out.size
            have h2 := HC.out.below.size
            refine ⟨by omega, by omega, fun b hb => ?_⟩
            obtain ⟨j, hj⟩ := List.getElem?_of_mem hb
            have := (HC.out.rows j b hj).lt
            omega)
          have HBL := Lib.hid (show ∀ j : Nat, j ≤ many → ∃ b, bs[j]? = some b from fun j hj => ⟨bs[j]'(by rw [HLB2.out]; omega), List.getElem?_eq_getElem _⟩)
          obtain ⟨G, hGe⟩ : ∃ G, w8.heap.size = G := ⟨_, rfl⟩
          rw [hGe] at HGG HG9
          rw [hGe]
          clear hG hGe HB8 HC cM lR m0 m1 HRM z0
          go_wp2
          go_loopw [18, 19] (fun kk vv wx => ∃ (j : Nat) (v : Int) (acc : List Int), j ≤ many ∧ kk = .int .i64 (j : Int) ∧ vv = .int .i64 v ∧ Hid (acc.length + j = many) ∧ Hid (backF l at_ j v acc = P) ∧ Hid ((rowF l at_ j v).isSome = true) ∧ Hid (ClsR w wx (.agg #[.int .i64 n, .slice A l.length c]) (w.heap.size + 1) (many + 1) bs (rowF l at_)) ∧ Hid (RowI wx G (List.replicate j 0 ++ acc))) (fun kk _ _ => (intOf kk).toNat)
          case atStart => exact ⟨many, at_, [], by omega, rfl, rfl, Lib.hid (by simp), HPB, HRS, HC9, Lib.hid (by simpa using HG9.out)⟩
          case round =>
            obtain ⟨j, v, acc, hj, rfl, rfl, HLA, HBF, HSO, HCX, HRG⟩ := hrel
            by_cases hj0 : 0 < j
            · obtain ⟨j1, rfl⟩ : ∃ j1, j = j1 + 1 := ⟨j - 1, by omega⟩
              obtain ⟨bj, hbj⟩ := HBL.out (j1 + 1) hj
              obtain ⟨q, hq⟩ := Option.isSome_iff_exists.1 HSO.out
              obtain ⟨jj, r1, r2, r3⟩ := row_link l (rowF l at_ j1) l.length v q hq
              obtain ⟨J, hJ⟩ : ∃ J, j1 + 1 = J := ⟨_, rfl⟩
              have HJ := Lib.hid hJ
              have HNX := Lib.hid (show backF l at_ j1 (gl l (jj : Int)).a ((jj : Int) :: acc) = P by
                have e : linkAt l at_ (j1 + 1) v = (jj : Int) := by unfold linkAt; rw [hq]; exact r2
                have h := HBF.out
                rw [show backF l at_ (j1 + 1) v acc = backF l at_ j1 (gl l (linkAt l at_ (j1 + 1) v)).a (linkAt l at_ (j1 + 1) v :: acc) from rfl, e] at h
                exact h)
              have HR3 := Lib.hid r3
              have z0 := (HCX.out.rows (j1 + 1) bj hbj).look v
              rw [hq] at z0
              obtain ⟨qa, qb⟩ := q
              simp only at r2
              subst r2
              simp only [Option.map_some, Option.getD_some, stv] at z0
              have cM := HCX.out.maps.cell (j1 + 1) bj hbj
              have lR := HCX.out.maps.lt
              have HLL := Lib.hid (show j1 < (List.replicate (j1 + 1) 0 ++ acc).length by simp; omega)
              have cG := HRG.out.cell j1 HLL.out
              have fG := HRG.out.frozen j1
              have lG := HRG.out.lt
              rw [hJ] at cM ⊢
              have e50 : ((J : Int) - 1) = (j1 : Int) := by omega
              have e51 : IntKind.i64.wrap ((J : Int) - 1) = (j1 : Int) := by rw [IntKind.wrap_i64]; omega
              have a0 : (0 : Int) ≤ (J : Int) := by omega
              have a1 : (J : Int) < (many : Int) + 1 := by omega
              have a2 : (0 : Int) ≤ (j1 : Int) := by omega
              have a3 : (j1 : Int) < (many : Int) := by omega
              have a4 : (j1 : Int) < (many : Int) + 1 := by omega
              have t9 : decide ((0 : Int) < (J : Int)) = true := decide_eq_true (by omega)
              have hfd : ∀ W : World, (Instr.field 111 (.agg #[.int .i64 qa, .int .i64 (jj : Int)]) 1).run Try.prog W = .ok (.int .i64 (jj : Int)) W := fun W => by kernel_rfl
              clear r3 hq hbj hJ
              go_upto_region 24 with fail
              obtain ⟨w10, hw10⟩ : ∃ w10, w10 = wr.setCell ⟨G, j1, none⟩ (.int .i64 (jj : Int)) := ⟨_, rfl⟩
              have HC10 := Lib.hid (show ClsR w w10 (.agg #[.int .i64 n, .slice A l.length c]) (w.heap.size + 1) (many + 1) bs (rowF l at_) by rw [hw10]; exact HCX.out.other HGG.out.1 HGG.out.2.1 HGG.out.2.2 _ _)
              have HR10 := Lib.hid (show RowI w10 G (List.replicate j1 0 ++ ((jj : Int) :: acc)) by
                have h := HRG.out.set j1 (jj : Int)
                rw [show (List.replicate (j1 + 1) (0 : Int) ++ acc).set j1 (jj : Int) = List.replicate j1 0 ++ ((jj : Int) :: acc) by rw [List.replicate_succ', List.append_assoc, List.set_append_right _ _ (by simp)]; simp] at h
                rw [hw10]
                exact h)
              rw [← hw10]
              clear hw10 cM lR cG fG lG z0
              have cG := HR10.out.cell j1 (by simp)
              have lG := HR10.out.lt
              rw [show gi (List.replicate j1 0 ++ ((jj : Int) :: acc)) (j1 : Int) = (jj : Int) by simp [gi, List.getD_eq_getElem?_getD, List.getElem?_append]] at cG
              obtain ⟨nx, ny, hne, hbx⟩ := HC10.out.box
              cases hne
              have b1 : w10.cell? ⟨w.heap.size, 1, none⟩ = some (.slice A l.length c) := by unfold World.cell?; simp [hbx]
              have bl := (Array.getElem?_eq_some_iff.1 hbx).1
              obtain ⟨b, o, rfl, g1, g2, g3⟩ := (HL.out.below HC10.out.below).nat jj r1
              have hlb := World.block_lt_of_cell? _ _ g1
              dsimp only at hlb
              obtain ⟨la, hla⟩ : ∃ la, (gl l (jj : Int)).a = la := ⟨_, rfl⟩
              rw [hla] at g1
              have HLA2 := Lib.hid hla
              have j0 : (0 : Int) ≤ (jj : Int) := by omega
              have j3 : (jj : Int) < (l.length : Int) := by omega
              have j4 : (jj : Int) < (l.length : Int) + 1 := by omega
              clear hbx hla g2 g3
              go_quiet (fail)
              go_wp2
              go_roundw
              case rel => exact ⟨j1, la, (jj : Int) :: acc, by omega, by first | rfl | (congr 1), rfl, Lib.hid (by have := HLA.out; simp; omega), Lib.hid (by rw [← HLA2.out]; exact HNX.out), Lib.hid (by rw [← HLA2.out]; exact HR3.out), HC10.out.step (below_drews (Below.refl _ _) nq) |> Lib.hid, Lib.hid (HR10.out.drews _)⟩
              case measure => have := HJ.out; simp [intOf]; omega
            · obtain rfl : j = 0 := by omega
              have t9 : decide ((0 : Int) < ((0 : Nat) : Int)) = false := by decide
              have HPE := Lib.hid (show acc = P from HBF.out)
              go_wp2
              go_ret
              exact ⟨by
                rw [HCP.out]
                refine ⟨G, rfl, by have := HGG.out.1; omega, ?_, ?_⟩
                · rw [← HPE.out]; have := HLA.out; omega
                · rw [← HPE.out]; simpa using HRG.out, HCX.out.below⟩
end Go.Proofs.Ytmhiiomejopaoaa
