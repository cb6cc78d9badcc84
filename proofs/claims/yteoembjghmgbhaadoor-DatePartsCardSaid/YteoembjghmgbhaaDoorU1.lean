/- The date walks: Gaps; the reference's Valids. -/
import Derived.Test.YteoembjghmgbhaaDoorP3
import Derived.Test.YteoembjghmgbhaaDoorF2
import Derived.Test.YteoembjghmgbhaaDoorR5
namespace Go.Proofs.YteoembjghmgbhaaDoor
set_option linter.all false
open Go.RowKit

def gapsE (s : Sp) (l : List Sp) : Int := if spansE l = 0 then (if spanB s then 0 else 1) else spansE l
theorem spansE_zero {l : List Sp} (he : spansE l = 0) : l.length ≤ 60 ∧ ∀ x ∈ l, spanB x = true := by
  unfold spansE at he
  split at he
  · omega
  · split at he
    · omega
    · rename_i h60 hany
      refine ⟨by omega, fun x hx => ?_⟩
      have h5 := List.any_eq_false.1 (Bool.eq_false_iff.2 hany) x hx
      simpa using h5
set_option maxRecDepth 100000 in
set_option maxHeartbeats 1000000 in
theorem Gaps_any (s : Sp) (A : Option Addr) (c : Nat) (l : List Sp) (w : World) (hl : l.length ≤ 1000000) (hnil : A = none → l.length = 0 ∧ c = 0) (h : SpsAt w A l) :
    Calls Tryd.prog 49 #[spv s, .slice A l.length c] w fun e w' => ∃ L v, e = .returned (.tuple #[v, .int .i64 (gapsE s l)]) ∧ w'.ownsRow w.heap.size 37 2 v L.length (spcs L) ∧ Below w.heap.size w w' ∧ (gapsE s l ≠ 0 → L = []) ∧ (gapsE s l = 0 → L = rgapsL s l) := by
  have HS := Lib.hid (fun W (hW : Below w.heap.size w W) => spans_any A c l W hl (h.below hW))
  have HI := Lib.hid (fun W => isSpan_b s W)
  by_cases he : spansE l = 0
  · have h2 := spansE_zero he
    have HU := Lib.hid (fun W (hW : Below w.heap.size w W) => united_any A c l W (by omega) hnil (h.below hW) h2.2)
    have HG := Lib.hid (show gapsE s l = if spanB s then 0 else 1 by unfold gapsE; rw [if_pos he])
    rw [he] at HS
    cases hs : spanB s
    · rw [hs] at HG HI
      rw [show gapsE s l = 1 by rw [HG.out]; rfl]
      obtain ⟨a, b⟩ := s
      unfold spv at *
      simp only at *
      clear h hnil he h2 HU hs HG
      go_enter Tryd.func49, Tryd.ntmps49
      go_wp2_with (first | (go_at_call 74; refine (HS.out _ bel).mono ?_; rintro e w1 ⟨rfl, hb⟩; have HB1 := Lib.hid (below_trans (bel : Below w.heap.size w (w.alloc _)) hb); obtain ⟨q0, q1, _, _, lq⟩ := cells2 (lnew hb); clear hb HS) | (go_at_call 71; refine (HI.out _).mono ?_; rintro e w2 ⟨rfl, hb⟩; have HB2 := Lib.hid (below_trans HB1.out hb); clear hb HI))
      go_ret2
      exact ⟨[], _, rfl, World.ownsRow_nil _ _ _ _, HB2.out, fun _ => rfl, fun h0 => by cases h0⟩
    · rw [hs] at HG HI
      rw [show gapsE s l = 0 by rw [HG.out]; rfl]
      have hsb : 0 ≤ s.lo ∧ s.lo ≤ s.hi ∧ s.hi ≤ 60000 := by simpa [spanB] using hs
      have HR := Lib.hid (fun (l' : List Sp) (hp : l'.Perm l) (ha : Asc l') => rest_rgaps s l l' hs h2.2 hp ha)
      have HT := Lib.hid (fun (l' : List Sp) (hp : l'.Perm l) (ha : Asc l') => unite_runion l l' h2.2 hp ha)
      have HRE := Lib.hid (fun B d (m : List Sp) W (hm : m.length ≤ 1000) (hg : Good m) (hS : SpsAt W B m) => rest_any s B d m W ⟨hsb.1, by omega, by omega, hsb.2.2⟩ hm hS (fun x hx => ⟨⟨by have := hg x hx; omega, (hg x hx).2.2⟩, (hg x hx).1, by have := hg x hx; omega⟩))
      have HL := Lib.hid h2.1
      obtain ⟨a, b⟩ := s
      unfold spv at *
      simp only at *
      clear h hnil he h2 hs HG hsb
      go_enter Tryd.func49, Tryd.ntmps49
      go_upto_region 6 with (first | (go_at_call 74; refine (HS.out _ bel).mono ?_; rintro e w1 ⟨rfl, hb⟩; have HB1 := Lib.hid (below_trans (bel : Below w.heap.size w (w.alloc _)) hb); have HX1 := Lib.hid (lnew hb); obtain ⟨q0, q1, _, _, lq⟩ := cells2 HX1.out; clear hb HS) | (go_at_call 71; refine (HI.out _).mono ?_; rintro e w2 ⟨rfl, hb⟩; have HB2 := Lib.hid (below_trans HB1.out hb); have HX2 := Lib.hid (lift0 hb HX1.out); clear hb HI))
      obtain ⟨c0, c1, _, _, lc⟩ := cells2 HX2.out
      have HB2d := Lib.hid (HB2.out.drew)
      go_region_held3 (fun w' => w'.cell? ⟨w.heap.size, 0, none⟩ = some (.int .i64 a) ∧ w'.cell? ⟨w.heap.size, 1, none⟩ = some (.int .i64 b)) (first | exact ⟨c0, c1⟩ | exact ⟨d0, d1⟩ | exact ⟨k0, k1⟩) (first | (go_at_call 75; refine (HU.out _ HB2d.out).mono ?_; rintro e w3 ⟨l', v, hp, hs, rfl, ho, hb⟩; obtain ⟨A1, cc1, rfl, -⟩ := own_slice ho; have HB3 := Lib.hid (below_trans HB2d.out hb); have HSP := Lib.hid (own_sps ho); have HPS := Lib.hid (And.intro hp hs); have d0 := (hb.cell lc).trans c0; have d1 := (hb.cell lc).trans c1; have ld := Nat.lt_of_lt_of_le lc hb.size; clear hb ho hp hs) | (go_at_call 76; refine (HRE.out _ _ _ _ (by have := (HT.out l' HPS.out.1 HPS.out.2).2.2.2.2; have := HL.out; omega) (HT.out l' HPS.out.1 HPS.out.2).2.2.2.1 HSP.out).mono ?_; rintro e w4 ⟨v4, rfl, ho, hb⟩; have HB4 := Lib.hid (below_trans HB3.out hb); have HO4 := Lib.hid (own_base ho HB3.out.size); have k0 := (hb.cell ld).trans d0; have k1 := (hb.cell ld).trans d1; clear hb ho))
      all_goals
        go_wp2
        go_ret2
        exact ⟨_, _, rfl, HO4.out, HB4.out, fun h0 => absurd rfl h0, fun _ => HR.out l' HPS.out.1 HPS.out.2⟩
  · have HG := Lib.hid (show gapsE s l = spansE l by unfold gapsE; rw [if_neg he])
    rw [HG.out]
    obtain ⟨q, hq⟩ : ∃ q, spansE l = q := ⟨_, rfl⟩
    rw [hq] at HS he ⊢
    have t : (q != 0) = true := by simpa using he
    have HE := Lib.hid he
    obtain ⟨a, b⟩ := s
    unfold spv at *
    simp only at *
    clear h hnil hq he HG
    go_enter Tryd.func49, Tryd.ntmps49
    go_wp2_with (first | (go_at_call 74; refine (HS.out _ bel).mono ?_; rintro e w1 ⟨rfl, hb⟩; have HB1 := Lib.hid (below_trans (bel : Below w.heap.size w (w.alloc _)) hb); obtain ⟨q0, q1, _, _, lq⟩ := cells2 (lnew hb); clear hb HS))
    go_ret2
    exact ⟨[], _, rfl, World.ownsRow_nil _ _ _ _, HB1.out, fun _ => rfl, fun h0 => absurd h0 HE.out⟩
set_option maxRecDepth 100000 in
set_option maxHeartbeats 1000000 in
theorem rValids_any (A : Option Addr) (c : Nat) (l : List Sp) (w : World) (hl : l.length ≤ 1000000) (h : SpsAt w A l) :
    Calls Tryd.prog 50 #[.slice A l.length c] w fun e w' => e = .returned (.bool (!(l.any fun s => !spanB s))) ∧ Below w.heap.size w w' := by
  have H := Lib.hid h
  clear h
  go_enter Tryd.func50, Tryd.ntmps50
  go_wp2
  go_loopw [3] (fun i wr => ∃ k : Nat, k ≤ l.length ∧ i = .int .i64 k ∧ Hid (∀ j : Nat, j < k → (!spanB (gs l j)) = false) ∧ Below w.heap.size w wr) (fun i _ => l.length - (intOf i).toNat)
  case atStart => exact ⟨0, by omega, rfl, Lib.hid (by simp), Below.refl _ _⟩
  case round =>
    obtain ⟨k, hk, rfl, hbad, hB⟩ := hrel
    by_cases hlt : k < l.length
    · obtain ⟨b, o, rfl, g1, g2⟩ := (H.out.below hB).nat k hlt
      cases hp : spanB (gs l (k : Int))
      all_goals
        have Hp := Lib.hid hp
        have HC := Lib.hid (fun W => rValid_any (gs l (k : Int)) W)
        rw [hp] at HC
        unfold spv at HC
        clear hp
        go_wp2_with (go_at_call 35; refine (HC.out _).mono ?_; rintro e w1 ⟨rfl, hb⟩; have HB1 := Lib.hid (hB.trans (hb.mono hB.size)); clear hb)
      · go_ret
        exact ⟨by rw [any_gs_true (f := fun s => !spanB s) hlt (by rw [Hp.out]; rfl)]; rfl, HB1.out⟩
      · go_roundw
        case rel =>
          refine ⟨k + 1, by omega, by go_num, Lib.hid fun j hj => ?_, HB1.out⟩
          rcases Nat.lt_succ_iff_lt_or_eq.1 hj with h | rfl
          · exact hbad.out j h
          · rw [Hp.out]; rfl
        case measure => simp [intOf]; omega
    · go_wp2
      go_ret
      obtain rfl : k = l.length := by omega
      exact ⟨by rw [any_gs_false hbad.out]; rfl, hB⟩
end Go.Proofs.YteoembjghmgbhaaDoor
