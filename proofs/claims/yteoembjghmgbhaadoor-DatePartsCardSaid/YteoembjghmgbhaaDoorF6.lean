/- The reference's walks: Union. -/
import Derived.Test.YteoembjghmgbhaaDoorF5
namespace Go.Proofs.YteoembjghmgbhaaDoor
set_option linter.all false
open Go.RowKit

/-- The segments between edges that are asked for, put together. -/
def segN (ok : Int → Bool) (e : List Int) : Nat → List Sp
  | 0 => []
  | k + 1 => if ok (gi e k) then putL (segN ok e k) ⟨gi e k, gi e (k + 1 : Nat) - 1⟩ else segN ok e k
theorem edgesF_bd (l : List Sp) : ∀ (f : Nat) (last : Int), -1 ≤ last → last < 60002 → (edgesF l f last).length ≤ f ∧ ∀ x ∈ edgesF l f last, last < x ∧ x < 60002
  | 0, _, _, _ => by simp [edgesF]
  | f + 1, last, h0, h => by
    obtain ⟨h3, h4⟩ := nextE_bd l last h
    unfold edgesF
    split
    · simp
    · rename_i hne
      obtain ⟨h5, h6⟩ := edgesF_bd l f (nextE l last) (by omega) (by omega)
      refine ⟨by simpa using h5, fun x hx => ?_⟩
      rcases List.mem_cons.1 hx with rfl | hx
      · omega
      · have := h6 x hx; omega
theorem edgesE_bd (l : List Sp) : (edgesE l (-1)).length ≤ 60003 ∧ ∀ x ∈ edgesE l (-1), 0 ≤ x ∧ x ≤ 60001 := by
  obtain ⟨h1, h2⟩ := edgesF_bd l (60002 - (-1 : Int)).toNat (-1) (by omega) (by omega)
  refine ⟨by unfold edgesE; omega, fun x hx => ?_⟩
  have := h2 x hx
  omega
theorem gi_mem {l : List Int} {i : Nat} (h : i < l.length) : gi l i ∈ l := by simp [gi, List.getD_eq_getElem?_getD, h]
theorem putL_bd (l : List Sp) (s : Sp) (h : ∀ x ∈ l, -1000000 ≤ x.hi ∧ x.hi ≤ 1000000) (hs : -1000000 ≤ s.hi ∧ s.hi ≤ 1000000) : (putL l s).length ≤ l.length + 1 ∧ ∀ x ∈ putL l s, -1000000 ≤ x.hi ∧ x.hi ≤ 1000000 := by
  unfold putL
  split
  · refine ⟨by first | (simp; done) | (simp; omega), fun x hx => ?_⟩
    rcases List.mem_append.1 hx with h1 | h1
    · exact h x (List.mem_of_mem_take h1)
    · simp at h1; subst h1; exact hs
  · refine ⟨by simp, fun x hx => ?_⟩
    rcases List.mem_append.1 hx with h1 | h1
    · exact h x h1
    · simp at h1; subst h1; exact hs
theorem segN_bd (ok : Int → Bool) (e : List Int) (he : ∀ x ∈ e, 0 ≤ x ∧ x ≤ 60001) : ∀ k, k < e.length → (segN ok e k).length ≤ k ∧ ∀ x ∈ segN ok e k, -1000000 ≤ x.hi ∧ x.hi ≤ 1000000
  | 0, _ => by simp [segN]
  | k + 1, h => by
    obtain ⟨h1, h2⟩ := segN_bd ok e he k (by omega)
    have h3 := he _ (gi_mem (l := e) (i := k + 1) h)
    unfold segN
    split
    · obtain ⟨h4, h5⟩ := putL_bd (segN ok e k) ⟨gi e k, gi e (k + 1 : Nat) - 1⟩ h2 (by simp only; omega)
      exact ⟨by omega, h5⟩
    · exact ⟨by omega, h2⟩
set_option maxRecDepth 100000 in
set_option maxHeartbeats 1000000 in
theorem rUnion_any (A : Option Addr) (c : Nat) (l : List Sp) (w : World) (hl : l.length ≤ 1000) (h : SpsAt w A l) (hb : ∀ x ∈ l, (0 ≤ x.lo ∧ x.lo ≤ 60000) ∧ 0 ≤ x.hi ∧ x.hi ≤ 60000) :
    Calls Tryd.prog 51 #[.slice A l.length c] w fun e w' => ∃ v, e = .returned v ∧ w'.ownsRow w.heap.size 37 2 v (segN (hasB l) (edgesE l (-1)) ((edgesE l (-1)).length - 1)).length (spcs (segN (hasB l) (edgesE l (-1)) ((edgesE l (-1)).length - 1))) ∧ Below w.heap.size w w' := by
  have HS := Lib.hid h
  have HED := Lib.hid (fun W (hW : Below w.heap.size w W) => rEdges_any A c l W hl (h.below hW) hb)
  have HH := Lib.hid (fun d W (hW : Below w.heap.size w W) => rHas_any A c l d W (by omega) (h.below hW))
  have HB1 := Lib.hid (edgesE_bd l)
  have HLL := Lib.hid hl
  generalize edgesE l (-1) = E at *
  have HSB := Lib.hid (segN_bd (hasB l) E HB1.out.2)
  clear h hb
  go_enter Tryd.func51, Tryd.ntmps51
  go_upto_region 4 with (go_at_call 77; refine (HED.out _ (Below.refl _ _)).mono ?_; rintro e w1 ⟨v, rfl, ho, hb⟩; obtain ⟨A1, c1, rfl, -⟩ := own_slice ho; have HW1 := Lib.hid hb; have HI1 := Lib.hid (own_ints ho); clear ho hb HED)
  have HST := Lib.hid (show ∀ k, segN (hasB l) E (k + 1) = if hasB l (gi E k) then putL (segN (hasB l) E k) ⟨gi E k, gi E (k + 1 : Nat) - 1⟩ else segN (hasB l) E k from fun _ => rfl)
  have hEl : E.length ≤ 60003 := HB1.out.1
  go_loopw [4, 5] (fun o i wr => ∃ k : Nat, (k + 1 ≤ E.length ∨ k = 0) ∧ i = .int .i64 k ∧ Hid (wr.ownsRow w1.heap.size 37 2 o (segN (hasB l) E k).length (spcs (segN (hasB l) E k))) ∧ Hid (Below w1.heap.size w1 wr)) (fun _ i _ => E.length - (intOf i).toNat)
  case atStart => exact ⟨0, .inr rfl, rfl, Lib.hid (World.ownsRow_nil _ _ _ _), Lib.hid (Below.refl _ _)⟩
  case round =>
    obtain ⟨k, hk, rfl, HO, HBk⟩ := hrel
    by_cases hlt : k + 1 < E.length
    · obtain ⟨b, o, rfl, g1⟩ := (HI1.out.below HBk.out).nat k (by omega)
      obtain ⟨b2, o2, e2, g2⟩ := (HI1.out.below HBk.out).nat (k + 1) hlt
      injection e2 with e2
      injection e2 with e3 e4
      subst e3 e4
      have l1 := World.block_lt_of_cell? _ _ g1
      have l2 := World.block_lt_of_cell? _ _ g2
      have hst := HST.out k
      obtain ⟨hs1, hs2⟩ := HSB.out k (by omega)
      have ha := HB1.out.2 _ (gi_mem (l := E) (i := k) (by omega))
      have hc := HB1.out.2 _ (gi_mem (l := E) (i := k + 1) hlt)
      have HHk := Lib.hid (HH.out (gi E k))
      generalize gi E (k : Int) = x at *
      generalize gi E ((k + 1 : Nat) : Int) = y at *
      have tl : decide ((k : Int) + 1 < (E.length : Int)) = true := decide_eq_true (by omega)
      have HWk := Lib.hid (below_trans HW1.out HBk.out)
      cases hh : hasB l x
      · rw [hh] at HHk hst
        have HS1 := Lib.hid hst
        clear hh hst
        go_wp2_with (go_at_call 78; refine (HHk.out _ HWk.out).mono ?_; rintro e w9 ⟨rfl, rfl⟩)
        go_roundw
        case rel => exact ⟨k + 1, .inl hlt, by go_num, Lib.hid (by rw [HS1.out]; exact HO.out), HBk⟩
        case measure => simp [intOf]; omega
      · rw [hh] at HHk hst
        have HS1 := Lib.hid hst
        clear hh hst
        generalize segN (hasB l) E k = acc at *
        obtain ⟨A5, c5, rfl, hcap, hnil, -⟩ := own_slice HO.out
        have HSA := Lib.hid (own_sps HO.out)
        have HNA := Lib.hid hnil
        have HP := Lib.hid (fun W (hW : Below wr.heap.size wr W) => put_any A5 c5 acc ⟨x, y - 1⟩ W (by omega) hnil (HSA.out.below hW) hs2 hcap)
        have ew1 : IntKind.i64.wrap ((k : Int) + 1) = (k : Int) + 1 := by rw [IntKind.wrap_i64]; omega
        have ew2 : IntKind.i64.wrap (y - 1) = y - 1 := by rw [IntKind.wrap_i64]; omega
        have i1 : (0 : Int) ≤ (k : Int) := by omega
        have i2 : (k : Int) < (E.length : Int) := by omega
        have i3 : (0 : Int) ≤ (k : Int) + 1 := by omega
        have i4 : (k : Int) + 1 < (E.length : Int) := by omega
        have tn : ((k : Int) + 1).toNat = k + 1 := by omega
        have g3 : wr.cell? ⟨b, o + ((k : Int) + 1).toNat, none⟩ = some (.int .i64 y) := by rw [tn]; exact g2
        clear hnil hs2 hcap
        go_upto_region 8 with (go_at_call 78; refine (HHk.out _ HWk.out).mono ?_; rintro e w9 ⟨rfl, rfl⟩)
        go_still_tail 12, (by kernel_rfl)
        go_wp2_with (go_at_call 79; refine (HP.out _ (bel : Below wr.heap.size wr wr.drew)).mono ?_; rintro e w5 ⟨v5, rfl, ho, hb⟩; have HO5 := Lib.hid (own_base (base' := w1.heap.size) ho HBk.out.size); have HB5 := Lib.hid (HBk.out.drew.trans (hb.mono HBk.out.size)); clear ho hb)
        go_roundw
        case rel => exact ⟨k + 1, .inl hlt, by go_num, Lib.hid (by rw [HS1.out]; exact HO5.out), HB5⟩
        case measure => simp [intOf]; omega
    · have tl : decide ((k : Int) + 1 < (E.length : Int)) = false := decide_eq_false (by omega)
      have HKE := Lib.hid (show E.length - 1 = k by omega)
      go_wp2
      go_ret
      exact ⟨_, rfl, by rw [HKE.out]; exact own_base HO.out HW1.out.size, HW1.out.trans (HBk.out.mono HW1.out.size)⟩
end Go.Proofs.YteoembjghmgbhaaDoor
