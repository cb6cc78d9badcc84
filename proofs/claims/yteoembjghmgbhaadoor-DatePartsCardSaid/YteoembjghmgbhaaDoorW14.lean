/- The law DateUnion: the walk. -/
import Derived.Test.YteoembjghmgbhaaDoorU1
import Derived.Test.YteoembjghmgbhaaDoorC9
import Derived.Test.YteoembjghmgbhaaDoorF7
namespace Go.Proofs.YteoembjghmgbhaaDoor
set_option linter.all false
open Go.RowKit

theorem segN_len (ok : Int → Bool) (l : List Sp) : (segN ok (edgesE l (-1)) ((edgesE l (-1)).length - 1)).length ≤ 60003 := by
  obtain ⟨h1, h2⟩ := edgesE_bd l
  by_cases h : 0 < (edgesE l (-1)).length
  · have := (segN_bd ok (edgesE l (-1)) h2 ((edgesE l (-1)).length - 1) (by omega)).1
    omega
  · rw [show (edgesE l (-1)).length - 1 = 0 by omega]
    simp [segN]
/-- What Union gives. -/
def UnionOk (l : List Sp) (e0 : Int) (L : List Sp) : Prop := spansE l = e0 ∧ (e0 ≠ 0 → L = []) ∧ (e0 = 0 → L = runionL l)
theorem union_ret {l : List Sp} {e0 : Int} {L : List Sp} (hU : UnionOk l e0 L) (A : Option Addr) (c : Nat) (w : World) (hl : l.length ≤ 1000000) (hnil : A = none → l.length = 0 ∧ c = 0) (h : SpsAt w A l) :
    Calls Tryd.prog 48 #[.slice A l.length c] w fun e w' => ∃ A' c', e = .returned (.tuple #[.slice A' L.length c', .int .i64 e0]) ∧ SpsAt w' A' L ∧ Below w.heap.size w w' := by
  obtain ⟨rfl, h1, h2⟩ := hU
  refine (Union_any A c l w hl hnil h).mono ?_
  rintro e w' ⟨l', L0, v, rfl, ho, hb, g1, g2⟩
  obtain ⟨A', c', rfl, -⟩ := own_slice ho
  have hLL : L0 = L := by
    by_cases he : spansE l = 0
    · obtain ⟨hp, ha, hu⟩ := g2 he
      rw [hu, h2 he]
      exact (unite_runion l l' (spansE_zero he).2 hp ha).1
    · rw [g1 he, h1 he]
  subst hLL
  exact ⟨A', c', rfl, own_sps ho, hb⟩
def GapsOk (s : Sp) (l : List Sp) (e0 : Int) (L : List Sp) : Prop := gapsE s l = e0 ∧ (e0 ≠ 0 → L = []) ∧ (e0 = 0 → L = rgapsL s l)
theorem gaps_ret {s : Sp} {l : List Sp} {e0 : Int} {L : List Sp} (hU : GapsOk s l e0 L) (A : Option Addr) (c : Nat) (w : World) (hl : l.length ≤ 1000000) (hnil : A = none → l.length = 0 ∧ c = 0) (h : SpsAt w A l) :
    Calls Tryd.prog 49 #[spv s, .slice A l.length c] w fun e w' => ∃ A' c', e = .returned (.tuple #[.slice A' L.length c', .int .i64 e0]) ∧ SpsAt w' A' L ∧ Below w.heap.size w w' := by
  obtain ⟨rfl, h1, h2⟩ := hU
  refine (Gaps_any s A c l w hl hnil h).mono ?_
  rintro e w' ⟨L0, v, rfl, ho, hb, g1, g2⟩
  obtain ⟨A', c', rfl, -⟩ := own_slice ho
  have hLL : L0 = L := by
    by_cases he : gapsE s l = 0
    · rw [g2 he, h2 he]
    · rw [g1 he, h1 he]
  subst hLL
  exact ⟨A', c', rfl, own_sps ho, hb⟩
theorem runion_ret {l : List Sp} (hv : ∀ x ∈ l, spanB x = true) (A : Option Addr) (c : Nat) (w : World) (hl : l.length ≤ 1000) (h : SpsAt w A l) :
    Calls Tryd.prog 51 #[.slice A l.length c] w fun e w' => ∃ A' c', e = .returned (.slice A' (runionL l).length c') ∧ SpsAt w' A' (runionL l) ∧ Below w.heap.size w w' := by
  refine (rUnion_any A c l w hl h (fun x hx => by have := good_of hv x hx; omega)).mono ?_
  rintro e w' ⟨v, rfl, ho, hb⟩
  obtain ⟨A', c', rfl, -⟩ := own_slice ho
  exact ⟨A', c', rfl, own_sps ho, hb⟩
theorem rgaps_ret {s : Sp} {l : List Sp} (hs : spanB s = true) (hv : ∀ x ∈ l, spanB x = true) (A : Option Addr) (c : Nat) (w : World) (hl : l.length ≤ 900) (hnil : A = none → l.length = 0 ∧ c = 0) (h : SpsAt w A l) :
    Calls Tryd.prog 52 #[spv s, .slice A l.length c] w fun e w' => ∃ A' c', e = .returned (.slice A' (rgapsL s l).length c') ∧ SpsAt w' A' (rgapsL s l) ∧ Below w.heap.size w w' := by
  have hg : Good (l ++ [s]) := good_of fun x hx => by
    rcases List.mem_append.1 hx with hx | hx
    · exact hv x hx
    · simp at hx; subst hx; exact hs
  refine (rGaps_any s A c l w hl hnil h (fun x hx => by have := hg x hx; omega)).mono ?_
  rintro e w' ⟨v, rfl, ho, hb⟩
  obtain ⟨A', c', rfl, -⟩ := own_slice ho
  exact ⟨A', c', rfl, own_sps ho, hb⟩
set_option maxRecDepth 100000 in
set_option maxHeartbeats 1000000 in
theorem union_huge (s : Sp) (A : Option Addr) (c : Nat) (l : List Sp) (w : World) (hT : Tab w) (hl : 70 < l.length) (hl2 : l.length ≤ 9223372036854775807) :
    Calls Tryd.prog 12 #[spv s, .slice A l.length c] w fun e w' => e = .returned (.bool true) ∧ Below w.heap.size w w' := by
  have HT := Lib.hid hT
  have t : decide ((70 : Int) < (l.length : Int)) = true := decide_eq_true (by omega)
  clear hT hl hl2
  obtain ⟨a, b⟩ := s
  unfold spv
  simp only
  go_enter Tryd.func12, Tryd.ntmps12
  go_wp2_with (first | (go_at_call 22; refine (sanity_any _ (HT.out.below bel)).mono ?_; rintro e w9 ⟨rfl, hb⟩; have HB9 := Lib.hid (below_trans (bel : Below w.heap.size w (w.alloc _)) hb); clear hb))
  go_ret
  exact ⟨rfl, HB9.out⟩
set_option maxRecDepth 100000 in
set_option maxHeartbeats 1000000 in
theorem union_long (s : Sp) (A : Option Addr) (c : Nat) (l : List Sp) (w : World) (hT : Tab w) (hl : 60 < l.length) (hl2 : l.length ≤ 70) (hnil : A = none → l.length = 0 ∧ c = 0) (h : SpsAt w A l) :
    Calls Tryd.prog 12 #[spv s, .slice A l.length c] w fun e w' => e = .returned (.bool true) ∧ Below w.heap.size w w' := by
  have HT := Lib.hid hT
  have he : spansE l = 2 := by unfold spansE; rw [if_pos hl]
  have hg : gapsE s l = 2 := by unfold gapsE; rw [he]; rfl
  have HU := Lib.hid (fun W (hW : Below w.heap.size w W) => union_ret (L := []) ⟨he, fun _ => rfl, fun h => by cases h⟩ A c W (by omega) hnil (h.below hW))
  have HG := Lib.hid (fun W (hW : Below w.heap.size w W) => gaps_ret (s := s) (L := []) ⟨hg, fun _ => rfl, fun h => by cases h⟩ A c W (by omega) hnil (h.below hW))
  have t1 : decide ((70 : Int) < (l.length : Int)) = false := decide_eq_false (by omega)
  have t2 : decide ((60 : Int) < (l.length : Int)) = true := decide_eq_true (by omega)
  clear hT hl hl2 hnil h he hg
  obtain ⟨a, b⟩ := s
  unfold spv at *
  simp only [List.length_nil] at *
  go_enter Tryd.func12, Tryd.ntmps12
  go_wp2_with (first | (go_at_call 48; refine (HU.out _ bel).mono ?_; rintro e w1 ⟨A1, c1, rfl, hs1, hb⟩; have HB1 := Lib.hid (below_trans (bel : Below w.heap.size w (w.alloc _)) hb); obtain ⟨q0, q1, _, _, lq⟩ := cells2 (lnew hb); clear hb hs1) | (go_at_call 49; refine (HG.out _ HB1.out).mono ?_; rintro e w2 ⟨A2, c2, rfl, hs2, hb⟩; have HB2 := Lib.hid (below_trans HB1.out hb); clear hb hs2) | (go_at_call 22; refine (sanity_any _ (HT.out.below HB2.out)).mono ?_; rintro e w9 ⟨rfl, hb⟩; have HB9 := Lib.hid (below_trans HB2.out hb); clear hb))
  go_ret
  exact ⟨rfl, HB9.out⟩
set_option maxRecDepth 100000 in
set_option maxHeartbeats 1000000 in
theorem union_bad (s : Sp) (A : Option Addr) (c : Nat) (l : List Sp) (w : World) (hT : Tab w) (hl : l.length ≤ 60) (hv : (l.any fun s => !spanB s) = true) (hnil : A = none → l.length = 0 ∧ c = 0) (h : SpsAt w A l) :
    Calls Tryd.prog 12 #[spv s, .slice A l.length c] w fun e w' => e = .returned (.bool true) ∧ Below w.heap.size w w' := by
  have HT := Lib.hid hT
  have he : spansE l = 1 := by unfold spansE; rw [if_neg (by omega), hv]; rfl
  have hg : gapsE s l = 1 := by unfold gapsE; rw [he]; rfl
  have HU := Lib.hid (fun W (hW : Below w.heap.size w W) => union_ret (L := []) ⟨he, fun _ => rfl, fun h => by cases h⟩ A c W (by omega) hnil (h.below hW))
  have HG := Lib.hid (fun W (hW : Below w.heap.size w W) => gaps_ret (s := s) (L := []) ⟨hg, fun _ => rfl, fun h => by cases h⟩ A c W (by omega) hnil (h.below hW))
  have HV := Lib.hid (fun W (hW : Below w.heap.size w W) => rValids_any A c l W (by omega) (h.below hW))
  rw [hv] at HV
  have t1 : decide ((70 : Int) < (l.length : Int)) = false := decide_eq_false (by omega)
  have t2 : decide ((60 : Int) < (l.length : Int)) = false := decide_eq_false (by omega)
  clear hT hl hnil h he hg hv
  obtain ⟨a, b⟩ := s
  unfold spv at *
  simp only [List.length_nil] at *
  go_enter Tryd.func12, Tryd.ntmps12
  go_wp2_with (first | (go_at_call 48; refine (HU.out _ bel).mono ?_; rintro e w1 ⟨A1, c1, rfl, hs1, hb⟩; have HB1 := Lib.hid (below_trans (bel : Below w.heap.size w (w.alloc _)) hb); obtain ⟨q0, q1, _, _, lq⟩ := cells2 (lnew hb); clear hb hs1) | (go_at_call 49; refine (HG.out _ HB1.out).mono ?_; rintro e w2 ⟨A2, c2, rfl, hs2, hb⟩; have HB2 := Lib.hid (below_trans HB1.out hb); clear hb hs2) | (go_at_call 50; refine (HV.out _ HB2.out).mono ?_; rintro e w3 ⟨rfl, hb⟩; have HB3 := Lib.hid (below_trans HB2.out hb); clear hb) | (go_at_call 22; refine (sanity_any _ (HT.out.below HB3.out)).mono ?_; rintro e w9 ⟨rfl, hb⟩; have HB9 := Lib.hid (below_trans HB3.out hb); clear hb))
  go_ret
  exact ⟨rfl, HB9.out⟩
set_option maxRecDepth 100000 in
set_option maxHeartbeats 1000000 in
theorem union_s (s : Sp) (A : Option Addr) (c : Nat) (l : List Sp) (w : World) (hT : Tab w) (hl : l.length ≤ 60) (hv : (l.any fun s => !spanB s) = false) (hs : spanB s = false) (hnil : A = none → l.length = 0 ∧ c = 0) (h : SpsAt w A l) :
    Calls Tryd.prog 12 #[spv s, .slice A l.length c] w fun e w' => e = .returned (.bool true) ∧ Below w.heap.size w w' := by
  have HT := Lib.hid hT
  have he : spansE l = 0 := by unfold spansE; rw [if_neg (by omega), hv]; rfl
  have hg : gapsE s l = 1 := by unfold gapsE; rw [if_pos he, hs]; rfl
  have hvv := (spansE_zero he).2
  have HU := Lib.hid (fun W (hW : Below w.heap.size w W) => union_ret (L := runionL l) ⟨he, fun h => absurd rfl h, fun _ => rfl⟩ A c W (by omega) hnil (h.below hW))
  have HG := Lib.hid (fun W (hW : Below w.heap.size w W) => gaps_ret (s := s) (L := []) ⟨hg, fun _ => rfl, fun h => by cases h⟩ A c W (by omega) hnil (h.below hW))
  have HV := Lib.hid (fun W (hW : Below w.heap.size w W) => rValids_any A c l W (by omega) (h.below hW))
  have HR := Lib.hid (fun W (hW : Below w.heap.size w W) => runion_ret hvv A c W (by omega) (h.below hW))
  have HS := Lib.hid (fun W => rValid_any s W)
  have HLL := Lib.hid (show (runionL l).length ≤ 60003 from segN_len _ _)
  rw [hv] at HV
  rw [hs] at HS
  have t1 : decide ((70 : Int) < (l.length : Int)) = false := decide_eq_false (by omega)
  have t2 : decide ((60 : Int) < (l.length : Int)) = false := decide_eq_false (by omega)
  clear hT hl hnil h he hg hv hvv hs
  obtain ⟨L, hL⟩ : ∃ L, runionL l = L := ⟨_, rfl⟩
  rw [hL] at HU HR HLL
  clear hL
  obtain ⟨a, b⟩ := s
  unfold spv at *
  simp only [List.length_nil] at *
  go_enter Tryd.func12, Tryd.ntmps12
  go_wp2_with (first | (go_at_call 48; refine (HU.out _ bel).mono ?_; rintro e w1 ⟨A1, c1, rfl, hs1, hb⟩; have HB1 := Lib.hid (below_trans (bel : Below w.heap.size w (w.alloc _)) hb); have HX1 := Lib.hid (lnew hb); have HS1 := Lib.hid hs1; obtain ⟨q0, q1, _, _, lq⟩ := cells2 HX1.out; clear hb hs1) | (go_at_call 49; refine (HG.out _ HB1.out).mono ?_; rintro e w2 ⟨A2, c2, rfl, hs2, hb⟩; have HB2 := Lib.hid (below_trans HB1.out hb); have HX2 := Lib.hid (lift0 hb HX1.out); have HS2 := Lib.hid (HS1.out.below hb); clear hb hs2) | (go_at_call 50; refine (HV.out _ HB2.out).mono ?_; rintro e w3 ⟨rfl, hb⟩; have HB3 := Lib.hid (below_trans HB2.out hb); have HX3 := Lib.hid (lift0 hb HX2.out); have HS3 := Lib.hid (HS2.out.below hb); clear hb) | (go_at_call 51; refine (HR.out _ HB3.out).mono ?_; rintro e w4 ⟨A4, c4, rfl, hs4, hb⟩; have HB4 := Lib.hid (below_trans HB3.out hb); have HX4 := Lib.hid (lift0 hb HX3.out); have HS4 := Lib.hid (HS3.out.below hb); have HR4 := Lib.hid hs4; clear hb hs4) | (go_at_call 40; refine (rSame_any A1 c1 L A4 c4 L _ (by have := HLL.out; omega) HS4.out HR4.out).mono ?_; rintro e w5 ⟨rfl, hb⟩; have HB5 := Lib.hid (below_trans HB4.out hb); have HX5 := Lib.hid (lift0 hb HX4.out); obtain ⟨r0, r1, _, _, lr⟩ := cells2 HX5.out; clear hb) | (go_at_call 35; refine (HS.out _).mono ?_; rintro e w6 ⟨rfl, hb⟩; have HB6 := Lib.hid (below_trans HB5.out hb); clear hb) | (go_at_call 22; refine (sanity_any _ (HT.out.below HB6.out)).mono ?_; rintro e w9 ⟨rfl, hb⟩; have HB9 := Lib.hid (below_trans HB6.out hb); clear hb))
  all_goals
    go_ret
    exact ⟨by simp, HB9.out⟩
set_option maxRecDepth 100000 in
set_option maxHeartbeats 1000000 in
theorem union_good (s : Sp) (A : Option Addr) (c : Nat) (l : List Sp) (w : World) (hT : Tab w) (hl : l.length ≤ 60) (hv : (l.any fun s => !spanB s) = false) (hs : spanB s = true) (hnil : A = none → l.length = 0 ∧ c = 0) (h : SpsAt w A l) :
    Calls Tryd.prog 12 #[spv s, .slice A l.length c] w fun e w' => e = .returned (.bool true) ∧ Below w.heap.size w w' := by
  have HT := Lib.hid hT
  have he : spansE l = 0 := by unfold spansE; rw [if_neg (by omega), hv]; rfl
  have hg : gapsE s l = 0 := by unfold gapsE; rw [if_pos he, hs]; rfl
  have hvv := (spansE_zero he).2
  have HU := Lib.hid (fun W (hW : Below w.heap.size w W) => union_ret (L := runionL l) ⟨he, fun h => absurd rfl h, fun _ => rfl⟩ A c W (by omega) hnil (h.below hW))
  have HG := Lib.hid (fun W (hW : Below w.heap.size w W) => gaps_ret (s := s) (L := rgapsL s l) ⟨hg, fun h => absurd rfl h, fun _ => rfl⟩ A c W (by omega) hnil (h.below hW))
  have HV := Lib.hid (fun W (hW : Below w.heap.size w W) => rValids_any A c l W (by omega) (h.below hW))
  have HR := Lib.hid (fun W (hW : Below w.heap.size w W) => runion_ret hvv A c W (by omega) (h.below hW))
  have HRG := Lib.hid (fun W (hW : Below w.heap.size w W) => rgaps_ret hs hvv A c W (by omega) hnil (h.below hW))
  have HS := Lib.hid (fun W => rValid_any s W)
  have HLL := Lib.hid (show (runionL l).length ≤ 60003 from segN_len _ _)
  have HLG := Lib.hid (show (rgapsL s l).length ≤ 60003 from segN_len _ _)
  rw [hv] at HV
  rw [hs] at HS
  have t1 : decide ((70 : Int) < (l.length : Int)) = false := decide_eq_false (by omega)
  have t2 : decide ((60 : Int) < (l.length : Int)) = false := decide_eq_false (by omega)
  clear hT hl hnil h he hg hv hvv hs
  obtain ⟨L, hL⟩ : ∃ L, runionL l = L := ⟨_, rfl⟩
  obtain ⟨G, hG⟩ : ∃ G, rgapsL s l = G := ⟨_, rfl⟩
  rw [hL] at HU HR HLL
  rw [hG] at HG HRG HLG
  clear hL hG
  have MK := Lib.hid True.intro
  obtain ⟨a, b⟩ := s
  unfold spv at *
  simp only [List.length_nil] at *
  go_enter Tryd.func12, Tryd.ntmps12
  go_wp2_with (first | (go_at_call 48; refine (HU.out _ bel).mono ?_; rintro e w1 ⟨A1, c1, rfl, hs1, hb⟩; have HB1 := Lib.hid (below_trans (bel : Below w.heap.size w (w.alloc _)) hb); have HX1 := Lib.hid (lnew hb); have HS1 := Lib.hid hs1; obtain ⟨q0, q1, _, _, lq⟩ := cells2 HX1.out; clear hb hs1) | (go_at_call 49; refine (HG.out _ HB1.out).mono ?_; rintro e w2 ⟨A2, c2, rfl, hs2, hb⟩; have HB2 := Lib.hid (below_trans HB1.out hb); have HX2 := Lib.hid (lift0 hb HX1.out); have HS2 := Lib.hid (HS1.out.below hb); have HG2 := Lib.hid hs2; clear hb hs2) | (go_at_call 50; refine (HV.out _ HB2.out).mono ?_; rintro e w3 ⟨rfl, hb⟩; have HB3 := Lib.hid (below_trans HB2.out hb); have HX3 := Lib.hid (lift0 hb HX2.out); have HS3 := Lib.hid (HS2.out.below hb); have HG3 := Lib.hid (HG2.out.below hb); clear hb) | (go_at_call 51; refine (HR.out _ HB3.out).mono ?_; rintro e w4 ⟨A4, c4, rfl, hs4, hb⟩; have HB4 := Lib.hid (below_trans HB3.out hb); have HX4 := Lib.hid (lift0 hb HX3.out); have HS4 := Lib.hid (HS3.out.below hb); have HG4 := Lib.hid (HG3.out.below hb); have HR4 := Lib.hid hs4; clear hb hs4) | (go_at_call 40; have hmk := MK.out; clear hmk MK; refine (rSame_any A1 c1 L A4 c4 L _ (by have := HLL.out; omega) HS4.out HR4.out).mono ?_; rintro e w5 ⟨rfl, hb⟩; have HB5 := Lib.hid (below_trans HB4.out hb); have HX5 := Lib.hid (lift0 hb HX4.out); have HG5 := Lib.hid (HG4.out.below hb); obtain ⟨r0, r1, _, _, lr⟩ := cells2 HX5.out; clear hb) | (go_at_call 35; refine (HS.out _).mono ?_; rintro e w6 ⟨rfl, hb⟩; have HB6 := Lib.hid (below_trans HB5.out hb); have HX6 := Lib.hid (lift0 hb HX5.out); have HG6 := Lib.hid (HG5.out.below hb); clear hb) | (go_at_call 22; refine (sanity_any _ (HT.out.below HB6.out)).mono ?_; rintro e w7 ⟨rfl, hb⟩; have HB7 := Lib.hid (below_trans HB6.out hb); have HX7 := Lib.hid (lift0 hb HX6.out); have HG7 := Lib.hid (HG6.out.below hb); obtain ⟨u0, u1, _, _, lu⟩ := cells2 HX7.out; clear hb) | (go_at_call 52; refine (HRG.out _ HB7.out).mono ?_; rintro e w8 ⟨A8, c8, rfl, hs8, hb⟩; have HB8 := Lib.hid (below_trans HB7.out hb); have HG8 := Lib.hid (HG7.out.below hb); have HR8 := Lib.hid hs8; clear hb hs8) | (go_at_call 40; refine (rSame_any A2 c2 G A8 c8 G _ (by have := HLG.out; omega) HG8.out HR8.out).mono ?_; rintro e w9 ⟨rfl, hb⟩; have HB9 := Lib.hid (below_trans HB8.out hb); clear hb))
  all_goals
    go_ret
    exact ⟨by simp, HB9.out⟩
theorem union_walk (s : Sp) (A : Option Addr) (c : Nat) (l : List Sp) (w : World) (hT : Tab w) (_ : -9223372036854775808 ≤ s.lo ∧ s.lo ≤ 9223372036854775807) (_ : -9223372036854775808 ≤ s.hi ∧ s.hi ≤ 9223372036854775807) (h : SpsAt w A l) (hnil : A = none → l.length = 0 ∧ c = 0) (hl : l.length ≤ 9223372036854775807) :
    Calls Tryd.prog 12 #[spv s, .slice A l.length c] w fun e w' => e = .returned (.bool true) ∧ Below w.heap.size w w' := by
  by_cases h70 : 70 < l.length
  · exact union_huge s A c l w hT h70 hl
  · by_cases h60 : 60 < l.length
    · exact union_long s A c l w hT h60 (by omega) hnil h
    · cases hv : (l.any fun s => !spanB s)
      · cases hs : spanB s
        · exact union_s s A c l w hT (by omega) hv hs hnil h
        · exact union_good s A c l w hT (by omega) hv hs hnil h
      · exact union_bad s A c l w hT (by omega) hv hnil h
end Go.Proofs.YteoembjghmgbhaaDoor
