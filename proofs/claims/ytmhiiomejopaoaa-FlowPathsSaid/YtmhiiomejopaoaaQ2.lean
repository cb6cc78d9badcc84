/- The flow laws: lattice, its walk. -/
import Derived.Test.YtmhiiomejopaoaaQ1
namespace Go.Proofs.Ytmhiiomejopaoaa
set_option linter.all false
open Go.RowKit

def mx (x y : Int) : Int := if x < y then y else x
def upN (x y : List Int) : Nat → List Int
  | 0 => []
  | k + 1 => upN x y k ++ [mx (gi x k) (gi y k)]
def dnN (x y : List Int) : Nat → List Int
  | 0 => []
  | k + 1 => dnN x y k ++ [mn (gi x k) (gi y k)]
theorem upN_len (x y : List Int) : ∀ k, (upN x y k).length = k
  | 0 => rfl
  | k + 1 => by simp [upN, upN_len x y k]
theorem dnN_len (x y : List Int) : ∀ k, (dnN x y k).length = k
  | 0 => rfl
  | k + 1 => by simp [dnN, dnN_len x y k]
def inL (x : List Int) : Bool := x.all (fun v => withinB v (-1048576) 1048576)
theorem inL_of {x y : List Int} (h : ∀ j : Nat, j < x.length → withinB (gi x j) (-1048576) 1048576 = true ∧ withinB (gi y j) (-1048576) 1048576 = true) (_ : Nat) : inL x = true := by
  unfold inL
  rw [List.all_eq_true]
  intro v hv
  obtain ⟨j, hj, rfl⟩ := mem_gi hv
  exact (h j hj).1
structure TwoN (W0 wr : World) (p q : Value) (a b : List Int) : Prop where
  u : OwnN W0.heap.size W0 wr p a
  d : OwnN W0.heap.size W0 wr q b
  ne : p.ownBlock = none ∨ q.ownBlock = none ∨ p.ownBlock ≠ q.ownBlock
theorem TwoN.up {W0 wr w' : World} {p q p' : Value} {a b : List Int} {v : Int} (h : TwoN W0 wr p q a b) (ho : w'.ownsRow W0.heap.size 3 1 p' (a.length + 1) (ints a ++ [.int .i64 v])) (hg : wr.grownBy w' p.ownBlock) (hat : p'.ownBlock = p.ownBlock ∨ ∃ b, p'.ownBlock = some b ∧ wr.heap.size ≤ b) : TwoN W0 w' p' q (a ++ [v]) b := by
  have hu := h.u.appended ho hg
  refine ⟨hu, ⟨h.d.row.kept hg ?_, hu.below, hu.hB⟩, ?_⟩
  · rcases h.ne with e | e | e
    · rw [e]; cases q.ownBlock <;> simp
    · exact .inl e
    · exact .inr (fun e2 => e e2.symm)
  · rcases hat with e | ⟨b', e, hb⟩
    · rw [e]; exact h.ne
    · right
      cases hq : q.ownBlock with
      | none => exact .inl rfl
      | some k =>
        right
        have := (h.d.row.lt k hq).2
        rw [e]
        intro e2
        have := Option.some.inj e2
        omega
theorem TwoN.swap {W0 wr : World} {p q : Value} {a b : List Int} (h : TwoN W0 wr p q a b) : TwoN W0 wr q p b a := ⟨h.d, h.u, by rcases h.ne with e | e | e; exact .inr (.inl e); exact .inl e; exact .inr (.inr (fun e2 => e e2.symm))⟩
theorem TwoN.calls {W0 wr w' : World} {p q : Value} {a b : List Int} (h : TwoN W0 wr p q a b) (hb : Below wr.heap.size wr w') : TwoN W0 w' p q a b := ⟨h.u.calls hb, h.d.calls hb, h.ne⟩
theorem TwoN.drew {W0 wr : World} {p q : Value} {a b : List Int} (h : TwoN W0 wr p q a b) : TwoN W0 wr.drew p q a b := h.calls ⟨rfl, rfl, rfl, Nat.le_refl _, fun _ _ => rfl⟩
theorem ints_block {w : World} {b o : Nat} {l : List Int} {k : Nat} (h : IntsAt w (some ⟨b, o, none⟩) l) (hk : k < l.length) : b < w.heap.size := by
  obtain ⟨b', o', e, h1⟩ := h.nat k hk
  cases e
  exact World.block_lt_of_cell? _ _ h1
theorem own_ne {w : World} {B e sz n b : Nat} {v : Value} {xs : List Value} (h : w.ownsRow B e sz v n xs) (hb : b < B) : some b ≠ v.ownBlock := by
  intro e
  have := (h.lt b e.symm).1
  omega
theorem grown_news {w w' : World} {o : Obj} {r : Option Nat} (h : (w.alloc o).drew.grownBy w' r) : w.grownBy w' r := World.grownBy.trans (grown_drew (grown_alloc (grown_refl w r) o)) h
theorem lies_at {v : Value} {g n c H : Nat} (h : v.ownBlock = some g ∨ g = H + 1) : (Value.slice (some ⟨g, 0, none⟩) n c).ownBlock = v.ownBlock ∨ ∃ b, (Value.slice (some ⟨g, 0, none⟩) n c).ownBlock = some b ∧ H ≤ b := by
  rcases h with h | h
  · left; rw [h]; rfl
  · right; exact ⟨g, rfl, by omega⟩
/-- What the plain law owes. -/
def LatticeLaw (n : Int) (l : List Lk) (w x y : List Int) : Prop :=
  x.length ≤ 60 → x.length = y.length → w.length ≤ 60 → fitsR n l x = (true, 0) → fitsR n l y = (true, 0) → inL x = true → inL y = true →
    fitsR n l (upN x y x.length) = (true, 0) ∧ fitsR n l (dnN x y x.length) = (true, 0) ∧
    (valueR n l w x).2 = (valueR n l w y).2 ∧ (valueR n l w x).2 = (valueR n l w (upN x y x.length)).2 ∧ (valueR n l w x).2 = (valueR n l w (dnN x y x.length)).2 ∧
    wrap64 ((valueR n l w x).1 + (valueR n l w y).1) = wrap64 ((valueR n l w (upN x y x.length)).1 + (valueR n l w (dnN x y x.length)).1)
theorem small_len {n : Int} {m : Nat} (h : smallB n m = true) : m ≤ 270 := by
  unfold smallB at h
  simp at h
  omega
set_option maxRecDepth 100000 in
set_option maxHeartbeats 4000000 in
theorem lattice_walk (n : Int) (A : Option Addr) (c : Nat) (l : List Lk) (C : Option Addr) (f : Nat) (u : List Int) (B : Option Addr) (d : Nat) (x : List Int) (D : Option Addr) (g : Nat) (y : List Int) (w : World)
    (h : LksAt w A l) (h1 : IntsAt w C u) (h2 : IntsAt w B x) (h3 : IntsAt w D y) (hl : l.length ≤ 9223372036854775807) (hu : u.length ≤ 9223372036854775807) (hx : x.length ≤ 9223372036854775807) (hy : y.length ≤ 9223372036854775807) (law : LatticeLaw n l u x y) :
    Calls Try.prog 6 #[.agg #[.int .i64 n, .slice A l.length c], .slice C u.length f, .slice B x.length d, .slice D y.length g] w fun e w' => e = .returned (.bool true) ∧ Below w.heap.size w w' := by
  have HA := Lib.hid h
  have HU := Lib.hid h1
  have HX := Lib.hid h2
  have HY := Lib.hid h3
  have HL := Lib.hid law
  clear h h1 h2 h3 law
  cases hs : smallB n l.length
  · go_enter Try.func6, Try.ntmps6
    go_wp2_with (first | (go_at_call 27; refine (small_any n A c l.length _).mono ?_; rw [hs]; rintro e w1 ⟨rfl, hb⟩; have HB := Lib.hid (boxed hb).1; clear hb) | (go_at_call 17; refine (sanity_any _).mono ?_; rintro e w2 ⟨rfl, hb⟩; have HB2 := Lib.hid (below_trans HB.out hb); clear hb))
    go_ret
    exact ⟨rfl, HB2.out⟩
  · have HSM := Lib.hid (small_len hs)
    by_cases hu60 : 60 < u.length
    · go_enter Try.func6, Try.ntmps6
      go_wp2_with (first | (go_at_call 27; refine (small_any n A c l.length _).mono ?_; rw [hs]; rintro e w1 ⟨rfl, hb⟩; have HB := Lib.hid (boxed hb).1; clear hb) | (go_at_call 17; refine (sanity_any _).mono ?_; rintro e w2 ⟨rfl, hb⟩; have HB2 := Lib.hid (below_trans HB.out hb); clear hb))
      go_ret
      exact ⟨rfl, HB2.out⟩
    · by_cases hx60 : 60 < x.length
      · go_enter Try.func6, Try.ntmps6
        go_wp2_with (first | (go_at_call 27; refine (small_any n A c l.length _).mono ?_; rw [hs]; rintro e w1 ⟨rfl, hb⟩; have HB := Lib.hid (boxed hb).1; clear hb) | (go_at_call 17; refine (sanity_any _).mono ?_; rintro e w2 ⟨rfl, hb⟩; have HB2 := Lib.hid (below_trans HB.out hb); clear hb))
        go_ret
        exact ⟨rfl, HB2.out⟩
      · by_cases hxy : x.length = y.length
        · have hxy' : ((x.length : Int) != (y.length : Int)) = false := by simp; omega
          have HXY := Lib.hid hxy
          have hb1 : u.length ≤ 60 := by omega
          have hb2 : x.length ≤ 60 := by omega
          have hb3 : y.length ≤ 60 := by omega
          clear hxy hu hx hy hu60 hx60
          have HFX := Lib.hid (fun W h1 h2 => Fits_any n A c l B d x W hl (by omega) h1 h2)
          have HFY := Lib.hid (fun W h1 h2 => Fits_any n A c l D g y W hl (by omega) h1 h2)
          obtain ⟨fx, hfx⟩ : ∃ fx, fitsR n l x = fx := ⟨_, rfl⟩
          obtain ⟨fy, hfy⟩ : ∃ fy, fitsR n l y = fy := ⟨_, rfl⟩
          rw [hfx] at HFX
          rw [hfy] at HFY
          obtain ⟨fx1, fx2⟩ := fx
          obtain ⟨fy1, fy2⟩ := fy
          have HVX := Lib.hid hfx
          have HVY := Lib.hid hfy
          clear hfx hfy
          go_enter Try.func6, Try.ntmps6
          go_upto_region 5 with (first | (go_at_call 27; refine (small_any n A c l.length _).mono ?_; rw [hs]; rintro e w1 ⟨rfl, hb⟩; have HB := Lib.hid (boxed hb).1; obtain ⟨c0, c1, lw⟩ := (boxed hb).2; clear hb) | (go_at_call 37; refine (HFX.out _ (HA.out.below HB.out) (HX.out.below HB.out)).mono ?_; rintro e w2 ⟨rfl, hb⟩; have HB2 := Lib.hid (below_trans HB.out hb); have c0 := cell_below hb c0; have c1 := cell_below hb c1; have lw := World.block_lt_of_cell? _ _ c0; clear hb HFX) | (go_at_call 37; refine (HFY.out _ (HA.out.below HB2.out) (HY.out.below HB2.out)).mono ?_; rintro e w3 ⟨rfl, hb⟩; have HB3 := Lib.hid (below_trans HB2.out hb); have c0 := cell_below hb c0; have c1 := cell_below hb c1; have lw := World.block_lt_of_cell? _ _ c0; clear hb HFY))
          cases e1 : (fx2 != 0)
          · cases e2 : (fy2 != 0)
            · cases fx1
              · go_wp2_with (go_at_call 17; refine (sanity_any _).mono ?_; rintro e wz ⟨rfl, hb⟩; have HBz := Lib.hid (below_trans HB3.out hb); clear hb)
                go_ret
                exact ⟨rfl, HBz.out⟩
              · cases fy1
                · go_wp2_with (go_at_call 17; refine (sanity_any _).mono ?_; rintro e wz ⟨rfl, hb⟩; have HBz := Lib.hid (below_trans HB3.out hb); clear hb)
                  go_ret
                  exact ⟨rfl, HBz.out⟩
                · have HVX0 := Lib.hid (show fitsR n l x = (true, 0) by rw [HVX.out, show fx2 = 0 by simpa using e1])
                  have HVY0 := Lib.hid (show fitsR n l y = (true, 0) by rw [HVY.out, show fy2 = 0 by simpa using e2])
                  clear HVX HVY
                  have HC := Lib.hid (And.intro c0 c1)
                  go_upto_region 10 with fail
                  clear c0 c1 lw
                  go_loopw [13, 14, 15] (fun p q i wr => ∃ k : Nat, k ≤ x.length ∧ i = .int .i64 k ∧ Hid (TwoN w3 wr p q (upN x y k) (dnN x y k)) ∧ Hid (∀ j : Nat, j < k → withinB (gi x j) (-1048576) 1048576 = true ∧ withinB (gi y j) (-1048576) 1048576 = true)) (fun _ _ i _ => x.length - (intOf i).toNat)
                  case atStart => exact ⟨0, by omega, rfl, Lib.hid ⟨⟨World.ownsRow_nil _ _ _ _, Below.refl _ _, Nat.le_refl _⟩, ⟨World.ownsRow_nil _ _ _ _, Below.refl _ _, Nat.le_refl _⟩, .inl rfl⟩, Lib.hid (fun j hj => by omega)⟩
                  case round =>
                    obtain ⟨k, hk, rfl, HT, HW⟩ := hrel
                    by_cases hlt : k < x.length
                    · have hlty : k < y.length := by have := HXY.out; omega
                      have HBR := Lib.hid (below_trans HB3.out HT.out.u.below)
                      obtain ⟨b1, o1, rfl, g1⟩ := (HX.out.below HBR.out).nat k hlt
                      obtain ⟨b2, o2, rfl, g2⟩ := (HY.out.below HBR.out).nat k hlty
                      have l1 := World.block_lt_of_cell? _ _ g1
                      have l2 := World.block_lt_of_cell? _ _ g2
                      have hlyi : (k : Int) < (y.length : Int) := by omega
                      cases hw1 : withinB (gi x k) (-1048576) 1048576
                      · go_wp2_with (first | (go_at_call 38; refine (lwithin_any _ _).mono ?_; rintro e w' ⟨rfl, rfl⟩) | (go_at_call 17; refine (sanity_any _).mono ?_; rintro e wz ⟨rfl, hb⟩; have HBz := Lib.hid (below_trans HBR.out hb); clear hb))
                        go_ret
                        exact ⟨rfl, HBz.out⟩
                      · cases hw2 : withinB (gi y k) (-1048576) 1048576
                        · go_wp2_with (first | (go_at_call 38; refine (lwithin_any _ _).mono ?_; rintro e w' ⟨rfl, rfl⟩) | (go_at_call 17; refine (sanity_any _).mono ?_; rintro e wz ⟨rfl, hb⟩; have HBz := Lib.hid (below_trans HBR.out hb); clear hb))
                          go_ret
                          exact ⟨rfl, HBz.out⟩
                        · obtain ⟨mu, hmu⟩ : ∃ mu, (if gi x k < gi y k then gi y k else gi x k) = mu := ⟨_, rfl⟩
                          obtain ⟨md, hmd⟩ : ∃ md, (if gi y k < gi x k then gi y k else gi x k) = md := ⟨_, rfl⟩
                          have HMU := Lib.hid (show upN x y (k + 1) = upN x y k ++ [mu] by rw [← hmu]; rfl)
                          have HMD := Lib.hid (show dnN x y (k + 1) = dnN x y k ++ [md] by rw [← hmd]; rfl)
                          have HW2 := Lib.hid (show ∀ j : Nat, j < k + 1 → withinB (gi x j) (-1048576) 1048576 = true ∧ withinB (gi y j) (-1048576) 1048576 = true from fun j hj => by
                            rcases Nat.lt_succ_iff_lt_or_eq.1 hj with h | rfl
                            · exact HW.out j h
                            · exact ⟨hw1, hw2⟩)
                          have HLU := Lib.hid (upN_len x y k)
                          have HLD := Lib.hid (dnN_len x y k)
                          go_upto_region 14 with (go_at_call 38; refine (lwithin_any _ _).mono ?_; rintro e w' ⟨rfl, rfl⟩)
                          obtain ⟨i0, hi0, hzz⟩ := Option.map_eq_some_iff.1 info3
                          simp only [Prod.mk.injEq] at hzz
                          have HI := Lib.hid hi0
                          have Hz0 := Lib.hid hzz.1
                          have Hz1 := Lib.hid hzz.2.1
                          have Hz2 := Lib.hid hzz.2.2
                          clear hi0 hzz
                          have HIU := Lib.hid (show wr.ownsRow w3.heap.size 3 1 u13 k (ints (upN x y k)) by have := HT.out.u.row; rwa [HLU.out] at this)
                          have HNX := Lib.hid (show b1 < w3.heap.size ∧ b2 < w3.heap.size from ⟨Nat.lt_of_lt_of_le (ints_block HX.out hlt) HB3.out.size, Nat.lt_of_lt_of_le (ints_block HY.out hlty) HB3.out.size⟩)
                          have HNE1 := Lib.hid (show some (⟨b1, o1 + k, none⟩ : Addr).block ≠ u13.ownBlock from own_ne HT.out.u.row HNX.out.1)
                          have HNE2 := Lib.hid (show some (⟨b2, o2 + k, none⟩ : Addr).block ≠ u13.ownBlock from own_ne HT.out.u.row HNX.out.2)
                          go_region_held3 (fun w' => w'.cell? ⟨b1, o1 + k, none⟩ = some (.int .i64 (gi x k)) ∧ w'.cell? ⟨b2, o2 + k, none⟩ = some (.int .i64 (gi y k))) (first | exact ⟨g1, g2⟩ | exact ⟨cell_alloc _ g1, cell_alloc _ g2⟩ | exact ⟨hgrow5.cell (cell_alloc _ g1) HNE1.out, hgrow5.cell (cell_alloc _ g2) HNE2.out⟩) ((refine step_append_lies _ rfl (.tmp 97) (.tmp 107) 25 rfl w3.heap.size 3 i0 (.int .i64 0) 1 8 Try.underlying25 HI.out Hz0.out Hz1.out Hz2.out rfl (by omega) u13 k (ints (upN x y k)) (by simp [Act.eval, Act.put]) ?ho ⟨wr.heap.size, 0, none⟩ 1 1 [.int .i64 mu] (by simp [Act.eval, Act.put]) rfl ?hn (one1 _ _) (by omega) (by unfold maxLen; omega) (by omega) ?hbb (wr.heap.size + 1) ?hH ?_; (case ho => exact HIU.out.alloc _); (case hn => exact news_new _ [.int .i64 mu] 3 _ rfl); (case hbb => have := HT.out.u.hB; simp; omega); (case hH => simp); intro g5 cap5 w5 hown5 hgrow5 hat5 hlt5))
                          all_goals
                            have HT2 := Lib.hid (HT.out.up (v := mu) (by rw [HLU.out]; exact hown5) (grown_news hgrow5) (lies_at hat5))
                            have g1 := hgrow5.cell (cell_alloc _ g1) HNE1.out
                            have g2 := hgrow5.cell (cell_alloc _ g2) HNE2.out
                            have l1 := World.block_lt_of_cell? _ _ g1
                            have l2 := World.block_lt_of_cell? _ _ g2
                            clear hgrow5 hown5 hat5
                            go_upto_region 15 with fail
                            have HIU2 := Lib.hid (show w5.ownsRow w3.heap.size 3 1 u14 k (ints (dnN x y k)) by have := HT2.out.d.row; rwa [HLD.out] at this)
                            have HNE3 := Lib.hid (show some (⟨b1, o1 + k, none⟩ : Addr).block ≠ u14.ownBlock from own_ne HT2.out.d.row HNX.out.1)
                            have HNE4 := Lib.hid (show some (⟨b2, o2 + k, none⟩ : Addr).block ≠ u14.ownBlock from own_ne HT2.out.d.row HNX.out.2)
                            go_region_held3 (fun w' => w'.cell? ⟨b1, o1 + k, none⟩ = some (.int .i64 (gi x k)) ∧ w'.cell? ⟨b2, o2 + k, none⟩ = some (.int .i64 (gi y k))) (first | exact ⟨g1, g2⟩ | exact ⟨cell_alloc _ g1, cell_alloc _ g2⟩ | exact ⟨hgrow6.cell (cell_alloc _ g1) HNE3.out, hgrow6.cell (cell_alloc _ g2) HNE4.out⟩) ((refine step_append_lies _ rfl (.tmp 109) (.tmp 119) 25 rfl w3.heap.size 3 i0 (.int .i64 0) 1 8 Try.underlying25 HI.out Hz0.out Hz1.out Hz2.out rfl (by omega) u14 k (ints (dnN x y k)) (by simp [Act.eval, Act.put]) ?ho ⟨w5.heap.size, 0, none⟩ 1 1 [.int .i64 md] (by simp [Act.eval, Act.put]) rfl ?hn (one1 _ _) (by omega) (by unfold maxLen; omega) (by omega) ?hbb (w5.heap.size + 1) ?hH ?_; (case ho => exact HIU2.out.alloc _); (case hn => exact news_new _ [.int .i64 md] 3 _ rfl); (case hbb => have := HT2.out.u.hB; simp; omega); (case hH => simp); intro g6 cap6 w6 hown6 hgrow6 hat6 hlt6))
                            all_goals
                              have HT4 := Lib.hid (HT2.out.swap.up (v := md) (by rw [HLD.out]; exact hown6) (grown_news hgrow6) (lies_at hat6)).swap
                              clear hgrow6 hown6 hat6
                              go_wp2_with fail
                              go_roundw
                              case rel => exact ⟨k + 1, by omega, by go_num, Lib.hid (by rw [HMU.out, HMD.out]; exact HT4.out), HW2⟩
                              case measure => simp [intOf]; omega
                    · obtain rfl : k = x.length := by omega
                      have hlaw := HL.out hb2 HXY.out hb1 HVX0.out HVY0.out (inL_of HW.out 0) (inL_of (fun j hj => ⟨(HW.out j (by rw [HXY.out]; exact hj)).2, (HW.out j (by rw [HXY.out]; exact hj)).2⟩) 0)
                      obtain ⟨q1, q2, q3, q4, q5, q6⟩ := hlaw
                      obtain ⟨A5, c5, hu5, hv5, _⟩ := own_intsV HT.out.u.row
                      obtain ⟨A6, c6, hu6, hv6, _⟩ := own_intsV HT.out.d.row
                      subst hu5 hu6
                      have HBE := Lib.hid (below_trans HB3.out HT.out.u.below)
                      have c0 := cell_below HT.out.u.below HC.out.1
                      have c1 := cell_below HT.out.u.below HC.out.2
                      have lw := World.block_lt_of_cell? _ _ c0
                      have HV5 := Lib.hid hv5
                      have HV6 := Lib.hid hv6
                      have hl5 : (upN x y x.length).length ≤ 60 := by rw [upN_len]; exact hb2
                      have hl6 : (dnN x y x.length).length ≤ 60 := by rw [dnN_len]; exact hb2
                      have HF5 := Lib.hid (fun W h1 h2 => Fits_any n A c l A5 c5 (upN x y x.length) W hl (by omega) h1 h2)
                      have HF6 := Lib.hid (fun W h1 h2 => Fits_any n A c l A6 c6 (dnN x y x.length) W hl (by omega) h1 h2)
                      rw [q1] at HF5
                      rw [q2] at HF6
                      have HG1 := Lib.hid (fun W h1 h2 h3 => Value_any n A c l C f u B d x W hl (by omega) (by omega) h1 h2 h3)
                      have HG2 := Lib.hid (fun W h1 h2 h3 => Value_any n A c l C f u D g y W hl (by omega) (by omega) h1 h2 h3)
                      have HG3 := Lib.hid (fun W h1 h2 h3 => Value_any n A c l C f u A5 c5 (upN x y x.length) W hl (by omega) (by omega) h1 h2 h3)
                      have HG4 := Lib.hid (fun W h1 h2 h3 => Value_any n A c l C f u A6 c6 (dnN x y x.length) W hl (by omega) (by omega) h1 h2 h3)
                      generalize upN x y x.length = up at *
                      generalize dnN x y x.length = dn at *
                      generalize valueR n l u x = vx at *
                      generalize valueR n l u y = vy at *
                      generalize valueR n l u up = vu at *
                      generalize valueR n l u dn = vd at *
                      obtain ⟨ax, ex⟩ := vx
                      obtain ⟨ay, ey⟩ := vy
                      obtain ⟨au, eu⟩ := vu
                      obtain ⟨ad, ed⟩ := vd
                      simp only at q3 q4 q5 q6
                      subst q3 q4 q5
                      have hsum : (wrap64 (ax + ay) == wrap64 (au + ad)) = true := by simpa using q6
                      clear q1 q2 q6 hv5 hv6 HT HW HC hlt hk
                      go_wp2_with (first | (go_at_call 37; refine (HF5.out _ (HA.out.below HBE.out) HV5.out).mono ?_; rintro e w1 ⟨rfl, hb⟩; have HE1 := Lib.hid (below_trans HBE.out hb); have HQ1 := Lib.hid (hb); have c0 := cell_below hb c0; have c1 := cell_below hb c1; have lw := World.block_lt_of_cell? _ _ c0; clear hb HF5) | (go_at_call 37; refine (HF6.out _ (HA.out.below HE1.out) (HV6.out.below (HQ1.out))).mono ?_; rintro e w2 ⟨rfl, hb⟩; have HE2 := Lib.hid (below_trans HE1.out hb); have HQ2 := Lib.hid (below_trans HQ1.out hb); have c0 := cell_below hb c0; have c1 := cell_below hb c1; have lw := World.block_lt_of_cell? _ _ c0; clear hb HF6) | (go_at_call 39; refine (HG1.out _ (HA.out.below HE2.out) (HU.out.below HE2.out) (HX.out.below HE2.out)).mono ?_; rintro e w3 ⟨rfl, hb⟩; have HE3 := Lib.hid (below_trans HE2.out hb); have HQ3 := Lib.hid (below_trans HQ2.out hb); have c0 := cell_below hb c0; have c1 := cell_below hb c1; have lw := World.block_lt_of_cell? _ _ c0; clear hb HG1) | (go_at_call 39; refine (HG2.out _ (HA.out.below HE3.out) (HU.out.below HE3.out) (HY.out.below HE3.out)).mono ?_; rintro e w4 ⟨rfl, hb⟩; have HE4 := Lib.hid (below_trans HE3.out hb); have HQ4 := Lib.hid (below_trans HQ3.out hb); have c0 := cell_below hb c0; have c1 := cell_below hb c1; have lw := World.block_lt_of_cell? _ _ c0; clear hb HG2) | (go_at_call 39; refine (HG3.out _ (HA.out.below HE4.out) (HU.out.below HE4.out) (HV5.out.below HQ4.out)).mono ?_; rintro e w5 ⟨rfl, hb⟩; have HE5 := Lib.hid (below_trans HE4.out hb); have HQ5 := Lib.hid (below_trans HQ4.out hb); have c0 := cell_below hb c0; have c1 := cell_below hb c1; have lw := World.block_lt_of_cell? _ _ c0; clear hb HG3) | (go_at_call 39; refine (HG4.out _ (HA.out.below HE5.out) (HU.out.below HE5.out) (HV6.out.below HQ5.out)).mono ?_; rintro e w6 ⟨rfl, hb⟩; have HE6 := Lib.hid (below_trans HE5.out hb); have c0 := cell_below hb c0; have c1 := cell_below hb c1; have lw := World.block_lt_of_cell? _ _ c0; clear hb HG4) | (go_at_call 17; refine (sanity_any _).mono ?_; rintro e wz ⟨rfl, hb⟩; have HBz := Lib.hid (below_trans HE6.out hb); clear hb))
                      go_ret
                      exact ⟨rfl, HBz.out⟩
            · go_wp2_with (go_at_call 17; refine (sanity_any _).mono ?_; rintro e wz ⟨rfl, hb⟩; have HBz := Lib.hid (below_trans HB3.out hb); clear hb)
              go_ret
              exact ⟨rfl, HBz.out⟩
          · go_wp2_with (go_at_call 17; refine (sanity_any _).mono ?_; rintro e wz ⟨rfl, hb⟩; have HBz := Lib.hid (below_trans HB3.out hb); clear hb)
            go_ret
            exact ⟨rfl, HBz.out⟩
        · have hxy' : ((x.length : Int) != (y.length : Int)) = true := by simp; omega
          go_enter Try.func6, Try.ntmps6
          go_wp2_with (first | (go_at_call 27; refine (small_any n A c l.length _).mono ?_; rw [hs]; rintro e w1 ⟨rfl, hb⟩; have HB := Lib.hid (boxed hb).1; clear hb) | (go_at_call 17; refine (sanity_any _).mono ?_; rintro e w2 ⟨rfl, hb⟩; have HB2 := Lib.hid (below_trans HB.out hb); clear hb))
          go_ret
          exact ⟨rfl, HB2.out⟩
end Go.Proofs.Ytmhiiomejopaoaa
