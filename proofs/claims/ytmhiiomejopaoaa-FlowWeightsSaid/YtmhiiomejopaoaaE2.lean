/- The flow laws: weights, its walk. -/
import Derived.Test.YtmhiiomejopaoaaE1
import Derived.Test.YtmhiiomejopaoaaN2
namespace Go.Proofs.Ytmhiiomejopaoaa
set_option linter.all false
open Go.RowKit

def NeB (p q : Value) : Prop := p.ownBlock = none ∨ q.ownBlock = none ∨ p.ownBlock ≠ q.ownBlock
structure ThreeN (W0 wr : World) (p q r : Value) (a b c : List Int) : Prop where
  u : OwnN W0.heap.size W0 wr p a
  d : OwnN W0.heap.size W0 wr q b
  e : OwnN W0.heap.size W0 wr r c
  ud : NeB p q
  de : NeB q r
  eu : NeB r p
theorem NeB.swap {p q : Value} (h : NeB p q) : NeB q p := by
  rcases h with e | e | e
  · exact .inr (.inl e)
  · exact .inl e
  · exact .inr (.inr fun e2 => e e2.symm)
theorem NeB.up {W0 wr : World} {p p' q : Value} {b : List Int} (h : NeB p q) (hq : OwnN W0.heap.size W0 wr q b) (hat : p'.ownBlock = p.ownBlock ∨ ∃ b, p'.ownBlock = some b ∧ wr.heap.size ≤ b) : NeB p' q := by
  rcases hat with e | ⟨b', e, hb⟩
  · unfold NeB; rw [e]; exact h
  · right
    cases hq2 : q.ownBlock with
    | none => exact .inl rfl
    | some k =>
      right
      have := (hq.row.lt k hq2).2
      rw [e]
      intro e2
      have := Option.some.inj e2
      omega
theorem NeB.keep {W0 wr w' : World} {p q : Value} {b : List Int} (h : NeB p q) (hq : OwnN W0.heap.size W0 wr q b) (hg : wr.grownBy w' p.ownBlock) (hb : Below W0.heap.size W0 w') (hB : W0.heap.size ≤ w'.heap.size) : OwnN W0.heap.size W0 w' q b := by
  refine ⟨hq.row.kept hg ?_, hb, hB⟩
  rcases h with e | e | e
  · rw [e]; cases q.ownBlock <;> simp
  · exact .inl e
  · exact .inr (fun e2 => e e2.symm)
theorem ThreeN.up {W0 wr w' : World} {p q r p' : Value} {a b c : List Int} {v : Int} (h : ThreeN W0 wr p q r a b c) (ho : w'.ownsRow W0.heap.size 3 1 p' (a.length + 1) (ints a ++ [.int .i64 v])) (hg : wr.grownBy w' p.ownBlock) (hat : p'.ownBlock = p.ownBlock ∨ ∃ b, p'.ownBlock = some b ∧ wr.heap.size ≤ b) : ThreeN W0 w' p' q r (a ++ [v]) b c := by
  have hu := h.u.appended ho hg
  exact ⟨hu, h.ud.keep h.d hg hu.below hu.hB, h.eu.swap.keep h.e hg hu.below hu.hB, h.ud.up h.d hat, h.de, (h.eu.swap.up h.e hat).swap⟩
theorem ThreeN.rot {W0 wr : World} {p q r : Value} {a b c : List Int} (h : ThreeN W0 wr p q r a b c) : ThreeN W0 wr q r p b c a := ⟨h.d, h.e, h.u, h.de, h.eu, h.ud⟩
theorem lks_one {w : World} {b : Nat} {k : Lk} (h : w.heap[b]? = some (.cells (lkcs [k]).toArray 39)) : LksAt w (some ⟨b, 0, none⟩) [k] := lks_lit h
set_option maxRecDepth 100000 in
set_option maxHeartbeats 40000000 in
theorem weights_walk (n : Int) (A : Option Addr) (c : Nat) (l : List Lk) (C : Option Addr) (f : Nat) (p : List Int) (D : Option Addr) (g : Nat) (v : List Int) (kk : Int) (ma mb mm : Int) (w : World)
    (h : LksAt w A l) (hn : A = none → l.length = 0 ∧ c = 0) (h1 : IntsAt w C p) (h2 : IntsAt w D v) (hl : l.length ≤ 9223372036854775807) (hp : p.length ≤ 9223372036854775807) (hv : v.length ≤ 9223372036854775807)
    (law : askedI n l p = 0 → askedI n l v = 0 → smallB n l.length = true → 0 ≤ kk → kk ≤ 5 → (∀ j : Nat, j < p.length → (-9000 ≤ gi p j ∧ gi p j ≤ 9000) ∧ -9000 ≤ gi v j ∧ gi v j ≤ 9000) → ∃ rp rv rt rs rn, WeightsOk n l p v kk ⟨ma, mb, mm⟩ rp rv rt rs rn) :
    Calls Try.prog 4 #[.agg #[.int .i64 n, .slice A l.length c], .slice C p.length f, .slice D v.length g, .int .i64 kk, .agg #[.int .i64 ma, .int .i64 mb, .int .i64 mm]] w fun e w' => e = .returned (.bool true) ∧ Below w.heap.size w w' := by
  have HA := Lib.hid h
  have HP := Lib.hid h1
  have HV := Lib.hid h2
  have HN := Lib.hid hn
  have HL := Lib.hid law
  clear h h1 h2 hn law
  cases hs : smallB n l.length
  · skip
    go_enter Try.func4, Try.ntmps4
    go_wp2_with (first | (go_at_call 27; refine (small_any n A c l.length _).mono ?_; rw [hs]; rintro e w1 ⟨rfl, hb⟩; have HB := Lib.hid (below_trans (show Below w.heap.size w ((w.alloc (.cells #[.int .i64 n, .slice A l.length c] 24)).alloc (.cells #[.int .i64 ma, .int .i64 mb, .int .i64 mm] 39)) from bel) hb); have c0 := cell_below (a := ⟨w.heap.size, 0, none⟩) (v := .int .i64 n) hb (by go_simp); have c1 := cell_below (a := ⟨w.heap.size, 1, none⟩) (v := .slice A l.length c) hb (by go_simp); have m0 := cell_below (a := ⟨w.heap.size + 1, 0, none⟩) (v := .int .i64 ma) hb (by go_simp); have m1 := cell_below (a := ⟨w.heap.size + 1, 1, none⟩) (v := .int .i64 mb) hb (by go_simp); have m2 := cell_below (a := ⟨w.heap.size + 1, 2, none⟩) (v := .int .i64 mm) hb (by go_simp); have lw := World.block_lt_of_cell? _ _ c0; have lm := World.block_lt_of_cell? _ _ m0; clear hb) | (go_at_call 17; refine (sanity_any _).mono ?_; rintro e wz ⟨rfl, hb⟩; have HBz := Lib.hid (below_trans HB.out hb); clear hb))
    go_ret
    exact ⟨rfl, HBz.out⟩
  · have hl2 := small_len hs
    by_cases hp60 : 60 < p.length
    · skip
      go_enter Try.func4, Try.ntmps4
      go_wp2_with (first | (go_at_call 27; refine (small_any n A c l.length _).mono ?_; rw [hs]; rintro e w1 ⟨rfl, hb⟩; have HB := Lib.hid (below_trans (show Below w.heap.size w ((w.alloc (.cells #[.int .i64 n, .slice A l.length c] 24)).alloc (.cells #[.int .i64 ma, .int .i64 mb, .int .i64 mm] 39)) from bel) hb); have c0 := cell_below (a := ⟨w.heap.size, 0, none⟩) (v := .int .i64 n) hb (by go_simp); have c1 := cell_below (a := ⟨w.heap.size, 1, none⟩) (v := .slice A l.length c) hb (by go_simp); have m0 := cell_below (a := ⟨w.heap.size + 1, 0, none⟩) (v := .int .i64 ma) hb (by go_simp); have m1 := cell_below (a := ⟨w.heap.size + 1, 1, none⟩) (v := .int .i64 mb) hb (by go_simp); have m2 := cell_below (a := ⟨w.heap.size + 1, 2, none⟩) (v := .int .i64 mm) hb (by go_simp); have lw := World.block_lt_of_cell? _ _ c0; have lm := World.block_lt_of_cell? _ _ m0; clear hb) | (go_at_call 17; refine (sanity_any _).mono ?_; rintro e wz ⟨rfl, hb⟩; have HBz := Lib.hid (below_trans HB.out hb); clear hb))
      go_ret
      exact ⟨rfl, HBz.out⟩
    · skip
      cases hpv : ((v.length : Int) != (p.length : Int))
      case true => 
        go_enter Try.func4, Try.ntmps4
        go_wp2_with (first | (go_at_call 27; refine (small_any n A c l.length _).mono ?_; rw [hs]; rintro e w1 ⟨rfl, hb⟩; have HB := Lib.hid (below_trans (show Below w.heap.size w ((w.alloc (.cells #[.int .i64 n, .slice A l.length c] 24)).alloc (.cells #[.int .i64 ma, .int .i64 mb, .int .i64 mm] 39)) from bel) hb); have c0 := cell_below (a := ⟨w.heap.size, 0, none⟩) (v := .int .i64 n) hb (by go_simp); have c1 := cell_below (a := ⟨w.heap.size, 1, none⟩) (v := .slice A l.length c) hb (by go_simp); have m0 := cell_below (a := ⟨w.heap.size + 1, 0, none⟩) (v := .int .i64 ma) hb (by go_simp); have m1 := cell_below (a := ⟨w.heap.size + 1, 1, none⟩) (v := .int .i64 mb) hb (by go_simp); have m2 := cell_below (a := ⟨w.heap.size + 1, 2, none⟩) (v := .int .i64 mm) hb (by go_simp); have lw := World.block_lt_of_cell? _ _ c0; have lm := World.block_lt_of_cell? _ _ m0; clear hb) | (go_at_call 17; refine (sanity_any _).mono ?_; rintro e wz ⟨rfl, hb⟩; have HBz := Lib.hid (below_trans HB.out hb); clear hb))
        go_ret
        exact ⟨rfl, HBz.out⟩
      case false =>
        have HPV := Lib.hid (show p.length = v.length by have h := hpv; simp at h; omega)
        by_cases hk0 : kk < 0
        · skip
          go_enter Try.func4, Try.ntmps4
          go_wp2_with (first | (go_at_call 27; refine (small_any n A c l.length _).mono ?_; rw [hs]; rintro e w1 ⟨rfl, hb⟩; have HB := Lib.hid (below_trans (show Below w.heap.size w ((w.alloc (.cells #[.int .i64 n, .slice A l.length c] 24)).alloc (.cells #[.int .i64 ma, .int .i64 mb, .int .i64 mm] 39)) from bel) hb); have c0 := cell_below (a := ⟨w.heap.size, 0, none⟩) (v := .int .i64 n) hb (by go_simp); have c1 := cell_below (a := ⟨w.heap.size, 1, none⟩) (v := .slice A l.length c) hb (by go_simp); have m0 := cell_below (a := ⟨w.heap.size + 1, 0, none⟩) (v := .int .i64 ma) hb (by go_simp); have m1 := cell_below (a := ⟨w.heap.size + 1, 1, none⟩) (v := .int .i64 mb) hb (by go_simp); have m2 := cell_below (a := ⟨w.heap.size + 1, 2, none⟩) (v := .int .i64 mm) hb (by go_simp); have lw := World.block_lt_of_cell? _ _ c0; have lm := World.block_lt_of_cell? _ _ m0; clear hb) | (go_at_call 17; refine (sanity_any _).mono ?_; rintro e wz ⟨rfl, hb⟩; have HBz := Lib.hid (below_trans HB.out hb); clear hb))
          go_ret
          exact ⟨rfl, HBz.out⟩
        · skip
          by_cases hk5 : 5 < kk
          · skip
            go_enter Try.func4, Try.ntmps4
            go_wp2_with (first | (go_at_call 27; refine (small_any n A c l.length _).mono ?_; rw [hs]; rintro e w1 ⟨rfl, hb⟩; have HB := Lib.hid (below_trans (show Below w.heap.size w ((w.alloc (.cells #[.int .i64 n, .slice A l.length c] 24)).alloc (.cells #[.int .i64 ma, .int .i64 mb, .int .i64 mm] 39)) from bel) hb); have c0 := cell_below (a := ⟨w.heap.size, 0, none⟩) (v := .int .i64 n) hb (by go_simp); have c1 := cell_below (a := ⟨w.heap.size, 1, none⟩) (v := .slice A l.length c) hb (by go_simp); have m0 := cell_below (a := ⟨w.heap.size + 1, 0, none⟩) (v := .int .i64 ma) hb (by go_simp); have m1 := cell_below (a := ⟨w.heap.size + 1, 1, none⟩) (v := .int .i64 mb) hb (by go_simp); have m2 := cell_below (a := ⟨w.heap.size + 1, 2, none⟩) (v := .int .i64 mm) hb (by go_simp); have lw := World.block_lt_of_cell? _ _ c0; have lm := World.block_lt_of_cell? _ _ m0; clear hb) | (go_at_call 17; refine (sanity_any _).mono ?_; rintro e wz ⟨rfl, hb⟩; have HBz := Lib.hid (below_trans HB.out hb); clear hb))
            go_ret
            exact ⟨rfl, HBz.out⟩
          · skip
            have HHP := Lib.hid (fun W h1 h2 => checkW_any n A c l C f p W (by omega) (by omega) h1 h2)
            have HHV := Lib.hid (fun W h1 h2 => checkW_any n A c l D g v W (by omega) (by have := HPV.out; omega) h1 h2)
            by_cases ha : askedI n l p = 0
            case neg =>
              have ha' : (askedI n l p != 0) = true := by simpa using ha
              clear ha HL
              go_enter Try.func4, Try.ntmps4
              go_wp2_with (first | (go_at_call 27; refine (small_any n A c l.length _).mono ?_; rw [hs]; rintro e w1 ⟨rfl, hb⟩; have HB := Lib.hid (below_trans (show Below w.heap.size w ((w.alloc (.cells #[.int .i64 n, .slice A l.length c] 24)).alloc (.cells #[.int .i64 ma, .int .i64 mb, .int .i64 mm] 39)) from bel) hb); have c0 := cell_below (a := ⟨w.heap.size, 0, none⟩) (v := .int .i64 n) hb (by go_simp); have c1 := cell_below (a := ⟨w.heap.size, 1, none⟩) (v := .slice A l.length c) hb (by go_simp); have m0 := cell_below (a := ⟨w.heap.size + 1, 0, none⟩) (v := .int .i64 ma) hb (by go_simp); have m1 := cell_below (a := ⟨w.heap.size + 1, 1, none⟩) (v := .int .i64 mb) hb (by go_simp); have m2 := cell_below (a := ⟨w.heap.size + 1, 2, none⟩) (v := .int .i64 mm) hb (by go_simp); have lw := World.block_lt_of_cell? _ _ c0; have lm := World.block_lt_of_cell? _ _ m0; clear hb) | (go_at_call 28; (refine (HHP.out _ (HA.out.below HB.out) (HP.out.below HB.out)).mono ?_; rintro e w2 ⟨rfl, hb⟩; have HB2 := Lib.hid (below_trans HB.out hb); have c0 := cell_below hb c0; have c1 := cell_below hb c1; have m0 := cell_below hb m0; have m1 := cell_below hb m1; have m2 := cell_below hb m2; have lw := World.block_lt_of_cell? _ _ c0; have lm := World.block_lt_of_cell? _ _ m0; clear hb HHP)) | (go_at_call 17; refine (sanity_any _).mono ?_; rintro e wz ⟨rfl, hb⟩; have HBz := Lib.hid (below_trans HB2.out hb); clear hb))
              go_ret
              exact ⟨rfl, HBz.out⟩
            case pos =>
              by_cases hb : askedI n l v = 0
              case neg =>
                have hb' : (askedI n l v != 0) = true := by simpa using hb
                rw [ha] at HHP
                clear ha hb HL
                go_enter Try.func4, Try.ntmps4
                go_wp2_with (first | (go_at_call 27; refine (small_any n A c l.length _).mono ?_; rw [hs]; rintro e w1 ⟨rfl, hb⟩; have HB := Lib.hid (below_trans (show Below w.heap.size w ((w.alloc (.cells #[.int .i64 n, .slice A l.length c] 24)).alloc (.cells #[.int .i64 ma, .int .i64 mb, .int .i64 mm] 39)) from bel) hb); have c0 := cell_below (a := ⟨w.heap.size, 0, none⟩) (v := .int .i64 n) hb (by go_simp); have c1 := cell_below (a := ⟨w.heap.size, 1, none⟩) (v := .slice A l.length c) hb (by go_simp); have m0 := cell_below (a := ⟨w.heap.size + 1, 0, none⟩) (v := .int .i64 ma) hb (by go_simp); have m1 := cell_below (a := ⟨w.heap.size + 1, 1, none⟩) (v := .int .i64 mb) hb (by go_simp); have m2 := cell_below (a := ⟨w.heap.size + 1, 2, none⟩) (v := .int .i64 mm) hb (by go_simp); have lw := World.block_lt_of_cell? _ _ c0; have lm := World.block_lt_of_cell? _ _ m0; clear hb) | (go_at_call 28; (refine (HHP.out _ (HA.out.below HB.out) (HP.out.below HB.out)).mono ?_; rintro e w2 ⟨rfl, hb⟩; have HB2 := Lib.hid (below_trans HB.out hb); have c0 := cell_below hb c0; have c1 := cell_below hb c1; have m0 := cell_below hb m0; have m1 := cell_below hb m1; have m2 := cell_below hb m2; have lw := World.block_lt_of_cell? _ _ c0; have lm := World.block_lt_of_cell? _ _ m0; clear hb HHP)) | (go_at_call 28; refine (HHV.out _ (HA.out.below HB2.out) (HV.out.below HB2.out)).mono ?_; rintro e w3 ⟨rfl, hb⟩; have HB3 := Lib.hid (below_trans HB2.out hb); have c0 := cell_below hb c0; have c1 := cell_below hb c1; have m0 := cell_below hb m0; have m1 := cell_below hb m1; have m2 := cell_below hb m2; have lw := World.block_lt_of_cell? _ _ c0; have lm := World.block_lt_of_cell? _ _ m0; clear hb HHV) | (go_at_call 17; refine (sanity_any _).mono ?_; rintro e wz ⟨rfl, hb⟩; have HBz := Lib.hid (below_trans HB3.out hb); clear hb))
                go_ret
                exact ⟨rfl, HBz.out⟩
              case pos =>
                rw [ha] at HHP
                rw [hb] at HHV
                have HLW := Lib.hid (HL.out ha hb hs (by omega) (by omega))
                have HAB := Lib.hid (And.intro ha hb)
                have HLE := Lib.hid (show l.length ≤ 270 ∧ p.length ≤ 60 ∧ v.length = p.length by have := HPV.out; omega)
                clear ha hb HL
                go_enter Try.func4, Try.ntmps4
                go_upto_region 7 with (first | (go_at_call 27; refine (small_any n A c l.length _).mono ?_; rw [hs]; rintro e w1 ⟨rfl, hb⟩; have HB := Lib.hid (below_trans (show Below w.heap.size w ((w.alloc (.cells #[.int .i64 n, .slice A l.length c] 24)).alloc (.cells #[.int .i64 ma, .int .i64 mb, .int .i64 mm] 39)) from bel) hb); have c0 := cell_below (a := ⟨w.heap.size, 0, none⟩) (v := .int .i64 n) hb (by go_simp); have c1 := cell_below (a := ⟨w.heap.size, 1, none⟩) (v := .slice A l.length c) hb (by go_simp); have m0 := cell_below (a := ⟨w.heap.size + 1, 0, none⟩) (v := .int .i64 ma) hb (by go_simp); have m1 := cell_below (a := ⟨w.heap.size + 1, 1, none⟩) (v := .int .i64 mb) hb (by go_simp); have m2 := cell_below (a := ⟨w.heap.size + 1, 2, none⟩) (v := .int .i64 mm) hb (by go_simp); have lw := World.block_lt_of_cell? _ _ c0; have lm := World.block_lt_of_cell? _ _ m0; clear hb) | (go_at_call 28; (refine (HHP.out _ (HA.out.below HB.out) (HP.out.below HB.out)).mono ?_; rintro e w2 ⟨rfl, hb⟩; have HB2 := Lib.hid (below_trans HB.out hb); have c0 := cell_below hb c0; have c1 := cell_below hb c1; have m0 := cell_below hb m0; have m1 := cell_below hb m1; have m2 := cell_below hb m2; have lw := World.block_lt_of_cell? _ _ c0; have lm := World.block_lt_of_cell? _ _ m0; clear hb HHP)) | (go_at_call 28; refine (HHV.out _ (HA.out.below HB2.out) (HV.out.below HB2.out)).mono ?_; rintro e w3 ⟨rfl, hb⟩; have HB3 := Lib.hid (below_trans HB2.out hb); have c0 := cell_below hb c0; have c1 := cell_below hb c1; have m0 := cell_below hb m0; have m1 := cell_below hb m1; have m2 := cell_below hb m2; have lw := World.block_lt_of_cell? _ _ c0; have lm := World.block_lt_of_cell? _ _ m0; clear hb HHV))
                have HC := Lib.hid (And.intro c0 (And.intro c1 (And.intro m0 (And.intro m1 m2))))
                clear c0 c1 m0 m1 m2 lw lm
                go_loopw [11, 12, 13, 14] (fun x y z i wr => ∃ k : Nat, k ≤ p.length ∧ i = .int .i64 k ∧ Hid (ThreeN w3 wr x y z (mkN (fun j => wrap64 (kk * gi p j)) k) (mkN (fun j => wrap64 (gi p j + gi v j)) k) (mkN (fun j => wrap64 (0 - gi p j)) k)) ∧ Hid (∀ j : Nat, j < k → (-9000 ≤ gi p j ∧ gi p j ≤ 9000) ∧ -9000 ≤ gi v j ∧ gi v j ≤ 9000)) (fun _ _ _ i _ => p.length - (intOf i).toNat)
                case atStart => exact ⟨0, by omega, rfl, Lib.hid ⟨⟨World.ownsRow_nil _ _ _ _, Below.refl _ _, Nat.le_refl _⟩, ⟨World.ownsRow_nil _ _ _ _, Below.refl _ _, Nat.le_refl _⟩, ⟨World.ownsRow_nil _ _ _ _, Below.refl _ _, Nat.le_refl _⟩, .inl rfl, .inl rfl, .inl rfl⟩, Lib.hid (fun j hj => by omega)⟩
                case round =>
                  obtain ⟨k, hk, rfl, HT, HW⟩ := hrel
                  by_cases hlt : k < p.length
                  case pos =>
                    have hltv : k < v.length := by have := HPV.out; omega
                    have HBR := Lib.hid (below_trans HB3.out HT.out.u.below)
                    obtain ⟨b1, o1, rfl, g1⟩ := (HP.out.below HBR.out).nat k hlt
                    obtain ⟨b2, o2, rfl, g2⟩ := (HV.out.below HBR.out).nat k hltv
                    have l1 := World.block_lt_of_cell? _ _ g1
                    have l2 := World.block_lt_of_cell? _ _ g2
                    have hlvi : (k : Int) < (v.length : Int) := by omega
                    by_cases t1 : gi p k < -9000
                    case pos =>
                      go_wp2_with (go_at_call 17; refine (sanity_any _).mono ?_; rintro e wz ⟨rfl, hb⟩; have HBz := Lib.hid (below_trans HBR.out hb); clear hb)
                      go_ret
                      exact ⟨rfl, HBz.out⟩
                    case neg =>
                      by_cases t2 : 9000 < gi p k
                      case pos =>
                        go_wp2_with (go_at_call 17; refine (sanity_any _).mono ?_; rintro e wz ⟨rfl, hb⟩; have HBz := Lib.hid (below_trans HBR.out hb); clear hb)
                        go_ret
                        exact ⟨rfl, HBz.out⟩
                      case neg =>
                        by_cases t3 : gi v k < -9000
                        case pos =>
                          go_wp2_with (go_at_call 17; refine (sanity_any _).mono ?_; rintro e wz ⟨rfl, hb⟩; have HBz := Lib.hid (below_trans HBR.out hb); clear hb)
                          go_ret
                          exact ⟨rfl, HBz.out⟩
                        case neg =>
                          by_cases t4 : 9000 < gi v k
                          case pos =>
                            go_wp2_with (go_at_call 17; refine (sanity_any _).mono ?_; rintro e wz ⟨rfl, hb⟩; have HBz := Lib.hid (below_trans HBR.out hb); clear hb)
                            go_ret
                            exact ⟨rfl, HBz.out⟩
                          case neg =>
                            have HW2 := Lib.hid (show ∀ j : Nat, j < k + 1 → (-9000 ≤ gi p j ∧ gi p j ≤ 9000) ∧ -9000 ≤ gi v j ∧ gi v j ≤ 9000 from fun j hj => by
                              rcases Nat.lt_succ_iff_lt_or_eq.1 hj with h | rfl
                              · exact HW.out j h
                              · omega)
                            obtain ⟨tk, htk⟩ : ∃ tk, wrap64 (kk * gi p k) = tk := ⟨_, rfl⟩
                            obtain ⟨sk, hsk⟩ : ∃ sk, wrap64 (gi p k + gi v k) = sk := ⟨_, rfl⟩
                            have HM1 := Lib.hid (show mkN (fun j => wrap64 (kk * gi p j)) (k + 1) = mkN (fun j => wrap64 (kk * gi p j)) k ++ [tk] by rw [← htk]; rfl)
                            have HM2 := Lib.hid (show mkN (fun j => wrap64 (gi p j + gi v j)) (k + 1) = mkN (fun j => wrap64 (gi p j + gi v j)) k ++ [sk] by rw [← hsk]; rfl)
                            have HM3 := Lib.hid (show mkN (fun j => wrap64 (0 - gi p j)) (k + 1) = mkN (fun j => wrap64 (0 - gi p j)) k ++ [-gi p k] by show mkN (fun j => wrap64 (0 - gi p j)) k ++ [wrap64 (0 - gi p k)] = _; rw [wrap_in (by omega), Int.zero_sub])
                            have HSK := Lib.hid hsk
                            have HNX := Lib.hid (show b1 < w3.heap.size ∧ b2 < w3.heap.size from ⟨Nat.lt_of_lt_of_le (ints_block HP.out hlt) HB3.out.size, Nat.lt_of_lt_of_le (ints_block HV.out hltv) HB3.out.size⟩)
                            go_upto_region 12 with (at_builtin; refine app_one rfl _ _ 25 3 (.int .i64 0) 1 8 rfl Try.underlying25 info3 rfl (by omega) u11 _ _ [.int .i64 tk] rfl (by first | rfl | simp [Act.eval, Act.put]) rfl rfl (one1 _ _) w3.heap.size HT.out.u.row HT.out.u.hB (by rw [mkN_len]; omega) (by rw [mkN_len]; unfold maxLen; omega) ?_; intro v1 w4 ho hg hat; have g1 := hg.cell g1 (own_ne HT.out.u.row HNX.out.1); have g2 := hg.cell g2 (own_ne HT.out.u.row HNX.out.2); have HT2 := Lib.hid (HT.out.up ho hg hat).rot; clear ho hg hat; have l1 := World.block_lt_of_cell? _ _ g1; have l2 := World.block_lt_of_cell? _ _ g2)
                            obtain ⟨i0, hi0, hzz⟩ := Option.map_eq_some_iff.1 info3
                            simp only [Prod.mk.injEq] at hzz
                            have HI := Lib.hid hi0
                            have Hz0 := Lib.hid hzz.1
                            have Hz1 := Lib.hid hzz.2.1
                            have Hz2 := Lib.hid hzz.2.2
                            clear hi0 hzz
                            have HIU := Lib.hid (show w4.ownsRow w3.heap.size 3 1 u12 k (ints (mkN (fun j => wrap64 (gi p j + gi v j)) k)) by have := HT2.out.u.row; rwa [mkN_len] at this)
                            have HNE1 := Lib.hid (show some (⟨b1, o1 + k, none⟩ : Addr).block ≠ u12.ownBlock from own_ne HT2.out.u.row HNX.out.1)
                            have HNE2 := Lib.hid (show some (⟨b2, o2 + k, none⟩ : Addr).block ≠ u12.ownBlock from own_ne HT2.out.u.row HNX.out.2)
                            have hmx : k + 1 ≤ 61 := by have := HLE.out; omega
                            go_region_held3 (fun w' => w'.cell? ⟨b1, o1 + k, none⟩ = some (.int .i64 (gi p k)) ∧ w'.cell? ⟨b2, o2 + k, none⟩ = some (.int .i64 (gi v k))) (first | exact ⟨g1, g2⟩ | exact ⟨cell_alloc _ g1, cell_alloc _ g2⟩ | exact ⟨hgrow5.cell (cell_alloc _ g1) HNE1.out, hgrow5.cell (cell_alloc _ g2) HNE2.out⟩) (((try rw [IntWalk.i64_left]); (try rw [HSK.out]); refine step_append_lies _ rfl (.tmp 109) (.tmp 119) 25 rfl w3.heap.size 3 i0 (.int .i64 0) 1 8 Try.underlying25 HI.out Hz0.out Hz1.out Hz2.out rfl (by omega) u12 k (ints (mkN (fun j => wrap64 (gi p j + gi v j)) k)) (by simp [Act.eval, Act.put]) ?ho ⟨w4.heap.size, 0, none⟩ 1 1 [.int .i64 sk] (by simp [Act.eval, Act.put]) rfl ?hn (one1 _ _) (by omega) (by unfold maxLen; omega) (by omega) ?hbb (w4.heap.size + 1) ?hH ?_; (case ho => exact HIU.out.alloc _); (case hn => exact news_new _ [.int .i64 sk] 3 _ rfl); (case hbb => have := HT2.out.u.hB; simp; omega); (case hH => simp); intro g5 cap5 w5 hown5 hgrow5 hat5 hlt5))
                            all_goals
                              have HT3 := Lib.hid (HT2.out.up (v := sk) (by rw [mkN_len]; exact hown5) (grown_news hgrow5) (lies_at hat5)).rot
                              have g1 := hgrow5.cell (cell_alloc _ g1) HNE1.out
                              have g2 := hgrow5.cell (cell_alloc _ g2) HNE2.out
                              have l1 := World.block_lt_of_cell? _ _ g1
                              have l2 := World.block_lt_of_cell? _ _ g2
                              clear hgrow5 hown5 hat5
                              go_wp2_with (at_builtin; refine app_one rfl _ _ 25 3 (.int .i64 0) 1 8 rfl Try.underlying25 info3 rfl (by omega) u13 _ _ [.int .i64 (-gi p k)] rfl (by first | rfl | simp [Act.eval, Act.put]) rfl rfl (one1 _ _) w3.heap.size HT3.out.u.row HT3.out.u.hB (by rw [mkN_len]; omega) (by rw [mkN_len]; unfold maxLen; omega) ?_; intro v3 w6 ho hg hat; have HT4 := Lib.hid (HT3.out.up ho hg hat).rot; clear ho hg hat)
                              go_roundw
                              case rel => exact ⟨k + 1, by omega, by go_num, Lib.hid (by rw [HM1.out, HM2.out, HM3.out]; exact HT4.out), HW2⟩
                              case measure => simp [intOf]; omega
                  case neg =>
                    obtain rfl : k = p.length := by omega
                    obtain ⟨rp, rv, rt, rs, rn, hwo⟩ := HLW.out (fun j hj => HW.out j hj)
                    obtain ⟨a1, e1⟩ := rp
                    obtain ⟨a2, e2⟩ := rv
                    obtain ⟨a3, e3⟩ := rt
                    obtain ⟨a4, e4⟩ := rs
                    obtain ⟨a5, e5⟩ := rn
                    have HWO := Lib.hid hwo
                    clear hwo HLW
                    obtain ⟨T, hT⟩ : ∃ T, mkN (fun j => wrap64 (kk * gi p j)) p.length = T := ⟨_, rfl⟩
                    obtain ⟨S, hS⟩ : ∃ S, mkN (fun j => wrap64 (gi p j + gi v j)) p.length = S := ⟨_, rfl⟩
                    obtain ⟨N, hN⟩ : ∃ N, mkN (fun j => wrap64 (0 - gi p j)) p.length = N := ⟨_, rfl⟩
                    rw [hT, hS, hN] at HT
                    have HTL := Lib.hid (show T.length ≤ 1000000 ∧ S.length ≤ 1000000 ∧ N.length ≤ 1000000 by rw [← hT, ← hS, ← hN, mkN_len, mkN_len, mkN_len]; have := HLE.out; omega)
                    have HQT := Lib.hid (show MostP 2000000 n l T = some (a3, e3) by rw [← hT]; exact HWO.out.mt)
                    have HQS := Lib.hid (show MostP 2000000 n l S = some (a4, e4) by rw [← hS]; exact HWO.out.ms)
                    have HQN := Lib.hid (show MostP 2000000 n l N = some (a5, e5) by rw [← hN]; exact HWO.out.mn)
                    clear hT hS hN
                    obtain ⟨A5, c5, hu5, hv5, _⟩ := own_intsV HT.out.u.row
                    obtain ⟨A6, c6, hu6, hv6, _⟩ := own_intsV HT.out.d.row
                    obtain ⟨A7, c7, hu7, hv7, _⟩ := own_intsV HT.out.e.row
                    subst hu5 hu6 hu7
                    have HB10 := Lib.hid (below_trans HB3.out HT.out.u.below)
                    have HR10 := Lib.hid (Below.refl wr.heap.size wr)
                    have c0 := cell_below HT.out.u.below HC.out.1
                    have c1 := cell_below HT.out.u.below HC.out.2.1
                    have m0 := cell_below HT.out.u.below HC.out.2.2.1
                    have m1 := cell_below HT.out.u.below HC.out.2.2.2.1
                    have m2 := cell_below HT.out.u.below HC.out.2.2.2.2
                    have lw := World.block_lt_of_cell? _ _ c0
                    have lm := World.block_lt_of_cell? _ _ m0
                    have HV5 := Lib.hid hv5
                    have HV6 := Lib.hid hv6
                    have HV7 := Lib.hid hv7
                    clear hv5 hv6 hv7
                    have HML := Lib.hid (show l.length ≤ 1000 ∧ p.length ≤ 1000000 ∧ v.length ≤ 1000000 by have := HLE.out; omega)
                    have HM1 := Lib.hid (fun W h1 h2 => Most_any 2000000 _ n A c l C f p W HML.out.1 HML.out.2.1 h1 h2 HWO.out.mp)
                    have HM2 := Lib.hid (fun W h1 h2 => Most_any 2000000 _ n A c l D g v W HML.out.1 HML.out.2.2 h1 h2 HWO.out.mv)
                    have HM3 := Lib.hid (fun W h1 h2 => Most_any 2000000 _ n A c l A5 c5 T W HML.out.1 HTL.out.1 h1 h2 HQT.out)
                    have HM4 := Lib.hid (fun W h1 h2 => Most_any 2000000 _ n A c l A6 c6 S W HML.out.1 HTL.out.2.1 h1 h2 HQS.out)
                    have HM5 := Lib.hid (fun W h1 h2 => Least_any 2000000 _ n A c l C f p W HML.out.1 HML.out.2.1 h1 h2 HWO.out.least)
                    have HM6 := Lib.hid (fun W h1 h2 => Most_any 2000000 _ n A c l A7 c7 N W HML.out.1 HTL.out.2.2 h1 h2 HQN.out)
                    go_upto_region 20 with (first | (go_at_call 29; refine (HM1.out _ (HA.out.below HB10.out) (HP.out.below HB10.out)).mono ?_; rintro e w11 ⟨rfl, hb⟩; have HB11 := Lib.hid (below_trans HB10.out hb); have HR11 := Lib.hid (below_trans HR10.out hb); have c0 := cell_below hb c0; have c1 := cell_below hb c1; have m0 := cell_below hb m0; have m1 := cell_below hb m1; have m2 := cell_below hb m2; have lw := World.block_lt_of_cell? _ _ c0; have lm := World.block_lt_of_cell? _ _ m0; clear hb HM1) | (go_at_call 29; refine (HM2.out _ (HA.out.below HB11.out) (HV.out.below HB11.out)).mono ?_; rintro e w12 ⟨rfl, hb⟩; have HB12 := Lib.hid (below_trans HB11.out hb); have HR12 := Lib.hid (below_trans HR11.out hb); have c0 := cell_below hb c0; have c1 := cell_below hb c1; have m0 := cell_below hb m0; have m1 := cell_below hb m1; have m2 := cell_below hb m2; have lw := World.block_lt_of_cell? _ _ c0; have lm := World.block_lt_of_cell? _ _ m0; clear hb HM2) | (go_at_call 29; refine (HM3.out _ (HA.out.below HB12.out) (HV5.out.below HR12.out)).mono ?_; rintro e w13 ⟨rfl, hb⟩; have HB13 := Lib.hid (below_trans HB12.out hb); have HR13 := Lib.hid (below_trans HR12.out hb); have c0 := cell_below hb c0; have c1 := cell_below hb c1; have m0 := cell_below hb m0; have m1 := cell_below hb m1; have m2 := cell_below hb m2; have lw := World.block_lt_of_cell? _ _ c0; have lm := World.block_lt_of_cell? _ _ m0; clear hb HM3) | (go_at_call 29; refine (HM4.out _ (HA.out.below HB13.out) (HV6.out.below HR13.out)).mono ?_; rintro e w14 ⟨rfl, hb⟩; have HB14 := Lib.hid (below_trans HB13.out hb); have HR14 := Lib.hid (below_trans HR13.out hb); have c0 := cell_below hb c0; have c1 := cell_below hb c1; have m0 := cell_below hb m0; have m1 := cell_below hb m1; have m2 := cell_below hb m2; have lw := World.block_lt_of_cell? _ _ c0; have lm := World.block_lt_of_cell? _ _ m0; clear hb HM4) | (go_at_call 30; refine (HM5.out _ (HA.out.below HB14.out) (HP.out.below HB14.out)).mono ?_; rintro e w15 ⟨rfl, hb⟩; have HB15 := Lib.hid (below_trans HB14.out hb); have HR15 := Lib.hid (below_trans HR14.out hb); have c0 := cell_below hb c0; have c1 := cell_below hb c1; have m0 := cell_below hb m0; have m1 := cell_below hb m1; have m2 := cell_below hb m2; have lw := World.block_lt_of_cell? _ _ c0; have lm := World.block_lt_of_cell? _ _ m0; clear hb HM5) | (go_at_call 29; refine (HM6.out _ (HA.out.below HB15.out) (HV7.out.below HR15.out)).mono ?_; rintro e w16 ⟨rfl, hb⟩; have HB16 := Lib.hid (below_trans HB15.out hb); have HR16 := Lib.hid (below_trans HR15.out hb); have c0 := cell_below hb c0; have c1 := cell_below hb c1; have m0 := cell_below hb m0; have m1 := cell_below hb m1; have m2 := cell_below hb m2; have lw := World.block_lt_of_cell? _ _ c0; have lm := World.block_lt_of_cell? _ _ m0; clear hb HM6))
                    go_cut [177] from 165 (fun s wx => s = .bool false ∧ w16 = wx)
                    case first =>
                      cases ej : (e5 == 0)
                      · go_wp2_with fail
                        go_meet
                        exact ⟨rfl, rfl⟩
                      · go_wp2_with fail
                        go_meet
                        exact ⟨rfl, rfl⟩
                    case rest =>
                      obtain ⟨rfl, rfl⟩ := hcut
                      by_cases he : e1 = 0
                      case neg =>
                        have he2 : (e1 != 0) = true := by simpa using he
                        rcases HWO.out.no he with rfl | hee
                        · clear he
                          go_wp2_with (go_at_call 17; refine (sanity_any _).mono ?_; rintro e wz ⟨rfl, hb⟩; have HBz := Lib.hid (below_trans HB16.out hb); clear hb)
                          go_ret
                          exact ⟨rfl, HBz.out⟩
                        · obtain rfl : e1 = e3 := hee
                          clear he
                          cases hkk : (kk == 0)
                          · go_wp2_with (go_at_call 17; refine (sanity_any _).mono ?_; rintro e wz ⟨rfl, hb⟩; have HBz := Lib.hid (below_trans HB16.out hb); clear hb)
                            go_ret
                            exact ⟨rfl, HBz.out⟩
                          · go_wp2_with (go_at_call 17; refine (sanity_any _).mono ?_; rintro e wz ⟨rfl, hb⟩; have HBz := Lib.hid (below_trans HB16.out hb); clear hb)
                            go_ret
                            exact ⟨rfl, HBz.out⟩
                      case pos =>
                        subst he
                        obtain rfl : e3 = 0 := HWO.out.t2 rfl
                        obtain rfl : a3 = wrap64 (kk * a1) := HWO.out.t1 rfl
                        go_upto_region 24 with fail
                        go_cut [213] from 190 (fun s wx => s = .bool false ∧ w16 = wx)
                        case first =>
                          by_cases hf : e2 = 0
                          case pos =>
                            obtain rfl := hf
                            obtain rfl : e4 = 0 := HWO.out.s2 rfl rfl
                            have hle := HWO.out.s1 rfl rfl
                            have hle2 : ¬ wrap64 (a1 + a2) < a4 := by simp only at hle; omega
                            clear hle
                            go_wp2_with fail
                            go_meet
                            exact ⟨rfl, rfl⟩
                          case neg =>
                            have hf2 : (e2 == 0) = false := by simpa using hf
                            clear hf
                            go_wp2_with fail
                            go_meet
                            exact ⟨rfl, rfl⟩
                        case rest =>
                          obtain ⟨rfl, rfl⟩ := hcut
                          obtain ⟨wv, hwv⟩ : ∃ wv, withR n l [⟨ma, mb, mm⟩] = wv := ⟨_, rfl⟩
                          have HWI := Lib.hid (fun W B h1 h2 => with_any n A c l (some ⟨B, 0, none⟩) 1 [⟨ma, mb, mm⟩] W (by have := HML.out; simp; omega) HN.out (fun e => by cases e) h1 h2)
                          have hlw := HWO.out.w rfl
                          have HL2 := Lib.hid (show wv.1.2.length ≤ 1000 by
                            rw [← hwv]; unfold withR; have := HML.out
                            split
                            · exact Nat.zero_le _
                            · split
                              · exact Nat.zero_le _
                              · show (l ++ [_]).length ≤ 1000
                                rw [List.length_append, List.length_singleton]; have := HLE.out; omega)
                          rw [hwv] at HWI hlw
                          obtain ⟨⟨n2, l2⟩, e6⟩ := wv
                          have HWV := Lib.hid hwv
                          clear hwv
                          by_cases h6 : e6 = 0
                          case neg =>
                            have h62 : (e6 != 0) = true := by simpa using h6
                            clear h6 hlw
                            go_wp2_with (first | (go_at_call 31; refine (HWI.out _ _ (HA.out.below (below_trans HB16.out bel)) (lit_newL _ _)).mono ?_; rintro e w17 ⟨vv, rfl, hvv, hb⟩; obtain ⟨A9, c9, rfl, hv9, _⟩ := hvv; have HB17 := Lib.hid (below_trans (below_trans HB16.out bel) hb); have HV9 := Lib.hid hv9; clear hb hv9 HWI) | (go_at_call 17; refine (sanity_any _).mono ?_; rintro e wz ⟨rfl, hb⟩; have HBz := Lib.hid (below_trans (below_trans HB17.out bel) hb); clear hb))
                            go_ret
                            exact ⟨rfl, HBz.out⟩
                          case pos =>
                            subst h6
                            obtain ⟨ry, my, hry⟩ := hlw rfl
                            obtain ⟨a7, e7⟩ := ry
                            have HMY := Lib.hid (fun W A9 c9 h1 h2 => Most_any 2000000 _ n2 A9 c9 l2 C f p W HL2.out HML.out.2.1 h1 h2 my)
                            clear my hlw
                            rcases hry with hry | ⟨hry, hle⟩
                            · obtain rfl : e7 = 9 := hry
                              go_wp2_with (first | (go_at_call 31; refine (HWI.out _ _ (HA.out.below (below_trans HB16.out bel)) (lit_newL _ _)).mono ?_; rintro e w17 ⟨vv, rfl, hvv, hb⟩; obtain ⟨A9, c9, rfl, hv9, _⟩ := hvv; have HB17 := Lib.hid (below_trans (below_trans HB16.out bel) hb); have HV9 := Lib.hid hv9; clear hb hv9 HWI) | (go_at_call 29; refine (HMY.out _ _ _ (HV9.out.alloc _) (HP.out.below (below_trans HB17.out bel))).mono ?_; rintro e w18 ⟨rfl, hb⟩; have HB18 := Lib.hid (below_trans (below_trans HB17.out bel) hb); clear hb HMY) | (go_at_call 17; refine (sanity_any _).mono ?_; rintro e wz ⟨rfl, hb⟩; have HBz := Lib.hid (below_trans HB18.out hb); clear hb))
                              go_ret
                              exact ⟨rfl, HBz.out⟩
                            · obtain rfl : e7 = 0 := hry
                              have hle2 : a7 ≤ a1 := hle
                              clear hle
                              go_wp2_with (first | (go_at_call 31; refine (HWI.out _ _ (HA.out.below (below_trans HB16.out bel)) (lit_newL _ _)).mono ?_; rintro e w17 ⟨vv, rfl, hvv, hb⟩; obtain ⟨A9, c9, rfl, hv9, _⟩ := hvv; have HB17 := Lib.hid (below_trans (below_trans HB16.out bel) hb); have HV9 := Lib.hid hv9; clear hb hv9 HWI) | (go_at_call 29; refine (HMY.out _ _ _ (HV9.out.alloc _) (HP.out.below (below_trans HB17.out bel))).mono ?_; rintro e w18 ⟨rfl, hb⟩; have HB18 := Lib.hid (below_trans (below_trans HB17.out bel) hb); clear hb HMY) | (go_at_call 17; refine (sanity_any _).mono ?_; rintro e wz ⟨rfl, hb⟩; have HBz := Lib.hid (below_trans HB18.out hb); clear hb))
                              go_ret
                              exact ⟨rfl, HBz.out⟩
theorem weights_at (n : Int) (A : Option Addr) (c : Nat) (l : List Lk) (C : Option Addr) (f : Nat) (p : List Int) (D : Option Addr) (g : Nat) (v : List Int) (kk : Int) (k : Lk) (w : World)
    (h : LksAt w A l) (hn : A = none → l.length = 0 ∧ c = 0) (hl : l.length ≤ 9223372036854775807) (h1 : IntsAt w C p) (_ : C = none → p.length = 0 ∧ f = 0) (hp : p.length ≤ 9223372036854775807) (_ : ∀ v ∈ p, -9223372036854775808 ≤ v ∧ v ≤ 9223372036854775807) (h2 : IntsAt w D v) (_ : D = none → v.length = 0 ∧ g = 0) (hv : v.length ≤ 9223372036854775807) (_ : ∀ x ∈ v, -9223372036854775808 ≤ x ∧ x ≤ 9223372036854775807) (_ : -9223372036854775808 ≤ kk ∧ kk ≤ 9223372036854775807) (_ : -9223372036854775808 ≤ k.a ∧ k.a ≤ 9223372036854775807) (_ : -9223372036854775808 ≤ k.b ∧ k.b ≤ 9223372036854775807) (_ : -9223372036854775808 ≤ k.m ∧ k.m ≤ 9223372036854775807) :
    Calls Try.prog 4 #[.agg #[.int .i64 n, .slice A l.length c], .slice C p.length f, .slice D v.length g, .int .i64 kk, .agg #[.int .i64 k.a, .int .i64 k.b, .int .i64 k.m]] w fun e w' => e = .returned (.bool true) ∧ Below w.heap.size w w' :=
  weights_walk n A c l C f p D g v kk k.a k.b k.m w h hn h1 h2 hl hp hv (fun a1 a2 a3 a4 a5 a6 => weights_law n l p v kk ⟨k.a, k.b, k.m⟩ a1 a2 a3 a4 a5 a6)
end Go.Proofs.Ytmhiiomejopaoaa
