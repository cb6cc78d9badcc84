/- The walks of texts: the reference's Parse. -/
import Derived.Test.YtmhiiomejopaoaaGreatDoorW8
import Derived.Test.YtmhiiomejopaoaaGreatDoorW7
import Derived.Test.YtmhiiomejopaoaaGreatDoorW4
import Derived.Test.YtmhiiomejopaoaaGreatDoorR4
namespace Go.Proofs.YtmhiiomejopaoaaGreatDoor
set_option linter.all false
set_option maxRecDepth 100000
open Go.RowKit

theorem digF_le : ∀ (l : List UInt8) (n : Int), (digF l n).2 ≤ l.length
  | [], n => Nat.le_refl _
  | c :: r, n => by
    unfold digF
    split
    · have := digF_le r (min (10 * n + ((c.toNat : Int) - 48)) 1099511627776)
      simp
      omega
    · simp
theorem numP_le (s : List UInt8) (a : Nat) : (numP s a).2 ≤ a + 1 + s.length := by
  unfold numP
  split
  · have := digF_le (s.drop (a + 1)) 0
    simp at this ⊢
    omega
  · have := digF_le (s.drop a) 0
    simp at this ⊢
    omega
theorem numP_ge (s : List UInt8) (a : Nat) : a ≤ (numP s a).2 := by
  unfold numP
  split <;> simp <;> omega
/-- What the reference has of a text between two links. -/
structure RSt (b B : Nat) (w W : World) (K : Int) (l : List Lk) : Prop where
  own : ∃ v, W.heap[B]? = some (.cells #[.int .i64 K, v] 24 (0, 0)) ∧ W.ownsRow (B + 1) 51 3 v l.length (lkcs l)
  r2 : W.heap[b]? = some (.cells #[.int .i64 0, .slice none 0 0] 24 (0, 0))
  below : Below b w W
  size : B + 1 ≤ W.heap.size
  lt : b < B
theorem RSt.step {b B : Nat} {w A A' : World} {K : Int} {l : List Lk} (h : RSt b B w A K l) (hb : Below A.heap.size A A') : RSt b B w A' K l := by
  obtain ⟨v, h1, h2⟩ := h.own
  have hs := h.size
  have hl := h.lt
  exact ⟨⟨v, (hb.block _ (by omega)).trans h1, ownsRow_bel h2 hb⟩, (hb.block _ (by omega)).trans h.r2, h.below.trans (hb.mono (by omega)), Nat.le_trans hs hb.size, hl⟩
theorem RSt.pushed {b B : Nat} {w W w5 : World} {K : Int} {l : List Lk} {v v5 : Value} {k : Lk} (h1 : W.heap[B]? = some (.cells #[.int .i64 K, v] 24 (0, 0))) (h2 : W.ownsRow (B + 1) 51 3 v l.length (lkcs l)) (h : RSt b B w W K l)
    (hg : W.grownBy w5 v.ownBlock) (ho : w5.ownsRow (B + 1) 51 3 v5 (l.length + 1) (lkcs l ++ lkc k)) : RSt b B w (w5.setCell ⟨B, 1, none⟩ v5) K (l ++ [k]) := by
  have hs := h.size
  have hl := h.lt
  have hv : ∀ k, v.ownBlock = some k → B + 1 ≤ k := fun k e => (h2.lt k e).1
  have bl : ∀ j, j < B + 1 → w5.heap[j]? = W.heap[j]? := fun j hj => hg.block j (by omega) (fun e => by have := hv j e.symm; omega)
  have sl : ∀ j, j ≠ B → (w5.setCell ⟨B, 1, none⟩ v5).heap[j]? = w5.heap[j]? := fun j hj => Below.heap_setCell _ _ _ j hj
  have hB5 : Below b w w5 := h.below.grown hg (by omega) (fun j e => by have := hv j e; omega)
  have hs5 := hg.size
  refine ⟨⟨v5, set_snd ((bl _ (by omega)).trans h1), ?_⟩, (sl _ (by omega)).trans ((bl _ (by omega)).trans h.r2), hB5.setCell (p := ⟨B, 1, none⟩) (by simp; omega) _, by simp [World.setCell]; omega, hl⟩
  have e1 : (l ++ [k]).length = l.length + 1 := by simp
  have e2 : lkcs (l ++ [k]) = lkcs l ++ lkc k := by simp [lkcs]
  rw [e1, e2]
  exact ownsRow_setOther ho _ _ (by simp)
theorem set3_0 {w : World} {p : Nat} {a b c x : Value} {t : TypeId} (h : w.heap[p]? = some (.cells #[a, b, c] t (0, 0))) : (w.setCell ⟨p, 0, none⟩ x).heap[p]? = some (.cells #[x, b, c] t (0, 0)) := by simp [World.setCell, Array.getElem?_modify, h]
theorem set3_1 {w : World} {p : Nat} {a b c x : Value} {t : TypeId} (h : w.heap[p]? = some (.cells #[a, b, c] t (0, 0))) : (w.setCell ⟨p, 1, none⟩ x).heap[p]? = some (.cells #[a, x, c] t (0, 0)) := by simp [World.setCell, Array.getElem?_modify, h]
theorem set3_2 {w : World} {p : Nat} {a b c x : Value} {t : TypeId} (h : w.heap[p]? = some (.cells #[a, b, c] t (0, 0))) : (w.setCell ⟨p, 2, none⟩ x).heap[p]? = some (.cells #[a, b, x] t (0, 0)) := by simp [World.setCell, Array.getElem?_modify, h]
theorem rlinks_cases (s : List UInt8) {f a : Nat} {l : List Lk} (hf : l.length + f = 261) : (¬ (a < s.length ∧ l.length ≤ 260) ∧ rlinks s f a l = l) ∨ (a < s.length ∧ l.length ≤ 260 ∧ ∃ g, f = g + 1 ∧ rlinks s f a l = rlinks s g ((numP s ((numP s ((numP s (a + 5)).2 + 1)).2 + 1)).2 + 1) (l ++ [⟨(numP s (a + 5)).1, (numP s ((numP s (a + 5)).2 + 1)).1, (numP s ((numP s ((numP s (a + 5)).2 + 1)).2 + 1)).1⟩])) := by
  by_cases h : a < s.length ∧ l.length ≤ 260
  · obtain ⟨g, rfl⟩ : ∃ g, f = g + 1 := ⟨f - 1, by omega⟩
    exact .inr ⟨h.1, h.2, g, rfl, if_pos h⟩
  · left
    refine ⟨h, ?_⟩
    cases f with
    | zero => rfl
    | succ f => exact if_neg h
theorem lks_one' (k : Lk) : ∀ u ∈ lkc k, u.oneCell' = true := by intro u hu; simp [lkc] at hu; rcases hu with rfl | rfl | rfl <;> rfl
set_option maxHeartbeats 8000000 in
theorem rParse_any (s : List UInt8) (r : Option (Int × List Lk)) (w : World) (hs : s.length ≤ 1000) (hr : Reads s r) :
    Calls Tryz.prog 9 #[.string ⟨s.toArray⟩] w fun e w' => ∃ A c, e = .returned (.tuple #[.agg #[.int .i64 (netN r), .slice A (netL r).length c], .bool r.isSome]) ∧ LksAt w' A (netL r) ∧ (A = none → (netL r).length = 0 ∧ c = 0) ∧ Below w.heap.size w w' := by
  have HR := Lib.hid hr
  have HN0 := Lib.hid (fun W => number_any s 6 W hs (by omega))
  have hb0 := numP_le s 6
  have HRL := Lib.hid (show refL s = rlinks s 261 ((numP s 6).2 + 1) [] from rfl)
  obtain ⟨⟨K, a0⟩, hp0⟩ : ∃ p, numP s 6 = p := ⟨_, rfl⟩
  have HK := Lib.hid (show (numP s 6).1 = K by rw [hp0])
  rw [hp0] at HN0 hb0 HRL
  simp only at HN0 hb0 HRL
  clear hr hp0
  go_enter Tryz.func9, Tryz.ntmps9
  go_wp2_with (go_at_call 31; refine (HN0.out _).mono ?_; rintro e w1 ⟨rfl, hb⟩; have HB1 := Lib.hid (below_trans (bel : Below w.heap.size w (w.alloc _)) hb); have HX1 := Lib.hid (lift0 hb (heap_new w _)); clear hb HN0)
  obtain ⟨b, hb⟩ : ∃ b, w.heap.size = b := ⟨_, rfl⟩
  obtain ⟨B, hB⟩ : ∃ B, w1.heap.size = B := ⟨_, rfl⟩
  have HST := Lib.hid (show RSt b B w (w1.alloc (.cells #[.int .i64 K, .slice none 0 0] 24)) K [] by
    have h1 := HX1.out
    rw [hb] at h1
    have h2 := (Array.getElem?_eq_some_iff.1 h1).1
    have h3 := heap_new w1 (.cells #[.int .i64 K, .slice none 0 0] 24)
    rw [hB] at h3
    exact ⟨⟨_, h3, World.ownsRow_nil _ _ _ _⟩, old_box _ h1, by rw [← hb]; exact HB1.out.alloc HB1.out.size _, by simp [hB], by omega⟩)
  have HBB := Lib.hid hb
  rw [hb, hB]
  clear hb hB HB1 HX1
  go_loopw [5] (fun t wr => ∃ (f a : Nat) (l : List Lk), t = .int .i64 (a : Int) ∧ a ≤ 5000 ∧ l.length + f = 261 ∧ Hid (rlinks s f a l = refL s) ∧ Hid (RSt b B w wr K l)) (fun t _ => 100000 - (intOf t).toNat)
  case atStart => exact ⟨261, a0 + 1, [], by go_num, by omega, rfl, Lib.hid HRL.out.symm, HST⟩
  case round =>
    obtain ⟨f, a, l, rfl, ha, hfl, HRR, HS⟩ := hrel
    obtain ⟨v, hbx, hrow⟩ := HS.out.own
    obtain ⟨A, c, rfl, hca, hnil, hA⟩ := own_slice hrow
    have HBX := Lib.hid hbx
    have HRW := Lib.hid hrow
    have HNIL := Lib.hid hnil
    have b0 := cell_of_heap hbx 0
    have b1 := cell_of_heap hbx 1
    have r0 := cell_of_heap HS.out.r2 0
    have r1 := cell_of_heap HS.out.r2 1
    simp at b0 b1 r0 r1
    have lB := (Array.getElem?_eq_some_iff.1 hbx).1
    have lb := (Array.getElem?_eq_some_iff.1 HS.out.r2).1
    have HSZ := Lib.hid HS.out.size
    clear hbx hrow hca hnil hA
    rcases rlinks_cases s hfl (a := a) with ⟨hno, hend⟩ | ⟨hlt, hl60, g, rfl, hgo⟩
    · have HCK := Lib.hid (rcheck_any K A c l wr (by omega) (own_lks HRW.out))
      have hle : refL s = l := by rw [← HRR.out, hend]
      have HLE := Lib.hid hle
      clear hend hle
      have hgo : (decide ((a : Int) < (s.length : Int)) = false ∧ decide (a < s.length) = false) ∨ (decide ((a : Int) < (s.length : Int)) = true ∧ decide (a < s.length) = true ∧ decide ((l.length : Int) ≤ 260) = false ∧ decide (l.length ≤ 260) = false) := by
        by_cases h : a < s.length
        · exact .inr ⟨decide_eq_true (by omega), decide_eq_true (by omega), decide_eq_false (by omega), decide_eq_false (by omega)⟩
        · exact .inl ⟨decide_eq_false (by omega), decide_eq_false (by omega)⟩
      have hnone : ∀ N l', r = some (N, l') → NetOk N l' ∧ printL N l' = s ∧ K = N ∧ l = l' := by
        intro N l' e
        obtain ⟨h1, h2⟩ := HR.out.1 N l' e
        obtain ⟨h3, h4⟩ := ref_print h1
        rw [h2] at h3 h4
        exact ⟨h1, h2, HK.out.symm.trans h3, HLE.out.symm.trans h4⟩
      have HNO := Lib.hid hnone
      clear hnone hno
      by_cases hck : checkL K l = 0
      · have hok := check_ok hck
        have HPR := Lib.hid (fun W hW => rPrint_good K A c l W hW hok)
        rw [hck] at HCK
        by_cases heq : printL K l = s
        · have hrs : r = some (K, l) := reads_yes HR.out hok heq
          rw [heq] at HPR
          subst hrs
          clear hok heq hck
          rcases hgo with ⟨t1, t1'⟩ | ⟨t1, t1', t2, t2'⟩
          all_goals
            go_wp2_with (first | (go_at_call 11; refine HCK.out.mono ?_; rintro e w6 ⟨rfl, hb6⟩; have HS6 := Lib.hid (HS.out.step hb6); have HBX6 := Lib.hid (lift0 hb6 HBX.out); have HRW6 := Lib.hid (ownsRow_bel HRW.out hb6); clear hb6 HCK; have x0 := cell_of_heap HS6.out.r2 0; have x1 := cell_of_heap HS6.out.r2 1; have z0 := frozen_of_heap HS6.out.r2 0; have z1 := frozen_of_heap HS6.out.r2 1; have x3 := cell_of_heap HBX6.out 0; have x4 := cell_of_heap HBX6.out 1; simp at x0 x1 x3 x4) | (go_at_call 12; refine (HPR.out w6 (own_lks HRW6.out)).mono ?_; rintro e w7 ⟨rfl, hb7⟩; have HS7 := Lib.hid (HS6.out.step hb7); have HBX7 := Lib.hid (lift0 hb7 HBX6.out); have HRW7 := Lib.hid (ownsRow_bel HRW6.out hb7); clear hb7 HPR; have x70 := cell_of_heap HS7.out.r2 0; have x71 := cell_of_heap HS7.out.r2 1; have z70 := frozen_of_heap HS7.out.r2 0; have z71 := frozen_of_heap HS7.out.r2 1; have x73 := cell_of_heap HBX7.out 0; have x74 := cell_of_heap HBX7.out 1; simp at x70 x71 x73 x74))
            have q1 := set_pair (x := .int .i64 K) (y := .slice A l.length c) HS7.out.r2
            have v0 := cell_of_heap q1 0
            have v1 := cell_of_heap q1 1
            simp at v0 v1
            refine bodyPost_ret (v := .tuple #[.agg #[.int .i64 K, .slice A l.length c], .bool true]) ?_ rfl ?_
            · simp [results, Tryz.results9, go_sem, v0, v1]
            · exact ⟨A, c, rfl, own_lks (ownsRow_setOther (ownsRow_setOther HRW7.out _ _ (by have := HS7.out.lt; simp; omega)) _ _ (by have := HS7.out.lt; simp; omega)), HNIL.out, by rw [HBB.out]; exact (HS7.out.below.setCell (p := ⟨b, 0, none⟩) (Nat.le_refl _) _).setCell (p := ⟨b, 1, none⟩) (Nat.le_refl _) _⟩

        · have hrn : r = none := by
            cases r with
            | none => rfl
            | some z =>
              obtain ⟨h1, h2, h3, h4⟩ := HNO.out z.1 z.2 rfl
              exact absurd (by rw [h3, h4]; exact h2) heq
          subst hrn
          have hq : (printL K l == s) = false := by rw [beq_eq_false_iff_ne]; exact heq
          generalize printL K l = P at *
          clear hok heq hck
          rcases hgo with ⟨t1, t1'⟩ | ⟨t1, t1', t2, t2'⟩
          all_goals
            go_wp2_with (first | (go_at_call 11; refine HCK.out.mono ?_; rintro e w6 ⟨rfl, hb6⟩; have HS6 := Lib.hid (HS.out.step hb6); have HBX6 := Lib.hid (lift0 hb6 HBX.out); have HRW6 := Lib.hid (ownsRow_bel HRW.out hb6); clear hb6 HCK; have x0 := cell_of_heap HS6.out.r2 0; have x1 := cell_of_heap HS6.out.r2 1; have z0 := frozen_of_heap HS6.out.r2 0; have z1 := frozen_of_heap HS6.out.r2 1; have x3 := cell_of_heap HBX6.out 0; have x4 := cell_of_heap HBX6.out 1; simp at x0 x1 x3 x4) | (go_at_call 12; refine (HPR.out w6 (own_lks HRW6.out)).mono ?_; rintro e w7 ⟨rfl, hb7⟩; have HS7 := Lib.hid (HS6.out.step hb7); have HBX7 := Lib.hid (lift0 hb7 HBX6.out); have HRW7 := Lib.hid (ownsRow_bel HRW6.out hb7); clear hb7 HPR; have x70 := cell_of_heap HS7.out.r2 0; have x71 := cell_of_heap HS7.out.r2 1; have z70 := frozen_of_heap HS7.out.r2 0; have z71 := frozen_of_heap HS7.out.r2 1; have x73 := cell_of_heap HBX7.out 0; have x74 := cell_of_heap HBX7.out 1; simp at x70 x71 x73 x74))
            have q1 := set_pair (x := .int .i64 0) (y := .slice none 0 0) HS7.out.r2
            have v0 := cell_of_heap q1 0
            have v1 := cell_of_heap q1 1
            simp at v0 v1
            refine bodyPost_ret (v := .tuple #[.agg #[.int .i64 0, .slice none 0 0], .bool false]) ?_ rfl ?_
            · simp [results, Tryz.results9, go_sem, v0, v1]
            · exact ⟨none, 0, rfl, fun i h0 hi => absurd hi (by simp [netL]; omega), fun _ => ⟨rfl, rfl⟩, by rw [HBB.out]; exact (HS7.out.below.setCell (p := ⟨b, 0, none⟩) (Nat.le_refl _) _).setCell (p := ⟨b, 1, none⟩) (Nat.le_refl _) _⟩

      · have hrn : r = none := by
          cases r with
          | none => rfl
          | some z =>
            obtain ⟨h1, h2, h3, h4⟩ := HNO.out z.1 z.2 rfl
            exact absurd (by rw [h3, h4]; exact ok_check h1) hck
        subst hrn
        generalize checkL K l = e0 at *
        have hq : (e0 != 0) = true := by rw [bne_iff_ne]; exact hck
        clear hck
        rcases hgo with ⟨t1, t1'⟩ | ⟨t1, t1', t2, t2'⟩
        all_goals
          go_wp2_with (go_at_call 11; refine HCK.out.mono ?_; rintro e w6 ⟨rfl, hb6⟩; have HS6 := Lib.hid (HS.out.step hb6); have HBX6 := Lib.hid (lift0 hb6 HBX.out); have HRW6 := Lib.hid (ownsRow_bel HRW.out hb6); clear hb6 HCK; have x0 := cell_of_heap HS6.out.r2 0; have x1 := cell_of_heap HS6.out.r2 1; have z0 := frozen_of_heap HS6.out.r2 0; have z1 := frozen_of_heap HS6.out.r2 1; have x3 := cell_of_heap HBX6.out 0; have x4 := cell_of_heap HBX6.out 1; simp at x0 x1 x3 x4)
          have HS7 := HS6
          have q1 := set_pair (x := .int .i64 0) (y := .slice none 0 0) HS7.out.r2
          have v0 := cell_of_heap q1 0
          have v1 := cell_of_heap q1 1
          simp at v0 v1
          refine bodyPost_ret (v := .tuple #[.agg #[.int .i64 0, .slice none 0 0], .bool false]) ?_ rfl ?_
          · simp [results, Tryz.results9, go_sem, v0, v1]
          · exact ⟨none, 0, rfl, fun i h0 hi => absurd hi (by simp [netL]; omega), fun _ => ⟨rfl, rfl⟩, by rw [HBB.out]; exact (HS7.out.below.setCell (p := ⟨b, 0, none⟩) (Nat.le_refl _) _).setCell (p := ⟨b, 1, none⟩) (Nat.le_refl _) _⟩

    · have t1 : decide ((a : Int) < (s.length : Int)) = true := decide_eq_true (by omega)
      have t2 : decide ((l.length : Int) ≤ 260) = true := decide_eq_true (by omega)
      have t1' : decide (a < s.length) = true := decide_eq_true (by omega)
      have t2' : decide (l.length ≤ 260) = true := decide_eq_true (by omega)
      rw [hgo] at HRR
      clear hgo
      have HN1 := Lib.hid (fun W => number_any s (a + 5) W hs (by omega))
      have u1 := numP_le s (a + 5)
      have v1 := numP_ge s (a + 5)
      obtain ⟨⟨x0, a1⟩, hp1⟩ : ∃ p, numP s (a + 5) = p := ⟨_, rfl⟩
      rw [hp1] at HN1 u1 v1 HRR
      simp only at HN1 u1 v1 HRR
      have HN2 := Lib.hid (fun W => number_any s (a1 + 1) W hs (by omega))
      have u2 := numP_le s (a1 + 1)
      have v2 := numP_ge s (a1 + 1)
      obtain ⟨⟨x1, a2⟩, hp2⟩ : ∃ p, numP s (a1 + 1) = p := ⟨_, rfl⟩
      rw [hp2] at HN2 u2 v2 HRR
      simp only at HN2 u2 v2 HRR
      have HN3 := Lib.hid (fun W => number_any s (a2 + 1) W hs (by omega))
      have u3 := numP_le s (a2 + 1)
      have v3 := numP_ge s (a2 + 1)
      obtain ⟨⟨x2, a3⟩, hp3⟩ : ∃ p, numP s (a2 + 1) = p := ⟨_, rfl⟩
      rw [hp3] at HN3 u3 v3 HRR
      simp only at HN3 u3 v3 HRR
      rw [show ((a + 5 : Nat) : Int) = (a : Int) + 5 by omega] at HN1
      rw [show ((a1 + 1 : Nat) : Int) = (a1 : Int) + 1 by omega] at HN2
      rw [show ((a2 + 1 : Nat) : Int) = (a2 : Int) + 1 by omega] at HN3
      clear hp1 hp2 hp3
      obtain ⟨p, hp⟩ : ∃ p, wr.heap.size = p := ⟨_, rfl⟩
      go_wp2_with (first | (go_at_call 31; refine (HN1.out _).mono ?_; rintro e w2 ⟨rfl, hb2⟩; have HB2 := Lib.hid (below_trans (bel : Below wr.heap.size wr (wr.alloc _)) hb2); have HX2 := Lib.hid (lift0 hb2 (heap_new wr _)); rw [hp] at HX2; have l2 := (Array.getElem?_eq_some_iff.1 HX2.out).1; have c20 := cell_of_heap HX2.out 0; have f20 := frozen_of_heap HX2.out 0; simp at c20; clear hb2 HN1) | (go_at_call 31; refine (HN2.out _).mono ?_; rintro e w3 ⟨rfl, hb3⟩; have HB3 := Lib.hid (below_trans (HB2.out.setCell (p := ⟨p, 0, none⟩) (Nat.le_of_eq hp) _) hb3); have HX3 := Lib.hid (lift0 hb3 (set3_0 (x := .int .i64 x0) HX2.out)); have l3 := (Array.getElem?_eq_some_iff.1 HX3.out).1; have c31 := cell_of_heap HX3.out 1; have f31 := frozen_of_heap HX3.out 1; simp at c31; clear hb3 HN2) | (go_at_call 31; refine (HN3.out _).mono ?_; rintro e w4 ⟨rfl, hb4⟩; have HB4 := Lib.hid (below_trans (HB3.out.setCell (p := ⟨p, 1, none⟩) (Nat.le_of_eq hp) _) hb4); have HX4 := Lib.hid (lift0 hb4 (set3_1 (x := .int .i64 x1) HX3.out)); have l4 := (Array.getElem?_eq_some_iff.1 HX4.out).1; have c40 := cell_of_heap HX4.out 0; have c41 := cell_of_heap HX4.out 1; have c42 := cell_of_heap HX4.out 2; have f42 := frozen_of_heap HX4.out 2; simp at c40 c41 c42; have HB5 := Lib.hid (HB4.out.setCell (p := ⟨p, 2, none⟩) (Nat.le_of_eq hp) (.int .i64 x2)); have HBX4 := Lib.hid ((HB4.out.block B (by omega)).trans HBX.out); have d0 := cell_of_heap HBX4.out 0; have d1 := cell_of_heap HBX4.out 1; have df := frozen_of_heap HBX4.out 1; simp at d0 d1; have HBX5 := Lib.hid ((HB5.out.block B (by omega)).trans HBX.out); have HRW5 := Lib.hid (ownsRow_bel HRW.out HB5.out); have HS5 := Lib.hid (HS.out.step HB5.out); clear hb4 HN3) | (at_builtin; refine app_one rfl _ _ 22 51 (.agg #[.int .i64 0, .int .i64 0, .int .i64 0]) 3 24 rfl Tryz.underlying22 info39 rfl (by omega) (.slice A l.length c) l.length (lkcs l) (lkc ⟨x0, x1, x2⟩) rfl (gx := w4.heap.size) rfl (by simp) rfl (lks_one' _) (B + 1) HRW5.out HS5.out.size (by omega) (by unfold maxLen; omega) ?_; intro v6 w6 ho hg _; have HBX6 := Lib.hid ((hg.block B (Array.getElem?_eq_some_iff.1 HBX5.out).1 (fun e => by have := (HRW5.out.lt B e.symm).1; omega)).trans HBX5.out); have HF6 := Lib.hid (RSt.pushed HBX5.out HRW5.out HS5.out hg ho); obtain ⟨A6, c6, rfl, _, _, _⟩ := own_slice ho; have g1 := cell_of_heap HBX6.out 1; have gf := frozen_of_heap HBX6.out 1; simp at g1; clear ho hg))
      go_roundw
      case rel => exact ⟨g, a3 + 1, l ++ [⟨x0, x1, x2⟩], by go_num, by omega, by simp; omega, HRR, HF6⟩
      case measure => simp [intOf]; omega
end Go.Proofs.YtmhiiomejopaoaaGreatDoor
