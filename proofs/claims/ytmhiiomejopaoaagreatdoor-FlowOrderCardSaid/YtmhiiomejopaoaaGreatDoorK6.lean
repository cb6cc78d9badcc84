/- The flow walks: the steps, as an iterator. -/
import Derived.Test.YtmhiiomejopaoaaGreatDoorK5
import Derived.Deep.RegionHeld3
namespace Go.Proofs.YtmhiiomejopaoaaGreatDoor
set_option linter.all false
set_option maxRecDepth 100000
open Go.RowKit

theorem cell_same {w w' : World} {b : Nat} (h : w'.heap[b]? = w.heap[b]?) (o : Nat) : w'.cell? ⟨b, o, none⟩ = w.cell? ⟨b, o, none⟩ := by simp [World.cell?, h]
set_option maxRecDepth 1000000 in
set_option maxHeartbeats 4000000 in
theorem steps1 (n : Nat) (n₀ : Nat) (S : Nat → Prop) (fuel : Nat) (xs : List Wy) (b3 b4 b5 bm p : Nat) (N : Int) (A : Option Addr) (c : Nat) (l : List Lk) (X U L : Value) (d : List (Int × Wy)) (v : Int) (W0 : World)
    (hn0 : n₀ ≤ W0.heap.size) (hS : ∀ k, S k → k < n₀)
    (h3 : W0.heap[b3]? = some (.cells #[.pointer (some ⟨p, 0, none⟩)] 108 (0, 0))) (k3 : b3 < n₀ ∧ ¬ S b3)
    (h4 : W0.heap[b4]? = some (.cells #[.map (some bm)] 124 (0, 0))) (k4 : b4 < n₀ ∧ ¬ S b4)
    (h5 : W0.heap[b5]? = some (.cells #[.int .i64 v] 3 (0, 0))) (k5 : b5 < n₀ ∧ ¬ S b5)
    (hm : MapI W0 bm (mapW d)) (km : bm < n₀ ∧ ¬ S bm)
    (hp : W0.heap[p]? = some (.cells #[.int .i64 N, .slice A l.length c, X, U, L] 110 (0, 0))) (kp : p < n₀ ∧ ¬ S p)
    (hl : LksAt W0 A l) (kl : ∀ ad, A = some ad → 0 < l.length → ad.block < n₀ ∧ ¬ S ad.block) (hll : l.length ≤ 1000000)
    (hpath : pathN d l fuel ((lookW d v).getD ⟨0, 0, 0, false⟩) = some xs) :
    SeqC n Tryz.prog 114 #[.pointer (some ⟨b4, 0, none⟩), .pointer (some ⟨b5, 0, none⟩), .pointer (some ⟨b3, 0, none⟩)] (fun x : Wy => #[wyv x]) (KeepS n₀ S) xs W0 := by
  intro l' J W hW hJ hY h0
  refine callsIn_wide.2 ?_
  have It0 : ∀ k, k < n₀ → ¬ S k → W.heap[k]? = W0.heap[k]? := fun k hk _ => hW.block k (by omega)
  have hIt : ∀ W', (∀ k, k < n₀ → ¬ S k → W'.heap[k]? = W0.heap[k]?) → W'.heap[b3]? = some (.cells #[.pointer (some ⟨p, 0, none⟩)] 108 (0, 0)) ∧ W'.heap[b4]? = some (.cells #[.map (some bm)] 124 (0, 0)) ∧ W'.heap[b5]? = some (.cells #[.int .i64 v] 3 (0, 0)) ∧ MapI W' bm (mapW d) ∧ W'.heap[p]? = some (.cells #[.int .i64 N, .slice A l.length c, X, U, L] 110 (0, 0)) ∧ LksAt W' A l := by
    intro W' h
    refine ⟨(h _ k3.1 k3.2).trans h3, (h _ k4.1 k4.2).trans h4, (h _ k5.1 k5.2).trans h5, hm.same (h _ km.1 km.2), (h _ kp.1 kp.2).trans hp, ?_⟩
    intro i hi0 hi
    obtain ⟨b, o, e, g1, g2, g3⟩ := hl i hi0 hi
    obtain ⟨q1, q2⟩ := kl _ e (by omega)
    have hh := h _ q1 q2
    exact ⟨b, o, e, (cell_same hh _).trans g1, (cell_same hh _).trans g2, (cell_same hh _).trans g3⟩
  have hlt : n₀ ≤ W.heap.size := Nat.le_trans hn0 hW.size
  have HIT := Lib.hid hIt
  have HI0 := Lib.hid It0
  have HP := Lib.hid hpath
  have HJ := Lib.hid hJ
  have HY := Lib.hid hY
  have H0 := Lib.hid h0
  have HLT := Lib.hid hlt
  have HS := Lib.hid hS
  obtain ⟨f3, f4, f5, fm, fp, fl⟩ := hIt W It0
  have c4 := cell_of_heap f4 0
  have c5 := cell_of_heap f5 0
  simp at c4 c5
  have hlk := fm.look (t := 124) (e := 128) Tryz.underlying124 (zero_wy _) v
  rw [look_mapW] at hlk
  have hlk2 : (Option.map wyv (lookW d v)).getD (wyv ⟨0, 0, 0, false⟩) = wyv ((lookW d v).getD ⟨0, 0, 0, false⟩) := by cases lookW d v <;> rfl
  rw [hlk2] at hlk
  generalize hy : (lookW d v).getD ⟨0, 0, 0, false⟩ = y0 at *
  unfold wyv at hlk
  clear hlk2 hy hpath hJ hY h0 hIt It0 hlt hS f3 f4 f5 fm fp fl h3 h4 h5 hm hp hl k3 k4 k5 km kp kl hW
  show Calls Tryz.prog 114 #[.func (.yield l') #[] #[], .pointer (some ⟨b4, 0, none⟩), .pointer (some ⟨b5, 0, none⟩), .pointer (some ⟨b3, 0, none⟩)] W _
  go_enter Tryz.func114, Tryz.ntmps114
  go_wp2
  clear hlk c4 c5
  go_loopg [5] fuel (fun k v wr => ∃ (pre ys : List Wy) (q : Nat) (y : Wy), v = .pointer (some ⟨q, 0, none⟩) ∧ Hid (xs = pre ++ ys) ∧ Hid (pathN d l k y = some ys) ∧ Hid (J pre wr) ∧ Hid (∀ k, k < n₀ → ¬ S k → wr.heap[k]? = W0.heap[k]?) ∧ Hid (wr.heap[q]? = some (.cells #[.int .i64 y.node, .int .i64 y.far, .int .i64 y.link, .bool y.back] 128 (0, 0))) ∧ Hid (W.heap.size ≤ q))
  case atStart =>
    exact ⟨[], xs, W.heap.size, y0, rfl, Lib.hid rfl, HP, Lib.hid (HJ.out _ _ _ none H0.out (World.grownBy_alloc _ _ none) (fun r e => by cases e)), Lib.hid (fun k hk hs => (Below.heap_alloc _ _ _ (by have := HLT.out; omega)).trans (HI0.out k hk hs)), Lib.hid (heap_alloc_new _ _), Lib.hid (Nat.le_refl _)⟩
  case round =>
    obtain ⟨pre, ys, q, y, rfl, HX, HN, HJ1, HI1, HQ, HQL⟩ := hrel
    obtain ⟨k', rfl, hcs⟩ := pathN_cases HN.out
    have y0 := cell_of_heap HQ.out 0
    have y1 := cell_of_heap HQ.out 1
    have y2 := cell_of_heap HQ.out 2
    have y3 := cell_of_heap HQ.out 3
    simp at y0 y1 y2 y3
    rcases hcs with ⟨hneg, rfl⟩ | ⟨hpos, hlt, zs, rfl, hnx⟩
    · have hd : decide (y.link ≥ 0) = false := by simp; omega
      have hd2 : decide (0 ≤ y.link) = false := by simp; omega
      go_wp2
      go_end0
      exact ⟨⟨_, rfl⟩, by rw [HX.out, List.append_nil]; exact HJ1.out⟩
    · have hd2 : decide (0 ≤ y.link) = true := by simp; omega
      obtain ⟨fn, tmps, assign, body, hyy, hR⟩ := HY.out pre y wr HJ1.out ⟨zs, by rw [HX.out]; simp⟩
      unfold wyv at hyy
      have HR := Lib.hid hR
      clear hR
      refine (wpIn_wide (n := n)).1 ?_
      gi_wp2
      refine ⟨fun h => by simp [Fence.wide] at h, HR.out.mono ?_⟩
      rintro e W2 ⟨rfl, hJ2, hk2⟩
      have hq2 : W2.heap[q]? = some (.cells #[.int .i64 y.node, .int .i64 y.far, .int .i64 y.link, .bool y.back] 128 (0, 0)) := hk2 q _ HQ.out (fun hs => by have := HS.out q hs; have := HLT.out; have := HQL.out; omega) (.inr rfl)
      have hI2 : ∀ k, k < n₀ → ¬ S k → W2.heap[k]? = W0.heap[k]? := fun k hk hs => by
        have h1 := HI1.out k hk hs
        have h2 : W0.heap[k]? = some (W0.heap[k]'(by omega)) := Array.getElem?_eq_getElem _
        rw [h2] at h1 ⊢
        exact hk2 k _ h1 hs (.inl hk)
      have HI2 := Lib.hid hI2
      have HQ2 := Lib.hid hq2
      have HJ2 := Lib.hid hJ2
      clear hyy hI2 hq2 hJ2 hk2 y0 y1 y2 y3
      obtain ⟨f3, f4, f5, fm, fp, fl⟩ := HIT.out W2 HI2.out
      obtain ⟨b, o, rfl, g1, g2, g3⟩ := fl y.link hpos hlt
      have y0 := cell_of_heap HQ2.out 0
      have y1 := cell_of_heap HQ2.out 1
      have y2 := cell_of_heap HQ2.out 2
      have y3 := cell_of_heap HQ2.out 3
      have z3 := cell_of_heap f3 0
      have z4 := cell_of_heap f4 0
      have z5 := cell_of_heap fp 1
      simp at y0 y1 y2 y3 z3 z4 z5
      have hb := World.block_lt_of_cell? _ _ g1
      dsimp only at hb
      have hql := (Array.getElem?_eq_some_iff.1 HQ2.out).1
      have hpl := (Array.getElem?_eq_some_iff.1 fp).1
      have h3l := (Array.getElem?_eq_some_iff.1 f3).1
      have h4l := (Array.getElem?_eq_some_iff.1 f4).1
      gi_wp2
      refine wpIn_wide.2 ?_
      go_region_held3 (fun w' => w'.cell? ⟨b3, 0, none⟩ = some (.pointer (some ⟨p, 0, none⟩)) ∧ w'.cell? ⟨p, 1, none⟩ = some (.slice (some ⟨b, o, none⟩) l.length c) ∧ w'.cell? ⟨q, 2, none⟩ = some (.int .i64 y.link) ∧ w'.cell? ⟨b, o + y.link.toNat * 3, none⟩ = some (.int .i64 (gl l y.link).a) ∧ w'.cell? ⟨b, o + y.link.toNat * 3 + 1, none⟩ = some (.int .i64 (gl l y.link).b) ∧ w'.cell? ⟨b, o + y.link.toNat * 3 + 2, none⟩ = some (.int .i64 (gl l y.link).m)) (first | exact ⟨z3, z5, y2, g1, g2, g3⟩ | exact ⟨cell_alloc _ z3, cell_alloc _ z5, cell_alloc _ y2, cell_alloc _ g1, cell_alloc _ g2, cell_alloc _ g3⟩ | go_keep) ((fail))
      obtain ⟨W3, hW3⟩ : ∃ W3, W3 = (W2.alloc (.cells #[.int .i64 (gl l y.link).a, .int .i64 (gl l y.link).b, .int .i64 (gl l y.link).m] 51)).drew := ⟨_, rfl⟩
      rw [← hW3]
      have e0 : W3.cell? ⟨W2.heap.size, 0, none⟩ = some (.int .i64 (gl l y.link).a) := by rw [hW3]; go_simp
      have e1 : W3.cell? ⟨W2.heap.size, 1, none⟩ = some (.int .i64 (gl l y.link).b) := by rw [hW3]; go_simp
      have g23 : W2.grownBy W3 (some q) := by rw [hW3]; exact grown_drew (grown_alloc (grown_refl _ _) _)
      have hq3 : W3.heap[q]? = some (.cells #[.int .i64 y.node, .int .i64 y.far, .int .i64 y.link, .bool y.back] 128 (0, 0)) := by rw [hW3]; exact (Below.heap_alloc _ _ _ hql).trans HQ2.out
      have hm3 : MapI W3 bm (mapW d) := by rw [hW3]; exact (fm.alloc _).drew
      have z43 : W3.cell? ⟨b4, 0, none⟩ = some (.map (some bm)) := by rw [hW3]; exact cell_alloc _ z4
      have hs3 : W2.heap.size < W3.heap.size := by rw [hW3]; simp
      have hl3 := hm3.look (t := 124) (e := 128) Tryz.underlying124 (zero_wy _) (if y.back then (gl l y.link).b else (gl l y.link).a)
      rw [look_mapW] at hl3
      have hl4 : (Option.map wyv (lookW d (if y.back then (gl l y.link).b else (gl l y.link).a))).getD (wyv ⟨0, 0, 0, false⟩) = wyv (nextW d l y) := by unfold nextW; cases lookW d (if y.back then (gl l y.link).b else (gl l y.link).a) <;> rfl
      rw [hl4] at hl3
      generalize nextW d l y = nx at *
      unfold wyv at hl3
      have y0 := cell_of_heap hq3 0
      have y1 := cell_of_heap hq3 1
      have y2 := cell_of_heap hq3 2
      have y3 := cell_of_heap hq3 3
      have fz0 := frozen_of_heap hq3 0
      have fz1 := frozen_of_heap hq3 1
      have fz2 := frozen_of_heap hq3 2
      have fz3 := frozen_of_heap hq3 3
      simp at y0 y1 y2 y3
      have hql3 := (Array.getElem?_eq_some_iff.1 hq3).1
      have HNX := Lib.hid hnx
      have G23 := Lib.hid g23
      clear hW3 hl4 z3 z4 z5 f3 f4 f5 fm fp fl hb hpl h3l h4l hq3 hm3 hnx g23 g1 g2 g3
      cases hbk : y.back
      all_goals
        rw [hbk] at hl3
        simp only [if_true, if_false, Bool.false_eq_true] at hl3
        go_wp2
        gi_wp2
        go_roundg k'
        case measure => omega
        case rel =>
          have hg : ∀ (a b c d : Value) (o : Obj), W2.grownBy (((((W3.setCell ⟨q, 0, none⟩ a).setCell ⟨q, 1, none⟩ b).setCell ⟨q, 2, none⟩ c).setCell ⟨q, 3, none⟩ d).alloc o) (some q) := fun a b c d o =>
            grown_alloc (grown_set (grown_set (grown_set (grown_set G23.out _ _ (.inl rfl)) _ _ (.inl rfl)) _ _ (.inl rfl)) _ _ (.inl rfl)) o
          obtain ⟨W5, hW5⟩ : ∃ W5, W5 = (((((W3.setCell ⟨q, 0, none⟩ (.int .i64 nx.node)).setCell ⟨q, 1, none⟩ (.int .i64 nx.far)).setCell ⟨q, 2, none⟩ (.int .i64 nx.link)).setCell ⟨q, 3, none⟩ (.bool nx.back)).alloc (.cells #[.int .i64 nx.node, .int .i64 nx.far, .int .i64 nx.link, .bool nx.back] 128)) := ⟨_, rfl⟩
          have hg5 : W2.grownBy W5 (some q) := by rw [hW5]; exact hg _ _ _ _ _
          have hn5 : W5.heap[W3.heap.size]? = some (.cells #[.int .i64 nx.node, .int .i64 nx.far, .int .i64 nx.link, .bool nx.back] 128 (0, 0)) := by
            rw [hW5]
            have := heap_alloc_new ((((W3.setCell ⟨q, 0, none⟩ (.int .i64 nx.node)).setCell ⟨q, 1, none⟩ (.int .i64 nx.far)).setCell ⟨q, 2, none⟩ (.int .i64 nx.link)).setCell ⟨q, 3, none⟩ (.bool nx.back)) (.cells #[.int .i64 nx.node, .int .i64 nx.far, .int .i64 nx.link, .bool nx.back] 128)
            simpa [World.setCell] using this
          rw [← hW5]
          have h1 := HLT.out
          have h2 := HQL.out
          exact ⟨pre ++ [y], zs, W3.heap.size, nx, rfl, Lib.hid (by rw [HX.out]; simp), HNX, Lib.hid (HJ.out _ _ _ (some q) HJ2.out hg5 (fun r e => by cases e; exact h2)),
            Lib.hid (fun k hk hs => (hg5.block k (by omega) (fun e => by cases e; omega)).trans (HI2.out k hk hs)), Lib.hid hn5, Lib.hid (by omega)⟩
end Go.Proofs.YtmhiiomejopaoaaGreatDoor
