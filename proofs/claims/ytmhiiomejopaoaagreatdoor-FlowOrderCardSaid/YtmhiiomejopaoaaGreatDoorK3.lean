/- The flow walks: nearest. -/
import Derived.Test.YtmhiiomejopaoaaGreatDoorK2
import Derived.Deep.RegionHeld3
namespace Go.Proofs.YtmhiiomejopaoaaGreatDoor
set_option linter.all false
set_option maxRecDepth 100000
open Go.RowKit

theorem nearN_cases {l : List Lk} {x u f : List Int} {k : Nat} {d : List (Int × Wy)} {h : List Wy} {r : List (Int × Wy) × Int × Bool} (e : nearN l x u f k d h = some r) :
    ∃ k', k = k' + 1 ∧ h.length ≤ 400000 ∧ ((h.length = 0 ∧ r = (d, 0, false)) ∨
      (0 < h.length ∧ (∃ v, lookW d (gw h 0).node = some v) ∧ nearN l x u f k' d (takeL h) = some r) ∨
      (0 < h.length ∧ lookW d (gw h 0).node = none ∧ 0 ≤ (gw h 0).node ∧ (gw h 0).node < f.length ∧ 0 < gi f (gw h 0).node ∧ r = (d ++ [((gw h 0).node, gw h 0)], (gw h 0).node, true)) ∨
      (0 < h.length ∧ lookW d (gw h 0).node = none ∧ 0 ≤ (gw h 0).node ∧ (gw h 0).node < f.length ∧ ¬ 0 < gi f (gw h 0).node ∧ nearN l x u f k' (d ++ [((gw h 0).node, gw h 0)]) (pushN x u (gw h 0) l l.length (takeL h)) = some r)) := by
  cases k with
  | zero => cases e
  | succ k =>
    refine ⟨k, rfl, ?_⟩
    unfold nearN at e
    split at e
    · cases e
    · refine ⟨by omega, ?_⟩
      split at e
      · cases e; exact .inl ⟨by assumption, rfl⟩
      · split at e
        · rename_i hs
          exact .inr (.inl ⟨by omega, Option.isSome_iff_exists.1 hs, e⟩)
        · rename_i hs
          have hs' : lookW d (gw h 0).node = none := by simpa using hs
          split at e
          · cases e
          · split at e
            · cases e; exact .inr (.inr (.inl ⟨by omega, hs', by omega, by omega, by assumption, rfl⟩))
            · exact .inr (.inr (.inr ⟨by omega, hs', by omega, by omega, by assumption, e⟩))

theorem near_took {w wr w2 : World} {bm ph BB g : Nat} {m : List (Int × Value)} (hp : bm < ph ∧ ph < BB) (hg : BB ≤ g) (hm : MapI wr bm m) (hb : Below bm w wr) (hs : BB ≤ wr.heap.size) (hf : Fr wr w2 (fun k => k = ph ∨ k = g)) :
    MapI w2 bm m ∧ Below bm w w2 ∧ BB ≤ w2.heap.size :=
  ⟨hm.same (hf.block bm (by omega) (by rintro (rfl | rfl) <;> omega)), hf.toBelow hb (by omega) (by rintro i (rfl | rfl) <;> omega), Nat.le_trans hs hf.size⟩
theorem near_two (w : World) (o o' : Obj) : Below w.heap.size w ((w.alloc o).alloc o') := ((Below.refl _ _).alloc (Nat.le_refl _) _).alloc (by simp) _
theorem HeapAt.grown {w w' : World} {B p b : Nat} {v : Value} {l : List Wy} (h : HeapAt w B p v l) (hg : w.grownBy w' (some b)) (hne : p ≠ b) (hv : v.ownBlock ≠ some b) : HeapAt w' B p v l :=
  ⟨(hg.block p h.lt (by simpa using hne)).trans h.cell, h.row.kept hg (.inr hv)⟩
theorem near_put {w w2 w5 : World} {bm ph BB g : Nat} {d : List (Int × Wy)} {y : Wy} {v : Value} {hp : List Wy} (HP : bm < ph ∧ ph < BB) (hg : BB ≤ g) (hv : v.ownBlock = some g) (hlook : lookW d y.node = none) (ht : Below bm w w2 ∧ BB ≤ w2.heap.size) (h2 : HeapAt w2 BB ph v hp)
    (h5 : MapI w5 bm (putI (mapW d) y.node (wyv y))) (hg5 : ((w2.alloc (.cells #[.int .i64 y.node, .int .i64 y.far, .int .i64 y.link, .bool y.back] 128)).alloc (.cells #[.int .i64 0, .int .i64 0, .int .i64 0, .bool false] 128)).grownBy w5 (some bm)) :
    MapI w5 bm (mapW (d ++ [(y.node, y)])) ∧ HeapAt w5 BB ph v hp ∧ Below bm w w5 ∧ BB ≤ w5.heap.size ∧ w5.heap[w2.heap.size]? = some (.cells #[.int .i64 y.node, .int .i64 y.far, .int .i64 y.link, .bool y.back] 128 (0, 0)) ∧ w2.heap.size < w5.heap.size ∧ BB ≤ w2.heap.size := by
  have hbb := near_two w2 (.cells #[.int .i64 y.node, .int .i64 y.far, .int .i64 y.link, .bool y.back] 128) (.cells #[.int .i64 0, .int .i64 0, .int .i64 0, .bool false] 128)
  have hsz := hg5.size
  simp only [World.size_alloc] at hsz
  refine ⟨by rw [← put_mapW d y.node y hlook]; exact h5, (h2.below hbb).grown hg5 (by omega) (by rw [hv]; intro e; cases e; omega), below_of_grown (ht.1.trans (hbb.mono (by omega))) hg5 (by simp; omega) (Nat.le_refl _), by omega, ?_, by omega, ht.2⟩
  rw [hg5.block _ (by simp; omega) (by intro e; cases e; omega), Below.heap_alloc _ _ _ (by simp)]
  exact heap_alloc_new _ _
structure NearR (w wr : World) (bm BB ph q9 : Nat) (y : Wy) (d : List (Int × Wy)) (v : Value) (hq : List Wy) : Prop where
  map : MapI wr bm (mapW d)
  heap : HeapAt wr BB ph v hq
  below : Below bm w wr
  size : BB ≤ wr.heap.size
  way : wr.heap[q9]? = some (.cells #[.int .i64 y.node, .int .i64 y.far, .int .i64 y.link, .bool y.back] 128 (0, 0))
  lt : q9 < wr.heap.size
  le : BB ≤ q9
  ne : v.ownBlock ≠ some q9
theorem NearR.step {w wr w' : World} {bm BB ph q9 : Nat} {y : Wy} {d : List (Int × Wy)} {v : Value} {hq : List Wy} (h : NearR w wr bm BB ph q9 y d v hq) (hb : Below wr.heap.size wr w') (h0 : bm < BB) : NearR w w' bm BB ph q9 y d v hq :=
  ⟨h.map.below hb, h.heap.below hb, h.below.trans (hb.mono (by have := h.size; omega)), Nat.le_trans h.size hb.size, (hb.block _ h.lt).trans h.way, Nat.lt_of_lt_of_le h.lt hb.size, h.le, h.ne⟩
theorem NearR.own {w wr : World} {bm BB ph q9 : Nat} {y : Wy} {d : List (Int × Wy)} {v : Value} {hq : List Wy} (h : NearR w wr bm BB ph q9 y d v hq) {k : Nat} (hk : some k = v.ownBlock) : BB ≤ k ∧ k < wr.heap.size := by
  obtain ⟨A, c, rfl, _, _, hA⟩ := own_slice h.heap.row
  cases A with
  | none => simp [Value.ownBlock] at hk
  | some ad =>
    obtain ⟨h1, h2, h3⟩ := hA ad rfl
    rw [h1] at hk
    cases hk
    exact ⟨h2, h3⟩
theorem NearR.put {w wr w' : World} {bm BB ph q9 : Nat} {y x : Wy} {d : List (Int × Wy)} {v v' : Value} {hq : List Wy} (h : NearR w wr bm BB ph q9 y d v hq) (h0 : bm < ph ∧ ph < BB) (hf : Fr wr w' (fun k => k = ph ∨ some k = v.ownBlock)) (hh : HeapAt w' BB ph v' (putW hq x)) (hv : ∀ b, v'.ownBlock = some b → v.ownBlock = some b ∨ wr.heap.size ≤ b) :
    NearR w w' bm BB ph q9 y d v' (putW hq x) := by
  have hs := h.size
  have hle := h.le
  have hlt := h.lt
  refine ⟨h.map.same (hf.block bm (by omega) ?_), hh, hf.toBelow h.below (by omega) ?_, Nat.le_trans h.size hf.size, (hf.block q9 h.lt ?_).trans h.way, Nat.lt_of_lt_of_le h.lt hf.size, h.le, fun e => ?_⟩
  · rintro (e | e)
    · omega
    · have := h.own e; omega
  · rintro i (e | e)
    · omega
    · have := h.own e; omega
  · rintro (e | e)
    · omega
    · exact h.ne e.symm
  · rcases hv _ e with e' | e'
    · exact h.ne e'
    · omega
theorem NearR.drews {w wr : World} {bm BB ph q9 : Nat} {y : Wy} {d : List (Int × Wy)} {v : Value} {hq : List Wy} (h : NearR w wr bm BB ph q9 y d v hq) (n : Nat) : NearR w (wr.drewN n) bm BB ph q9 y d v hq :=
  ⟨h.map.drews n, ⟨h.heap.cell, h.heap.row⟩, below_drews h.below n, h.size, h.way, h.lt, h.le, h.ne⟩
theorem NearR.drew {w wr : World} {bm BB ph q9 : Nat} {y : Wy} {d : List (Int × Wy)} {v : Value} {hq : List Wy} (h : NearR w wr bm BB ph q9 y d v hq) : NearR w wr.drew bm BB ph q9 y d v hq :=
  ⟨h.map.drew, h.heap.drew, ⟨h.below.os, h.below.tape, h.below.output, h.below.size, h.below.block⟩, h.size, h.way, h.lt, h.le, h.ne⟩
theorem keep_two {wa wb : World} {ph q o : Nat} {v u : Value} (hf : Fr wa wb (fun k => k = ph ∨ some k = v.ownBlock)) (h1 : ph ≠ q) (h2 : ¬ some q = v.ownBlock) (e : wa.cell? ⟨q, o, none⟩ = some u) : wb.cell? ⟨q, o, none⟩ = some u :=
  hf.cell e (by rintro (e | e); exact h1 e.symm; exact h2 e)
set_option maxRecDepth 1000000 in
set_option maxHeartbeats 8000000 in
theorem nearest_any (fuel : Nat) (r : List (Int × Wy) × Int × Bool) (fr : Int) (p : Nat) (n : Int) (A : Option Addr) (c : Nat) (l : List Lk) (gx cx gu cu gf cf : Nat) (x u f : List Int) (w : World) (h : Car w p n A c l gx cx gu cu gf cf x u f) (hl : l.length ≤ 1000) (hx : x.length ≤ 1000000) (hu : u.length = l.length) (hfl : f.length ≤ 1000000) (hr : ∀ k ∈ l, InR x.length k)
    (hres : nearN l x u f fuel [] (putW [] ⟨fr, 0, -1, false⟩) = some r) :
    Calls Tryz.prog 98 #[.pointer (some ⟨p, 0, none⟩), .int .i64 fr] w fun e w' => ∃ b, e = nearV b r ∧ w.heap.size ≤ b ∧ MapI w' b (mapW r.1) ∧ Below w.heap.size w w' := by
  have HC := Lib.hid h
  have HR := Lib.hid hr
  have HRES := Lib.hid hres
  have hpl := (Array.getElem?_eq_some_iff.1 h.cell).1
  clear h hr hres
  have hmm := @run_makeMap Tryz.prog
  go_enter Tryz.func98, Tryz.ntmps98
  go_wp2_with (go_at_call 111; refine (put_any (w.heap.size + 1) (w.heap.size + 2) (.slice none 0 0) [] ⟨fr, 0, -1, false⟩ _ (heap_nil _ _ _ (by have := heap_alloc_new (w.alloc (.map #[] 0)) (.cells #[.slice none 0 0, .func (.func 110) #[] #[]] 148); simpa using this)) (by simp) (by simp)).mono ?_; rintro e w1 ⟨rfl, ⟨v1, H1, V1⟩, F1⟩)
  have hB1 : Below w.heap.size w w1 := F1.toBelow bel (by simp; omega) (by intro i hi; simp [Value.ownBlock] at hi; omega)
  have hM1 : MapI w1 w.heap.size [] := ((MapI.made w).alloc _).same (F1.block _ (by simp; omega) (by simp [Value.ownBlock]))
  have hs1 : w.heap.size + 2 ≤ w1.heap.size := by have := F1.size; simpa using this
  clear hmm
  have HB1 := Lib.hid hB1
  have HM1 := Lib.hid hM1
  have HS1 := Lib.hid hs1
  have HH1 := Lib.hid H1
  clear hB1 hM1 hs1 H1 V1 F1
  generalize hph : w.heap.size + 1 = ph at *
  generalize hBB : w.heap.size + 2 = BB at *
  generalize hbm : w.heap.size = bm at *
  have hphb : bm < ph ∧ ph < BB := by omega
  have HPB := Lib.hid hphb
  have HBM := Lib.hid hbm
  clear hphb hbm hph hBB
  go_wp2
  go_loopg [] fuel (fun k wr => ∃ (d : List (Int × Wy)) (hp : List Wy) (v : Value), Hid (nearN l x u f k d hp = some r) ∧ Hid (HeapAt wr BB ph v hp) ∧ Hid (MapI wr bm (mapW d)) ∧ Hid (Below bm w wr) ∧ Hid (BB ≤ wr.heap.size))
  case atStart => exact ⟨[], _, v1, HRES, HH1, HM1, HB1, HS1⟩
  case round =>
    obtain ⟨d, hp, v, HN, HH, HM, HB, HS⟩ := hrel
    obtain ⟨k', rfl, hlen, hcs⟩ := nearN_cases HN.out
    rcases hcs with ⟨h0, hr⟩ | hcs
    · obtain rfl : hp = [] := List.length_eq_zero_iff.1 h0
      clear hlen h0
      have Hr := Lib.hid hr
      clear hr
      go_wp2_with (go_at_call 112; refine (take_none ph BB v _ HH.out).mono ?_; unfold wyv; rintro e w2 ⟨rfl, hb2⟩)
      refine bodyPost_ret (v := .tuple #[.map (some bm), .int .i64 0, .bool false]) ?_ rfl ?_
      · simp [results, Tryz.results98, go_sem]
      · have hb3 := hb2.alloc hb2.size (.cells #[.int .i64 0, .int .i64 0, .int .i64 0, .bool false] 128)
        exact ⟨bm, by rw [Hr.out]; rfl, by rw [HBM.out]; exact Nat.le_refl _, by rw [Hr.out]; exact HM.out.below hb3, by rw [HBM.out]; exact HB.out.trans (hb3.mono (by have := HS.out; have := HPB.out; omega))⟩
    · obtain ⟨m, g, c', rfl, hBg, hlm⟩ : ∃ m g c', v = .slice (some ⟨g, 0, none⟩) (m + 1) c' ∧ BB ≤ g ∧ hp.length = m + 1 := by
        have hpos : 0 < hp.length := by rcases hcs with h | h | h <;> exact h.1
        rcases HH.out.row.2 with ⟨e, _⟩ | ⟨g, cap, cur, e, hb, _⟩
        · omega
        · exact ⟨hp.length - 1, g, cap, by rw [e, show hp.length - 1 + 1 = hp.length by omega], hb, by omega⟩
      have hm : m ≤ 1000000 := by omega
      have HG := Lib.hid (And.intro hBg (And.intro hlm hlen))
      clear hBg hlm hlen
      generalize hy : gw hp 0 = y at hcs
      have HY := Lib.hid hy
      clear hy
      rcases hcs with ⟨_, ⟨v, hlook⟩, hn⟩ | hcs
      · have HN2 := Lib.hid hn
        clear hn
        go_wp2_with (go_at_call 112; refine (take_some ph BB g m c' hp _ HH.out hm).mono ?_; rw [HY.out]; unfold wyv; rintro e w2 ⟨rfl, H2, F2⟩; have ht := near_took HPB.out HG.out.1 HM.out HB.out HS.out F2; have hlk := (ht.1.alloc (.cells #[.int .i64 y.node, .int .i64 y.far, .int .i64 y.link, .bool y.back] 128)).look2 (t := 124) (e := 128) Tryz.underlying124 (zero_wy _) y.node; rw [look_mapW, hlook] at hlk; simp only [Option.map_some, Option.getD_some, Option.isSome_some, wyv] at hlk; have HT := Lib.hid ht; have HH2 := Lib.hid H2; clear ht F2 H2)
        go_roundg k'
        case measure => omega
        case rel =>
          have hbb := near_two w2 (.cells #[.int .i64 y.node, .int .i64 y.far, .int .i64 y.link, .bool y.back] 128) (.cells #[.int .i64 v.node, .int .i64 v.far, .int .i64 v.link, .bool v.back] 128)
          have hs2 := HT.out.2.2
          exact ⟨d, takeL hp, _, HN2, Lib.hid (HH2.out.below hbb), Lib.hid (HT.out.1.below hbb), Lib.hid (HT.out.2.1.trans (hbb.mono (by have := HPB.out; omega))), Lib.hid (by simp; omega)⟩
      · obtain ⟨hlook, hy0, hyf⟩ : lookW d y.node = none ∧ 0 ≤ y.node ∧ y.node < f.length := by
          rcases hcs with ⟨_, h1, h2, h3, _⟩ | ⟨_, h1, h2, h3, _⟩
          · exact ⟨h1, h2, h3⟩
          · exact ⟨h1, h2, h3⟩
        have HCS := Lib.hid hcs
        have HLK := Lib.hid hlook
        clear hcs
        go_wp2_with (first | (go_at_call 112; refine (take_some ph BB g m c' hp _ HH.out hm).mono ?_; rw [HY.out]; unfold wyv; rintro e w2 ⟨rfl, H2, F2⟩; have ht := near_took HPB.out HG.out.1 HM.out HB.out HS.out F2; have hlk := (ht.1.alloc (.cells #[.int .i64 y.node, .int .i64 y.far, .int .i64 y.link, .bool y.back] 128)).look2 (t := 124) (e := 128) Tryz.underlying124 (zero_wy _) y.node; rw [look_mapW, hlook] at hlk; simp only [Option.map_none, Option.getD_none, Option.isSome_none, wyv] at hlk; have HT := Lib.hid ht; have HH2 := Lib.hid H2; clear ht F2 H2) | (at_mapUpdate; refine map_store (b := bm) (m := mapW d) rfl _ _ _ 124 128 (.inl rfl) Tryz.underlying124 y.node (wyv y) rfl rfl rfl ((HT.out.1.alloc _).alloc _) ?_; intro w5 hm5 hg5; have h5 := near_put HPB.out HG.out.1 rfl HLK.out HT.out.2 HH2.out hm5 hg5; clear hlk hm5 hg5))
        have H5 := Lib.hid h5
        clear h5
        generalize hq9 : w2.heap.size = q9 at H5
        have hC : Car w5 p n A c l gx cx gu cu gf cf x u f := HC.out.below (by rw [HBM.out]; exact H5.out.2.2.1)
        have HC5 := Lib.hid hC
        have c4 := cell_of_heap hC.cell 4
        have c1 := cell_of_heap hC.cell 1
        simp at c4 c1
        have y0 := cell_of_heap H5.out.2.2.2.2.1 0
        have y1 := cell_of_heap H5.out.2.2.2.2.1 1
        simp at y0 y1
        have cl := hC.rf.cell y.node.toNat (by omega)
        simp only [show ((y.node.toNat : Nat) : Int) = y.node by omega] at cl
        have hp5 := (Array.getElem?_eq_some_iff.1 hC.cell).1
        have hf5 := hC.rf.lt
        have hq5 := H5.out.2.2.2.2.2.1
        have hb5 := (H5.out.1).lt
        have Hq9 := Lib.hid hq9
        clear hC hq9
        cases hpos : decide (0 < gi f y.node)
        case true =>
          have hr : r = (d ++ [(y.node, y)], y.node, true) := by
            rcases HCS.out with ⟨_, h1, h2, h3, h4, h5⟩ | ⟨_, h1, h2, h3, h4, h5⟩
            · exact h5
            · simp at hpos; omega
          have Hr := Lib.hid hr
          clear hr
          dsimp only [Act.put]
          go_quiet (fail)
          go_wp2
          go_quiet (fail)
          go_wp2
          refine bodyPost_ret (v := .tuple #[.map (some bm), .int .i64 y.node, .bool true]) ?_ rfl ?_
          · simp [results, Tryz.results98, go_sem]
          · exact ⟨bm, by rw [Hr.out]; rfl, by rw [HBM.out]; exact Nat.le_refl _, by rw [Hr.out]; exact (H5.out.1.drews _).drews _, by rw [HBM.out]; exact below_drews (below_drews H5.out.2.2.1 _) _⟩
        case false =>
          have hn : nearN l x u f k' (d ++ [(y.node, y)]) (pushN x u y l l.length (takeL hp)) = some r := by
            rcases HCS.out with ⟨_, h1, h2, h3, h4, h5⟩ | ⟨_, h1, h2, h3, h4, h5⟩
            · simp at hpos; omega
            · exact h5
          have HN2 := Lib.hid hn
          clear hn
          dsimp only [Act.put]
          go_quiet (fail)
          go_wp2
          have h6 : NearR w (w5.drewN nq) bm BB ph q9 y (d ++ [(y.node, y)]) (.slice (some ⟨g, 0, none⟩) m c') (takeL hp) := by
            have h := H5.out
            exact NearR.drews ⟨h.1, h.2.1, h.2.2.1, h.2.2.2.1, h.2.2.2.2.1, h.2.2.2.2.2.1, h.2.2.2.2.2.2, by have := (own_roww HH2.out.row).lt; rw [Hq9.out] at this; intro e; simp [Value.ownBlock] at e; omega⟩ _
          have H6 := Lib.hid h6
          clear h6 H5 HC5 c1 c4 y0 y1 cl hp5 hf5 hq5 hb5 Hq9 HT HH2
          go_loopw [60] (fun i wr => ∃ (j : Nat) (v : Value), i = .int .i64 j ∧ j ≤ l.length ∧ Hid (NearR w wr bm BB ph q9 y (d ++ [(y.node, y)]) v (pushN x u y l j (takeL hp)))) (fun i _ => l.length - (intOf i).toNat)
          case atStart => exact ⟨0, _, rfl, by omega, H6⟩
          case round =>
            obtain ⟨j, v, rfl, hj, HR1⟩ := hrel
            by_cases hlt : j < l.length
            · have hcar : Car wr p n A c l gx cx gu cu gf cf x u f := HC.out.below (by rw [HBM.out]; exact HR1.out.below)
              obtain ⟨b, o, rfl, g1, g2, g3⟩ := hcar.links.nat j hlt
              have hbl := World.block_lt_of_cell? _ _ g1
              dsimp only at hbl
              have HIN := Lib.hid (HR.out _ (gl_mem (l := l) (i := j) (by omega) (by omega)))
              have hlenq := pushN_length x u y l (takeL hp) j
              rw [takeL_length] at hlenq
              have HLEN := Lib.hid (show (pushN x u y l j (takeL hp)).length ≤ 999000 by have := HG.out.2; omega)
              have HL2 := Lib.hid (show l.length ≤ 1000000 by omega)
              have HPB2 := Lib.hid (show bm < BB by have := HPB.out; omega)
              clear hcar hlenq
              generalize hq : gl l j = q at *
              have HQ := Lib.hid hq
              clear hq
              have hpN : pushN x u y l (j + 1) (takeL hp) = pushL x u y l (pushN x u y l j (takeL hp)) j := rfl
              have HPN := Lib.hid hpN
              clear hpN
              generalize hH : pushN x u y l j (takeL hp) = H at *
              clear hH
              have HLEN1 := Lib.hid (show H.length ≤ 1000000 by have := HLEN.out; omega)
              have HLENP := Lib.hid (show ∀ x, (putW H x).length ≤ 1000000 by intro x; rw [putW_length]; have := HLEN.out; omega)
              have HINQ := Lib.hid (show InR x.length (gl l j) by rw [HQ.out]; exact HIN.out)
              obtain ⟨w7, hw7⟩ : ∃ w7, w7 = wr.alloc (.cells #[.int .i64 q.a, .int .i64 q.b, .int .i64 q.m] 51) := ⟨_, rfl⟩
              have hb7 : Below wr.heap.size wr w7 := by rw [hw7]; exact (Below.refl _ _).alloc (Nat.le_refl _) _
              have h7 := HR1.out.step hb7 HPB2.out
              have k7 : w7.heap[wr.heap.size]? = some (.cells #[.int .i64 q.a, .int .i64 q.b, .int .i64 q.m] 51 (0, 0)) := by rw [hw7]; exact heap_alloc_new _ _
              have e0 := cell_of_heap k7 0
              have e1 := cell_of_heap k7 1
              simp at e0 e1
              have l7 : wr.heap.size < w7.heap.size := by rw [hw7]; simp
              have hne : ¬ some wr.heap.size = v.ownBlock := fun e => by have := (HR1.out.own e).2; omega
              have HNE := Lib.hid hne
              have hphq : ph < wr.heap.size := by have := HR1.out.size; have := HPB.out; omega
              have hphq9 : ph < q9 := by have := HR1.out.le; have := HPB.out; omega
              have HN14 := Lib.hid (show ph ≠ wr.heap.size by omega)
              have HN9 := Lib.hid (show ph ≠ q9 by omega)
              have HNE9 := Lib.hid (show ¬ some q9 = v.ownBlock from fun e => HR1.out.ne e.symm)
              have h00 := cell_of_heap HR1.out.way 0
              have h01 := cell_of_heap HR1.out.way 1
              have hq9l := HR1.out.lt
              simp at h00 h01
              have HR7 := Lib.hid h7
              have HK7 := Lib.hid k7
              have HW7 := Lib.hid hw7
              clear h7 k7 hne hb7 hw7
              cases hqa : (q.a == y.node)
              case false =>
                have HQA : Hid (¬ q.a = y.node) := Lib.hid (by simpa using hqa)
                have hC8 : Car wr p n _ c l gx cx gu cu gf cf x u f := HC.out.below (by rw [HBM.out]; exact HR1.out.below)
                have HC8 := Lib.hid hC8
                have c3 := cell_of_heap hC8.cell 3
                have y0 := cell_of_heap HR1.out.way 0
                have y1 := cell_of_heap HR1.out.way 1
                simp at c3 y0 y1
                have cu0 := hC8.ru.cell j (by omega)
                have hp8 := (Array.getElem?_eq_some_iff.1 hC8.cell).1
                have hu8 := hC8.ru.lt
                have hq8 := HR1.out.lt
                clear hC8
                cases hqb : (q.b == y.node)
                case false =>
                  have hqb' : ¬ q.b = y.node := by simpa using hqb
                  have hpl : pushL x u y l H j = H := by have hqa' := HQA.out; simp [pushL, HQ.out, hqa', hqb']
                  have HR9 : Hid (NearR w w7 bm BB ph q9 y (d ++ [(y.node, y)]) v (pushN x u y l (j + 1) (takeL hp))) := Lib.hid (by rw [HPN.out, hpl]; exact HR7.out)
                  clear hpl hqb'
                  go_wp2
                  go_roundw
                  case rel => exact ⟨j + 1, v, by go_num, by omega, by rw [← HW7.out]; exact HR9⟩
                  case measure => simp [intOf]; omega


                case true =>
                  have HQB : Hid (q.b = y.node) := Lib.hid (by simpa using hqb)
                  cases hun : decide (0 < gi u j)
                  case false =>
                    have hun' : ¬ 0 < gi u j := by simpa using hun
                    have hpl : pushL x u y l H j = H := by have hqa' := HQA.out; have hqb' := HQB.out; simp only [pushL, HQ.out, hqa', hqb', hun']; simp
                    have HR9 : Hid (NearR w w7 bm BB ph q9 y (d ++ [(y.node, y)]) v (pushN x u y l (j + 1) (takeL hp))) := Lib.hid (by rw [HPN.out, hpl]; exact HR7.out)
                    clear hpl hun'
                    go_wp2
                    go_roundw
                    case rel => exact ⟨j + 1, v, by go_num, by omega, by rw [← HW7.out]; exact HR9⟩
                    case measure => simp [intOf]; omega


                  case true =>
                    have hun' : 0 < gi u j := by simpa using hun
                    have hpl : pushL x u y l H j = putW (H) ⟨q.a, wrap64 (y.far - slackI x q), j, true⟩ := by have hqa' := HQA.out; have hqb' := HQB.out; simp only [pushL, HQ.out, hqa', hqb', hun']; simp
                    have HPL := Lib.hid hpl
                    clear hpl hun'
                    go_wp2
                    rw [← HW7.out]
                    have hC9 : Car w7 p n _ c l gx cx gu cu gf cf x u f := HC.out.below (by rw [HBM.out]; exact HR7.out.below)
                    have HC9 := Lib.hid hC9
                    clear hC9
                    have z1 := cell_of_heap HR7.out.way 1
                    simp at z1
                    go_region_held3 (fun w' => w'.cell? ⟨wr.heap.size, 0, none⟩ = some (.int .i64 q.a) ∧ w'.cell? ⟨q9, 1, none⟩ = some (.int .i64 y.far)) (first | exact ⟨e0, z1⟩ | exact ⟨keep_two HF2 HN14.out HNE.out (cell_below hbs e0), keep_two HF2 HN9.out HNE9.out (cell_below hbs z1)⟩ | exact ⟨cell_below hbs e0, cell_below hbs z1⟩) ((first | (go_at_call 113; refine (slack_any j p n _ c l gx cx gu cu gf cf x u f _ HC9.out.drew hlt HL2.out hx HINQ.out).mono ?_; rw [HQ.out]; rintro e ws ⟨rfl, hbs⟩) | (go_at_call 111; rw [IntWalk.i64_left]; refine (put_any ph BB v (H) ⟨q.a, wrap64 (y.far - slackI x q), j, true⟩ _ ((HR7.out.drew.step hbs HPB2.out).heap) HLEN1.out ((HR7.out.drew.step hbs HPB2.out).size)).mono ?_; rintro e wz ⟨rfl, ⟨vz, HP2, HV2⟩, HF2⟩)))
                    go_wp2
                    all_goals
                      have h9 := (HR7.out.drew.step hbs HPB2.out).put HPB.out HF2 HP2 HV2
                      have HR9 : Hid (NearR w wz bm BB ph q9 y (d ++ [(y.node, y)]) vz (pushN x u y l (j + 1) (takeL hp))) := Lib.hid (by rw [HPN.out, HPL.out]; exact h9)
                      clear h9
                      go_roundw
                      case rel => exact ⟨j + 1, vz, by go_num, by omega, HR9⟩
                      case measure => simp [intOf]; omega




              case true =>
                have HQA : Hid (q.a = y.node) := Lib.hid (by simpa using hqa)
                go_wp2_with fail
                rw [← HW7.out]
                have hC9 : Car w7 p n _ c l gx cx gu cu gf cf x u f := HC.out.below (by rw [HBM.out]; exact HR7.out.below)
                have HC9 := Lib.hid hC9
                clear hC9
                have z1 := cell_of_heap HR7.out.way 1
                simp at z1
                go_region_held3 (fun w' => w'.cell? ⟨wr.heap.size, 1, none⟩ = some (.int .i64 q.b) ∧ w'.cell? ⟨q9, 1, none⟩ = some (.int .i64 y.far)) (first | exact ⟨e1, z1⟩ | exact ⟨keep_two HF2 HN14.out HNE.out (cell_below hbs e1), keep_two HF2 HN9.out HNE9.out (cell_below hbs z1)⟩ | exact ⟨cell_below hbs e1, cell_below hbs z1⟩) ((first | (go_at_call 113; refine (slack_any j p n _ c l gx cx gu cu gf cf x u f _ HC9.out.drew hlt HL2.out hx HINQ.out).mono ?_; rw [HQ.out]; rintro e ws ⟨rfl, hbs⟩) | (go_at_call 111; rw [IntWalk.i64_left]; refine (put_any ph BB v (H) ⟨q.b, wrap64 (y.far + slackI x q), j, false⟩ _ ((HR7.out.drew.step hbs HPB2.out).heap) HLEN1.out ((HR7.out.drew.step hbs HPB2.out).size)).mono ?_; rintro e wp ⟨rfl, ⟨v2, HP2, HV2⟩, HF2⟩)))


                have h8 := (HR7.out.drew.step hbs HPB2.out).put HPB.out HF2 HP2 HV2
                have e0' := keep_two HF2 HN14.out HNE.out (cell_below hbs e0)
                have e1' := keep_two HF2 HN14.out HNE.out (cell_below hbs e1)
                have hls : wr.heap.size < wp.heap.size := by have h1 := hbs.size; have h2 := HF2.size; simp at h1; omega
                have HR8 := Lib.hid h8
                have hne2 : ¬ some wr.heap.size = v2.ownBlock := fun e => by
                  rcases HV2 _ e.symm with h | h
                  · exact HNE.out h.symm
                  · have h1 := hbs.size; simp at h1; omega
                have HNE := Lib.hid hne2
                have HNE9 := Lib.hid (show ¬ some q9 = v2.ownBlock from fun e => HR8.out.ne e.symm)
                clear h8 hne2 HV2 HP2 HF2 hbs e0 e1 z1 HC9 HK7 HW7 l7 h00 h01
                have hC8 : Car wp p n _ c l gx cx gu cu gf cf x u f := HC.out.below (by rw [HBM.out]; exact HR8.out.below)
                have HC8 := Lib.hid hC8
                have c3 := cell_of_heap hC8.cell 3
                have y0 := cell_of_heap HR8.out.way 0
                have y1 := cell_of_heap HR8.out.way 1
                simp at c3 y0 y1
                have cu0 := hC8.ru.cell j (by omega)
                have hp8 := (Array.getElem?_eq_some_iff.1 hC8.cell).1
                have hu8 := hC8.ru.lt
                have hq8 := HR8.out.lt
                clear hC8
                cases hqb : (q.b == y.node)
                case false =>
                  have hqb' : ¬ q.b = y.node := by simpa using hqb
                  have hpl : pushL x u y l H j = putW H ⟨q.b, wrap64 (y.far + slackI x q), j, false⟩ := by have hqa' := HQA.out; simp [pushL, HQ.out, hqa', hqb']
                  have HR9 : Hid (NearR w wp bm BB ph q9 y (d ++ [(y.node, y)]) v2 (pushN x u y l (j + 1) (takeL hp))) := Lib.hid (by rw [HPN.out, hpl]; exact HR8.out)
                  clear hpl hqb'
                  go_wp2
                  go_roundw
                  case rel => exact ⟨j + 1, v2, by go_num, by omega, by exact HR9⟩
                  case measure => simp [intOf]; omega


                case true =>
                  have HQB : Hid (q.b = y.node) := Lib.hid (by simpa using hqb)
                  cases hun : decide (0 < gi u j)
                  case false =>
                    have hun' : ¬ 0 < gi u j := by simpa using hun
                    have hpl : pushL x u y l H j = putW H ⟨q.b, wrap64 (y.far + slackI x q), j, false⟩ := by have hqa' := HQA.out; have hqb' := HQB.out; simp only [pushL, HQ.out, hqa', hqb', hun']; simp
                    have HR9 : Hid (NearR w wp bm BB ph q9 y (d ++ [(y.node, y)]) v2 (pushN x u y l (j + 1) (takeL hp))) := Lib.hid (by rw [HPN.out, hpl]; exact HR8.out)
                    clear hpl hun'
                    go_wp2
                    go_roundw
                    case rel => exact ⟨j + 1, v2, by go_num, by omega, by exact HR9⟩
                    case measure => simp [intOf]; omega


                  case true =>
                    have hun' : 0 < gi u j := by simpa using hun
                    have hpl : pushL x u y l H j = putW (putW H ⟨q.b, wrap64 (y.far + slackI x q), j, false⟩) ⟨q.a, wrap64 (y.far - slackI x q), j, true⟩ := by have hqa' := HQA.out; have hqb' := HQB.out; simp only [pushL, HQ.out, hqa', hqb', hun']; simp
                    have HPL := Lib.hid hpl
                    clear hpl hun'
                    go_wp2
                    go_region_held3 (fun w' => w'.cell? ⟨wr.heap.size, 0, none⟩ = some (.int .i64 q.a) ∧ w'.cell? ⟨q9, 1, none⟩ = some (.int .i64 y.far)) (first | exact ⟨e0', y1⟩ | exact ⟨keep_two HF2 HN14.out HNE.out (cell_below hbs e0'), keep_two HF2 HN9.out HNE9.out (cell_below hbs y1)⟩ | exact ⟨cell_below hbs e0', cell_below hbs y1⟩) ((first | (go_at_call 113; refine (slack_any j p n _ c l gx cx gu cu gf cf x u f _ HC8.out.drew hlt HL2.out hx HINQ.out).mono ?_; rw [HQ.out]; rintro e ws ⟨rfl, hbs⟩) | (go_at_call 111; rw [IntWalk.i64_left]; refine (put_any ph BB v2 (putW H ⟨q.b, wrap64 (y.far + slackI x q), j, false⟩) ⟨q.a, wrap64 (y.far - slackI x q), j, true⟩ _ ((HR8.out.drew.step hbs HPB2.out).heap) (HLENP.out _) ((HR8.out.drew.step hbs HPB2.out).size)).mono ?_; rintro e wz ⟨rfl, ⟨vz, HP2, HV2⟩, HF2⟩)))
                    go_wp2
                    all_goals
                      have h9 := (HR8.out.drew.step hbs HPB2.out).put HPB.out HF2 HP2 HV2
                      have HR9 : Hid (NearR w wz bm BB ph q9 y (d ++ [(y.node, y)]) vz (pushN x u y l (j + 1) (takeL hp))) := Lib.hid (by rw [HPN.out, HPL.out]; exact h9)
                      clear h9
                      go_roundw
                      case rel => exact ⟨j + 1, vz, by go_num, by omega, HR9⟩
                      case measure => simp [intOf]; omega





            · obtain rfl : j = l.length := by omega
              go_wp2
              go_roundg k'
              case measure => omega
              case rel => exact ⟨_, _, _, HN2, Lib.hid HR1.out.heap, Lib.hid HR1.out.map, Lib.hid HR1.out.below, Lib.hid HR1.out.size⟩
end Go.Proofs.YtmhiiomejopaoaaGreatDoor
