/- The flow walks: With. -/
import Derived.Test.YtmhiiomejopaoaaGreatDoorM6
import Derived.Test.YtmhiiomejopaoaaGreatDoorG2
namespace Go.Proofs.YtmhiiomejopaoaaGreatDoor
set_option linter.all false
set_option maxRecDepth 100000
open Go.RowKit

def LksV (w : World) (v : Value) (l : List Lk) : Prop := ∃ A c, v = .slice A l.length c ∧ LksAt w A l ∧ (A = none → l.length = 0 ∧ c = 0)
theorem LksV.below {w w1 : World} {v : Value} {l : List Lk} (h : LksV w v l) (hb : Below w.heap.size w w1) : LksV w1 v l := by
  obtain ⟨A, c, e, h1, h2⟩ := h
  exact ⟨A, c, e, h1.below hb, h2⟩
theorem LksV.nil (w : World) : LksV w (.slice none 0 0) [] := ⟨none, 0, rfl, fun i h0 hi => by simp at hi; omega, fun _ => ⟨rfl, rfl⟩⟩
theorem news_kept2 {w w1 : World} {v1 v2 : Value} {t : TypeId} {o : Obj} (hb : Below ((w.alloc (.cells #[v1, v2] t)).alloc o).heap.size ((w.alloc (.cells #[v1, v2] t)).alloc o) w1) : w1.cell? ⟨w.heap.size, 0, none⟩ = some v1 ∧ w1.cell? ⟨w.heap.size, 1, none⟩ = some v2 ∧ w1.frozen? ⟨w.heap.size, 0, none⟩ = false ∧ w1.frozen? ⟨w.heap.size, 1, none⟩ = false ∧ w.heap.size + 1 < w1.heap.size := by
  have h := hb.size
  simp at h
  have hh := hb.block w.heap.size (by simp; omega)
  rw [Below.heap_alloc _ _ _ (by simp), heap_alloc_new] at hh
  refine ⟨?_, ?_, ?_, ?_, by omega⟩ <;> simp [World.cell?, World.frozen?, hh]
theorem news_kept3 {w w1 : World} {v1 v2 : Value} {t : TypeId} {o : Obj} (hb : Below ((w.alloc o).alloc (.cells #[v1, v2] t)).heap.size ((w.alloc o).alloc (.cells #[v1, v2] t)) w1) : w1.cell? ⟨w.heap.size + 1, 0, none⟩ = some v1 ∧ w1.cell? ⟨w.heap.size + 1, 1, none⟩ = some v2 ∧ w1.frozen? ⟨w.heap.size + 1, 0, none⟩ = false ∧ w1.frozen? ⟨w.heap.size + 1, 1, none⟩ = false ∧ w.heap.size + 1 < w1.heap.size := by
  have := news_kept hb
  simp only [World.size_alloc] at this
  exact this
def withR (n : Int) (l m : List Lk) : (Int × List Lk) × Int := if checkL n l ≠ 0 then ((0, []), checkL n l) else if checkL n (l ++ m) ≠ 0 then ((0, []), checkL n (l ++ m)) else ((n, l ++ m), 0)
set_option maxRecDepth 100000 in
set_option maxHeartbeats 4000000 in
theorem with_any (n : Int) (A : Option Addr) (c : Nat) (l : List Lk) (B : Option Addr) (d : Nat) (m : List Lk) (w : World) (hl : l.length + m.length ≤ 1000000) (hn1 : A = none → l.length = 0 ∧ c = 0) (hn2 : B = none → m.length = 0 ∧ d = 0) (h : LksAt w A l) (h' : LksAt w B m) :
    Calls Tryz.prog 22 #[.agg #[.int .i64 n, .slice A l.length c], .slice B m.length d] w fun e w' => ∃ v, e = .returned (.tuple #[.agg #[.int .i64 (withR n l m).1.1, v], .int .i64 (withR n l m).2]) ∧ LksV w' v (withR n l m).1.2 ∧ Below w.heap.size w w' := by
  have HA := Lib.hid h
  have HM := Lib.hid h'
  have HN1 := Lib.hid hn1
  have HN2 := Lib.hid hn2
  clear h h' hn1 hn2
  by_cases hc : checkL n l = 0
  · have hc' : (checkL n l != 0) = false := by simpa using hc
    have HC := Lib.hid hc
    clear hc
    have HS2 := Lib.hid hl
    obtain ⟨W0, hW0⟩ : ∃ W0, W0 = (w.alloc (.cells #[.int .i64 n, .slice A l.length c] 24)).alloc (.cells #[.int .i64 0, .slice none 0 0] 24) := ⟨_, rfl⟩
    have HB0 := Lib.hid (show Below w.heap.size w W0 by rw [hW0]; exact bel)
    have HQ := Lib.hid (show W0.heap[w.heap.size]? = some (.cells #[.int .i64 n, .slice A l.length c] 24) ∧ W0.heap[w.heap.size + 1]? = some (.cells #[.int .i64 0, .slice none 0 0] 24) by
      rw [hW0]
      refine ⟨?_, ?_⟩
      · rw [Below.heap_alloc _ _ _ (by simp)]; exact heap_alloc_new _ _
      · have := heap_alloc_new (w.alloc (.cells #[.int .i64 n, .slice A l.length c] 24)) (.cells #[.int .i64 0, .slice none 0 0] 24); simpa using this)
    have HW0 := Lib.hid hW0
    clear hW0
    go_enter Tryz.func22, Tryz.ntmps22
    go_upto_region 1 with fail
    rw [← HW0.out]
    have q0 := cell_of_heap HQ.out.1 0
    have q1 := cell_of_heap HQ.out.1 1
    simp at q0 q1
    have lq := World.block_lt_of_cell? _ _ q0
    go_upto_region 4 with (go_at_call 25; refine (check_any n A c l _ (by omega) (HA.out.below HB0.out)).mono ?_; rintro e w1 ⟨rfl, hb⟩; have HB1 := Lib.hid hb; have q0 := cell_below hb q0; have q1 := cell_below hb q1; have lq := World.block_lt_of_cell? _ _ q0; clear hb)
    have HA1 := Lib.hid ((HA.out.below HB0.out).below HB1.out)
    have HM1 := Lib.hid ((HM.out.below HB0.out).below HB1.out)
    go_cut [7] from 8 (fun q wx => ∃ (b2 : Nat) (A2 : Option Addr) (c2 : Nat), q = .pointer (some ⟨b2, 0, none⟩) ∧ wx.cell? ⟨b2, 0, none⟩ = some (.int .i64 n) ∧ wx.cell? ⟨b2, 1, none⟩ = some (.slice A2 (l.length + m.length) c2) ∧ Hid (LksAt wx A2 (l ++ m)) ∧ Hid (A2 = none → (l ++ m).length = 0 ∧ c2 = 0) ∧ Hid (∀ ad, A2 = some ad → w1.heap.size ≤ ad.block) ∧ Hid (Below w1.heap.size w1 wx))
    case first =>
      go_region_held3 (fun w' => w'.cell? ⟨w.heap.size, 0, none⟩ = some (.int .i64 n) ∧ w'.cell? ⟨w.heap.size, 1, none⟩ = some (.slice A l.length c)) (constructor <;> (repeat' (first | exact q0 | exact q1 | refine cell_alloc _ ?_ | refine cell_below hb2 ?_ | (refine cell_other ?_ (by simp; omega))))) ((go_at_call 50; refine (concat_two _ A c l B d m _ HS2.out HN1.out HN2.out ?hl ?hm ?g0 ?g1).mono ?_; (case hl => first | exact HA1.out.alloc _ | exact (HA1.out.alloc _).alloc _ | exact ((HA1.out.alloc _).alloc _).alloc _); (case hm => first | exact HM1.out.alloc _ | exact (HM1.out.alloc _).alloc _ | exact ((HM1.out.alloc _).alloc _).alloc _); (case g0 => go_simp; done); (case g1 => go_simp; done); rintro e w2 ⟨v, rfl, ho, hb2⟩; obtain ⟨A2, c2, rfl, hv2, hvn, hv3⟩ := own_lksV ho; have hsz2 : w1.heap.size ≤ w2.heap.size := Nat.le_trans (by first | exact Nat.le_refl _ | (simp; done) | (simp; omega)) hb2.size; (first | (have hzz := news_kept2 (below_undrew hb2); obtain ⟨z0, z1, z2, z3, z4⟩ := hzz) | skip); (first | (have hzz := news_kept3 (below_undrew hb2); obtain ⟨t0, t1, t2, t3, t4⟩ := hzz) | skip)))
      all_goals go_wp2_with fail
      · go_meet
        exact ⟨_, A2, c2, rfl, by go_simp, by go_simp, Lib.hid (hv2.alloc _), Lib.hid hvn, Lib.hid (fun ad e => by have := hv3 ad e; simp at this; omega), Lib.hid (Below.alloc (Below.trans (by first | exact bel | exact below_undrew bel) ((below_undrew hb2).mono (by first | exact Nat.le_refl _ | (simp; done) | (simp; omega)))) hsz2 _)⟩
      · have hb3 := below_undrew hb2
        have hv4 : ∀ ad, A2 = some ad → w1.heap.size + 2 ≤ ad.block := fun ad e => by have := hv3 ad e; simpa using this
        have hs2 := set_two (v1 := .int .i64 n) (v2 := .slice A2 (l.length + m.length) c2) t0 t1
        go_meet
        exact ⟨_, _, _, rfl, hs2.1, hs2.2.1, Lib.hid (hv2.grown hs2.2.2 (fun ad e _ e2 => by have := hv4 ad e; have := Option.some.inj e2; omega)), Lib.hid hvn, Lib.hid (fun ad e => by have := hv4 ad e; omega), Lib.hid ((((show Below w1.heap.size w1 ((w1.alloc _).alloc _) from bel).trans (hb3.mono (by simp [World.drew]; omega))).setCell (by simp) _).setCell (by simp) _)⟩
      · have hb3 := below_undrew hb2
        have hv4 : ∀ ad, A2 = some ad → w1.heap.size + 2 ≤ ad.block := fun ad e => by have := hv3 ad e; simpa using this
        have hs2 := set_two (v1 := .int .i64 n) (v2 := .slice A2 (l.length + m.length) c2) z0 z1
        go_meet
        exact ⟨_, _, _, rfl, hs2.1, hs2.2.1, Lib.hid (hv2.grown hs2.2.2 (fun ad e _ e2 => by have := hv4 ad e; have := Option.some.inj e2; omega)), Lib.hid hvn, Lib.hid (fun ad e => by have := hv4 ad e; omega), Lib.hid ((((show Below w1.heap.size w1 ((w1.alloc _).alloc _) from bel).trans (hb3.mono (by simp [World.drew]; omega))).setCell (by simp) _).setCell (by simp) _)⟩
    case rest =>
      obtain ⟨b2, A2, c2, rfl, c0, c1, HL2, HN3, HAZ, HB2⟩ := hcut
      have HSZ := Lib.hid HB1.out.size
      have HSW := Lib.hid (show W0.heap.size = w.heap.size + 2 by rw [HW0.out]; simp)
      have lb2 := World.block_lt_of_cell? _ _ c0
      have z := (HB1.out.trans (HB2.out.mono HB1.out.size)).block (w.heap.size + 1) (by rw [HW0.out]; simp)
      rw [HQ.out.2] at z
      have z0 := cell_of_heap z 0
      have z1 := cell_of_heap z 1
      have zf := frozen_of_heap z 0
      have zg := frozen_of_heap z 1
      have zl := (Array.getElem?_eq_some_iff.1 z).1
      simp at z0 z1
      have HWB := Lib.hid (below_trans (below_trans HB0.out HB1.out) HB2.out)
      have HCK := Lib.hid (check_any n A2 c2 (l ++ m) wc (by rw [List.length_append]; omega) HL2.out)
      rw [List.length_append] at HCK
      clear z q0 q1 lq
      by_cases hc2 : checkL n (l ++ m) = 0
      · have hc2' : (checkL n (l ++ m) != 0) = false := by simpa using hc2
        have HC2 := Lib.hid (show withR n l m = ((n, l ++ m), 0) by unfold withR; rw [if_neg (by simpa using HC.out), if_neg (by simpa using hc2)])
        have HC0 := Lib.hid hc2
        clear hc2
        go_wp2_with (go_at_call 25; refine HCK.out.mono ?_; rintro e w5 ⟨rfl, hb5⟩; have HB5 := Lib.hid (below_trans HWB.out hb5); have z0 := cell_below hb5 z0; have z1 := cell_below hb5 z1; have zf := (hb5.frozen (p := ⟨w.heap.size + 1, 0, none⟩) zl).trans zf; have zg := (hb5.frozen (p := ⟨w.heap.size + 1, 1, none⟩) zl).trans zg; have c0 := cell_below hb5 c0; have c1 := cell_below hb5 c1; have HL5 := Lib.hid (HL2.out.below hb5); have zl := World.block_lt_of_cell? _ _ z0; have lb2 := World.block_lt_of_cell? _ _ c0; clear hb5)
        have hs2 := set_two (v1 := .int .i64 n) (v2 := .slice A2 (l.length + m.length) c2) z0 z1
        obtain ⟨y0, y1, yg⟩ := hs2
        have HB6 := Lib.hid (below_of_grown HB5.out yg HB5.out.size (by omega))
        have HL6 := Lib.hid (HL5.out.grown yg (fun ad e h0 e2 => by
          have h1 := HAZ.out ad e
          have h2 := HSZ.out
          have h3 := HSW.out
          have h4 := Option.some.inj e2
          omega))
        refine bodyPost_ret (v := .tuple #[.agg #[.int .i64 n, .slice A2 (l.length + m.length) c2], .int .i64 0]) ?_ rfl ?_
        · simp [results, Tryz.results22, go_sem, y0, y1]
        · rw [HC2.out]
          exact ⟨_, rfl, ⟨A2, c2, by rw [List.length_append], HL6.out, HN3.out⟩, HB6.out⟩
      · have hc2' : (checkL n (l ++ m) != 0) = true := by simpa using hc2
        have HC2 := Lib.hid (show withR n l m = ((0, []), checkL n (l ++ m)) by unfold withR; rw [if_neg (by simpa using HC.out), if_pos (by simpa using hc2)])
        clear hc2
        go_wp2_with (go_at_call 25; refine HCK.out.mono ?_; rintro e w5 ⟨rfl, hb5⟩; have HB5 := Lib.hid (below_trans HWB.out hb5); have z0 := cell_below hb5 z0; have z1 := cell_below hb5 z1; have zf := (hb5.frozen (p := ⟨w.heap.size + 1, 0, none⟩) zl).trans zf; have zg := (hb5.frozen (p := ⟨w.heap.size + 1, 1, none⟩) zl).trans zg; have c0 := cell_below hb5 c0; have c1 := cell_below hb5 c1; have HL5 := Lib.hid (HL2.out.below hb5); have zl := World.block_lt_of_cell? _ _ z0; have lb2 := World.block_lt_of_cell? _ _ c0; clear hb5)
        have hs2 := set_two (v1 := .int .i64 0) (v2 := .slice none 0 0) z0 z1
        obtain ⟨y0, y1, yg⟩ := hs2
        have HB6 := Lib.hid (below_of_grown HB5.out yg HB5.out.size (by omega))
        refine bodyPost_ret (v := .tuple #[.agg #[.int .i64 0, .slice none 0 0], .int .i64 (checkL n (l ++ m))]) ?_ rfl ?_
        · simp [results, Tryz.results22, go_sem, y0, y1]
        · exact ⟨_, by rw [HC2.out], by rw [HC2.out]; exact LksV.nil _, HB6.out⟩
  · have hc' : (checkL n l != 0) = true := by simpa using hc
    have HC := Lib.hid (show withR n l m = ((0, []), checkL n l) by unfold withR; rw [if_pos hc])
    clear hc
    go_enter Tryz.func22, Tryz.ntmps22
    go_wp2_with (go_at_call 25; refine (check_any n A c l _ (by omega) ((HA.out.alloc _).alloc _)).mono ?_; rintro e w1 ⟨rfl, hb⟩; have HB := Lib.hid (below_trans (bel : Below w.heap.size w ((w.alloc (.cells #[.int .i64 n, .slice A l.length c] 24)).alloc (.cells #[.int .i64 0, .slice none 0 0] 24))) hb); have z := news_kept hb; obtain ⟨z0, z1, z2, z3, z4⟩ := z; simp at z0 z1 z2 z3 z4; clear hb)
    have hs2 := set_two (v1 := .int .i64 0) (v2 := .slice none 0 0) z0 z1
    obtain ⟨y0, y1, yg⟩ := hs2
    have HB2 := Lib.hid (below_of_grown HB.out yg HB.out.size (by omega))
    refine bodyPost_ret (v := .tuple #[.agg #[.int .i64 0, .slice none 0 0], .int .i64 (checkL n l)]) ?_ rfl ?_
    · simp [results, Tryz.results22, go_sem, y0, y1]
    · exact ⟨_, by rw [HC.out], by rw [HC.out]; exact LksV.nil _, HB2.out⟩
end Go.Proofs.YtmhiiomejopaoaaGreatDoor
