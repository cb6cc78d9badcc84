/- The flow walks: send. -/
import Derived.Test.YtmhiiomejopaoaaGreatDoorK7
import Derived.Test.YtmhiiomejopaoaaGreatDoorKR
import Derived.Deep.DeepCutAuto
import Derived.Deep.RegionWith
namespace Go.Proofs.YtmhiiomejopaoaaGreatDoor
set_option linter.all false
set_option maxRecDepth 100000
open Go.RowKit
attribute [local go_sem] Oper.semAt_some

theorem sendN_cases {fuel : Nat} {l : List Lk} {x u f : List Int} {v : Nat} {r : Option (List Int × List Int × List Int)} (h : sendN fuel l x u f v = some r) :
    (∃ d t, nearN l x u f fuel [] (putW [] ⟨v, 0, -1, false⟩) = some (d, t, false) ∧ r = none) ∨
    (∃ d t ys, nearN l x u f fuel [] (putW [] ⟨v, 0, -1, false⟩) = some (d, t, true) ∧ pathN d l fuel ((lookW d t).getD ⟨0, 0, 0, false⟩) = some ys ∧
      ∃ m, m = ys.foldl (capN u) (mn (wrap64 (-(gi f v))) (gi f t)) ∧ r = some (liftX d ((lookW d t).getD ⟨0, 0, 0, false⟩).far x.length x, ys.foldl (moveN m) u, si (f.set v (wrap64 (gi f v + m))) t (wrap64 (gi (f.set v (wrap64 (gi f v + m))) t - m)))) := by
  unfold sendN at h
  split at h
  · cases h
  · rename_i d t e
    cases h
    exact .inl ⟨_, _, e, rfl⟩
  · rename_i d t e
    split at h
    · cases h
    · rename_i ys e2
      cases h
      exact .inr ⟨d, t, ys, e, e2, _, rfl, rfl⟩

theorem field_far (a b c d : Value) (W : World) : (Instr.field 128 (.agg #[a, b, c, d]) 1).run Tryz.prog W = .ok b W := by kernel_rfl
/-- What send leaves behind. -/
def SendR (w w' : World) (p : Nat) (n : Int) (A : Option Addr) (c : Nat) (l : List Lk) (gx cx gu cu gf cf : Nat) (x u f : List Int) (r : Option (List Int × List Int × List Int)) : Prop :=
  Car w' p n A c l gx cx gu cu gf cf (r.getD (x, u, f)).1 (r.getD (x, u, f)).2.1 (r.getD (x, u, f)).2.2 ∧ Fr w w' (fun k => k = gx ∨ k = gu ∨ k = gf)
theorem fr_of_below {w w' : World} {S : Nat → Prop} (h : Below w.heap.size w w') : Fr w w' S := ⟨h.os, h.tape, h.output, h.size, fun k hk _ => h.block k hk⟩
set_option maxRecDepth 1000000 in
set_option maxHeartbeats 8000000 in
theorem send_no (fuel : Nat) (d : List (Int × Wy)) (t : Int) (v : Nat) (p : Nat) (n : Int) (A : Option Addr) (c : Nat) (l : List Lk) (gx cx gu cu gf cf : Nat) (x u f : List Int) (w : World) (h : Car w p n A c l gx cx gu cu gf cf x u f) (hl : l.length ≤ 1000) (hx : x.length ≤ 1000000) (hu : u.length = l.length) (hfl : f.length ≤ 1000000) (hr : ∀ k ∈ l, InR x.length k)
    (hres : nearN l x u f fuel [] (putW [] ⟨v, 0, -1, false⟩) = some (d, t, false)) :
    Calls Tryz.prog 87 #[.pointer (some ⟨p, 0, none⟩), .int .i64 v] w fun e w' => e = .returned (.bool false) ∧ Below w.heap.size w w' := by
  have HN := Lib.hid (nearest_any fuel _ v p n A c l gx cx gu cu gf cf x u f _ (h.alloc (.cells #[.pointer (some ⟨p, 0, none⟩)] 108)) hl hx hu hfl hr hres)
  clear h hr hres
  go_enter Tryz.func87, Tryz.ntmps87
  go_wp2_with (go_at_call 98; refine HN.out.mono ?_; unfold nearV; rintro e w1 ⟨bm, rfl, hbm, hM, hB⟩)
  go_ret
  exact ⟨rfl, below_trans bel hB⟩
theorem send_seq {w wx w4 : World} {bc bm : Nat} {d : List (Int × Wy)} {p : Nat} {n : Int} {A : Option Addr} {c : Nat} {l : List Lk} {gx cx gu cu gf cf : Nat} {x u f : List Int} (k q fuel : Nat) (t : Int) (ys : List Wy) (h : SendW w wx bc bm d p n A c l gx cx gu cu gf cf x u f) (s : Sep p A l gx gu gf) (hq : q < wx.heap.size)
    (hqm : bm ≠ q) (hqp : p ≠ q) (hqa : Apart A l.length (some q)) (hl : l.length ≤ 1000000)
    (hw4 : w4 = ((wx.alloc (.cells #[.pointer (some ⟨p, 0, none⟩)] 108)).alloc (.cells #[.map (some bm)] 124)).alloc (.cells #[.int .i64 t] 3))
    (hpath : pathN d l fuel ((lookW d t).getD ⟨0, 0, 0, false⟩) = some ys) :
    SeqC k Tryz.prog 114 #[.pointer (some ⟨wx.heap.size + 1, 0, none⟩), .pointer (some ⟨wx.heap.size + 2, 0, none⟩), .pointer (some ⟨wx.heap.size, 0, none⟩)] (fun x : Wy => #[wyv x]) (KeepS w4.heap.size (fun j => j = gu ∨ j = q)) ys w4 := by
  have hb : Below wx.heap.size wx w4 := by rw [hw4]; exact bel
  have hs : w4.heap.size = wx.heap.size + 3 := by rw [hw4]; simp
  have hgu := h.car.ru.lt
  have h5 := h.step hb
  have e3 : w4.heap[wx.heap.size]? = some (.cells #[.pointer (some ⟨p, 0, none⟩)] 108 (0, 0)) := by
    rw [hw4, Below.heap_alloc _ _ _ (by simp; omega), Below.heap_alloc _ _ _ (by simp)]; exact heap_alloc_new _ _
  have e4 : w4.heap[wx.heap.size + 1]? = some (.cells #[.map (some bm)] 124 (0, 0)) := by
    rw [hw4, Below.heap_alloc _ _ _ (by simp)]; have := heap_alloc_new (wx.alloc (.cells #[.pointer (some ⟨p, 0, none⟩)] 108)) (.cells #[.map (some bm)] 124); simpa using this
  have e5 : w4.heap[wx.heap.size + 2]? = some (.cells #[.int .i64 t] 3 (0, 0)) := by
    rw [hw4]; have := heap_alloc_new ((wx.alloc (.cells #[.pointer (some ⟨p, 0, none⟩)] 108)).alloc (.cells #[.map (some bm)] 124)) (.cells #[.int .i64 t] 3); simpa using this
  have hpl := (Array.getElem?_eq_some_iff.1 h.car.cell).1
  have hml := h.map.lt
  refine steps1 k w4.heap.size (fun j => j = gu ∨ j = q) fuel ys wx.heap.size (wx.heap.size + 1) (wx.heap.size + 2) bm p n A c l _ _ _ d t w4 (Nat.le_refl _) ?_ e3 ?_ e4 ?_ e5 ?_ h5.map ?_ h5.car.cell ?_ h5.car.links ?_ hl hpath
  · rintro j (rfl | rfl) <;> omega
  · exact ⟨by omega, by rintro (e | e) <;> omega⟩
  · exact ⟨by omega, by rintro (e | e) <;> omega⟩
  · exact ⟨by omega, by rintro (e | e) <;> omega⟩
  · exact ⟨by omega, by rintro (e | e); exact h.bmx.2.1 e; exact hqm e⟩
  · exact ⟨by omega, by rintro (e | e); exact s.pu e; exact hqp e⟩
  · intro ad e h0
    obtain ⟨b, o, e', g1, _⟩ := h5.car.links 0 (by omega) (by omega)
    have hlt := World.block_lt_of_cell? _ _ g1
    rw [e] at e'
    cases e'
    exact ⟨hlt, by rintro (e2 | e2); exact s.au _ e h0 (by rw [e2]); exact hqa _ e h0 (by rw [e2])⟩
theorem SendW.abide {w w4 W W' : World} {bc bm : Nat} {d : List (Int × Wy)} {p : Nat} {n : Int} {A : Option Addr} {c : Nat} {l : List Lk} {gx cx gu cu gf cf : Nat} {x u f x' u' f' : List Int} {row : Option Nat}
    (h4 : SendW w w4 bc bm d p n A c l gx cx gu cu gf cf x' u' f') (h : SendW w W bc bm d p n A c l gx cx gu cu gf cf x u f) (hg : W.grownBy W' row) (hr : ∀ r, row = some r → w4.heap.size ≤ r) : SendW w W' bc bm d p n A c l gx cx gu cu gf cf x u f := by
  have e1 := (Array.getElem?_eq_some_iff.1 h4.car.cell).1
  have e2 := h4.car.rx.lt
  have e3 := h4.car.ru.lt
  have e4 := h4.car.rf.lt
  have e5 := h4.map.lt
  have e6 := (Array.getElem?_eq_some_iff.1 h4.box).1
  have e7 := h4.fr.size
  have ne : ∀ k, k < w4.heap.size → row ≠ some k := fun k hk e => by have := hr k e; omega
  refine ⟨h.car.grown hg (ne _ e1) (ne _ e2) (ne _ e3) (ne _ e4) ?_, h.fr.grown hg (fun i e => .inr (by have := hr i e; omega)), h.map.grown hg (fun e => ne _ e5 e.symm), (hg.block _ (Array.getElem?_eq_some_iff.1 h.box).1 (fun e => ne _ e6 e.symm)).trans h.box, h.bmx, h.bcx⟩
  intro ad e h0
  obtain ⟨b, o, e', g1, _⟩ := h4.car.links 0 (by omega) (by omega)
  have hlt := World.block_lt_of_cell? _ _ g1
  rw [e] at e'
  cases e'
  exact fun e2 => ne _ hlt e2.symm
set_option maxRecDepth 1000000 in
set_option maxHeartbeats 8000000 in
theorem send_yes (fuel : Nat) (d : List (Int × Wy)) (t : Int) (ys : List Wy) (m : Int) (v : Nat) (p : Nat) (n : Int) (A : Option Addr) (c : Nat) (l : List Lk) (gx cx gu cu gf cf : Nat) (x u f : List Int) (w : World) (h : Car w p n A c l gx cx gu cu gf cf x u f) (s : Sep p A l gx gu gf) (hl : l.length ≤ 1000) (hx : x.length ≤ 1000000) (hu : u.length = l.length) (hfl : f.length ≤ 1000000) (hv : v < f.length) (hr : ∀ k ∈ l, InR x.length k)
    (hres : nearN l x u f fuel [] (putW [] ⟨v, 0, -1, false⟩) = some (d, t, true)) (hpath : pathN d l fuel ((lookW d t).getD ⟨0, 0, 0, false⟩) = some ys) (hm : m = ys.foldl (capN u) (mn (wrap64 (-(gi f v))) (gi f t))) :
    Calls Tryz.prog 87 #[.pointer (some ⟨p, 0, none⟩), .int .i64 v] w fun e w' => e = .returned (.bool true) ∧
      Car w' p n A c l gx cx gu cu gf cf (liftX d ((lookW d t).getD ⟨0, 0, 0, false⟩).far x.length x) (ys.foldl (moveN m) u) (si (f.set v (wrap64 (gi f v + m))) t (wrap64 (gi (f.set v (wrap64 (gi f v + m))) t - m))) ∧ Fr w w' (fun k => k = gx ∨ k = gu ∨ k = gf) := by
  have HN := Lib.hid (nearest_any fuel _ v p n A c l gx cx gu cu gf cf x u f _ (h.alloc (.cells #[.pointer (some ⟨p, 0, none⟩)] 108)) hl hx hu hfl hr hres)
  have HC := Lib.hid h
  have HSP := Lib.hid s
  have HR := Lib.hid hr
  have HP := Lib.hid hpath
  have HM := Lib.hid hm
  have HT := Lib.hid (nearN_target hres)
  have hpl := (Array.getElem?_eq_some_iff.1 h.cell).1
  clear h s hr hres hpath hm
  generalize hlt : (lookW d t).getD ⟨0, 0, 0, false⟩ = wt at *
  have HWT := Lib.hid hlt
  clear hlt
  refine (callsIn_wide (n := 9)).1 ?_
  refine callsIn_of_wp_marks Tryz.func87 rfl trivial ?_ rfl
  refine wpIn_wide.2 ?_
  simp only [Tryz.ntmps87, List.size_toArray, List.length_cons, List.length_nil, Nat.reduceAdd, Nat.reduceSub, Array.replicate_succ, Array.replicate_zero, List.push_toArray, List.append_toArray, List.nil_append, List.cons_append]
  have hff := field_far
  go_wp2_with (go_at_call 98; refine HN.out.mono ?_; unfold nearV; rintro e w1 ⟨bm, rfl, hbm, hM, hB⟩; have hlk := hM.look (t := 124) (e := 128) Tryz.underlying124 (zero_wy _) t; rw [look_mapW, show (Option.map wyv (lookW d t)).getD (wyv ⟨0, 0, 0, false⟩) = wyv ((lookW d t).getD ⟨0, 0, 0, false⟩) by cases lookW d t <;> rfl, HWT.out] at hlk; unfold wyv at hlk; have hC1 := (HC.out.alloc (.cells #[.pointer (some ⟨p, 0, none⟩)] 108)).below hB; have c2 := cell_of_heap hC1.cell 2; simp at c2; have hbx := (hB.block w.heap.size (by simp)).trans (heap_alloc_new w (.cells #[.pointer (some ⟨p, 0, none⟩)] 108)); have hx0 := cell_of_heap hbx 0; simp at hx0; have hC2 := Lib.hid hC1; have HB := Lib.hid hB; have HM1 := Lib.hid hM; have HBX := Lib.hid hbx; clear hC1 hB hM hbx)
  clear hff
  have hg := HC.out
  have lx := hg.rx.lt
  have lu := hg.ru.lt
  have lf := hg.rf.lt
  simp at hbm
  have h1 : SendW w w1 w.heap.size bm d p n A c l gx cx gu cu gf cf x u f := ⟨hC2.out, fr_of_below (below_trans bel HB.out), HM1.out, HBX.out, ⟨by omega, by omega, by omega⟩, ⟨by omega, by omega, by omega⟩⟩
  have H1 := Lib.hid h1
  generalize hbc : w.heap.size = bc at *
  have HBC := Lib.hid hbc
  have HBM := Lib.hid hbm
  clear hg lx lu lf h1 hC2 HB HM1 HBX hbc hlk c2 hx0 hbm HN
  go_loopw [33] (fun i wr => ∃ k : Nat, i = .int .i64 k ∧ k ≤ x.length ∧ Hid (SendW w wr bc bm d p n A c l gx cx gu cu gf cf (liftX d wt.far k x) u f)) (fun i _ => x.length - (intOf i).toNat)
  case atStart => exact ⟨0, rfl, by omega, H1⟩
  case round =>
    obtain ⟨k, rfl, hk, HS⟩ := hrel
    by_cases hlt : k < x.length
    · have hcar := HS.out.car
      have c2 := cell_of_heap hcar.cell 2
      have hx0 := cell_of_heap HS.out.box 0
      simp [liftX_length] at c2 hx0
      have ck := hcar.rx.cell k (by rw [liftX_length]; exact hlt)
      rw [liftX_later d wt.far k x k (Nat.le_refl _)] at ck
      have fk := hcar.rx.frozen k
      have lbc := (Array.getElem?_eq_some_iff.1 HS.out.box).1
      have lp := (Array.getElem?_eq_some_iff.1 hcar.cell).1
      have lgx := hcar.rx.lt
      have hlk := HS.out.map.look2 (t := 124) (e := 128) Tryz.underlying124 (zero_wy _) k
      rw [look_mapW] at hlk
      clear hcar
      cases hlo : lookW d k
      case none =>
        rw [hlo] at hlk
        simp only [Option.map_none, Option.getD_none, Option.isSome_none, wyv] at hlk
        have hlift : liftX d wt.far (k + 1) x = (liftX d wt.far k x).set k (wrap64 (gi x k + wt.far)) := by simp [liftX, liftV, hlo]
        have HL := Lib.hid hlift
        clear hlift hlo
        go_wp2
        go_roundw
        case rel => exact ⟨k + 1, by go_num, by omega, Lib.hid (by rw [HL.out]; exact (HS.out.setx HSP.out k _).step ((Below.refl _ _).alloc (Nat.le_refl _) _))⟩
        case measure => simp [intOf]; omega
      case some y =>
        rw [hlo] at hlk
        simp only [Option.map_some, Option.getD_some, Option.isSome_some, wyv] at hlk
        have hlift : liftX d wt.far (k + 1) x = (liftX d wt.far k x).set k (wrap64 (gi x k + mn y.far wt.far)) := by simp [liftX, liftV, hlo, liftX_later d wt.far k x k (Nat.le_refl _)]
        obtain ⟨mv, hmv⟩ : ∃ mv, (if wt.far < y.far then wt.far else y.far) = mv := ⟨_, rfl⟩
        rw [show mn y.far wt.far = mv from hmv] at hlift
        have HL := Lib.hid hlift
        clear hlift hlo
        obtain ⟨w2, hw2⟩ : ∃ w2, w2 = wr.alloc (.cells #[.int .i64 y.node, .int .i64 y.far, .int .i64 y.link, .bool y.back] 128) := ⟨_, rfl⟩
        have h2 : SendW w w2 bc bm d p n A c l gx cx gu cu gf cf (liftX d wt.far k x) u f := by rw [hw2]; exact HS.out.step ((Below.refl _ _).alloc (Nat.le_refl _) _)
        have HS2 := Lib.hid h2
        have HW2 := Lib.hid hw2
        have d1 : w2.cell? ⟨wr.heap.size, 1, none⟩ = some (.int .i64 y.far) := by rw [hw2]; go_simp
        have d2 : wr.heap.size < w2.heap.size := by rw [hw2]; simp
        have e2 := cell_of_heap h2.car.cell 2
        have e0 := cell_of_heap h2.box 0
        simp [liftX_length] at e2 e0
        have ek := h2.car.rx.cell k (by rw [liftX_length]; exact hlt)
        rw [liftX_later d wt.far k x k (Nat.le_refl _)] at ek
        have efk := h2.car.rx.frozen k
        have lbc2 := (Array.getElem?_eq_some_iff.1 h2.box).1
        have lp2 := (Array.getElem?_eq_some_iff.1 h2.car.cell).1
        have lgx2 := h2.car.rx.lt
        clear h2 hw2
        go_wp2
        rw [← HW2.out]
        go_still_tail 13, (by kernel_rfl)
        go_wp2
        go_roundw
        case rel => exact ⟨k + 1, by go_num, by omega, Lib.hid (by rw [HL.out]; exact (HS2.out.setx HSP.out k _).drew)⟩
        case measure => simp [intOf]; omega
    · obtain rfl : k = x.length := by omega
      have hcar := HS.out.car
      have c4 := cell_of_heap hcar.cell 4
      have b0 := cell_of_heap HS.out.box 0
      simp at c4 b0
      have cv := hcar.rf.cell v hv
      have ct := hcar.rf.cell t.toNat (by have := HT.out; omega)
      simp only [show ((t.toNat : Nat) : Int) = t by have := HT.out; omega] at ct
      have ht0 := HT.out.1
      have ht1 := HT.out.2.1
      have lbc := (Array.getElem?_eq_some_iff.1 HS.out.box).1
      have lp := (Array.getElem?_eq_some_iff.1 hcar.cell).1
      have lgf := hcar.rf.lt
      clear hcar
      obtain ⟨n0, hn0⟩ : ∃ n0, (if gi f t < wrap64 (-gi f v) then gi f t else wrap64 (-gi f v)) = n0 := ⟨_, rfl⟩
      have HN0 := Lib.hid (show mn (wrap64 (-(gi f v))) (gi f t) = n0 from hn0)
      go_upto_region 13 with fail
      go_cut [12] from 15 (fun q wx => q = .pointer (some ⟨wr.heap.size, 0, none⟩) ∧ Hid (SendW w wx bc bm d p n A c l gx cx gu cu gf cf (liftX d wt.far x.length x) u f) ∧ Hid (wx.heap[wr.heap.size]? = some (.cells #[.int .i64 n0] 3 (0, 0))))
      case first =>
        go_region_held3 (fun w' => w'.cell? ⟨bc, 0, none⟩ = some (.pointer (some ⟨p, 0, none⟩)) ∧ w'.cell? ⟨p, 4, none⟩ = some (.slice (some ⟨gf, 0, none⟩) f.length cf) ∧ w'.cell? ⟨gf, v, none⟩ = some (.int .i64 (gi f v)) ∧ w'.cell? ⟨gf, t.toNat, none⟩ = some (.int .i64 (gi f t))) (first | exact ⟨b0, c4, cv, ct⟩ | exact ⟨cell_alloc _ b0, cell_alloc _ c4, cell_alloc _ cv, cell_alloc _ ct⟩ | go_keep) ((fail))
        all_goals go_wp2_with fail
        all_goals
          go_meet
          refine ⟨rfl, Lib.hid (HS.out.step ((Below.refl _ _).alloc (Nat.le_refl _) _)).drew, Lib.hid ?_⟩
          first
            | (rw [show gi f t = n0 by rw [← hn0, if_pos (by rw [← IntWalk.i64_left]; assumption)]]; exact heap_alloc_new _ _)
            | (rw [show IntKind.i64.wrap (-gi f v) = n0 by rw [← hn0, if_neg (by rw [← IntWalk.i64_left]; first | assumption | (apply Int.not_lt.2; assumption)), IntWalk.i64_left]]; exact heap_alloc_new _ _)
      case rest =>
        obtain ⟨rfl, HS3, HQ3⟩ := hcut
        clear c4 b0 cv ct ht0 ht1 lbc lp lgf hn0
        have hbx := HS3.out.box
        have hx0 := cell_of_heap hbx 0
        simp at hx0
        have lbc := (Array.getElem?_eq_some_iff.1 hbx).1
        clear hbx
        go_wp2_with (go_at_call 99; refine (steps_any p bm t _).mono ?_; rintro e w4 ⟨rfl, hw4⟩; have HW4 := Lib.hid hw4; clear hw4)
        have hw4 := HW4.out
        have hqw : wr.heap.size < wc.heap.size := (Array.getElem?_eq_some_iff.1 HQ3.out).1
        have hqa : Apart A l.length (some wr.heap.size) := HS.out.car.links.apart (Nat.le_refl _)
        have hseq := send_seq 8 wr.heap.size fuel t ys HS3.out HSP.out hqw (by have := HS.out.map.lt; omega) (by have := (Array.getElem?_eq_some_iff.1 HS.out.car.cell).1; omega) hqa (by omega) hw4 (by rw [HWT.out]; exact HP.out)
        have hb4 : Below wc.heap.size wc w4 := by rw [hw4]; exact bel
        have HS4 := Lib.hid (HS3.out.step hb4)
        have HQ4 := Lib.hid ((hb4.block _ hqw).trans HQ3.out)
        have hgu4 := HS4.out.car.ru.lt
        have hq4 := (Array.getElem?_eq_some_iff.1 HQ4.out).1
        clear hw4 hqa hb4
        have cf124 : ∀ args w, (callFunc 114 args).run Tryz.prog w = .ok (.enter 114 args) w := fun _ _ => by kernel_rfl
        refine wp_range1 (n := 9) (by omega) (gf := 114) rfl cf124 hseq (fun h k => keepS_t h k) (keepS_b (Nat.le_refl _)) (fun W o => keepS_fr (fr_of_below ((Below.refl _ _).alloc (Nat.le_refl _) _))) 
          (fun pre W => SendW w W bc bm d p n A c l gx cx gu cu gf cf (liftX d wt.far x.length x) u f ∧ W.heap[wr.heap.size]? = some (.cells #[.int .i64 (pre.foldl (capN u) n0)] 3 (0, 0)))
          ?hI ⟨HS4.out, HQ4.out⟩ (fun y => .cells #[.int .i64 y.node, .int .i64 y.far, .int .i64 y.link, .bool y.back] 128) 13 ?assign ?body ?done
        case hI => exact fun s A' B' row h hg hr => ⟨HS4.out.abide h.1 hg hr, (hg.block _ (Array.getElem?_eq_some_iff.1 h.2).1 (fun e => by have := hr _ e.symm; omega)).trans h.2⟩
        case assign =>
          intro l' y W K hK
          unfold wyv at hK ⊢
          gi_wp2
          exact hK
        case body =>
          rintro l' pre y W b hb1 hb2 ⟨hS, hq⟩ hb3 hpre
          have hyl := pathN_mem HP.out y (hpre.subset (by simp))
          have hS2 := Lib.hid hS
          have hQ2 := Lib.hid hq
          clear hpre
          unfold wyv
          have y0 := cell_of_heap hb3 0
          have y1 := cell_of_heap hb3 1
          have y2 := cell_of_heap hb3 2
          have y3 := cell_of_heap hb3 3
          simp at y0 y1 y2 y3
          cases hbk : y.back
          case false =>
            rw [hbk] at y3
            have hcap : (pre ++ [y]).foldl (capN u) n0 = pre.foldl (capN u) n0 := by simp [capN, hbk]
            gi_wp2
            exact ⟨KeepsFrom.refl _ _, fun k o h _ _ => h, hS, by rw [hcap]; exact hq⟩
          case true =>
            rw [hbk] at y3
            have z0 := cell_of_heap hS.box 0
            have z3 := cell_of_heap hS.car.cell 3
            have zq := cell_of_heap hq 0
            have fq := frozen_of_heap hq 0
            have zu := hS.car.ru.cell y.link.toNat (by omega)
            simp only [show ((y.link.toNat : Nat) : Int) = y.link by omega] at zu
            simp at z0 z3 zq
            have l1 := (Array.getElem?_eq_some_iff.1 hS.box).1
            have l2 := (Array.getElem?_eq_some_iff.1 hS.car.cell).1
            have l3 := (Array.getElem?_eq_some_iff.1 hq).1
            have l4 := hS.car.ru.lt
            obtain ⟨hy0, hy1⟩ := hyl
            have hy2 : y.link < (u.length : Int) := by omega
            clear hS hq
            have hcap : (pre ++ [y]).foldl (capN u) n0 = mn (pre.foldl (capN u) n0) (gi u y.link) := by simp [capN, hbk]
            generalize hnn : pre.foldl (capN u) n0 = nn at *
            obtain ⟨mv, hmv⟩ : ∃ mv, (if gi u y.link < nn then gi u y.link else nn) = mv := ⟨_, rfl⟩
            rw [show mn nn (gi u y.link) = mv from hmv] at hcap
            have HCAP := Lib.hid hcap
            clear hcap hnn
            gi_wp2
            refine still_tail_round 10 (by kernel_rfl) (by kernel_rfl) (by kernel_rfl) (by rintro ⟨a, w, h⟩; exact h) ?_
            simp only [List.take_succ_cons, List.take_zero, List.drop_succ_cons, List.drop_zero]
            repeat still_step
            try refine wpStill_nil ?_
            go_wp2
            have hg : W.grownBy (W.setCell ⟨wr.heap.size, 0, none⟩ (.int .i64 mv)).drew (some wr.heap.size) := grown_drew (grown_set (grown_refl _ _) _ _ (.inl rfl))
            have hfr : Fr W (W.setCell ⟨wr.heap.size, 0, none⟩ (.int .i64 mv)).drew (fun j => j = gu ∨ j = wr.heap.size) := ((Fr.refl _ _).set _ _ (.inl (.inr rfl))).drew
            exact ⟨KeepsFrom.of_grownBy hg (fun j e => by cases e; omega), keepS_fr hfr, HS.out.abide hS2.out hg (fun r e => by cases e; exact Nat.le_refl _), by rw [HCAP.out]; have := hQ2.out; simp [World.setCell, World.drew, Array.getElem?_modify, this]⟩
        case done =>
          rintro D W hD ⟨hS, hq⟩ hK
          have hmm : ys.foldl (capN u) n0 = m := by rw [HM.out, HN0.out]
          rw [hmm] at hq
          have hqW := (Array.getElem?_eq_some_iff.1 hq).1
          have HSW := Lib.hid hS
          have HQW := Lib.hid hq
          have HKW := Lib.hid hK
          have hx0 := cell_of_heap hS.box 0
          simp at hx0
          have lbc := (Array.getElem?_eq_some_iff.1 hS.box).1
          clear hmm hS hq hK hseq hgu4 hq4
          go_wp2_with (go_at_call 99; refine (steps_any p bm t _).mono ?_; rintro e w5 ⟨rfl, hw5⟩; have HW5 := Lib.hid hw5; clear hw5)
          have hw5 := HW5.out
          have hqa : Apart A l.length (some wr.heap.size) := HS.out.car.links.apart (Nat.le_refl _)
          have hseq := send_seq 8 wr.heap.size fuel t ys HSW.out HSP.out hqW (by have := HS.out.map.lt; omega) (by have := (Array.getElem?_eq_some_iff.1 HS.out.car.cell).1; omega) hqa (by omega) hw5 (by rw [HWT.out]; exact HP.out)
          have hb5 : Below W.heap.size W w5 := by rw [hw5]; exact bel
          have HS5 := Lib.hid (HSW.out.step hb5)
          have HQ5 := Lib.hid ((hb5.block _ hqW).trans HQW.out)
          have HK5 := Lib.hid ((hb5.block _ (Array.getElem?_eq_some_iff.1 HKW.out).1).trans HKW.out)
          clear hw5 hqa hb5
          refine wp_range1 (n := 9) (by omega) (gf := 114) rfl cf124 hseq (fun h k => keepS_t h k) (keepS_b (Nat.le_refl _)) (fun W o => keepS_fr (fr_of_below ((Below.refl _ _).alloc (Nat.le_refl _) _)))
            (fun pre W => SendW w W bc bm d p n A c l gx cx gu cu gf cf (liftX d wt.far x.length x) (pre.foldl (moveN m) u) f ∧ W.heap[wr.heap.size]? = some (.cells #[.int .i64 m] 3 (0, 0)) ∧ W.heap[D]? = some (.deferred (some [])))
            ?hI2 ⟨HS5.out, HQ5.out, HK5.out⟩ (fun y => .cells #[.int .i64 y.node, .int .i64 y.far, .int .i64 y.link, .bool y.back] 128) 14 ?assign2 ?body2 ?done2
          case hI2 =>
            have h1 := (Array.getElem?_eq_some_iff.1 HQ5.out).1
            have h2 := (Array.getElem?_eq_some_iff.1 HK5.out).1
            exact fun s A' B' row h hg hr => ⟨HS5.out.abide h.1 hg hr, (hg.block _ (Array.getElem?_eq_some_iff.1 h.2.1).1 (fun e => by have := hr _ e.symm; omega)).trans h.2.1, (hg.block _ (Array.getElem?_eq_some_iff.1 h.2.2).1 (fun e => by have := hr _ e.symm; omega)).trans h.2.2⟩
          case assign2 =>
            intro l' y W K hK
            unfold wyv at hK ⊢
            gi_wp2
            exact hK
          case body2 =>
            rintro l' pre y W b hb1 hb2 ⟨hS, hq, hk⟩ hb3 hpre
            have hyl := pathN_mem HP.out y (hpre.subset (by simp))
            have hS2 := Lib.hid hS
            have hQ2 := Lib.hid hq
            have hK2 := Lib.hid hk
            have hul := foldl_moveN_length m pre u
            clear hpre hk
            unfold wyv
            have y0 := cell_of_heap hb3 0
            have y1 := cell_of_heap hb3 1
            have y2 := cell_of_heap hb3 2
            have y3 := cell_of_heap hb3 3
            simp at y0 y1 y2 y3
            obtain ⟨hy0, hy1⟩ := hyl
            have hy2 : y.link < (u.length : Int) := by omega
            cases hbk : y.back
            case false =>
              rw [hbk] at y3
              have hmv : moveN m (pre.foldl (moveN m) u) y = (pre.foldl (moveN m) u).set y.link.toNat (wrap64 (gi (pre.foldl (moveN m) u) y.link + m)) := by simp [moveN, hbk, si]
              have HMV := Lib.hid hmv
              clear hmv
              generalize hun : pre.foldl (moveN m) u = un at *
              have HUN := Lib.hid hun
              clear hun
              have z0 := cell_of_heap hS.box 0
              have z3 := cell_of_heap hS.car.cell 3
              have zq := cell_of_heap hq 0
              have zu := hS.car.ru.cell y.link.toNat (by omega)
              have fu := hS.car.ru.frozen y.link.toNat
              simp only [show ((y.link.toNat : Nat) : Int) = y.link by omega] at zu
              rw [hul] at z3
              simp at z0 z3 zq
              have l1 := (Array.getElem?_eq_some_iff.1 hS.box).1
              have l2 := (Array.getElem?_eq_some_iff.1 hS.car.cell).1
              have l3 := (Array.getElem?_eq_some_iff.1 hq).1
              have l4 := hS.car.ru.lt
              clear hS hq
              gi_wp2
              refine still_tail_round 11 (by kernel_rfl) (by kernel_rfl) (by kernel_rfl) (by rintro ⟨a, w, h⟩; exact h) ?_
              simp only [List.take_succ_cons, List.take_zero, List.drop_succ_cons, List.drop_zero]
              repeat still_step
              try refine wpStill_nil ?_
              go_wp2
              have he : (pre ++ [y]).foldl (moveN m) u = un.set y.link.toNat (wrap64 (gi un y.link + m)) := by rw [List.foldl_append]; show moveN m (pre.foldl (moveN m) u) y = _; rw [HUN.out, HMV.out]
              have hgu5 := HS5.out.car.ru.lt
              have hg : W.grownBy (W.setCell ⟨gu, y.link.toNat, none⟩ (.int .i64 (wrap64 (gi un y.link + m)))).drew (some gu) := grown_drew (grown_set (grown_refl _ _) _ _ (.inl rfl))
              have hfr : Fr W (W.setCell ⟨gu, y.link.toNat, none⟩ (.int .i64 (wrap64 (gi un y.link + m)))).drew (fun j => j = gu ∨ j = wr.heap.size) := ((Fr.refl _ _).set _ _ (.inl (.inl rfl))).drew
              have hgq : gu < wr.heap.size := HS.out.car.ru.lt
              have hgD : gu < w4.heap.size := HS4.out.car.ru.lt
              exact ⟨KeepsFrom.of_grownBy hg (fun j e => by cases e; omega), keepS_fr hfr, by rw [he]; exact (hS2.out.setu HSP.out _ _).drew, (hg.block _ (Array.getElem?_eq_some_iff.1 hQ2.out).1 (fun e => by cases e; omega)).trans hQ2.out, (hg.block _ (Array.getElem?_eq_some_iff.1 hK2.out).1 (fun e => by cases e; omega)).trans hK2.out⟩
            case true =>
              rw [hbk] at y3
              have hmv : moveN m (pre.foldl (moveN m) u) y = (pre.foldl (moveN m) u).set y.link.toNat (wrap64 (gi (pre.foldl (moveN m) u) y.link - m)) := by simp [moveN, hbk, si]
              have HMV := Lib.hid hmv
              clear hmv
              generalize hun : pre.foldl (moveN m) u = un at *
              have HUN := Lib.hid hun
              clear hun
              have z0 := cell_of_heap hS.box 0
              have z3 := cell_of_heap hS.car.cell 3
              have zq := cell_of_heap hq 0
              have zu := hS.car.ru.cell y.link.toNat (by omega)
              have fu := hS.car.ru.frozen y.link.toNat
              simp only [show ((y.link.toNat : Nat) : Int) = y.link by omega] at zu
              rw [hul] at z3
              simp at z0 z3 zq
              have l1 := (Array.getElem?_eq_some_iff.1 hS.box).1
              have l2 := (Array.getElem?_eq_some_iff.1 hS.car.cell).1
              have l3 := (Array.getElem?_eq_some_iff.1 hq).1
              have l4 := hS.car.ru.lt
              clear hS hq
              gi_wp2
              refine still_tail_round 11 (by kernel_rfl) (by kernel_rfl) (by kernel_rfl) (by rintro ⟨a, w, h⟩; exact h) ?_
              simp only [List.take_succ_cons, List.take_zero, List.drop_succ_cons, List.drop_zero]
              repeat still_step
              try refine wpStill_nil ?_
              go_wp2
              have he : (pre ++ [y]).foldl (moveN m) u = un.set y.link.toNat (wrap64 (gi un y.link - m)) := by rw [List.foldl_append]; show moveN m (pre.foldl (moveN m) u) y = _; rw [HUN.out, HMV.out]
              have hgu5 := HS5.out.car.ru.lt
              have hg : W.grownBy (W.setCell ⟨gu, y.link.toNat, none⟩ (.int .i64 (wrap64 (gi un y.link - m)))).drew (some gu) := grown_drew (grown_set (grown_refl _ _) _ _ (.inl rfl))
              have hfr : Fr W (W.setCell ⟨gu, y.link.toNat, none⟩ (.int .i64 (wrap64 (gi un y.link - m)))).drew (fun j => j = gu ∨ j = wr.heap.size) := ((Fr.refl _ _).set _ _ (.inl (.inl rfl))).drew
              have hgq : gu < wr.heap.size := HS.out.car.ru.lt
              have hgD : gu < w4.heap.size := HS4.out.car.ru.lt
              exact ⟨KeepsFrom.of_grownBy hg (fun j e => by cases e; omega), keepS_fr hfr, by rw [he]; exact (hS2.out.setu HSP.out _ _).drew, (hg.block _ (Array.getElem?_eq_some_iff.1 hQ2.out).1 (fun e => by cases e; omega)).trans hQ2.out, (hg.block _ (Array.getElem?_eq_some_iff.1 hK2.out).1 (fun e => by cases e; omega)).trans hK2.out⟩
          case done2 =>
            rintro D2 W2 hD2 ⟨hS, hq, hk⟩ hk2
            have HSV := Lib.hid hS
            have HQV := Lib.hid hq
            have HKV := Lib.hid hk
            have HKV2 := Lib.hid hk2
            have z0 := cell_of_heap hS.box 0
            have z4 := cell_of_heap hS.car.cell 4
            have zq := cell_of_heap hq 0
            have zf := hS.car.rf.cell v hv
            have ff := hS.car.rf.frozen v
            simp at z0 z4 zq
            have l1 := (Array.getElem?_eq_some_iff.1 hS.box).1
            have l2 := (Array.getElem?_eq_some_iff.1 hS.car.cell).1
            have l3 := (Array.getElem?_eq_some_iff.1 hq).1
            have l4 := hS.car.rf.lt
            clear hS hq hk hk2
            go_wp2
            go_still_tail 10, (by kernel_rfl)
            go_wp2
            obtain ⟨W3, hW3⟩ : ∃ W3, W3 = (W2.setCell ⟨gf, v, none⟩ (.int .i64 (wrap64 (gi f v + m)))).drew := ⟨_, rfl⟩
            rw [← hW3]
            have hS3 : SendW w W3 bc bm d p n A c l gx cx gu cu gf cf (liftX d wt.far x.length x) (ys.foldl (moveN m) u) (f.set v (wrap64 (gi f v + m))) := by rw [hW3]; exact (HSV.out.setf HSP.out v _).drew
            have hg3 : W2.grownBy W3 (some gf) := by rw [hW3]; exact grown_drew (grown_set (grown_refl _ _) _ _ (.inl rfl))
            have hgfq : gf < wr.heap.size := HS.out.car.rf.lt
            have hgfD : gf < w4.heap.size := HS4.out.car.rf.lt
            have hgfD2 : gf < w5.heap.size := HS5.out.car.rf.lt
            have hq3 := (hg3.block _ (Array.getElem?_eq_some_iff.1 HQV.out).1 (fun e => by cases e; omega)).trans HQV.out
            have hk3 := (hg3.block _ (Array.getElem?_eq_some_iff.1 HKV.out).1 (fun e => by cases e; omega)).trans HKV.out
            have hk4 := (hg3.block _ (Array.getElem?_eq_some_iff.1 HKV2.out).1 (fun e => by cases e; omega)).trans HKV2.out
            generalize hf3 : f.set v (wrap64 (gi f v + m)) = f3 at *
            have hfl3 : f3.length = f.length := by rw [← hf3]; simp
            have HF3 := Lib.hid hf3
            have HS6 := Lib.hid hS3
            have HQ6 := Lib.hid hq3
            have HK6 := Lib.hid hk3
            have HK7 := Lib.hid hk4
            clear hW3 z0 z4 zq zf ff l1 l2 l3 l4 hf3
            have z0 := cell_of_heap hS3.box 0
            have z4 := cell_of_heap hS3.car.cell 4
            have zq := cell_of_heap hq3 0
            have ht := HT.out
            have zf := hS3.car.rf.cell t.toNat (by omega)
            have ff := hS3.car.rf.frozen t.toNat
            simp only [show ((t.toNat : Nat) : Int) = t by omega] at zf
            rw [hfl3] at z4
            simp at z0 z4 zq
            have l1 := (Array.getElem?_eq_some_iff.1 hS3.box).1
            have l2 := (Array.getElem?_eq_some_iff.1 hS3.car.cell).1
            have l3 := (Array.getElem?_eq_some_iff.1 hq3).1
            have l4 := hS3.car.rf.lt
            obtain ⟨ht0, ht1, _⟩ := ht
            clear hS3 hq3 hk3 hk4 hg3
            go_still_tail 10, (by kernel_rfl)
            go_wp2
            obtain ⟨W4, hW4⟩ : ∃ W4, W4 = (W3.setCell ⟨gf, t.toNat, none⟩ (.int .i64 (wrap64 (gi f3 t - m)))).drew := ⟨_, rfl⟩
            rw [← hW4]
            have hS4 : SendW w W4 bc bm d p n A c l gx cx gu cu gf cf (liftX d wt.far x.length x) (ys.foldl (moveN m) u) (f3.set t.toNat (wrap64 (gi f3 t - m))) := by rw [hW4]; exact (HS6.out.setf HSP.out t.toNat _).drew
            have hg4 : W3.grownBy W4 (some gf) := by rw [hW4]; exact grown_drew (grown_set (grown_refl _ _) _ _ (.inl rfl))
            have k7 := (hg4.block _ (Array.getElem?_eq_some_iff.1 HK6.out).1 (fun e => by cases e; omega)).trans HK6.out
            have k8 := (hg4.block _ (Array.getElem?_eq_some_iff.1 HK7.out).1 (fun e => by cases e; omega)).trans HK7.out
            have hDW := (Array.getElem?_eq_some_iff.1 HKW.out).1
            have hW5s : W.heap.size ≤ w5.heap.size := by rw [HW5.out]; simp; omega
            have hw44 : w4.heap.size ≤ W.heap.size := by omega
            have hp5 := grownBy_putObj' W4 D2 (.deferred none)
            have hS5 := HS4.out.abide hS4 hp5 (fun r e => by cases e; omega)
            have k9 := (hp5.block D (Array.getElem?_eq_some_iff.1 k7).1 (fun e => by cases e; omega)).trans k7
            have hp6 := grownBy_putObj' (W4.putObj D2 (.deferred none)) D (.deferred none)
            have hS6 := HS4.out.abide hS5 hp6 (fun r e => by cases e; omega)
            have hfe : si (f.set v (wrap64 (gi f v + m))) t (wrap64 (gi (f.set v (wrap64 (gi f v + m))) t - m)) = f3.set t.toNat (wrap64 (gi f3 t - m)) := by rw [HF3.out]; rfl
            refine ⟨by simp, .inl ⟨_, _, rfl, run_takeDeferred k8, ?_⟩⟩
            refine ⟨by simp, .inl ⟨_, _, rfl, run_takeDeferred k9, ?_⟩⟩
            refine ⟨_, results_tmp rfl _ _ _, rfl, ?_, hS6.fr⟩
            rw [hfe]
            exact hS6.car
end Go.Proofs.YtmhiiomejopaoaaGreatDoor
