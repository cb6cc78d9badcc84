/- The heap of ways: take. -/
import Derived.Test.YtmhiiomejopaoaaGreatDoorH1
namespace Go.Proofs.YtmhiiomejopaoaaGreatDoor
set_option linter.all false
set_option maxRecDepth 100000
open Go.RowKit

def downOf (l : List Wy) (i : Nat) : Nat := if 2 * i + 2 < l.length ∧ lessB (gw l (2 * i + 2)) (gw l (2 * i + 1)) = true then 2 * i + 2 else 2 * i + 1
def siftDown : Nat → List Wy → Nat → List Wy
  | 0, l, _ => l
  | f + 1, l, i => if 2 * i + 1 < l.length ∧ lessB (gw l (downOf l i)) (gw l i) = true then siftDown f (swapW l i (downOf l i)) (downOf l i) else l
def takeL (l : List Wy) : List Wy := siftDown l.length ((l.set 0 (gw l (l.length - 1))).take (l.length - 1)) 0
theorem own_take {w : World} {B g n c m : Nat} {xs : List Value} (h : w.ownsRow B 128 4 (.slice (some ⟨g, 0, none⟩) n c) n xs) (hm : m ≤ n) : w.ownsRow B 128 4 (.slice (some ⟨g, 0, none⟩) m c) m (xs.take (m * 4)) := by
  rcases h.2 with ⟨e, _⟩ | ⟨g', cap, cur, e, hb, hh, hc, hx, hs, ht⟩
  · cases e
  · cases e
    refine ⟨by rw [List.length_take, h.1]; omega, .inr ⟨g, c, cur, rfl, hb, hh, by omega, hx, hs, ?_⟩⟩
    rw [← ht, List.take_take, Nat.min_eq_left (by omega)]
theorem wycs_take (l : List Wy) : ∀ m, (wycs l).take (m * 4) = wycs (l.take m) := by
  induction l with
  | nil => intro m; simp [wycs]
  | cons x l ih =>
    intro m
    cases m with
    | zero => simp [wycs]
    | succ m =>
      have e : wycs (x :: l) = wyc x ++ wycs l := rfl
      have e2 : wycs ((x :: l).take (m + 1)) = wyc x ++ wycs (l.take m) := rfl
      rw [e, e2, ← ih m, show (m + 1) * 4 = (wyc x).length + m * 4 by simp [wyc]; omega, List.take_append, List.take_of_length_le (by omega)]
      simp
theorem HeapAt.len {w : World} {B p g n c : Nat} {l : List Wy} (h : HeapAt w B p (.slice (some ⟨g, 0, none⟩) n c) l) : l.length = n := by
  rcases h.row.2 with ⟨e, _⟩ | ⟨g', cap, cur, e, _⟩
  · cases e
  · cases e; rfl
theorem HeapAt.cut {w : World} {B p g n c m : Nat} {l : List Wy} (h : HeapAt w B p (.slice (some ⟨g, 0, none⟩) n c) l) (hm : m ≤ n) :
    HeapAt (w.setCell ⟨p, 0, none⟩ (.slice (some ⟨g, 0, none⟩) m c)) B p (.slice (some ⟨g, 0, none⟩) m c) (l.take m) := by
  have hgp : g ≠ p := fun e => h.ne (by rw [e]; rfl)
  have hl := h.len
  refine ⟨by simp [World.setCell, Array.getElem?_modify, h.cell], ?_⟩
  have h' := h.row
  rw [hl] at h'
  have := (own_take h' hm).kept (grownBy_setCell' w p (.slice (some ⟨g, 0, none⟩) m c)) (.inr (by simpa [Value.ownBlock] using hgp))
  rw [wycs_take] at this
  rw [List.length_take, hl, Nat.min_eq_left hm]
  exact this

theorem zero_wy (w : World) : (zeroValue 128).run Tryz.prog w = .ok (wyv ⟨0, 0, 0, false⟩) w := by kernel_rfl
set_option maxRecDepth 100000 in
set_option maxHeartbeats 1000000 in
theorem take_none (p B : Nat) (v : Value) (w : World) (h : HeapAt w B p v []) :
    Calls Tryz.prog 112 #[.pointer (some ⟨p, 0, none⟩)] w fun e w' => e = .returned (.tuple #[wyv ⟨0, 0, 0, false⟩, .bool false]) ∧ Below w.heap.size w w' := by
  have hz := Lib.hid h.lt
  obtain ⟨A, c, rfl, _, _, _⟩ := own_slice h.row
  have q0 := h.c0
  have hpl := h.lt
  have H := Lib.hid h
  simp only [List.length_nil] at q0
  clear h
  go_enter Tryz.func112, Tryz.ntmps112
  go_wp2
  refine bodyPost_ret (v := .tuple #[wyv ⟨0, 0, 0, false⟩, .bool false]) ?_ rfl ⟨rfl, bel⟩
  simp [results, Tryz.results112, go_sem, wyv]
theorem set4 (wr : World) (b : Nat) (x : Wy) : Fr wr ((((wr.setCell ⟨b, 0, none⟩ (.int .i64 x.node)).setCell ⟨b, 1, none⟩ (.int .i64 x.far)).setCell ⟨b, 2, none⟩ (.int .i64 x.link)).setCell ⟨b, 3, none⟩ (.bool x.back)) (fun k => k = b) :=
  by
  refine Fr.set ?_ _ _ (.inl rfl)
  refine Fr.set ?_ _ _ (.inl rfl)
  refine Fr.set ?_ _ _ (.inl rfl)
  refine Fr.set ?_ _ _ (.inl rfl)
  exact Fr.refl _ _
set_option maxRecDepth 1000000 in
set_option maxHeartbeats 8000000 in
theorem take_some (p B g m c : Nat) (l : List Wy) (w : World) (h : HeapAt w B p (.slice (some ⟨g, 0, none⟩) (m + 1) c) l) (hm : m ≤ 1000000) :
    Calls Tryz.prog 112 #[.pointer (some ⟨p, 0, none⟩)] w fun e w' => e = .returned (.tuple #[wyv (gw l 0), .bool true]) ∧ HeapAt w' B p (.slice (some ⟨g, 0, none⟩) m c) (takeL l) ∧ Fr w w' (fun k => k = p ∨ k = g) := by
  have hl := h.len
  have hpl := h.lt
  have hmc : m ≤ c := by
    rcases h.row.2 with ⟨e, _⟩ | ⟨g', cap, cur, e, _, _, hc, _⟩
    · cases e
    · simp only [Value.slice.injEq] at e; omega
  have hrow := own_roww h.row
  have hgl := hrow.lt
  have q0 := h.c0
  obtain ⟨a1, a2, a3, a4⟩ := hrow.cells 0 (by omega)
  have hpg : p ≠ g := fun e => h.ne (by rw [e]; rfl)
  simp only [Nat.zero_mul, Nat.zero_add] at a1 a2 a3 a4
  have H := Lib.hid h
  have HL := Lib.hid hl
  clear h hl hrow
  generalize hx : gw l 0 = x at *
  have HX := Lib.hid hx
  clear hx
  have hm1 : ((m : Int) + 1 == 0) = false := by simp; omega
  go_enter Tryz.func112, Tryz.ntmps112
  go_wp2
  obtain ⟨w1, hw1⟩ : ∃ w1, w1 = (w.alloc (.cells #[.int .i64 0, .int .i64 0, .int .i64 0, .bool false] 128)).alloc (.cells #[.int .i64 x.node, .int .i64 x.far, .int .i64 x.link, .bool x.back] 128) := ⟨_, rfl⟩
  rw [← hw1]
  have hB1 : Below w.heap.size w w1 := by rw [hw1]; exact bel
  have hs1 : w1.heap.size = w.heap.size + 2 := by rw [hw1]; simp
  have H1 := Lib.hid (H.out.below hB1)
  have Z1 := Lib.hid (show w1.heap[w.heap.size]? = some (.cells #[.int .i64 0, .int .i64 0, .int .i64 0, .bool false] 128 (0, 0)) by rw [hw1, Below.heap_alloc _ _ _ (by simp)]; exact heap_alloc_new w _)
  have X1 := Lib.hid (show w1.heap[w.heap.size + 1]? = some (.cells #[.int .i64 x.node, .int .i64 x.far, .int .i64 x.link, .bool x.back] 128 (0, 0)) by rw [hw1]; have := heap_alloc_new (w.alloc (.cells #[.int .i64 0, .int .i64 0, .int .i64 0, .bool false] 128)) (.cells #[.int .i64 x.node, .int .i64 x.far, .int .i64 x.link, .bool x.back] 128); simpa using this)
  have HB1 := Lib.hid hB1
  have HS1 := Lib.hid hs1
  clear hw1 hB1 a1 a2 a3 a4 q0
  have hrow := own_roww H1.out.row
  have hlen := HL.out
  obtain ⟨a1, a2, a3, a4⟩ := hrow.cells m (by omega)
  have f1 := hrow.frozen 0
  have f2 := hrow.frozen 1
  have f3 := hrow.frozen 2
  have f4 := hrow.frozen 3
  obtain ⟨b1, b2, b3, b4⟩ := hrow.cells 0 (by omega)
  simp only [Nat.zero_mul, Nat.zero_add] at b1 b2 b3 b4
  have q0 := H1.out.c0
  have f0 := frozen_of_heap H1.out.cell 0
  clear hrow hlen hs1
  have h0I : (0 : Int) < (m : Int) + 1 := by omega
  have hmI : (m : Int) < (m : Int) + 1 := by omega
  go_wp2
  go_still_tail 12, (by kernel_rfl)
  go_wp2
  have HS2 := H1.out.swap 0 (by have := HL.out; omega) (gw l m)
  simp only [Nat.zero_mul, Nat.zero_add] at HS2
  have HC2 := Lib.hid (HS2.cut (m := m) (by omega)).drew
  have FR2 := H1.out.fr (Fr.refl w1 (fun k => k = p ∨ k = g)) (.inl (.inr rfl)) 0 (gw l m)
  simp only [Nat.zero_mul, Nat.zero_add] at FR2
  have FC2 := Lib.hid (FR2.set ⟨p, 0, none⟩ (.slice (some ⟨g, 0, none⟩) m c) (.inl (.inl rfl))).drew
  clear HS2 FR2
  obtain ⟨w2, hw2⟩ : ∃ w2, w2 = (((((w1.setCell ⟨g, 0, none⟩ (.int .i64 (gw l m).node)).setCell ⟨g, 1, none⟩ (.int .i64 (gw l m).far)).setCell ⟨g, 2, none⟩ (.int .i64 (gw l m).link)).setCell ⟨g, 3, none⟩ (.bool (gw l m).back)).setCell ⟨p, 0, none⟩ (.slice (some ⟨g, 0, none⟩) m c)).drew := ⟨_, rfl⟩
  rw [← hw2] at HC2 FC2 ⊢
  clear hw2 a1 a2 a3 a4 b1 b2 b3 b4 f0 f1 f2 f3 f4 q0 h0I hmI hm1
  generalize hl0 : (l.set 0 (gw l m)).take m = l0 at HC2
  have HL0 := Lib.hid hl0
  have hlen0 : l0.length = m := by rw [← hl0]; simp; have := HL.out; omega
  clear hl0
  have htake : takeL l = siftDown l.length l0 0 := by
    have e1 : l.length - 1 = m := by have := HL.out; omega
    rw [takeL, e1, HL0.out]
  have HT := Lib.hid htake
  clear htake
  have HLEN0 := Lib.hid hlen0
  clear hlen0
  go_loopw [6, 7] (fun i _ wr => ∃ (k f : Nat) (l' : List Wy), i = .int .i64 k ∧ Hid (k ≤ m) ∧ Hid (m < f + k) ∧ Hid (l'.length = m) ∧ Hid (siftDown f l' k = takeL l) ∧ Hid (HeapAt wr B p (.slice (some ⟨g, 0, none⟩) m c) l') ∧ Hid (Fr w1 wr (fun k => k = p ∨ k = g))) (fun i _ _ => m - (intOf i).toNat)
  case atStart => exact ⟨0, l.length, l0, rfl, Lib.hid (by omega), Lib.hid (by have := HL.out; omega), HLEN0, Lib.hid HT.out.symm, HC2, FC2⟩
  case round =>
    obtain ⟨k, f, l', rfl, Hk, Hf, Hl, Hs, HH, HF⟩ := hrel
    have hkm := Hk.out
    have hmf := Hf.out
    have hl' := Hl.out
    obtain ⟨f, rfl⟩ : ∃ f', f = f' + 1 := ⟨f - 1, by omega⟩
    -- how the call ends, from any world on
    have hend : ∀ W : World, l' = takeL l → Below wr.heap.size wr W → HeapAt W B p (.slice (some ⟨g, 0, none⟩) m c) (takeL l) ∧ Fr w1 W (fun k => k = p ∨ k = g) ∧
        W.heap[w.heap.size]? = some (.cells #[.int .i64 0, .int .i64 0, .int .i64 0, .bool false] 128 (0, 0)) ∧ W.heap[w.heap.size + 1]? = some (.cells #[.int .i64 x.node, .int .i64 x.far, .int .i64 x.link, .bool x.back] 128 (0, 0)) := by
      intro W he hb
      have hF := HF.out.below hb
      refine ⟨by rw [← he]; exact HH.out.below hb, hF, ?_, ?_⟩
      · rw [hF.block _ (by rw [HS1.out]; omega) (by omega)]; exact Z1.out
      · rw [hF.block _ (by rw [HS1.out]; omega) (by omega)]; exact X1.out
    have HEND := Lib.hid hend
    clear hend
    have hfin : ∀ W W' : World, HeapAt W B p (.slice (some ⟨g, 0, none⟩) m c) (takeL l) → Fr w1 W (fun k => k = p ∨ k = g) → Fr W W' (fun k => k = w.heap.size) → HeapAt W' B p (.slice (some ⟨g, 0, none⟩) m c) (takeL l) ∧ Fr w W' (fun k => k = p ∨ k = g) := by
      intro W W' h1 h2 h3
      have hg1 : p ≠ w.heap.size := by omega
      have hg2 : g ≠ w.heap.size := by omega
      refine ⟨⟨(h3.block _ h1.lt hg1).trans h1.cell, h1.row.kept (row := some w.heap.size) ⟨h3.os, h3.tape, h3.output, h3.size, fun k hk hn => h3.block k hk (fun e => hn (by rw [e]))⟩ (.inr (by simpa [Value.ownBlock] using hg2))⟩, ?_⟩
      refine Fr.trans (S := fun k => k = p ∨ k = g) (T := fun k => k = w.heap.size) ?_ h3 (fun i hi => .inr (by omega))
      exact Fr.trans (Fr.below (Fr.refl w _) HB1.out) h2 (fun i hi => .inl hi)
    have HFIN := Lib.hid hfin
    clear hfin
    have hkb : (k : Int) ≤ 1000000 := by omega
    by_cases hin : 2 * k + 1 < m
    · obtain ⟨d, hd⟩ : ∃ d : Nat, d = downOf l' k := ⟨_, rfl⟩
      have hdk : k < d ∧ d < m := by
        rw [hd]; unfold downOf; split <;> omega
      have HD := Lib.hid hd
      have HDK := Lib.hid hdk
      obtain ⟨e1, he1⟩ : ∃ e1 : Nat, 2 * (k : Int) + 1 = (e1 : Int) := ⟨2 * k + 1, by omega⟩
      obtain rfl : e1 = 2 * k + 1 := by omega
      obtain ⟨e1, hE⟩ : ∃ e1 : Nat, e1 = 2 * k + 1 := ⟨_, rfl⟩
      rw [← hE] at he1
      have hE2 : 2 * k + 2 = e1 + 1 := by omega
      have hin1 : (e1 : Int) < (m : Int) := by omega
      have hstep : siftDown (f + 1) l' k = if lessB (gw l' d) (gw l' k) = true then siftDown f (swapW l' k d) d else l' := by
        rw [siftDown, ← hd]
        have : 2 * k + 1 < l'.length := by omega
        simp [this]
      have HSTEP := Lib.hid hstep
      have hd2 : d = if e1 + 1 < m ∧ lessB (gw l' (e1 + 1)) (gw l' e1) = true then e1 + 1 else e1 := by
        rw [hd, downOf, hl', hE2, hE]
      have HD2 := Lib.hid hd2
      have c1 := own_roww HH.out.row
      obtain ⟨a1, a2, a3, a4⟩ := c1.cells e1 (by omega)
      have q0 := HH.out.c0
      have q1 := HH.out.c1
      have C1 := Lib.hid c1
      have HEQ := Lib.hid hE
      clear hstep hdk hd hd2 hE hE2
      have hbnd : ((e1 : Int) + 1) ≤ 1000001 := by omega
      go_upto_region 11 with (fail)
      go_cut [81] (fun s wx => s = .bool (decide (d = e1 + 1)) ∧ Hid (Below wr.heap.size wr wx))
      case first =>
        by_cases h2 : e1 + 1 < m
        · obtain ⟨b1, b2, b3, b4⟩ := C1.out.cells (e1 + 1) (by omega)
          obtain ⟨e2, he2⟩ : ∃ e2 : Nat, e2 = e1 + 1 := ⟨_, rfl⟩
          rw [← he2] at b1 b2 b3 b4 h2 HD2
          have he3 : (e1 : Int) + 1 = (e2 : Int) := by omega
          have h2I : (e2 : Int) < (m : Int) := by omega
          have hwr : IntKind.i64.wrap (e2 : Int) = (e2 : Int) := IntWalk.i64_in _ (by omega)
          have HE2 := Lib.hid he2
          clear hl' hkm hmf he2 hin
          cases hb : lessB (gw l' e2) (gw l' e1)
          all_goals
            have HB := Lib.hid hb
            go_wp2
            go_still_tail 24, (by kernel_rfl)
            go_wp2_with (go_at_call 110; refine (less_any (gw l' e2) (gw l' e1) _).mono ?_; rintro e w2 ⟨rfl, hbl⟩)
            go_wp2
            go_meet
            refine ⟨?_, Lib.hid (below_undrew hbl)⟩
            rw [HD2.out, HB.out]
            simp [h2, HE2.out] <;> (have := HE2.out; omega)
        · have hwr : IntKind.i64.wrap ((e1 : Int) + 1) = (e1 : Int) + 1 := IntWalk.i64_in _ (by omega)
          have hdec : decide ((e1 : Int) + 1 < (m : Int)) = false := by simp; omega
          have hde : d = e1 := by rw [HD2.out, if_neg (by omega)]
          have HDE := Lib.hid hde
          clear hl' hkm hmf hin hde h2
          go_wp2
          go_quiet (fail)
          go_wp2
          go_meet
          exact ⟨by rw [HDE.out]; simp, Lib.hid (below_drews (Below.refl _ _) _)⟩
      case rest =>
        obtain ⟨rfl, HBd⟩ := hcut
        rename_i wx
        have HH2 := Lib.hid (HH.out.below HBd.out)
        have HF2 := Lib.hid (HF.out.below HBd.out)
        clear a1 a2 a3 a4 q0 q1 c1 he1 hbnd
        have hrow := own_roww HH2.out.row
        have hdk := HDK.out
        obtain ⟨a1, a2, a3, a4⟩ := hrow.cells d (by omega)
        obtain ⟨b1, b2, b3, b4⟩ := hrow.cells k (by omega)
        have q0 := HH2.out.c0
        have q1 := HH2.out.c1
        have hdm : d < m := hdk.2
        have hkm2 : k < m := by omega
        have h2 : d = e1 + 1 ∨ d = e1 := by
          have h := HD2.out
          by_cases q : e1 + 1 < m ∧ lessB (gw l' (e1 + 1)) (gw l' e1) = true
          · rw [if_pos q] at h; exact .inl h
          · rw [if_neg q] at h; exact .inr h
        have he : lessB (gw l' d) (gw l' k) = false → l' = takeL l := fun hb => by rw [← Hs.out, HSTEP.out, hb]; rfl
        have hs3 : lessB (gw l' d) (gw l' k) = true → siftDown f (swapW l' k d) d = takeL l := fun hb => by rw [← Hs.out, HSTEP.out, hb]; rfl
        have HE := Lib.hid he
        have HS3 := Lib.hid hs3
        have HKM := Lib.hid hkm
        have HMF := Lib.hid hmf
        clear hrow hdk hl' hkm hmf hin hin1 he hs3 HSTEP HD2 HEQ
        have hq : ∃ bb : Bool, decide (d = e1 + 1) = bb ∧ (bb = true → (e1 : Int) + 1 = (d : Int)) ∧ (bb = false → e1 = d) := by
          rcases h2 with h | h
          · exact ⟨true, by simp [h], fun _ => by omega, fun h => by cases h⟩
          · exact ⟨false, by simp; omega, fun h => (by cases h), fun _ => h.symm⟩
        obtain ⟨bb, hdd, t1, t2⟩ := hq
        rw [hdd]
        clear hdd h2
        have hwx : ∀ w2 : World, Below wc.drew.heap.size wc.drew w2 → Below wr.heap.size wr w2 := fun w2 h => HBd.out.trans ((below_undrew h).mono HBd.out.size)
        have HWX := Lib.hid hwx
        clear hwx
        cases bb
        case' false =>
          have h := (t2 rfl).symm
          subst h
        case' true => have he3 := t1 rfl
        all_goals
          clear t1 t2
          cases hb : lessB (gw l' d) (gw l' k)
        case' false.false => have HEE := Lib.hid (HE.out hb)
        case' true.false => have HEE := Lib.hid (HE.out hb)
        case' false.true => have HS4 := Lib.hid (HS3.out hb)
        case' true.true => have HS4 := Lib.hid (HS3.out hb)
        all_goals
          go_wp2
          go_still_tail 18, (by kernel_rfl)
        case' false.false => skip
        any_goals (have _t := HEE; go_wp2_with (go_at_call 110; refine (less_any (gw l' d) (gw l' k) _).mono ?_; rintro e w2 ⟨rfl, hbl⟩; obtain ⟨e1', e2', e3', e4'⟩ := HEND.out w2 HEE.out (HWX.out w2 hbl); have y0 := cell_of_heap e4' 0; have y1 := cell_of_heap e4' 1; have y2 := cell_of_heap e4' 2; have y3 := cell_of_heap e4' 3; have z0 := cell_of_heap e3' 0; have z1 := cell_of_heap e3' 1; have z2 := cell_of_heap e3' 2; have z3 := cell_of_heap e3' 3; have fz0 := frozen_of_heap e3' 0; have fz1 := frozen_of_heap e3' 1; have fz2 := frozen_of_heap e3' 2; have fz3 := frozen_of_heap e3' 3; have HG4 := Lib.hid (HFIN.out w2 _ e1' e2' (set4 w2 w.heap.size x)); clear e1' e2' e3' e4'); refine bodyPost_ret (v := .tuple #[wyv x, .bool true]) ?_ rfl ⟨rfl, HG4.out⟩; simp [results, Tryz.results112, go_sem, wyv, z0, z1, z2, z3])
        all_goals
          go_wp2_with (go_at_call 110; refine (less_any (gw l' d) (gw l' k) _).mono ?_; rintro e w2 ⟨rfl, hbl⟩)
          have HH3 := Lib.hid (HH.out.below (HWX.out w2 hbl))
          have HF3 := Lib.hid (HF.out.below (HWX.out w2 hbl))
          clear a1 a2 a3 a4 b1 b2 b3 b4 q0 q1 hbl
          have hrow := own_roww HH3.out.row
          have hlen := Hl.out
          obtain ⟨a1, a2, a3, a4⟩ := hrow.cells d (by omega)
          obtain ⟨b1, b2, b3, b4⟩ := hrow.cells k (by omega)
          have q0 := HH3.out.c0
          have f1 := hrow.frozen (d * 4)
          have f2 := hrow.frozen (d * 4 + 1)
          have f3 := hrow.frozen (d * 4 + 2)
          have f4 := hrow.frozen (d * 4 + 3)
          have f5 := hrow.frozen (k * 4)
          have f6 := hrow.frozen (k * 4 + 1)
          have f7 := hrow.frozen (k * 4 + 2)
          have f8 := hrow.frozen (k * 4 + 3)
          have HS5 := HH3.out.swap k (by omega) (gw l' d)
          have HS6 := Lib.hid (HS5.swap d (by simp; omega) (gw l' k))
          have HF6 := Lib.hid (HS5.fr (HH3.out.fr HF3.out (.inl (.inr rfl)) k (gw l' d)) (.inl (.inr rfl)) d (gw l' k))
          clear HS5 hrow hlen
          have hpg : p ≠ g := fun e => HH3.out.ne (by rw [e]; rfl)
          obtain ⟨hkd, hdm3⟩ := HDK.out
          go_region
          go_wp2
          go_roundw
          case rel => exact ⟨d, f, swapW l' k d, rfl, Lib.hid (by omega), Lib.hid (by have := HMF.out; have := HDK.out; omega), Lib.hid (by rw [swapW_length]; exact Hl.out), HS4, Lib.hid HS6.out.drew, Lib.hid HF6.out.drew⟩
          case measure => have := HDK.out; simp [intOf]; omega
    · have he : l' = takeL l := by rw [← Hs.out, siftDown, if_neg (by rw [Hl.out]; omega)]
      have HE := Lib.hid he
      have hI : ¬ (2 * (k : Int) + 1 < (m : Int)) := by omega
      obtain ⟨e1, e2, e3, e4⟩ := HEND.out wr he (Below.refl _ _)
      have y0 := cell_of_heap e4 0
      have y1 := cell_of_heap e4 1
      have y2 := cell_of_heap e4 2
      have y3 := cell_of_heap e4 3
      have z0 := cell_of_heap e3 0
      have z1 := cell_of_heap e3 1
      have z2 := cell_of_heap e3 2
      have z3 := cell_of_heap e3 3
      have fz0 := frozen_of_heap e3 0
      have fz1 := frozen_of_heap e3 1
      have fz2 := frozen_of_heap e3 2
      have fz3 := frozen_of_heap e3 3
      have HG4 := Lib.hid (HFIN.out wr _ e1 e2 (set4 wr w.heap.size x))
      clear e1 e2 e3 e4 he hl' hkm hmf
      go_wp2
      refine bodyPost_ret (v := .tuple #[wyv x, .bool true]) ?_ rfl ⟨rfl, HG4.out⟩
      simp [results, Tryz.results112, go_sem, wyv, z0, z1, z2, z3]
end Go.Proofs.YtmhiiomejopaoaaGreatDoor
