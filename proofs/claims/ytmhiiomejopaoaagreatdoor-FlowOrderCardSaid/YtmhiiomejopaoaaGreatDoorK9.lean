/- The flow walks: send as one word; best. -/
import Derived.Test.YtmhiiomejopaoaaGreatDoorK8
import Derived.Test.YtmhiiomejopaoaaGreatDoorF9
namespace Go.Proofs.YtmhiiomejopaoaaGreatDoor
set_option linter.all false
set_option maxRecDepth 100000
open Go.RowKit

theorem send_any (fuel : Nat) (r : Option (List Int × List Int × List Int)) (v : Nat) (p : Nat) (n : Int) (A : Option Addr) (c : Nat) (l : List Lk) (gx cx gu cu gf cf : Nat) (x u f : List Int) (w : World) (h : Car w p n A c l gx cx gu cu gf cf x u f) (s : Sep p A l gx gu gf) (hl : l.length ≤ 1000) (hx : x.length ≤ 1000000) (hu : u.length = l.length) (hfl : f.length ≤ 1000000) (hv : v < f.length) (hr : ∀ k ∈ l, InR x.length k)
    (hres : sendN fuel l x u f v = some r) :
    Calls Tryz.prog 87 #[.pointer (some ⟨p, 0, none⟩), .int .i64 v] w fun e w' => e = .returned (.bool r.isSome) ∧ SendR w w' p n A c l gx cx gu cu gf cf x u f r := by
  rcases sendN_cases hres with ⟨d, t, h1, rfl⟩ | ⟨d, t, ys, h1, h2, m, h3, rfl⟩
  · exact (send_no fuel d t v p n A c l gx cx gu cu gf cf x u f w h hl hx hu hfl hr h1).mono fun e w' he => by
      obtain ⟨rfl, h2⟩ := he
      exact ⟨rfl, h.below h2, fr_of_below h2⟩
  · exact (send_yes fuel d t ys m v p n A c l gx cx gu cu gf cf x u f w h s hl hx hu hfl hv hr h1 h2 h3).mono fun e w' he => by
      obtain ⟨rfl, h4, h5⟩ := he
      exact ⟨rfl, h4, h5⟩

abbrev St := List Int × List Int × List Int
/-- The loops of best: from node v on. -/
def goN (F : Nat) (l : List Lk) (n : Nat) : Nat → Nat → St → Option (Option St)
  | 0, _, _ => none
  | k + 1, v, s =>
    if v < n then
      if gi s.2.2 v < 0 then
        match sendN F l s.1 s.2.1 s.2.2 v with
        | none => none
        | some none => some none
        | some (some t) => goN F l n k v t
      else goN F l n k (v + 1) s
    else some (some s)
theorem goN_cases {F n k v : Nat} {l : List Lk} {s : St} {r : Option St} (h : goN F l n k v s = some r) : ∃ k', k = k' + 1 ∧
    ((n ≤ v ∧ r = some s) ∨
     (v < n ∧ ¬ gi s.2.2 v < 0 ∧ goN F l n k' (v + 1) s = some r) ∨
     (v < n ∧ gi s.2.2 v < 0 ∧ sendN F l s.1 s.2.1 s.2.2 v = some none ∧ r = none) ∨
     (v < n ∧ gi s.2.2 v < 0 ∧ ∃ t, sendN F l s.1 s.2.1 s.2.2 v = some (some t) ∧ goN F l n k' v t = some r)) := by
  cases k with
  | zero => cases h
  | succ k =>
    refine ⟨k, rfl, ?_⟩
    unfold goN at h
    split at h
    · rename_i h1
      split at h
      · rename_i h2
        split at h
        · cases h
        · rename_i e
          cases h
          exact .inr (.inr (.inl ⟨h1, h2, e, rfl⟩))
        · rename_i t e
          exact .inr (.inr (.inr ⟨h1, h2, t, e, h⟩))
      · rename_i h2
        exact .inr (.inl ⟨h1, h2, h⟩)
    · rename_i h1
      cases h
      exact .inl ⟨by omega, rfl⟩
theorem sendN_lengths {F v : Nat} {l : List Lk} {x u f : List Int} {t : St} (h : sendN F l x u f v = some (some t)) : t.1.length = x.length ∧ t.2.1.length = u.length ∧ t.2.2.length = f.length := by
  rcases sendN_cases h with ⟨d, t, _, e⟩ | ⟨d, t, ys, _, _, m, _, e⟩
  · cases e
  · cases e
    exact ⟨liftX_length _ _ _ _, foldl_moveN_length _ _ _, by simp [si]⟩

/-- What a list of whole numbers that a call returns is. -/
def IntsV (w : World) (v : Value) (u : List Int) : Prop := ∃ A c, v = .slice A u.length c ∧ IntsAt w A u ∧ (A = none → u.length = 0 ∧ c = 0)
theorem IntsV.below {w w1 : World} {v : Value} {l : List Int} (h : IntsV w v l) (hb : Below w.heap.size w w1) : IntsV w1 v l := by
  obtain ⟨A, c, e, h1, h2⟩ := h
  exact ⟨A, c, e, h1.below hb, h2⟩
theorem IntsV.nil (w : World) : IntsV w (.slice none 0 0) [] := ⟨none, 0, rfl, fun i h0 hi => by simp at hi; omega, fun _ => ⟨rfl, rfl⟩⟩
theorem RowI.intsV {w : World} {g c : Nat} {l : List Int} (h : RowI w g l) : IntsV w (.slice (some ⟨g, 0, none⟩) l.length c) l := ⟨_, _, rfl, h.ints, fun e => by cases e⟩
theorem own_intsV {w : World} {base : Nat} {v : Value} {l : List Int} (h : w.ownsRow base 3 1 v l.length (ints l)) : IntsV w v l := by
  obtain ⟨A, c, rfl, _, h3, _⟩ := own_slice h
  exact ⟨A, c, rfl, own_ints h, h3⟩

/-- best's answer: the units, and the error. -/
def bestR : Option St → List Int × Int
  | none => ([], 5)
  | some s => (s.2.1, 0)
def bestP (F : Nat) (n : Nat) (l : List Lk) (w : List Int) : Option (List Int × Int) :=
  if (solutionL n l).2 then (goN F l n F 0 ((solutionL n l).1, List.replicate l.length 0, w)).map bestR else some ([], 9)

set_option maxRecDepth 100000 in
set_option maxHeartbeats 1000000 in
theorem best_no (n : Nat) (A : Option Addr) (c : Nat) (l : List Lk) (b : Value) (w : World) (hn : n ≤ 1000000) (hl : l.length ≤ 1000000) (h : LksAt w A l) (hr : ∀ k ∈ l, InR n k) (hy : (solutionL n l).2 = false) :
    Calls Tryz.prog 64 #[.agg #[.int .i64 n, .slice A l.length c], b] w fun e w' => e = .returned (.tuple #[.slice none 0 0, .int .i64 9]) ∧ Below w.heap.size w w' := by
  have HS := Lib.hid (solution_no n A c l (w.alloc (.cells #[.int .i64 n, .slice A l.length c] 24)) hn hl (h.alloc _) hr hy)
  clear h hr hy
  go_enter Tryz.func64, Tryz.ntmps64
  go_wp2_with (go_at_call 35; refine HS.out.mono ?_; rintro e w1 ⟨rfl, hb⟩)
  go_ret2
  exact ⟨rfl, below_trans bel hb⟩
structure BestW (w wr : World) (n : Nat) (A : Option Addr) (c : Nat) (l : List Lk) (p gx gu gf cf : Nat) (s : St) : Prop where
  car : Car wr p n A c l gx n gu l.length gf cf s.1 s.2.1 s.2.2
  below : Below w.heap.size w wr
  l1 : s.1.length = n
  l2 : s.2.1.length = l.length
  l3 : s.2.2.length = n
theorem best_made {w1 w2 : World} {n : Nat} {A : Option Addr} {c g gu gf cf : Nat} {l : List Lk} {sol x : List Int} (hS : sol.length = n) (hA : Apart A l.length (some g)) (hl : LksAt w1 A l) (r1 : RowI w1 g sol) (hb : Below w1.heap.size w1 w2) (r2 : RowI w2 gu (List.replicate l.length 0)) (hu : w1.heap.size ≤ gu) (r3 : RowI w2 gf x) (hf : w1.heap.size ≤ gf) (hne : gu ≠ gf) :
    Car (w2.alloc (.cells #[.int .i64 n, .slice A l.length c, .slice (some ⟨g, 0, none⟩) n n, .slice (some ⟨gu, 0, none⟩) l.length l.length, .slice (some ⟨gf, 0, none⟩) x.length cf] 110)) w2.heap.size n A c l g n gu l.length gf cf sol (List.replicate l.length 0) x ∧ Sep w2.heap.size A l g gu gf := by
  have h1 := r1.lt
  have h2 := r2.lt
  have h3 := r3.lt
  have h4 := hb.size
  refine ⟨⟨?_, (hl.below hb).alloc _, (r1.below hb).alloc _, r2.alloc _, r3.alloc _⟩, ⟨by omega, by omega, hne, by omega, by omega, by omega, hA, hl.apart hu, hl.apart hf⟩⟩
  rw [hS, List.length_replicate]
  exact heap_alloc_new _ _
set_option maxRecDepth 100000 in
set_option maxHeartbeats 4000000 in
theorem best_yes (F : Nat) (r : Option St) (n : Nat) (A : Option Addr) (c : Nat) (l : List Lk) (B : Option Addr) (d : Nat) (x : List Int) (w : World) (hn0 : 0 < n) (hn : n ≤ 1000000) (hl : l.length ≤ 1000) (hx : x.length = n) (h : LksAt w A l) (h' : IntsAt w B x) (hr : ∀ k ∈ l, InR n k) (hy : (solutionL n l).2 = true)
    (hg : goN F l n F 0 ((solutionL n l).1, List.replicate l.length 0, x) = some r) :
    Calls Tryz.prog 64 #[.agg #[.int .i64 n, .slice A l.length c], .slice B x.length d] w fun e w' => ∃ v, e = .returned (.tuple #[v, .int .i64 (bestR r).2]) ∧ IntsV w' v (bestR r).1 ∧ Below w.heap.size w w' := by
  have HS := Lib.hid (solution_yes n A c l (w.alloc (.cells #[.int .i64 n, .slice A l.length c] 24)) hn (by omega) (h.alloc _) hr hy)
  have HA := Lib.hid h
  have HB := Lib.hid h'
  have HR := Lib.hid hr
  have HG := Lib.hid hg
  clear h h' hr hy hg
  have hxl : x.length ≤ 1000000 := by omega
  have hx0 : 0 < x.length := by omega
  have HX := Lib.hid hx
  have HXL := Lib.hid hxl
  have HX0 := Lib.hid hx0
  have HNB := Lib.hid (show B = none → x.length = 0 ∧ d = 0 from fun e => by obtain ⟨b, o, e2, _⟩ := HB.out.nat 0 hx0; rw [e] at e2; cases e2)
  clear hx hxl hx0
  have hmk := mkInts l.length (by omega)
  go_enter Tryz.func64, Tryz.ntmps64
  go_wp2_with (go_at_call 35; refine HS.out.mono ?_; rintro e w1 ⟨g, rfl, hg0, hrow, hb⟩; have HROW := Lib.hid hrow; have HB1 := Lib.hid (below_trans (bel : Below w.heap.size w (w.alloc (.cells #[.int .i64 n, .slice A l.length c] 24))) hb); have c0 : w1.cell? ⟨w.heap.size, 0, none⟩ = some (.int .i64 n) := cell_below hb (by go_simp); have c1 : w1.cell? ⟨w.heap.size, 1, none⟩ = some (.slice A l.length c) := cell_below hb (by go_simp); clear hrow hb)
  have HB2 := Lib.hid (HB.out.below HB1.out)
  go_upto_region 4 with fail
  have HAG := Lib.hid (HA.out.apart (g := g) (by simp at hg0; omega))
  have HW1 := Lib.hid (show w.heap.size < w1.heap.size from World.block_lt_of_cell? _ _ c0)
  have HSL := Lib.hid (solutionL_length n l)
  go_cut [8] from 9 (fun q wx => ∃ p gf cf gu, q = .pointer (some ⟨p, 0, none⟩) ∧ Hid (Car wx p n A c l g n gu l.length gf cf (solutionL n l).1 (List.replicate l.length 0) x) ∧ Hid (Sep p A l g gu gf) ∧ Hid (Below w.heap.size w wx ∧ w.heap.size < g ∧ w.heap.size < gu ∧ w.heap.size < gf) ∧ wx.cell? ⟨w.heap.size, 0, none⟩ = some (.int .i64 n) ∧ wx.cell? ⟨w.heap.size, 1, none⟩ = some (.slice A l.length c))
  case first =>
    go_region_held3 (fun w' => w'.cell? ⟨w.heap.size, 0, none⟩ = some (.int .i64 n) ∧ w'.cell? ⟨w.heap.size, 1, none⟩ = some (.slice A l.length c)) (first | exact ⟨c0, c1⟩ | exact ⟨cell_alloc _ c0, cell_alloc _ c1⟩ | exact ⟨cell_below hb2 (cell_alloc _ c0), cell_below hb2 (cell_alloc _ c1)⟩ | exact ⟨cell_below hb2 c0, cell_below hb2 c1⟩ | go_keep) ((go_at_call 70; refine (clone_ints B d x _ HXL.out HNB.out ?hh).mono ?_; (case hh => first | exact HB2.out.alloc _ | exact HB2.out); rintro e w2 ⟨v, rfl, ho, hb2⟩; obtain ⟨gf, cf, rfl, hgf, hrf⟩ := own_form ho HX0.out))
    all_goals go_wp2_with fail
    · have hb2' : Below (w1.alloc (.cells (madeCells #[.int .i64 0] l.length) 3)).heap.size (w1.alloc (.cells (madeCells #[.int .i64 0] l.length) 3)) w2 := below_undrew hb2
      have hba : Below w1.heap.size w1 (w1.alloc (.cells (madeCells #[.int .i64 0] l.length) 3)) := bel
      have hb3 : Below w1.heap.size w1 w2 := hba.trans (hb2'.mono hba.size)
      have hgf2 : w1.heap.size + 1 ≤ gf := by simpa [World.drew] using hgf
      have hcs := best_made (c := c) (cf := cf) HSL.out HAG.out (HA.out.below HB1.out) HROW.out hb3 ((RowI_made w1 l.length).below hb2') (Nat.le_refl _) hrf (by omega) (by omega)
      have hw1 := HW1.out
      go_meet
      exact ⟨_, _, _, _, rfl, Lib.hid hcs.1, Lib.hid hcs.2, Lib.hid ⟨HB1.out.trans ((hb3.trans (Below.alloc (Below.refl _ _) hb3.size _)).mono (by omega)), by simp at hg0; omega, by omega, by omega⟩, cell_alloc _ (cell_below hb3 c0), cell_alloc _ (cell_below hb3 c1)⟩
    · have hb3 : Below w1.heap.size w1 (w2.alloc (.cells (madeCells #[.int .i64 0] l.length) 3)) := (show Below w1.heap.size w1 w2 by first | exact hb2 | exact below_undrew hb2).alloc hb2.size _
      have hgf2 : w1.heap.size ≤ gf := hgf
      have hgl := hrf.lt
      have hcs := best_made (c := c) (cf := cf) HSL.out HAG.out (HA.out.below HB1.out) HROW.out hb3 (RowI_made w2 l.length) hb2.size (hrf.alloc _) (by omega) (by omega)
      have hw1 := HW1.out
      go_meet
      exact ⟨_, _, _, _, rfl, Lib.hid (by simpa using hcs.1), Lib.hid (by simpa using hcs.2), Lib.hid ⟨HB1.out.trans ((hb3.trans (Below.alloc (Below.refl _ _) hb3.size _)).mono (by omega)), by simp at hg0; omega, by omega, by omega⟩, cell_alloc _ (cell_below hb3 c0), cell_alloc _ (cell_below hb3 c1)⟩
  case rest =>
    obtain ⟨p, gf, cf, gu, rfl, HC, HSP, HB3, c0', c1'⟩ := hcut
    have lp := (Array.getElem?_eq_some_iff.1 HC.out.cell).1
    have HS0 := Lib.hid (show BestW w wc n A c l p g gu gf cf ((solutionL n l).1, List.replicate l.length 0, x) from ⟨HC.out, HB3.out.1, HSL.out, List.length_replicate, HX.out⟩)
    clear c0 c1
    go_wp2
    clear c0' c1' lp
    go_loopg [32] F (fun k i wr => ∃ (v : Nat) (s : St), i = .int .i64 v ∧ v ≤ n ∧ Hid (goN F l n k v s = some r) ∧ Hid (BestW w wr n A c l p g gu gf cf s))
    case atStart => exact ⟨0, _, rfl, by omega, HG, HS0⟩
    case round =>
      obtain ⟨v, s, rfl, hv, HK, HW⟩ := hrel
      obtain ⟨k0, hk0⟩ : ∃ k0, k0 = gk := ⟨_, rfl⟩
      have HK0 := Lib.hid hk0
      clear hk0
      by_cases hlt : v < n
      · go_wp2
        go_loopg [] gk (fun k wr => ∃ s : St, Hid (k ≤ k0) ∧ Hid (goN F l n k v s = some r) ∧ Hid (BestW w wr n A c l p g gu gf cf s))
        case atStart => exact ⟨_, Lib.hid (by rw [HK0.out]; exact Nat.le_refl _), HK, HW⟩
        case round =>
          obtain ⟨s, HKK, HK, HW⟩ := hrel
          obtain ⟨k', rfl, hcs⟩ := goN_cases HK.out
          have c4 := cell_of_heap HW.out.car.cell 4
          have cv := HW.out.car.rf.cell v (by rw [HW.out.l3]; exact hlt)
          rw [HW.out.l3] at c4
          simp at c4
          have lp := (Array.getElem?_eq_some_iff.1 HW.out.car.cell).1
          have lgf := HW.out.car.rf.lt
          have HSD := Lib.hid (fun (r : Option (List Int × List Int × List Int)) (hs : sendN F l s.1 s.2.1 s.2.2 v = some r) => send_any F r v p n A c l g n gu l.length gf cf s.1 s.2.1 s.2.2 wr HW.out.car HSP.out hl (by rw [HW.out.l1]; exact hn) HW.out.l2 (by rw [HW.out.l3]; exact hn) (by rw [HW.out.l3]; exact hlt) (by rw [HW.out.l1]; exact HR.out) hs)
          rcases hcs with ⟨h1, _⟩ | ⟨_, h1, h2⟩ | ⟨_, h1, h2, h3⟩ | ⟨_, h1, t, h2, h3⟩
          · omega
          · have H2 := Lib.hid h2
            clear h2 HSD
            go_wp2
            go_roundg k'
            case measure => have := HKK.out; have := HK0.out; omega
            case rel => exact ⟨v + 1, s, by go_num, by omega, H2, HW⟩
          · have H2 := Lib.hid h2
            have H3 := Lib.hid h3
            clear h2 h3
            go_wp2_with (go_at_call 87; refine (HSD.out _ H2.out).mono ?_; rintro e w2 ⟨rfl, hcar, hfr⟩; have HFR := Lib.hid hfr; clear hcar hfr)
            go_ret2
            refine ⟨_, by rw [H3.out]; rfl, by rw [H3.out]; exact IntsV.nil _, HFR.out.toBelow HW.out.below HW.out.below.size (fun i hi => ?_)⟩
            have := HB3.out.2
            rcases hi with rfl | rfl | rfl <;> omega
          · have H2 := Lib.hid h2
            have H3 := Lib.hid h3
            clear h2 h3
            go_wp2_with (go_at_call 87; refine (HSD.out _ H2.out).mono ?_; rintro e w2 ⟨rfl, hcar, hfr⟩; have HFR := Lib.hid hfr; have HCR := Lib.hid hcar; clear hcar hfr)
            go_roundg k'
            case measure => have := HKK.out; omega
            case rel =>
              have hls := sendN_lengths H2.out
              refine ⟨t, Lib.hid (by have := HKK.out; omega), H3, Lib.hid ⟨HCR.out, HFR.out.toBelow HW.out.below HW.out.below.size (fun i hi => ?_), hls.1.trans HW.out.l1, hls.2.1.trans HW.out.l2, hls.2.2.trans HW.out.l3⟩⟩
              have := HB3.out.2
              rcases hi with rfl | rfl | rfl <;> omega
      · obtain ⟨k', hk', hcs⟩ := goN_cases HK.out
        have hr : r = some s := by
          rcases hcs with ⟨_, h1⟩ | ⟨h1, _⟩ | ⟨h1, _⟩ | ⟨h1, _⟩
          · exact h1
          all_goals omega
        obtain rfl : v = n := by omega
        have HRS := Lib.hid hr
        have c3 := cell_of_heap HW.out.car.cell 3
        rw [HW.out.l2] at c3
        simp at c3
        have lp := (Array.getElem?_eq_some_iff.1 HW.out.car.cell).1
        clear hcs hr hk'
        go_wp2
        go_ret2
        exact ⟨_, by rw [HRS.out]; rfl, by rw [HRS.out]; have := HW.out.car.ru.intsV (c := l.length); rw [HW.out.l2] at this; exact this, HW.out.below⟩
theorem best_any (F : Nat) (r : List Int × Int) (n : Nat) (A : Option Addr) (c : Nat) (l : List Lk) (B : Option Addr) (d : Nat) (x : List Int) (w : World) (hn0 : 0 < n) (hn : n ≤ 1000000) (hl : l.length ≤ 1000) (hx : x.length = n) (h : LksAt w A l) (h' : IntsAt w B x) (hr : ∀ k ∈ l, InR n k) (hb : bestP F n l x = some r) :
    Calls Tryz.prog 64 #[.agg #[.int .i64 n, .slice A l.length c], .slice B x.length d] w fun e w' => ∃ v, e = .returned (.tuple #[v, .int .i64 r.2]) ∧ IntsV w' v r.1 ∧ Below w.heap.size w w' := by
  unfold bestP at hb
  cases hy : (solutionL n l).2
  · rw [hy] at hb
    simp only [Bool.false_eq_true, if_false, Option.some.injEq] at hb
    subst hb
    exact (best_no n A c l _ w hn (by omega) h hr hy).mono fun e w' he => ⟨_, he.1, IntsV.nil _, he.2⟩
  · rw [hy] at hb
    simp only [if_true, Option.map_eq_some_iff] at hb
    obtain ⟨s, h1, rfl⟩ := hb
    exact best_yes F s n A c l B d x w hn0 hn hl hx h h' hr hy h1
end Go.Proofs.YtmhiiomejopaoaaGreatDoor
