/- The date walks: Cut gathers the parts. -/
import Derived.Test.YteoembjghmgbhaaDoorV2
namespace Go.Proofs.YteoembjghmgbhaaDoor
set_option linter.all false
open Go.RowKit

def cutE (s : Sp) : Int := if spanB s then (if 60 < (monI s.hi : Int) - (monI s.lo : Int) + 1 then 2 else 0) else 1
theorem partsK_len (s : Sp) (k : Nat) : (partsK s k).length = k := by simp [partsK]
theorem keeps_from {B N b : Nat} {W W1 : World} {v x : Value} {n : Nat} {xs : List Value} (hbox : W.heap[b]? = some (.cells #[v] 54 (0, 0))) (hrow : W.ownsRow N 37 2 v n xs) (hg : W.grownBy W1 v.ownBlock) : KeepsFrom B W (W1.setCell ⟨b, 0, none⟩ x) := by
  refine ⟨by simpa using hg.size, fun k o hB hk ho => ?_⟩
  have h1 : k ≠ b := by rintro rfl; rw [hbox] at hk; cases hk; cases ho
  rw [setCell_other h1]
  refine (hg.block k (Array.getElem?_eq_some_iff.1 hk).1 ?_).trans hk
  intro e
  rcases hrow.2 with ⟨e1, _⟩ | ⟨g, cap, cur, e1, e2, e3, _⟩
  · rw [e1] at e; cases e
  · rw [e1] at e
    have e4 : some k = some g := e
    cases e4
    rw [e3] at hk; cases hk; cases ho
theorem keeps_p {N b q : Nat} {W W1 : World} {v x : Value} {n : Nat} {xs : List Value} (hqb : q ≠ b) (hqN : q < N) (hrow : W.ownsRow N 37 2 v n xs) (hg : W.grownBy W1 v.ownBlock) : KeepP q W (W1.setCell ⟨b, 0, none⟩ x) := by
  intro o hk
  rw [setCell_other hqb]
  refine (hg.block q (Array.getElem?_eq_some_iff.1 hk).1 ?_).trans hk
  intro e
  rcases hrow.2 with ⟨e1, _⟩ | ⟨g, cap, cur, e1, e2, e3, _⟩
  · rw [e1] at e; cases e
  · rw [e1] at e
    have e4 : some q = some g := e
    cases e4
    omega
theorem out_put {B N : Nat} {w0 W W1 : World} {v v1 : Value} {acc : List Sp} {s : Sp} (h : OutSt B N w0 W acc) (hBN : B < N) (hbox : W.heap[B]? = some (.cells #[v] 54 (0, 0))) (hrow : W.ownsRow N 37 2 v acc.length (spcs acc)) (hg : W.grownBy W1 v.ownBlock) (h1 : W1.ownsRow N 37 2 v1 (acc.length + 1) (spcs acc ++ spc s)) :
    OutSt B N w0 (W1.setCell ⟨B, 0, none⟩ v1) (acc ++ [s]) := by
  have hvb : ∀ b, v.ownBlock = some b → N ≤ b := by
    intro b hb
    rcases hrow.2 with ⟨e1, _⟩ | ⟨g, cap, cur, e1, e2, e3, _⟩
    · rw [e1] at hb; cases hb
    · rw [e1] at hb
      have e4 : some g = some b := hb
      cases e4
      exact e2
  have hB1 : Below B W W1 := ⟨hg.os, hg.tape, hg.output, hg.size, fun k hk => hg.block k (by have := h.size; omega) (fun e => by have := hvb k e.symm; omega)⟩
  have hX : W1.heap[B]? = some (.cells #[v] 54 (0, 0)) := (hg.block B (by have := h.size; omega) (fun e => by have := hvb B e.symm; omega)).trans hbox
  refine ⟨⟨v1, box_set hX, ?_⟩, by have := h.size; have := hg.size; simp; omega, (h.below.trans hB1).setCell (Nat.le_refl _) _⟩
  rw [spcs_app, List.length_append]
  exact ownsRow_setCell_below h1 hBN _
set_option maxRecDepth 1000000 in
set_option maxHeartbeats 4000000 in
theorem Cut_good (s : Sp) (w : World) (hs : spanB s = true) (hsh : (monI s.hi : Int) - (monI s.lo : Int) + 1 ≤ 60) :
    Calls Tryd.prog 38 #[spv s] w fun e w' => ∃ v, e = .returned (.tuple #[v, .int .i64 0]) ∧ w'.ownsRow w.heap.size 37 2 v (partsL s).length (spcs (partsL s)) ∧ Below w.heap.size w w' := by
  have hsb : 0 ≤ s.lo ∧ s.lo ≤ s.hi ∧ s.hi ≤ 60000 := by simpa [spanB] using hs
  have HI := Lib.hid (fun W => isSpan_b s W)
  rw [hs] at HI
  have HSEQ := Lib.hid (fun n p W0 hp => parts_seq n s p W0 hs hp)
  have HPA := Lib.hid (fun W => parts_any s W)
  have HM1 := Lib.hid (fun W => month_any s.lo W hsb.1 (by omega))
  have HM2 := Lib.hid (fun W => month_any s.hi W (by omega) hsb.2.2)
  have HLN := Lib.hid (show (partsL s).length ≤ 60 by unfold partsL; rw [partsK_len]; unfold partsN; omega)
  have hb1 := mon_le s.lo
  have hb2 := mon_le s.hi
  obtain ⟨m1, hm1⟩ : ∃ m1, monI s.lo = m1 := ⟨_, rfl⟩
  obtain ⟨m2, hm2⟩ : ∃ m2, monI s.hi = m2 := ⟨_, rfl⟩
  rw [hm1] at HM1 hb1 hsh
  rw [hm2] at HM2 hb2 hsh
  obtain ⟨L, hL⟩ : ∃ L, partsL s = L := ⟨_, rfl⟩
  rw [hL] at HSEQ HLN ⊢
  clear hs hm1 hm2 hL hsb
  obtain ⟨lo, hi⟩ := s
  unfold spv at *
  simp only at *
  have t60 : decide ((60 : Int) < (m2 : Int) - (m1 : Int) + 1) = false := decide_eq_false (by omega)
  have hw1 : IntKind.i64.wrap ((m2 : Int) - (m1 : Int)) = (m2 : Int) - (m1 : Int) := by rw [IntKind.wrap_i64]; omega
  have hw2 : IntKind.i64.wrap ((m2 : Int) - (m1 : Int) + 1) = (m2 : Int) - (m1 : Int) + 1 := by rw [IntKind.wrap_i64]; omega
  refine (callsIn_wide (n := 9)).1 ?_
  refine callsIn_of_wp_marks Tryd.func38 rfl trivial ?_ rfl
  refine wpIn_wide.2 ?_
  simp only [Tryd.ntmps38, List.size_toArray, List.length_cons, List.length_nil, Nat.reduceAdd, Nat.reduceSub, Array.replicate_succ, Array.replicate_zero, List.push_toArray, List.append_toArray, List.nil_append, List.cons_append]
  go_upto_region 3 with (first | (go_at_call 71; refine (HI.out _).mono ?_; rintro e w1 ⟨rfl, hb⟩; have HB1 := Lib.hid (below_trans (bel : Below w.heap.size w (w.alloc _)) hb); have HX1 := Lib.hid (lnew hb); clear hb HI))
  obtain ⟨c0, c1, _, _, lc⟩ := cells2 HX1.out
  have HB1d := Lib.hid (HB1.out.drew)
  have MK := Lib.hid True.intro
  go_region_held3 (fun w' => w'.cell? ⟨w.heap.size, 0, none⟩ = some (.int .i64 lo) ∧ w'.cell? ⟨w.heap.size, 1, none⟩ = some (.int .i64 hi)) (first | exact ⟨c0, c1⟩ | exact ⟨d0, d1⟩ | exact ⟨k0, k1⟩) (first | (go_at_call 66; refine (HM2.out _).mono ?_; rintro e w2 ⟨rfl, hb⟩; have d0 := (hb.cell lc).trans c0; have d1 := (hb.cell lc).trans c1; have ld := Nat.lt_of_lt_of_le lc hb.size; have HB2 := Lib.hid (below_trans HB1d.out hb); have HX2 := Lib.hid (lift0 hb HX1.out); clear hb HM2) | (go_at_call 66; refine (HM1.out _).mono ?_; rintro e w3 ⟨rfl, hb⟩; have k0 := (hb.cell ld).trans d0; have k1 := (hb.cell ld).trans d1; have lk := Nat.lt_of_lt_of_le ld hb.size; have HB3 := Lib.hid (below_trans HB2.out hb); have HX3 := Lib.hid (lift0 hb HX2.out); clear hb HM1))
  obtain ⟨e0, e1, _, _, le⟩ := cells2 HX3.out
  clear c0 c1 d0 d1 k0 k1 lc ld lk t60 hw1 hw2
  go_wp2_with (first | (go_at_call 72; refine (HPA.out _).mono ?_; rintro e w5 ⟨rfl, hw5⟩; have HW5 := Lib.hid hw5; clear hw5))
  have hw5 := HW5.out
  have hbo : w5.heap[w3.heap.size]? = some (.cells #[.slice none 0 0] 54 (0, 0)) := by rw [hw5]; exact (heap_alloc_old _ _ (by simp)).trans (heap_alloc_new w3 _)
  have hqo : w5.heap[w3.heap.size + 1]? = some (.cells #[.int .i64 lo, .int .i64 hi] 37 (0, 0)) := by rw [hw5]; simpa using heap_alloc_new (w3.alloc (.cells #[.slice none 0 0] 54)) (.cells #[.int .i64 lo, .int .i64 hi] 37)
  have hN : w5.heap.size = w3.heap.size + 2 := by rw [hw5]; simp
  have hb35 : Below w3.heap.size w3 w5 := by rw [hw5]; exact bel
  have hseq := HSEQ.out 8 (w3.heap.size + 1) w5 hqo
  have HLE := Lib.hid HB3.out.size
  obtain ⟨B, hB⟩ : ∃ B, w3.heap.size = B := ⟨_, rfl⟩
  rw [hB] at hbo hqo hN hb35 hseq ⊢
  have hqs : B + 1 < w5.heap.size := by omega
  have H0 : OutSt B w5.heap.size w3 w5 [] := ⟨⟨_, hbo, World.ownsRow_nil _ _ _ _⟩, Nat.le_refl _, hb35⟩
  have HBB := Lib.hid hB
  clear e0 e1 le hbo hqo hb35 hB hw5
  have cf83 : ∀ args w, (callFunc 83 args).run Tryd.prog w = .ok (.enter 83 args) w := fun _ _ => by kernel_rfl
  refine wp_range1 (n := 9) (by omega) (gf := 83) rfl cf83 hseq (fun h k => keepP_t h k) (keepP_b hqs) (fun W o => keepP_a W o)
    (fun pre W => OutSt B w5.heap.size w3 W pre) ?hI ?hIl H0 (fun x : Sp => .cells #[.int .i64 x.lo, .int .i64 x.hi] 37) 5 ?assign ?body ?done
  case hI => exact fun s A A' h hb => h.step hb (by omega)
  case hIl => exact fun s A l o o' hl ho hc h => h.putObj o' ho hc (by omega)
  case assign =>
    intro l' y W K hK
    refine wpIn_region_lit (list_round (by kernel_rfl) (by rintro ⟨a, w, h⟩; exact h) ?_)
    go_wp2
    exact hK
  case body =>
    rintro l' pre y W b hb1 hb2 hS hb3 hpre
    obtain ⟨y0, y1, _, _, yl⟩ := cells2 hb3
    have hlen : pre.length ≤ 60 := by have h1 := hpre.length_le; have h2 := HLN.out; rw [List.length_append] at h1; omega
    obtain ⟨v, hbox, hrow⟩ := hS.own
    obtain ⟨A, c, rfl, hc, hn, hA⟩ := own_slice hrow
    obtain ⟨u0, g0, m0⟩ := cells1 hbox
    have HS := Lib.hid hS
    have HBX := Lib.hid hbox
    have HR := Lib.hid hrow
    have hNs := hS.size
    clear hS hbox hrow hseq hpre
    refine wpIn_block ?_
    refine wpIn_region_lit (list_round (by kernel_rfl) (by rintro ⟨a, w, h⟩; exact h) ?_)
    go_wp2_with (at_builtin; refine app_one rfl _ _ 54 37 (.agg #[.int .i64 0, .int .i64 0]) 2 16 rfl Tryd.underlying54 info37 rfl (by omega) (.slice A pre.length c) pre.length (spcs pre) (spc y) rfl rfl (by simp) rfl (spc_one _) w5.heap.size HR.out (by omega) (by omega) (by unfold maxLen; omega) ?_; intro v1 w1 ho hg _; obtain ⟨A1, c1, rfl, -⟩ := own_slice ho; have HG := Lib.hid hg; have HO1 := Lib.hid ho; have HX1 := Lib.hid ((hg.block B m0 (fun e => by cases A with | none => cases e | some ad => have := hA ad rfl; rw [this.1] at e; have := Option.some.inj e; omega)).trans HBX.out); obtain ⟨z0, f0, k0⟩ := cells1 HX1.out; clear hg ho)
    exact ⟨keeps_from HBX.out HR.out HG.out, keeps_p (by omega) hqs HR.out HG.out, out_put HS.out (by omega) HBX.out HR.out HG.out HO1.out⟩
  case done =>
    rintro D W hD hS hK
    obtain ⟨v, hbox, hrow⟩ := hS.own
    obtain ⟨u0, g0, m0⟩ := cells1 hbox
    have HS := Lib.hid hS
    have HBX := Lib.hid hbox
    have HR := Lib.hid hrow
    have HK := Lib.hid hK
    clear hS hbox hrow hseq hK
    go_wp2
    have hf := HS.out.putObj (.deferred none) HK.out rfl (by omega)
    have hle := HLE.out
    have hbb := HBB.out
    refine ⟨by simp, .inl ⟨_, _, rfl, run_takeDeferred HK.out, ?_⟩⟩
    refine ⟨_, results_tmp2 rfl _ _ _, v, rfl, own_base (ownsRow_putObj HR.out (.deferred none) HK.out rfl) (by omega), HB3.out.trans (hf.below.mono (by omega))⟩
theorem Cut_bad (s : Sp) (w : World) (hs : spanB s = false) : Calls Tryd.prog 38 #[spv s] w fun e w' => e = .returned (.tuple #[.slice none 0 0, .int .i64 1]) ∧ Below w.heap.size w w' := by
  have HI := Lib.hid (fun W => isSpan_b s W)
  rw [hs] at HI
  clear hs
  obtain ⟨lo, hi⟩ := s
  unfold spv at *
  simp only at *
  go_enter Tryd.func38, Tryd.ntmps38
  go_wp2_with (first | (go_at_call 71; refine (HI.out _).mono ?_; rintro e w1 ⟨rfl, hb⟩; have HB1 := Lib.hid (below_trans (bel : Below w.heap.size w (w.alloc _)) hb); clear hb HI))
  go_ret2
  exact ⟨rfl, HB1.out⟩
set_option maxRecDepth 1000000 in
set_option maxHeartbeats 1000000 in
theorem Cut_long (s : Sp) (w : World) (hs : spanB s = true) (hsh : 60 < (monI s.hi : Int) - (monI s.lo : Int) + 1) :
    Calls Tryd.prog 38 #[spv s] w fun e w' => e = .returned (.tuple #[.slice none 0 0, .int .i64 2]) ∧ Below w.heap.size w w' := by
  have hsb : 0 ≤ s.lo ∧ s.lo ≤ s.hi ∧ s.hi ≤ 60000 := by simpa [spanB] using hs
  have HI := Lib.hid (fun W => isSpan_b s W)
  rw [hs] at HI
  have HM1 := Lib.hid (fun W => month_any s.lo W hsb.1 (by omega))
  have HM2 := Lib.hid (fun W => month_any s.hi W (by omega) hsb.2.2)
  have hb1 := mon_le s.lo
  have hb2 := mon_le s.hi
  obtain ⟨m1, hm1⟩ : ∃ m1, monI s.lo = m1 := ⟨_, rfl⟩
  obtain ⟨m2, hm2⟩ : ∃ m2, monI s.hi = m2 := ⟨_, rfl⟩
  rw [hm1] at HM1 hb1 hsh
  rw [hm2] at HM2 hb2 hsh
  clear hs hm1 hm2 hsb
  obtain ⟨lo, hi⟩ := s
  unfold spv at *
  simp only at *
  have t60 : decide ((60 : Int) < (m2 : Int) - (m1 : Int) + 1) = true := decide_eq_true (by omega)
  have hw1 : IntKind.i64.wrap ((m2 : Int) - (m1 : Int)) = (m2 : Int) - (m1 : Int) := by rw [IntKind.wrap_i64]; omega
  have hw2 : IntKind.i64.wrap ((m2 : Int) - (m1 : Int) + 1) = (m2 : Int) - (m1 : Int) + 1 := by rw [IntKind.wrap_i64]; omega
  go_enter Tryd.func38, Tryd.ntmps38
  go_upto_region 3 with (first | (go_at_call 71; refine (HI.out _).mono ?_; rintro e w1 ⟨rfl, hb⟩; have HB1 := Lib.hid (below_trans (bel : Below w.heap.size w (w.alloc _)) hb); have HX1 := Lib.hid (lnew hb); clear hb HI))
  obtain ⟨c0, c1, _, _, lc⟩ := cells2 HX1.out
  have HB1d := Lib.hid (HB1.out.drew)
  have MK := Lib.hid True.intro
  go_region_held3 (fun w' => w'.cell? ⟨w.heap.size, 0, none⟩ = some (.int .i64 lo) ∧ w'.cell? ⟨w.heap.size, 1, none⟩ = some (.int .i64 hi)) (first | exact ⟨c0, c1⟩ | exact ⟨d0, d1⟩ | exact ⟨k0, k1⟩) (first | (go_at_call 66; refine (HM2.out _).mono ?_; rintro e w2 ⟨rfl, hb⟩; have d0 := (hb.cell lc).trans c0; have d1 := (hb.cell lc).trans c1; have ld := Nat.lt_of_lt_of_le lc hb.size; have HB2 := Lib.hid (below_trans HB1d.out hb); clear hb HM2) | (go_at_call 66; refine (HM1.out _).mono ?_; rintro e w3 ⟨rfl, hb⟩; have k0 := (hb.cell ld).trans d0; have k1 := (hb.cell ld).trans d1; have HB3 := Lib.hid (below_trans HB2.out hb); clear hb HM1))
  all_goals
    go_wp2
    go_ret2
    exact ⟨rfl, HB3.out⟩
end Go.Proofs.YteoembjghmgbhaaDoor
