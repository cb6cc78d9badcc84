/- The flow walks: Without. -/
import Derived.Test.YtmhiiomejopaoaaV2
namespace Go.Proofs.Ytmhiiomejopaoaa
set_option linter.all false
open Go.RowKit

def withoutR (n : Int) (l : List Lk) (S : List Int) : (Int × List Lk) × Int := if checkL n l ≠ 0 then ((0, []), checkL n l) else ((n, keptL l (notIn S)), 0)
/-- The three boxes of Without. -/
structure BX (w wr : World) (n : Int) (A : Option Addr) (m c : Nat) (B : Option Addr) (k d : Nat) : Prop where
  b0 : wr.heap[w.heap.size]? = some (.cells #[.int .i64 n, .slice A m c] 24)
  b1 : wr.heap[w.heap.size + 1]? = some (.cells #[.slice B k d] 25)
  b2 : wr.heap[w.heap.size + 1 + 1]? = some (.cells #[.int .i64 0, .slice none 0 0] 24)
  below : Below w.heap.size w wr
  hB : w.heap.size + 3 ≤ wr.heap.size
theorem BX.start (w : World) (n : Int) (A : Option Addr) (m c : Nat) (B : Option Addr) (k d : Nat) : BX w (((w.alloc (.cells #[.int .i64 n, .slice A m c] 24)).alloc (.cells #[.slice B k d] 25)).alloc (.cells #[.int .i64 0, .slice none 0 0] 24)) n A m c B k d := by
  refine ⟨?_, ?_, ?_, bel, by simp⟩
  · rw [Below.heap_alloc _ _ _ (by simp; omega), Below.heap_alloc _ _ _ (by simp)]; exact heap_alloc_new _ _
  · rw [Below.heap_alloc _ _ _ (by simp)]
    have := heap_alloc_new (w.alloc (.cells #[.int .i64 n, .slice A m c] 24)) (.cells #[.slice B k d] 25)
    simpa using this
  · have := heap_alloc_new ((w.alloc (.cells #[.int .i64 n, .slice A m c] 24)).alloc (.cells #[.slice B k d] 25)) (.cells #[.int .i64 0, .slice none 0 0] 24)
    simpa using this
theorem BX.calls {w wr w' : World} {n : Int} {A : Option Addr} {m c : Nat} {B : Option Addr} {k d : Nat} (h : BX w wr n A m c B k d) (hb : Below wr.heap.size wr w') : BX w w' n A m c B k d := by
  have h1 := h.hB
  exact ⟨(hb.block _ (by omega)).trans h.b0, (hb.block _ (by omega)).trans h.b1, (hb.block _ (by omega)).trans h.b2, below_trans h.below hb, Nat.le_trans h.hB hb.size⟩
theorem BX.q0 {w wr : World} {n : Int} {A : Option Addr} {m c : Nat} {B : Option Addr} {k d : Nat} (h : BX w wr n A m c B k d) : wr.cell? ⟨w.heap.size, 0, none⟩ = some (.int .i64 n) := by have := cell_of_heap h.b0 0; simpa using this
theorem BX.q1 {w wr : World} {n : Int} {A : Option Addr} {m c : Nat} {B : Option Addr} {k d : Nat} (h : BX w wr n A m c B k d) : wr.cell? ⟨w.heap.size, 1, none⟩ = some (.slice A m c) := by have := cell_of_heap h.b0 1; simpa using this
theorem BX.qb {w wr : World} {n : Int} {A : Option Addr} {m c : Nat} {B : Option Addr} {k d : Nat} (h : BX w wr n A m c B k d) : wr.cell? ⟨w.heap.size + 1, 0, none⟩ = some (.slice B k d) := by have := cell_of_heap h.b1 0; simpa using this
theorem BX.z0 {w wr : World} {n : Int} {A : Option Addr} {m c : Nat} {B : Option Addr} {k d : Nat} (h : BX w wr n A m c B k d) : wr.cell? ⟨w.heap.size + 1 + 1, 0, none⟩ = some (.int .i64 0) := by have := cell_of_heap h.b2 0; simpa using this
theorem BX.z1 {w wr : World} {n : Int} {A : Option Addr} {m c : Nat} {B : Option Addr} {k d : Nat} (h : BX w wr n A m c B k d) : wr.cell? ⟨w.heap.size + 1 + 1, 1, none⟩ = some (.slice none 0 0) := by have := cell_of_heap h.b2 1; simpa using this
set_option maxRecDepth 100000 in
set_option maxHeartbeats 4000000 in
theorem without_any (n : Int) (A : Option Addr) (c : Nat) (l : List Lk) (B : Option Addr) (d : Nat) (S : List Int) (w : World) (hl : l.length ≤ 400000) (hS : S.length ≤ 1000000) (h : LksAt w A l) (h' : IntsAt w B S) :
    Calls Try.prog 52 #[.agg #[.int .i64 n, .slice A l.length c], .slice B S.length d] w fun e w' => ∃ v, e = .returned (.tuple #[.agg #[.int .i64 (withoutR n l S).1.1, v], .int .i64 (withoutR n l S).2]) ∧ LksV w' v (withoutR n l S).1.2 ∧ Below w.heap.size w w' := by
  have HA := Lib.hid h
  have HS := Lib.hid h'
  have HX0 := Lib.hid (BX.start w n A l.length c B S.length d)
  have HCK := Lib.hid (fun W h1 => check_any n A c l W (by omega) h1)
  have HSL := Lib.hid hS
  have HLL := Lib.hid hl
  clear h h' hS hl
  by_cases hc : checkL n l = 0
  · have hc' : (checkL n l != 0) = false := by simpa using hc
    have HR := Lib.hid (show withoutR n l S = ((n, keptL l (notIn S)), 0) by unfold withoutR; rw [if_neg (by simpa using hc)])
    clear hc
    go_enter Try.func52, Try.ntmps52
    go_upto_region 4 with (go_at_call 53; refine (HCK.out _ (HA.out.below HX0.out.below)).mono ?_; rintro e w1 ⟨rfl, hb⟩; have HX1 := Lib.hid (HX0.out.calls hb); clear hb)
    have q0 := HX1.out.q0
    have q1 := HX1.out.q1
    have z0 := HX1.out.z0
    have z1 := HX1.out.z1
    have zf := frozen_of_heap HX1.out.b2 0
    have zg := frozen_of_heap HX1.out.b2 1
    have lq := World.block_lt_of_cell? _ _ q0
    have lz := World.block_lt_of_cell? _ _ z0
    have HA1 := Lib.hid (HA.out.below HX1.out.below)
    have HTI := Lib.hid (show ∀ W, Below w1.heap.size w1 W → TestsIdx 90 #[.pointer (some ⟨w.heap.size + 1, 0, none⟩)] (notIn S) l.length W from fun W hW i W' _ hW' => without1_any i _ B d S W' HSL.out (cell_below hW' (cell_below hW HX1.out.qb)) (((HS.out.below HX1.out.below).below hW).below hW'))
    go_region_held3 (fun w' => w'.cell? ⟨w.heap.size, 0, none⟩ = some (.int .i64 n) ∧ w'.cell? ⟨w.heap.size, 1, none⟩ = some (.slice A l.length c)) (constructor <;> (repeat' (first | exact q0 | exact q1 | refine cell_alloc _ ?_ | refine cell_below hb2 ?_ | (refine cell_other ?_ (by simp; omega))))) ((go_at_call 89; refine (kept_any 90 _ (notIn S) A c l _ HLL.out ?hh cf90 ?hi).mono ?_; (case hh => first | exact HA1.out | exact HA1.out.drew); (case hi => first | exact HTI.out _ (Below.refl _ _) | exact HTI.out _ (by first | exact bel | exact below_undrew bel)); rintro e w2 ⟨v, rfl, ho, hb2⟩; obtain ⟨A2, c2, rfl, hv2, hvn, hv3⟩ := own_lksV ho; have HX2 := Lib.hid (HX1.out.calls (below_undrew hb2)); have z0 := HX2.out.z0; have z1 := HX2.out.z1; have zf := frozen_of_heap HX2.out.b2 0; have zg := frozen_of_heap HX2.out.b2 1; have lz := World.block_lt_of_cell? _ _ z0))
    all_goals
      have hs2 := set_two (v1 := .int .i64 n) (v2 := .slice A2 (keptL l (notIn S)).length c2) z0 z1
      obtain ⟨y0, y1, yg⟩ := hs2
      have HB6 := Lib.hid (below_of_grown HX2.out.below yg HX2.out.below.size (by omega))
      have HL6 := Lib.hid (hv2.grown yg (fun ad e h0 e2 => by
        have h1 : w1.heap.size ≤ ad.block := hv3 ad e
        have h2 := HX1.out.hB
        have h3 := Option.some.inj e2
        omega))
      have HVN := Lib.hid hvn
      clear hv2 hvn hv3 hb2 yg z0 z1 zf zg
      go_wp2_with fail
      refine bodyPost_ret (v := .tuple #[.agg #[.int .i64 n, .slice A2 (keptL l (notIn S)).length c2], .int .i64 0]) ?_ rfl ?_
      · simp [results, Try.results52, go_sem, y0, y1]
      · rw [HR.out]
        exact ⟨_, rfl, ⟨A2, c2, rfl, HL6.out, HVN.out⟩, HB6.out⟩
  · have hc' : (checkL n l != 0) = true := by simpa using hc
    have HR := Lib.hid (show withoutR n l S = ((0, []), checkL n l) by unfold withoutR; rw [if_pos hc])
    clear hc
    go_enter Try.func52, Try.ntmps52
    go_wp2_with (go_at_call 53; refine (HCK.out _ (HA.out.below HX0.out.below)).mono ?_; rintro e w1 ⟨rfl, hb⟩; have HX1 := Lib.hid (HX0.out.calls hb); have z0 := HX1.out.z0; have z1 := HX1.out.z1; have zf := frozen_of_heap HX1.out.b2 0; have zg := frozen_of_heap HX1.out.b2 1; have lz := World.block_lt_of_cell? _ _ z0; clear hb)
    have hs2 := set_two (v1 := .int .i64 0) (v2 := .slice none 0 0) z0 z1
    obtain ⟨y0, y1, yg⟩ := hs2
    have HB2 := Lib.hid (below_of_grown HX1.out.below yg HX1.out.below.size (by omega))
    refine bodyPost_ret (v := .tuple #[.agg #[.int .i64 0, .slice none 0 0], .int .i64 (checkL n l)]) ?_ rfl ?_
    · simp [results, Try.results52, go_sem, y0, y1]
    · exact ⟨_, by rw [HR.out], by rw [HR.out]; exact LksV.nil _, HB2.out⟩
end Go.Proofs.Ytmhiiomejopaoaa
