/- The flow walks: the reference's Without; Without. -/
import Derived.Test.YtmhiiomejopaoaaU2
import Derived.Test.YtmhiiomejopaoaaQ2
import Derived.Test.YtmhiiomejopaoaaM7
namespace Go.Proofs.Ytmhiiomejopaoaa
set_option linter.all false
open Go.RowKit
set_option maxRecDepth 100000

theorem keptN_notIn (S : List Int) (l : List Lk) (k : Nat) : keptN l (notIn S) (k + 1) = if S.contains (k : Int) then keptN l (notIn S) k else keptN l (notIn S) k ++ [gl l k] := by
  rw [keptN, show notIn S k = !S.contains (k : Int) from rfl]
  cases S.contains (k : Int) <;> rfl
theorem old_heap0 (w : World) (o : Obj) {p : Nat} {x : Obj} (hp : p < w.heap.size) (h : w.heap[p]? = some x) : (w.alloc o).heap[p]? = some x := by rw [Below.heap_alloc _ _ _ hp]; exact h
structure RW (w wr : World) (n : Int) (A : Option Addr) (m c : Nat) (v : Value) (q : List Lk) : Prop where
  b0 : wr.heap[w.heap.size]? = some (.cells #[.int .i64 n, .slice A m c] 24)
  b1 : wr.heap[w.heap.size + 1]? = some (.cells #[.int .i64 0, .slice none 0 0] 24)
  b2 : wr.heap[w.heap.size + 1 + 1]? = some (.cells #[.int .i64 n, v] 24)
  row : wr.ownsRow (w.heap.size + 3) 39 3 v q.length (lkcs q)
  below : Below w.heap.size w wr
  hB : w.heap.size + 3 ≤ wr.heap.size
theorem RW.calls {w wr w' : World} {n : Int} {A : Option Addr} {m c : Nat} {v : Value} {q : List Lk} (h : RW w wr n A m c v q) (hb : Below wr.heap.size wr w') : RW w w' n A m c v q := by
  have h1 := h.hB
  refine ⟨(hb.block _ (by omega)).trans h.b0, (hb.block _ (by omega)).trans h.b1, (hb.block _ (by omega)).trans h.b2, ?_, below_trans h.below hb, Nat.le_trans h.hB hb.size⟩
  exact h.row.kept (row := none) ⟨hb.os, hb.tape, hb.output, hb.size, fun k hk _ => hb.block k hk⟩ (by cases v.ownBlock <;> simp)
theorem RW.put {w wr w1 : World} {n : Int} {A : Option Addr} {m c g cap : Nat} {v : Value} {q : List Lk} {x : Lk} (h : RW w wr n A m c v q) (hg : wr.grownBy w1 v.ownBlock) (ho : w1.ownsRow (w.heap.size + 3) 39 3 (.slice (some ⟨g, 0, none⟩) (q.length + 1) cap) (q.length + 1) (lkcs q ++ lkc x)) (hb : w1.heap[w.heap.size + 1 + 1]? = some (.cells #[.int .i64 n, v] 24)) :
    RW w (w1.setCell ⟨w.heap.size + 1 + 1, 1, none⟩ (.slice (some ⟨g, 0, none⟩) (q.length + 1) cap)) n A m c (.slice (some ⟨g, 0, none⟩) (q.length + 1) cap) (q ++ [x]) := by
  have h1 := h.hB
  have hne : ∀ k, k < w.heap.size + 3 → v.ownBlock ≠ some k := fun k hk e => by have := (h.row.lt k e).1; omega
  have hg2 : w.heap.size + 3 ≤ g := by
    have := (ho.lt g rfl).1
    exact this
  refine ⟨?_, ?_, ?_, ?_, ?_, ?_⟩
  · rw [Below.heap_setCell _ _ _ _ (by show _ ≠ w.heap.size + 1 + 1; omega)]
    exact grown_heap hg h.b0 (by omega) (hne _ (by omega))
  · rw [Below.heap_setCell _ _ _ _ (by show _ ≠ w.heap.size + 1 + 1; omega)]
    exact grown_heap hg h.b1 (by omega) (hne _ (by omega))
  · simp [World.setCell, Array.getElem?_modify, hb]
  · have := ho.kept (grownBy_setCell' w1 (w.heap.size + 1 + 1) (.slice (some ⟨g, 0, none⟩) (q.length + 1) cap)) (.inr (by simp [Value.ownBlock]; omega))
    have e : (w1.setCell ⟨w.heap.size + 1 + 1, 1, none⟩ (.slice (some ⟨g, 0, none⟩) (q.length + 1) cap)).ownsRow (w.heap.size + 3) 39 3 (.slice (some ⟨g, 0, none⟩) (q.length + 1) cap) (q.length + 1) (lkcs q ++ lkc x) := by
      refine ho.kept (row := some (w.heap.size + 1 + 1)) (grown_set (grown_refl w1 _) _ _ (.inl rfl)) (.inr ?_)
      simp [Value.ownBlock]; omega
    rw [List.length_append]
    simpa [lkcs] using e
  · exact Below.setCell (h.below.grown hg (by omega) (fun k e => by have := (h.row.lt k e).1; omega)) (by simp; omega) _
  · have := hg.size
    simp [World.setCell]
    omega
set_option maxRecDepth 100000 in
set_option maxHeartbeats 4000000 in
theorem rwithout_any (n : Int) (A : Option Addr) (c : Nat) (l : List Lk) (B : Option Addr) (d : Nat) (S : List Int) (w : World) (hl : l.length ≤ 1000000) (hS : S.length ≤ 1000000) (h : LksAt w A l) (h' : IntsAt w B S) :
    Calls Try.prog 56 #[.agg #[.int .i64 n, .slice A l.length c], .slice B S.length d] w fun e w' => ∃ v, e = .returned (.agg #[.int .i64 n, v]) ∧ LksV w' v (keptL l (notIn S)) ∧ Below w.heap.size w w' := by
  have HA := Lib.hid h
  have HS := Lib.hid h'
  have HHH := Lib.hid (fun v W h1 => has_any B d S v W (by omega) h1)
  clear h h' hS
  obtain ⟨i0, hi0, hzz⟩ := Option.map_eq_some_iff.1 info39
  simp only [Prod.mk.injEq] at hzz
  have HI := Lib.hid hi0
  have Hz0 := Lib.hid hzz.1
  have Hz1 := Lib.hid hzz.2.1
  have Hz2 := Lib.hid hzz.2.2
  clear hi0 hzz
  go_enter Try.func56, Try.ntmps56
  go_upto_region 3 with fail
  go_loopw [6, 7] (fun i _ wr => ∃ (k : Nat) (v : Value), k ≤ l.length ∧ i = .int .i64 k ∧ Hid (RW w wr n A l.length c v (keptN l (notIn S) k))) (fun i _ _ => l.length - (intOf i).toNat)
  case atStart =>
    refine ⟨0, .slice none 0 0, by omega, rfl, Lib.hid ⟨?_, ?_, ?_, World.ownsRow_nil _ _ _ _, bel, by simp⟩⟩
    · rw [Below.heap_alloc _ _ _ (by simp; omega), Below.heap_alloc _ _ _ (by simp)]; exact heap_alloc_new _ _
    · rw [Below.heap_alloc _ _ _ (by simp)]
      have := heap_alloc_new (w.alloc (.cells #[.int .i64 n, .slice A l.length c] 24)) (.cells #[.int .i64 0, .slice none 0 0] 24)
      simpa using this
    · have := heap_alloc_new ((w.alloc (.cells #[.int .i64 n, .slice A l.length c] 24)).alloc (.cells #[.int .i64 0, .slice none 0 0] 24)) (.cells #[.int .i64 n, .slice none 0 0] 24)
      simpa using this
  case round =>
    obtain ⟨k, v, hk, rfl, HR⟩ := hrel
    have c0 := cell_of_heap HR.out.b0 0
    have c1 := cell_of_heap HR.out.b0 1
    simp at c0 c1
    have lw := World.block_lt_of_cell? _ _ c0
    by_cases hlt : k < l.length
    · cases hin : S.contains (k : Int)
      · have HK := Lib.hid (show keptN l (notIn S) (k + 1) = keptN l (notIn S) k ++ [gl l k] by rw [keptN_notIn, hin]; rfl)
        have HHK := Lib.hid (HHH.out k)
        rw [hin] at HHK
        go_upto_region 7 with (go_at_call 57; refine (HHK.out _ (HS.out.below HR.out.below)).mono ?_; rintro e w4 ⟨rfl, hb⟩; have HR4 := Lib.hid (HR.out.calls hb); have c0 := cell_below hb c0; have c1 := cell_below hb c1; have lw := World.block_lt_of_cell? _ _ c0; clear hb)
        obtain ⟨b1, o1, rfl, g1, g2, g3⟩ := (HA.out.below HR4.out.below).nat k hlt
        have lb := World.block_lt_of_cell? _ _ g1
        have d1 := cell_of_heap HR4.out.b2 1
        simp at d1
        have ld := World.block_lt_of_cell? _ _ d1
        generalize gl l k = x at HK g1 g2 g3
        have HKL := Lib.hid (keptN_len l (notIn S) k)
        generalize keptN l (notIn S) k = q at HR HR4 HK HKL
        have hql : q.length ≤ 1000000 := by have := HKL.out; omega
        have hvb : v.ownBlock ≠ some (w.heap.size + 1 + 1) := fun e => by have := (HR4.out.row.lt _ e).1; omega
        have HVB := Lib.hid hvb
        have HNE1 := Lib.hid (show w.heap.size < w.heap.size + 3 ∧ w.heap.size + 1 + 1 < w4.heap.size from ⟨by omega, by have := HR4.out.hB; omega⟩)
        clear hin HHK hvb
        go_region_law ((refine step_append_lies _ rfl (.tmp 24) (.tmp 30) 22 rfl (w.heap.size + 3) 39 i0 (.agg #[.int .i64 0, .int .i64 0, .int .i64 0]) 3 24 Try.underlying22 HI.out Hz0.out Hz1.out Hz2.out rfl (by omega) v q.length (lkcs q) (by simp [Act.eval, Act.put]) (HR4.out.row.alloc _) ⟨w4.heap.size, 0, none⟩ 1 1 (lkc x) (by simp [Act.eval, Act.put]) rfl (news_new _ (lkc x) 39 _ (by simp)) (lk_one x) (by omega) (by unfold maxLen; omega) (by omega) (by have := HR4.out.hB; simp; omega) (w4.heap.size + 1) (by simp) ?_; intro g cap w5 hown5 hgrow5 hat5 hlt5; have hcp := grown_heap hgrow5 (old_heap0 w4 _ HNE1.out.2 HR4.out.b2) (by have := HNE1.out.2; simp; omega) HVB.out; have e0 := cell_of_heap hcp 1; have f0 := frozen_of_heap hcp 1; have le0 := (Array.getElem?_eq_some_iff.1 hcp).1))
        all_goals
          have HR5 := Lib.hid (RW.put HR4.out (grown_news hgrow5) hown5 hcp)
          clear hgrow5 hown5 hat5 hlt5 hcp e0 f0 le0
          go_wp2_with fail
          go_roundw
          case rel => exact ⟨k + 1, _, by omega, by go_num, Lib.hid (by rw [HK.out]; exact HR5.out)⟩
          case measure => simp [intOf]; omega
      · have HK := Lib.hid (show keptN l (notIn S) (k + 1) = keptN l (notIn S) k by rw [keptN_notIn, hin]; rfl)
        have HHK := Lib.hid (HHH.out k)
        rw [hin] at HHK
        go_wp2_with (go_at_call 57; refine (HHK.out _ (HS.out.below HR.out.below)).mono ?_; rintro e w4 ⟨rfl, hb⟩; have HR4 := Lib.hid (HR.out.calls hb); have c0 := cell_below hb c0; have c1 := cell_below hb c1; have lw := World.block_lt_of_cell? _ _ c0; clear hb)
        go_roundw
        case rel => exact ⟨k + 1, v, by omega, by go_num, Lib.hid (by rw [HK.out]; exact HR4.out)⟩
        case measure => simp [intOf]; omega
    · obtain rfl : k = l.length := by omega
      have HKP := Lib.hid (show keptL l (notIn S) = keptN l (notIn S) l.length from rfl)
      generalize keptN l (notIn S) l.length = q at HR HKP
      obtain ⟨A2, c2, rfl, hv2, hvn⟩ := own_lksV HR.out.row
      have d0 := cell_of_heap HR.out.b2 0
      have d1 := cell_of_heap HR.out.b2 1
      have r0 := cell_of_heap HR.out.b1 0
      have r1 := cell_of_heap HR.out.b1 1
      have f0 := frozen_of_heap HR.out.b1 0
      have f1 := frozen_of_heap HR.out.b1 1
      simp at d0 d1 r0 r1
      have ld := World.block_lt_of_cell? _ _ d0
      have lr := World.block_lt_of_cell? _ _ r0
      have HV2 := Lib.hid hv2
      have HVN := Lib.hid hvn
      clear hv2 hvn
      go_wp2
      have hs2 := set_two (v1 := .int .i64 n) (v2 := .slice A2 q.length c2) r0 r1
      obtain ⟨y0, y1, yg⟩ := hs2
      have HB6 := Lib.hid (below_of_grown HR.out.below yg HR.out.below.size (by omega))
      have HL6 := Lib.hid (HV2.out.grown yg (fun ad e h0 e2 => by
        have h1 := HR.out.row.lt ad.block (by rw [e]; simp [Value.ownBlock])
        have h2 := Option.some.inj e2
        omega))
      refine bodyPost_ret (v := .agg #[.int .i64 n, .slice A2 q.length c2]) ?_ rfl ?_
      · simp [results, Try.results56, go_sem, y0, y1]
      · exact ⟨_, rfl, by rw [HKP.out]; exact ⟨A2, c2, rfl, HL6.out, HVN.out.1⟩, HB6.out⟩

def withoutR (n : Int) (l : List Lk) (S : List Int) : (Int × List Lk) × Int := if checkL n l ≠ 0 then ((0, []), checkL n l) else ((n, keptL l (notIn S)), 0)
/-- The three boxes of Without. -/
structure BX (w wr : World) (n : Int) (A : Option Addr) (m c : Nat) (B : Option Addr) (k d : Nat) : Prop where
  b0 : wr.heap[w.heap.size]? = some (.cells #[.int .i64 n, .slice A m c] 24)
  b1 : wr.heap[w.heap.size + 1]? = some (.cells #[.slice B k d] 25)
  b2 : wr.heap[w.heap.size + 1 + 1]? = some (.cells #[.int .i64 0, .slice none 0 0] 24)
  below : Below w.heap.size w wr
  hB : w.heap.size + 3 ≤ wr.heap.size
theorem BX.start (w : World) (n : Int) (A : Option Addr) (m c : Nat) (B : Option Addr) (k d : Nat) : BX w (((w.alloc (.cells #[.int .i64 n, .slice A m c] 24)).alloc (.cells #[.slice B k d] 25)).alloc (.cells #[.int .i64 0, .slice none 0 0] 24)) n A m c B k d := by
  refine ⟨?_, ?_, ?_, bel, by simp⟩
  · rw [Below.heap_alloc _ _ _ (by simp; omega), Below.heap_alloc _ _ _ (by simp)]; exact heap_alloc_new _ _
  · rw [Below.heap_alloc _ _ _ (by simp)]
    have := heap_alloc_new (w.alloc (.cells #[.int .i64 n, .slice A m c] 24)) (.cells #[.slice B k d] 25)
    simpa using this
  · have := heap_alloc_new ((w.alloc (.cells #[.int .i64 n, .slice A m c] 24)).alloc (.cells #[.slice B k d] 25)) (.cells #[.int .i64 0, .slice none 0 0] 24)
    simpa using this
theorem BX.calls {w wr w' : World} {n : Int} {A : Option Addr} {m c : Nat} {B : Option Addr} {k d : Nat} (h : BX w wr n A m c B k d) (hb : Below wr.heap.size wr w') : BX w w' n A m c B k d := by
  have h1 := h.hB
  exact ⟨(hb.block _ (by omega)).trans h.b0, (hb.block _ (by omega)).trans h.b1, (hb.block _ (by omega)).trans h.b2, below_trans h.below hb, Nat.le_trans h.hB hb.size⟩
theorem BX.q0 {w wr : World} {n : Int} {A : Option Addr} {m c : Nat} {B : Option Addr} {k d : Nat} (h : BX w wr n A m c B k d) : wr.cell? ⟨w.heap.size, 0, none⟩ = some (.int .i64 n) := by have := cell_of_heap h.b0 0; simpa using this
theorem BX.q1 {w wr : World} {n : Int} {A : Option Addr} {m c : Nat} {B : Option Addr} {k d : Nat} (h : BX w wr n A m c B k d) : wr.cell? ⟨w.heap.size, 1, none⟩ = some (.slice A m c) := by have := cell_of_heap h.b0 1; simpa using this
theorem BX.qb {w wr : World} {n : Int} {A : Option Addr} {m c : Nat} {B : Option Addr} {k d : Nat} (h : BX w wr n A m c B k d) : wr.cell? ⟨w.heap.size + 1, 0, none⟩ = some (.slice B k d) := by have := cell_of_heap h.b1 0; simpa using this
theorem BX.z0 {w wr : World} {n : Int} {A : Option Addr} {m c : Nat} {B : Option Addr} {k d : Nat} (h : BX w wr n A m c B k d) : wr.cell? ⟨w.heap.size + 1 + 1, 0, none⟩ = some (.int .i64 0) := by have := cell_of_heap h.b2 0; simpa using this
theorem BX.z1 {w wr : World} {n : Int} {A : Option Addr} {m c : Nat} {B : Option Addr} {k d : Nat} (h : BX w wr n A m c B k d) : wr.cell? ⟨w.heap.size + 1 + 1, 1, none⟩ = some (.slice none 0 0) := by have := cell_of_heap h.b2 1; simpa using this
set_option maxRecDepth 100000 in
set_option maxHeartbeats 4000000 in
theorem without_any (n : Int) (A : Option Addr) (c : Nat) (l : List Lk) (B : Option Addr) (d : Nat) (S : List Int) (w : World) (hl : l.length ≤ 400000) (hS : S.length ≤ 1000000) (h : LksAt w A l) (h' : IntsAt w B S) :
    Calls Try.prog 52 #[.agg #[.int .i64 n, .slice A l.length c], .slice B S.length d] w fun e w' => ∃ v, e = .returned (.tuple #[.agg #[.int .i64 (withoutR n l S).1.1, v], .int .i64 (withoutR n l S).2]) ∧ LksV w' v (withoutR n l S).1.2 ∧ Below w.heap.size w w' := by
  have HA := Lib.hid h
  have HS := Lib.hid h'
  have HX0 := Lib.hid (BX.start w n A l.length c B S.length d)
  have HCK := Lib.hid (fun W h1 => check_any n A c l W (by omega) h1)
  have HSL := Lib.hid hS
  have HLL := Lib.hid hl
  clear h h' hS hl
  by_cases hc : checkL n l = 0
  · have hc' : (checkL n l != 0) = false := by simpa using hc
    have HR := Lib.hid (show withoutR n l S = ((n, keptL l (notIn S)), 0) by unfold withoutR; rw [if_neg (by simpa using hc)])
    clear hc
    go_enter Try.func52, Try.ntmps52
    go_upto_region 4 with (go_at_call 53; refine (HCK.out _ (HA.out.below HX0.out.below)).mono ?_; rintro e w1 ⟨rfl, hb⟩; have HX1 := Lib.hid (HX0.out.calls hb); clear hb)
    have q0 := HX1.out.q0
    have q1 := HX1.out.q1
    have z0 := HX1.out.z0
    have z1 := HX1.out.z1
    have zf := frozen_of_heap HX1.out.b2 0
    have zg := frozen_of_heap HX1.out.b2 1
    have lq := World.block_lt_of_cell? _ _ q0
    have lz := World.block_lt_of_cell? _ _ z0
    have HA1 := Lib.hid (HA.out.below HX1.out.below)
    have HTI := Lib.hid (show ∀ W, Below w1.heap.size w1 W → TestsIdx 90 #[.pointer (some ⟨w.heap.size + 1, 0, none⟩)] (notIn S) l.length W from fun W hW i W' _ hW' => without1_any i _ B d S W' HSL.out (cell_below hW' (cell_below hW HX1.out.qb)) (((HS.out.below HX1.out.below).below hW).below hW'))
    go_region_held3 (fun w' => w'.cell? ⟨w.heap.size, 0, none⟩ = some (.int .i64 n) ∧ w'.cell? ⟨w.heap.size, 1, none⟩ = some (.slice A l.length c)) (constructor <;> (repeat' (first | exact q0 | exact q1 | refine cell_alloc _ ?_ | refine cell_below hb2 ?_ | (refine cell_other ?_ (by simp; omega))))) ((go_at_call 89; refine (kept_any 90 _ (notIn S) A c l _ HLL.out ?hh cf90 ?hi).mono ?_; (case hh => first | exact HA1.out | exact HA1.out.drew); (case hi => first | exact HTI.out _ (Below.refl _ _) | exact HTI.out _ (by first | exact bel | exact below_undrew bel)); rintro e w2 ⟨v, rfl, ho, hb2⟩; obtain ⟨A2, c2, rfl, hv2, hvn, hv3⟩ := own_lksV ho; have HX2 := Lib.hid (HX1.out.calls (below_undrew hb2)); have z0 := HX2.out.z0; have z1 := HX2.out.z1; have zf := frozen_of_heap HX2.out.b2 0; have zg := frozen_of_heap HX2.out.b2 1; have lz := World.block_lt_of_cell? _ _ z0))
    all_goals
      have hs2 := set_two (v1 := .int .i64 n) (v2 := .slice A2 (keptL l (notIn S)).length c2) z0 z1
      obtain ⟨y0, y1, yg⟩ := hs2
      have HB6 := Lib.hid (below_of_grown HX2.out.below yg HX2.out.below.size (by omega))
      have HL6 := Lib.hid (hv2.grown yg (fun ad e h0 e2 => by
        have h1 : w1.heap.size ≤ ad.block := hv3 ad e
        have h2 := HX1.out.hB
        have h3 := Option.some.inj e2
        omega))
      have HVN := Lib.hid hvn
      clear hv2 hvn hv3 hb2 yg z0 z1 zf zg
      go_wp2_with fail
      refine bodyPost_ret (v := .tuple #[.agg #[.int .i64 n, .slice A2 (keptL l (notIn S)).length c2], .int .i64 0]) ?_ rfl ?_
      · simp [results, Try.results52, go_sem, y0, y1]
      · rw [HR.out]
        exact ⟨_, rfl, ⟨A2, c2, rfl, HL6.out, HVN.out⟩, HB6.out⟩
  · have hc' : (checkL n l != 0) = true := by simpa using hc
    have HR := Lib.hid (show withoutR n l S = ((0, []), checkL n l) by unfold withoutR; rw [if_pos hc])
    clear hc
    go_enter Try.func52, Try.ntmps52
    go_wp2_with (go_at_call 53; refine (HCK.out _ (HA.out.below HX0.out.below)).mono ?_; rintro e w1 ⟨rfl, hb⟩; have HX1 := Lib.hid (HX0.out.calls hb); have z0 := HX1.out.z0; have z1 := HX1.out.z1; have zf := frozen_of_heap HX1.out.b2 0; have zg := frozen_of_heap HX1.out.b2 1; have lz := World.block_lt_of_cell? _ _ z0; clear hb)
    have hs2 := set_two (v1 := .int .i64 0) (v2 := .slice none 0 0) z0 z1
    obtain ⟨y0, y1, yg⟩ := hs2
    have HB2 := Lib.hid (below_of_grown HX1.out.below yg HX1.out.below.size (by omega))
    refine bodyPost_ret (v := .tuple #[.agg #[.int .i64 0, .slice none 0 0], .int .i64 (checkL n l)]) ?_ rfl ?_
    · simp [results, Try.results52, go_sem, y0, y1]
    · exact ⟨_, by rw [HR.out], by rw [HR.out]; exact LksV.nil _, HB2.out⟩
end Go.Proofs.Ytmhiiomejopaoaa
