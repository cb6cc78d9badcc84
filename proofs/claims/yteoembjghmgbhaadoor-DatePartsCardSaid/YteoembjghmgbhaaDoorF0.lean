/- The date walks: Meet, rest, Minus. -/
import Derived.Test.YteoembjghmgbhaaDoorC8
import Derived.Test.YteoembjghmgbhaaDoorW4
namespace Go.Proofs.YteoembjghmgbhaaDoor
set_option linter.all false
open Go.RowKit

def restStep (s : Sp) (st : Int × List Sp) (x : Sp) : Int × List Sp :=
  if x.hi < st.1 ∨ s.hi < x.lo then st else (x.hi + 1, st.2 ++ (if st.1 < x.lo then [⟨st.1, x.lo - 1⟩] else []))
def restF (s : Sp) (l : List Sp) : Int × List Sp := l.foldl (restStep s) (s.lo, [])
def restL (s : Sp) (l : List Sp) : List Sp := (restF s l).2 ++ (if (restF s l).1 ≤ s.hi then [⟨(restF s l).1, s.hi⟩] else [])
theorem restF_succ (s : Sp) (l : List Sp) (k : Nat) (h : k < l.length) : restF s (l.take (k + 1)) = restStep s (restF s (l.take k)) (gs l k) := by
  unfold restF
  rw [take_gs l k h, List.foldl_append]
  rfl
theorem restF_bd (s : Sp) (l : List Sp) (hs : 0 ≤ s.lo ∧ s.lo ≤ 60001) (hl : ∀ x ∈ l, 0 ≤ x.hi ∧ x.hi ≤ 60000) : ∀ k, k ≤ l.length → (0 ≤ (restF s (l.take k)).1 ∧ (restF s (l.take k)).1 ≤ 60001) ∧ (restF s (l.take k)).2.length ≤ k
  | 0, _ => by simp [restF]; exact hs
  | k + 1, h => by
    obtain ⟨h1, h2⟩ := restF_bd s l hs hl k (by omega)
    rw [restF_succ s l k (by omega)]
    have h3 := hl _ (gs_mem (l := l) (i := k) (by omega))
    unfold restStep
    split
    · exact ⟨h1, by omega⟩
    · refine ⟨by simp only; omega, ?_⟩
      simp only
      rw [List.length_append]
      split <;> simp <;> omega
set_option maxRecDepth 100000 in
set_option maxHeartbeats 2000000 in
theorem rest_any (s : Sp) (A : Option Addr) (c : Nat) (l : List Sp) (w : World) (hs : 0 ≤ s.lo ∧ s.lo ≤ 60000 ∧ 0 ≤ s.hi ∧ s.hi ≤ 60000) (hl : l.length ≤ 1000) (h : SpsAt w A l) (hb : ∀ x ∈ l, (0 ≤ x.hi ∧ x.hi ≤ 60000) ∧ 0 ≤ x.lo ∧ x.lo ≤ 60000) :
    Calls Tryd.prog 76 #[spv s, .slice A l.length c] w fun e w' => ∃ v, e = .returned v ∧ w'.ownsRow w.heap.size 37 2 v (restL s l).length (spcs (restL s l)) ∧ Below w.heap.size w w' := by
  have HS := Lib.hid h
  have HBD := Lib.hid (restF_bd s l ⟨hs.1, by omega⟩ (fun x hx => (hb x hx).1))
  have HE := Lib.hid (show restL s l = (restF s l).2 ++ (if (restF s l).1 ≤ s.hi then [⟨(restF s l).1, s.hi⟩] else []) from rfl)
  have HST := Lib.hid (restF_succ s l)
  have HB := Lib.hid hb
  obtain ⟨sa, sb⟩ := s
  obtain ⟨s1, s2, s3, s4⟩ := hs
  unfold spv
  simp only at *
  clear h hb
  go_enter Tryd.func76, Tryd.ntmps76
  go_upto_region 4 with fail
  obtain ⟨W, hWe⟩ : ∃ W, W = (w.alloc (Obj.cells #[.int .i64 sa, .int .i64 sb] 37)) := ⟨_, rfl⟩
  have HWB := Lib.hid (show Below w.heap.size w W by rw [hWe]; exact bel)
  have HX := Lib.hid (show W.heap[w.heap.size]? = some (.cells #[.int .i64 sa, .int .i64 sb] 37 (0, 0)) by rw [hWe]; exact heap_alloc_new w _)
  have HSW := Lib.hid (HS.out.below HWB.out)
  rw [← hWe]
  clear hWe HS
  go_loopw [5, 6, 13] (fun o lo i wr => ∃ k : Nat, k ≤ l.length ∧ i = .int .i64 k ∧ lo = .int .i64 (restF ⟨sa, sb⟩ (l.take k)).1 ∧ Hid (wr.ownsRow W.heap.size 37 2 o (restF ⟨sa, sb⟩ (l.take k)).2.length (spcs (restF ⟨sa, sb⟩ (l.take k)).2)) ∧ Hid (Below W.heap.size W wr)) (fun _ _ i _ => l.length - (intOf i).toNat)
  case atStart => exact ⟨0, by omega, rfl, rfl, Lib.hid (World.ownsRow_nil _ _ _ _), Lib.hid (Below.refl _ _)⟩
  case round =>
    obtain ⟨k, hk, rfl, rfl, HO, HBk⟩ := hrel
    obtain ⟨c0, c1, _, _, lc⟩ := cells2 (lift0 HBk.out HX.out)
    obtain ⟨hb1, hb2⟩ := HBD.out k hk
    by_cases hlt : k < l.length
    · obtain ⟨b, o, rfl, g1, g2⟩ := (HSW.out.below HBk.out).nat k hlt
      have l1 := World.block_lt_of_cell? _ _ g1
      have hST := HST.out k hlt
      have hxb := HB.out _ (gs_mem hlt)
      generalize gs l (k : Int) = x at *
      obtain ⟨xa, xb⟩ := x
      generalize restF ⟨sa, sb⟩ (l.take k) = st at *
      obtain ⟨lo, acc⟩ := st
      unfold restStep at hST
      simp only at *
      by_cases hc : xb < lo ∨ sb < xa
      · rw [if_pos hc] at hST
        have HS1 := Lib.hid hST
        clear hST
        by_cases hc1 : xb < lo
        · have t1 : decide (xb < lo) = true := decide_eq_true hc1
          clear hc
          go_wp2
          go_roundw
          case rel => exact ⟨k + 1, by omega, by go_num, by rw [HS1.out], Lib.hid (by rw [HS1.out]; exact HO.out.alloc _), Lib.hid (HBk.out.alloc HBk.out.size _)⟩
          case measure => simp [intOf]; omega
        · have t1 : decide (xb < lo) = false := decide_eq_false hc1
          have t2 : decide (sb < xa) = true := decide_eq_true (by omega)
          clear hc
          go_wp2
          go_roundw
          case rel => exact ⟨k + 1, by omega, by go_num, by rw [HS1.out], Lib.hid (by rw [HS1.out]; exact HO.out.alloc _), Lib.hid (HBk.out.alloc HBk.out.size _)⟩
          case measure => simp [intOf]; omega
      · rw [if_neg hc] at hST
        have t1 : decide (xb < lo) = false := decide_eq_false (fun h => hc (.inl h))
        have t2 : decide (sb < xa) = false := decide_eq_false (fun h => hc (.inr h))
        clear hc
        by_cases hc3 : lo < xa
        · rw [if_pos hc3] at hST
          have HS1 := Lib.hid hST
          have t3 : decide (lo < xa) = true := decide_eq_true hc3
          clear hST
          obtain ⟨A5, c5, rfl, -⟩ := own_slice HO.out
          have hA := (own_slice HO.out)
          have HOa := Lib.hid (HO.out.alloc (.cells #[.int .i64 xa, .int .i64 xb] 37))
          go_wp2_with (first | (at_builtin; refine app_one rfl _ _ 54 37 (.agg #[.int .i64 0, .int .i64 0]) 2 16 rfl Tryd.underlying54 info37 rfl (by omega) (.slice A5 acc.length c5) acc.length (spcs acc) (spc ⟨lo, xa - 1⟩) rfl rfl (by simp) rfl (spc_one _) W.heap.size HOa.out (by have := HBk.out.size; simp; omega) (by omega) (by unfold maxLen; omega) ?_; intro v1 w1 ho hg _; have HO1 := Lib.hid ho; have HB1 := Lib.hid (below_own (HBk.out.alloc HBk.out.size _) hg (by have := HBk.out.size; simp; omega) (fun b hb => by obtain ⟨A6, c6, e6, _, _, h6⟩ := hA; cases A5 with | none => cases hb | some ad => cases e6; have h7 := h6 ad rfl; rw [hb] at h7; have h8 := Option.some.inj h7.1; omega)); have X1 := Lib.hid ((hg.block wr.heap.size (by simp) (fun e => by obtain ⟨A6, c6, e6, _, _, h6⟩ := hA; cases A5 with | none => cases e | some ad => cases e6; have h7 := h6 ad rfl; rw [← e] at h7; have h8 := Option.some.inj h7.1; omega)).trans (heap_alloc_new wr _)); obtain ⟨q0, q1, _, _, _⟩ := cells2 X1.out; clear ho hg))
          go_roundw
          case rel => exact ⟨k + 1, by omega, by go_num, by rw [HS1.out], Lib.hid (by rw [HS1.out, spcs_app, List.length_append]; exact HO1.out), HB1⟩
          case measure => simp [intOf]; omega
        · rw [if_neg hc3, List.append_nil] at hST
          have HS1 := Lib.hid hST
          have t3 : decide (lo < xa) = false := decide_eq_false hc3
          clear hST
          go_wp2
          go_roundw
          case rel => exact ⟨k + 1, by omega, by go_num, by rw [HS1.out], Lib.hid (by rw [HS1.out]; exact HO.out.alloc _), Lib.hid (HBk.out.alloc HBk.out.size _)⟩
          case measure => simp [intOf]; omega
    · obtain rfl : k = l.length := by omega
      rw [List.take_length] at *
      generalize restF ⟨sa, sb⟩ l = st at *
      obtain ⟨lo, acc⟩ := st
      simp only at *
      by_cases hc : lo ≤ sb
      · have t1 : decide (lo ≤ sb) = true := decide_eq_true hc
        have HS1 := Lib.hid (show restL ⟨sa, sb⟩ l = acc ++ [⟨lo, sb⟩] by rw [HE.out, if_pos hc])
        obtain ⟨A5, c5, rfl, -⟩ := own_slice HO.out
        have hA := (own_slice HO.out)
        go_wp2_with (first | (at_builtin; refine app_one rfl _ _ 54 37 (.agg #[.int .i64 0, .int .i64 0]) 2 16 rfl Tryd.underlying54 info37 rfl (by omega) (.slice A5 acc.length c5) acc.length (spcs acc) (spc ⟨lo, sb⟩) rfl rfl (by simp) rfl (spc_one _) W.heap.size HO.out HBk.out.size (by omega) (by unfold maxLen; omega) ?_; intro v1 w1 ho hg _; have HO1 := Lib.hid ho; have HB1 := Lib.hid (below_own HBk.out hg HBk.out.size (fun b hb => by obtain ⟨A6, c6, e6, _, _, h6⟩ := hA; cases A5 with | none => cases hb | some ad => cases e6; have h7 := h6 ad rfl; rw [hb] at h7; have h8 := Option.some.inj h7.1; omega)); clear ho hg))
        go_ret
        exact ⟨_, rfl, by rw [HS1.out, spcs_app, List.length_append]; exact own_base HO1.out HWB.out.size, HWB.out.trans (HB1.out.mono HWB.out.size)⟩
      · have t1 : decide (lo ≤ sb) = false := decide_eq_false hc
        have HS1 := Lib.hid (show restL ⟨sa, sb⟩ l = acc by rw [HE.out, if_neg hc, List.append_nil])
        go_wp2
        go_ret
        exact ⟨_, rfl, by rw [HS1.out]; exact own_base HO.out HWB.out.size, HWB.out.trans (HBk.out.mono HWB.out.size)⟩
end Go.Proofs.YteoembjghmgbhaaDoor
