/- The law DateParts: has, apart, count. -/
import Derived.Test.YteoembjghmgbhaaDoorW14
namespace Go.Proofs.YteoembjghmgbhaaDoor
set_option linter.all false
open Go.RowKit

set_option maxRecDepth 100000 in
set_option maxHeartbeats 1000000 in
theorem lHas_any (A : Option Addr) (c : Nat) (l : List Sp) (d : Int) (w : World) (hl : l.length ≤ 1000000) (h : SpsAt w A l) :
    Calls Tryd.prog 56 #[.slice A l.length c, .int .i64 d] w fun e w' => e = .returned (.bool (hasB l d)) ∧ w = w' := by
  have H := Lib.hid h
  clear h
  go_enter Tryd.func56, Tryd.ntmps56
  go_wp2
  go_loopw [5] (fun i wr => ∃ k : Nat, k ≤ l.length ∧ i = .int .i64 k ∧ Hid (∀ j : Nat, j < k → (decide ((gs l j).lo ≤ d) && decide (d ≤ (gs l j).hi)) = false) ∧ w = wr) (fun i _ => l.length - (intOf i).toNat)
  case atStart => exact ⟨0, by omega, rfl, Lib.hid (by simp), rfl⟩
  case round =>
    obtain ⟨k, hk, rfl, hbad, rfl⟩ := hrel
    by_cases hlt : k < l.length
    · obtain ⟨b, o, rfl, g1, g2⟩ := H.out.nat k hlt
      have HX := Lib.hid (show ∀ r, (decide ((gs l (k : Int)).lo ≤ d) && decide (d ≤ (gs l (k : Int)).hi)) = r → r = r from fun _ _ => rfl)
      have HG := Lib.hid (gs_mem hlt)
      obtain ⟨x, hx⟩ : ∃ x, gs l (k : Int) = x := ⟨_, rfl⟩
      rw [hx] at g1 g2
      have HXE := Lib.hid hx
      clear hx HX
      obtain ⟨xa, xb⟩ := x
      by_cases c1 : xa ≤ d
      · have t1 : decide (xa ≤ d) = true := decide_eq_true c1
        by_cases c2 : d ≤ xb
        · have t2 : decide (d ≤ xb) = true := decide_eq_true c2
          have HT := Lib.hid (show hasB l d = true from any_gs_true (i := k) hlt (by rw [HXE.out]; simp [c1, c2]))
          go_wp2
          go_ret
          exact ⟨by rw [HT.out]; rfl, rfl⟩
        · have t2 : decide (d ≤ xb) = false := decide_eq_false c2
          go_wp2
          go_roundw
          case rel =>
            refine ⟨k + 1, by omega, by go_num, Lib.hid fun j hj => ?_, trivial⟩
            rcases Nat.lt_succ_iff_lt_or_eq.1 hj with h | rfl
            · exact hbad.out j h
            · rw [HXE.out]; simp [c2]
          case measure => simp [intOf]; omega
      · have t1 : decide (xa ≤ d) = false := decide_eq_false c1
        go_wp2
        go_roundw
        case rel =>
          refine ⟨k + 1, by omega, by go_num, Lib.hid fun j hj => ?_, trivial⟩
          rcases Nat.lt_succ_iff_lt_or_eq.1 hj with h | rfl
          · exact hbad.out j h
          · rw [HXE.out]; simp [c1]
        case measure => simp [intOf]; omega
    · obtain rfl : k = l.length := by omega
      have HT := Lib.hid (show hasB l d = false from any_gs_false hbad.out)
      go_wp2
      go_ret
      exact ⟨by rw [HT.out]; rfl, rfl⟩
theorem can_gs {L : List Sp} (h : Can L) (i : Nat) (hi : i + 1 < L.length) : (gs L (i : Int)).hi + 1 < (gs L ((i + 1 : Nat) : Int)).lo := by
  have h2 := List.pairwise_iff_getElem.1 h.2 i (i + 1) (by omega) hi (by omega)
  have e : ∀ j : Nat, (hj : j < L.length) → gs L (j : Int) = L[j] := fun j hj => by simp [gs, List.getD_eq_getElem?_getD, hj]
  rw [e i (by omega), e (i + 1) hi]
  exact h2
set_option maxRecDepth 100000 in
set_option maxHeartbeats 1000000 in
theorem lApart_any (A : Option Addr) (c : Nat) (l : List Sp) (w : World) (hl : l.length ≤ 1000000) (h : SpsAt w A l) (hc : Can l) (hg : Good l) :
    Calls Tryd.prog 57 #[.slice A l.length c] w fun e w' => e = .returned (.bool true) ∧ Below w.heap.size w w' := by
  have H := Lib.hid h
  have HC := Lib.hid hc
  have HG := Lib.hid hg
  clear h hc hg
  go_enter Tryd.func57, Tryd.ntmps57
  go_wp2
  go_loopw [3] (fun i wr => ∃ k : Nat, k ≤ l.length + 1 ∧ i = .int .i64 ((k : Int) + 1) ∧ Below w.heap.size w wr) (fun i _ => l.length + 1 - (intOf i).toNat)
  case atStart => exact ⟨0, by omega, rfl, Below.refl _ _⟩
  case round =>
    obtain ⟨k, hk, rfl, hB⟩ := hrel
    by_cases hlt : k + 1 < l.length
    · obtain ⟨b, o, rfl, g1, g2⟩ := (H.out.below hB).nat k (by omega)
      obtain ⟨b', o', he, g3, g4⟩ := (H.out.below hB).nat (k + 1) hlt
      cases he
      have h1 := can_gs HC.out k hlt
      have h2 := HG.out _ (gs_mem (l := l) (i := k) (by omega))
      have h3 := HG.out _ (gs_mem (l := l) (i := k + 1) hlt)
      obtain ⟨x, hx⟩ : ∃ x, gs l (k : Int) = x := ⟨_, rfl⟩
      obtain ⟨y, hy⟩ : ∃ y, gs l ((k + 1 : Nat) : Int) = y := ⟨_, rfl⟩
      rw [hx] at g1 g2 h1 h2
      rw [hy] at g3 g4 h1 h3
      clear hx hy
      obtain ⟨xa, xb⟩ := x
      obtain ⟨ya, yb⟩ := y
      simp only at *
      have hb := World.block_lt_of_cell? _ _ g1
      have t : decide (ya ≤ xb + 1) = false := decide_eq_false (by omega)
      have t2 : decide ((k : Int) + 1 < (l.length : Int)) = true := decide_eq_true (by omega)
      have hw1 : IntKind.i64.wrap (xb + 1) = xb + 1 := by rw [IntKind.wrap_i64]; omega
      have hw2 : IntKind.i64.wrap ((k : Int) + 1 - 1) = (k : Int) := by rw [IntKind.wrap_i64]; omega
      have hb1 := World.block_lt_of_cell? _ _ g1
      dsimp only at hb1
      have i0 : (0 : Int) ≤ (k : Int) := by omega
      have i1 : (k : Int) < (l.length : Int) := by omega
      have i2 : (k : Int) < (l.length : Int) + 1 := by omega
      have i3 : (0 : Int) ≤ (k : Int) + 1 := by omega
      have i5 : (k : Int) + 1 < (l.length : Int) + 1 := by omega
      have hw3 : IntKind.i64.wrap (k : Int) = (k : Int) := by rw [IntKind.wrap_i64]; omega
      have hw4 : IntKind.i64.wrap ((k : Int) + 1) = (k : Int) + 1 := by rw [IntKind.wrap_i64]; omega
      have hw5 : IntKind.i64.wrap ((k : Int) + 1 + 1) = (k : Int) + 1 + 1 := by rw [IntKind.wrap_i64]; omega
      go_upto_region 4 with fail
      go_quiet (fail)
      go_wp2
      go_roundw
      case rel => exact ⟨k + 1, by omega, by first | rfl | (congr 1; omega), hB.trans (below_dN (Below.refl _ _) nq)⟩
      case measure => simp [intOf]; omega
    · have t2 : decide ((k : Int) + 1 < (l.length : Int)) = false := decide_eq_false (by omega)
      go_wp2
      go_ret
      exact ⟨rfl, hB⟩
def countL (l : List Sp) : Int := l.foldl (fun n x => n + x.hi - x.lo + 1) 0
theorem count_succ (l : List Sp) (k : Nat) (h : k < l.length) : countL (l.take (k + 1)) = countL (l.take k) + (gs l k).hi - (gs l k).lo + 1 := by
  unfold countL
  rw [take_gs l k h, List.foldl_append]
  rfl
theorem count_bd (l : List Sp) (hg : Good l) : ∀ k, k ≤ l.length → 0 ≤ countL (l.take k) ∧ countL (l.take k) ≤ 60001 * (k : Int)
  | 0, _ => by simp [countL]
  | k + 1, h => by
    have h1 := count_bd l hg k (by omega)
    have h2 := hg _ (gs_mem (l := l) (i := k) (by omega))
    rw [count_succ l k (by omega)]
    push_cast
    omega
theorem quiet_more {f : FuncId} {args : Array Value} {w : World} {n : Nat} {v : Value} (h : Calls Tryd.prog f args (w.drewN n) fun e w' => e = .returned v ∧ ∃ m, w' = (w.drewN n).drewN m) : Calls Tryd.prog f args (w.drewN n) fun e w'' => e = .returned v ∧ ∃ m, w'' = w.drewN m :=
  h.mono fun _ _ ⟨he, m, hm⟩ => ⟨he, n + m, by rw [hm, World.drewN_drewN]⟩
set_option maxRecDepth 100000 in
set_option maxHeartbeats 1000000 in
theorem lCount_any (A : Option Addr) (c : Nat) (l : List Sp) (w : World) (hl : l.length ≤ 1000000) (h : SpsAt w A l) (hg : Good l) :
    Calls Tryd.prog 58 #[.slice A l.length c] w fun e w' => e = .returned (.int .i64 (countL l)) ∧ ∃ m, w' = w.drewN m := by
  have H := Lib.hid h
  have HG := Lib.hid hg
  have HCB := Lib.hid (count_bd l hg)
  have HCS := Lib.hid (count_succ l)
  have HCE := Lib.hid (show countL (l.take l.length) = countL l by rw [List.take_length])
  clear h hg
  go_enter Tryd.func58, Tryd.ntmps58
  go_wp2
  go_loopw [3, 4] (fun n i wr => ∃ k : Nat, k ≤ l.length ∧ n = .int .i64 (countL (l.take k)) ∧ i = .int .i64 (k : Int) ∧ Hid (∃ m, wr = w.drewN m)) (fun n i _ => l.length - (intOf i).toNat)
  case atStart => exact ⟨0, by omega, rfl, rfl, Lib.hid ⟨0, rfl⟩⟩
  case round =>
    obtain ⟨k, hk, rfl, rfl, HM⟩ := hrel
    have HS := Lib.hid (show SpsAt wr A l by obtain ⟨m, hm⟩ := HM.out; rw [hm]; exact H.out)
    by_cases hlt : k < l.length
    · obtain ⟨b, o, rfl, g1, g2⟩ := HS.out.nat k hlt
      have h2 := HG.out _ (gs_mem (l := l) (i := k) hlt)
      have h3 := HCB.out k (by omega)
      have h4 := HCS.out k hlt
      obtain ⟨x, hx⟩ : ∃ x, gs l (k : Int) = x := ⟨_, rfl⟩
      rw [hx] at g1 g2 h2 h4
      obtain ⟨n, hn⟩ : ∃ n, countL (l.take k) = n := ⟨_, rfl⟩
      rw [hn] at h3 h4 ⊢
      have H4 := Lib.hid h4
      clear hx hn h4
      obtain ⟨xa, xb⟩ := x
      simp only at *
      have hb1 := World.block_lt_of_cell? _ _ g1
      dsimp only at hb1
      have t2 : decide (k < l.length) = true := decide_eq_true hlt
      have hw1 : IntKind.i64.wrap (n + xb) = n + xb := by rw [IntKind.wrap_i64]; omega
      have hw2 : IntKind.i64.wrap (n + xb - xa) = n + xb - xa := by rw [IntKind.wrap_i64]; omega
      have hw3 : IntKind.i64.wrap (n + xb - xa + 1) = n + xb - xa + 1 := by rw [IntKind.wrap_i64]; omega
      have hw4 : IntKind.i64.wrap (k : Int) = (k : Int) := by rw [IntKind.wrap_i64]; omega
      have i0 : (0 : Int) ≤ (k : Int) := by omega
      have i1 : (k : Int) < (l.length : Int) := by omega
      have i2 : (k : Int) < (l.length : Int) + 1 := by omega
      go_upto_region 5 with fail
      go_quiet (fail)
      go_wp2
      go_roundw
      case rel => exact ⟨k + 1, by omega, by rw [H4.out], by go_num, Lib.hid (by obtain ⟨m, hm⟩ := HM.out; exact ⟨m + nq, by rw [hm, World.drewN_drewN]⟩)⟩
      case measure => simp [intOf]; omega
    · obtain rfl : k = l.length := by omega
      go_wp2
      go_ret
      exact ⟨by rw [HCE.out]; rfl, HM.out⟩
theorem count_app (a b : List Sp) : countL (a ++ b) = countL a + countL b := by
  have h : ∀ (l : List Sp) (n : Int), l.foldl (fun n x => n + x.hi - x.lo + 1) n = n + countL l := by
    intro l
    induction l with
    | nil => intro n; simp [countL]
    | cons x l ih =>
      intro n
      unfold countL
      rw [List.foldl_cons, List.foldl_cons, ih, ih]
      omega
  unfold countL
  rw [List.foldl_append, h]
  rfl
theorem count_one (x : Sp) : countL [x] = x.hi - x.lo + 1 := by simp [countL]
/-- What is met and what is left are the whole. -/
theorem meet_rest (s b : Sp) (hs : spanB s = true) (hb : spanB b = true) :
    (if (meetS s b).hi < (meetS s b).lo then (0 : Int) else (meetS s b).hi - (meetS s b).lo + 1) + countL (rgapsL s [b]) = s.hi - s.lo + 1 := by
  have h1 : 0 ≤ s.lo ∧ s.lo ≤ s.hi ∧ s.hi ≤ 60000 := by simpa [spanB] using hs
  have h2 : 0 ≤ b.lo ∧ b.lo ≤ b.hi ∧ b.hi ≤ 60000 := by simpa [spanB] using hb
  have hgl : restL s [b] = rgapsL s [b] := rest_gaps s [b] [b] (fun x hx => by simp at hx; rcases hx with rfl | rfl <;> omega) ⟨by simp; omega, List.pairwise_singleton _ _⟩ (fun _ => Iff.rfl)
  rw [← hgl]
  obtain ⟨s1, s2⟩ := s
  obtain ⟨b1, b2⟩ := b
  simp only at h1 h2
  unfold restL restF meetS
  simp only [List.foldl_cons, List.foldl_nil, restStep, List.nil_append]
  have hm1 : max s1 b1 = if s1 ≤ b1 then b1 else s1 := by omega
  have hm2 : min s2 b2 = if s2 ≤ b2 then s2 else b2 := by omega
  rw [hm1, hm2, count_app]
  by_cases c1 : b2 < s1 ∨ s2 < b1
  · rw [if_pos c1]
    simp only
    rw [if_pos (show s1 ≤ s2 by omega), count_one, if_pos (by split <;> split <;> omega)]
    simp [countL]
  · rw [if_neg c1]
    simp only
    rw [if_neg (by split <;> split <;> omega)]
    by_cases c2 : s1 < b1
    · rw [if_pos c2, count_one, if_pos (show s1 ≤ b1 by omega)]
      by_cases c3 : b2 + 1 ≤ s2
      · rw [if_pos c3, count_one, if_neg (show ¬ s2 ≤ b2 by omega)]
        simp only
        omega
      · rw [if_neg c3, if_pos (show s2 ≤ b2 by omega)]
        simp [countL]
        omega
    · rw [if_neg c2]
      by_cases c3 : b2 + 1 ≤ s2
      · rw [if_pos c3, count_one, if_neg (show ¬ s2 ≤ b2 by omega)]
        simp only [countL, List.foldl_nil]
        split <;> omega
      · rw [if_neg c3, if_pos (show s2 ≤ b2 by omega)]
        simp [countL]
        intro h; omega
theorem meet_out (s b : Sp) (hs : spanB s = true) (hb : spanB b = true) (hm : (meetS s b).lo ≤ (meetS s b).hi) : hasB (rgapsL s [b]) (meetS s b).lo = false := by
  have h1 : 0 ≤ s.lo ∧ s.lo ≤ s.hi ∧ s.hi ≤ 60000 := by simpa [spanB] using hs
  have h2 : 0 ≤ b.lo ∧ b.lo ≤ b.hi ∧ b.hi ≤ 60000 := by simpa [spanB] using hb
  obtain ⟨h3, h4⟩ := rgaps_can s [b] (fun x hx => by simp at hx; rcases hx with rfl | rfl <;> omega)
  rw [Bool.eq_false_iff]
  intro h
  rw [hasB_iff] at h
  obtain ⟨_, h6⟩ := (h4 _).1 h
  refine h6 ((In_one b _).2 ?_)
  unfold meetS at hm ⊢
  simp only at hm ⊢
  omega
theorem has_of {a b : List Sp} (h : ∀ d, In a d ↔ In b d) (d : Int) : hasB a d = hasB b d := by
  rw [Bool.eq_iff_iff, hasB_iff, hasB_iff]
  exact h d
theorem has_union {l : List Sp} (hv : ∀ x ∈ l, spanB x = true) (d : Int) : hasB (runionL l) d = hasB l d := has_of (runion_can l (good_of hv)).2 d
theorem has_gaps {s : Sp} {l : List Sp} (hs : spanB s = true) (hv : ∀ x ∈ l, spanB x = true) (d : Int) : hasB (rgapsL s l) d = ((decide (s.lo ≤ d) && decide (d ≤ s.hi)) && !hasB l d) := by
  have hg : Good (l ++ [s]) := good_of fun x hx => by
    rcases List.mem_append.1 hx with hx | hx
    · exact hv x hx
    · simp at hx; subst hx; exact hs
  have h := (rgaps_can s l hg).2 d
  rw [← hasB_iff, ← hasB_iff] at h
  rw [Bool.eq_iff_iff, h]
  simp
theorem good_gaps {s : Sp} {l : List Sp} (hs : spanB s = true) (hv : ∀ x ∈ l, spanB x = true) : Can (rgapsL s l) ∧ Good (rgapsL s l) := by
  have hg : Good (l ++ [s]) := good_of fun x hx => by
    rcases List.mem_append.1 hx with hx | hx
    · exact hv x hx
    · simp at hx; subst hx; exact hs
  have h1 : 0 ≤ s.lo ∧ s.lo ≤ s.hi ∧ s.hi ≤ 60000 := by simpa [spanB] using hs
  obtain ⟨h2, h3⟩ := rgaps_can s l hg
  refine ⟨h2, fun x hx => ?_⟩
  have h4 := h2.1 x hx
  have h5 := (h3 x.lo).1 ⟨x, hx, by omega, h4⟩
  have h6 := (h3 x.hi).1 ⟨x, hx, h4, by omega⟩
  omega
/-- The list that is turned, and its first span again. -/
def turnL (l : List Sp) (i : Nat) : List Sp := l.drop i ++ l.take i ++ [gs l i]
theorem turn_mem (l : List Sp) (i : Nat) (hi : i < l.length) (x : Sp) : x ∈ turnL l i ↔ x ∈ l := by
  unfold turnL
  rw [List.mem_append, List.mem_append]
  constructor
  · rintro ((h | h) | h)
    · exact List.mem_of_mem_drop h
    · exact List.mem_of_mem_take h
    · simp at h; subst h; exact gs_mem hi
  · intro h
    rw [← List.take_append_drop i l, List.mem_append] at h
    exact .inl h.symm
theorem turn_len (l : List Sp) (i : Nat) (hi : i < l.length) : (turnL l i).length = l.length + 1 := by
  unfold turnL
  simp
  omega
theorem turn_ok {l : List Sp} (hv : ∀ x ∈ l, spanB x = true) (hl : l.length ≤ 59) (i : Nat) (hi : i < l.length) : UnionOk (turnL l i) 0 (runionL l) := by
  have hv2 : ∀ x ∈ turnL l i, spanB x = true := fun x hx => hv x ((turn_mem l i hi x).1 hx)
  refine ⟨?_, fun h => absurd rfl h, fun _ => ?_⟩
  · unfold spansE
    rw [if_neg (by rw [turn_len l i hi]; omega)]
    have : ((turnL l i).any fun s => !spanB s) = false := by
      rw [List.any_eq_false]
      intro x hx
      simp [hv2 x hx]
    rw [this]
    rfl
  · obtain ⟨h1, h2⟩ := runion_can l (good_of hv)
    obtain ⟨h3, h4⟩ := runion_can (turnL l i) (good_of hv2)
    refine can_uniq _ _ h1 h3 fun d => ?_
    rw [h2, h4]
    exact ⟨fun ⟨x, hx, h⟩ => ⟨x, (turn_mem l i hi x).2 hx, h⟩, fun ⟨x, hx, h⟩ => ⟨x, (turn_mem l i hi x).1 hx, h⟩⟩
end Go.Proofs.YteoembjghmgbhaaDoor
