/- The flow walks: Index, Contains, without, Has; the reference's Values, Fits. -/
import Derived.Test.YtmhiiomejopaoaaR4
namespace Go.Proofs.Ytmhiiomejopaoaa
set_option linter.all false
open Go.RowKit
set_option maxRecDepth 100000

theorem contains_false {l : List Int} {v : Int} (h : ∀ j : Nat, j < l.length → gi l j ≠ v) : l.contains v = false := by
  cases hc : l.contains v
  · rfl
  · have := List.contains_iff_mem.1 hc
    obtain ⟨j, hj, e⟩ := mem_gi this
    exact absurd e (h j hj)
theorem contains_true {l : List Int} {v : Int} {j : Nat} (hj : j < l.length) (e : gi l j = v) : l.contains v = true := by
  rw [List.contains_iff_mem, ← e]
  exact gi_mem (by omega) (by omega)
set_option maxRecDepth 100000 in
set_option maxHeartbeats 1000000 in
theorem index_any (A : Option Addr) (c : Nat) (l : List Int) (v : Int) (w : World) (hl : l.length ≤ 140737488351232) (h : IntsAt w A l) :
    Calls Try.prog 115 #[.slice A l.length c, .int .i64 v] w fun e w' => (∃ r, e = .returned (.int .i64 r) ∧ decide (0 ≤ r) = l.contains v) ∧ Below w.heap.size w w' := by
  have H := Lib.hid h
  clear h
  go_enter Try.func115, Try.ntmps115
  go_wp2
  go_loopw [5, 8] (fun _ i wr => ∃ k : Nat, k ≤ l.length ∧ i = .int .i64 k ∧ Hid (∀ j : Nat, j < k → gi l j ≠ v) ∧ Below w.heap.size w wr) (fun _ i _ => l.length - (intOf i).toNat)
  case atStart => exact ⟨0, by omega, rfl, Lib.hid (by simp), Below.refl _ _⟩
  case round =>
    obtain ⟨k, hk, rfl, hbad, hB⟩ := hrel
    by_cases hlt : k < l.length
    · obtain ⟨b, o, rfl, g1⟩ := (H.out.below hB).nat k hlt
      cases hq : (v == gi l k)
      · have HQ := Lib.hid (show gi l k ≠ v from fun e => by rw [e] at hq; simp at hq)
        go_wp2
        refine ⟨⟨k + 1, by omega, by go_num, Lib.hid fun j hj => ?_, hB⟩, by simp [intOf]; omega⟩
        rcases Nat.lt_succ_iff_lt_or_eq.1 hj with h | rfl
        · exact hbad.out j h
        · exact HQ.out
      · have HQ := Lib.hid (show gi l k = v from (beq_iff_eq.1 hq).symm)
        go_wp2
        go_ret
        exact ⟨⟨k, rfl, by rw [contains_true hlt HQ.out]; exact decide_eq_true (by omega)⟩, hB⟩
    · go_wp2
      go_ret
      obtain rfl : k = l.length := by omega
      exact ⟨⟨_, rfl, by rw [contains_false hbad.out]; rfl⟩, hB⟩
set_option maxHeartbeats 400000 in
theorem contains_any (A : Option Addr) (c : Nat) (l : List Int) (v : Int) (w : World) (hl : l.length ≤ 140737488351232) (h : IntsAt w A l) :
    Calls Try.prog 91 #[.slice A l.length c, .int .i64 v] w fun e w' => e = .returned (.bool (l.contains v)) ∧ Below w.heap.size w w' := by
  have HX := Lib.hid (index_any A c l v w hl h)
  clear h
  go_enter Try.func91, Try.ntmps91
  go_wp2_with fail
  refine HX.out.mono ?_
  rintro e w1 ⟨⟨r, rfl, hr⟩, hb⟩
  have Hr := Lib.hid hr
  clear hr
  go_wp2
  go_ret
  exact ⟨ret_bool Hr.out, hb⟩
theorem cf90 : ∀ args w, (callFunc 90 args).run Try.prog w = .ok (.enter 90 args) w := fun _ _ => by kernel_rfl
set_option maxHeartbeats 400000 in
theorem without1_any (i : Int) (b : Nat) (A : Option Addr) (c : Nat) (S : List Int) (w : World) (hS : S.length ≤ 1000000) (h : w.cell? ⟨b, 0, none⟩ = some (.slice A S.length c)) (hs : IntsAt w A S) :
    Calls Try.prog 90 #[.int .i64 i, .pointer (some ⟨b, 0, none⟩)] w fun e w' => e = .returned (.bool (notIn S i)) ∧ Below w.heap.size w w' := by
  have hb := World.block_lt_of_cell? _ _ h
  dsimp only at hb
  have HX := Lib.hid (contains_any A c S i w (by omega) hs)
  clear hs
  unfold notIn
  generalize S.contains i = q at *
  go_enter Try.func90, Try.ntmps90
  go_wp2_with (go_at_call 91; refine HX.out.mono ?_; rintro e w1 ⟨rfl, hb1⟩; have HB := Lib.hid hb1; clear hb1)
  go_ret
  exact ⟨rfl, HB.out⟩
set_option maxRecDepth 100000 in
set_option maxHeartbeats 1000000 in
theorem has_any (A : Option Addr) (c : Nat) (l : List Int) (v : Int) (w : World) (hl : l.length ≤ 140737488351232) (h : IntsAt w A l) :
    Calls Try.prog 57 #[.slice A l.length c, .int .i64 v] w fun e w' => e = .returned (.bool (l.contains v)) ∧ Below w.heap.size w w' := by
  have H := Lib.hid h
  clear h
  go_enter Try.func57, Try.ntmps57
  go_wp2
  go_loopw [5] (fun i wr => ∃ k : Nat, k ≤ l.length ∧ i = .int .i64 k ∧ Hid (∀ j : Nat, j < k → gi l j ≠ v) ∧ Below w.heap.size w wr) (fun i _ => l.length - (intOf i).toNat)
  case atStart => exact ⟨0, by omega, rfl, Lib.hid (by simp), Below.refl _ _⟩
  case round =>
    obtain ⟨k, hk, rfl, hbad, hB⟩ := hrel
    by_cases hlt : k < l.length
    · obtain ⟨b, o, rfl, g1⟩ := (H.out.below hB).nat k hlt
      cases hq : (gi l k == v)
      · have HQ := Lib.hid (show gi l k ≠ v from fun e => by rw [e] at hq; simp at hq)
        go_wp2
        refine ⟨⟨k + 1, by omega, by go_num, Lib.hid fun j hj => ?_, hB⟩, by simp [intOf]; omega⟩
        rcases Nat.lt_succ_iff_lt_or_eq.1 hj with h | rfl
        · exact hbad.out j h
        · exact HQ.out
      · have HQ := Lib.hid (show gi l k = v by simpa using hq)
        go_wp2
        go_ret
        exact ⟨by rw [contains_true hlt HQ.out]; rfl, hB⟩
    · go_wp2
      go_ret
      obtain rfl : k = l.length := by omega
      exact ⟨by rw [contains_false hbad.out]; rfl, hB⟩

set_option maxRecDepth 100000 in
set_option maxHeartbeats 1000000 in
theorem rvalues_any (n : Int) (L : Value) (A : Option Addr) (c : Nat) (x : List Int) (w : World) (hl : x.length ≤ 140737488351232) (h : IntsAt w A x) :
    Calls Try.prog 41 #[.agg #[.int .i64 n, L], .slice A x.length c] w fun e w' => e = .returned (.bool (areB n x)) ∧ Below w.heap.size w w' := by
  have H := Lib.hid h
  clear h
  by_cases hn : (x.length : Int) = n
  · have hn' : ((x.length : Int) != n) = false := by simpa using hn
    have HN := Lib.hid hn
    clear hn
    go_enter Try.func41, Try.ntmps41
    go_wp2
    go_loopw [5] (fun i wr => ∃ k : Nat, k ≤ x.length ∧ i = .int .i64 k ∧ Hid (∀ j : Nat, j < k → (!withinB (gi x j) (-1099511627776) 1099511627776) = false) ∧ Hid (Below w.heap.size w wr)) (fun i _ => x.length - (intOf i).toNat)
    case atStart => exact ⟨0, by omega, rfl, Lib.hid (by simp), Lib.hid bel⟩
    case round =>
      obtain ⟨k, hk, rfl, hbad, hB⟩ := hrel
      by_cases hlt : k < x.length
      · obtain ⟨b, o, rfl, g1⟩ := (H.out.below hB.out).nat k hlt
        cases hq : withinB (gi x k) (-1099511627776) 1099511627776
        · have HQ := Lib.hid (show areB n x = false by unfold areB; rw [any_gi_true (f := fun v => !withinB v (-1099511627776) 1099511627776) (i := (k : Int)) (by omega) (by omega) (by rw [hq]; rfl)]; simp)
          go_wp2_with (go_at_call 82; refine (in_any _ _ _ _).mono ?_; rintro e w' ⟨rfl, rfl⟩)
          go_ret
          exact ⟨by rw [HQ.out]; rfl, hB.out⟩
        · have HQ := Lib.hid (show (!withinB (gi x k) (-1099511627776) 1099511627776) = false by rw [hq]; rfl)
          go_wp2_with (go_at_call 82; refine (in_any _ _ _ _).mono ?_; rintro e w' ⟨rfl, rfl⟩)
          refine ⟨⟨k + 1, by omega, by go_num, Lib.hid fun j hj => ?_, hB⟩, by simp [intOf]; omega⟩
          rcases Nat.lt_succ_iff_lt_or_eq.1 hj with h | rfl
          · exact hbad.out j h
          · exact HQ.out
      · go_wp2
        go_ret
        obtain rfl : k = x.length := by omega
        exact ⟨by unfold areB; rw [any_gi_false (f := fun v => !withinB v (-1099511627776) 1099511627776) hbad.out]; simp [HN.out], hB.out⟩
  · have hn' : ((x.length : Int) != n) = true := by simpa using hn
    have HR := Lib.hid (show areB n x = false by unfold areB; simp [hn])
    clear hn
    go_enter Try.func41, Try.ntmps41
    go_wp2
    go_ret
    exact ⟨by rw [HR.out]; rfl, bel⟩
set_option maxRecDepth 100000 in
set_option maxHeartbeats 1000000 in
theorem rfits_any (n : Int) (A : Option Addr) (c : Nat) (l : List Lk) (B : Option Addr) (d : Nat) (x : List Int) (w : World) (hl : l.length ≤ 140737488351232) (hx : x.length ≤ 140737488351232) (h : LksAt w A l) (h' : IntsAt w B x) (hr : ∀ k ∈ l, InR x.length k) :
    Calls Try.prog 51 #[.agg #[.int .i64 n, .slice A l.length c], .slice B x.length d] w fun e w' => e = .returned (.bool (fitsB x l)) ∧ Below w.heap.size w w' := by
  have H := Lib.hid h
  have H' := Lib.hid h'
  have HR := Lib.hid hr
  clear h h' hr
  go_enter Try.func51, Try.ntmps51
  go_wp2
  go_loopw [5, 6] (fun i _ wr => ∃ k : Nat, k ≤ l.length ∧ i = .int .i64 k ∧ Hid (∀ j : Nat, j < k → overB x (gl l j) = false) ∧ Hid (Below w.heap.size w wr) ∧ wr.cell? ⟨w.heap.size, 1, none⟩ = some (.slice A l.length c)) (fun i _ _ => l.length - (intOf i).toNat)
  case atStart => exact ⟨0, by omega, rfl, Lib.hid (by simp), Lib.hid bel, by go_simp⟩
  case round =>
    obtain ⟨k, hk, rfl, hbad, hB, hc1⟩ := hrel
    have hz := World.block_lt_of_cell? wr _ hc1
    by_cases hlt : k < l.length
    · obtain ⟨b, o, rfl, g1, g2, g3⟩ := (H.out.below hB.out).nat k hlt
      have lb := World.block_lt_of_cell? _ _ g1
      have HIN := Lib.hid (HR.out _ (gl_mem (l := l) (i := (k : Int)) (by omega) (by omega)))
      have Hone := Lib.hid (fun (hb : overB x (gl l k) = true) => any_gl_true (f := overB x) (l := l) (i := (k : Int)) (by omega) (by omega) hb)
      generalize hq : gl l k = q at *
      have HQ := Lib.hid hq
      clear hq
      obtain ⟨i1, i2, i3, i4⟩ := HIN.out
      obtain ⟨b2, o2, rfl, ga⟩ := (H'.out.below hB.out) q.a i1 i2
      obtain ⟨b3, o3, e3, gb⟩ := (H'.out.below hB.out) q.b i3 i4
      cases e3
      have lb2 := World.block_lt_of_cell? _ _ ga
      cases hov : decide (wrap64 (gi x q.a + q.m) < gi x q.b)
      · have HE := Lib.hid (show overB x q = false by unfold overB; exact hov)
        go_wp2
        go_quiet (fail)
        go_wp2
        refine ⟨⟨k + 1, by omega, by go_num, Lib.hid fun j hj => ?_, Lib.hid (below_drews (hB.out.alloc hB.out.size _) _), by first | exact cell_alloc _ hc1 | go_simp⟩, by simp [intOf]; omega⟩
        rcases Nat.lt_succ_iff_lt_or_eq.1 hj with h | rfl
        · exact hbad.out j h
        · rw [HQ.out]; exact HE.out
      · have HE := Lib.hid (show fitsB x l = false by unfold fitsB; rw [Hone.out (by unfold overB; exact hov)]; rfl)
        go_wp2
        go_quiet (fail)
        go_wp2
        go_ret
        exact ⟨by rw [HE.out]; rfl, below_drews (hB.out.alloc hB.out.size _) _⟩
    · go_wp2
      go_ret
      obtain rfl : k = l.length := by omega
      exact ⟨by unfold fitsB; rw [any_gl_false hbad.out]; rfl, hB.out⟩
end Go.Proofs.Ytmhiiomejopaoaa
