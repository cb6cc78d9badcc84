/- The flow laws: FlowOrClash, Clash where there is a solution, and the plain facts. -/
import Derived.Test.YtmhiiomejopaoaaO6
import Derived.Test.YtmhiiomejopaoaaE1
namespace Go.Proofs.Ytmhiiomejopaoaa
set_option linter.all false
open Go.RowKit

set_option maxRecDepth 100000 in
set_option maxHeartbeats 1000000 in
theorem Clash_yes (N : Nat) (A : Option Addr) (c : Nat) (l : List Lk) (w : World) (hok : NetOk N l) (hck : checkL N l = 0) (hyes : (solutionL N l).2 = true) (h : LksAt w A l) :
    Calls Try.prog 59 #[.agg #[.int .i64 (N : Int), .slice A l.length c]] w fun e w' => e = .returned (.tuple #[.slice none 0 0, .int .i64 5]) ∧ Below w.heap.size w w' := by
  have hn := hok.n2
  have hl1 := hok.l1
  have HK := Lib.hid (check_any N A c l _ (by omega) (h.alloc (.cells #[.int .i64 (N : Int), .slice A l.length c] 24)))
  rw [hck] at HK
  have hr : ∀ k ∈ l, InR N k := fun k hk => (hok.lk k hk).1
  have HS := Lib.hid (show ∀ W, Below w.heap.size w W → Calls Try.prog 81 #[.int .i64 (N : Int), .slice A l.length c] W fun e w' => (∃ v, e = .returned (.tuple #[v, .bool true])) ∧ Below W.heap.size W w' from fun W hW => (solution_yes N A c l W (by omega) (by omega) (h.below hW) hr hyes).mono fun e w' ⟨g, h1, _, _, h2⟩ => ⟨⟨_, h1⟩, h2⟩)
  clear h hok hck hr hyes
  go_enter Try.func59, Try.ntmps59
  go_wp2_with (first | (go_at_call 53; refine HK.out.mono ?_; rintro e w1 ⟨rfl, hb⟩; have HB1 := Lib.hid (below_trans (bel : Below w.heap.size w (w.alloc _)) hb); have HX1 := Lib.hid (lnew hb); obtain ⟨c0, c1, lc⟩ := two HX1.out; clear hb) | (go_at_call 81; refine (HS.out _ HB1.out).mono ?_; rintro e w2 ⟨⟨v, rfl⟩, hb⟩; have HB2 := Lib.hid (below_trans HB1.out hb); clear hb))
  go_ret2
  exact ⟨rfl, HB2.out⟩
/-- What the law FlowOrClash reads, of a net that is accepted. -/
structure OrOk (N : Nat) (l : List Lk) (x p : List Int) (sol : Bool) (r : List Int × Int) : Prop where
  n0 : 0 < N
  n1 : N ≤ 12
  l1 : l.length ≤ 36
  ok : NetOk N l
  ck : checkL N l = 0
  hsol : (solutionL N l).2 = sol
  fit : sol = false → (fitsR N l x).2 = 0 → (fitsR N l x).1 = false
  acc : sol = true → clashI N l p ≠ 0
  pr : proveP 2000000 N l (List.replicate x.length 0) = some r
  rs : r.2 = 0 → (solutionL N (rigidL l r.1)).2 = true
  own : x.length = N → sol = true → r.2 = 0 ∧ fitsR N l (reachL N l r.1) = (true, 0) ∧ (reachL N l r.1).length ≤ 1000000
theorem gi_rep (m : Nat) (i : Int) : gi (List.replicate m 0) i = 0 := by
  simp only [gi, List.getD_eq_getElem?_getD, List.getElem?_replicate]
  split <;> rfl
theorem or_ok {n : Int} {l : List Lk} (hck : checkL n l = 0) (hs : smallB n l.length = true) (x p : List Int) : ∃ (N : Nat) (sol : Bool) (r : List Int × Int), n = N ∧ OrOk N l x p sol r := by
  have hok := check_ok hck
  have hn1 := hok.n1
  obtain ⟨N, rfl⟩ : ∃ N : Nat, n = N := ⟨n.toNat, by omega⟩
  obtain ⟨hn, hl⟩ := small_ok hok hs
  have hn : N ≤ 12 := by omega
  have hS := netOk_lk hok hn
  have hlk : ∀ k : Nat, k < l.length → 0 ≤ (gl l k).a ∧ (gl l k).a < N ∧ 0 ≤ (gl l k).b ∧ (gl l k).b < N := fun k hk => by have := hS.lk k hk; omega
  have hfR : ∀ y, fitsR N l y = if areB N y = false then (false, 1) else (fitsB y l, 0) := fun y => by unfold fitsR; rw [if_neg (by simpa using hck)]
  have hfit : ∀ sol, (solutionL N l).2 = sol → sol = false → (fitsR N l x).2 = 0 → (fitsR N l x).1 = false := by
    rintro sol hsol rfl h0
    rw [hfR] at h0 ⊢
    cases ha : areB N x with
    | false => rfl
    | true =>
      rw [ha] at h0
      simp only [Bool.true_eq_false, if_false] at h0 ⊢
      cases hb : fitsB x l with
      | false => rfl
      | true =>
        obtain ⟨_, hv⟩ := are_at ha
        have h1 := (fits_at hS hv).1 hb
        have := sol_any hok (x := fun v => gi x v) fun k hk => by
          obtain ⟨j, hj, e⟩ := List.mem_iff_getElem.1 hk
          have e2 : gl l j = k := by rw [← e]; simp [gl, List.getD_eq_getElem?_getD, hj]
          have := h1 j hj
          rw [e2] at this
          exact this
        rw [hsol] at this
        cases this
  have hacc : ∀ sol, (solutionL N l).2 = sol → sol = true → clashI N l p ≠ 0 := by
    rintro sol hsol rfl
    exact clash_not hck (by rw [Int.toNat_natCast]; exact hsol) p
  by_cases hx : x.length = N
  · have hz : sumN (fun i : Nat => gi (List.replicate N 0) i) N = 0 := by
      rw [sumN_congr (h := fun _ => 0) N (fun k _ => gi_rep _ _), sumN_zero]
    have hw : weightsB N (List.replicate N 0) = true := by
      simp only [weightsB, Bool.and_eq_true, Bool.not_eq_true', decide_eq_true_eq, beq_iff_eq]
      refine ⟨?_, by simp, ?_⟩
      · rw [List.any_eq_false]
        intro y hy
        obtain rfl := List.eq_of_mem_replicate hy
        decide
      · rw [sumW_eq (b := fun _ => 0) (fun i hi => by rw [gi_rep]; omega) (by rw [sumN_zero]; omega), List.length_replicate]
        exact hz
    have ha : askedI N l (List.replicate N 0) = 0 := by unfold askedI; rw [if_neg (by simpa using hck), if_pos hw]
    obtain ⟨r, hr, hc⟩ := best_facts ha hn
    have hp : proveP 2000000 N l (List.replicate N 0) = some r := by unfold proveP; rw [if_pos ha, Int.toNat_natCast]; exact hr
    rcases hc with ⟨rfl, h1⟩ | ⟨rfl, h1, h2⟩ | ⟨u, x0, rfl, h1, h2⟩
    · exact ⟨N, false, ([], 9), rfl, by omega, hn, by omega, hok, hck, h1, hfit _ h1, hacc _ h1, by rw [hx]; exact hp, fun h => (by cases h), fun _ h => (by cases h)⟩
    · exfalso
      refine cut_none hlk h2 (u := List.replicate l.length 0) (fun k hk => by rw [gi_rep]; exact Int.le_refl _) (fun v hv => ?_)
      rw [net_zero, gi_rep]
    · obtain ⟨o1, o2⟩ := own_ok hok (by omega) hn h2
      have hv : ∀ v : Int, 0 ≤ v → v < N → -1099511627776 ≤ gi (reachL N l u) v ∧ gi (reachL N l u) v ≤ 1099511627776 := fun v v0 v1 => by have := o2.val v v0 v1; omega
      refine ⟨N, true, (u, 0), rfl, by omega, hn, by omega, hok, hck, h1, hfit _ h1, hacc _ h1, by rw [hx]; exact hp, fun _ => o1, fun _ _ => ⟨rfl, ?_, ?_⟩⟩
      · show fitsR N l (reachL N l u) = _
        rw [hfR, at_are o2.len hv, (fits_at hS hv).2 o2.fit]
        rfl
      · show (reachL N l u).length ≤ _
        have := o2.len
        omega
  · have ha : askedI N l (List.replicate x.length 0) = 1 := by
      unfold askedI
      rw [if_neg (by simpa using hck), if_neg]
      intro h
      have := weights_len h
      rw [List.length_replicate] at this
      omega
    refine ⟨N, (solutionL N l).2, ([], 1), rfl, by omega, hn, by omega, hok, hck, rfl, hfit _ rfl, hacc _ rfl, ?_, fun h => (by cases h), fun h => absurd h hx⟩
    unfold proveP
    rw [if_neg (by rw [ha]; decide), ha]
end Go.Proofs.Ytmhiiomejopaoaa
