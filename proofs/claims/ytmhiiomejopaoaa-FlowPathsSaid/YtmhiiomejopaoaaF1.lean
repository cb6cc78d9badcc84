/- The flow walks, first part. -/
import Derived.Test.YtmhiiomejopaoaaB0
namespace Go.Proofs.Ytmhiiomejopaoaa
set_option linter.all false
open Go.RowKit

def withinB (n lo hi : Int) : Bool := decide (lo ≤ n) && decide (n ≤ hi)
set_option maxHeartbeats 400000 in
theorem within_any (a b c : Int) (w : World) :
    Calls Try.prog 92 #[.int .i64 a, .int .i64 b, .int .i64 c] w fun e w' => e = .returned (.bool (withinB a b c)) ∧ w = w' := by
  unfold withinB
  go_enter Try.func92, Try.ntmps92
  go_wp2
  all_goals (go_ret; exact ⟨by simp [*]; try omega, rfl⟩)

def nodeB (n v : Int) : Bool := withinB v 0 (wrap64 (n - 1))
set_option maxHeartbeats 400000 in
theorem node_any (n : Int) (l : Value) (v : Int) (w : World) :
    Calls Try.prog 80 #[.agg #[.int .i64 n, l], .int .i64 v] w fun e w' => e = .returned (.bool (nodeB n v)) ∧ w.alloc (.cells #[.int .i64 n, l] 24) = w' := by
  unfold nodeB
  go_enter Try.func80, Try.ntmps80
  go_wp2_with (go_at_call 92; refine (within_any _ _ _ _).mono ?_; rintro e w' ⟨rfl, rfl⟩)
  go_ret
  exact ⟨rfl, rfl⟩

/-- What a closure that answers a bool owes. -/
def TestsInt (fn : FuncId) (cap : Array Value) (p : Int → Bool) (l : List Int) (w : World) : Prop :=
  ∀ (y : Int) (W : World), y ∈ l → Below w.heap.size w W → Calls Try.prog fn (#[.int .i64 y] ++ cap) W fun e W' => e = .returned (.bool (p y)) ∧ Below W.heap.size W W'
set_option maxRecDepth 100000 in
set_option maxHeartbeats 400000 in
theorem indexFunc_int (fn : FuncId) (cap : Array Value) (p : Int → Bool) (A : Option Addr) (c : Nat) (l : List Int) (w : World) (hl : l.length ≤ 140737488351232) (h : IntsAt w A l) (hcf : ∀ args w, (callFunc fn args).run Try.prog w = .ok (.enter fn args) w) (HC : TestsInt fn cap p l w) :
    Calls Try.prog 116 #[.slice A l.length c, .func (.func fn) #[] cap] w fun e w' => (∃ r, e = .returned (.int .i64 r) ∧ decide (0 ≤ r) = l.any p) ∧ Below w.heap.size w w' := by
  have H := Lib.hid h
  clear h
  go_enter Try.func116, Try.ntmps116
  go_wp2
  go_loopw [5, 8] (fun _ i wr => ∃ k : Nat, k ≤ l.length ∧ i = .int .i64 k ∧ Hid (∀ j : Nat, j < k → p (gi l j) = false) ∧ Below w.heap.size w wr) (fun _ i _ => l.length - (intOf i).toNat)
  case atStart => exact ⟨0, by omega, rfl, Lib.hid (by simp), Below.refl _ _⟩
  case round =>
    obtain ⟨k, hk, rfl, hbad, hB⟩ := hrel
    by_cases hlt : k < l.length
    · obtain ⟨b, o, rfl, g1⟩ := (H.out.below hB).nat k hlt
      have hc := HC (gi l k) wr (gi_mem (by omega) (by omega)) hB
      cases hp : p (gi l k)
      all_goals
        have Hp := Lib.hid hp
        rw [hp] at hc
        clear hp
        have HC' := Lib.hid hc
        clear hc
        go_wp2_with fail
        refine HC'.out.mono ?_
        rintro e w1 ⟨rfl, hb⟩
        go_wp2
      · refine ⟨⟨k + 1, by omega, by go_num, Lib.hid fun j hj => ?_, hB.trans (hb.mono hB.size)⟩, by simp [intOf]; omega⟩
        rcases Nat.lt_succ_iff_lt_or_eq.1 hj with h | rfl
        · exact hbad.out j h
        · exact Hp.out
      · go_ret
        exact ⟨⟨k, rfl, by rw [any_gi_true (by omega) (by omega) Hp.out]; simp⟩, hB.trans (hb.mono hB.size)⟩
    · go_wp2
      go_ret
      obtain rfl : k = l.length := by omega
      exact ⟨⟨_, rfl, by rw [any_gi_false hbad.out]; rfl⟩, hB⟩

set_option maxHeartbeats 400000 in
theorem containsFunc_int (fn : FuncId) (cap : Array Value) (p : Int → Bool) (A : Option Addr) (c : Nat) (l : List Int) (w : World) (hl : l.length ≤ 140737488351232) (h : IntsAt w A l) (hcf : ∀ args w, (callFunc fn args).run Try.prog w = .ok (.enter fn args) w) (HC : TestsInt fn cap p l w) :
    Calls Try.prog 94 #[.slice A l.length c, .func (.func fn) #[] cap] w fun e w' => e = .returned (.bool (l.any p)) ∧ Below w.heap.size w w' := by
  have hix := Lib.hid (indexFunc_int fn cap p A c l w hl h hcf HC)
  clear h hcf HC
  go_enter Try.func94, Try.ntmps94
  go_wp2_with fail
  refine hix.out.mono ?_
  rintro e w1 ⟨⟨r, rfl, hr⟩, hb⟩
  have Hr := Lib.hid hr
  clear hr
  go_wp2
  go_ret
  exact ⟨ret_bool Hr.out, hb⟩

def TestsLk (fn : FuncId) (cap : Array Value) (p : Lk → Bool) (l : List Lk) (w : World) : Prop :=
  ∀ (y : Lk) (W : World), y ∈ l → Below w.heap.size w W → Calls Try.prog fn (#[.agg #[.int .i64 y.a, .int .i64 y.b, .int .i64 y.m]] ++ cap) W fun e W' => e = .returned (.bool (p y)) ∧ Below W.heap.size W W'
set_option maxRecDepth 100000 in
set_option maxHeartbeats 400000 in
theorem indexFunc_lk (fn : FuncId) (cap : Array Value) (p : Lk → Bool) (A : Option Addr) (c : Nat) (l : List Lk) (w : World) (hl : l.length ≤ 140737488351232) (h : LksAt w A l) (hcf : ∀ args w, (callFunc fn args).run Try.prog w = .ok (.enter fn args) w) (HC : TestsLk fn cap p l w) :
    Calls Try.prog 117 #[.slice A l.length c, .func (.func fn) #[] cap] w fun e w' => (∃ r, e = .returned (.int .i64 r) ∧ decide (0 ≤ r) = l.any p) ∧ Below w.heap.size w w' := by
  have H := Lib.hid h
  clear h
  go_enter Try.func117, Try.ntmps117
  go_wp2
  go_loopw [5, 8] (fun _ i wr => ∃ k : Nat, k ≤ l.length ∧ i = .int .i64 k ∧ Hid (∀ j : Nat, j < k → p (gl l j) = false) ∧ Below w.heap.size w wr) (fun _ i _ => l.length - (intOf i).toNat)
  case atStart => exact ⟨0, by omega, rfl, Lib.hid (by simp), Below.refl _ _⟩
  case round =>
    obtain ⟨k, hk, rfl, hbad, hB⟩ := hrel
    by_cases hlt : k < l.length
    · obtain ⟨b, o, rfl, g1, g2, g3⟩ := (H.out.below hB).nat k hlt
      have hc := HC (gl l k) wr (gl_mem (by omega) (by omega)) hB
      cases hp : p (gl l k)
      all_goals
        have Hp := Lib.hid hp
        rw [hp] at hc
        clear hp
        have HC' := Lib.hid hc
        clear hc
        go_wp2_with fail
        refine HC'.out.mono ?_
        rintro e w1 ⟨rfl, hb⟩
        go_wp2
      · refine ⟨⟨k + 1, by omega, by go_num, Lib.hid fun j hj => ?_, hB.trans (hb.mono hB.size)⟩, by simp [intOf]; omega⟩
        rcases Nat.lt_succ_iff_lt_or_eq.1 hj with h | rfl
        · exact hbad.out j h
        · exact Hp.out
      · go_ret
        exact ⟨⟨k, rfl, by rw [any_gl_true (by omega) (by omega) Hp.out]; simp⟩, hB.trans (hb.mono hB.size)⟩
    · go_wp2
      go_ret
      obtain rfl : k = l.length := by omega
      exact ⟨⟨_, rfl, by rw [any_gl_false hbad.out]; rfl⟩, hB⟩

set_option maxHeartbeats 400000 in
theorem containsFunc_lk (fn : FuncId) (cap : Array Value) (p : Lk → Bool) (A : Option Addr) (c : Nat) (l : List Lk) (w : World) (hl : l.length ≤ 140737488351232) (h : LksAt w A l) (hcf : ∀ args w, (callFunc fn args).run Try.prog w = .ok (.enter fn args) w) (HC : TestsLk fn cap p l w) :
    Calls Try.prog 110 #[.slice A l.length c, .func (.func fn) #[] cap] w fun e w' => e = .returned (.bool (l.any p)) ∧ Below w.heap.size w w' := by
  have hix := Lib.hid (indexFunc_lk fn cap p A c l w hl h hcf HC)
  clear h hcf HC
  go_enter Try.func110, Try.ntmps110
  go_wp2_with fail
  refine hix.out.mono ?_
  rintro e w1 ⟨⟨r, rfl, hr⟩, hb⟩
  have Hr := Lib.hid hr
  clear hr
  go_wp2
  go_ret
  exact ⟨ret_bool Hr.out, hb⟩

theorem cf109 : ∀ args w, (callFunc 109 args).run Try.prog w = .ok (.enter 109 args) w := fun _ _ => by kernel_rfl
theorem cf111 : ∀ args w, (callFunc 111 args).run Try.prog w = .ok (.enter 111 args) w := fun _ _ => by kernel_rfl
set_option maxHeartbeats 400000 in
theorem are1_any (a : Int) (w : World) :
    Calls Try.prog 109 #[.int .i64 a] w fun e w' => e = .returned (.bool (!withinB a (-1099511627776) 1099511627776)) ∧ w = w' := by
  go_enter Try.func109, Try.ntmps109
  go_wp2_with (go_at_call 92; refine (within_any _ _ _ _).mono ?_; rintro e w' ⟨rfl, rfl⟩)
  go_ret
  exact ⟨rfl, rfl⟩
def areB (n : Int) (x : List Int) : Bool := decide ((x.length : Int) = n) && !x.any (fun v => !withinB v (-1099511627776) 1099511627776)
set_option maxHeartbeats 400000 in
theorem are_any (n : Int) (L : Value) (A : Option Addr) (c : Nat) (x : List Int) (w : World) (hl : x.length ≤ 140737488351232) (h : IntsAt w A x) :
    Calls Try.prog 83 #[.agg #[.int .i64 n, L], .slice A x.length c] w fun e w' => e = .returned (.bool (areB n x)) ∧ Below w.heap.size w w' := by
  have H := Lib.hid h
  clear h
  by_cases hn : (x.length : Int) = n
  · have hn' : ((x.length : Int) == n) = true := by simpa using hn
    have HN := Lib.hid hn
    clear hn
    go_enter Try.func83, Try.ntmps83
    go_wp2_with (go_at_call 94; refine (containsFunc_int 109 #[] (fun v => !withinB v (-1099511627776) 1099511627776) A c x _ hl (H.out.alloc _) cf109 (fun y W _ _ => (are1_any y W).mono fun e W' ⟨h1, h2⟩ => ⟨h1, h2 ▸ Below.refl _ _⟩)).mono ?_; rintro e w1 ⟨rfl, hb⟩)
    go_ret
    exact ⟨by simp [areB, HN.out], (Below.alloc (Below.refl _ _) (Nat.le_refl _) _).trans (hb.mono (by simp))⟩
  · have hn' : ((x.length : Int) == n) = false := by simpa using hn
    have HN := Lib.hid hn
    clear hn
    go_enter Try.func83, Try.ntmps83
    go_wp2
    go_ret
    exact ⟨by simp [areB, HN.out], bel⟩
end Go.Proofs.Ytmhiiomejopaoaa
