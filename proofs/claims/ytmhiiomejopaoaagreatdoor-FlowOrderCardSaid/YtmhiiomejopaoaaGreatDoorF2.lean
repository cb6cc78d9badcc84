/- The flow walks, second part. -/
import Derived.Test.YtmhiiomejopaoaaGreatDoorB0
namespace Go.Proofs.YtmhiiomejopaoaaGreatDoor
set_option linter.all false
set_option maxRecDepth 100000
open Go.RowKit

def withinB (n lo hi : Int) : Bool := decide (lo ≤ n) && decide (n ≤ hi)
set_option maxHeartbeats 400000 in
theorem within_any (a b c : Int) (w : World) :
    Calls Tryz.prog 53 #[.int .i64 a, .int .i64 b, .int .i64 c] w fun e w' => e = .returned (.bool (withinB a b c)) ∧ w = w' := by
  unfold withinB
  go_enter Tryz.func53, Tryz.ntmps53
  go_wp2
  all_goals (go_ret; exact ⟨by simp [*]; try omega, rfl⟩)

def nodeB (n v : Int) : Bool := withinB v 0 (wrap64 (n - 1))
set_option maxHeartbeats 400000 in
theorem node_any (n : Int) (l : Value) (v : Int) (w : World) :
    Calls Tryz.prog 39 #[.agg #[.int .i64 n, l], .int .i64 v] w fun e w' => e = .returned (.bool (nodeB n v)) ∧ w.alloc (.cells #[.int .i64 n, l] 24) = w' := by
  unfold nodeB
  go_enter Tryz.func39, Tryz.ntmps39
  go_wp2_with (go_at_call 53; refine (within_any _ _ _ _).mono ?_; rintro e w' ⟨rfl, rfl⟩)
  go_ret
  exact ⟨rfl, rfl⟩

/-- What a closure that answers a bool owes. -/
def TestsInt (fn : FuncId) (cap : Array Value) (p : Int → Bool) (l : List Int) (w : World) : Prop :=
  ∀ (y : Int) (W : World), y ∈ l → Below w.heap.size w W → Calls Tryz.prog fn (#[.int .i64 y] ++ cap) W fun e W' => e = .returned (.bool (p y)) ∧ Below W.heap.size W W'
set_option maxRecDepth 100000 in
set_option maxHeartbeats 400000 in
theorem indexFunc_int (fn : FuncId) (cap : Array Value) (p : Int → Bool) (A : Option Addr) (c : Nat) (l : List Int) (w : World) (hl : l.length ≤ 140737488351232) (h : IntsAt w A l) (hcf : ∀ args w, (callFunc fn args).run Tryz.prog w = .ok (.enter fn args) w) (HC : TestsInt fn cap p l w) :
    Calls Tryz.prog 75 #[.slice A l.length c, .func (.func fn) #[] cap] w fun e w' => (∃ r, e = .returned (.int .i64 r) ∧ decide (0 ≤ r) = l.any p) ∧ Below w.heap.size w w' := by
  have H := Lib.hid h
  clear h
  go_enter Tryz.func75, Tryz.ntmps75
  go_wp2
  go_loopw [5, 8] (fun _ i wr => ∃ k : Nat, k ≤ l.length ∧ i = .int .i64 k ∧ Hid (∀ j : Nat, j < k → p (gi l j) = false) ∧ Below w.heap.size w wr) (fun _ i _ => l.length - (intOf i).toNat)
  case atStart => exact ⟨0, by omega, rfl, Lib.hid (by simp), Below.refl _ _⟩
  case round =>
    obtain ⟨k, hk, rfl, hbad, hB⟩ := hrel
    by_cases hlt : k < l.length
    · obtain ⟨b, o, rfl, g1⟩ := (H.out.below hB).nat k hlt
      have hc := HC (gi l k) wr (gi_mem (by omega) (by omega)) hB
      cases hp : p (gi l k)
      all_goals
        have Hp := Lib.hid hp
        rw [hp] at hc
        clear hp
        have HC' := Lib.hid hc
        clear hc
        go_wp2_with fail
        refine HC'.out.mono ?_
        rintro e w1 ⟨rfl, hb⟩
        go_wp2
      · refine ⟨⟨k + 1, by omega, by go_num, Lib.hid fun j hj => ?_, hB.trans (hb.mono hB.size)⟩, by simp [intOf]; omega⟩
        rcases Nat.lt_succ_iff_lt_or_eq.1 hj with h | rfl
        · exact hbad.out j h
        · exact Hp.out
      · go_ret
        exact ⟨⟨k, rfl, by rw [any_gi_true (by omega) (by omega) Hp.out]; simp⟩, hB.trans (hb.mono hB.size)⟩
    · go_wp2
      go_ret
      obtain rfl : k = l.length := by omega
      exact ⟨⟨_, rfl, by rw [any_gi_false hbad.out]; rfl⟩, hB⟩

set_option maxHeartbeats 400000 in
theorem containsFunc_int (fn : FuncId) (cap : Array Value) (p : Int → Bool) (A : Option Addr) (c : Nat) (l : List Int) (w : World) (hl : l.length ≤ 140737488351232) (h : IntsAt w A l) (hcf : ∀ args w, (callFunc fn args).run Tryz.prog w = .ok (.enter fn args) w) (HC : TestsInt fn cap p l w) :
    Calls Tryz.prog 51 #[.slice A l.length c, .func (.func fn) #[] cap] w fun e w' => e = .returned (.bool (l.any p)) ∧ Below w.heap.size w w' := by
  have hix := Lib.hid (indexFunc_int fn cap p A c l w hl h hcf HC)
  clear h hcf HC
  go_enter Tryz.func51, Tryz.ntmps51
  go_wp2_with fail
  refine hix.out.mono ?_
  rintro e w1 ⟨⟨r, rfl, hr⟩, hb⟩
  have Hr := Lib.hid hr
  clear hr
  go_wp2
  go_ret
  exact ⟨ret_bool Hr.out, hb⟩

def TestsLk (fn : FuncId) (cap : Array Value) (p : Lk → Bool) (l : List Lk) (w : World) : Prop :=
  ∀ (y : Lk) (W : World), y ∈ l → Below w.heap.size w W → Calls Tryz.prog fn (#[.agg #[.int .i64 y.a, .int .i64 y.b, .int .i64 y.m]] ++ cap) W fun e W' => e = .returned (.bool (p y)) ∧ Below W.heap.size W W'
set_option maxRecDepth 100000 in
set_option maxHeartbeats 400000 in
theorem indexFunc_lk (fn : FuncId) (cap : Array Value) (p : Lk → Bool) (A : Option Addr) (c : Nat) (l : List Lk) (w : World) (hl : l.length ≤ 140737488351232) (h : LksAt w A l) (hcf : ∀ args w, (callFunc fn args).run Tryz.prog w = .ok (.enter fn args) w) (HC : TestsLk fn cap p l w) :
    Calls Tryz.prog 88 #[.slice A l.length c, .func (.func fn) #[] cap] w fun e w' => (∃ r, e = .returned (.int .i64 r) ∧ decide (0 ≤ r) = l.any p) ∧ Below w.heap.size w w' := by
  have H := Lib.hid h
  clear h
  go_enter Tryz.func88, Tryz.ntmps88
  go_wp2
  go_loopw [5, 8] (fun _ i wr => ∃ k : Nat, k ≤ l.length ∧ i = .int .i64 k ∧ Hid (∀ j : Nat, j < k → p (gl l j) = false) ∧ Below w.heap.size w wr) (fun _ i _ => l.length - (intOf i).toNat)
  case atStart => exact ⟨0, by omega, rfl, Lib.hid (by simp), Below.refl _ _⟩
  case round =>
    obtain ⟨k, hk, rfl, hbad, hB⟩ := hrel
    by_cases hlt : k < l.length
    · obtain ⟨b, o, rfl, g1, g2, g3⟩ := (H.out.below hB).nat k hlt
      have hc := HC (gl l k) wr (gl_mem (by omega) (by omega)) hB
      cases hp : p (gl l k)
      all_goals
        have Hp := Lib.hid hp
        rw [hp] at hc
        clear hp
        have HC' := Lib.hid hc
        clear hc
        go_wp2_with fail
        refine HC'.out.mono ?_
        rintro e w1 ⟨rfl, hb⟩
        go_wp2
      · refine ⟨⟨k + 1, by omega, by go_num, Lib.hid fun j hj => ?_, hB.trans (hb.mono hB.size)⟩, by simp [intOf]; omega⟩
        rcases Nat.lt_succ_iff_lt_or_eq.1 hj with h | rfl
        · exact hbad.out j h
        · exact Hp.out
      · go_ret
        exact ⟨⟨k, rfl, by rw [any_gl_true (by omega) (by omega) Hp.out]; simp⟩, hB.trans (hb.mono hB.size)⟩
    · go_wp2
      go_ret
      obtain rfl : k = l.length := by omega
      exact ⟨⟨_, rfl, by rw [any_gl_false hbad.out]; rfl⟩, hB⟩

set_option maxHeartbeats 400000 in
theorem containsFunc_lk (fn : FuncId) (cap : Array Value) (p : Lk → Bool) (A : Option Addr) (c : Nat) (l : List Lk) (w : World) (hl : l.length ≤ 140737488351232) (h : LksAt w A l) (hcf : ∀ args w, (callFunc fn args).run Tryz.prog w = .ok (.enter fn args) w) (HC : TestsLk fn cap p l w) :
    Calls Tryz.prog 72 #[.slice A l.length c, .func (.func fn) #[] cap] w fun e w' => e = .returned (.bool (l.any p)) ∧ Below w.heap.size w w' := by
  have hix := Lib.hid (indexFunc_lk fn cap p A c l w hl h hcf HC)
  clear h hcf HC
  go_enter Tryz.func72, Tryz.ntmps72
  go_wp2_with fail
  refine hix.out.mono ?_
  rintro e w1 ⟨⟨r, rfl, hr⟩, hb⟩
  have Hr := Lib.hid hr
  clear hr
  go_wp2
  go_ret
  exact ⟨ret_bool Hr.out, hb⟩

theorem cf109 : ∀ args w, (callFunc 69 args).run Tryz.prog w = .ok (.enter 69 args) w := fun _ _ => by kernel_rfl
theorem cf111 : ∀ args w, (callFunc 73 args).run Tryz.prog w = .ok (.enter 73 args) w := fun _ _ => by kernel_rfl
set_option maxHeartbeats 400000 in
theorem are1_any (a : Int) (w : World) :
    Calls Tryz.prog 69 #[.int .i64 a] w fun e w' => e = .returned (.bool (!withinB a (-1099511627776) 1099511627776)) ∧ w = w' := by
  go_enter Tryz.func69, Tryz.ntmps69
  go_wp2_with (go_at_call 53; refine (within_any _ _ _ _).mono ?_; rintro e w' ⟨rfl, rfl⟩)
  go_ret
  exact ⟨rfl, rfl⟩
def areB (n : Int) (x : List Int) : Bool := decide ((x.length : Int) = n) && !x.any (fun v => !withinB v (-1099511627776) 1099511627776)
set_option maxHeartbeats 400000 in
theorem are_any (n : Int) (L : Value) (A : Option Addr) (c : Nat) (x : List Int) (w : World) (hl : x.length ≤ 140737488351232) (h : IntsAt w A x) :
    Calls Tryz.prog 46 #[.agg #[.int .i64 n, L], .slice A x.length c] w fun e w' => e = .returned (.bool (areB n x)) ∧ Below w.heap.size w w' := by
  have H := Lib.hid h
  clear h
  by_cases hn : (x.length : Int) = n
  · have hn' : ((x.length : Int) == n) = true := by simpa using hn
    have HN := Lib.hid hn
    clear hn
    go_enter Tryz.func46, Tryz.ntmps46
    go_wp2_with (go_at_call 51; refine (containsFunc_int 69 #[] (fun v => !withinB v (-1099511627776) 1099511627776) A c x _ hl (H.out.alloc _) cf109 (fun y W _ _ => (are1_any y W).mono fun e W' ⟨h1, h2⟩ => ⟨h1, h2 ▸ Below.refl _ _⟩)).mono ?_; rintro e w1 ⟨rfl, hb⟩)
    go_ret
    exact ⟨by simp [areB, HN.out], (Below.alloc (Below.refl _ _) (Nat.le_refl _) _).trans (hb.mono (by simp))⟩
  · have hn' : ((x.length : Int) == n) = false := by simpa using hn
    have HN := Lib.hid hn
    clear hn
    go_enter Tryz.func46, Tryz.ntmps46
    go_wp2
    go_ret
    exact ⟨by simp [areB, HN.out], bel⟩

def overB (x : List Int) (k : Lk) : Bool := decide (wrap64 (gi x k.a + k.m) < gi x k.b)
def InR (n : Int) (k : Lk) : Prop := 0 ≤ k.a ∧ k.a < n ∧ 0 ≤ k.b ∧ k.b < n
set_option maxHeartbeats 400000 in
theorem fits1_any (y : Lk) (g : Nat) (A : Option Addr) (c : Nat) (x : List Int) (w : World) (hl : x.length ≤ 140737488351232) (h : IntsAt w A x) (hg : w.cell? ⟨g, 0, none⟩ = some (.slice A x.length c)) (hy : InR x.length y) :
    Calls Tryz.prog 73 #[.agg #[.int .i64 y.a, .int .i64 y.b, .int .i64 y.m], .pointer (some ⟨g, 0, none⟩)] w fun e w' => e = .returned (.bool (overB x y)) ∧ Below w.heap.size w w' := by
  obtain ⟨h1, h2, h3, h4⟩ := hy
  obtain ⟨b, o, rfl, ga⟩ := h _ h1 h2
  obtain ⟨b', o', e, gb⟩ := h _ h3 h4
  obtain ⟨rfl, rfl⟩ : b = b' ∧ o = o' := by simpa using e
  clear e h
  unfold overB
  have hz := World.block_lt_of_cell? w _ hg
  have hz2 := World.block_lt_of_cell? w _ ga
  dsimp only at hz hz2
  go_enter Tryz.func73, Tryz.ntmps73
  go_wp2
  go_quiet (fail)
  go_wp2
  go_ret
  exact ⟨rfl, bel⟩

def fitsB (x : List Int) (l : List Lk) : Bool := !l.any (overB x)
set_option maxHeartbeats 400000 in
theorem fits_any (n : Int) (A : Option Addr) (c : Nat) (l : List Lk) (B : Option Addr) (d : Nat) (x : List Int) (w : World) (hl : l.length ≤ 140737488351232) (hx : x.length ≤ 140737488351232) (h : LksAt w A l) (h' : IntsAt w B x) (hr : ∀ k ∈ l, InR x.length k) :
    Calls Tryz.prog 48 #[.agg #[.int .i64 n, .slice A l.length c], .slice B x.length d] w fun e w' => e = .returned (.bool (fitsB x l)) ∧ Below w.heap.size w w' := by
  have H := Lib.hid h
  have H' := Lib.hid h'
  have HR := Lib.hid hr
  clear h h' hr
  have HC : TestsLk 73 #[.pointer (some ⟨w.heap.size + 1, 0, none⟩)] (overB x) l ((w.alloc (.cells #[.int .i64 n, .slice A l.length c] 24)).alloc (.cells #[.slice B x.length d] 38)) := fun y W hy hW =>
    fits1_any y _ B d x W hx (((H'.out.alloc _).alloc _).below hW) (cell_below hW (by go_simp)) (HR.out y hy)
  go_enter Tryz.func48, Tryz.ntmps48
  go_wp2_with (go_at_call 72; refine (containsFunc_lk 73 _ (overB x) A c l _ hl ((H.out.alloc _).alloc _) cf111 HC).mono ?_; rintro e w1 ⟨rfl, hb⟩)
  go_ret
  exact ⟨rfl, below_trans bel hb⟩

def addW (s x : Int) : Int := wrap64 (s + x)
def sumW (l : List Int) : Int := l.foldl addW 0
def weightsB (n : Int) (w : List Int) : Bool := !w.any (fun x => !withinB x (-100000) 100000) && (decide ((w.length : Int) = n) && (sumW w == 0))
set_option maxHeartbeats 400000 in
theorem weights_any (n : Int) (L : Value) (A : Option Addr) (c : Nat) (x : List Int) (w : World) (hl : x.length ≤ 140737488351232) (h : IntsAt w A x) :
    Calls Tryz.prog 63 #[.agg #[.int .i64 n, L], .slice A x.length c] w fun e w' => e = .returned (.bool (weightsB n x)) ∧ Below w.heap.size w w' := by
  have H := Lib.hid h
  clear h
  go_enter Tryz.func63, Tryz.ntmps63
  go_wp2
  go_loopw [5, 7, 10] (fun s _ i wr => ∃ k : Nat, k ≤ x.length ∧ i = .int .i64 k ∧ s = .int .i64 ((x.take k).foldl addW 0) ∧ Hid (∀ j : Nat, j < k → (!withinB (gi x j) (-100000) 100000) = false) ∧ wr = w.alloc (.cells #[.int .i64 n, L] 24)) (fun _ _ i _ => x.length - (intOf i).toNat)
  case atStart => exact ⟨0, by omega, rfl, rfl, Lib.hid (by simp), rfl⟩
  case round =>
    obtain ⟨k, hk, rfl, rfl, hbad, rfl⟩ := hrel
    by_cases hlt : k < x.length
    · obtain ⟨b, o, rfl, g1⟩ := H.out.nat k hlt
      have hz := World.block_lt_of_cell? w _ g1
      dsimp only at hz
      have Hf := Lib.hid (fold_gi addW 0 x k hlt)
      cases hp : withinB (gi x k) (-100000) 100000
      all_goals
        go_wp2_with (go_at_call 53; refine (within_any _ _ _ _).mono ?_; rintro e w' ⟨rfl, rfl⟩)
      · go_ret
        exact ⟨ret_bool (by unfold weightsB; rw [any_gi_true (f := fun x => !withinB x (-100000) 100000) (i := k) (by omega) (by omega) (by simp only [hp]; rfl)]; rfl), bel⟩
      · refine ⟨⟨k + 1, by omega, by go_num, by rw [Hf.out]; rfl, Lib.hid fun j hj => ?_, trivial⟩, by simp [intOf]; omega⟩
        rcases Nat.lt_succ_iff_lt_or_eq.1 hj with h | rfl
        · exact hbad.out j h
        · simp [hp]
    · obtain rfl : k = x.length := by omega
      have hs : (x.take x.length).foldl addW 0 = sumW x := by rw [List.take_length]; rfl
      rw [hs]
      have Ha := Lib.hid (any_gi_false (f := fun x => !withinB x (-100000) 100000) hbad.out)
      by_cases hn : (x.length : Int) = n
      · have hn' : ((x.length : Int) == n) = true := by simpa using hn
        have HN := Lib.hid hn
        clear hn
        go_wp2
        go_ret
        exact ⟨ret_bool (by unfold weightsB; rw [Ha.out]; simp [HN.out]), bel⟩
      · have hn' : ((x.length : Int) == n) = false := by simpa using hn
        have HN := Lib.hid hn
        clear hn
        go_wp2
        go_ret
        exact ⟨ret_bool (by unfold weightsB; rw [Ha.out]; simp [HN.out]), bel⟩

end Go.Proofs.YtmhiiomejopaoaaGreatDoor
