/- The flow walks, seventh part. -/
import Derived.Test.YtmhiiomejopaoaaGreatDoorF4
namespace Go.Proofs.YtmhiiomejopaoaaGreatDoor
set_option linter.all false
set_option maxRecDepth 100000
open Go.RowKit

def badLk (n : Int) (l : Lk) : Bool := !nodeB n l.a || (!nodeB n l.b || (l.a == l.b || !withinB l.m (-17179869184) 17179869184))
def checkL (n : Int) (l : List Lk) : Int := if !withinB n 1 50 then 1 else if 260 < l.length then 2 else if l.any (badLk n) then 1 else 0
set_option maxRecDepth 100000 in
set_option maxHeartbeats 400000 in
theorem check_any (n : Int) (A : Option Addr) (c : Nat) (l : List Lk) (w : World) (hl : l.length ≤ 9223372036854775807) (h : LksAt w A l) :
    Calls Tryz.prog 25 #[.agg #[.int .i64 n, .slice A l.length c]] w fun e w' => e = .returned (.int .i64 (checkL n l)) ∧ Below w.heap.size w w' := by
  have H := Lib.hid h
  clear h
  go_enter Tryz.func25, Tryz.ntmps25
  cases hn : withinB n 1 50
  · go_wp2_with (go_at_call 53; refine (within_any _ _ _ _).mono ?_; rintro e w' ⟨rfl, rfl⟩)
    go_ret
    exact ⟨ret_int (by simp [checkL, hn]), bel⟩
  · by_cases hn3 : l.length ≤ 260
    · go_wp2_with (go_at_call 53; refine (within_any _ _ _ _).mono ?_; rintro e w' ⟨rfl, rfl⟩)
      go_loopw [16] (fun i wr => ∃ k : Nat, k ≤ l.length ∧ i = .int .i64 k ∧ Hid (∀ j : Nat, j < k → badLk n (gl l j) = false) ∧ Below w.heap.size w wr ∧ wr.cell? ⟨w.heap.size, 0, none⟩ = some (.int .i64 n) ∧ wr.cell? ⟨w.heap.size, 1, none⟩ = some (.slice A l.length c)) (fun i _ => l.length - (intOf i).toNat)
      case atStart => exact ⟨0, by omega, rfl, Lib.hid (by simp), bel, by simp, by simp⟩
      case round =>
        obtain ⟨k, hk, rfl, hbad, hB, hc0, hc1⟩ := hrel
        have hz := World.block_lt_of_cell? wr _ hc0
        dsimp only at hz
        by_cases hlt : k < l.length
        · obtain ⟨b, o, rfl, g1, g2, g3⟩ := (H.out.below hB).nat k hlt
          generalize hx : gl l k = x at g1 g2 g3
          have Hx := Lib.hid hx
          clear hx
          have Hone := Lib.hid (fun (hb : badLk n x = true) => any_gl_true (f := badLk n) (l := l) (i := (k : Int)) (by omega) (by omega) (by rw [Hx.out]; exact hb))
          have Hn := Lib.hid hn
          clear hn
          go_wp2_with (first | (go_at_call 53; refine (within_any _ _ _ _).mono ?_; rintro e w' ⟨rfl, rfl⟩) | (go_at_call 39; refine (node_any _ _ _ _).mono ?_; rintro e w1 ⟨rfl, rfl⟩))
          all_goals first
            | (go_ret; exact ⟨ret_int (by rw [checkL, Hn.out, Hone.out (by simp_all [badLk])]; simp [show ¬ 260 < l.length by omega]), bel⟩)
            | (refine ⟨⟨k + 1, by omega, by go_num, Lib.hid fun j hj => ?_, bel, cel, cel⟩, by simp [intOf]; omega⟩
               rcases Nat.lt_succ_iff_lt_or_eq.1 hj with h | rfl
               · exact hbad.out j h
               · rw [Hx.out]; simp_all [badLk])
        · go_wp2
          go_ret
          obtain rfl : k = l.length := by omega
          exact ⟨ret_int (by rw [checkL, any_gl_false hbad.out, hn]; simp [show ¬ 260 < l.length by omega]), hB⟩
    · go_wp2_with (go_at_call 53; refine (within_any _ _ _ _).mono ?_; rintro e w' ⟨rfl, rfl⟩)
      go_ret
      exact ⟨ret_int (by simp [checkL, hn, show 260 < l.length by omega]), bel⟩

def askedI (n : Int) (l : List Lk) (x : List Int) : Int := if checkL n l ≠ 0 then checkL n l else if weightsB n x then 0 else 1
set_option maxHeartbeats 400000 in
theorem asked_any (n : Int) (A : Option Addr) (c : Nat) (l : List Lk) (B : Option Addr) (d : Nat) (x : List Int) (w : World) (hl : l.length ≤ 9223372036854775807) (hx : x.length ≤ 140737488351232) (h : LksAt w A l) (h' : IntsAt w B x) :
    Calls Tryz.prog 36 #[.agg #[.int .i64 n, .slice A l.length c], .slice B x.length d] w fun e w' => e = .returned (.int .i64 (askedI n l x)) ∧ Below w.heap.size w w' := by
  have H := Lib.hid h
  have H' := Lib.hid h'
  clear h h'
  by_cases hc : checkL n l = 0
  · have hc' : (checkL n l != 0) = false := by simpa using hc
    have HC := Lib.hid hc
    clear hc
    cases hw : weightsB n x
    all_goals
      go_enter Tryz.func36, Tryz.ntmps36
      go_wp2_with (go_at_call 25; refine (check_any n A c l _ hl (H.out.alloc _)).mono ?_; rintro e w1 ⟨rfl, hb⟩; have hb' := Lib.hid hb; obtain ⟨hbc, hbf⟩ := bcell hb; clear hb)
      have hb2 := below_trans (bel : Below w.heap.size w (w.alloc (.cells #[.int .i64 n, .slice A l.length c] 24))) hb'.out
      have HB2 := Lib.hid hb2
      clear hb2
      go_wp2_with (go_at_call 63; refine (weights_any n _ B d x _ hx (H'.out.below HB2.out)).mono ?_; rintro e w2 ⟨rfl, hb3⟩)
      go_wp2
      go_ret
      exact ⟨ret_int (by simp [askedI, HC.out, hw]), below_trans HB2.out hb3⟩
  · have hc' : (checkL n l != 0) = true := by simpa using hc
    have HC := Lib.hid hc
    clear hc
    go_enter Tryz.func36, Tryz.ntmps36
    go_wp2_with (go_at_call 25; refine (check_any n A c l _ hl (H.out.alloc _)).mono ?_; rintro e w1 ⟨rfl, hb⟩)
    go_ret
    exact ⟨ret_int (by simp [askedI, HC.out]), below_trans bel hb⟩

def mulAdd (s : Int) (p : Int × Int) : Int := wrap64 (s + wrap64 (p.1 * p.2))
def valueI (w x : List Int) : Int := (w.zip x).foldl mulAdd 0
theorem zip_take (w x : List Int) (k : Nat) (h1 : k < w.length) (h2 : k < x.length) : (w.zip x).take (k + 1) = (w.zip x).take k ++ [(gi w k, gi x k)] := by
  rw [List.take_succ_eq_append_getElem (by simp; omega)]; simp [gi, List.getD_eq_getElem?_getD, h1, h2]
set_option maxRecDepth 100000 in
set_option maxHeartbeats 400000 in
theorem value_any (A : Option Addr) (c : Nat) (u : List Int) (B : Option Addr) (d : Nat) (x : List Int) (w : World) (hl : u.length ≤ 140737488351232) (hx : u.length ≤ x.length) (h : IntsAt w A u) (h' : IntsAt w B x) :
    Calls Tryz.prog 49 #[.slice A u.length c, .slice B x.length d] w fun e w' => e = .returned (.int .i64 (valueI u x)) ∧ Below w.heap.size w w' := by
  have H := Lib.hid h
  have H' := Lib.hid h'
  clear h h'
  go_enter Tryz.func49, Tryz.ntmps49
  go_wp2
  go_loopw [5, 6, 9] (fun s _ i wr => ∃ k : Nat, k ≤ u.length ∧ i = .int .i64 k ∧ s = .int .i64 (((u.zip x).take k).foldl mulAdd 0) ∧ Hid (Below w.heap.size w wr)) (fun _ _ i _ => u.length - (intOf i).toNat)
  case atStart => exact ⟨0, by omega, rfl, rfl, Lib.hid (Below.refl _ _)⟩
  case round =>
    obtain ⟨k, hk, rfl, rfl, HB⟩ := hrel
    by_cases hlt : k < u.length
    · obtain ⟨b, o, rfl, g1⟩ := (H.out.below HB.out).nat k hlt
      obtain ⟨b', o', rfl, g2⟩ := (H'.out.below HB.out).nat k (by omega)
      have hlt2 : k < x.length := by omega
      have Hf := Lib.hid (show ((u.zip x).take (k + 1)).foldl mulAdd 0 = wrap64 (((u.zip x).take k).foldl mulAdd 0 + wrap64 (gi u k * gi x k)) by rw [zip_take u x k hlt hlt2, List.foldl_append]; rfl)
      go_wp2
      go_quiet (fail)
      go_wp2
      go_roundw
      case rel => exact ⟨k + 1, by omega, by go_num, by rw [Hf.out], Lib.hid (below_drews HB.out _)⟩
      case measure => simp [intOf]; omega
    · go_wp2
      go_ret
      obtain rfl : k = u.length := by omega
      have e : (u.zip x).take u.length = u.zip x := List.take_of_length_le (by simp; omega)
      rw [e]
      exact ⟨rfl, HB.out⟩

theorem gi_map_m (l : List Lk) (k : Nat) (h : k < l.length) : gi (l.map (·.m)) k = (gl l k).m := by
  simp [gi, gl, List.getD_eq_getElem?_getD, h]
def costI (l : List Lk) (u : List Int) : Int := valueI u (l.map (·.m))
set_option maxRecDepth 100000 in
set_option maxHeartbeats 400000 in
theorem cost_any (n : Int) (A : Option Addr) (c : Nat) (l : List Lk) (B : Option Addr) (d : Nat) (u : List Int) (w : World) (hl : l.length ≤ 140737488351232) (hu : u.length = l.length) (h : LksAt w A l) (h' : IntsAt w B u) :
    Calls Tryz.prog 43 #[.agg #[.int .i64 n, .slice A l.length c], .slice B u.length d] w fun e w' => e = .returned (.int .i64 (costI l u)) ∧ Below w.heap.size w w' := by
  have H := Lib.hid h
  have H' := Lib.hid h'
  have HU := Lib.hid hu
  clear h h' hu
  go_enter Tryz.func43, Tryz.ntmps43
  go_wp2
  go_loopw [5, 6, 11] (fun s _ i wr => ∃ k : Nat, k ≤ l.length ∧ i = .int .i64 k ∧ s = .int .i64 (((u.zip (l.map (·.m))).take k).foldl mulAdd 0) ∧ Hid (Below w.heap.size w wr)) (fun _ _ i _ => l.length - (intOf i).toNat)
  case atStart => exact ⟨0, by omega, rfl, rfl, Lib.hid bel⟩
  case round =>
    obtain ⟨k, hk, rfl, rfl, HB⟩ := hrel
    by_cases hlt : k < l.length
    · have hlt2 : k < u.length := by have := HU.out; omega
      obtain ⟨b, o, rfl, g1, g2, g3⟩ := (H.out.below HB.out).nat k hlt
      obtain ⟨b', o', rfl, g4⟩ := (H'.out.below HB.out).nat k hlt2
      have hz := World.block_lt_of_cell? _ _ g4
      dsimp only at hz
      have hbs := HB.out.size
      have Hf := Lib.hid (show ((u.zip (l.map (·.m))).take (k + 1)).foldl mulAdd 0 = wrap64 (((u.zip (l.map (·.m))).take k).foldl mulAdd 0 + wrap64 (gi u k * (gl l k).m)) by rw [zip_take u _ k hlt2 (by simpa using hlt), List.foldl_append, gi_map_m l k hlt]; rfl)
      go_wp2
      go_quiet (fail)
      go_wp2
      go_roundw
      case rel => exact ⟨k + 1, by omega, by go_num, by rw [Hf.out], Lib.hid (below_drews (HB.out.alloc hbs _) _)⟩
      case measure => simp [intOf]; omega
    · go_wp2
      go_ret
      obtain rfl : k = l.length := by omega
      have e : (u.zip (l.map (·.m))).take l.length = u.zip (l.map (·.m)) := List.take_of_length_le (by simp; omega)
      rw [e]
      exact ⟨rfl, HB.out⟩

theorem cf113 : ∀ args w, (callFunc 68 args).run Tryz.prog w = .ok (.enter 68 args) w := fun _ _ => by kernel_rfl
theorem cf114 : ∀ args w, (callFunc 71 args).run Tryz.prog w = .ok (.enter 71 args) w := fun _ _ => by kernel_rfl
def badU (v : Int) : Bool := !withinB v 0 134217728
set_option maxHeartbeats 400000 in
theorem isFlow1_any (a : Int) (w : World) : Calls Tryz.prog 68 #[.int .i64 a] w fun e w' => e = .returned (.bool (badU a)) ∧ w = w' := by
  go_enter Tryz.func68, Tryz.ntmps68
  go_wp2_with (go_at_call 53; refine (within_any _ _ _ _).mono ?_; rintro e w' ⟨rfl, rfl⟩)
  go_ret
  exact ⟨rfl, rfl⟩
set_option maxHeartbeats 400000 in
theorem carries1_any (a : Int) (w : World) : Calls Tryz.prog 71 #[.int .i64 a] w fun e w' => e = .returned (.bool (a != 0)) ∧ w = w' := by
  go_enter Tryz.func71, Tryz.ntmps71
  go_wp2
  go_ret
  exact ⟨rfl, rfl⟩
def isFlowI (l : List Lk) (u : List Int) : Int := if (u.length != l.length) || u.any badU then 1 else if 134217728 < sumW u then 3 else 0
set_option maxRecDepth 100000 in
set_option maxHeartbeats 400000 in
theorem isFlow_any (n : Int) (A : Option Addr) (c : Nat) (l : List Lk) (B : Option Addr) (d : Nat) (u : List Int) (w : World) (hu : u.length ≤ 140737488351232) (h' : IntsAt w B u) :
    Calls Tryz.prog 45 #[.agg #[.int .i64 n, .slice A l.length c], .slice B u.length d] w fun e w' => e = .returned (.int .i64 (isFlowI l u)) ∧ Below w.heap.size w w' := by
  have H' := Lib.hid h'
  clear h'
  have HC : TestsInt 68 #[] badU u (w.alloc (.cells #[.int .i64 n, .slice A l.length c] 24)) := fun y W _ _ => (isFlow1_any y W).mono fun e W' ⟨h1, h2⟩ => ⟨h1, h2 ▸ Below.refl _ _⟩
  by_cases hn : u.length = l.length
  · have hn' : ((u.length : Int) != (l.length : Int)) = false := by simp; omega
    have HN := Lib.hid hn
    clear hn
    cases ha : u.any badU
    · have HA := Lib.hid ha
      go_enter Tryz.func45, Tryz.ntmps45
      go_wp2_with (go_at_call 51; refine (containsFunc_int 68 #[] badU B d u _ hu (H'.out.alloc _) cf113 HC).mono ?_; rintro e w1 ⟨rfl, hb⟩; have HB1 := Lib.hid (below_trans (bel : Below w.heap.size w _) hb); clear hb)
      clear ha
      go_loopw [5, 7, 20] (fun s _ i wr => ∃ k : Nat, k ≤ u.length ∧ i = .int .i64 k ∧ s = .int .i64 ((u.take k).foldl addW 0) ∧ wr = w1) (fun _ _ i _ => u.length - (intOf i).toNat)
      case atStart => exact ⟨0, by omega, rfl, rfl, rfl⟩
      case round =>
        obtain ⟨k, hk, rfl, rfl, rfl⟩ := hrel
        by_cases hlt : k < u.length
        · obtain ⟨b, o, rfl, g1⟩ := (H'.out.below HB1.out).nat k hlt
          have Hf := Lib.hid (fold_gi addW 0 u k hlt)
          go_wp2
          go_roundw
          case rel => exact ⟨k + 1, by omega, by go_num, by rw [Hf.out]; rfl, trivial⟩
          case measure => simp [intOf]; omega
        · obtain rfl : k = u.length := by omega
          have hs : (u.take u.length).foldl addW 0 = sumW u := by rw [List.take_length]; rfl
          rw [hs]
          have HN2 : (u.length != l.length) = false := by have := HN.out; simp; omega
          have HN3 := Lib.hid HN2
          clear HN2
          by_cases hgt : 134217728 < sumW u
          all_goals
            go_wp2
            go_ret
            exact ⟨ret_int (by simp only [isFlowI, HA.out, HN3.out]; simp [hgt]), HB1.out⟩
    · have HA := Lib.hid ha
      go_enter Tryz.func45, Tryz.ntmps45
      go_wp2_with (go_at_call 51; refine (containsFunc_int 68 #[] badU B d u _ hu (H'.out.alloc _) cf113 HC).mono ?_; rintro e w1 ⟨rfl, hb⟩)
      go_ret
      exact ⟨ret_int (by simp [isFlowI, HA.out]), below_trans bel hb⟩
  · have hn' : ((u.length : Int) != (l.length : Int)) = true := by simp; omega
    go_enter Tryz.func45, Tryz.ntmps45
    go_wp2
    go_ret
    exact ⟨ret_int (by simp [isFlowI, hn]), bel⟩

/-- What is owned and not empty lies in a row. -/
theorem own_form {w : World} {base n : Nat} {v : Value} {l : List Int} (h : w.ownsRow base 3 1 v n (ints l)) (h0 : 0 < n) : ∃ g c, v = .slice (some ⟨g, 0, none⟩) n c ∧ base ≤ g ∧ RowI w g l := by
  rcases h.2 with ⟨_, h1⟩ | ⟨g, cap, cur, rfl, hb, hh, hc, _⟩
  · omega
  · exact ⟨g, cap, rfl, hb, own_rowi h⟩

def moveU (left : List Int) (p : Lk × Int) : List Int :=
  si (si left p.1.b (wrap64 (gi left p.1.b - p.2))) p.1.a (wrap64 (gi (si left p.1.b (wrap64 (gi left p.1.b - p.2))) p.1.a + p.2))
def leftOf (l : List Lk) (w u : List Int) : List Int := (l.zip u).foldl moveU w
def carriesB (l : List Lk) (w u : List Int) : Bool := !(leftOf l w u).any (· != 0)
theorem moveU_length (s : List Int) (p : Lk × Int) : (moveU s p).length = s.length := by simp [moveU, si]
theorem foldl_moveU_length (l : List (Lk × Int)) : ∀ s : List Int, (l.foldl moveU s).length = s.length := by
  induction l with
  | nil => intro s; rfl
  | cons k l ih => intro s; rw [List.foldl_cons, ih, moveU_length]
theorem zipl_take (l : List Lk) (x : List Int) (k : Nat) (h1 : k < l.length) (h2 : k < x.length) : (l.zip x).take (k + 1) = (l.zip x).take k ++ [(gl l k, gi x k)] := by
  rw [List.take_succ_eq_append_getElem (by simp; omega)]; simp [gi, gl, List.getD_eq_getElem?_getD, h1, h2]
theorem TestsInt.of_same {fn : FuncId} {p : Int → Bool} (h : ∀ (a : Int) (w : World), Calls Tryz.prog fn #[.int .i64 a] w fun e w' => e = .returned (.bool (p a)) ∧ w = w') (l : List Int) (w : World) : TestsInt fn #[] p l w :=
  fun y W _ _ => (h y W).mono fun e W' ⟨h1, h2⟩ => ⟨h1, h2 ▸ Below.refl _ _⟩
theorem tn (i : Int) (h : 0 ≤ i) : ((i.toNat : Nat) : Int) = i := by omega
set_option maxRecDepth 100000 in
set_option maxHeartbeats 1000000 in
theorem carries_any (n : Int) (A : Option Addr) (c : Nat) (l : List Lk) (C : Option Addr) (f : Nat) (x : List Int) (B : Option Addr) (d : Nat) (u : List Int) (w : World) (hl : l.length ≤ 1000000) (hx : x.length ≤ 1000000) (hx0 : 0 < x.length) (hu : l.length ≤ u.length)
    (h : LksAt w A l) (h1 : IntsAt w C x) (h2 : IntsAt w B u) (hnil : C = none → x.length = 0 ∧ f = 0) (hr : ∀ k ∈ l, InR x.length k) :
    Calls Tryz.prog 47 #[.agg #[.int .i64 n, .slice A l.length c], .slice C x.length f, .slice B u.length d] w fun e w' => e = .returned (.bool (carriesB l x u)) ∧ Below w.heap.size w w' := by
  have H := Lib.hid h
  have H1 := Lib.hid h1
  have H2 := Lib.hid h2
  have HN := Lib.hid hnil
  have HR := Lib.hid hr
  clear h h1 h2 hnil hr
  go_enter Tryz.func47, Tryz.ntmps47
  go_wp2_with (go_at_call 70; refine (clone_ints C f x _ hx HN.out (H1.out.alloc _)).mono ?_; rintro e w1 ⟨v, rfl, ho, hb⟩; obtain ⟨g, cc, rfl, hg, hrow⟩ := own_form ho hx0; have HB1 := Lib.hid (below_trans (bel : Below w.heap.size w _) hb); have HG := Lib.hid hg; have HROW := Lib.hid hrow; obtain ⟨hbc, hbf⟩ := bcell hb; clear ho hb hg hrow)
  clear hbc hbf
  have hB0 := HB1.out.size
  have hg0 : w.heap.size < g := by have := HG.out; simp at this; omega
  go_loopw [8, 9, 15] (fun _ _ i wr => ∃ k : Nat, k ≤ l.length ∧ i = .int .i64 k ∧ Hid (RowI wr g (((l.zip u).take k).foldl moveU x)) ∧ Hid (Below w.heap.size w wr)) (fun _ _ i _ => l.length - (intOf i).toNat)
  case atStart => exact ⟨0, by omega, rfl, HROW, HB1⟩
  case round =>
    obtain ⟨k, hk, rfl, HZ, HB⟩ := hrel
    have Hlen := Lib.hid (foldl_moveU_length ((l.zip u).take k) x)
    generalize hz : ((l.zip u).take k).foldl moveU x = z at HZ Hlen
    have HZE := Lib.hid hz
    clear hz
    by_cases hlt : k < l.length
    · have hlt2 : k < u.length := by omega
      obtain ⟨b, o, rfl, g1, g2, g3⟩ := (H.out.below HB.out).nat k hlt
      obtain ⟨b', o', rfl, g4'⟩ := H2.out.nat k hlt2
      have hbl := World.block_lt_of_cell? _ _ g4'
      have g4 := cell_below HB.out g4'
      clear g4'
      dsimp only at hbl
      have hzz := HZ.out.lt
      obtain ⟨i1, i2, i3, i4⟩ := HR.out _ (gl_mem (l := l) (i := k) (by omega) (by omega))
      have Hf := Lib.hid (show ((l.zip u).take (k + 1)).foldl moveU x = moveU z (gl l k, gi u k) by rw [zipl_take l u k hlt hlt2, List.foldl_append, HZE.out]; rfl)
      generalize hq : gl l k = q at *
      generalize hy : gi u k = y at *
      have HQ := Lib.hid hq
      have HY := Lib.hid hy
      clear hq hy
      have hBs := HB.out.size
      obtain ⟨w2, hw2⟩ : ∃ w2, w2 = wr.alloc (.cells #[.int .i64 q.a, .int .i64 q.b, .int .i64 q.m] 51) := ⟨_, rfl⟩
      have d0 : w2.cell? ⟨wr.heap.size, 0, none⟩ = some (.int .i64 q.a) := by rw [hw2]; go_simp
      have d1 : w2.cell? ⟨wr.heap.size, 1, none⟩ = some (.int .i64 q.b) := by rw [hw2]; go_simp
      have d3 : w2.cell? ⟨b', o' + k, none⟩ = some (.int .i64 y) := by rw [hw2]; exact cell_alloc _ g4
      have R2 := Lib.hid (show RowI w2 g z by rw [hw2]; exact HZ.out.alloc _)
      have B2 := Lib.hid (show Below w.heap.size w w2 by rw [hw2]; exact HB.out.alloc hBs _)
      have c2 := R2.out.cell q.b.toNat (by have := Hlen.out; omega)
      have f2 := R2.out.frozen q.b.toNat
      rw [tn _ i3] at c2
      go_wp2
      rw [← hw2]
      have hgs : wr.heap.size ≠ g := by omega
      clear hw2
      go_still_tail 11, (by kernel_rfl)
      go_wp2
      obtain ⟨w3, hw3⟩ : ∃ w3, w3 = (w2.setCell ⟨g, q.b.toNat, none⟩ (.int .i64 (wrap64 (gi z q.b - y)))).drew := ⟨_, rfl⟩
      rw [← hw3]
      have e0 : w3.cell? ⟨wr.heap.size, 0, none⟩ = some (.int .i64 q.a) := by rw [hw3]; exact cell_otherd d0 (by simp only; omega)
      have e3 : w3.cell? ⟨b', o' + k, none⟩ = some (.int .i64 y) := by rw [hw3]; exact cell_otherd d3 (by simp only; omega)
      have R3 := Lib.hid (show RowI w3 g (si z q.b (wrap64 (gi z q.b - y))) by rw [hw3]; exact R2.out.set _ _)
      have B3 := Lib.hid (show Below w.heap.size w w3 by rw [hw3]; exact (B2.out.setCell (by simp only; omega) _).drew)
      generalize hzz' : si z q.b (wrap64 (gi z q.b - y)) = z' at R3
      have HZ' := Lib.hid hzz'
      clear hzz' hw3
      have c3 := R3.out.cell q.a.toNat (by rw [← HZ'.out]; have := Hlen.out; simp [si]; omega)
      have f3 := R3.out.frozen q.a.toNat
      rw [tn _ i1] at c3
      clear c2 f2 d0 d1 d3
      go_still_tail 11, (by kernel_rfl)
      go_wp2
      go_roundw
      case rel => exact ⟨k + 1, by omega, by go_num, Lib.hid (by rw [Hf.out]; unfold moveU; rw [HZ'.out]; exact R3.out.set _ _), Lib.hid ((B3.out.setCell (by simp only; omega) _).drew)⟩
      case measure => simp [intOf]; omega
    · obtain rfl : k = l.length := by omega
      have hzz : leftOf l x u = z := by rw [← HZE.out, List.take_of_length_le (by simp; omega)]; rfl
      have HZZ := Lib.hid hzz
      clear hzz
      have HLL := Lib.hid (show z.length = x.length from Hlen.out)
      have eqlen : z.length = x.length := Hlen.out
      have hcall := containsFunc_int 71 #[] (fun v => v != 0) (some ⟨g, 0, none⟩) cc z wr (by omega) HZ.out.ints cf114 (TestsInt.of_same carries1_any z wr)
      rw [eqlen] at hcall
      have HC := Lib.hid hcall
      clear hcall eqlen
      go_wp2_with (go_at_call 51; refine HC.out.mono ?_; rintro e w2 ⟨rfl, hb⟩)
      go_ret
      exact ⟨ret_bool (by rw [carriesB, HZZ.out]), HB.out.trans (hb.mono HB.out.size)⟩
end Go.Proofs.YtmhiiomejopaoaaGreatDoor
