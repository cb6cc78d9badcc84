/- The flow walks, fourth part: rows that are made. -/
import Derived.Test.YtmhiiomejopaoaaF3
import Derived.Test.YtmhiiomejopaoaaB2
namespace Go.Proofs.Ytmhiiomejopaoaa
set_option linter.all false
open Go.RowKit

theorem own_empty (w : World) (e sz : Nat) : (w.alloc (.cells #[] e)).ownsRow w.heap.size e sz (.slice (some ⟨w.heap.size, 0, none⟩) 0 0) 0 [] :=
  World.ownsRow_lit w #[] 0 (Nat.le_refl _) (by simp [maxLen]) (by simp)
theorem below_own {B : Nat} {w0 w w' : World} {v : Value} (h : Below B w0 w) (hg : w.grownBy w' v.ownBlock) (hB : B ≤ w.heap.size) (hv : ∀ b, v.ownBlock = some b → B ≤ b) : Below B w0 w' :=
  h.grown hg hB hv
set_option maxHeartbeats 400000 in
theorem clone_ints (A : Option Addr) (c : Nat) (l : List Int) (w : World) (hl : l.length ≤ 1000000) (hnil : A = none → l.length = 0 ∧ c = 0) (h : IntsAt w A l) :
    Calls Try.prog 97 #[.slice A l.length c] w fun e w' => ∃ v, e = .returned v ∧ w'.ownsRow w.heap.size 3 1 v l.length (ints l) ∧ Below w.heap.size w w' := by
  have H := Lib.hid h
  have HN := Lib.hid hnil
  clear h hnil
  cases A with
  | none =>
    obtain ⟨h0, rfl⟩ := HN.out rfl
    obtain rfl : l = [] := List.eq_nil_of_length_eq_zero h0
    have heq := Lib.run_eql_slice_nil (P := Try.prog) w 25 3 none 0 0 0 0 Try.underlying25
    simp only [List.length_nil]
    clear H HN h0
    go_enter Try.func97, Try.ntmps97
    go_wp2
    go_ret
    exact ⟨_, rfl, World.ownsRow_nil _ _ _ _, bel⟩
  | some ad =>
    have heq := Lib.run_eql_slice_nil (P := Try.prog) w 25 3 (some ad) l.length c 0 0 Try.underlying25
    go_enter Try.func97, Try.ntmps97
    go_wp2_with (at_builtin; refine app_many rfl _ _ 25 3 (.int .i64 0) 1 8 rfl Try.underlying25 info3 rfl (by omega) (.slice (some ⟨w.heap.size, 0, none⟩) 0 0) 0 [] (ints l) l.length c (some ad) rfl rfl (fun e => by cases e) (by simp [ints]) (ints_one l) (H.out.alloc _).cells w.heap.size (own_empty w 3 1) (by simp) (by omega) (by unfold maxLen; omega) ?_; intro v1 w1 ho hg _)
    go_ret
    exact ⟨_, rfl, by simpa using ho, below_own (Below.alloc (Below.refl _ _) (Nat.le_refl _) _) hg (by simp) (fun b e => by cases e; exact Nat.le_refl _)⟩
set_option maxHeartbeats 400000 in
theorem clone_lks (A : Option Addr) (c : Nat) (l : List Lk) (w : World) (hl : l.length ≤ 1000000) (hnil : A = none → l.length = 0 ∧ c = 0) (h : LksAt w A l) :
    Calls Try.prog 103 #[.slice A l.length c] w fun e w' => ∃ v, e = .returned v ∧ w'.ownsRow w.heap.size 39 3 v l.length (lkcs l) ∧ Below w.heap.size w w' := by
  have H := Lib.hid h
  have HN := Lib.hid hnil
  clear h hnil
  cases A with
  | none =>
    obtain ⟨h0, rfl⟩ := HN.out rfl
    obtain rfl : l = [] := List.eq_nil_of_length_eq_zero h0
    have heq := Lib.run_eql_slice_nil (P := Try.prog) w 22 39 none 0 0 0 0 Try.underlying22
    simp only [List.length_nil]
    clear H HN h0
    go_enter Try.func103, Try.ntmps103
    go_wp2
    go_ret
    exact ⟨_, rfl, World.ownsRow_nil _ _ _ _, bel⟩
  | some ad =>
    have heq := Lib.run_eql_slice_nil (P := Try.prog) w 22 39 (some ad) l.length c 0 0 Try.underlying22
    go_enter Try.func103, Try.ntmps103
    go_wp2_with (at_builtin; refine app_many rfl _ _ 22 39 (.agg #[.int .i64 0, .int .i64 0, .int .i64 0]) 3 24 rfl Try.underlying22 info39 rfl (by omega) (.slice (some ⟨w.heap.size, 0, none⟩) 0 0) 0 [] (lkcs l) l.length c (some ad) rfl rfl (fun e => by cases e) (lkcs_length l) (lkcs_one l) (H.out.alloc _).cells w.heap.size (own_empty w 39 3) (by simp) (by omega) (by unfold maxLen; omega) ?_; intro v1 w1 ho hg _)
    go_ret
    exact ⟨_, rfl, by simpa using ho, below_own (Below.alloc (Below.refl _ _) (Nat.le_refl _) _) hg (by simp) (fun b e => by cases e; exact Nat.le_refl _)⟩

/-- A row behind a step: what the next round wants. -/
structure OwnL (B : Nat) (w0 w : World) (v : Value) (l : List Lk) : Prop where
  row : w.ownsRow B 39 3 v l.length (lkcs l)
  below : Below B w0 w
  hB : B ≤ w.heap.size
structure OwnN (B : Nat) (w0 w : World) (v : Value) (l : List Int) : Prop where
  row : w.ownsRow B 3 1 v l.length (ints l)
  below : Below B w0 w
  hB : B ≤ w.heap.size
theorem OwnL.alloc {B : Nat} {w0 w : World} {v : Value} {l : List Lk} (h : OwnL B w0 w v l) (o : Obj) : OwnL B w0 (w.alloc o) v l := ⟨h.row.alloc o, h.below.alloc h.hB o, by have := h.hB; simp; omega⟩
theorem OwnN.alloc {B : Nat} {w0 w : World} {v : Value} {l : List Int} (h : OwnN B w0 w v l) (o : Obj) : OwnN B w0 (w.alloc o) v l := ⟨h.row.alloc o, h.below.alloc h.hB o, by have := h.hB; simp; omega⟩
theorem OwnL.calls {B : Nat} {w0 w w' : World} {v : Value} {l : List Lk} (h : OwnL B w0 w v l) (hb : Below w.heap.size w w') : OwnL B w0 w' v l :=
  ⟨h.row.kept (row := none) ⟨hb.os, hb.tape, hb.output, hb.size, fun k hk _ => hb.block k hk⟩ (by cases v.ownBlock <;> simp), h.below.trans (hb.mono h.hB), Nat.le_trans h.hB hb.size⟩
theorem OwnN.calls {B : Nat} {w0 w w' : World} {v : Value} {l : List Int} (h : OwnN B w0 w v l) (hb : Below w.heap.size w w') : OwnN B w0 w' v l :=
  ⟨h.row.kept (row := none) ⟨hb.os, hb.tape, hb.output, hb.size, fun k hk _ => hb.block k hk⟩ (by cases v.ownBlock <;> simp), h.below.trans (hb.mono h.hB), Nat.le_trans h.hB hb.size⟩
theorem OwnL.appended {B : Nat} {w0 w w' : World} {v v' : Value} {l : List Lk} {x : Lk} (h : OwnL B w0 w v l) (ho : w'.ownsRow B 39 3 v' (l.length + 1) (lkcs l ++ lkc x)) (hg : w.grownBy w' v.ownBlock) : OwnL B w0 w' v' (l ++ [x]) :=
  ⟨by rw [List.length_append]; simpa [lkcs] using ho, h.below.grown hg h.hB (fun k e => (h.row.lt k e).1), Nat.le_trans h.hB hg.size⟩
theorem OwnN.appended {B : Nat} {w0 w w' : World} {v v' : Value} {l : List Int} {x : Int} (h : OwnN B w0 w v l) (ho : w'.ownsRow B 3 1 v' (l.length + 1) (ints l ++ [.int .i64 x])) (hg : w.grownBy w' v.ownBlock) : OwnN B w0 w' v' (l ++ [x]) :=
  ⟨by rw [List.length_append]; simpa [ints] using ho, h.below.grown hg h.hB (fun k e => (h.row.lt k e).1), Nat.le_trans h.hB hg.size⟩

def turnedL (l : List Int) : List Int := l.map fun x => wrap64 (-x)
set_option maxRecDepth 100000 in
set_option maxHeartbeats 400000 in
theorem turned_any (A : Option Addr) (c : Nat) (l : List Int) (w : World) (hl : l.length ≤ 1000000) (h : IntsAt w A l) :
    Calls Try.prog 78 #[.slice A l.length c] w fun e w' => ∃ v, e = .returned v ∧ w'.ownsRow w.heap.size 3 1 v l.length (ints (turnedL l)) ∧ Below w.heap.size w w' := by
  have H := Lib.hid h
  clear h
  go_enter Try.func78, Try.ntmps78
  go_wp2
  go_loopw [3, 5, 8] (fun v _ i wr => ∃ k : Nat, k ≤ l.length ∧ i = .int .i64 k ∧ Hid (OwnN w.heap.size w wr v (turnedL (l.take k)))) (fun _ _ i _ => l.length - (intOf i).toNat)
  case atStart => exact ⟨0, by omega, rfl, Lib.hid ⟨World.ownsRow_nil _ _ _ _, Below.refl _ _, Nat.le_refl _⟩⟩
  case round =>
    obtain ⟨k, hk, rfl, HO⟩ := hrel
    by_cases hlt : k < l.length
    · obtain ⟨b, o, rfl, g1⟩ := (H.out.below HO.out.below).nat k hlt
      have hz := World.block_lt_of_cell? _ _ g1
      dsimp only at hz
      have hkl : (turnedL (l.take k)).length ≤ 1000000 := by simp [turnedL]; omega
      have Hs := Lib.hid (show turnedL (l.take k) ++ [wrap64 (-gi l k)] = turnedL (l.take (k + 1)) by rw [take_gi l k hlt]; simp [turnedL])
      go_wp2_with (at_builtin; refine app_one rfl _ _ 25 3 (.int .i64 0) 1 8 rfl Try.underlying25 info3 rfl (by omega) u3 _ _ [.int .i64 (wrap64 (-gi l k))] rfl rfl (by simp) rfl (one1 _ _) w.heap.size HO.out.row HO.out.hB (by omega) (by unfold maxLen; omega) ?_; intro v1 w1 ho hg _)
      go_roundw
      case rel => exact ⟨k + 1, by omega, by go_num, Lib.hid (by rw [← Hs.out]; exact HO.out.appended ho hg)⟩
      case measure => simp [intOf]; omega
    · go_wp2
      go_ret
      obtain rfl : k = l.length := by omega
      have := HO.out.row
      rw [List.take_length] at this
      exact ⟨_, rfl, by simpa [turnedL] using this, HO.out.below⟩
end Go.Proofs.Ytmhiiomejopaoaa
