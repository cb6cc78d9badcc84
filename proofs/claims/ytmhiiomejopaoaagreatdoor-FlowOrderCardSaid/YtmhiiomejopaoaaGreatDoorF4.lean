/- The flow walks, fourth part: rows that are made. -/
import Derived.Test.YtmhiiomejopaoaaGreatDoorF2
import Derived.Test.YtmhiiomejopaoaaGreatDoorB4
import Derived.StillTailTactics
namespace Go.Proofs.YtmhiiomejopaoaaGreatDoor
set_option linter.all false
set_option maxRecDepth 100000
open Go.RowKit

def free : Int := 1152921504606846976
def relax (s : List Int × Bool) (k : Lk) : List Int × Bool :=
  if gi s.1 k.a ≠ free ∧ overB s.1 k = true then (si s.1 k.b (wrap64 (gi s.1 k.a + k.m)), true) else s
def roundOf (l : List Lk) (x : List Int) : List Int × Bool := l.foldl relax (x, false)
def settledN (l : List Lk) : Nat → List Int → List Int × Bool
  | 0, x => (x, false)
  | r + 1, x => if (roundOf l x).2 then settledN l r (roundOf l x).1 else ((roundOf l x).1, true)
def settled (l : List Lk) (x : List Int) : List Int × Bool := settledN l (x.length + 1) x
theorem settledN_succ (l : List Lk) (r : Nat) (x : List Int) : settledN l (r + 1) x = if (roundOf l x).2 then settledN l r (roundOf l x).1 else ((roundOf l x).1, true) := rfl
theorem relax_length (s : List Int × Bool) (k : Lk) : (relax s k).1.length = s.1.length := by
  unfold relax si; split <;> simp
theorem foldl_relax_length (l : List Lk) : ∀ s : List Int × Bool, (l.foldl relax s).1.length = s.1.length := by
  induction l with
  | nil => intro s; rfl
  | cons k l ih => intro s; rw [List.foldl_cons, ih, relax_length]
theorem settledN_length (l : List Lk) : ∀ (r : Nat) (x : List Int), (settledN l r x).1.length = x.length
  | 0, x => rfl
  | r + 1, x => by
    unfold settledN
    split
    · rw [settledN_length l r, roundOf, foldl_relax_length]
    · rw [roundOf, foldl_relax_length]

set_option maxRecDepth 100000 in
set_option maxHeartbeats 1000000 in
theorem settled_any (l : List Lk) (A : Option Addr) (c : Nat) (x : List Int) (g d : Nat) (w : World) (hl : l.length ≤ 140737488351232) (hx : x.length ≤ 140737488351232) (h : LksAt w A l) (hg : RowI w g x)
    (hne : Apart A l.length (some g)) (hr : ∀ k ∈ l, InR x.length k) :
    Calls Tryz.prog 62 #[.slice A l.length c, .slice (some ⟨g, 0, none⟩) x.length d] w fun e w' => e = .returned (.bool (settled l x).2) ∧ RowI w' g (settled l x).1 ∧ w.grownBy w' (some g) := by
  have H := Lib.hid h
  have HR := Lib.hid hr
  have HNE := Lib.hid hne
  have HG := Lib.hid hg
  clear h hr hne hg
  go_enter Tryz.func62, Tryz.ntmps62
  go_wp2
  go_loopw [11] (fun i wr => ∃ (r : Nat) (y : List Int), r ≤ x.length + 1 ∧ i = .int .i64 r ∧ Hid (y.length = x.length) ∧ Hid (settled l x = settledN l (x.length + 1 - r) y) ∧ Hid (RowI wr g y) ∧ Hid (w.grownBy wr (some g))) (fun i _ => x.length + 1 - (intOf i).toNat)
  case atStart => exact ⟨0, x, by omega, rfl, Lib.hid rfl, Lib.hid rfl, HG, Lib.hid (grown_refl _ _)⟩
  case round =>
    obtain ⟨r, y, hrn, rfl, Hy, Hs, Hg, Hgr⟩ := hrel
    by_cases hlt : r < x.length + 1
    · have hlt2 : (r : Int) < (x.length : Int) + 1 := by omega
      go_wp2
      obtain ⟨wo, rfl⟩ : ∃ wo : World, wo = wr := ⟨_, rfl⟩
      go_loopw [5, 7, 15] (fun ch _ i wr => ∃ k : Nat, k ≤ l.length ∧ i = .int .i64 k ∧ ch = .bool ((l.take k).foldl relax (y, false)).2 ∧ Hid (RowI wr g ((l.take k).foldl relax (y, false)).1) ∧ Hid (w.grownBy wr (some g))) (fun _ _ i _ => l.length - (intOf i).toNat)
      case atStart => exact ⟨0, by omega, rfl, rfl, Hg, Hgr⟩
      case round =>
        obtain ⟨k, hk, rfl, rfl, Hz, Hgz⟩ := hrel
        have Hlen := Lib.hid (foldl_relax_length (l.take k) (y, false))
        generalize hs : (l.take k).foldl relax (y, false) = s at *
        have HS := Lib.hid hs
        clear hs
        obtain ⟨z, ch⟩ := s
        by_cases hkl : k < l.length
        · obtain ⟨b, o, rfl, g1, g2, g3⟩ := (H.out.grown Hgz.out HNE.out).nat k hkl
          have hb := World.block_lt_of_cell? _ _ g1
          dsimp only at hb
          have Hf := Lib.hid (fold_gl relax (y, false) l k hkl)
          obtain ⟨i1, i2, i3, i4⟩ := HR.out _ (gl_mem (l := l) (i := k) (by omega) (by omega))
          have hzl : z.length = x.length := Hlen.out.trans Hy.out
          have HZL := Lib.hid hzl
          generalize hq : gl l k = q at *
          have HQ := Lib.hid hq
          clear hq
          have ca := Hz.out.cell q.a.toNat (by simp only; omega)
          have cb := Hz.out.cell q.b.toNat (by simp only; omega)
          have fb := Hz.out.frozen q.b.toNat
          have hgl := Hz.out.lt
          simp only [show ((q.a.toNat : Nat) : Int) = q.a by omega, show ((q.b.toNat : Nat) : Int) = q.b by omega] at ca cb
          clear hzl
          cases hfr : (gi z q.a != 1152921504606846976)
          · have e : relax (z, ch) q = (z, ch) := by
              simp only [bne_eq_false_iff_eq] at hfr
              simp [relax, hfr, free]
            have HE := Lib.hid e
            clear e
            go_wp2
            go_quiet (fail)
            go_wp2
            go_roundw
            case rel => exact ⟨k + 1, by omega, by go_num, by rw [Hf.out, HS.out, HE.out], Lib.hid (by rw [Hf.out, HS.out, HE.out]; exact Hz.out.alloc _ |>.drews _), Lib.hid (grown_drews (grown_alloc Hgz.out _) _)⟩
            case measure => simp [intOf]; omega
          · cases hov : decide (wrap64 (gi z q.a + q.m) < gi z q.b)
            · have e : relax (z, ch) q = (z, ch) := by simp [relax, overB, hov]
              have HE := Lib.hid e
              clear e
              go_wp2
              go_quiet (fail)
              go_wp2
              go_roundw
              case rel => exact ⟨k + 1, by omega, by go_num, by rw [Hf.out, HS.out, HE.out], Lib.hid (by rw [Hf.out, HS.out, HE.out]; exact Hz.out.alloc _ |>.drews _), Lib.hid (grown_drews (grown_alloc Hgz.out _) _)⟩
              case measure => simp [intOf]; omega
            · have e : relax (z, ch) q = (si z q.b (wrap64 (gi z q.a + q.m)), true) := by
                simp only [bne_iff_ne] at hfr
                simp [relax, overB, hov, hfr, free]
              have HE := Lib.hid e
              clear e
              go_wp2
              go_quiet (fail)
              go_wp2
              obtain ⟨w2, hw2⟩ : ∃ w2, w2 = (wr.alloc (.cells #[.int .i64 q.a, .int .i64 q.b, .int .i64 q.m] 51)).drewN nq := ⟨_, rfl⟩
              rw [← hw2]
              have d0 : w2.cell? ⟨wr.heap.size, 0, none⟩ = some (.int .i64 q.a) := by rw [hw2]; go_simp
              have d1 : w2.cell? ⟨wr.heap.size, 1, none⟩ = some (.int .i64 q.b) := by rw [hw2]; go_simp
              have d2 : w2.cell? ⟨wr.heap.size, 2, none⟩ = some (.int .i64 q.m) := by rw [hw2]; go_simp
              have R2 : RowI w2 g z := by rw [hw2]; exact (Hz.out.alloc _).drews _
              have G2 : w.grownBy w2 (some g) := by rw [hw2]; exact grown_drews (grown_alloc Hgz.out _) _
              have c2 := R2.cell q.a.toNat (by have := HZL.out; omega)
              have c3 := R2.cell q.b.toNat (by have := HZL.out; omega)
              have f2 := R2.frozen q.b.toNat
              simp only [show ((q.a.toNat : Nat) : Int) = q.a by omega, show ((q.b.toNat : Nat) : Int) = q.b by omega] at c2 c3
              have HR2 := Lib.hid R2
              have HG2 := Lib.hid G2
              clear R2 G2 hw2 ca cb fb g1 g2 g3
              go_still_tail 12, (by kernel_rfl)
              go_wp2
              go_roundw
              case rel => exact ⟨k + 1, by omega, by go_num, by rw [Hf.out, HS.out, HE.out], Lib.hid (by rw [Hf.out, HS.out, HE.out]; exact HR2.out.set _ _), Lib.hid (grown_drew (grown_set HG2.out _ _ (.inl rfl)))⟩
              case measure => simp [intOf]; omega
        · obtain rfl : k = l.length := by omega
          have e : roundOf l y = (z, ch) := by rw [← HS.out, List.take_length]; rfl
          have HE := Lib.hid e
          have hsz : settledN l (x.length + 1 - r) y = if ch then settledN l (x.length - r) z else (z, true) := by
            rw [show x.length + 1 - r = (x.length - r) + 1 by omega, settledN_succ, e]
          have HSZ := Lib.hid hsz
          clear e hsz
          cases ch
          · go_wp2
            go_ret
            have : settled l x = (z, true) := by rw [Hs.out, HSZ.out]; rfl
            rw [this]
            exact ⟨rfl, Hz.out, Hgz.out⟩
          · go_wp2
            refine ⟨⟨r + 1, z, by omega, by go_num, Lib.hid (Hlen.out.trans Hy.out), Lib.hid (by rw [Hs.out, HSZ.out]; simp), Hz, Hgz⟩, by simp [intOf]; omega⟩
    · go_wp2
      go_ret
      obtain rfl : r = x.length + 1 := by omega
      have : settled l x = (y, false) := by rw [Hs.out]; simp [settledN]
      rw [this]
      exact ⟨rfl, Hg.out, Hgr.out⟩

theorem own_empty (w : World) (e sz : Nat) : (w.alloc (.cells #[] e)).ownsRow w.heap.size e sz (.slice (some ⟨w.heap.size, 0, none⟩) 0 0) 0 [] :=
  World.ownsRow_lit w #[] 0 (Nat.le_refl _) (by simp [maxLen]) (by simp)
theorem below_own {B : Nat} {w0 w w' : World} {v : Value} (h : Below B w0 w) (hg : w.grownBy w' v.ownBlock) (hB : B ≤ w.heap.size) (hv : ∀ b, v.ownBlock = some b → B ≤ b) : Below B w0 w' :=
  h.grown hg hB hv
set_option maxHeartbeats 400000 in
theorem clone_ints (A : Option Addr) (c : Nat) (l : List Int) (w : World) (hl : l.length ≤ 1000000) (hnil : A = none → l.length = 0 ∧ c = 0) (h : IntsAt w A l) :
    Calls Tryz.prog 70 #[.slice A l.length c] w fun e w' => ∃ v, e = .returned v ∧ w'.ownsRow w.heap.size 3 1 v l.length (ints l) ∧ Below w.heap.size w w' := by
  have H := Lib.hid h
  have HN := Lib.hid hnil
  clear h hnil
  cases A with
  | none =>
    obtain ⟨h0, rfl⟩ := HN.out rfl
    obtain rfl : l = [] := List.eq_nil_of_length_eq_zero h0
    have heq := Lib.run_eql_slice_nil (P := Tryz.prog) w 38 3 none 0 0 0 0 Tryz.underlying38
    simp only [List.length_nil]
    clear H HN h0
    go_enter Tryz.func70, Tryz.ntmps70
    go_wp2
    go_ret
    exact ⟨_, rfl, World.ownsRow_nil _ _ _ _, bel⟩
  | some ad =>
    have heq := Lib.run_eql_slice_nil (P := Tryz.prog) w 38 3 (some ad) l.length c 0 0 Tryz.underlying38
    go_enter Tryz.func70, Tryz.ntmps70
    go_wp2_with (at_builtin; refine app_many rfl _ _ 38 3 (.int .i64 0) 1 8 rfl Tryz.underlying38 info3 rfl (by omega) (.slice (some ⟨w.heap.size, 0, none⟩) 0 0) 0 [] (ints l) l.length c (some ad) rfl rfl (fun e => by cases e) (by simp [ints]) (ints_one l) (H.out.alloc _).cells w.heap.size (own_empty w 3 1) (by simp) (by omega) (by unfold maxLen; omega) ?_; intro v1 w1 ho hg _)
    go_ret
    exact ⟨_, rfl, by simpa using ho, below_own (Below.alloc (Below.refl _ _) (Nat.le_refl _) _) hg (by simp) (fun b e => by cases e; exact Nat.le_refl _)⟩
set_option maxHeartbeats 400000 in
theorem clone_lks (A : Option Addr) (c : Nat) (l : List Lk) (w : World) (hl : l.length ≤ 1000000) (hnil : A = none → l.length = 0 ∧ c = 0) (h : LksAt w A l) :
    Calls Tryz.prog 65 #[.slice A l.length c] w fun e w' => ∃ v, e = .returned v ∧ w'.ownsRow w.heap.size 51 3 v l.length (lkcs l) ∧ Below w.heap.size w w' := by
  have H := Lib.hid h
  have HN := Lib.hid hnil
  clear h hnil
  cases A with
  | none =>
    obtain ⟨h0, rfl⟩ := HN.out rfl
    obtain rfl : l = [] := List.eq_nil_of_length_eq_zero h0
    have heq := Lib.run_eql_slice_nil (P := Tryz.prog) w 22 51 none 0 0 0 0 Tryz.underlying22
    simp only [List.length_nil]
    clear H HN h0
    go_enter Tryz.func65, Tryz.ntmps65
    go_wp2
    go_ret
    exact ⟨_, rfl, World.ownsRow_nil _ _ _ _, bel⟩
  | some ad =>
    have heq := Lib.run_eql_slice_nil (P := Tryz.prog) w 22 51 (some ad) l.length c 0 0 Tryz.underlying22
    go_enter Tryz.func65, Tryz.ntmps65
    go_wp2_with (at_builtin; refine app_many rfl _ _ 22 51 (.agg #[.int .i64 0, .int .i64 0, .int .i64 0]) 3 24 rfl Tryz.underlying22 info39 rfl (by omega) (.slice (some ⟨w.heap.size, 0, none⟩) 0 0) 0 [] (lkcs l) l.length c (some ad) rfl rfl (fun e => by cases e) (lkcs_length l) (lkcs_one l) (H.out.alloc _).cells w.heap.size (own_empty w 51 3) (by simp) (by omega) (by unfold maxLen; omega) ?_; intro v1 w1 ho hg _)
    go_ret
    exact ⟨_, rfl, by simpa using ho, below_own (Below.alloc (Below.refl _ _) (Nat.le_refl _) _) hg (by simp) (fun b e => by cases e; exact Nat.le_refl _)⟩

/-- A row behind a step: what the next round wants. -/
structure OwnL (B : Nat) (w0 w : World) (v : Value) (l : List Lk) : Prop where
  row : w.ownsRow B 51 3 v l.length (lkcs l)
  below : Below B w0 w
  hB : B ≤ w.heap.size
structure OwnN (B : Nat) (w0 w : World) (v : Value) (l : List Int) : Prop where
  row : w.ownsRow B 3 1 v l.length (ints l)
  below : Below B w0 w
  hB : B ≤ w.heap.size
theorem OwnL.alloc {B : Nat} {w0 w : World} {v : Value} {l : List Lk} (h : OwnL B w0 w v l) (o : Obj) : OwnL B w0 (w.alloc o) v l := ⟨h.row.alloc o, h.below.alloc h.hB o, by have := h.hB; simp; omega⟩
theorem OwnN.alloc {B : Nat} {w0 w : World} {v : Value} {l : List Int} (h : OwnN B w0 w v l) (o : Obj) : OwnN B w0 (w.alloc o) v l := ⟨h.row.alloc o, h.below.alloc h.hB o, by have := h.hB; simp; omega⟩
theorem OwnL.calls {B : Nat} {w0 w w' : World} {v : Value} {l : List Lk} (h : OwnL B w0 w v l) (hb : Below w.heap.size w w') : OwnL B w0 w' v l :=
  ⟨h.row.kept (row := none) ⟨hb.os, hb.tape, hb.output, hb.size, fun k hk _ => hb.block k hk⟩ (by cases v.ownBlock <;> simp), h.below.trans (hb.mono h.hB), Nat.le_trans h.hB hb.size⟩
theorem OwnN.calls {B : Nat} {w0 w w' : World} {v : Value} {l : List Int} (h : OwnN B w0 w v l) (hb : Below w.heap.size w w') : OwnN B w0 w' v l :=
  ⟨h.row.kept (row := none) ⟨hb.os, hb.tape, hb.output, hb.size, fun k hk _ => hb.block k hk⟩ (by cases v.ownBlock <;> simp), h.below.trans (hb.mono h.hB), Nat.le_trans h.hB hb.size⟩
theorem OwnL.appended {B : Nat} {w0 w w' : World} {v v' : Value} {l : List Lk} {x : Lk} (h : OwnL B w0 w v l) (ho : w'.ownsRow B 51 3 v' (l.length + 1) (lkcs l ++ lkc x)) (hg : w.grownBy w' v.ownBlock) : OwnL B w0 w' v' (l ++ [x]) :=
  ⟨by rw [List.length_append]; simpa [lkcs] using ho, h.below.grown hg h.hB (fun k e => (h.row.lt k e).1), Nat.le_trans h.hB hg.size⟩
theorem OwnN.appended {B : Nat} {w0 w w' : World} {v v' : Value} {l : List Int} {x : Int} (h : OwnN B w0 w v l) (ho : w'.ownsRow B 3 1 v' (l.length + 1) (ints l ++ [.int .i64 x])) (hg : w.grownBy w' v.ownBlock) : OwnN B w0 w' v' (l ++ [x]) :=
  ⟨by rw [List.length_append]; simpa [ints] using ho, h.below.grown hg h.hB (fun k e => (h.row.lt k e).1), Nat.le_trans h.hB hg.size⟩

def turnedL (l : List Int) : List Int := l.map fun x => wrap64 (-x)
set_option maxRecDepth 100000 in
set_option maxHeartbeats 400000 in
theorem turned_any (A : Option Addr) (c : Nat) (l : List Int) (w : World) (hl : l.length ≤ 1000000) (h : IntsAt w A l) :
    Calls Tryz.prog 38 #[.slice A l.length c] w fun e w' => ∃ v, e = .returned v ∧ w'.ownsRow w.heap.size 3 1 v l.length (ints (turnedL l)) ∧ Below w.heap.size w w' := by
  have H := Lib.hid h
  clear h
  go_enter Tryz.func38, Tryz.ntmps38
  go_wp2
  go_loopw [3, 5, 8] (fun v _ i wr => ∃ k : Nat, k ≤ l.length ∧ i = .int .i64 k ∧ Hid (OwnN w.heap.size w wr v (turnedL (l.take k)))) (fun _ _ i _ => l.length - (intOf i).toNat)
  case atStart => exact ⟨0, by omega, rfl, Lib.hid ⟨World.ownsRow_nil _ _ _ _, Below.refl _ _, Nat.le_refl _⟩⟩
  case round =>
    obtain ⟨k, hk, rfl, HO⟩ := hrel
    by_cases hlt : k < l.length
    · obtain ⟨b, o, rfl, g1⟩ := (H.out.below HO.out.below).nat k hlt
      have hz := World.block_lt_of_cell? _ _ g1
      dsimp only at hz
      have hkl : (turnedL (l.take k)).length ≤ 1000000 := by simp [turnedL]; omega
      have Hs := Lib.hid (show turnedL (l.take k) ++ [wrap64 (-gi l k)] = turnedL (l.take (k + 1)) by rw [take_gi l k hlt]; simp [turnedL])
      go_wp2_with (at_builtin; refine app_one rfl _ _ 38 3 (.int .i64 0) 1 8 rfl Tryz.underlying38 info3 rfl (by omega) u3 _ _ [.int .i64 (wrap64 (-gi l k))] rfl rfl (by simp) rfl (one1 _ _) w.heap.size HO.out.row HO.out.hB (by omega) (by unfold maxLen; omega) ?_; intro v1 w1 ho hg _)
      go_roundw
      case rel => exact ⟨k + 1, by omega, by go_num, Lib.hid (by rw [← Hs.out]; exact HO.out.appended ho hg)⟩
      case measure => simp [intOf]; omega
    · go_wp2
      go_ret
      obtain rfl : k = l.length := by omega
      have := HO.out.row
      rw [List.take_length] at this
      exact ⟨_, rfl, by simpa [turnedL] using this, HO.out.below⟩
end Go.Proofs.YtmhiiomejopaoaaGreatDoor
