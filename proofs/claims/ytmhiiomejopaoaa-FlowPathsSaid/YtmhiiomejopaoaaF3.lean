/- The flow walks, third part: settled. -/
import Derived.Test.YtmhiiomejopaoaaF2
import Derived.Test.YtmhiiomejopaoaaB1
import Derived.StillTailTactics
namespace Go.Proofs.Ytmhiiomejopaoaa
set_option linter.all false
open Go.RowKit

def free : Int := 1152921504606846976
def relax (s : List Int × Bool) (k : Lk) : List Int × Bool :=
  if gi s.1 k.a ≠ free ∧ overB s.1 k = true then (si s.1 k.b (wrap64 (gi s.1 k.a + k.m)), true) else s
def roundOf (l : List Lk) (x : List Int) : List Int × Bool := l.foldl relax (x, false)
def settledN (l : List Lk) : Nat → List Int → List Int × Bool
  | 0, x => (x, false)
  | r + 1, x => if (roundOf l x).2 then settledN l r (roundOf l x).1 else ((roundOf l x).1, true)
def settled (l : List Lk) (x : List Int) : List Int × Bool := settledN l (x.length + 1) x
theorem settledN_succ (l : List Lk) (r : Nat) (x : List Int) : settledN l (r + 1) x = if (roundOf l x).2 then settledN l r (roundOf l x).1 else ((roundOf l x).1, true) := rfl
theorem relax_length (s : List Int × Bool) (k : Lk) : (relax s k).1.length = s.1.length := by
  unfold relax si; split <;> simp
theorem foldl_relax_length (l : List Lk) : ∀ s : List Int × Bool, (l.foldl relax s).1.length = s.1.length := by
  induction l with
  | nil => intro s; rfl
  | cons k l ih => intro s; rw [List.foldl_cons, ih, relax_length]
theorem settledN_length (l : List Lk) : ∀ (r : Nat) (x : List Int), (settledN l r x).1.length = x.length
  | 0, x => rfl
  | r + 1, x => by
    unfold settledN
    split
    · rw [settledN_length l r, roundOf, foldl_relax_length]
    · rw [roundOf, foldl_relax_length]

set_option maxRecDepth 100000 in
set_option maxHeartbeats 1000000 in
theorem settled_any (l : List Lk) (A : Option Addr) (c : Nat) (x : List Int) (g d : Nat) (w : World) (hl : l.length ≤ 140737488351232) (hx : x.length ≤ 140737488351232) (h : LksAt w A l) (hg : RowI w g x)
    (hne : Apart A l.length (some g)) (hr : ∀ k ∈ l, InR x.length k) :
    Calls Try.prog 104 #[.slice A l.length c, .slice (some ⟨g, 0, none⟩) x.length d] w fun e w' => e = .returned (.bool (settled l x).2) ∧ RowI w' g (settled l x).1 ∧ w.grownBy w' (some g) := by
  have H := Lib.hid h
  have HR := Lib.hid hr
  have HNE := Lib.hid hne
  have HG := Lib.hid hg
  clear h hr hne hg
  go_enter Try.func104, Try.ntmps104
  go_wp2
  go_loopw [11] (fun i wr => ∃ (r : Nat) (y : List Int), r ≤ x.length + 1 ∧ i = .int .i64 r ∧ Hid (y.length = x.length) ∧ Hid (settled l x = settledN l (x.length + 1 - r) y) ∧ Hid (RowI wr g y) ∧ Hid (w.grownBy wr (some g))) (fun i _ => x.length + 1 - (intOf i).toNat)
  case atStart => exact ⟨0, x, by omega, rfl, Lib.hid rfl, Lib.hid rfl, HG, Lib.hid (grown_refl _ _)⟩
  case round =>
    obtain ⟨r, y, hrn, rfl, Hy, Hs, Hg, Hgr⟩ := hrel
    by_cases hlt : r < x.length + 1
    · have hlt2 : (r : Int) < (x.length : Int) + 1 := by omega
      go_wp2
      obtain ⟨wo, rfl⟩ : ∃ wo : World, wo = wr := ⟨_, rfl⟩
      go_loopw [5, 7, 15] (fun ch _ i wr => ∃ k : Nat, k ≤ l.length ∧ i = .int .i64 k ∧ ch = .bool ((l.take k).foldl relax (y, false)).2 ∧ Hid (RowI wr g ((l.take k).foldl relax (y, false)).1) ∧ Hid (w.grownBy wr (some g))) (fun _ _ i _ => l.length - (intOf i).toNat)
      case atStart => exact ⟨0, by omega, rfl, rfl, Hg, Hgr⟩
      case round =>
        obtain ⟨k, hk, rfl, rfl, Hz, Hgz⟩ := hrel
        have Hlen := Lib.hid (foldl_relax_length (l.take k) (y, false))
        generalize hs : (l.take k).foldl relax (y, false) = s at *
        have HS := Lib.hid hs
        clear hs
        obtain ⟨z, ch⟩ := s
        by_cases hkl : k < l.length
        · obtain ⟨b, o, rfl, g1, g2, g3⟩ := (H.out.grown Hgz.out HNE.out).nat k hkl
          have hb := World.block_lt_of_cell? _ _ g1
          dsimp only at hb
          have Hf := Lib.hid (fold_gl relax (y, false) l k hkl)
          obtain ⟨i1, i2, i3, i4⟩ := HR.out _ (gl_mem (l := l) (i := k) (by omega) (by omega))
          have hzl : z.length = x.length := Hlen.out.trans Hy.out
          have HZL := Lib.hid hzl
          generalize hq : gl l k = q at *
          have HQ := Lib.hid hq
          clear hq
          have ca := Hz.out.cell q.a.toNat (by simp only; omega)
          have cb := Hz.out.cell q.b.toNat (by simp only; omega)
          have fb := Hz.out.frozen q.b.toNat
          have hgl := Hz.out.lt
          simp only [show ((q.a.toNat : Nat) : Int) = q.a by omega, show ((q.b.toNat : Nat) : Int) = q.b by omega] at ca cb
          clear hzl
          cases hfr : (gi z q.a != 1152921504606846976)
          · have e : relax (z, ch) q = (z, ch) := by
              simp only [bne_eq_false_iff_eq] at hfr
              simp [relax, hfr, free]
            have HE := Lib.hid e
            clear e
            go_wp2
            go_quiet (fail)
            go_wp2
            go_roundw
            case rel => exact ⟨k + 1, by omega, by go_num, by rw [Hf.out, HS.out, HE.out], Lib.hid (by rw [Hf.out, HS.out, HE.out]; exact Hz.out.alloc _ |>.drews _), Lib.hid (grown_drews (grown_alloc Hgz.out _) _)⟩
            case measure => simp [intOf]; omega
          · cases hov : decide (wrap64 (gi z q.a + q.m) < gi z q.b)
            · have e : relax (z, ch) q = (z, ch) := by simp [relax, overB, hov]
              have HE := Lib.hid e
              clear e
              go_wp2
              go_quiet (fail)
              go_wp2
              go_roundw
              case rel => exact ⟨k + 1, by omega, by go_num, by rw [Hf.out, HS.out, HE.out], Lib.hid (by rw [Hf.out, HS.out, HE.out]; exact Hz.out.alloc _ |>.drews _), Lib.hid (grown_drews (grown_alloc Hgz.out _) _)⟩
              case measure => simp [intOf]; omega
            · have e : relax (z, ch) q = (si z q.b (wrap64 (gi z q.a + q.m)), true) := by
                simp only [bne_iff_ne] at hfr
                simp [relax, overB, hov, hfr, free]
              have HE := Lib.hid e
              clear e
              go_wp2
              go_quiet (fail)
              go_wp2
              obtain ⟨w2, hw2⟩ : ∃ w2, w2 = (wr.alloc (.cells #[.int .i64 q.a, .int .i64 q.b, .int .i64 q.m] 39)).drewN nq := ⟨_, rfl⟩
              rw [← hw2]
              have d0 : w2.cell? ⟨wr.heap.size, 0, none⟩ = some (.int .i64 q.a) := by rw [hw2]; go_simp
              have d1 : w2.cell? ⟨wr.heap.size, 1, none⟩ = some (.int .i64 q.b) := by rw [hw2]; go_simp
              have d2 : w2.cell? ⟨wr.heap.size, 2, none⟩ = some (.int .i64 q.m) := by rw [hw2]; go_simp
              have R2 : RowI w2 g z := by rw [hw2]; exact (Hz.out.alloc _).drews _
              have G2 : w.grownBy w2 (some g) := by rw [hw2]; exact grown_drews (grown_alloc Hgz.out _) _
              have c2 := R2.cell q.a.toNat (by have := HZL.out; omega)
              have c3 := R2.cell q.b.toNat (by have := HZL.out; omega)
              have f2 := R2.frozen q.b.toNat
              simp only [show ((q.a.toNat : Nat) : Int) = q.a by omega, show ((q.b.toNat : Nat) : Int) = q.b by omega] at c2 c3
              have HR2 := Lib.hid R2
              have HG2 := Lib.hid G2
              clear R2 G2 hw2 ca cb fb g1 g2 g3
              go_still_tail 12, (by kernel_rfl)
              go_wp2
              go_roundw
              case rel => exact ⟨k + 1, by omega, by go_num, by rw [Hf.out, HS.out, HE.out], Lib.hid (by rw [Hf.out, HS.out, HE.out]; exact HR2.out.set _ _), Lib.hid (grown_drew (grown_set HG2.out _ _ (.inl rfl)))⟩
              case measure => simp [intOf]; omega
        · obtain rfl : k = l.length := by omega
          have e : roundOf l y = (z, ch) := by rw [← HS.out, List.take_length]; rfl
          have HE := Lib.hid e
          have hsz : settledN l (x.length + 1 - r) y = if ch then settledN l (x.length - r) z else (z, true) := by
            rw [show x.length + 1 - r = (x.length - r) + 1 by omega, settledN_succ, e]
          have HSZ := Lib.hid hsz
          clear e hsz
          cases ch
          · go_wp2
            go_ret
            have : settled l x = (z, true) := by rw [Hs.out, HSZ.out]; rfl
            rw [this]
            exact ⟨rfl, Hz.out, Hgz.out⟩
          · go_wp2
            refine ⟨⟨r + 1, z, by omega, by go_num, Lib.hid (Hlen.out.trans Hy.out), Lib.hid (by rw [Hs.out, HSZ.out]; simp), Hz, Hgz⟩, by simp [intOf]; omega⟩
    · go_wp2
      go_ret
      obtain rfl : r = x.length + 1 := by omega
      have : settled l x = (y, false) := by rw [Hs.out]; simp [settledN]
      rw [this]
      exact ⟨rfl, Hg.out, Hgr.out⟩
end Go.Proofs.Ytmhiiomejopaoaa
