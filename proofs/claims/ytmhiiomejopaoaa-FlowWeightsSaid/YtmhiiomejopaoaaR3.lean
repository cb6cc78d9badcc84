/- The flow walks: the reference's Bounds. -/
import Derived.Test.YtmhiiomejopaoaaR1
namespace Go.Proofs.Ytmhiiomejopaoaa
set_option linter.all false
open Go.RowKit

def rrelax (d : List Int) (k : Lk) : List Int := if gi d k.a < free then si d k.b (mn (gi d k.b) (wrap64 (gi d k.a + k.m))) else d
def riter (l : List Lk) : Nat → List Int → List Int
  | 0, d => d
  | k + 1, d => riter l k (l.foldl rrelax d)
def rboundsL (n : Nat) (l : List Lk) (s : Int) : List Int := riter l n (si (List.replicate n free) s 0)
theorem rrelax_length (d : List Int) (k : Lk) : (rrelax d k).length = d.length := by
  unfold rrelax si; split <;> simp
theorem foldl_rrelax_length (l : List Lk) : ∀ d : List Int, (l.foldl rrelax d).length = d.length := by
  induction l with
  | nil => intro d; rfl
  | cons k l ih => intro d; rw [List.foldl_cons, ih, rrelax_length]
theorem rrelax_yes {z : List Int} {q : Lk} (h : gi z q.a < 1152921504606846976) : rrelax z q = z.set q.b.toNat (if wrap64 (gi z q.a + q.m) < gi z q.b then wrap64 (gi z q.a + q.m) else gi z q.b) := by
  unfold rrelax
  rw [if_pos (show gi z q.a < free from h)]
  rfl
theorem rrelax_no {z : List Int} {q : Lk} (h : ¬ gi z q.a < 1152921504606846976) : rrelax z q = z := by
  unfold rrelax
  rw [if_neg (show ¬ gi z q.a < free from h)]
set_option maxRecDepth 100000 in
set_option maxHeartbeats 4000000 in
theorem rbounds_any (n : Nat) (A : Option Addr) (c : Nat) (l : List Lk) (s : Int) (w : World) (hn : n ≤ 1000000) (hl : l.length ≤ 1000000) (h : LksAt w A l) (hr : ∀ k ∈ l, InR n k) (hs0 : 0 ≤ s) (hs1 : s < n) :
    Calls Try.prog 36 #[.agg #[.int .i64 n, .slice A l.length c], .int .i64 s] w fun e w' => ∃ g, e = .returned (.slice (some ⟨g, 0, none⟩) n n) ∧ w.heap.size ≤ g ∧ RowI w' g (rboundsL n l s) ∧ Below w.heap.size w w' := by
  have hmk := mkInts n hn
  have HR := Lib.hid hr
  obtain ⟨W1, hW1⟩ : ∃ W1, W1 = (w.alloc (.cells #[.int .i64 n, .slice A l.length c] 24)).alloc (.cells (madeCells #[.int .i64 0] n) 3) := ⟨_, rfl⟩
  have HB1 := Lib.hid (show Below w.heap.size w W1 by rw [hW1]; exact bel)
  have HQ := Lib.hid (show W1.cell? ⟨w.heap.size, 0, none⟩ = some (.int .i64 n) ∧ W1.cell? ⟨w.heap.size, 1, none⟩ = some (.slice A l.length c) by rw [hW1]; exact ⟨cell_alloc _ (by go_simp), cell_alloc _ (by go_simp)⟩)
  have HG1 := Lib.hid (show RowI W1 (w.heap.size + 1) (List.replicate n 0) by rw [hW1]; have := RowI_made (w.alloc (.cells #[.int .i64 n, .slice A l.length c] 24)) n; simpa using this)
  have HA1 := Lib.hid (h.below HB1.out)
  have HNE := Lib.hid (h.apart (g := w.heap.size + 1) (by omega))
  have HW1 := Lib.hid hW1
  have HNB := Lib.hid (show some (⟨w.heap.size, 0, none⟩ : Addr).block ≠ some (w.heap.size + 1) by simp)
  clear h hr hW1
  go_enter Try.func36, Try.ntmps36
  go_upto_region 3 with fail
  rw [← HW1.out]
  go_loopw [6] (fun i wr => ∃ k : Nat, k ≤ n ∧ i = .int .i64 k ∧ Hid (RowI wr (w.heap.size + 1) (List.replicate k free ++ List.replicate (n - k) 0)) ∧ Hid (W1.grownBy wr (some (w.heap.size + 1)))) (fun i _ => n - (intOf i).toNat)
  case atStart => exact ⟨0, by omega, rfl, Lib.hid (by simpa using HG1.out), Lib.hid (grown_refl _ _)⟩
  case round =>
    obtain ⟨k, hk, rfl, HZ, HGR⟩ := hrel
    have q0 := HGR.out.cell HQ.out.1 HNB.out
    have lq := World.block_lt_of_cell? _ _ q0
    by_cases hlt : k < n
    · have c1 := HZ.out.cell k (by simp; omega)
      have f1 := HZ.out.frozen k
      have hgl := HZ.out.lt
      have Hs := Lib.hid (rep_set n k hlt)
      go_wp2
      go_roundw
      case rel => exact ⟨k + 1, by omega, by go_num, Lib.hid (by rw [← Hs.out]; exact HZ.out.set _ _), Lib.hid (grown_set HGR.out _ _ (.inl rfl))⟩
      case measure => simp [intOf]; omega
    · obtain rfl : k = n := by omega
      have e0 : List.replicate k free ++ List.replicate (k - k) 0 = List.replicate k free := by simp
      rw [e0] at HZ
      have c1 := HZ.out.cell s.toNat (by simp; omega)
      have f1 := HZ.out.frozen s.toNat
      have hgl := HZ.out.lt
      have hse := tn s hs0
      have HSE := Lib.hid hse
      clear hse
      go_upto_region 8 with fail
      obtain ⟨w2, hw2⟩ : ∃ w2, w2 = wr.setCell ⟨w.heap.size + 1, s.toNat, none⟩ (.int .i64 0) := ⟨_, rfl⟩
      rw [← hw2]
      have HZ2 := Lib.hid (show RowI w2 (w.heap.size + 1) (si (List.replicate k free) s 0) by rw [hw2]; exact HZ.out.set _ _)
      have HG2 := Lib.hid (show W1.grownBy w2 (some (w.heap.size + 1)) by rw [hw2]; exact grown_set HGR.out _ _ (.inl rfl))
      clear hw2 c1 f1 q0 lq hgl
      go_loopw [7, 8, 9] (fun kv _ _ wr => ∃ (r : Nat) (y : List Int), r ≤ k ∧ kv = .int .i64 r ∧ Hid (y.length = k) ∧ Hid (rboundsL k l s = riter l (k - r) y) ∧ Hid (RowI wr (w.heap.size + 1) y) ∧ Hid (W1.grownBy wr (some (w.heap.size + 1)))) (fun kv _ _ _ => k - (intOf kv).toNat)
      case atStart => exact ⟨0, _, by omega, rfl, Lib.hid (by simp [si]), Lib.hid (by unfold rboundsL; simp), HZ2, HG2⟩
      case round =>
        obtain ⟨r, y, hrn, rfl, Hy, Hs, Hg, Hgr⟩ := hrel
        have q0 := Hgr.out.cell HQ.out.1 HNB.out
        have lq := World.block_lt_of_cell? _ _ q0
        by_cases hlt : r < k
        · go_wp2
          clear q0 lq
          go_loopw [8, 9] (fun i _ wr => ∃ j : Nat, j ≤ l.length ∧ i = .int .i64 j ∧ Hid (RowI wr (w.heap.size + 1) ((l.take j).foldl rrelax y)) ∧ Hid (W1.grownBy wr (some (w.heap.size + 1)))) (fun i _ _ => l.length - (intOf i).toNat)
          case atStart => exact ⟨0, by omega, rfl, Hg, Hgr⟩
          case round =>
            obtain ⟨j, hj, rfl, Hz, Hgz⟩ := hrel
            have Hlen := Lib.hid (foldl_rrelax_length (l.take j) y)
            have q1 := Hgz.out.cell HQ.out.2 HNB.out
            have lq := World.block_lt_of_cell? _ _ q1
            generalize hs : (l.take j).foldl rrelax y = z at *
            have HS := Lib.hid hs
            clear hs
            by_cases hkl : j < l.length
            · obtain ⟨b, o, rfl, g1, g2, g3⟩ := (HA1.out.grown Hgz.out HNE.out).nat j hkl
              have hb := World.block_lt_of_cell? _ _ g1
              dsimp only at hb
              have Hf := Lib.hid (fold_gl rrelax y l j hkl)
              obtain ⟨i1, i2, i3, i4⟩ := HR.out _ (gl_mem (l := l) (i := j) (by omega) (by omega))
              have hzl : z.length = k := Hlen.out.trans Hy.out
              have HZL := Lib.hid hzl
              generalize hq : gl l j = q at *
              have HQQ := Lib.hid hq
              clear hq
              have ca := Hz.out.cell q.a.toNat (by omega)
              have hgl := Hz.out.lt
              simp only [show ((q.a.toNat : Nat) : Int) = q.a by omega] at ca
              clear hzl
              by_cases hfr : gi z q.a < 1152921504606846976
              · obtain ⟨mv, hmv⟩ : ∃ mv, (if wrap64 (gi z q.a + q.m) < gi z q.b then wrap64 (gi z q.a + q.m) else gi z q.b) = mv := ⟨_, rfl⟩
                have he := rrelax_yes hfr
                rw [hmv] at he
                have HE := Lib.hid he
                clear he
                go_upto_region 15 with fail
                obtain ⟨w2, hw2⟩ : ∃ w2, w2 = wr.alloc (.cells #[.int .i64 q.a, .int .i64 q.b, .int .i64 q.m] 39) := ⟨_, rfl⟩
                rw [← hw2]
                have d0 : w2.cell? ⟨wr.heap.size, 0, none⟩ = some (.int .i64 q.a) := by rw [hw2]; go_simp
                have d1 : w2.cell? ⟨wr.heap.size, 1, none⟩ = some (.int .i64 q.b) := by rw [hw2]; go_simp
                have d2 : w2.cell? ⟨wr.heap.size, 2, none⟩ = some (.int .i64 q.m) := by rw [hw2]; go_simp
                have R2 : RowI w2 (w.heap.size + 1) z := by rw [hw2]; exact Hz.out.alloc _
                have G2 : W1.grownBy w2 (some (w.heap.size + 1)) := by rw [hw2]; exact grown_alloc Hgz.out _
                have c2 := R2.cell q.a.toNat (by have := HZL.out; omega)
                have c3 := R2.cell q.b.toNat (by have := HZL.out; omega)
                have f2 := R2.frozen q.b.toNat
                simp only [show ((q.a.toNat : Nat) : Int) = q.a by omega, show ((q.b.toNat : Nat) : Int) = q.b by omega] at c2 c3
                have HR2 := Lib.hid R2
                have HG2 := Lib.hid G2
                clear R2 G2 hw2 ca g1 g2 g3 q1
                go_still_tail 18, (by kernel_rfl)
                go_wp2
                go_roundw
                case rel => exact ⟨j + 1, by omega, by go_num, Lib.hid (by rw [Hf.out, HS.out, HE.out]; exact HR2.out.set _ _), Lib.hid (grown_drew (grown_set HG2.out _ _ (.inl rfl)))⟩
                case measure => simp [intOf]; omega
              · have HE := Lib.hid (rrelax_no hfr)
                go_wp2
                go_roundw
                case rel => exact ⟨j + 1, by omega, by go_num, Lib.hid (by rw [Hf.out, HS.out, HE.out]; exact Hz.out.alloc _), Lib.hid (grown_alloc Hgz.out _)⟩
                case measure => simp [intOf]; omega
            · obtain rfl : j = l.length := by omega
              have e : l.foldl rrelax y = z := by rw [← HS.out, List.take_length]
              have HFin := Lib.hid (show rboundsL k l s = riter l (k - (r + 1)) z by rw [Hs.out, show k - r = (k - (r + 1)) + 1 by omega, riter, e])
              clear e
              go_wp2
              go_roundw
              case rel => exact ⟨r + 1, z, by omega, by go_num, Lib.hid (Hlen.out.trans Hy.out), HFin, Hz, Hgz⟩
              case measure => simp [intOf]; omega
        · obtain rfl : r = k := by omega
          have HFin := Lib.hid (show rboundsL r l s = y by rw [Hs.out]; simp [riter])
          go_wp2
          go_ret
          exact ⟨_, rfl, by omega, by rw [HFin.out]; exact Hg.out, below_of_grown HB1.out Hgr.out HB1.out.size (by omega)⟩
end Go.Proofs.Ytmhiiomejopaoaa
