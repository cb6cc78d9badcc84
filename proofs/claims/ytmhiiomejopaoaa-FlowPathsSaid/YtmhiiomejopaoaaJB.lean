/- The flow walks: the reference's Path, Sum, twice; Join. -/
import Derived.Test.YtmhiiomejopaoaaJ8
namespace Go.Proofs.Ytmhiiomejopaoaa
set_option linter.all false
open Go.RowKit
set_option maxRecDepth 100000

def pathB (l : List Lk) (s t : Int) (P : List Int) : Bool := match leadsO l s P with | some (v, _) => v == t | none => false
set_option maxRecDepth 100000 in
set_option maxHeartbeats 4000000 in
theorem rpath_any (n : Int) (A : Option Addr) (c : Nat) (l : List Lk) (PA : Option Addr) (pc : Nat) (P : List Int) (s t : Int) (w : World) (hl : l.length ≤ 1000000) (hp : P.length ≤ 140737488351232) (h : LksAt w A l) (h' : IntsAt w PA P) :
    Calls Try.prog 62 #[.agg #[.int .i64 n, .slice A l.length c], .slice PA P.length pc, .int .i64 s, .int .i64 t] w fun e w' => e = .returned (.bool (pathB l s t P)) ∧ Below w.heap.size w w' := by
  have H := Lib.hid h
  have H' := Lib.hid h'
  clear h h'
  go_enter Try.func62, Try.ntmps62
  go_wp2
  go_loopw [9, 10] (fun at_ i wr => ∃ (k : Nat) (v u : Int), k ≤ P.length ∧ i = .int .i64 k ∧ at_ = .int .i64 v ∧ Hid ((P.take k).foldlM (leadStep l) (s, 0) = some (v, u)) ∧ Hid (Below w.heap.size w wr) ∧ wr.cell? ⟨w.heap.size, 1, none⟩ = some (.slice A l.length c)) (fun _ i _ => P.length - (intOf i).toNat)
  case atStart => exact ⟨0, s, 0, by omega, rfl, rfl, Lib.hid rfl, Lib.hid bel, by simp⟩
  case round =>
    obtain ⟨k, v, u, hk, rfl, rfl, HF, HB, hc1⟩ := hrel
    by_cases hlt : k < P.length
    · have t0 : decide ((k : Int) < (P.length : Int)) = true := decide_eq_true (by omega)
      have lq := World.block_lt_of_cell? _ _ hc1
      dsimp only at lq
      obtain ⟨b, o, rfl, g1⟩ := (H'.out.below HB.out).nat k hlt
      have lg := World.block_lt_of_cell? _ _ g1
      dsimp only at lg
      have Hm := Lib.hid (foldM_gi (leadStep l) (s, 0) P k hlt)
      have HNo := Lib.hid (foldM_none (leadStep l) (s, 0) P (k + 1))
      obtain ⟨x, hx⟩ : ∃ x, gi P (k : Int) = x := ⟨_, rfl⟩
      rw [hx] at g1 Hm
      clear hx
      have i0 : (0 : Int) ≤ (k : Int) := by omega
      have i1 : (k : Int) < (P.length : Int) := by omega
      cases hw : withinB x 0 ((l.length : Int) - 1)
      · have hno : pathB l s t P = false := by
          unfold pathB leadsO
          rw [HNo.out (by rw [Hm.out, HF.out]; simp [leadStep, hw])]
        have HNN := Lib.hid hno
        clear hno
        by_cases hx0 : x < 0
        · have t1 : decide (x < 0) = true := decide_eq_true hx0
          go_upto_region 5 with fail
          go_quiet (fail)
          go_wp2
          go_ret
          exact ⟨by rw [HNN.out]; rfl, below_drews HB.out _⟩
        · have t1 : decide (x < 0) = false := decide_eq_false hx0
          have t2 : decide ((l.length : Int) ≤ x) = true := decide_eq_true (by simp [withinB] at hw; omega)
          clear hw
          go_upto_region 5 with fail
          go_quiet (fail)
          go_wp2
          go_ret
          exact ⟨by rw [HNN.out]; rfl, below_drews HB.out _⟩
      · have hb : 0 ≤ x ∧ x < l.length := by simp [withinB] at hw; omega
        obtain ⟨hx0, hx1⟩ := hb
        have t1 : decide (x < 0) = false := decide_eq_false (by omega)
        have t2 : decide ((l.length : Int) ≤ x) = false := decide_eq_false (by omega)
        obtain ⟨b2, o2, rfl, g2, g3, g4⟩ := (H.out.below HB.out) x hx0 hx1
        have lg2 := World.block_lt_of_cell? _ _ g2
        dsimp only at lg2
        cases hq : ((gl l x).a == v)
        · have hq' : ((gl l x).a != v) = true := by simp only [bne, hq]; rfl
          have hno : pathB l s t P = false := by
            unfold pathB leadsO
            rw [HNo.out (by rw [Hm.out, HF.out]; simp only [Option.bind_some, leadStep, hw, hq]; rfl)]
          have HNN := Lib.hid hno
          clear hno hq hw
          go_upto_region 5 with fail
          go_quiet (fail)
          go_wp2
          go_ret
          exact ⟨by rw [HNN.out]; rfl, below_drews HB.out _⟩
        · have hq' : ((gl l x).a != v) = false := by simp only [bne, hq]; rfl
          have Hs := Lib.hid (show (P.take (k + 1)).foldlM (leadStep l) (s, 0) = some ((gl l x).b, wrap64 (u + (gl l x).m)) by rw [Hm.out, HF.out]; simp only [Option.bind_some, leadStep, hw, hq]; rfl)
          clear hq hw
          go_upto_region 5 with fail
          go_quiet (fail)
          go_upto_region 7 with fail
          go_quiet (fail)
          go_wp2
          go_roundw
          case rel => exact ⟨k + 1, _, _, by omega, by go_num, rfl, Hs, Lib.hid (below_drews HB.out _), hc1⟩
          case measure => simp [intOf]; omega
    · obtain rfl : k = P.length := by omega
      have t0 : decide ((P.length : Int) < (P.length : Int)) = false := decide_eq_false (by omega)
      have e : pathB l s t P = (v == t) := by unfold pathB; rw [leadsO, ← List.take_length (l := P), HF.out]
      have HE := Lib.hid e
      clear e
      go_wp2
      go_ret
      exact ⟨by rw [HE.out]; rfl, HB.out⟩
/-- The sum of the links' Most. -/
def sumM (l : List Lk) (P : List Int) : Int := P.foldl (fun s i => s + (gl l i).m) 0
theorem sumM_take (l : List Lk) (P : List Int) (k : Nat) (h : k < P.length) : sumM l (P.take (k + 1)) = sumM l (P.take k) + (gl l (gi P k)).m := by unfold sumM; rw [fold_gi _ _ P k h]
theorem sumM_bound {l : List Lk} {P : List Int} (h : ∀ i ∈ P, -17179869184 ≤ (gl l i).m ∧ (gl l i).m ≤ 17179869184) : ∀ k, k ≤ P.length → -(k * 17179869184) ≤ sumM l (P.take k) ∧ sumM l (P.take k) ≤ k * 17179869184
  | 0, _ => by simp [sumM]
  | k + 1, hk => by
    have := sumM_bound h k (by omega)
    have q := h _ (gi_mem (l := P) (i := (k : Int)) (by omega) (by omega))
    rw [sumM_take l P k (by omega)]
    have e : ((k + 1 : Nat) : Int) = (k : Int) + 1 := by omega
    rw [e]
    omega
set_option maxRecDepth 100000 in
set_option maxHeartbeats 4000000 in
theorem rsum_any (n : Int) (A : Option Addr) (c : Nat) (l : List Lk) (PA : Option Addr) (pc : Nat) (P : List Int) (w : World) (hl : l.length ≤ 1000000) (hp : P.length ≤ 1000) (hin : ∀ i ∈ P, 0 ≤ i ∧ i < l.length) (hm : ∀ i ∈ P, -17179869184 ≤ (gl l i).m ∧ (gl l i).m ≤ 17179869184) (h : LksAt w A l) (h' : IntsAt w PA P) :
    Calls Try.prog 63 #[.agg #[.int .i64 n, .slice A l.length c], .slice PA P.length pc] w fun e w' => e = .returned (.int .i64 (sumM l P)) ∧ Below w.heap.size w w' := by
  have H := Lib.hid h
  have H' := Lib.hid h'
  have HIN := Lib.hid hin
  have HM := Lib.hid (sumM_bound hm)
  have HMM := Lib.hid hm
  clear h h' hin hm
  go_enter Try.func63, Try.ntmps63
  go_wp2
  go_loopw [5, 6] (fun s i wr => ∃ (k : Nat), k ≤ P.length ∧ i = .int .i64 k ∧ s = .int .i64 (sumM l (P.take k)) ∧ Hid (Below w.heap.size w wr) ∧ wr.cell? ⟨w.heap.size, 1, none⟩ = some (.slice A l.length c)) (fun _ i _ => P.length - (intOf i).toNat)
  case atStart => exact ⟨0, by omega, rfl, rfl, Lib.hid bel, by simp⟩
  case round =>
    obtain ⟨k, hk, rfl, rfl, HB, hc1⟩ := hrel
    by_cases hlt : k < P.length
    · have t0 : decide ((k : Int) < (P.length : Int)) = true := decide_eq_true (by omega)
      have lq := World.block_lt_of_cell? _ _ hc1
      dsimp only at lq
      obtain ⟨b, o, rfl, g1⟩ := (H'.out.below HB.out).nat k hlt
      have lg := World.block_lt_of_cell? _ _ g1
      dsimp only at lg
      have HS := Lib.hid (sumM_take l P k hlt)
      have hx := HIN.out _ (gi_mem (l := P) (i := (k : Int)) (by omega) (by omega))
      have hb := HM.out k (by omega)
      have hmm := HMM.out _ (gi_mem (l := P) (i := (k : Int)) (by omega) (by omega))
      obtain ⟨x, hx2⟩ : ∃ x, gi P (k : Int) = x := ⟨_, rfl⟩
      rw [hx2] at g1 HS hx hmm
      clear hx2
      obtain ⟨hx0, hx1⟩ := hx
      obtain ⟨b2, o2, rfl, g2, g3, g4⟩ := (H.out.below HB.out) x hx0 hx1
      have lg2 := World.block_lt_of_cell? _ _ g2
      dsimp only at lg2
      obtain ⟨m, hm⟩ : ∃ m, (gl l x).m = m := ⟨_, rfl⟩
      rw [hm] at g4 HS hmm
      clear hm
      obtain ⟨sk, hsk⟩ : ∃ sk, sumM l (P.take k) = sk := ⟨_, rfl⟩
      rw [hsk] at HS hb ⊢
      clear hsk
      have hk3 : (k : Int) ≤ 1000 := by omega
      have hs0 : -17179869184000 ≤ sk := by have := hb.1; omega
      have hs1 : sk ≤ 17179869184000 := by have := hb.2; omega
      obtain ⟨hm0, hm1⟩ := hmm
      clear hb
      have i0 : (0 : Int) ≤ (k : Int) := by omega
      have i1 : (k : Int) < (P.length : Int) := by omega
      go_upto_region 5 with fail
      go_quiet (fail)
      go_wp2
      go_roundw
      case rel => exact ⟨k + 1, by omega, by go_num, by rw [HS.out], Lib.hid (below_drews HB.out _), hc1⟩
      case measure => simp [intOf]; omega
    · obtain rfl : k = P.length := by omega
      have t0 : decide ((P.length : Int) < (P.length : Int)) = false := decide_eq_false (by omega)
      have HE := Lib.hid (show sumM l (P.take P.length) = sumM l P by rw [List.take_length])
      go_wp2
      go_ret
      exact ⟨by rw [← HE.out]; rfl, HB.out⟩
set_option maxRecDepth 100000 in
set_option maxHeartbeats 4000000 in
theorem twice_once (n : Int) (A : Option Addr) (c : Nat) (l : List Lk) (PA : Option Addr) (pc : Nat) (P : List Int) (w : World) (hl : l.length ≤ 1000000) (hp : P.length ≤ 1000) (hin : ∀ i ∈ P, 0 ≤ i ∧ i < l.length) (ho : Once l P) (h : LksAt w A l) (h' : IntsAt w PA P) :
    Calls Try.prog 102 #[.agg #[.int .i64 n, .slice A l.length c], .slice PA P.length pc] w fun e w' => e = .returned (.bool false) ∧ Below w.heap.size w w' := by
  have H := Lib.hid h
  have H' := Lib.hid h'
  have HIN := Lib.hid hin
  have HO := Lib.hid ho
  clear h h' hin ho
  go_enter Try.func102, Try.ntmps102
  go_wp2
  go_loopw [5] (fun i wr => ∃ (k : Nat), k ≤ P.length ∧ i = .int .i64 k ∧ Hid (Below w.heap.size w wr) ∧ wr.cell? ⟨w.heap.size, 1, none⟩ = some (.slice A l.length c)) (fun i _ => P.length - (intOf i).toNat)
  case atStart => exact ⟨0, by omega, rfl, Lib.hid bel, by simp⟩
  case round =>
    obtain ⟨k, hk, rfl, HB, hc1⟩ := hrel
    by_cases hlt : k < P.length
    · have t0 : decide ((k : Int) < (P.length : Int)) = true := decide_eq_true (by omega)
      go_wp2
      go_loopw [6] (fun i wx => ∃ (j : Nat), j ≤ k ∧ i = .int .i64 j ∧ Hid (Below wr.heap.size wr wx)) (fun i _ => k - (intOf i).toNat)
      case atStart => exact ⟨0, by omega, rfl, Lib.hid (Below.refl _ _)⟩
      case round =>
        obtain ⟨j, hj, rfl, HX⟩ := hrel
        by_cases hjk : j < k
        · have t1 : decide ((j : Int) < (k : Int)) = true := decide_eq_true (by omega)
          have HBX := Lib.hid (below_trans HB.out HX.out)
          have hc2 := cell_below HX.out hc1
          have lq := World.block_lt_of_cell? _ _ hc2
          dsimp only at lq
          obtain ⟨b, o, rfl, g1⟩ := (H'.out.below HBX.out).nat k hlt
          obtain ⟨b', o', e', g2⟩ := (H'.out.below HBX.out).nat j (by omega)
          cases e'
          have lg := World.block_lt_of_cell? _ _ g1
          dsimp only at lg
          have hx := HIN.out _ (gi_mem (l := P) (i := (k : Int)) (by omega) (by omega))
          have hy := HIN.out _ (gi_mem (l := P) (i := (j : Int)) (by omega) (by omega))
          have hon := HO.out j k hjk hlt
          obtain ⟨x, hx2⟩ : ∃ x, gi P (k : Int) = x := ⟨_, rfl⟩
          obtain ⟨y, hy2⟩ : ∃ y, gi P (j : Int) = y := ⟨_, rfl⟩
          rw [hx2] at g1 hx hon
          rw [hy2] at g2 hy hon
          clear hx2 hy2
          obtain ⟨hx0, hx1⟩ := hx
          obtain ⟨hy0, hy1⟩ := hy
          obtain ⟨b2, o2, rfl, k1, k2, k3⟩ := (H.out.below HBX.out) x hx0 hx1
          obtain ⟨b3, o3, e3, m1, m2, m3⟩ := (H.out.below HBX.out) y hy0 hy1
          cases e3
          have lg2 := World.block_lt_of_cell? _ _ k1
          dsimp only at lg2
          have ha : ((gl l x).a == (gl l y).a) = false := by rw [beq_eq_false_iff_ne]; exact fun e => hon.1 e.symm
          have hb : ((gl l x).b == (gl l y).b) = false := by rw [beq_eq_false_iff_ne]; exact fun e => hon.2 e.symm
          have i0 : (0 : Int) ≤ (k : Int) := by omega
          have i1 : (k : Int) < (P.length : Int) := by omega
          have i2 : (0 : Int) ≤ (j : Int) := by omega
          have i3 : (j : Int) < (P.length : Int) := by omega
          clear hon
          go_upto_region 7 with fail
          go_quiet (fail)
          go_wp2
          go_roundw
          case rel => exact ⟨j + 1, by omega, by go_num, Lib.hid (below_drews HX.out _)⟩
          case measure => simp [intOf]; omega
        · obtain rfl : j = k := by omega
          have t1 : decide ((j : Int) < (j : Int)) = false := decide_eq_false (by omega)
          have HBX := Lib.hid (below_trans HB.out HX.out)
          have hc2 := cell_below HX.out hc1
          go_wp2
          go_roundw
          case rel => exact ⟨j + 1, by omega, by go_num, HBX, hc2⟩
          case measure => simp [intOf]; omega
    · obtain rfl : k = P.length := by omega
      have t0 : decide ((P.length : Int) < (P.length : Int)) = false := decide_eq_false (by omega)
      go_wp2
      go_ret
      exact ⟨rfl, HB.out⟩

theorem addP_up {P : List Int} {u : Int} (hu : 0 ≤ u) : ∀ {s : List Int} {D : Int}, (∀ i ∈ P, 0 ≤ i ∧ i < s.length) → (∀ k : Nat, k < s.length → 0 ≤ gi s k ∧ gi s k ≤ D) → ∀ k : Nat, k < s.length → 0 ≤ gi (addP P u s) k ∧ gi (addP P u s) k ≤ D + P.length * u := by
  induction P with
  | nil => intro s D _ hs k hk; have := hs k hk; simp [addP]; omega
  | cons i P ih =>
    intro s D hP hs k hk
    have hi := hP i (by simp)
    have h1 := hs i.toNat (by omega)
    rw [show ((i.toNat : Nat) : Int) = i by omega] at h1
    have := ih (s := si s i (gi s i + u)) (D := D + u) (fun j hj => by simpa [si] using hP j (by simp [hj])) (fun j hj => by
      simp [si] at hj
      rw [gi_set_eq hi.1 hi.2 (by omega)]
      split
      · omega
      · have := hs j hj; omega) k (by simpa [si] using hk)
    have e0 : addP (i :: P) u s = addP P u (si s i (gi s i + u)) := rfl
    rw [e0]
    have e : (((i :: P).length : Nat) : Int) * u = (P.length : Int) * u + u := by
      have : (((i :: P).length : Nat) : Int) = (P.length : Int) + 1 := by simp
      rw [this, Int.add_mul, Int.one_mul]
    rw [e]
    exact ⟨this.1, by have := this.2; omega⟩
/-- A path that Join takes. -/
def goodB (n : Int) (l : List Lk) (p : Pa) : Bool := nodeB n p.a && (nodeB n p.b && (!decide (260 < p.ls.length) && (withinB p.u 0 134217728 && pathB l p.a p.b p.ls)))
def joinU (L : Nat) (ps : List PV) : List Int := ps.foldl (fun s p => addP p.1.ls p.1.u s) (List.replicate L 0)
def joinS (ps : List PV) : Int := ps.foldl (fun s p => s + p.1.ls.length * p.1.u) 0
def joinR (n : Int) (l : List Lk) (ps : List PV) : List Int × Int := if 1000 < ps.length then ([], 2) else if ps.any (fun p => !goodB n l p.1) then ([], 1) else if 134217728 < joinS ps then ([], 3) else (joinU l.length ps, 0)
theorem fold_gp {α : Type} (f : α → PV → α) (a : α) (ps : List PV) (k : Nat) (h : k < ps.length) : (ps.take (k + 1)).foldl f a = f ((ps.take k).foldl f a) (gp ps k) := by
  rw [List.take_succ_eq_append_getElem h, List.foldl_append]
  simp [gp, List.getD_eq_getElem?_getD, h]
theorem joinU_take (L : Nat) (ps : List PV) (k : Nat) (h : k < ps.length) : joinU L (ps.take (k + 1)) = addP (gp ps k).1.ls (gp ps k).1.u (joinU L (ps.take k)) := by unfold joinU; rw [fold_gp _ _ ps k h]
theorem joinS_take (ps : List PV) (k : Nat) (h : k < ps.length) : joinS (ps.take (k + 1)) = joinS (ps.take k) + (gp ps k).1.ls.length * (gp ps k).1.u := by unfold joinS; rw [fold_gp _ _ ps k h]
theorem leads_mem {l : List Lk} {s : Int} {P : List Int} {r : Int × Int} (h : leadsO l s P = some r) : ∀ i ∈ P, 0 ≤ i ∧ i < l.length := by
  have key : ∀ k, k ≤ P.length → (∃ r, (P.take k).foldlM (leadStep l) (s, 0) = some r) → ∀ i ∈ P.take k, 0 ≤ i ∧ i < l.length := by
    intro k
    induction k with
    | zero => intro _ _ i hi; simp at hi
    | succ k ih =>
      intro hk ⟨r, hr⟩ i hi
      rw [foldM_gi _ _ P k (by omega)] at hr
      obtain ⟨q, hq, hr2⟩ := Option.bind_eq_some_iff.1 hr
      rw [take_gi P k (by omega)] at hi
      rcases List.mem_append.1 hi with hi | hi
      · exact ih (by omega) ⟨q, hq⟩ i hi
      · simp at hi
        subst hi
        unfold leadStep at hr2
        split at hr2
        · rename_i hb
          simp [withinB] at hb
          omega
        · cases hr2
  have := key P.length (Nat.le_refl _) ⟨r, by rw [List.take_length]; exact h⟩
  rwa [List.take_length] at this
theorem path_mem {l : List Lk} {s t : Int} {P : List Int} (h : pathB l s t P = true) : ∀ i ∈ P, 0 ≤ i ∧ i < l.length := by
  unfold pathB at h
  cases hl : leadsO l s P with
  | none => rw [hl] at h; cases h
  | some r => exact leads_mem hl
theorem good_parts {n : Int} {l : List Lk} {p : Pa} (h : goodB n l p = true) : nodeB n p.a = true ∧ nodeB n p.b = true ∧ p.ls.length ≤ 260 ∧ 0 ≤ p.u ∧ p.u ≤ 134217728 ∧ pathB l p.a p.b p.ls = true := by
  unfold goodB at h
  simp only [Bool.and_eq_true, Bool.not_eq_true', decide_eq_false_iff_not] at h
  obtain ⟨h1, h2, h3, h4, h5⟩ := h
  simp [withinB] at h4
  exact ⟨h1, h2, by omega, h4.1, h4.2, h5⟩
theorem joinU_ok {n : Int} {l : List Lk} {ps : List PV} : ∀ k, k ≤ ps.length → (∀ j : Nat, j < k → goodB n l (gp ps j).1 = true) → (joinU l.length (ps.take k)).length = l.length ∧ (∀ i : Nat, i < l.length → 0 ≤ gi (joinU l.length (ps.take k)) i ∧ gi (joinU l.length (ps.take k)) i ≤ k * 34896609280) ∧ 0 ≤ joinS (ps.take k) ∧ joinS (ps.take k) ≤ k * 34896609280
  | 0, _, _ => by
    refine ⟨by simp [joinU], fun i hi => ?_, by simp [joinS]⟩
    simp [joinU, gi, List.getD_eq_getElem?_getD, List.getElem?_replicate]
    split <;> simp
  | k + 1, hk, hg => by
    obtain ⟨h1, h2, h3⟩ := joinU_ok k (by omega) fun j hj => hg j (by omega)
    obtain ⟨g1, g2, g3, g4, g5, g6⟩ := good_parts (hg k (by omega))
    have hm := path_mem g6
    have hmul : (((gp ps k).1.ls.length : Nat) : Int) * (gp ps k).1.u ≤ 34896609280 := by
      have := Int.mul_le_mul (show (((gp ps k).1.ls.length : Nat) : Int) ≤ 260 by omega) g5 g4 (by omega)
      omega
    have hmul0 : 0 ≤ (((gp ps k).1.ls.length : Nat) : Int) * (gp ps k).1.u := Int.mul_nonneg (by omega) g4
    have e : ((k + 1 : Nat) : Int) * 34896609280 = (k : Int) * 34896609280 + 34896609280 := by omega
    rw [joinU_take _ ps k (by omega), joinS_take ps k (by omega)]
    refine ⟨by rw [addP_len]; exact h1, fun i hi => ?_, by omega, by omega⟩
    have := addP_up g4 (s := joinU l.length (ps.take k)) (fun i hi => by rw [h1]; exact hm i hi) (fun k hk => h2 k (by omega)) i (by omega)
    omega
theorem join_take_all (L : Nat) (ps : List PV) : joinU L (ps.take ps.length) = joinU L ps ∧ joinS (ps.take ps.length) = joinS ps := by rw [List.take_length]; exact ⟨rfl, rfl⟩
theorem any_gp_false {ps : List PV} {f : PV → Bool} (h : ∀ j : Nat, j < ps.length → f (gp ps j) = false) : ps.any f = false := by
  rw [List.any_eq_false]
  intro x hx
  obtain ⟨j, hj, rfl⟩ := List.getElem_of_mem hx
  have := h j hj
  simp [gp, List.getD_eq_getElem?_getD, hj] at this
  simp [this]
theorem any_gp_true {ps : List PV} {f : PV → Bool} {k : Nat} (hk : k < ps.length) (h : f (gp ps k) = true) : ps.any f = true := by
  rw [List.any_eq_true]
  exact ⟨_, gp_mem hk, h⟩
theorem join_bad {n : Int} {l : List Lk} {ps : List PV} {k : Nat} (h0 : ps.length ≤ 1000) (hk : k < ps.length) (h : goodB n l (gp ps k).1 = false) : joinR n l ps = ([], 1) := by
  unfold joinR
  rw [if_neg (by omega), if_pos (any_gp_true hk (by rw [h]; rfl))]
theorem join_end {n : Int} {l : List Lk} {ps : List PV} (h0 : ps.length ≤ 1000) (h : ∀ j : Nat, j < ps.length → goodB n l (gp ps j).1 = true) : joinR n l ps = if 134217728 < joinS ps then ([], 3) else (joinU l.length ps, 0) := by
  unfold joinR
  rw [if_neg (by omega), if_neg (by rw [any_gp_false fun j hj => by rw [h j hj]; rfl]; simp)]
/-- The state of Join: the net's box, the units. -/
structure Jn (w wr : World) (n : Int) (A : Option Addr) (c m g : Nat) (U : List Int) : Prop where
  q0 : wr.cell? ⟨w.heap.size, 0, none⟩ = some (.int .i64 n)
  q1 : wr.cell? ⟨w.heap.size, 1, none⟩ = some (.slice A m c)
  row : RowI wr g U
  bel : Below w.heap.size w wr
  hg : w.heap.size < g
section
variable {w wr w' : World} {n : Int} {A : Option Addr} {c m g : Nat} {U : List Int}
theorem Jn.below (h : Jn w wr n A c m g U) (hb : Below wr.heap.size wr w') : Jn w w' n A c m g U :=
  ⟨cell_below hb h.q0, cell_below hb h.q1, h.row.below hb, below_trans h.bel hb, h.hg⟩
theorem Jn.set (h : Jn w wr n A c m g U) (j : Nat) (v : Int) : Jn w (wr.setCell ⟨g, j, none⟩ (.int .i64 v)) n A c m g (U.set j v) := by
  have := h.hg
  exact ⟨cell_other h.q0 (by simp; omega), cell_other h.q1 (by simp; omega), h.row.set j v, h.bel.setCell (by simp; omega) _, h.hg⟩
theorem Jn.drew (h : Jn w wr n A c m g U) : Jn w wr.drew n A c m g U := ⟨h.q0, h.q1, h.row, h.bel.drew, h.hg⟩
end

set_option maxRecDepth 100000 in
set_option maxHeartbeats 4000000 in
theorem join_check (n : Int) (A : Option Addr) (c : Nat) (l : List Lk) (V : Value) (w : World) (hl : l.length ≤ 1000) (h : LksAt w A l) (hc : checkL n l ≠ 0) :
    Calls Try.prog 64 #[.agg #[.int .i64 n, .slice A l.length c], V] w fun e w' => e = .returned (.tuple #[.slice none 0 0, .int .i64 (checkL n l)]) ∧ Below w.heap.size w w' := by
  have HCK := Lib.hid (fun W (hW : Below w.heap.size w W) => check_any n A c l W (by omega) (h.below hW))
  generalize checkL n l = r at HCK hc ⊢
  have hr : (r != 0) = true := by simpa using hc
  clear h hc
  go_enter Try.func64, Try.ntmps64
  go_wp2_with (go_at_call 53; refine (HCK.out _ bel).mono ?_; rintro e w2 ⟨rfl, hb⟩; have HB2 := Lib.hid hb; clear hb)
  go_ret2
  exact ⟨rfl, below_trans bel HB2.out⟩
set_option maxRecDepth 100000 in
set_option maxHeartbeats 8000000 in
theorem Join_any (n : Int) (A : Option Addr) (c : Nat) (l : List Lk) (LA : Option Addr) (cc : Nat) (ps : List PV) (w : World) (hl : l.length ≤ 1000) (h : LksAt w A l) (hps : ps.length ≤ 140737488351232) (hp : PthsAt w LA ps) (hpl : ps.length ≤ 1000 → ∀ p ∈ ps, p.1.ls.length ≤ 1000) (hc : checkL n l = 0) :
    Calls Try.prog 64 #[.agg #[.int .i64 n, .slice A l.length c], .slice LA ps.length cc] w fun e w' => ∃ v, e = .returned (.tuple #[v, .int .i64 (joinR n l ps).2]) ∧ IntsV w' v (joinR n l ps).1 ∧ Below w.heap.size w w' := by
  have HA := Lib.hid h
  have HP := Lib.hid hp
  have HPL := Lib.hid hpl
  have HCK := Lib.hid (fun W (hW : Below w.heap.size w W) => check_any n A c l W (by omega) (h.below hW))
  rw [hc] at HCK
  have hmk := mkInts l.length (by omega)
  clear h hp hpl hc
  go_enter Try.func64, Try.ntmps64
  by_cases h1000 : 1000 < ps.length
  · have t1 : decide ((1000 : Int) < (ps.length : Int)) = true := decide_eq_true (by omega)
    have HE := Lib.hid (show joinR n l ps = ([], 2) by unfold joinR; rw [if_pos h1000])
    clear hmk
    go_wp2_with (go_at_call 53; refine (HCK.out _ bel).mono ?_; rintro e w2 ⟨rfl, hb⟩; have HB2 := Lib.hid hb; clear hb)
    go_ret2
    exact ⟨.slice none 0 0, by rw [HE.out]; rfl, by rw [HE.out]; exact IntsV.nil _, below_trans bel HB2.out⟩
  · have t1 : decide ((1000 : Int) < (ps.length : Int)) = false := decide_eq_false (by omega)
    have h1001 : ps.length ≤ 1000 := by omega
    clear h1000
    go_upto_region 6 with (go_at_call 53; refine (HCK.out _ bel).mono ?_; rintro e w2 ⟨rfl, hb⟩; have HB2 := Lib.hid (show Below w.heap.size w w2 ∧ w.heap.size < w2.heap.size from ⟨below_trans bel hb, by have := hb.size; simp at this; omega⟩); have e0 := cell_below hb (show (w.alloc (.cells #[.int .i64 n, .slice A l.length c] 24)).cell? ⟨w.heap.size, 0, none⟩ = some (.int .i64 n) by go_simp); have e1 := cell_below hb (show (w.alloc (.cells #[.int .i64 n, .slice A l.length c] 24)).cell? ⟨w.heap.size, 1, none⟩ = some (.slice A l.length c) by go_simp); clear hb)
    have el := HB2.out.2
    obtain ⟨w3, hw3⟩ : ∃ w3, w3 = w2.alloc (.cells (madeCells #[.int .i64 0] l.length) 3) := ⟨_, rfl⟩
    obtain ⟨g, hg⟩ : ∃ g, w2.heap.size = g := ⟨_, rfl⟩
    have HJ := Lib.hid (show Jn w w3 n A c l.length g (joinU l.length (ps.take 0)) from ⟨by rw [hw3]; exact cell_alloc _ e0, by rw [hw3]; exact cell_alloc _ e1, by rw [hw3, ← hg]; have := RowI_made w2 l.length; simpa [joinU] using this, by rw [hw3]; exact below_trans HB2.out.1 bel, by omega⟩)
    go_upto_region 8 with fail
    rw [← hw3]
    clear hw3 hg e0 e1 el hmk HCK
    go_wp2
    go_loopw [8, 30] (fun s i wr => ∃ k : Nat, k ≤ ps.length ∧ i = .int .i64 (k : Int) ∧ s = .int .i64 (joinS (ps.take k)) ∧ Hid (Jn w wr n A c l.length g (joinU l.length (ps.take k))) ∧ Hid (∀ j : Nat, j < k → goodB n l (gp ps j).1 = true)) (fun _ i _ => ps.length - (intOf i).toNat)
    case atStart => exact ⟨0, by omega, rfl, rfl, HJ, Lib.hid (fun j hj => by omega)⟩
    case round =>
      obtain ⟨k, hk, rfl, rfl, HJk, HGk⟩ := hrel
      by_cases hlt : k < ps.length
      · have t2 : decide ((k : Int) < (ps.length : Int)) = true := decide_eq_true (by omega)
        obtain ⟨b, o, rfl, p0, p1, p2, p3, LB, cb, hx2, hin⟩ := HP.out k hlt
        replace p0 := cell_below HJk.out.bel p0
        replace p1 := cell_below HJk.out.bel p1
        replace p2 := cell_below HJk.out.bel p2
        replace p3 := cell_below HJk.out.bel p3
        have HUT := Lib.hid (joinU_take l.length ps k hlt)
        have HST := Lib.hid (joinS_take ps k hlt)
        have HBAD := Lib.hid (fun hh => join_bad (n := n) (l := l) h1001 hlt hh)
        have hplk := HPL.out h1001 _ (gp_mem hlt)
        have HGJ := Lib.hid (fun (hh : goodB n l (gp ps k).1 = true) => (show ∀ j : Nat, j < k + 1 → goodB n l (gp ps j).1 = true from fun j hj => by
          by_cases e : j = k
          · subst e; exact hh
          · exact HGk.out j (by omega)))
        have HUB := Lib.hid (joinU_ok k hk HGk.out)
        rw [hx2] at p2
        generalize gp ps k = pv at *
        obtain ⟨⟨pa, pb, P, pu⟩, pvv⟩ := pv
        simp only at p0 p1 p2 p3 hin hplk HUT HST
        clear hx2
        have HAP := Lib.hid (hin.apart (Nat.le_of_lt HJk.out.hg))
        have HIN := Lib.hid (hin.below HJk.out.bel)
        have lb := World.block_lt_of_cell? _ _ p0
        dsimp only at lb
        clear hin
        have q0 := HJk.out.q0
        have q1 := HJk.out.q1
        have lq := World.block_lt_of_cell? _ _ q0
        dsimp only at lq
        have lq1 : w.heap.size < wr.heap.size + 1 := by omega
        have lq2 : w.heap.size < wr.heap.size + 1 + 1 := by omega
        have lq3 : w.heap.size < wr.heap.size + 1 + 1 + 1 := by omega
        have i0 : (0 : Int) ≤ (k : Int) := by omega
        have i1 : (k : Int) < (ps.length : Int) := by omega
        have HA1 := Lib.hid (HA.out.below HJk.out.bel)
        cases ha : nodeB n pa with
        | false =>
          have HE := Lib.hid (HBAD.out (by unfold goodB; simp only [ha]; rfl))
          clear HBAD HGJ HUT HST HUB
          go_wp2_with (first | (go_at_call 80; refine (node_any n _ _ _).mono ?_; rintro e w' ⟨rfl, rfl⟩) | (go_at_call 92; refine (within_any _ _ _ _).mono ?_; rintro e w' ⟨rfl, rfl⟩))
          go_ret2
          exact ⟨.slice none 0 0, by rw [HE.out]; rfl, by rw [HE.out]; exact IntsV.nil _, below_trans HJk.out.bel bel⟩
        | true =>
          cases hb : nodeB n pb with
          | false =>
            have HE := Lib.hid (HBAD.out (by unfold goodB; simp only [ha, hb]; rfl))
            clear HBAD HGJ HUT HST HUB
            go_wp2_with (first | (go_at_call 80; refine (node_any n _ _ _).mono ?_; rintro e w' ⟨rfl, rfl⟩) | (go_at_call 92; refine (within_any _ _ _ _).mono ?_; rintro e w' ⟨rfl, rfl⟩))
            go_ret2
            exact ⟨.slice none 0 0, by rw [HE.out]; rfl, by rw [HE.out]; exact IntsV.nil _, below_trans HJk.out.bel bel⟩
          | true =>
            by_cases h260 : 260 < P.length
            · have t3 : decide ((260 : Int) < (P.length : Int)) = true := decide_eq_true (by omega)
              have HE := Lib.hid (HBAD.out (by unfold goodB; simp only [ha, hb, h260]; rfl))
              clear HBAD HGJ HUT HST HUB
              go_wp2_with (first | (go_at_call 80; refine (node_any n _ _ _).mono ?_; rintro e w' ⟨rfl, rfl⟩) | (go_at_call 92; refine (within_any _ _ _ _).mono ?_; rintro e w' ⟨rfl, rfl⟩))
              go_ret2
              exact ⟨.slice none 0 0, by rw [HE.out]; rfl, by rw [HE.out]; exact IntsV.nil _, below_trans HJk.out.bel bel⟩
            · have t3 : decide ((260 : Int) < (P.length : Int)) = false := decide_eq_false (by omega)
              cases hu : withinB pu 0 134217728 with
              | false =>
                have HE := Lib.hid (HBAD.out (by unfold goodB; simp only [ha, hb, hu, h260]; rfl))
                clear HBAD HGJ HUT HST HUB
                go_wp2_with (first | (go_at_call 80; refine (node_any n _ _ _).mono ?_; rintro e w' ⟨rfl, rfl⟩) | (go_at_call 92; refine (within_any _ _ _ _).mono ?_; rintro e w' ⟨rfl, rfl⟩))
                go_ret2
                exact ⟨.slice none 0 0, by rw [HE.out]; rfl, by rw [HE.out]; exact IntsV.nil _, below_trans HJk.out.bel bel⟩
              | true =>
                have HLD := Lib.hid (fun W (hW : Below wr.heap.size wr W) => leads_any n A c l pa LB cb P W (by omega) (by omega) (HA1.out.below hW) (HIN.out.below hW))
                cases hl2 : leadsO l pa P with
                | none =>
                  have HE := Lib.hid (HBAD.out (by unfold goodB; simp only [ha, hb, hu, h260, pathB, hl2]; rfl))
                  clear HBAD HGJ HUT HST HUB
                  rw [hl2] at HLD
                  have HLE := Lib.hid (show leadsV (none : Option (Int × Int)) = .returned (.tuple #[.int .i64 0, .int .i64 0, .bool false]) from rfl)
                  go_wp2_with (first | (go_at_call 80; refine (node_any n _ _ _).mono ?_; rintro e w' ⟨rfl, rfl⟩) | (go_at_call 92; refine (within_any _ _ _ _).mono ?_; rintro e w' ⟨rfl, rfl⟩) | (go_at_call 96; refine (HLD.out _ bel).mono ?_; rintro e w6 ⟨rfl, hb6⟩; rw [HLE.out]; have HB6 := Lib.hid (show Below wr.heap.size wr w6 from below_trans bel hb6); clear hb6))
                  go_ret2
                  exact ⟨.slice none 0 0, by rw [HE.out]; rfl, by rw [HE.out]; exact IntsV.nil _, below_trans HJk.out.bel HB6.out⟩
                | some r =>
                  obtain ⟨lt, lm⟩ := r
                  rw [hl2] at HLD
                  have HLE := Lib.hid (show leadsV (some (lt, lm)) = .returned (.tuple #[.int .i64 lt, .int .i64 lm, .bool true]) from rfl)
                  cases he : (lt == pb) with
                  | false =>
                    have he2 : (lt != pb) = true := by simp only [bne, he]; rfl
                    have HE := Lib.hid (HBAD.out (by unfold goodB; simp only [ha, hb, hu, h260, pathB, hl2, he]; rfl))
                    clear HBAD HGJ HUT HST HUB
                    go_wp2_with (first | (go_at_call 80; refine (node_any n _ _ _).mono ?_; rintro e w' ⟨rfl, rfl⟩) | (go_at_call 92; refine (within_any _ _ _ _).mono ?_; rintro e w' ⟨rfl, rfl⟩) | (go_at_call 96; refine (HLD.out _ bel).mono ?_; rintro e w6 ⟨rfl, hb6⟩; rw [HLE.out]; have HB6 := Lib.hid (show Below wr.heap.size wr w6 from below_trans bel hb6); have d1 := cell_below hb6 (show World.cell? _ ⟨wr.heap.size, 1, none⟩ = some (.int .i64 pb) by go_simp); have d2 := cell_below hb6 (show World.cell? _ ⟨wr.heap.size, 2, none⟩ = some (.slice LB P.length cb) by go_simp); have d3 := cell_below hb6 (show World.cell? _ ⟨wr.heap.size, 3, none⟩ = some (.int .i64 pu) by go_simp); have ld := World.block_lt_of_cell? _ _ d1; dsimp only at ld; clear hb6))
                    go_ret2
                    exact ⟨.slice none 0 0, by rw [HE.out]; rfl, by rw [HE.out]; exact IntsV.nil _, below_trans HJk.out.bel HB6.out⟩
                  | true =>
                    have he2 : (lt != pb) = false := by simp only [bne, he]; rfl
                    have hgood : goodB n l ⟨pa, pb, P, pu⟩ = true := by unfold goodB; simp only [ha, hb, hu, h260, pathB, hl2, he]; rfl
                    have HGN := Lib.hid (HGJ.out hgood)
                    have HME := Lib.hid (path_mem (good_parts hgood).2.2.2.2.2)
                    have hup : 0 ≤ pu ∧ pu ≤ 134217728 := by simp [withinB] at hu; exact hu
                    clear hgood HGJ HBAD
                    go_upto_region 16 with (first | (go_at_call 80; refine (node_any n _ _ _).mono ?_; rintro e w' ⟨rfl, rfl⟩) | (go_at_call 92; refine (within_any _ _ _ _).mono ?_; rintro e w' ⟨rfl, rfl⟩) | (go_at_call 96; refine (HLD.out _ bel).mono ?_; rintro e w6 ⟨rfl, hb6⟩; rw [HLE.out]; have HB6 := Lib.hid (show Below wr.heap.size wr w6 from below_trans bel hb6); have d1 := cell_below hb6 (show World.cell? _ ⟨wr.heap.size, 1, none⟩ = some (.int .i64 pb) by go_simp); have d2 := cell_below hb6 (show World.cell? _ ⟨wr.heap.size, 2, none⟩ = some (.slice LB P.length cb) by go_simp); have d3 := cell_below hb6 (show World.cell? _ ⟨wr.heap.size, 3, none⟩ = some (.int .i64 pu) by go_simp); have ld := World.block_lt_of_cell? _ _ d1; dsimp only at ld; clear hb6))
                    have HB7 := Lib.hid HB6.out
                    have HJ6 := Lib.hid (HJk.out.below HB7.out)
                    have HI6 := Lib.hid (HIN.out.below HB7.out)
                    obtain ⟨hu0, hu1⟩ := hup
                    obtain ⟨b1, b2, b3, b4⟩ := HUB.out
                    have HU2 := Lib.hid (show (joinU l.length (ps.take k)).length = l.length ∧ (∀ i : Nat, i < l.length → 0 ≤ gi (joinU l.length (ps.take k)) i ∧ gi (joinU l.length (ps.take k)) i ≤ 34896609280000) ∧ 0 ≤ joinS (ps.take k) ∧ joinS (ps.take k) ≤ 34896609280000 from ⟨b1, fun i hi => by have := b2 i hi; omega, b3, by omega⟩)
                    clear b1 b2 b3 b4 HUB
                    generalize joinU l.length (ps.take k) = U at HU2 HJ6 HJk HUT
                    generalize joinS (ps.take k) = S0 at HU2 HST ⊢
                    obtain ⟨hs0, hs1⟩ := HU2.out.2.2
                    have hP2 : P.length ≤ 260 := by omega
                    clear q0 q1 lq p0 p1 p2 p3 lb
                    go_wp2
                    go_loopw [8, 79] (fun s i wx => ∃ j : Nat, j ≤ P.length ∧ i = .int .i64 (j : Int) ∧ s = .int .i64 (S0 + j * pu) ∧ Hid (Jn w wx n A c l.length g (addP (P.take j) pu U)) ∧ Hid (Fr w6 wx (fun k => k = g))) (fun _ i _ => P.length - (intOf i).toNat)
                    case atStart => exact ⟨0, by omega, rfl, by simp, HJ6, Lib.hid (Fr.refl w6 _)⟩
                    case round =>
                      rename World => wx
                      obtain ⟨j, hj, rfl, rfl, HJx, HFx⟩ := hrel
                      by_cases hjl : j < P.length
                      · have t4 : decide ((j : Int) < (P.length : Int)) = true := decide_eq_true (by omega)
                        obtain ⟨bp, op, rfl, g1⟩ := (HI6.out.fr HFx.out (fun k hk => by subst hk; exact HAP.out)).nat j hjl
                        have e3 := HFx.out.cell d3 (by dsimp only; have := HJk.out.row.lt; omega)
                        have HAT := Lib.hid (addP_take P pu U j hjl)
                        have hx := HME.out _ (gi_mem (l := P) (i := (j : Int)) (by omega) (by omega))
                        obtain ⟨x, hxx⟩ : ∃ x, gi P (j : Int) = x := ⟨_, rfl⟩
                        rw [hxx] at g1 hx HAT
                        clear hxx
                        obtain ⟨hx0, hx1⟩ := hx
                        have HUL := Lib.hid (addP_len (P.take j) pu U)
                        have hub := addP_up (P := P.take j) hu0 (s := U) (fun i hi => by rw [HU2.out.1]; exact HME.out i (List.mem_of_mem_take hi)) (fun i hi => HU2.out.2.1 i (by rw [HU2.out.1] at hi; exact hi)) x.toNat (by rw [HU2.out.1]; omega)
                        rw [show ((x.toNat : Nat) : Int) = x by omega, List.length_take, Nat.min_eq_left (by omega)] at hub
                        obtain ⟨y, hy⟩ : ∃ y, (j : Int) * pu = y := ⟨_, rfl⟩
                        have hy0 : 0 ≤ y := by rw [← hy]; exact Int.mul_nonneg (by omega) hu0
                        have hy1 : y ≤ 34896609280 := by rw [← hy]; have := Int.mul_le_mul (show (j : Int) ≤ 260 by omega) hu1 hu0 (by omega); omega
                        have HSM := Lib.hid (show S0 + ((j + 1 : Nat) : Int) * pu = S0 + y + pu by rw [show ((j + 1 : Nat) : Int) = (j : Int) + 1 by omega, Int.add_mul, Int.one_mul, hy]; omega)
                        rw [hy] at hub ⊢
                        clear hy
                        have gu := HJx.out.row.cell x.toNat (by rw [HUL.out, HU2.out.1]; omega)
                        rw [show ((x.toNat : Nat) : Int) = x by omega] at gu
                        have fu := HJx.out.row.frozen x.toNat
                        have lg := HJx.out.row.lt
                        generalize addP (P.take j) pu U = V at HAT HUL hub gu HJx
                        obtain ⟨z, hz⟩ : ∃ z, gi V x = z := ⟨_, rfl⟩
                        rw [hz] at hub gu HAT
                        clear hz
                        obtain ⟨hz0, hz1⟩ := hub
                        have hz2 : z ≤ 34931505889280 := by omega
                        clear hz1
                        have j0 : (0 : Int) ≤ (j : Int) := by omega
                        have j1 : (j : Int) < (P.length : Int) := by omega
                        have le := World.block_lt_of_cell? _ _ e3
                        dsimp only at le
                        go_upto_region 19 with fail
                        have hgn : ¬ g = wr.heap.size := by have := HJk.out.row.lt; omega
                        have hgn2 : ¬ wr.heap.size = g := by omega
                        have e4 : (wx.setCell ⟨g, x.toNat, none⟩ (.int .i64 (z + pu))).drew.cell? ⟨wr.heap.size, 3, none⟩ = some (.int .i64 pu) := cell_otherd e3 (by dsimp only; omega)
                        have e5 : (wx.drew.setCell ⟨g, x.toNat, none⟩ (.int .i64 (z + pu))).cell? ⟨wr.heap.size, 3, none⟩ = some (.int .i64 pu) := cell_otherd e3 (by dsimp only; omega)
                        go_still_tail 8, (by kernel_rfl)
                        go_wp2_with fail
                        go_roundw
                        case rel => exact ⟨j + 1, by omega, by go_num, by rw [HSM.out], Lib.hid (by rw [HAT.out]; exact HJx.out.drew.set x.toNat (z + pu)), Lib.hid (HFx.out.drew.set _ _ (.inl rfl))⟩
                        case measure => simp [intOf]; omega
                      · obtain rfl : j = P.length := by omega
                        have t4 : decide ((P.length : Int) < (P.length : Int)) = false := decide_eq_false (by omega)
                        rw [List.take_length] at HJx
                        go_wp2_with fail
                        go_roundw
                        case rel => exact ⟨k + 1, by omega, by go_num, by rw [HST.out], Lib.hid (by rw [HUT.out]; exact HJx.out), HGN⟩
                        case measure => simp [intOf]; omega
      · obtain rfl : k = ps.length := by omega
        have t2 : decide ((ps.length : Int) < (ps.length : Int)) = false := decide_eq_false (by omega)
        have HE := Lib.hid (join_end (n := n) h1001 HGk.out)
        have HUL := Lib.hid (joinU_ok ps.length (Nat.le_refl _) HGk.out).1
        obtain ⟨e1, e2⟩ := join_take_all l.length ps
        rw [e1] at HJk HUL
        rw [e2]
        clear e1 e2
        by_cases hs : 134217728 < joinS ps
        · have t3 : decide ((134217728 : Int) < joinS ps) = true := decide_eq_true hs
          have HE2 := Lib.hid (show joinR n l ps = ([], 3) by rw [HE.out, if_pos hs])
          go_wp2_with fail
          go_ret2
          exact ⟨.slice none 0 0, by rw [HE2.out]; rfl, by rw [HE2.out]; exact IntsV.nil _, HJk.out.bel⟩
        · have t3 : decide ((134217728 : Int) < joinS ps) = false := decide_eq_false hs
          have HE2 := Lib.hid (show joinR n l ps = (joinU l.length ps, 0) by rw [HE.out, if_neg hs])
          go_wp2_with fail
          go_ret2
          exact ⟨.slice (some ⟨g, 0, none⟩) l.length l.length, by rw [HE2.out]; rfl, by rw [HE2.out]; exact ⟨some ⟨g, 0, none⟩, l.length, by rw [HUL.out], HJk.out.row.ints, fun e => by cases e⟩, HJk.out.bel⟩
end Go.Proofs.Ytmhiiomejopaoaa
