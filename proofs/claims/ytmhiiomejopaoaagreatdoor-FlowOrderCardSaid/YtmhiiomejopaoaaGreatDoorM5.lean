/- The flow walks: Needed. -/
import Derived.Test.YtmhiiomejopaoaaGreatDoorM3
namespace Go.Proofs.YtmhiiomejopaoaaGreatDoor
set_option linter.all false
set_option maxRecDepth 100000
open Go.RowKit

theorem prove_ok {F : Nat} {n : Int} {l : List Lk} {x : List Int} {r : List Int × Int} (h : proveP F n l x = some r) (h0 : r.2 = 0) : NetOk n l ∧ weightsB n x = true ∧ bestP F n.toNat l x = some r ∧ r.1.length = l.length := by
  unfold proveP at h
  split at h
  · rename_i ha
    exact ⟨check_ok (asked_ok ha).1, (asked_ok ha).2, h, best_len h h0⟩
  · rename_i ha
    cases h
    exact absurd h0 ha
theorem backs_mem {l : List Lk} {u : List Int} {k : Lk} (h : k ∈ backs l u) : ∃ q ∈ l, k = ⟨q.b, q.a, wrap64 (-q.m)⟩ := by
  unfold backs at h
  obtain ⟨p, hp, h2⟩ := List.mem_filterMap.1 h
  split at h2
  · exact ⟨p.1, (List.of_mem_zip hp).1, (Option.some.inj h2).symm⟩
  · cases h2
theorem backs_len (l : List Lk) (u : List Int) : (backs l u).length ≤ l.length := by
  unfold backs
  refine Nat.le_trans (List.length_filterMap_le _ _) ?_
  simp; omega
theorem rigid_inr {n : Int} {l : List Lk} {u : List Int} (h : ∀ k ∈ l, InR n k) : ∀ k ∈ rigidL l u, InR n k := by
  intro k hk
  rcases List.mem_append.1 hk with hk | hk
  · exact h k hk
  · obtain ⟨q, hq, rfl⟩ := backs_mem hk
    obtain ⟨h1, h2, h3, h4⟩ := h q hq
    exact ⟨h3, h4, h1, h2⟩
theorem wpAnyH_turn {P : Program} {md : Region.Mode} {ops : Array Oper} {Q : Exit → Act → World → Prop} {S S2 : World → Prop} (hS : ∀ w, S2 w → S w) : ∀ {fuel : Nat} {listed : Array Bool} {a : Act} {w : World}, wpAnyH P md ops Q S2 fuel listed a w → wpAnyH P md ops Q S fuel listed a w
  | 0, _, _, _, h => h
  | _ + 1, _, _, _, h => ⟨h.1, fun i hi => wpOp_mono (fun _ _ h' => ⟨hS _ h'.1, wpAnyH_turn hS h'.2⟩) (h.2 i hi)⟩
def tightL (n : Nat) (l : List Lk) (u : List Int) : Nat → List Int
  | 0 => []
  | k + 1 => if gi (boundsL n (rigidL l u) (gl l k).b) (gl l k).a == wrap64 (-(gl l k).m) then tightL n l u k ++ [(k : Int)] else tightL n l u k
theorem tightL_len (n : Nat) (l : List Lk) (u : List Int) : ∀ k, (tightL n l u k).length ≤ k
  | 0 => Nat.le_refl _
  | k + 1 => by
    have := tightL_len n l u k
    unfold tightL
    split
    · simp; omega
    · omega
def tightR (n : Int) (l : List Lk) (r : List Int × Int) : List Int × Int := if r.2 = 0 then (tightL n.toNat l r.1 l.length, 0) else ([], r.2)
theorem boundsL_length (n : Nat) (l : List Lk) (s : Int) : (boundsL n l s).length = n := by
  unfold boundsL
  rw [settled_length]
  simp [si]
set_option maxRecDepth 100000 in
set_option maxHeartbeats 4000000 in
theorem tight_no (r : List Int × Int) (n : Int) (A : Option Addr) (c m : Nat) (b : Value) (w : World) (h0 : ¬ r.2 = 0) (HP : Calls Tryz.prog 41 #[.agg #[.int .i64 n, .slice A m c], b] (w.alloc (.cells #[.int .i64 n, .slice A m c] 24)) fun e w' => ∃ v, e = .returned (.tuple #[v, .int .i64 r.2]) ∧ IntsV w' v r.1 ∧ Below (w.alloc (.cells #[.int .i64 n, .slice A m c] 24)).heap.size (w.alloc (.cells #[.int .i64 n, .slice A m c] 24)) w') :
    Calls Tryz.prog 18 #[.agg #[.int .i64 n, .slice A m c], b] w fun e w' => e = .returned (.tuple #[.slice none 0 0, .int .i64 r.2]) ∧ Below w.heap.size w w' := by
  have HPP := Lib.hid HP
  have hc' : (r.2 != 0) = true := by simpa using h0
  clear HP h0
  go_enter Tryz.func18, Tryz.ntmps18
  go_wp2_with (go_at_call 41; refine HPP.out.mono ?_; rintro e w1 ⟨v, rfl, hv, hb⟩; have HB := Lib.hid (boxed hb).1; clear hb hv)
  go_ret2
  exact ⟨rfl, HB.out⟩
set_option maxRecDepth 100000 in
set_option maxHeartbeats 4000000 in
theorem tight_yes (r : List Int × Int) (n : Nat) (A : Option Addr) (c : Nat) (l : List Lk) (b : Value) (w : World) (hn : n ≤ 1000) (hl : l.length ≤ 1000) (hu : r.1.length = l.length) (hnil : A = none → l.length = 0 ∧ c = 0) (h : LksAt w A l) (hr : ∀ k ∈ l, InR n k)
    (HP : Calls Tryz.prog 41 #[.agg #[.int .i64 n, .slice A l.length c], b] (w.alloc (.cells #[.int .i64 n, .slice A l.length c] 24)) fun e w' => ∃ v, e = .returned (.tuple #[v, .int .i64 0]) ∧ IntsV w' v r.1 ∧ Below (w.alloc (.cells #[.int .i64 n, .slice A l.length c] 24)).heap.size (w.alloc (.cells #[.int .i64 n, .slice A l.length c] 24)) w') :
    Calls Tryz.prog 18 #[.agg #[.int .i64 n, .slice A l.length c], b] w fun e w' => ∃ v, e = .returned (.tuple #[v, .int .i64 0]) ∧ IntsV w' v (tightL n l r.1 l.length) ∧ Below w.heap.size w w' := by
  have HA := Lib.hid h
  have HN := Lib.hid hnil
  have HU := Lib.hid hu
  have HR := Lib.hid hr
  have HPP := Lib.hid HP
  clear h hnil hr HP hu
  go_enter Tryz.func18, Tryz.ntmps18
  go_wp2_with (first | (go_at_call 41; refine HPP.out.mono ?_; rintro e w1 ⟨v, rfl, ⟨A3, c3, rfl, hv, _⟩, hb⟩; have HB := Lib.hid (boxed hb).1; obtain ⟨q0, q1, lw⟩ := (boxed hb).2; have HV := Lib.hid hv; clear hb hv) | (go_at_call 42; refine (rigid_any n A c l A3 c3 r.1 _ (by omega) HU.out HN.out (HA.out.below HB.out) HV.out).mono ?_; rintro e w2 ⟨v, rfl, ho, hb2⟩; have HB2 := Lib.hid (below_trans HB.out hb2); have q0 := cell_below hb2 q0; have q1 := cell_below hb2 q1; have lw := World.block_lt_of_cell? _ _ q1; obtain ⟨A2, c2, rfl, hv2, _⟩ := own_lksV ho; have HL2 := Lib.hid hv2; clear hb2 hv2 ho))
  have HW2 := Lib.hid (show w2.cell? ⟨w.heap.size, 0, none⟩ = some (.int .i64 n) from q0)
  have HA2 := Lib.hid (HA.out.below HB2.out)
  clear q0 q1
  go_loopw [9, 10, 11, 27] (fun v _ _ i wr => ∃ k : Nat, k ≤ l.length ∧ i = .int .i64 k ∧ Hid (OwnN w2.heap.size w2 wr v (tightL n l r.1 k))) (fun _ _ _ i _ => l.length - (intOf i).toNat)
  case atStart => exact ⟨0, by omega, rfl, Lib.hid ⟨World.ownsRow_nil _ _ _ _, Below.refl _ _, Nat.le_refl _⟩⟩
  case round =>
    obtain ⟨k, hk, rfl, HZ⟩ := hrel
    by_cases hlt : k < l.length
    · obtain ⟨b5, o5, rfl, g1, g2, g3⟩ := (HA2.out.below HZ.out.below).nat k hlt
      have Hk := Lib.hid (tightL_len n l r.1 k)
      have HIN := Lib.hid (HR.out _ (gl_mem (l := l) (i := (k : Int)) (by omega) (by omega)))
      have Hts := Lib.hid (show tightL n l r.1 (k + 1) = if gi (boundsL n (rigidL l r.1) (gl l k).b) (gl l k).a == wrap64 (-(gl l k).m) then tightL n l r.1 k ++ [(k : Int)] else tightL n l r.1 k from rfl)
      generalize hq : gl l k = q at *
      have HQ := Lib.hid hq
      clear hq
      have q0 := cell_below HZ.out.below HW2.out
      have lq := World.block_lt_of_cell? _ _ q0
      generalize hy : gi (boundsL n (rigidL l r.1) q.b) q.a = y at *
      have HY := Lib.hid hy
      clear hy
      have HBL := Lib.hid (rigid_inr (u := r.1) HR.out)
      have HBK := Lib.hid (show (rigidL l r.1).length ≤ 2000 by have := backs_len l r.1; unfold rigidL; rw [List.length_append]; omega)
      go_upto_region 9 with fail
      obtain ⟨wx, hwx⟩ : ∃ wx, wx = wr.alloc (.cells #[.int .i64 q.a, .int .i64 q.b, .int .i64 q.m] 51) := ⟨_, rfl⟩
      rw [← hwx]
      have e0 : wx.cell? ⟨wr.heap.size, 0, none⟩ = some (.int .i64 q.a) := by rw [hwx]; go_simp
      have e1 : wx.cell? ⟨wr.heap.size, 1, none⟩ = some (.int .i64 q.b) := by rw [hwx]; go_simp
      have e2 : wx.cell? ⟨wr.heap.size, 2, none⟩ = some (.int .i64 q.m) := by rw [hwx]; go_simp
      have q0x : wx.cell? ⟨w.heap.size, 0, none⟩ = some (.int .i64 n) := by rw [hwx]; exact cell_alloc _ q0
      have lx := World.block_lt_of_cell? _ _ e0
      have lx0 := World.block_lt_of_cell? _ _ q0x
      have HZx := Lib.hid (show OwnN w2.heap.size w2 wx (u9) (tightL n l r.1 k) by rw [hwx]; exact HZ.out.alloc _)
      have HWX := Lib.hid hwx
      have HLX := Lib.hid (HL2.out.below HZx.out.below)
      have ia0 := HIN.out.1
      have ia1 := HIN.out.2.1
      clear hwx q0 g1 g2 g3
      refine wp_region_held_drew (S := fun w' => w'.cell? ⟨w.heap.size, 0, none⟩ = some (.int .i64 n) ∧ w'.cell? ⟨wr.heap.size, 0, none⟩ = some (.int .i64 q.a) ∧ w'.cell? ⟨wr.heap.size, 1, none⟩ = some (.int .i64 q.b) ∧ w'.cell? ⟨wr.heap.size, 2, none⟩ = some (.int .i64 q.m)) (by kernel_rfl) ⟨q0x, e0, e1, e2⟩ (fun hHeld => ?_)
      refine wpAnyH_take (i := 0) (v := ?_) rfl (by kernel_rfl) (by kernel_rfl) (by kernel_rfl) (fun _ _ _ h => h) (Or.inl ⟨by rfl, ?hyy⟩) (by assumption) ?_
      case hyy => (intro w hSw; (try dsimp only at hSw); go_simp; all_goals (with_reducible rfl))
      simp only [List.getElem_toArray, List.getElem_cons_zero, List.getElem_cons_succ, Act.put, List.setIfInBounds_toArray, List.set_cons_zero, List.set_cons_succ]
      refine wpAnyH_take (i := 1) (v := ?_) rfl (by kernel_rfl) (by kernel_rfl) (by kernel_rfl) (fun _ _ _ h => h) (Or.inl ⟨by rfl, ?hyy⟩) (by assumption) ?_
      case hyy => (intro w hSw; (try dsimp only at hSw); go_simp; all_goals (with_reducible rfl))
      simp only [List.getElem_toArray, List.getElem_cons_zero, List.getElem_cons_succ, Act.put, List.setIfInBounds_toArray, List.set_cons_zero, List.set_cons_succ]
      refine wpAnyH_take (i := 2) (v := ?_) rfl (by kernel_rfl) (by kernel_rfl) (by kernel_rfl) (fun _ _ _ h => h) (Or.inl ⟨by rfl, ?hyy⟩) (by assumption) ?_
      case hyy => (intro w hSw; (try dsimp only at hSw); go_simp; all_goals (with_reducible rfl))
      simp only [List.getElem_toArray, List.getElem_cons_zero, List.getElem_cons_succ, Act.put, List.setIfInBounds_toArray, List.set_cons_zero, List.set_cons_succ]
      refine wpAnyH_take (i := 3) (v := ?_) rfl (by kernel_rfl) (by kernel_rfl) (by kernel_rfl) (fun _ _ _ h => h) (Or.inl ⟨by rfl, ?hyy⟩) (by assumption) ?_
      case hyy => (intro w hSw; (try dsimp only at hSw); go_simp; all_goals (with_reducible rfl))
      simp only [List.getElem_toArray, List.getElem_cons_zero, List.getElem_cons_succ, Act.put, List.setIfInBounds_toArray, List.set_cons_zero, List.set_cons_succ]
      refine wpAnyH_take (i := 4) (v := ?_) rfl (by kernel_rfl) (by kernel_rfl) (by kernel_rfl) (fun _ _ _ h => h) (Or.inl ⟨by rfl, ?hyy⟩) (by assumption) ?_
      case hyy => (intro w hSw; (try dsimp only at hSw); go_simp; all_goals (with_reducible rfl))
      simp only [List.getElem_toArray, List.getElem_cons_zero, List.getElem_cons_succ, Act.put, List.setIfInBounds_toArray, List.set_cons_zero, List.set_cons_succ]
      refine wpAnyH_take (i := 6) (v := ?_) rfl (by kernel_rfl) (by kernel_rfl) (by kernel_rfl) (fun _ _ _ h => h) (Or.inl ⟨by rfl, ?hyy⟩) (by assumption) ?_
      case hyy => (intro w hSw; (try dsimp only at hSw); go_simp; all_goals (with_reducible rfl))
      simp only [List.getElem_toArray, List.getElem_cons_zero, List.getElem_cons_succ, Act.put, List.setIfInBounds_toArray, List.set_cons_zero, List.set_cons_succ]
      refine wpAnyH_take (i := 7) (v := ?_) rfl (by kernel_rfl) (by kernel_rfl) (by kernel_rfl) (fun _ _ _ h => h) (Or.inl ⟨by rfl, ?hyy⟩) (by assumption) ?_
      case hyy => (intro w hSw; (try dsimp only at hSw); go_simp; all_goals (with_reducible rfl))
      simp only [List.getElem_toArray, List.getElem_cons_zero, List.getElem_cons_succ, Act.put, List.setIfInBounds_toArray, List.set_cons_zero, List.set_cons_succ]
      refine wpAnyH_take (i := 10) (v := ?_) rfl (by kernel_rfl) (by kernel_rfl) (by kernel_rfl) (fun _ _ _ h => h) (Or.inl ⟨by rfl, ?hyy⟩) (by assumption) ?_
      case hyy => (intro w hSw; (try dsimp only at hSw); go_simp; all_goals (with_reducible rfl))
      simp only [List.getElem_toArray, List.getElem_cons_zero, List.getElem_cons_succ, Act.put, List.setIfInBounds_toArray, List.set_cons_zero, List.set_cons_succ]
      refine wpAnyH_take (i := 11) (v := ?_) rfl (by kernel_rfl) (by kernel_rfl) (by kernel_rfl) (fun _ _ _ h => h) (Or.inl ⟨by rfl, ?hyy⟩) (by assumption) ?_
      case hyy => (intro w hSw; (try dsimp only at hSw); go_simp; all_goals (with_reducible rfl))
      simp only [List.getElem_toArray, List.getElem_cons_zero, List.getElem_cons_succ, Act.put, List.setIfInBounds_toArray, List.set_cons_zero, List.set_cons_succ]
      refine wpAnyH_take (i := 12) (v := ?_) rfl (by kernel_rfl) (by kernel_rfl) (by kernel_rfl) (fun _ _ _ h => h) (Or.inl ⟨by rfl, ?hyy⟩) (by assumption) ?_
      case hyy => (intro w hSw; (try dsimp only at hSw); go_simp; all_goals (with_reducible rfl))
      simp only [List.getElem_toArray, List.getElem_cons_zero, List.getElem_cons_succ, Act.put, List.setIfInBounds_toArray, List.set_cons_zero, List.set_cons_succ]
      refine wpAnyH_ready (rs := [5]) (by kernel_rfl) (by simp) ?_
      refine AllReadyH.cons rfl (fun K hK => ?_) AllReadyH.nil
      go_simp
      refine (bounds_any n A2 c2 (rigidL l r.1) q.b _ (by omega) (by have := HBK.out; omega) HLX.out.drew HBL.out HIN.out.2.2.1 HIN.out.2.2.2).mono ?_
      rintro e w3 ⟨g, rfl, hg, hrow, hb3⟩
      have ca := hrow.cell q.a.toNat (by rw [boundsL_length]; omega)
      rw [tn _ HIN.out.1, HY.out] at ca
      have lg3 := World.block_lt_of_cell? _ _ ca
      refine hK.out _ _ ⟨cell_below hb3 q0x, cell_below hb3 e0, cell_below hb3 e1, cell_below hb3 e2⟩ (fun hHeld2 => ?_)
      clear hK K hHeld
      try simp only [Act.put, List.setIfInBounds_toArray, List.set_cons_zero, List.set_cons_succ]
      refine wpAnyH_turn (S2 := fun w' => (w'.cell? ⟨w.heap.size, 0, none⟩ = some (.int .i64 n) ∧ w'.cell? ⟨wr.heap.size, 0, none⟩ = some (.int .i64 q.a) ∧ w'.cell? ⟨wr.heap.size, 1, none⟩ = some (.int .i64 q.b) ∧ w'.cell? ⟨wr.heap.size, 2, none⟩ = some (.int .i64 q.m)) ∧ w'.cell? ⟨g, q.a.toNat, none⟩ = some (.int .i64 y)) (fun w h => h.1) ?_
      have hHeld3 := And.intro hHeld2 ca
      clear hHeld2
      refine wpAnyH_take (i := 8) (v := ?_) rfl (by kernel_rfl) (by kernel_rfl) (by kernel_rfl) (fun _ _ _ h => h) (Or.inl ⟨by rfl, ?hyy⟩) (by assumption) ?_
      case hyy => (intro w hSw; (try dsimp only at hSw); go_simp; all_goals (with_reducible rfl))
      simp only [List.getElem_toArray, List.getElem_cons_zero, List.getElem_cons_succ, Act.put, List.setIfInBounds_toArray, List.set_cons_zero, List.set_cons_succ]
      refine wpAnyH_take (i := 9) (v := ?_) rfl (by kernel_rfl) (by kernel_rfl) (by kernel_rfl) (fun _ _ _ h => h) (Or.inl ⟨by rfl, ?hyy⟩) (by assumption) ?_
      case hyy => (intro w hSw; (try dsimp only at hSw); go_simp; all_goals (with_reducible rfl))
      simp only [List.getElem_toArray, List.getElem_cons_zero, List.getElem_cons_succ, Act.put, List.setIfInBounds_toArray, List.set_cons_zero, List.set_cons_succ]
      refine wpAnyH_take (i := 13) (v := ?_) rfl (by kernel_rfl) (by kernel_rfl) (by kernel_rfl) (fun _ _ _ h => h) (Or.inl ⟨by rfl, ?hyy⟩) (by assumption) ?_
      case hyy => (intro w hSw; (try dsimp only at hSw); go_simp; all_goals (with_reducible rfl))
      simp only [List.getElem_toArray, List.getElem_cons_zero, List.getElem_cons_succ, Act.put, List.setIfInBounds_toArray, List.set_cons_zero, List.set_cons_succ]
      refine wpAnyH_done (by kernel_rfl) ?_ _
      clear hHeld3
      have HZ3 := Lib.hid (HZx.out.calls (below_undrew hb3))
      clear ca e0 e1 e2 q0x hrow hb3 lx lx0
      cases hyq : (y == wrap64 (-q.m))
      · have hyq2 : (y == IntKind.i64.wrap (-q.m)) = false := by rw [IntWalk.i64_left]; exact hyq
        have Hs := Lib.hid (show tightL n l r.1 (k + 1) = tightL n l r.1 k by rw [Hts.out, hyq]; rfl)
        go_wp2
        go_roundw
        case rel => exact ⟨k + 1, by omega, by go_num, Lib.hid (by rw [Hs.out]; exact HZ3.out)⟩
        case measure => simp [intOf]; omega
      · have hyq2 : (y == IntKind.i64.wrap (-q.m)) = true := by rw [IntWalk.i64_left]; exact hyq
        have Hs := Lib.hid (show tightL n l r.1 (k + 1) = tightL n l r.1 k ++ [(k : Int)] by rw [Hts.out, hyq]; rfl)
        go_wp2_with (at_builtin; refine app_one rfl _ _ 38 3 (.int .i64 0) 1 8 rfl Tryz.underlying38 info3 rfl (by omega) u9 _ _ [.int .i64 k] rfl rfl rfl rfl (one1 _ _) w2.heap.size HZ3.out.row HZ3.out.hB (by have := Hk.out; omega) (by have := Hk.out; unfold maxLen; omega) ?_; intro v1 w4 ho hg _; have HG := Lib.hid hg; have HO3 := Lib.hid ho; clear ho hg)
        go_roundw
        case rel => exact ⟨k + 1, by omega, by go_num, Lib.hid (by rw [Hs.out]; exact HZ3.out.appended HO3.out HG.out)⟩
        case measure => simp [intOf]; omega
    · obtain rfl : k = l.length := by omega
      go_wp2
      go_ret2
      exact ⟨_, rfl, own_intsV HZ.out.row, below_trans HB2.out HZ.out.below⟩
theorem tight_any (F : Nat) (r : List Int × Int) (n : Int) (A : Option Addr) (c : Nat) (l : List Lk) (B : Option Addr) (d : Nat) (x : List Int) (w : World) (hl : l.length ≤ 1000) (hx : x.length ≤ 1000000) (hnil : A = none → l.length = 0 ∧ c = 0) (h : LksAt w A l) (h' : IntsAt w B x) (hb : proveP F n l x = some r) :
    Calls Tryz.prog 18 #[.agg #[.int .i64 n, .slice A l.length c], .slice B x.length d] w fun e w' => ∃ v, e = .returned (.tuple #[v, .int .i64 (tightR n l r).2]) ∧ IntsV w' v (tightR n l r).1 ∧ Below w.heap.size w w' := by
  have hp := prove_any F r n A c l B d x (w.alloc (.cells #[.int .i64 n, .slice A l.length c] 24)) hl hx (h.alloc _) (h'.alloc _) hb
  by_cases h0 : r.2 = 0
  · obtain ⟨hok, _, _, hu⟩ := prove_ok hb h0
    have hcast : ((n.toNat : Nat) : Int) = n := by have := hok.n1; omega
    rw [h0] at hp
    have hy := tight_yes r n.toNat A c l (.slice B x.length d) w (by have := hok.n2; omega) hl hu hnil h (by rw [hcast]; exact fun k hk => (hok.lk k hk).1) (by rw [hcast]; exact hp)
    rw [hcast] at hy
    have e : tightR n l r = (tightL n.toNat l r.1 l.length, 0) := by unfold tightR; rw [if_pos h0]
    rw [e]
    exact hy
  · have e : tightR n l r = ([], r.2) := by unfold tightR; rw [if_neg h0]
    rw [e]
    exact (tight_no r n A c l.length _ w h0 hp).mono fun e w' he => ⟨_, he.1, IntsV.nil _, he.2⟩

def neededN (F : Nat) (n : Nat) (l : List Lk) (x u : List Int) (sum : Int) : Nat → Option (List Int)
  | 0 => some []
  | k + 1 =>
    match neededN F n l x u sum k with
    | none => none
    | some o =>
      if gi u k == 0 then some o
      else match bestP F n (keptL l (notIn [(k : Int)])) x with
        | none => none
        | some r => if (lacksR l sum [(k : Int)] r).2 then some o else some (o ++ [(k : Int)])
theorem neededN_down {F n : Nat} {l : List Lk} {x u : List Int} {sum : Int} : ∀ {m : Nat} {o : List Int}, neededN F n l x u sum m = some o → ∀ k, k ≤ m → ∃ o', neededN F n l x u sum k = some o'
  | 0, o, h, k, hk => ⟨o, by rw [show k = 0 by omega]; exact h⟩
  | m + 1, o, h, k, hk => by
    rcases Nat.lt_or_ge m k with h1 | h1
    · exact ⟨o, by rw [show k = m + 1 by omega]; exact h⟩
    · unfold neededN at h
      cases h2 : neededN F n l x u sum m with
      | none => rw [h2] at h; cases h
      | some o' => exact neededN_down h2 k h1
theorem neededN_len {F n : Nat} {l : List Lk} {x u : List Int} {sum : Int} : ∀ {m : Nat} {o : List Int}, neededN F n l x u sum m = some o → o.length ≤ m
  | 0, o, h => by cases h; exact Nat.le_refl _
  | m + 1, o, h => by
    unfold neededN at h
    cases h2 : neededN F n l x u sum m with
    | none => rw [h2] at h; cases h
    | some o' =>
      rw [h2] at h
      have hl := neededN_len h2
      simp only at h
      split at h
      · cases h; omega
      · split at h
        · cases h
        · split at h
          · cases h; omega
          · cases h; simp; omega
def neededP (F : Nat) (n : Int) (l : List Lk) (x : List Int) : Option (List Int × Int) :=
  match proveP F n l x with
  | none => none
  | some r => if r.2 = 0 then (neededN F n.toNat l x r.1 (costI l r.1) l.length).map (fun o => (o, 0)) else some ([], r.2)
set_option maxRecDepth 100000 in
set_option maxHeartbeats 4000000 in
theorem needed_no (r : List Int × Int) (n : Int) (A : Option Addr) (c m : Nat) (b : Value) (w : World) (h0 : ¬ r.2 = 0) (HP : Calls Tryz.prog 41 #[.agg #[.int .i64 n, .slice A m c], b] (w.alloc (.cells #[.int .i64 n, .slice A m c] 24)) fun e w' => ∃ v, e = .returned (.tuple #[v, .int .i64 r.2]) ∧ IntsV w' v r.1 ∧ Below (w.alloc (.cells #[.int .i64 n, .slice A m c] 24)).heap.size (w.alloc (.cells #[.int .i64 n, .slice A m c] 24)) w') :
    Calls Tryz.prog 19 #[.agg #[.int .i64 n, .slice A m c], b] w fun e w' => e = .returned (.tuple #[.slice none 0 0, .int .i64 r.2]) ∧ Below w.heap.size w w' := by
  have HPP := Lib.hid HP
  have hc' : (r.2 != 0) = true := by simpa using h0
  clear HP h0
  go_enter Tryz.func19, Tryz.ntmps19
  go_wp2_with (go_at_call 41; refine HPP.out.mono ?_; rintro e w1 ⟨v, rfl, hv, hb⟩; have HB := Lib.hid (boxed hb).1; clear hb hv)
  go_ret2
  exact ⟨rfl, HB.out⟩
theorem MapI.put1 {w : World} (k : Int) {w' : World} (h : MapI w' w.heap.size (putI [] k (.bool true))) : MapI w' w.heap.size (setI [k]) := h
set_option maxRecDepth 100000 in
set_option maxHeartbeats 4000000 in
theorem needed_yes (F : Nat) (u : List Int) (o : List Int) (n : Nat) (A : Option Addr) (c : Nat) (l : List Lk) (B : Option Addr) (d : Nat) (x : List Int) (w : World) (hn0 : 0 < n) (hn : n ≤ 1000) (hl : l.length ≤ 1000) (hu : u.length = l.length) (hx : x.length = n) (h : LksAt w A l) (h' : IntsAt w B x) (hr : ∀ k ∈ l, InR n k)
    (HP : Calls Tryz.prog 41 #[.agg #[.int .i64 n, .slice A l.length c], .slice B x.length d] (w.alloc (.cells #[.int .i64 n, .slice A l.length c] 24)) fun e w' => ∃ v, e = .returned (.tuple #[v, .int .i64 0]) ∧ IntsV w' v u ∧ Below (w.alloc (.cells #[.int .i64 n, .slice A l.length c] 24)).heap.size (w.alloc (.cells #[.int .i64 n, .slice A l.length c] 24)) w')
    (ho : neededN F n l x u (costI l u) l.length = some o) :
    Calls Tryz.prog 19 #[.agg #[.int .i64 n, .slice A l.length c], .slice B x.length d] w fun e w' => ∃ v, e = .returned (.tuple #[v, .int .i64 0]) ∧ IntsV w' v o ∧ Below w.heap.size w w' := by
  have HA := Lib.hid h
  have HX := Lib.hid h'
  have HU := Lib.hid hu
  have HR := Lib.hid hr
  have HPP := Lib.hid HP
  have HO := Lib.hid ho
  have HXN := Lib.hid hx
  have hmm := @run_makeMap Tryz.prog
  clear h h' hr HP hu ho hx
  go_enter Tryz.func19, Tryz.ntmps19
  go_wp2_with (first | (go_at_call 41; refine HPP.out.mono ?_; rintro e w1 ⟨v, rfl, ⟨A3, c3, rfl, hv, _⟩, hb⟩; have HB := Lib.hid (boxed hb).1; obtain ⟨q0, q1, lw⟩ := (boxed hb).2; have HV := Lib.hid hv; clear hb hv) | (go_at_call 43; refine (cost_any n A c l A3 c3 u _ (by omega) HU.out (HA.out.below HB.out) HV.out).mono ?_; rintro e w2 ⟨rfl, hb2⟩; have HB2 := Lib.hid (below_trans HB.out hb2); have HV2 := Lib.hid (HV.out.below hb2); have q0 := cell_below hb2 q0; have q1 := cell_below hb2 q1; have lw := World.block_lt_of_cell? _ _ q1; clear hb2))
  have HW2 := Lib.hid (And.intro q0 q1)
  have HA2 := Lib.hid (HA.out.below HB2.out)
  have HX2 := Lib.hid (HX.out.below HB2.out)
  have HUL := Lib.hid (show (u.length : Int) = l.length by rw [HU.out])
  clear q0 q1
  go_loopw [9, 10, 11, 12, 28] (fun v _ _ _ i wr => ∃ (k : Nat) (o : List Int), k ≤ l.length ∧ i = .int .i64 k ∧ Hid (neededN F n l x u (costI l u) k = some o) ∧ Hid (OwnN w2.heap.size w2 wr v o)) (fun _ _ _ _ i _ => l.length - (intOf i).toNat)
  case atStart => exact ⟨0, [], by omega, rfl, Lib.hid rfl, Lib.hid ⟨World.ownsRow_nil _ _ _ _, Below.refl _ _, Nat.le_refl _⟩⟩
  case round =>
    obtain ⟨k, o', hk, rfl, HK, HZ⟩ := hrel
    by_cases hlt : k < l.length
    · have hlu : k < u.length := by rw [HU.out]; exact hlt
      obtain ⟨b5, o5, rfl, g1⟩ := (HV2.out.below HZ.out.below).nat k hlu
      have hUi := HUL.out
      have q0 := cell_below HZ.out.below HW2.out.1
      have q1 := cell_below HZ.out.below HW2.out.2
      have lq := World.block_lt_of_cell? _ _ q0
      obtain ⟨o2, ho2⟩ := neededN_down HO.out (k + 1) (by omega)
      have hs := ho2
      unfold neededN at hs
      rw [HK.out] at hs
      simp only at hs
      have HK2 := Lib.hid ho2
      have Hlen := Lib.hid (neededN_len HK.out)
      clear ho2
      generalize hy : gi u k = y at *
      clear hy
      cases hy0 : (y == 0)
      · rw [hy0] at hs
        simp only [Bool.false_eq_true, if_false] at hs
        cases hbp : bestP F n (keptL l (notIn [(k : Int)])) x with
        | none => rw [hbp] at hs; cases hs
        | some r =>
          rw [hbp] at hs
          simp only at hs
          have HBP := Lib.hid hbp
          clear hbp
          have HLK := Lib.hid (fun mb W h1 h2 h3 => lacks_any F r n A c l B d x (costI l u) mb [(k : Int)] W hn0 (by omega) hl HXN.out h1 h2 h3 HR.out HBP.out)
          have HHS := Lib.hid hs
          clear hs
          cases hsame : (lacksR l (costI l u) [(k : Int)] r).2
          · have HSM := Lib.hid hsame
            rw [hsame] at HLK
            have Hs := Lib.hid (show o2 = o' ++ [(k : Int)] by have := HHS.out; rw [hsame] at this; simpa using this.symm)
            clear hsame
            go_wp2_with (first | (go_at_call 44; refine (HLK.out wr.heap.size w5 (HA2.out.below (below_trans HZ.out.below HB5.out)) (HX2.out.below (below_trans HZ.out.below HB5.out)) HM5.out).mono ?_; rintro e w6 ⟨v, rfl, hv, hb6⟩; have HB6 := Lib.hid (below_trans HB5.out hb6); have HZ6 := Lib.hid (HZ.out.calls HB6.out); clear hv hb6) | (refine map_store (b := wr.heap.size) (m := []) rfl _ _ _ 77 4 (.inr rfl) Tryz.underlying77 (k : Int) (.bool true) rfl rfl rfl (MapI.made _) ?_; intro w5 hm5 hg5; dsimp only [Act.put]; have HM5 := Lib.hid (MapI.put1 _ hm5); have hb5 := below_of_grown (Below.alloc (Below.refl wr.heap.size wr) (Nat.le_refl _) (.map #[] 0)) hg5 (by simp) (Nat.le_refl _); have q0 := cell_below hb5 q0; have q1 := cell_below hb5 q1; have HB5 := Lib.hid hb5; clear hm5 hg5 hb5) | (at_builtin; refine app_one rfl _ _ 38 3 (.int .i64 0) 1 8 rfl Tryz.underlying38 info3 rfl (by omega) u9 _ _ [.int .i64 k] rfl rfl rfl rfl (one1 _ _) w2.heap.size HZ6.out.row HZ6.out.hB (by have := Hlen.out; omega) (by have := Hlen.out; unfold maxLen; omega) ?_; intro v1 w7 ho hg _; have HG := Lib.hid hg; have HO3 := Lib.hid ho; clear ho hg))
            go_roundw
            case rel => exact ⟨k + 1, o2, by omega, by go_num, HK2, Lib.hid (by rw [Hs.out]; exact HZ6.out.appended HO3.out HG.out)⟩
            case measure => simp [intOf]; omega
          · have HSM := Lib.hid hsame
            rw [hsame] at HLK
            have Hs := Lib.hid (show o2 = o' by have := HHS.out; rw [hsame] at this; simpa using this.symm)
            clear hsame
            go_wp2_with (first | (go_at_call 44; refine (HLK.out wr.heap.size w5 (HA2.out.below (below_trans HZ.out.below HB5.out)) (HX2.out.below (below_trans HZ.out.below HB5.out)) HM5.out).mono ?_; rintro e w6 ⟨v, rfl, hv, hb6⟩; have HB6 := Lib.hid (below_trans HB5.out hb6); clear hv hb6) | (refine map_store (b := wr.heap.size) (m := []) rfl _ _ _ 77 4 (.inr rfl) Tryz.underlying77 (k : Int) (.bool true) rfl rfl rfl (MapI.made _) ?_; intro w5 hm5 hg5; dsimp only [Act.put]; have HM5 := Lib.hid (MapI.put1 _ hm5); have hb5 := below_of_grown (Below.alloc (Below.refl wr.heap.size wr) (Nat.le_refl _) (.map #[] 0)) hg5 (by simp) (Nat.le_refl _); have q0 := cell_below hb5 q0; have q1 := cell_below hb5 q1; have HB5 := Lib.hid hb5; clear hm5 hg5 hb5))
            have HZ6 := Lib.hid (HZ.out.calls HB6.out)
            go_wp2
            go_roundw
            case rel => exact ⟨k + 1, o2, by omega, by go_num, HK2, Lib.hid (by rw [Hs.out]; exact HZ6.out)⟩
            case measure => simp [intOf]; omega
      · rw [hy0] at hs
        simp only [if_true, Option.some.injEq] at hs
        subst hs
        go_wp2
        go_roundw
        case rel => exact ⟨k + 1, _, by omega, by go_num, HK2, HZ⟩
        case measure => simp [intOf]; omega
    · obtain rfl : k = l.length := by omega
      have e : o' = o := Option.some.inj (HK.out.symm.trans HO.out)
      subst e
      go_wp2
      go_ret2
      exact ⟨_, rfl, own_intsV HZ.out.row, below_trans HB2.out HZ.out.below⟩
end Go.Proofs.YtmhiiomejopaoaaGreatDoor
