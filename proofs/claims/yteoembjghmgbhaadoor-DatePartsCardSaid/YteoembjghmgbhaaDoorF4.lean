/- The reference's walks: put. -/
import Derived.Test.YteoembjghmgbhaaDoorF3
import Derived.Deep.RegionHeld3
namespace Go.Proofs.YteoembjghmgbhaaDoor
set_option linter.all false
open Go.RowKit

/-- A row of spans is appended, at a step of a region that draws its order. -/
theorem step_app_sps {ops : Array Oper} {o : Oper} {a : Act} {K : Act → World → Prop} {Q : Exit → Act → World → Prop} {E : Prop} {w : World} (hgd : o.guard = none) (s x : Operand)
    (ho : o.op = .call { callee := .builtin .append, args := #[s, x], argTypes := #[54, 54] }) (base : Nat) (v : Value) (n : Nat) (xs : List Value) (hs : a.eval s = v) (hown : w.ownsRow base 37 2 v n xs)
    (B : Option Addr) (c : Nat) (lm : List Sp) (hx : a.eval x = .slice B lm.length c) (hrow : SpsAt w B lm) (hnil : B = none → lm.length = 0 ∧ c = 0) (hb : n + lm.length ≤ 1000000) (hbase : base ≤ w.heap.size)
    (h : ∀ v' w', w'.ownsRow base 37 2 v' (n + lm.length) (xs ++ spcs lm) → w.grownBy w' v.ownBlock → (v'.ownBlock = v.ownBlock ∨ v'.ownBlock = some w.heap.size) → K (a.put o.dst v') w') :
    if Region.wanted o (yielded ops a.tmps) = true then Oper.wp Tryd.prog o a w K Q else E := by
  have hw : Region.wanted o (yielded ops a.tmps) = true := by simp [Region.wanted, hgd]
  rw [if_pos hw]
  obtain ⟨i0, hi, hzz⟩ := Option.map_eq_some_iff.1 info37
  simp only [Prod.mk.injEq] at hzz
  obtain ⟨hz0, hz1, hz2⟩ := hzz
  cases B with
  | none =>
    obtain ⟨e1, rfl⟩ := hnil rfl
    have el : lm = [] := List.eq_nil_of_length_eq_zero e1
    subst el
    have hr := run_append_owned_none (P := Tryd.prog) w base 54 o.type 37 i0 2 Tryd.underlying54 hi v n xs hown
    unfold Oper.wp execOp
    simp only [ho, resolve, invoke, builtin, Sem.run_bind, Sem.run_pure, Result.andThen_ok, List.map_toArray, List.map_cons, List.map_nil, hs, hx, List.length_nil, hr]
    exact h v w (by simpa [spcs] using hown) ⟨rfl, rfl, rfl, Nat.le_refl _, fun _ _ _ => rfl⟩ (.inl rfl)
  | some ad =>
    obtain ⟨v', w', hr, h2, h3, _, h5⟩ := run_append_own_at (P := Tryd.prog) w base 54 o.type 37 i0 (.agg #[.int .i64 0, .int .i64 0]) 2 16 Tryd.underlying54 hi hz0 hz1 hz2 rfl (by omega) v n xs hown ad lm.length c (spcs lm) (spcs_length lm) (hrow.cells ad rfl) (spcs_one lm) (by unfold maxLen; omega) (by omega) hbase
    unfold Oper.wp execOp
    simp only [ho, resolve, invoke, builtin, Sem.run_bind, Sem.run_pure, Result.andThen_ok, List.map_toArray, List.map_cons, List.map_nil, hs, hx, hr]
    exact h v' w' h2 h3 h5

def putL (l : List Sp) (s : Sp) : List Sp :=
  if 0 < l.length ∧ (gs l ((l.length - 1 : Nat) : Int)).hi + 1 = s.lo then l.take (l.length - 1) ++ [⟨(gs l ((l.length - 1 : Nat) : Int)).lo, s.hi⟩] else l ++ [s]
theorem own_at {w : World} {base g : Nat} (h : w.heap[g]? = some (.cells #[] 37 (0, 0))) (hb : base ≤ g) : w.ownsRow base 37 2 (.slice (some ⟨g, 0, none⟩) 0 0) 0 [] :=
  ⟨rfl, .inr ⟨g, 0, #[], rfl, hb, h, Nat.le_refl _, by unfold maxLen; omega, rfl, rfl⟩⟩
theorem sps1_at {w : World} {g : Nat} {a b : Int} (h : w.heap[g]? = some (.cells #[.int .i64 a, .int .i64 b] 37 (0, 0))) : SpsAt w (some ⟨g, 0, none⟩) [⟨a, b⟩] := by
  intro i h0 hi
  have : i = 0 := by simp at hi; omega
  subst this
  obtain ⟨c0, c1, _⟩ := cells2 h
  exact ⟨g, 0, rfl, by simpa [gs] using c0, by simpa [gs] using c1⟩
theorem SpsAt.take {w : World} {A : Option Addr} {l : List Sp} (h : SpsAt w A l) (k : Nat) : SpsAt w A (l.take k) := by
  intro i h0 hi
  rw [List.length_take] at hi
  obtain ⟨b, o, e, h1, h2⟩ := h i h0 (by omega)
  have hg : gs (l.take k) i = gs l i := by
    have : i.toNat < k := by omega
    simp [gs, List.getD_eq_getElem?_getD, List.getElem?_take, this]
  rw [hg]
  exact ⟨b, o, e, h1, h2⟩
theorem grown_block {w w' : World} {g k : Nat} {X : Obj} (hg : w.grownBy w' (some g)) (hk : k ≠ g) (h : w.heap[k]? = some X) : w'.heap[k]? = some X :=
  (hg.block k (Array.getElem?_eq_some_iff.1 h).1 (fun e => hk (Option.some.inj e))).trans h
theorem grown_sps {w w' : World} {g B : Nat} {A : Option Addr} {l : List Sp} (hg : w.grownBy w' (some g)) (hB : B ≤ g) (hA : ∀ ad, A = some ad → 0 < l.length → ad.block < B) (h : SpsAt w A l) : SpsAt w' A l := by
  intro i h0 hi
  obtain ⟨b, o, e, h1, h2⟩ := h i h0 hi
  have hb := hA _ e (by omega)
  have hc : ∀ j, w'.cell? ⟨b, j, none⟩ = w.cell? ⟨b, j, none⟩ := fun j => World.cell?_of_block (w := w) (hg.block b (by have := World.block_lt_of_cell? w _ h1; simpa using this) (fun e => by have := Option.some.inj e; simp only at hb; omega))
  exact ⟨b, o, e, (hc _).trans h1, (hc _).trans h2⟩
/-- What comes out: a row of the call's own behind world W. -/
def PutEnd (W : World) (L : List Sp) (v : Value) (w' : World) : Prop := w'.ownsRow W.heap.size 37 2 v L.length (spcs L) ∧ Below W.heap.size W w'
theorem put_end {W w1 w2 w3 : World} {l : List Sp} {s : Sp} {v5 v6 : Value} (h5 : w1.ownsRow W.heap.size 37 2 v5 (0 + l.length) ([] ++ spcs l)) (hb : Below W.heap.size W w2) (hg : w2.grownBy w3 v5.ownBlock) (h6 : w3.ownsRow W.heap.size 37 2 v6 (0 + l.length + [s].length) (([] ++ spcs l) ++ spcs [s])) : PutEnd W (l ++ [s]) v6 w3 := by
  refine ⟨by rw [List.length_append]; simpa [spcs] using h6, below_own hb hg hb.size (fun b hb' => ?_)⟩
  obtain ⟨A, c, rfl, _, _, hA⟩ := own_slice h5
  cases A with
  | none => cases hb'
  | some ad =>
    have h7 := hA ad rfl
    rw [hb'] at h7
    have h8 := Option.some.inj h7.1
    omega
theorem put_len {W w' : World} {l : List Sp} {s : Sp} {A : Option Addr} {c : Nat} (h : PutEnd W (l ++ [s]) (.slice A (0 + l.length + [s].length) c) w') : PutEnd W (l ++ [s]) (.slice A (l.length + 1) c) w' := by simpa using h
theorem sbox {w : World} {p : Nat} {a b : Int} (h : w.heap[p]? = some (.cells #[.int .i64 a, .int .i64 b] 37 (0, 0))) : w.cell? ⟨p, 0, none⟩ = some (.int .i64 a) ∧ w.cell? ⟨p, 1, none⟩ = some (.int .i64 b) := ⟨(cells2 h).1, (cells2 h).2.1⟩
theorem old_box {w : World} {p : Nat} {X : Obj} (o : Obj) (h : w.heap[p]? = some X) : (w.alloc o).heap[p]? = some X := (heap_alloc_old w o (Array.getElem?_eq_some_iff.1 h).1).trans h
theorem grown_keep {w1 w2 w3 : World} {base n k : Nat} {v : Value} {xs : List Value} {X : Obj} (h5 : w1.ownsRow base 37 2 v n xs) (hg : w2.grownBy w3 v.ownBlock) (hk : k < base) (h : w2.heap[k]? = some X) : w3.heap[k]? = some X := by
  refine (hg.block k (Array.getElem?_eq_some_iff.1 h).1 (fun e => ?_)).trans h
  obtain ⟨A, c, rfl, _, _, hA⟩ := own_slice h5
  cases A with
  | none => cases e
  | some ad =>
    have h7 := hA ad rfl
    rw [← e] at h7
    have h8 := Option.some.inj h7.1
    omega
set_option maxRecDepth 100000 in
set_option maxHeartbeats 1000000 in
theorem put_new (A : Option Addr) (c : Nat) (l : List Sp) (s : Sp) (w : World) (hl : l.length ≤ 100000) (hn : A = none → l.length = 0 ∧ c = 0) (h : SpsAt w A l) (hb : ∀ x ∈ l, -1000000 ≤ x.hi ∧ x.hi ≤ 1000000) (h0 : l.length = 0) :
    Calls Tryd.prog 79 #[.slice A l.length c, spv s] w fun e w' => ∃ v, e = .returned v ∧ w'.ownsRow w.heap.size 37 2 v (putL l s).length (spcs (putL l s)) ∧ Below w.heap.size w w' := by
  have HE := Lib.hid (show putL l s = l ++ [s] by unfold putL; rw [if_neg (by omega)])
  have HLL := Lib.hid hl
  have HN := Lib.hid hn
  have HLW := Lib.hid h
  obtain ⟨sa, sb⟩ := s
  unfold spv
  simp only at *
  have t0 : decide (0 < l.length) = false := decide_eq_false (by omega)
  clear h hb hl hn h0
  go_enter Tryd.func79, Tryd.ntmps79
  go_upto_region 2 with fail
  go_quiet (fail)
  go_upto_region 4 with fail
  obtain ⟨W, hWe⟩ : ∃ W, W = (w.alloc (Obj.cells #[.int .i64 sa, .int .i64 sb] 37)).drewN nq := ⟨_, rfl⟩
  have HWB := Lib.hid (show Below w.heap.size w W by rw [hWe]; exact below_dN bel _)
  have HC0 := Lib.hid (show W.heap[w.heap.size]? = some (.cells #[.int .i64 sa, .int .i64 sb] 37 (0, 0)) by rw [hWe]; exact heap_alloc_new w _)
  rw [← hWe]
  clear hWe
  obtain ⟨Wd, hWd⟩ : ∃ Wd, Wd = W.drew := ⟨_, rfl⟩
  have HC := Lib.hid (show Wd.heap[w.heap.size]? = some (.cells #[.int .i64 sa, .int .i64 sb] 37 (0, 0)) by rw [hWd]; exact HC0.out)
  have HWB2 := Lib.hid (show Below w.heap.size w Wd by rw [hWd]; exact HWB.out.drew)
  have HL := Lib.hid (HLW.out.below HWB2.out)
  have HLC := Lib.hid (Array.getElem?_eq_some_iff.1 HC.out).1
  refine wp_region_held_drew (S := fun w' => w'.cell? ⟨w.heap.size, 0, none⟩ = some (.int .i64 sa) ∧ w'.cell? ⟨w.heap.size, 1, none⟩ = some (.int .i64 sb)) (by kernel_rfl) (sbox HC0.out) (fun hHeld => ?_)
  rw [← hWd] at hHeld ⊢
  clear hWd HC0 HWB
  refine wpAnyH_take (i := 1) (v := ?_) rfl (by kernel_rfl) (by kernel_rfl) (by kernel_rfl) (fun _ _ _ h => h) (Or.inl ⟨by rfl, ?hyy⟩) (by assumption) ?_
  case hyy => (intro w hSw; (try dsimp only at hSw); go_simp; all_goals (with_reducible rfl))
  try simp only [List.getElem_toArray, List.getElem_cons_zero, List.getElem_cons_succ, Act.put, List.setIfInBounds_toArray, List.set_cons_zero, List.set_cons_succ]
  refine wpAnyH_take (i := 3) (v := ?_) rfl (by kernel_rfl) (by kernel_rfl) (by kernel_rfl) (fun _ _ _ h => h) (Or.inl ⟨by rfl, ?hyy⟩) (by assumption) ?_
  case hyy => (intro w hSw; (try dsimp only at hSw); go_simp; all_goals (with_reducible rfl))
  try simp only [List.getElem_toArray, List.getElem_cons_zero, List.getElem_cons_succ, Act.put, List.setIfInBounds_toArray, List.set_cons_zero, List.set_cons_succ]
  refine wpAnyH_ready (rs := [0, 4]) (by kernel_rfl) (by simp) ?_
  refine AllReadyH.cons rfl (fun K hK => ?_) (AllReadyH.cons rfl (fun K hK => ?_) AllReadyH.nil)
  · go_simp
    refine hK.out _ _ (sbox (old_box (.cells #[] 37) HC.out)) (fun hHn => ?_)
    clear hK K
    try simp only [List.getElem_toArray, List.getElem_cons_zero, List.getElem_cons_succ, Act.put, List.setIfInBounds_toArray, List.set_cons_zero, List.set_cons_succ]
    refine wpAnyH_ready (rs := [2, 4]) (by kernel_rfl) (by simp) ?_
    refine AllReadyH.cons rfl (fun K hK => ?_) (AllReadyH.cons rfl (fun K hK => ?_) AllReadyH.nil)
    · refine step_app_sps rfl (.tmp 39) (.tmp 40) rfl Wd.heap.size (.slice (some ⟨Wd.heap.size, 0, none⟩) 0 0) 0 [] (by simp [Act.eval, Act.put]) (own_at (heap_alloc_new Wd _) (by simp; try omega)) A c l (by simp [Act.eval, Act.put]) (HL.out.alloc _) HN.out (by have := HLL.out; simp; try omega) (by simp; try omega) ?_
      intro v5 w5 ho5 hg5 _
      have HO5 := Lib.hid ho5
      have HG5 := Lib.hid hg5
      have HC5 := Lib.hid (grown_block HG5.out (by have := HLC.out; dsimp only; omega) (old_box (.cells #[] 37) HC.out))
      clear ho5 hg5
      refine hK.out _ _ (sbox HC5.out) (fun hHn => ?_)
      clear hK K
      try simp only [List.getElem_toArray, List.getElem_cons_zero, List.getElem_cons_succ, Act.put, List.setIfInBounds_toArray, List.set_cons_zero, List.set_cons_succ]
      have HB5 := Lib.hid (below_own (Below.alloc (Below.refl _ Wd) (Nat.le_refl _) (.cells #[] 37)) HG5.out (by simp) (fun b hb => by cases hb; exact Nat.le_refl _))
      refine wpAnyH_ready (rs := [4]) (by kernel_rfl) (by simp) ?_
      refine AllReadyH.cons rfl (fun K hK => ?_) AllReadyH.nil
      go_simp
      refine hK.out _ _ (sbox (old_box (.cells #[.int .i64 (sa), .int .i64 (sb)] 37) HC5.out)) (fun hHn => ?_)
      clear hK K
      try simp only [List.getElem_toArray, List.getElem_cons_zero, List.getElem_cons_succ, Act.put, List.setIfInBounds_toArray, List.set_cons_zero, List.set_cons_succ]
      have HO6 := Lib.hid (HO5.out.alloc (.cells #[.int .i64 (sa), .int .i64 (sb)] 37))
      refine wpAnyH_ready (rs := [5]) (by kernel_rfl) (by simp) ?_
      refine AllReadyH.cons rfl (fun K hK => ?_) AllReadyH.nil
      refine step_app_sps rfl (.tmp 41) (.tmp 43) rfl Wd.heap.size v5 (0 + (l).length) ([] ++ spcs (l)) (by simp [Act.eval, Act.put]) HO6.out (some ⟨w5.heap.size, 0, none⟩) 1 [⟨sa, sb⟩] (by simp [Act.eval, Act.put]) (sps1_at (heap_alloc_new w5 _)) (fun h => by cases h) (by have := HLL.out; simp; omega) (HB5.out.alloc HB5.out.size (.cells #[.int .i64 (sa), .int .i64 (sb)] 37)).size ?_
      intro v6 w6 ho6 hg6 _
      have HP := Lib.hid (put_end HO6.out (HB5.out.alloc HB5.out.size (.cells #[.int .i64 (sa), .int .i64 (sb)] 37)) hg6 ho6)
      have HC9 := Lib.hid (grown_keep HO6.out hg6 HLC.out (old_box (.cells #[.int .i64 (sa), .int .i64 (sb)] 37) HC5.out))
      obtain ⟨A9, c9, rfl, -⟩ := own_slice ho6
      have HP := Lib.hid (put_len HP.out)
      clear ho6 hg6
      refine hK.out _ _ (sbox HC9.out) (fun hHn => ?_)
      clear hK K
      try simp only [List.getElem_toArray, List.getElem_cons_zero, List.getElem_cons_succ, Act.put, List.setIfInBounds_toArray, List.set_cons_zero, List.set_cons_succ]
      refine wpAnyH_take (i := 6) (v := ?_) rfl (by kernel_rfl) (by kernel_rfl) (by kernel_rfl) (fun _ _ _ h => h) (Or.inl ⟨by rfl, ?hyy⟩) (by assumption) ?_
      case hyy => (intro w hSw; (try dsimp only at hSw); go_simp; all_goals (with_reducible rfl))
      try simp only [List.getElem_toArray, List.getElem_cons_zero, List.getElem_cons_succ, Act.put, List.setIfInBounds_toArray, List.set_cons_zero, List.set_cons_succ]
      refine wpAnyH_done (by kernel_rfl) ?_ _
      go_wp2_with fail
      go_ret
      exact ⟨_, rfl, by rw [HE.out]; exact own_base HP.out.1 HWB2.out.size, HWB2.out.trans (HP.out.2.mono HWB2.out.size)⟩
    · go_simp
      refine hK.out _ _ (sbox (old_box (.cells #[.int .i64 (sa), .int .i64 (sb)] 37) (old_box (.cells #[] 37) HC.out))) (fun hHn => ?_)
      clear hK K
      try simp only [List.getElem_toArray, List.getElem_cons_zero, List.getElem_cons_succ, Act.put, List.setIfInBounds_toArray, List.set_cons_zero, List.set_cons_succ]
      refine wpAnyH_ready (rs := [2]) (by kernel_rfl) (by simp) ?_
      refine AllReadyH.cons rfl (fun K hK => ?_) AllReadyH.nil
      refine step_app_sps rfl (.tmp 39) (.tmp 40) rfl Wd.heap.size (.slice (some ⟨Wd.heap.size, 0, none⟩) 0 0) 0 [] (by simp [Act.eval, Act.put]) (own_at (old_box (.cells #[.int .i64 (sa), .int .i64 (sb)] 37) (heap_alloc_new Wd (.cells #[] 37))) (by simp; try omega)) A c l (by simp [Act.eval, Act.put]) ((HL.out.alloc _).alloc _) HN.out (by have := HLL.out; simp; try omega) (by simp; try omega) ?_
      intro v5 w5 ho5 hg5 _
      have HO5 := Lib.hid ho5
      have HG5 := Lib.hid hg5
      have HC5 := Lib.hid (grown_block HG5.out (by have := HLC.out; dsimp only; omega) (old_box (.cells #[.int .i64 (sa), .int .i64 (sb)] 37) (old_box (.cells #[] 37) HC.out)))
      clear ho5 hg5
      refine hK.out _ _ (sbox HC5.out) (fun hHn => ?_)
      clear hK K
      try simp only [List.getElem_toArray, List.getElem_cons_zero, List.getElem_cons_succ, Act.put, List.setIfInBounds_toArray, List.set_cons_zero, List.set_cons_succ]
      have HB5 := Lib.hid (below_own ((Below.alloc (Below.refl _ Wd) (Nat.le_refl _) (.cells #[] 37)).alloc (by simp) (.cells #[.int .i64 (sa), .int .i64 (sb)] 37)) HG5.out (by simp; omega) (fun b hb => by cases hb; exact Nat.le_refl _))
      have HY5 := Lib.hid (grown_block HG5.out (by have := HLC.out; dsimp only; omega) (show ((Wd.alloc (.cells #[] 37)).alloc (.cells #[.int .i64 (sa), .int .i64 (sb)] 37)).heap[Wd.heap.size + 1]? = some (.cells #[.int .i64 (sa), .int .i64 (sb)] 37) by simpa using heap_alloc_new (Wd.alloc (.cells #[] 37)) (.cells #[.int .i64 (sa), .int .i64 (sb)] 37)))
      have HO6 := HO5
      refine wpAnyH_ready (rs := [5]) (by kernel_rfl) (by simp) ?_
      refine AllReadyH.cons rfl (fun K hK => ?_) AllReadyH.nil
      refine step_app_sps rfl (.tmp 41) (.tmp 43) rfl Wd.heap.size v5 (0 + (l).length) ([] ++ spcs (l)) (by simp [Act.eval, Act.put]) HO6.out (some ⟨Wd.heap.size + 1, 0, none⟩) 1 [⟨sa, sb⟩] (by simp [Act.eval, Act.put]) (sps1_at HY5.out) (fun h => by cases h) (by have := HLL.out; simp; omega) (HB5.out).size ?_
      intro v6 w6 ho6 hg6 _
      have HP := Lib.hid (put_end HO6.out (HB5.out) hg6 ho6)
      have HC9 := Lib.hid (grown_keep HO6.out hg6 HLC.out HC5.out)
      obtain ⟨A9, c9, rfl, -⟩ := own_slice ho6
      have HP := Lib.hid (put_len HP.out)
      clear ho6 hg6
      refine hK.out _ _ (sbox HC9.out) (fun hHn => ?_)
      clear hK K
      try simp only [List.getElem_toArray, List.getElem_cons_zero, List.getElem_cons_succ, Act.put, List.setIfInBounds_toArray, List.set_cons_zero, List.set_cons_succ]
      refine wpAnyH_take (i := 6) (v := ?_) rfl (by kernel_rfl) (by kernel_rfl) (by kernel_rfl) (fun _ _ _ h => h) (Or.inl ⟨by rfl, ?hyy⟩) (by assumption) ?_
      case hyy => (intro w hSw; (try dsimp only at hSw); go_simp; all_goals (with_reducible rfl))
      try simp only [List.getElem_toArray, List.getElem_cons_zero, List.getElem_cons_succ, Act.put, List.setIfInBounds_toArray, List.set_cons_zero, List.set_cons_succ]
      refine wpAnyH_done (by kernel_rfl) ?_ _
      go_wp2_with fail
      go_ret
      exact ⟨_, rfl, by rw [HE.out]; exact own_base HP.out.1 HWB2.out.size, HWB2.out.trans (HP.out.2.mono HWB2.out.size)⟩
  · go_simp
    refine hK.out _ _ (sbox (old_box (.cells #[.int .i64 (sa), .int .i64 (sb)] 37) HC.out)) (fun hHn => ?_)
    clear hK K
    try simp only [List.getElem_toArray, List.getElem_cons_zero, List.getElem_cons_succ, Act.put, List.setIfInBounds_toArray, List.set_cons_zero, List.set_cons_succ]
    refine wpAnyH_ready (rs := [0]) (by kernel_rfl) (by simp) ?_
    refine AllReadyH.cons rfl (fun K hK => ?_) AllReadyH.nil
    go_simp
    refine hK.out _ _ (sbox (old_box (.cells #[] 37) (old_box (.cells #[.int .i64 (sa), .int .i64 (sb)] 37) HC.out))) (fun hHn => ?_)
    clear hK K
    try simp only [List.getElem_toArray, List.getElem_cons_zero, List.getElem_cons_succ, Act.put, List.setIfInBounds_toArray, List.set_cons_zero, List.set_cons_succ]
    refine wpAnyH_ready (rs := [2]) (by kernel_rfl) (by simp) ?_
    refine AllReadyH.cons rfl (fun K hK => ?_) AllReadyH.nil
    refine step_app_sps rfl (.tmp 39) (.tmp 40) rfl Wd.heap.size (.slice (some ⟨Wd.heap.size + 1, 0, none⟩) 0 0) 0 [] (by simp [Act.eval, Act.put]) (own_at (by simpa using heap_alloc_new (Wd.alloc (.cells #[.int .i64 (sa), .int .i64 (sb)] 37)) (.cells #[] 37)) (by simp; try omega)) A c l (by simp [Act.eval, Act.put]) ((HL.out.alloc _).alloc _) HN.out (by have := HLL.out; simp; try omega) (by simp; try omega) ?_
    intro v5 w5 ho5 hg5 _
    have HO5 := Lib.hid ho5
    have HG5 := Lib.hid hg5
    have HC5 := Lib.hid (grown_block HG5.out (by have := HLC.out; dsimp only; omega) (old_box (.cells #[] 37) (old_box (.cells #[.int .i64 (sa), .int .i64 (sb)] 37) HC.out)))
    clear ho5 hg5
    refine hK.out _ _ (sbox HC5.out) (fun hHn => ?_)
    clear hK K
    try simp only [List.getElem_toArray, List.getElem_cons_zero, List.getElem_cons_succ, Act.put, List.setIfInBounds_toArray, List.set_cons_zero, List.set_cons_succ]
    have HB5 := Lib.hid (below_own ((Below.alloc (Below.refl _ Wd) (Nat.le_refl _) (.cells #[.int .i64 (sa), .int .i64 (sb)] 37)).alloc (by simp) (.cells #[] 37)) HG5.out (by simp; omega) (fun b hb => by cases hb; exact Nat.le_succ _))
    have HY5 := Lib.hid (grown_block HG5.out (by have := HLC.out; dsimp only; omega) (old_box (.cells #[] 37) (heap_alloc_new Wd (.cells #[.int .i64 (sa), .int .i64 (sb)] 37))))
    have HO6 := HO5
    refine wpAnyH_ready (rs := [5]) (by kernel_rfl) (by simp) ?_
    refine AllReadyH.cons rfl (fun K hK => ?_) AllReadyH.nil
    refine step_app_sps rfl (.tmp 41) (.tmp 43) rfl Wd.heap.size v5 (0 + (l).length) ([] ++ spcs (l)) (by simp [Act.eval, Act.put]) HO6.out (some ⟨Wd.heap.size, 0, none⟩) 1 [⟨sa, sb⟩] (by simp [Act.eval, Act.put]) (sps1_at HY5.out) (fun h => by cases h) (by have := HLL.out; simp; omega) (HB5.out).size ?_
    intro v6 w6 ho6 hg6 _
    have HP := Lib.hid (put_end HO6.out (HB5.out) hg6 ho6)
    have HC9 := Lib.hid (grown_keep HO6.out hg6 HLC.out HC5.out)
    obtain ⟨A9, c9, rfl, -⟩ := own_slice ho6
    have HP := Lib.hid (put_len HP.out)
    clear ho6 hg6
    refine hK.out _ _ (sbox HC9.out) (fun hHn => ?_)
    clear hK K
    try simp only [List.getElem_toArray, List.getElem_cons_zero, List.getElem_cons_succ, Act.put, List.setIfInBounds_toArray, List.set_cons_zero, List.set_cons_succ]
    refine wpAnyH_take (i := 6) (v := ?_) rfl (by kernel_rfl) (by kernel_rfl) (by kernel_rfl) (fun _ _ _ h => h) (Or.inl ⟨by rfl, ?hyy⟩) (by assumption) ?_
    case hyy => (intro w hSw; (try dsimp only at hSw); go_simp; all_goals (with_reducible rfl))
    try simp only [List.getElem_toArray, List.getElem_cons_zero, List.getElem_cons_succ, Act.put, List.setIfInBounds_toArray, List.set_cons_zero, List.set_cons_succ]
    refine wpAnyH_done (by kernel_rfl) ?_ _
    go_wp2_with fail
    go_ret
    exact ⟨_, rfl, by rw [HE.out]; exact own_base HP.out.1 HWB2.out.size, HWB2.out.trans (HP.out.2.mono HWB2.out.size)⟩
set_option maxRecDepth 100000 in
set_option maxHeartbeats 1000000 in
theorem put_far (A : Option Addr) (c : Nat) (l : List Sp) (s : Sp) (w : World) (hl : l.length ≤ 100000) (hn : A = none → l.length = 0 ∧ c = 0) (h : SpsAt w A l) (hb : ∀ x ∈ l, -1000000 ≤ x.hi ∧ x.hi ≤ 1000000) (h0 : 0 < l.length) (hf : (gs l ((l.length - 1 : Nat) : Int)).hi + 1 ≠ s.lo) :
    Calls Tryd.prog 79 #[.slice A l.length c, spv s] w fun e w' => ∃ v, e = .returned v ∧ w'.ownsRow w.heap.size 37 2 v (putL l s).length (spcs (putL l s)) ∧ Below w.heap.size w w' := by
  have HE := Lib.hid (show putL l s = l ++ [s] by unfold putL; rw [if_neg (fun h => hf h.2)])
  have HLL := Lib.hid hl
  have HN := Lib.hid hn
  have HLW := Lib.hid h
  have hbd := hb _ (gs_mem (l := l) (i := l.length - 1) (by omega))
  obtain ⟨b, o, rfl, r0, r1⟩ := h.nat (l.length - 1) (by omega)
  obtain ⟨k, hk⟩ : ∃ k, l.length = k + 1 := ⟨l.length - 1, by omega⟩
  rw [hk, show k + 1 - 1 = k from rfl] at r0 r1 hbd hf
  have HK := Lib.hid hk
  generalize gs l (k : Int) = last at *
  obtain ⟨la, lb⟩ := last
  obtain ⟨sa, sb⟩ := s
  unfold spv
  simp only at *
  have t0 : decide (0 < k + 1) = true := decide_eq_true (by omega)
  have tq : (lb + 1 == sa) = false := by simpa using hf
  have lr := World.block_lt_of_cell? _ _ r0
  have hkb : k ≤ 100000 := by omega
  have ew : IntKind.i64.wrap (k : Int) = k := by rw [IntKind.wrap_i64]; omega
  have ew2 : IntKind.i64.wrap (lb + 1) = lb + 1 := by rw [IntKind.wrap_i64]; omega
  have i1 : (0 : Int) ≤ (k : Int) := by omega
  have i2 : (k : Int) < ((k + 1 : Nat) : Int) := by omega
  have i3 : (k : Int) < (k : Int) + 1 := by omega
  clear h hb hl hn h0 hf
  obtain ⟨n, hnn⟩ : ∃ n, l.length = n := ⟨_, rfl⟩
  rw [hnn] at hk ⊢
  subst hk
  have HNN := Lib.hid hnn
  clear hnn
  go_enter Tryd.func79, Tryd.ntmps79
  go_upto_region 2 with fail
  go_quiet (fail)
  go_upto_region 4 with fail
  obtain ⟨W, hWe⟩ : ∃ W, W = (w.alloc (Obj.cells #[.int .i64 sa, .int .i64 sb] 37)).drewN nq := ⟨_, rfl⟩
  have HWB := Lib.hid (show Below w.heap.size w W by rw [hWe]; exact below_dN bel _)
  have HC0 := Lib.hid (show W.heap[w.heap.size]? = some (.cells #[.int .i64 sa, .int .i64 sb] 37 (0, 0)) by rw [hWe]; exact heap_alloc_new w _)
  rw [← hWe]
  clear hWe
  obtain ⟨Wd, hWd⟩ : ∃ Wd, Wd = W.drew := ⟨_, rfl⟩
  have HC := Lib.hid (show Wd.heap[w.heap.size]? = some (.cells #[.int .i64 sa, .int .i64 sb] 37 (0, 0)) by rw [hWd]; exact HC0.out)
  have HWB2 := Lib.hid (show Below w.heap.size w Wd by rw [hWd]; exact HWB.out.drew)
  have HL := Lib.hid (HLW.out.below HWB2.out)
  have HLC := Lib.hid (Array.getElem?_eq_some_iff.1 HC.out).1
  refine wp_region_held_drew (S := fun w' => w'.cell? ⟨w.heap.size, 0, none⟩ = some (.int .i64 sa) ∧ w'.cell? ⟨w.heap.size, 1, none⟩ = some (.int .i64 sb)) (by kernel_rfl) (sbox HC0.out) (fun hHeld => ?_)
  rw [← hWd] at hHeld ⊢
  clear hWd HC0 HWB
  refine wpAnyH_take (i := 1) (v := ?_) rfl (by kernel_rfl) (by kernel_rfl) (by kernel_rfl) (fun _ _ _ h => h) (Or.inl ⟨by rfl, ?hyy⟩) (by assumption) ?_
  case hyy => (intro w hSw; (try dsimp only at hSw); go_simp; all_goals (with_reducible rfl))
  try simp only [List.getElem_toArray, List.getElem_cons_zero, List.getElem_cons_succ, Act.put, List.setIfInBounds_toArray, List.set_cons_zero, List.set_cons_succ]
  refine wpAnyH_take (i := 3) (v := ?_) rfl (by kernel_rfl) (by kernel_rfl) (by kernel_rfl) (fun _ _ _ h => h) (Or.inl ⟨by rfl, ?hyy⟩) (by assumption) ?_
  case hyy => (intro w hSw; (try dsimp only at hSw); go_simp; all_goals (with_reducible rfl))
  try simp only [List.getElem_toArray, List.getElem_cons_zero, List.getElem_cons_succ, Act.put, List.setIfInBounds_toArray, List.set_cons_zero, List.set_cons_succ]
  refine wpAnyH_ready (rs := [0, 4]) (by kernel_rfl) (by simp) ?_
  refine AllReadyH.cons rfl (fun K hK => ?_) (AllReadyH.cons rfl (fun K hK => ?_) AllReadyH.nil)
  · go_simp
    refine hK.out _ _ (sbox (old_box (.cells #[] 37) HC.out)) (fun hHn => ?_)
    clear hK K
    try simp only [List.getElem_toArray, List.getElem_cons_zero, List.getElem_cons_succ, Act.put, List.setIfInBounds_toArray, List.set_cons_zero, List.set_cons_succ]
    refine wpAnyH_ready (rs := [2, 4]) (by kernel_rfl) (by simp) ?_
    refine AllReadyH.cons rfl (fun K hK => ?_) (AllReadyH.cons rfl (fun K hK => ?_) AllReadyH.nil)
    · refine step_app_sps rfl (.tmp 39) (.tmp 40) rfl Wd.heap.size (.slice (some ⟨Wd.heap.size, 0, none⟩) 0 0) 0 [] (by simp [Act.eval, Act.put]) (own_at (heap_alloc_new Wd _) (by simp; try omega)) (some ⟨b, o, none⟩) c l (by simp [Act.eval, Act.put, HNN.out]) (HL.out.alloc _) HN.out (by have := HLL.out; simp; try omega) (by simp; try omega) ?_
      intro v5 w5 ho5 hg5 _
      have HO5 := Lib.hid ho5
      have HG5 := Lib.hid hg5
      have HC5 := Lib.hid (grown_block HG5.out (by have := HLC.out; dsimp only; omega) (old_box (.cells #[] 37) HC.out))
      clear ho5 hg5
      refine hK.out _ _ (sbox HC5.out) (fun hHn => ?_)
      clear hK K
      try simp only [List.getElem_toArray, List.getElem_cons_zero, List.getElem_cons_succ, Act.put, List.setIfInBounds_toArray, List.set_cons_zero, List.set_cons_succ]
      have HB5 := Lib.hid (below_own (Below.alloc (Below.refl _ Wd) (Nat.le_refl _) (.cells #[] 37)) HG5.out (by simp) (fun b hb => by cases hb; exact Nat.le_refl _))
      refine wpAnyH_ready (rs := [4]) (by kernel_rfl) (by simp) ?_
      refine AllReadyH.cons rfl (fun K hK => ?_) AllReadyH.nil
      go_simp
      refine hK.out _ _ (sbox (old_box (.cells #[.int .i64 (sa), .int .i64 (sb)] 37) HC5.out)) (fun hHn => ?_)
      clear hK K
      try simp only [List.getElem_toArray, List.getElem_cons_zero, List.getElem_cons_succ, Act.put, List.setIfInBounds_toArray, List.set_cons_zero, List.set_cons_succ]
      have HO6 := Lib.hid (HO5.out.alloc (.cells #[.int .i64 (sa), .int .i64 (sb)] 37))
      refine wpAnyH_ready (rs := [5]) (by kernel_rfl) (by simp) ?_
      refine AllReadyH.cons rfl (fun K hK => ?_) AllReadyH.nil
      refine step_app_sps rfl (.tmp 41) (.tmp 43) rfl Wd.heap.size v5 (0 + (l).length) ([] ++ spcs (l)) (by simp [Act.eval, Act.put]) HO6.out (some ⟨w5.heap.size, 0, none⟩) 1 [⟨sa, sb⟩] (by simp [Act.eval, Act.put]) (sps1_at (heap_alloc_new w5 _)) (fun h => by cases h) (by have := HLL.out; simp; omega) (HB5.out.alloc HB5.out.size (.cells #[.int .i64 (sa), .int .i64 (sb)] 37)).size ?_
      intro v6 w6 ho6 hg6 _
      have HP := Lib.hid (put_end HO6.out (HB5.out.alloc HB5.out.size (.cells #[.int .i64 (sa), .int .i64 (sb)] 37)) hg6 ho6)
      have HC9 := Lib.hid (grown_keep HO6.out hg6 HLC.out (old_box (.cells #[.int .i64 (sa), .int .i64 (sb)] 37) HC5.out))
      obtain ⟨A9, c9, rfl, -⟩ := own_slice ho6
      have HP := Lib.hid (put_len HP.out)
      clear ho6 hg6
      refine hK.out _ _ (sbox HC9.out) (fun hHn => ?_)
      clear hK K
      try simp only [List.getElem_toArray, List.getElem_cons_zero, List.getElem_cons_succ, Act.put, List.setIfInBounds_toArray, List.set_cons_zero, List.set_cons_succ]
      refine wpAnyH_take (i := 6) (v := ?_) rfl (by kernel_rfl) (by kernel_rfl) (by kernel_rfl) (fun _ _ _ h => h) (Or.inl ⟨by rfl, ?hyy⟩) (by assumption) ?_
      case hyy => (intro w hSw; (try dsimp only at hSw); go_simp; all_goals (with_reducible rfl))
      try simp only [List.getElem_toArray, List.getElem_cons_zero, List.getElem_cons_succ, Act.put, List.setIfInBounds_toArray, List.set_cons_zero, List.set_cons_succ]
      refine wpAnyH_done (by kernel_rfl) ?_ _
      go_wp2_with fail
      go_ret
      exact ⟨_, rfl, by rw [HE.out]; exact own_base HP.out.1 HWB2.out.size, HWB2.out.trans (HP.out.2.mono HWB2.out.size)⟩
    · go_simp
      refine hK.out _ _ (sbox (old_box (.cells #[.int .i64 (sa), .int .i64 (sb)] 37) (old_box (.cells #[] 37) HC.out))) (fun hHn => ?_)
      clear hK K
      try simp only [List.getElem_toArray, List.getElem_cons_zero, List.getElem_cons_succ, Act.put, List.setIfInBounds_toArray, List.set_cons_zero, List.set_cons_succ]
      refine wpAnyH_ready (rs := [2]) (by kernel_rfl) (by simp) ?_
      refine AllReadyH.cons rfl (fun K hK => ?_) AllReadyH.nil
      refine step_app_sps rfl (.tmp 39) (.tmp 40) rfl Wd.heap.size (.slice (some ⟨Wd.heap.size, 0, none⟩) 0 0) 0 [] (by simp [Act.eval, Act.put]) (own_at (old_box (.cells #[.int .i64 (sa), .int .i64 (sb)] 37) (heap_alloc_new Wd (.cells #[] 37))) (by simp; try omega)) (some ⟨b, o, none⟩) c l (by simp [Act.eval, Act.put, HNN.out]) ((HL.out.alloc _).alloc _) HN.out (by have := HLL.out; simp; try omega) (by simp; try omega) ?_
      intro v5 w5 ho5 hg5 _
      have HO5 := Lib.hid ho5
      have HG5 := Lib.hid hg5
      have HC5 := Lib.hid (grown_block HG5.out (by have := HLC.out; dsimp only; omega) (old_box (.cells #[.int .i64 (sa), .int .i64 (sb)] 37) (old_box (.cells #[] 37) HC.out)))
      clear ho5 hg5
      refine hK.out _ _ (sbox HC5.out) (fun hHn => ?_)
      clear hK K
      try simp only [List.getElem_toArray, List.getElem_cons_zero, List.getElem_cons_succ, Act.put, List.setIfInBounds_toArray, List.set_cons_zero, List.set_cons_succ]
      have HB5 := Lib.hid (below_own ((Below.alloc (Below.refl _ Wd) (Nat.le_refl _) (.cells #[] 37)).alloc (by simp) (.cells #[.int .i64 (sa), .int .i64 (sb)] 37)) HG5.out (by simp; omega) (fun b hb => by cases hb; exact Nat.le_refl _))
      have HY5 := Lib.hid (grown_block HG5.out (by have := HLC.out; dsimp only; omega) (show ((Wd.alloc (.cells #[] 37)).alloc (.cells #[.int .i64 (sa), .int .i64 (sb)] 37)).heap[Wd.heap.size + 1]? = some (.cells #[.int .i64 (sa), .int .i64 (sb)] 37) by simpa using heap_alloc_new (Wd.alloc (.cells #[] 37)) (.cells #[.int .i64 (sa), .int .i64 (sb)] 37)))
      have HO6 := HO5
      refine wpAnyH_ready (rs := [5]) (by kernel_rfl) (by simp) ?_
      refine AllReadyH.cons rfl (fun K hK => ?_) AllReadyH.nil
      refine step_app_sps rfl (.tmp 41) (.tmp 43) rfl Wd.heap.size v5 (0 + (l).length) ([] ++ spcs (l)) (by simp [Act.eval, Act.put]) HO6.out (some ⟨Wd.heap.size + 1, 0, none⟩) 1 [⟨sa, sb⟩] (by simp [Act.eval, Act.put]) (sps1_at HY5.out) (fun h => by cases h) (by have := HLL.out; simp; omega) (HB5.out).size ?_
      intro v6 w6 ho6 hg6 _
      have HP := Lib.hid (put_end HO6.out (HB5.out) hg6 ho6)
      have HC9 := Lib.hid (grown_keep HO6.out hg6 HLC.out HC5.out)
      obtain ⟨A9, c9, rfl, -⟩ := own_slice ho6
      have HP := Lib.hid (put_len HP.out)
      clear ho6 hg6
      refine hK.out _ _ (sbox HC9.out) (fun hHn => ?_)
      clear hK K
      try simp only [List.getElem_toArray, List.getElem_cons_zero, List.getElem_cons_succ, Act.put, List.setIfInBounds_toArray, List.set_cons_zero, List.set_cons_succ]
      refine wpAnyH_take (i := 6) (v := ?_) rfl (by kernel_rfl) (by kernel_rfl) (by kernel_rfl) (fun _ _ _ h => h) (Or.inl ⟨by rfl, ?hyy⟩) (by assumption) ?_
      case hyy => (intro w hSw; (try dsimp only at hSw); go_simp; all_goals (with_reducible rfl))
      try simp only [List.getElem_toArray, List.getElem_cons_zero, List.getElem_cons_succ, Act.put, List.setIfInBounds_toArray, List.set_cons_zero, List.set_cons_succ]
      refine wpAnyH_done (by kernel_rfl) ?_ _
      go_wp2_with fail
      go_ret
      exact ⟨_, rfl, by rw [HE.out]; exact own_base HP.out.1 HWB2.out.size, HWB2.out.trans (HP.out.2.mono HWB2.out.size)⟩
  · go_simp
    refine hK.out _ _ (sbox (old_box (.cells #[.int .i64 (sa), .int .i64 (sb)] 37) HC.out)) (fun hHn => ?_)
    clear hK K
    try simp only [List.getElem_toArray, List.getElem_cons_zero, List.getElem_cons_succ, Act.put, List.setIfInBounds_toArray, List.set_cons_zero, List.set_cons_succ]
    refine wpAnyH_ready (rs := [0]) (by kernel_rfl) (by simp) ?_
    refine AllReadyH.cons rfl (fun K hK => ?_) AllReadyH.nil
    go_simp
    refine hK.out _ _ (sbox (old_box (.cells #[] 37) (old_box (.cells #[.int .i64 (sa), .int .i64 (sb)] 37) HC.out))) (fun hHn => ?_)
    clear hK K
    try simp only [List.getElem_toArray, List.getElem_cons_zero, List.getElem_cons_succ, Act.put, List.setIfInBounds_toArray, List.set_cons_zero, List.set_cons_succ]
    refine wpAnyH_ready (rs := [2]) (by kernel_rfl) (by simp) ?_
    refine AllReadyH.cons rfl (fun K hK => ?_) AllReadyH.nil
    refine step_app_sps rfl (.tmp 39) (.tmp 40) rfl Wd.heap.size (.slice (some ⟨Wd.heap.size + 1, 0, none⟩) 0 0) 0 [] (by simp [Act.eval, Act.put]) (own_at (by simpa using heap_alloc_new (Wd.alloc (.cells #[.int .i64 (sa), .int .i64 (sb)] 37)) (.cells #[] 37)) (by simp; try omega)) (some ⟨b, o, none⟩) c l (by simp [Act.eval, Act.put, HNN.out]) ((HL.out.alloc _).alloc _) HN.out (by have := HLL.out; simp; try omega) (by simp; try omega) ?_
    intro v5 w5 ho5 hg5 _
    have HO5 := Lib.hid ho5
    have HG5 := Lib.hid hg5
    have HC5 := Lib.hid (grown_block HG5.out (by have := HLC.out; dsimp only; omega) (old_box (.cells #[] 37) (old_box (.cells #[.int .i64 (sa), .int .i64 (sb)] 37) HC.out)))
    clear ho5 hg5
    refine hK.out _ _ (sbox HC5.out) (fun hHn => ?_)
    clear hK K
    try simp only [List.getElem_toArray, List.getElem_cons_zero, List.getElem_cons_succ, Act.put, List.setIfInBounds_toArray, List.set_cons_zero, List.set_cons_succ]
    have HB5 := Lib.hid (below_own ((Below.alloc (Below.refl _ Wd) (Nat.le_refl _) (.cells #[.int .i64 (sa), .int .i64 (sb)] 37)).alloc (by simp) (.cells #[] 37)) HG5.out (by simp; omega) (fun b hb => by cases hb; exact Nat.le_succ _))
    have HY5 := Lib.hid (grown_block HG5.out (by have := HLC.out; dsimp only; omega) (old_box (.cells #[] 37) (heap_alloc_new Wd (.cells #[.int .i64 (sa), .int .i64 (sb)] 37))))
    have HO6 := HO5
    refine wpAnyH_ready (rs := [5]) (by kernel_rfl) (by simp) ?_
    refine AllReadyH.cons rfl (fun K hK => ?_) AllReadyH.nil
    refine step_app_sps rfl (.tmp 41) (.tmp 43) rfl Wd.heap.size v5 (0 + (l).length) ([] ++ spcs (l)) (by simp [Act.eval, Act.put]) HO6.out (some ⟨Wd.heap.size, 0, none⟩) 1 [⟨sa, sb⟩] (by simp [Act.eval, Act.put]) (sps1_at HY5.out) (fun h => by cases h) (by have := HLL.out; simp; omega) (HB5.out).size ?_
    intro v6 w6 ho6 hg6 _
    have HP := Lib.hid (put_end HO6.out (HB5.out) hg6 ho6)
    have HC9 := Lib.hid (grown_keep HO6.out hg6 HLC.out HC5.out)
    obtain ⟨A9, c9, rfl, -⟩ := own_slice ho6
    have HP := Lib.hid (put_len HP.out)
    clear ho6 hg6
    refine hK.out _ _ (sbox HC9.out) (fun hHn => ?_)
    clear hK K
    try simp only [List.getElem_toArray, List.getElem_cons_zero, List.getElem_cons_succ, Act.put, List.setIfInBounds_toArray, List.set_cons_zero, List.set_cons_succ]
    refine wpAnyH_take (i := 6) (v := ?_) rfl (by kernel_rfl) (by kernel_rfl) (by kernel_rfl) (fun _ _ _ h => h) (Or.inl ⟨by rfl, ?hyy⟩) (by assumption) ?_
    case hyy => (intro w hSw; (try dsimp only at hSw); go_simp; all_goals (with_reducible rfl))
    try simp only [List.getElem_toArray, List.getElem_cons_zero, List.getElem_cons_succ, Act.put, List.setIfInBounds_toArray, List.set_cons_zero, List.set_cons_succ]
    refine wpAnyH_done (by kernel_rfl) ?_ _
    go_wp2_with fail
    go_ret
    exact ⟨_, rfl, by rw [HE.out]; exact own_base HP.out.1 HWB2.out.size, HWB2.out.trans (HP.out.2.mono HWB2.out.size)⟩
end Go.Proofs.YteoembjghmgbhaaDoor
