/- The flow walks: the reference's With. -/
import Derived.Test.YtmhiiomejopaoaaV4
namespace Go.Proofs.Ytmhiiomejopaoaa
set_option linter.all false
open Go.RowKit

/-- A row of links is appended, at a step of a region that draws its order. -/
theorem step_app_lks {ops : Array Oper} {o : Oper} {a : Act} {K : Act → World → Prop} {Q : Exit → Act → World → Prop} {E : Prop} {w : World} (hgd : o.guard = none) (s x : Operand)
    (ho : o.op = .call { callee := .builtin .append, args := #[s, x], argTypes := #[22, 22] }) (base : Nat) (v : Value) (n : Nat) (xs : List Value) (hs : a.eval s = v) (hown : w.ownsRow base 39 3 v n xs)
    (B : Option Addr) (c : Nat) (lm : List Lk) (hx : a.eval x = .slice B lm.length c) (hrow : LksAt w B lm) (hnil : B = none → lm.length = 0 ∧ c = 0) (hb : n + lm.length ≤ 1000000) (hbase : base ≤ w.heap.size)
    (h : ∀ v' w', w'.ownsRow base 39 3 v' (n + lm.length) (xs ++ lkcs lm) → w.grownBy w' v.ownBlock → (v'.ownBlock = v.ownBlock ∨ v'.ownBlock = some w.heap.size) → K (a.put o.dst v') w') :
    if Region.wanted o (yielded ops a.tmps) = true then Oper.wp Try.prog o a w K Q else E := by
  have hw : Region.wanted o (yielded ops a.tmps) = true := by simp [Region.wanted, hgd]
  rw [if_pos hw]
  obtain ⟨i0, hi, hzz⟩ := Option.map_eq_some_iff.1 info39
  simp only [Prod.mk.injEq] at hzz
  obtain ⟨hz0, hz1, hz2⟩ := hzz
  cases B with
  | none =>
    obtain ⟨e1, rfl⟩ := hnil rfl
    have el : lm = [] := List.eq_nil_of_length_eq_zero e1
    subst el
    have hr := run_append_owned_none (P := Try.prog) w base 22 o.type 39 i0 3 Try.underlying22 hi v n xs hown
    unfold Oper.wp execOp
    simp only [ho, resolve, invoke, builtin, Sem.run_bind, Sem.run_pure, Result.andThen_ok, List.map_toArray, List.map_cons, List.map_nil, hs, hx, List.length_nil, hr]
    exact h v w (by simpa [lkcs] using hown) ⟨rfl, rfl, rfl, Nat.le_refl _, fun _ _ _ => rfl⟩ (.inl rfl)
  | some ad =>
    obtain ⟨v', w', hr, h2, h3, _, h5⟩ := run_append_own_at (P := Try.prog) w base 22 o.type 39 i0 (.agg #[.int .i64 0, .int .i64 0, .int .i64 0]) 3 24 Try.underlying22 hi hz0 hz1 hz2 rfl (by omega) v n xs hown ad lm.length c (lkcs lm) (lkcs_length lm) (hrow.cells ad rfl) (lkcs_one lm) (by unfold maxLen; omega) (by omega) hbase
    unfold Oper.wp execOp
    simp only [ho, resolve, invoke, builtin, Sem.run_bind, Sem.run_pure, Result.andThen_ok, List.map_toArray, List.map_cons, List.map_nil, hs, hx, hr]
    exact h v' w' h2 h3 h5
theorem grown_undrew {w w' : World} {r : Option Nat} (h : w.drew.grownBy w' r) : w.grownBy w' r := World.grownBy.trans (grown_drew (grown_refl w r)) h
theorem both_rows {w : World} {base : Nat} {v : Value} {l m : List Lk} (h : w.ownsRow base 39 3 v (0 + l.length + m.length) (([] ++ lkcs l) ++ lkcs m)) : w.ownsRow base 39 3 v (l ++ m).length (lkcs (l ++ m)) := by
  rw [List.length_append]
  simpa [lkcs] using h
structure BW (w wr : World) (n : Int) (A : Option Addr) (m c : Nat) : Prop where
  b0 : wr.heap[w.heap.size]? = some (.cells #[.int .i64 n, .slice A m c] 24)
  b1 : wr.heap[w.heap.size + 1]? = some (.cells #[.int .i64 0, .slice none 0 0] 24)
  below : Below w.heap.size w wr
  hB : w.heap.size + 2 ≤ wr.heap.size
theorem BW.start (w : World) (n : Int) (A : Option Addr) (m c : Nat) : BW w ((w.alloc (.cells #[.int .i64 n, .slice A m c] 24)).alloc (.cells #[.int .i64 0, .slice none 0 0] 24)) n A m c := by
  refine ⟨?_, ?_, bel, by simp⟩
  · rw [Below.heap_alloc _ _ _ (by simp)]; exact heap_alloc_new _ _
  · have := heap_alloc_new (w.alloc (.cells #[.int .i64 n, .slice A m c] 24)) (.cells #[.int .i64 0, .slice none 0 0] 24)
    simpa using this
theorem BW.alloc {w wr : World} {n : Int} {A : Option Addr} {m c : Nat} (h : BW w wr n A m c) (o : Obj) : BW w (wr.alloc o) n A m c := by
  have h1 := h.hB
  exact ⟨by rw [Below.heap_alloc _ _ _ (by omega)]; exact h.b0, by rw [Below.heap_alloc _ _ _ (by omega)]; exact h.b1, h.below.alloc (by omega) _, by simp; omega⟩
theorem BW.drew {w wr : World} {n : Int} {A : Option Addr} {m c : Nat} (h : BW w wr n A m c) : BW w wr.drew n A m c := ⟨h.b0, h.b1, below_drews h.below 1, h.hB⟩
theorem BW.grow {w wr w' : World} {n : Int} {A : Option Addr} {m c : Nat} {r : Option Nat} (h : BW w wr n A m c) (hg : wr.grownBy w' r) (hr : ∀ k, r = some k → w.heap.size + 2 ≤ k) : BW w w' n A m c := by
  have h1 := h.hB
  exact ⟨grown_heap hg h.b0 (by omega) (fun e => by have := hr _ e; omega), grown_heap hg h.b1 (by omega) (fun e => by have := hr _ e; omega), h.below.grown hg (by omega) (fun k e => by have := hr k e; omega), Nat.le_trans h1 hg.size⟩
theorem BW.q0 {w wr : World} {n : Int} {A : Option Addr} {m c : Nat} (h : BW w wr n A m c) : wr.cell? ⟨w.heap.size, 0, none⟩ = some (.int .i64 n) := by have := cell_of_heap h.b0 0; simpa using this
theorem BW.q1 {w wr : World} {n : Int} {A : Option Addr} {m c : Nat} (h : BW w wr n A m c) : wr.cell? ⟨w.heap.size, 1, none⟩ = some (.slice A m c) := by have := cell_of_heap h.b0 1; simpa using this
theorem BW.z0 {w wr : World} {n : Int} {A : Option Addr} {m c : Nat} (h : BW w wr n A m c) : wr.cell? ⟨w.heap.size + 1, 0, none⟩ = some (.int .i64 0) := by have := cell_of_heap h.b1 0; simpa using this
theorem BW.z1 {w wr : World} {n : Int} {A : Option Addr} {m c : Nat} (h : BW w wr n A m c) : wr.cell? ⟨w.heap.size + 1, 1, none⟩ = some (.slice none 0 0) := by have := cell_of_heap h.b1 1; simpa using this
set_option maxRecDepth 100000 in
set_option maxHeartbeats 4000000 in
theorem rwith_own (n : Int) (A : Option Addr) (c : Nat) (l : List Lk) (B : Option Addr) (d : Nat) (m : List Lk) (w : World) (hl : l.length + m.length ≤ 1000000) (hn1 : A = none → l.length = 0 ∧ c = 0) (hn2 : B = none → m.length = 0 ∧ d = 0) (h : LksAt w A l) (h' : LksAt w B m) :
    Calls Try.prog 55 #[.agg #[.int .i64 n, .slice A l.length c], .slice B m.length d] w fun e w' => ∃ v, e = .returned (.agg #[.int .i64 n, v]) ∧ ∃ bs, w.heap.size + 2 ≤ bs ∧ bs ≤ w'.heap.size ∧ w'.ownsRow bs 39 3 v (l ++ m).length (lkcs (l ++ m)) ∧ Below w.heap.size w w' := by
  have HA := Lib.hid h
  have HM := Lib.hid h'
  have HN1 := Lib.hid hn1
  have HN2 := Lib.hid hn2
  have HLL := Lib.hid hl
  have HX := Lib.hid (BW.start w n A l.length c)
  clear h h' hn1 hn2 hl
  go_enter Try.func55, Try.ntmps55
  go_upto_region 1 with fail
  obtain ⟨W, hW⟩ : ∃ W, W = (w.alloc (.cells #[.int .i64 n, .slice A l.length c] 24)).alloc (.cells #[.int .i64 0, .slice none 0 0] 24) := ⟨_, rfl⟩
  rw [← hW] at HX ⊢
  clear hW
  have q0 := cell_of_heap HX.out.b0 0
  have q1 := cell_of_heap HX.out.b0 1
  have z0 := cell_of_heap HX.out.b1 0
  have z1 := cell_of_heap HX.out.b1 1
  have zf := frozen_of_heap HX.out.b1 0
  have zg := frozen_of_heap HX.out.b1 1
  simp at q0 q1 z0 z1
  have lq := World.block_lt_of_cell? _ _ q0
  have lz := World.block_lt_of_cell? _ _ z0
  have HA1 := Lib.hid (HA.out.below HX.out.below)
  have HM1 := Lib.hid (HM.out.below HX.out.below)
  go_region_held3 (fun w' => w'.cell? ⟨w.heap.size, 0, none⟩ = some (.int .i64 n) ∧ w'.cell? ⟨w.heap.size, 1, none⟩ = some (.slice A l.length c)) (constructor <;> (repeat' (first | exact q0 | exact q1 | refine cell_alloc _ ?_ | (refine cell_other ?_ (by first | (simp; done) | (simp; omega)))))) (first
    | (refine step_app_lks rfl (.tmp 7) (.tmp 9) rfl W.heap.size (.slice (some ⟨W.heap.size, 0, none⟩) 0 0) 0 [] (by simp [Act.eval, Act.put]) ?ho A c l (by simp [Act.eval, Act.put]) ?hr HN1.out (by have := HLL.out; omega) ?hb ?_; (case ho => exact own_empty W 39 3); (case hr => exact HA1.out.alloc _); (case hb => simp); intro v5 w5 ho5 hg5' ha5; have hg5 := grown_undrew hg5'; have HX5 := Lib.hid ((HX.out.alloc (.cells #[] 39)).grow hg5 (fun k e => by have h1 := HX.out.hB; have h2 : W.heap.size = k := Option.some.inj e; omega)); have q0 := HX5.out.q0; have q1 := HX5.out.q1; have HM5 := Lib.hid ((HM1.out.alloc (.cells #[] 39)).grown hg5 (HM1.out.apart (Nat.le_refl _))); have HO5 := Lib.hid ho5; have HS5 := Lib.hid (show W.heap.size ≤ w5.heap.size from Nat.le_trans (by simp) hg5.size); clear ho5 hg5' hg5 ha5)
    | (refine step_app_lks rfl (.tmp 10) (.tmp 11) rfl W.heap.size v5 (0 + l.length) ([] ++ lkcs l) (by simp [Act.eval, Act.put]) ?ho B d m (by simp [Act.eval, Act.put]) ?hr HN2.out (by have := HLL.out; omega) ?hb ?_; (case ho => exact HO5.out); (case hr => exact HM5.out); (case hb => exact HS5.out); intro v6 w6 ho6 hg6 ha6; have HX6 := Lib.hid (HX5.out.grow hg6 (fun k e => by have h1 := HX.out.hB; have h2 := (HO5.out.lt k e).1; omega)); have q0 := HX6.out.q0; have q1 := HX6.out.q1; have z0 := HX6.out.z0; have z1 := HX6.out.z1; have zf := frozen_of_heap HX6.out.b1 0; have zg := frozen_of_heap HX6.out.b1 1; have lz := World.block_lt_of_cell? _ _ z0; have HS6 := Lib.hid (show W.heap.size ≤ w6.heap.size from Nat.le_trans HS5.out hg6.size); have HO6 := Lib.hid (both_rows ho6); obtain ⟨A6, c6, rfl, hv6, hvn6, hv36⟩ := own_lksV (both_rows ho6); have HV6 := Lib.hid hv6; have HN6 := Lib.hid hvn6; have HW6 := Lib.hid hv36; clear ho6 hg6 ha6 hv6 hvn6 hv36))
  all_goals
    have hs2 := set_two (v1 := .int .i64 n) (v2 := .slice A6 (l.length + m.length) c6) z0 z1
    obtain ⟨y0, y1, yg⟩ := hs2
    have HB6 := Lib.hid (below_of_grown HX6.out.below yg HX6.out.below.size (by omega))
    have HS7 := Lib.hid (Nat.le_trans HS6.out yg.size)
    have HO7 := Lib.hid (HO6.out.kept yg (.inr (fun e => by
      have h1 := (HO6.out.lt _ e).1
      have h2 := HX.out.hB
      omega)))
    clear yg z0 z1 zf zg
    go_wp2_with fail
    refine bodyPost_ret (v := .agg #[.int .i64 n, .slice A6 (l.length + m.length) c6]) ?_ rfl ?_
    · simp [results, Try.results55, go_sem, y0, y1]
    · have h9 := HO7.out
      rw [List.length_append] at h9
      exact ⟨.slice A6 (l.length + m.length) c6, rfl, W.heap.size, HX.out.hB, HS7.out, h9, HB6.out⟩
theorem rwith_any (n : Int) (A : Option Addr) (c : Nat) (l : List Lk) (B : Option Addr) (d : Nat) (m : List Lk) (w : World) (hl : l.length + m.length ≤ 1000000) (hn1 : A = none → l.length = 0 ∧ c = 0) (hn2 : B = none → m.length = 0 ∧ d = 0) (h : LksAt w A l) (h' : LksAt w B m) :
    Calls Try.prog 55 #[.agg #[.int .i64 n, .slice A l.length c], .slice B m.length d] w fun e w' => ∃ v, e = .returned (.agg #[.int .i64 n, v]) ∧ LksV w' v (l ++ m) ∧ Below w.heap.size w w' :=
  (rwith_own n A c l B d m w hl hn1 hn2 h h').mono fun e w' he => by
    obtain ⟨v, h1, bs, _, _, h3, h4⟩ := he
    obtain ⟨A6, c6, rfl, hv6, hvn6, _⟩ := own_lksV h3
    exact ⟨_, h1, ⟨A6, c6, rfl, hv6, hvn6⟩, h4⟩
end Go.Proofs.Ytmhiiomejopaoaa
